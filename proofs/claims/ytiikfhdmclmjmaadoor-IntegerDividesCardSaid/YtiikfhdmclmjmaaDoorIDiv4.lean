/- Part 4 of the proof of IntegerDivides: what the program's functions compute, told as plain functions, and what these answer. Conditions: none beside the statement's own. Gathered by the session's program merge.py out of its own and the printed texts; no declaration that the proof does not name is left in. -/
import Derived.Test.YtiikfhdmclmjmaaDoorIDiv3
set_option linter.unusedVariables false
set_option linter.unusedSimpArgs false
namespace Go.Proofs.YtiikfhdmclmjmaaDoor.P
open Go.RowKit Go.Proofs.YtiikfhdmclmjmaaDoorW.PrintWords Go.Proofs.YtiikfhdmclmjmaaDoorW.PrintLast
def integer_DivMod.j0 : Nat → Bool → Bool → List Int → Bool → List Int → Bool → List Int → Option (Bool × List Int × Bool × List Int × Int)
 | 0, _, _, _, _, _, _, _ => none
 | k + 1, x42, x323000, x323001, x324000, x324001, x325000, x325001 => if x42 = true then ((integer_From.f k 1).bind fun bt341 => ((integer_Sub.f k x324000 x324001 bt341.1 bt341.2).bind fun bt345 => ((integer_Add.f k x325000 x325001 x323000 x323001).bind fun bt349 => (some (bt345.1, bt345.2, bt349.1, bt349.2, 0))))) else (some (x324000, x324001, x325000, x325001, 0))
def integer_DivMod.f (k : Nat) (a0_0 : Bool) (l0_1 : List Int) (a1_0 : Bool) (l1_1 : List Int) : Option (Bool × List Int × Bool × List Int × Int) := (integer_Int_Sign.f a1_0 l1_1).bind fun t325 => (if t325 = 0 then (some (false, ([] : List Int), false, ([] : List Int), 19)) else ((integer_divide.f k l0_1 l1_1).bind fun bt326 => ((integer_signed.f k (a0_0 != a1_0) bt326.1).bind fun bt332 => ((integer_signed.f k a0_0 bt326.2).bind fun bt336 => ((integer_Int_Sign.f bt336.1 bt336.2).bind fun t340 => (if t340 = 0 then (integer_DivMod.j0 k false a1_0 l1_1 bt332.1 bt332.2 bt336.1 bt336.2) else (integer_DivMod.j0 k (bt336.1 != a1_0) a1_0 l1_1 bt332.1 bt332.2 bt336.1 bt336.2)))))))
theorem integer_DivMod.mono_l : ∀ k, (∀ y0 y1 y2 y3 y4 y5 y6, LeO (integer_DivMod.j0 k y0 y1 y2 y3 y4 y5 y6) (integer_DivMod.j0 (k + 1) y0 y1 y2 y3 y4 y5 y6))
 | 0 => fun _ _ _ _ _ _ _ r h => by simp [integer_DivMod.j0] at h
 | k + 1 => by
  have ih0 := integer_DivMod.mono_l k
  ·
   intro y0 y1 y2 y3 y4 y5 y6
   unfold integer_DivMod.j0
   repeat' first
   | (with_reducible exact ih0 _ _ _ _ _ _ _)
   | (with_reducible exact integer_Add.mono _ _ _ _ _)
   | (with_reducible exact integer_From.mono _ _)
   | (with_reducible exact integer_Sub.mono _ _ _ _ _)
   | (with_reducible exact integer_divide.mono _ _ _)
   | (with_reducible exact integer_signed.mono _ _ _)
   | (with_reducible exact LeO.refl _)
   | (with_reducible exact LeO.none _)
   | (with_reducible refine LeO.ite ?_ ?_)
   | (with_reducible refine LeO.bind ?_ (fun _ => ?_))
theorem integer_DivMod.mono : ∀ a0 a1 a2 a3 k, LeO (integer_DivMod.f k a0 a1 a2 a3) (integer_DivMod.f (k + 1) a0 a1 a2 a3) := by
 intro a0 a1 a2 a3 k
 have ih0 := integer_DivMod.mono_l k
 unfold integer_DivMod.f
 repeat' first
   | (with_reducible exact ih0 _ _ _ _ _ _ _)
   | (with_reducible exact integer_Add.mono _ _ _ _ _)
   | (with_reducible exact integer_From.mono _ _)
   | (with_reducible exact integer_Sub.mono _ _ _ _ _)
   | (with_reducible exact integer_divide.mono _ _ _)
   | (with_reducible exact integer_signed.mono _ _ _)
   | (with_reducible exact LeO.refl _)
   | (with_reducible exact LeO.none _)
   | (with_reducible refine LeO.ite ?_ ?_)
   | (with_reducible refine LeO.bind ?_ (fun _ => ?_))
def integer_DivMod.T4 : Bool × List (List Nat × List Nat) := (true, [([], []), ([0], [0]), ([], []), ([2], [2]), ([1, 3], [1, 3]), ([], []), ([4, 5], [4, 5]), ([], []), ([7], [7]), ([], []), ([8, 9, 6], [8, 9]), ([6, 10, 0, 1, 2, 3, 4, 5, 6], [6]), ([10, 11, 0, 1, 2, 3, 4, 5, 6, 7, 8, 9, 10, 11], [10])])
def integer_DivMod.B4 : List Nat := [0, 1, 0, 4, 15, 0, 63, 0, 128, 0, 1023, 2047, 4095]
theorem integer_DivMod.tab4 : rtab .any (opsOf Tryd.f27 4) = integer_DivMod.T4 := by kernel_rfl
theorem integer_DivMod.bits4 : waitsOk integer_DivMod.T4.2 integer_DivMod.B4 = true := by kernel_rfl
def integer_DivMod.T6 : Bool × List (List Nat × List Nat) := (true, [([], []), ([], []), ([0, 1, 1], [0, 1]), ([], []), ([], []), ([3, 4, 2], [3, 4]), ([2, 5, 0, 1, 2], [2]), ([5, 6, 0, 1, 2, 3, 4, 5, 6], [5])])
def integer_DivMod.B6 : List Nat := [0, 0, 3, 0, 0, 31, 63, 127]
theorem integer_DivMod.tab6 : rtab .any (opsOf Tryd.f27 6) = integer_DivMod.T6 := by kernel_rfl
theorem integer_DivMod.bits6 : waitsOk integer_DivMod.T6.2 integer_DivMod.B6 = true := by kernel_rfl
set_option maxHeartbeats 8000000 in
set_option maxRecDepth 100000 in
theorem integer_DivMod.calls (k : Nat) (a0_0 : Bool) (P0_1_ : Nat → Prop) (A0_1 : Option Addr) (c0_1 : Nat) (l0_1 : List Int) (a1_0 : Bool) (A1_1 : Option Addr) (c1_1 : Nat) (l1_1 : List Int) (r1 : Bool) (r2 : List Int) (r3 : Bool) (r4 : List Int) (r5 : Int) (w : World) (hs0_1 : Kd.V (Kd.int .u32) 60 w w.heap.size (fun k_ => P0_1_ k_) (.slice A0_1 l0_1.length c0_1) l0_1) (hr1_1 : Kd.C (Kd.int .u32) w A1_1 l1_1.length l1_1) (hc1_1 : l1_1.length ≤ c1_1) (h : integer_DivMod.f k a0_0 l0_1 a1_0 l1_1 = some (r1, r2, r3, r4, r5)) :
  Calls Tryd.prog 27 #[.agg #[.bool a0_0, .slice A0_1 l0_1.length c0_1], .agg #[.bool a1_0, .slice A1_1 l1_1.length c1_1]] w fun e w' => ∃ v1_ v3_ : Value, e = .returned (.tuple #[.agg #[.bool r1, v1_], .agg #[.bool r3, v3_], .int .i64 r5]) ∧ Kd.V (Kd.int .u32) 60 w' w.heap.size (fun k_ => (P0_1_ k_ ∨ w.heap.size ≤ k_)) v1_ r2 ∧ Kd.V (Kd.int .u32) 60 w' w.heap.size (fun k_ => (P0_1_ k_ ∨ w.heap.size ≤ k_)) v3_ r4 ∧ Below w.heap.size w w' := by
 have hu25 := Tryd.underlying25
 have HO0_1 := Aside0.mk (show Kd.V (Kd.int .u32) 60 w w.heap.size (fun k_ => (P0_1_ k_ ∨ w.heap.size ≤ k_)) (.slice A0_1 l0_1.length c0_1) l0_1 from Kd.V_mono hs0_1 (fun k_ hk => .inl hk))
 have HR1_1 := Aside0.mk hr1_1
 have HC1_1 := Aside0.mk hc1_1
 clear hr1_1 hc1_1
 have HB := Aside0.mk (Below.refl w.heap.size w)
 have H := h
 unfold integer_DivMod.f at H
 clear h
 replace H := Option.bind_eq_some_iff.mp H
 obtain ⟨t325, A30, H⟩ := H
 try dsimp only at H
 have A3 := Aside0.mk A30
 clear A30
 by_cases c4 : t325 = 0
 ·
  rw [if_pos c4] at H
  have c4b0 : (t325 == 0) = true := beq_iff_eq.mpr c4
  have c4b1 : (t325 != 0) = false := bne_eq_false_iff_eq.mpr c4
  clear c4
  simp only [Option.some.injEq, Prod.mk.injEq] at H
  obtain ⟨rfl, rfl, rfl, rfl, rfl⟩ := H
  go_enter Tryd.func27, Tryd.ntmps27
  go_wp2_with (first | ((with_reducible refine gate_dst (N := 2) rfl ?_); refine box_event ?hg (N := 2) ?hd (cs := #[.bool a0_0, .slice A0_1 l0_1.length c0_1]) (t := 25) ?hr ?_; (case hd => rfl); (case hg => rfl); (case hr => first | (go_simp; done) | (go_simp; rfl)); intro gb321 hg w5 hbox hb; replace HO0_1 := Aside0.mk (Kd.V_below (Kd.V_elderB (Kd.V_up HO0_1.out) gb321 (Nat.le_of_eq hg.symm)) hb); have BK321 := Aside0.mk (hbox); have GE321 := Aside0.mk ((size_up hg HB.out : w.heap.size ≤ gb321)); replace HB := Aside0.mk (below_step (below_up HB.out) hb); clear hb hbox hg) | ((with_reducible refine gate_dst (N := 3) rfl ?_); refine box_event ?hg (N := 3) ?hd (cs := #[.bool a1_0, .slice A1_1 l1_1.length c1_1]) (t := 25) ?hr ?_; (case hd => rfl); (case hg => rfl); (case hr => first | (go_simp; done) | (go_simp; rfl)); intro gb322 hg w6 hbox hb; replace HO0_1 := Aside0.mk (Kd.V_below (Kd.V_elderB (Kd.V_up HO0_1.out) gb322 (Nat.le_of_eq hg.symm)) hb); have BK322 := Aside0.mk (hbox); have GE322 := Aside0.mk ((by rw [hg]; exact (below_size (by repeat (first | (with_reducible first | exact HB.out | apply below_alloc | apply pw_below_drewN | apply below_drew1 | refine below_set ?_ GE321.out) | exact HB.out))) : w.heap.size ≤ gb322)); replace HB := Aside0.mk (below_step (by repeat (first | (with_reducible first | exact HB.out | apply below_alloc | apply pw_below_drewN | apply below_drew1 | refine below_set ?_ GE321.out) | exact HB.out)) hb); have NB321_322 := Aside0.mk ((blk_nw hg BK321.out : gb321 ≠ gb322)); have NB322_321 := Aside0.mk ((nw_blk hg BK321.out : gb322 ≠ gb321)); replace BK321 := Aside0.mk (blk_below (g := gb321) (o := .cells #[.bool a0_0, .slice A0_1 l0_1.length c0_1] 25 (0, 0)) (blk_up BK321.out) hb); clear hb hbox hg) | ((with_reducible refine gate_dst (N := 4) rfl ?_); refine box_event ?hg (N := 4) ?hd (cs := #[.bool false, .slice none 0 0]) (t := 25) ?hr ?_; (case hd => rfl); (case hg => rfl); (case hr => first | (go_simp; done) | (go_simp; rfl)); intro gb323 hg w7 hbox hb; replace HO0_1 := Aside0.mk (Kd.V_below (Kd.V_elderB (Kd.V_up HO0_1.out) gb323 (Nat.le_of_eq hg.symm)) hb); have BK323 := Aside0.mk (hbox); have GE323 := Aside0.mk ((by rw [hg]; exact (below_size (by repeat (first | (with_reducible first | exact HB.out | apply below_alloc | apply pw_below_drewN | apply below_drew1 | refine below_set ?_ GE321.out | refine below_set ?_ GE322.out) | exact HB.out))) : w.heap.size ≤ gb323)); replace HB := Aside0.mk (below_step (by repeat (first | (with_reducible first | exact HB.out | apply below_alloc | apply pw_below_drewN | apply below_drew1 | refine below_set ?_ GE321.out | refine below_set ?_ GE322.out) | exact HB.out)) hb); have NB321_323 := Aside0.mk ((blk_nw hg BK321.out : gb321 ≠ gb323)); have NB323_321 := Aside0.mk ((nw_blk hg BK321.out : gb323 ≠ gb321)); replace BK321 := Aside0.mk (blk_below (g := gb321) (o := .cells #[.bool a0_0, .slice A0_1 l0_1.length c0_1] 25 (0, 0)) (blk_up BK321.out) hb); have NB322_323 := Aside0.mk ((blk_nw hg BK322.out : gb322 ≠ gb323)); have NB323_322 := Aside0.mk ((nw_blk hg BK322.out : gb323 ≠ gb322)); replace BK322 := Aside0.mk (blk_below (g := gb322) (o := .cells #[.bool a1_0, .slice A1_1 l1_1.length c1_1] 25 (0, 0)) (blk_up BK322.out) hb); clear hb hbox hg) | ((with_reducible refine gate_dst (N := 5) rfl ?_); refine box_event ?hg (N := 5) ?hd (cs := #[.bool false, .slice none 0 0]) (t := 25) ?hr ?_; (case hd => rfl); (case hg => rfl); (case hr => first | (go_simp; done) | (go_simp; rfl)); intro gb324 hg w8 hbox hb; replace HO0_1 := Aside0.mk (Kd.V_below (Kd.V_elderB (Kd.V_up HO0_1.out) gb324 (Nat.le_of_eq hg.symm)) hb); have BK324 := Aside0.mk (hbox); have GE324 := Aside0.mk ((by rw [hg]; exact (below_size (by repeat (first | (with_reducible first | exact HB.out | apply below_alloc | apply pw_below_drewN | apply below_drew1 | refine below_set ?_ GE321.out | refine below_set ?_ GE322.out | refine below_set ?_ GE323.out) | exact HB.out))) : w.heap.size ≤ gb324)); replace HB := Aside0.mk (below_step (by repeat (first | (with_reducible first | exact HB.out | apply below_alloc | apply pw_below_drewN | apply below_drew1 | refine below_set ?_ GE321.out | refine below_set ?_ GE322.out | refine below_set ?_ GE323.out) | exact HB.out)) hb); have NB321_324 := Aside0.mk ((blk_nw hg BK321.out : gb321 ≠ gb324)); have NB324_321 := Aside0.mk ((nw_blk hg BK321.out : gb324 ≠ gb321)); replace BK321 := Aside0.mk (blk_below (g := gb321) (o := .cells #[.bool a0_0, .slice A0_1 l0_1.length c0_1] 25 (0, 0)) (blk_up BK321.out) hb); have NB322_324 := Aside0.mk ((blk_nw hg BK322.out : gb322 ≠ gb324)); have NB324_322 := Aside0.mk ((nw_blk hg BK322.out : gb324 ≠ gb322)); replace BK322 := Aside0.mk (blk_below (g := gb322) (o := .cells #[.bool a1_0, .slice A1_1 l1_1.length c1_1] 25 (0, 0)) (blk_up BK322.out) hb); have NB323_324 := Aside0.mk ((blk_nw hg BK323.out : gb323 ≠ gb324)); have NB324_323 := Aside0.mk ((nw_blk hg BK323.out : gb324 ≠ gb323)); replace BK323 := Aside0.mk (blk_below (g := gb323) (o := .cells #[.bool false, .slice none 0 0] 25 (0, 0)) (blk_up BK323.out) hb); clear hb hbox hg; have hnb9 := NB322_321.out; have hnc9 := NB321_322.out; have hnb10 := NB322_323.out; have hnc10 := NB323_322.out; have hnb11 := NB322_324.out; have hnc11 := NB324_322.out; have hcz12_0 : w8.cell? ⟨gb322, 0, none⟩ = some (.bool a1_0) := (blk_cell BK322.out 0).trans rfl; have hcz12_1 : w8.cell? ⟨gb322, 1, none⟩ = some (.slice A1_1 l1_1.length c1_1) := (blk_cell BK322.out 1).trans rfl; have hfz12_0 := blk_frozen BK322.out 0; have hfz12_1 := blk_frozen BK322.out 1) | ((with_reducible refine gate_callee (f := 19) rfl ?_); refine gl_ (some 10) Tryd.func19 #[.agg #[.bool a1_0, .slice A1_1 l1_1.length c1_1]] ?_; (with_reducible refine (integer_Int_Sign.calls a1_0 _ _ l1_1 t325 _ ?side1 ?side2 A3.out).mono ?_); (case side1 => repeat (first | exact (Kd.C_below HR1_1.out HB.out) | (with_reducible refine Kd.C_alloc ?_ _) | (with_reducible refine Kd.C_drewN ?_ _) | (with_reducible refine Kd.C_drew ?_))); (case side2 => exact HC1_1.out); rintro e w13 ⟨rfl, hb⟩; refine ⟨_, rfl, ?_⟩; replace HO0_1 := Aside0.mk (Kd.V_below (Kd.V_up HO0_1.out) hb); replace BK321 := Aside0.mk (blk_below (g := gb321) (o := .cells #[.bool a0_0, .slice A0_1 l0_1.length c0_1] 25 (0, 0)) (blk_up BK321.out) hb); replace BK322 := Aside0.mk (blk_below (g := gb322) (o := .cells #[.bool a1_0, .slice A1_1 l1_1.length c1_1] 25 (0, 0)) (blk_up BK322.out) hb); replace BK323 := Aside0.mk (blk_below (g := gb323) (o := .cells #[.bool false, .slice none 0 0] 25 (0, 0)) (blk_up BK323.out) hb); replace BK324 := Aside0.mk (blk_below (g := gb324) (o := .cells #[.bool false, .slice none 0 0] 25 (0, 0)) (blk_up BK324.out) hb); replace HB := Aside0.mk (below_step (by repeat (first | (with_reducible first | exact HB.out | apply below_alloc | apply pw_below_drewN | apply below_drew1 | refine below_set ?_ GE321.out | refine below_set ?_ GE322.out | refine below_set ?_ GE323.out | refine below_set ?_ GE324.out) | exact HB.out)) hb); (try clear hb); (try clear hb2); (try clear hk); (try clear hi); have hnb14 := NB323_321.out; have hnc14 := NB321_323.out; have hnb15 := NB323_324.out; have hnc15 := NB324_323.out; have hcz16_0 : w13.cell? ⟨gb323, 0, none⟩ = some (.bool false) := (blk_cell BK323.out 0).trans rfl; have hcz16_1 : w13.cell? ⟨gb323, 1, none⟩ = some (.slice none 0 0) := (blk_cell BK323.out 1).trans rfl; have hfz16_0 := blk_frozen BK323.out 0; have hfz16_1 := blk_frozen BK323.out 1; have hnb17 := NB324_321.out; have hnc17 := NB321_324.out; have hcz18_0 : w13.cell? ⟨gb324, 0, none⟩ = some (.bool false) := (blk_cell BK324.out 0).trans rfl; have hcz18_1 : w13.cell? ⟨gb324, 1, none⟩ = some (.slice none 0 0) := (blk_cell BK324.out 1).trans rfl; have hfz18_0 := blk_frozen BK324.out 0; have hfz18_1 := blk_frozen BK324.out 1))
  refine bodyPost_ret (results_list (rs := [.cell 4 25, .cell 5 25, .tmp 6]) rfl (by simp) (.cell gb323 25 #[.bool false, .slice none 0 0] (0, 0) _ rfl (by refine blk_ups ?_; refine blk_far ?_ NB323_324.out _; refine blk_ups ?_; refine blk_far ?_ NB323_324.out _; refine blk_ups ?_; refine blk_put (cs := #[.bool false, .slice none 0 0]) ?_ 1 _ rfl; refine blk_ups ?_; refine blk_put (cs := #[.bool false, .slice none 0 0]) ?_ 0 _ rfl; exact blk_up BK323.out) Tryd.underlying25 rfl (by kernel_rfl) (.cell gb324 25 #[.bool false, .slice none 0 0] (0, 0) _ rfl (by refine blk_ups ?_; refine blk_put (cs := #[.bool false, .slice none 0 0]) ?_ 1 _ rfl; refine blk_ups ?_; refine blk_put (cs := #[.bool false, .slice none 0 0]) ?_ 0 _ rfl; refine blk_ups ?_; refine blk_far ?_ NB324_323.out _; refine blk_ups ?_; refine blk_far ?_ NB324_323.out _; exact blk_up BK324.out) Tryd.underlying25 rfl (by kernel_rfl) (.tmp .nil)))) rfl ?_
  exact ⟨_, _, by first | rfl | (simp [errW_none, errW_some] <;> rfl) | (simp [*, errW_none, errW_some] <;> rfl), by first | exact Kd.R_nil _ _ _ _ _ | exact Kd.N_nil _ _ _ _ _ | exact Kd.V_nil _ _ _ _ _ | exact Kd.Q_nil _ _ _ _ _ | exact Kd.S_nil _ _ _ _ _, by first | exact Kd.R_nil _ _ _ _ _ | exact Kd.N_nil _ _ _ _ _ | exact Kd.V_nil _ _ _ _ _ | exact Kd.Q_nil _ _ _ _ _ | exact Kd.S_nil _ _ _ _ _, by repeat (first | (with_reducible first | exact HB.out | apply below_alloc | apply pw_below_drewN | apply below_drew1 | refine below_set ?_ GE321.out | refine below_set ?_ GE322.out | refine below_set ?_ GE323.out | refine below_set ?_ GE324.out) | exact HB.out)⟩
 ·
  rw [if_neg c4] at H
  have c4b0 : (t325 == 0) = false := beq_eq_false_iff_ne.mpr c4
  have c4b1 : (t325 != 0) = true := bne_iff_ne.mpr c4
  replace H := Option.bind_eq_some_iff.mp H
  obtain ⟨⟨t326, t329⟩, A190, H⟩ := H
  try dsimp only at H
  have A19 := Aside0.mk A190
  clear A190
  replace H := Option.bind_eq_some_iff.mp H
  obtain ⟨⟨t332, t333⟩, A200, H⟩ := H
  try dsimp only at H
  have A20 := Aside0.mk A200
  clear A200
  replace H := Option.bind_eq_some_iff.mp H
  obtain ⟨⟨t336, t337⟩, A210, H⟩ := H
  try dsimp only at H
  have A21 := Aside0.mk A210
  clear A210
  have HC22 := Aside0.mk H
  clear H
  go_enter Tryd.func27, Tryd.ntmps27
  try go_wp2_with (first | ((with_reducible refine gate_dst (N := 2) rfl ?_); refine box_event ?hg (N := 2) ?hd (cs := #[.bool a0_0, .slice A0_1 l0_1.length c0_1]) (t := 25) ?hr ?_; (case hd => rfl); (case hg => rfl); (case hr => first | (go_simp; done) | (go_simp; rfl)); intro gb321 hg w23 hbox hb; replace HO0_1 := Aside0.mk (Kd.V_below (Kd.V_elderB (Kd.V_up HO0_1.out) gb321 (Nat.le_of_eq hg.symm)) hb); have BK321 := Aside0.mk (hbox); have GE321 := Aside0.mk ((size_up hg HB.out : w.heap.size ≤ gb321)); replace HB := Aside0.mk (below_step (below_up HB.out) hb); clear hb hbox hg) | ((with_reducible refine gate_dst (N := 3) rfl ?_); refine box_event ?hg (N := 3) ?hd (cs := #[.bool a1_0, .slice A1_1 l1_1.length c1_1]) (t := 25) ?hr ?_; (case hd => rfl); (case hg => rfl); (case hr => first | (go_simp; done) | (go_simp; rfl)); intro gb322 hg w24 hbox hb; replace HO0_1 := Aside0.mk (Kd.V_below (Kd.V_elderB (Kd.V_up HO0_1.out) gb322 (Nat.le_of_eq hg.symm)) hb); have BK322 := Aside0.mk (hbox); have GE322 := Aside0.mk ((by rw [hg]; exact (below_size (by repeat (first | (with_reducible first | exact HB.out | apply below_alloc | apply pw_below_drewN | apply below_drew1 | refine below_set ?_ GE321.out) | exact HB.out))) : w.heap.size ≤ gb322)); replace HB := Aside0.mk (below_step (by repeat (first | (with_reducible first | exact HB.out | apply below_alloc | apply pw_below_drewN | apply below_drew1 | refine below_set ?_ GE321.out) | exact HB.out)) hb); have NB321_322 := Aside0.mk ((blk_nw hg BK321.out : gb321 ≠ gb322)); have NB322_321 := Aside0.mk ((nw_blk hg BK321.out : gb322 ≠ gb321)); replace BK321 := Aside0.mk (blk_below (g := gb321) (o := .cells #[.bool a0_0, .slice A0_1 l0_1.length c0_1] 25 (0, 0)) (blk_up BK321.out) hb); clear hb hbox hg) | ((with_reducible refine gate_dst (N := 4) rfl ?_); refine box_event ?hg (N := 4) ?hd (cs := #[.bool false, .slice none 0 0]) (t := 25) ?hr ?_; (case hd => rfl); (case hg => rfl); (case hr => first | (go_simp; done) | (go_simp; rfl)); intro gb323 hg w25 hbox hb; replace HO0_1 := Aside0.mk (Kd.V_below (Kd.V_elderB (Kd.V_up HO0_1.out) gb323 (Nat.le_of_eq hg.symm)) hb); have BK323 := Aside0.mk (hbox); have GE323 := Aside0.mk ((by rw [hg]; exact (below_size (by repeat (first | (with_reducible first | exact HB.out | apply below_alloc | apply pw_below_drewN | apply below_drew1 | refine below_set ?_ GE321.out | refine below_set ?_ GE322.out) | exact HB.out))) : w.heap.size ≤ gb323)); replace HB := Aside0.mk (below_step (by repeat (first | (with_reducible first | exact HB.out | apply below_alloc | apply pw_below_drewN | apply below_drew1 | refine below_set ?_ GE321.out | refine below_set ?_ GE322.out) | exact HB.out)) hb); have NB321_323 := Aside0.mk ((blk_nw hg BK321.out : gb321 ≠ gb323)); have NB323_321 := Aside0.mk ((nw_blk hg BK321.out : gb323 ≠ gb321)); replace BK321 := Aside0.mk (blk_below (g := gb321) (o := .cells #[.bool a0_0, .slice A0_1 l0_1.length c0_1] 25 (0, 0)) (blk_up BK321.out) hb); have NB322_323 := Aside0.mk ((blk_nw hg BK322.out : gb322 ≠ gb323)); have NB323_322 := Aside0.mk ((nw_blk hg BK322.out : gb323 ≠ gb322)); replace BK322 := Aside0.mk (blk_below (g := gb322) (o := .cells #[.bool a1_0, .slice A1_1 l1_1.length c1_1] 25 (0, 0)) (blk_up BK322.out) hb); clear hb hbox hg) | ((with_reducible refine gate_dst (N := 5) rfl ?_); refine box_event ?hg (N := 5) ?hd (cs := #[.bool false, .slice none 0 0]) (t := 25) ?hr ?_; (case hd => rfl); (case hg => rfl); (case hr => first | (go_simp; done) | (go_simp; rfl)); intro gb324 hg w26 hbox hb; replace HO0_1 := Aside0.mk (Kd.V_below (Kd.V_elderB (Kd.V_up HO0_1.out) gb324 (Nat.le_of_eq hg.symm)) hb); have BK324 := Aside0.mk (hbox); have GE324 := Aside0.mk ((by rw [hg]; exact (below_size (by repeat (first | (with_reducible first | exact HB.out | apply below_alloc | apply pw_below_drewN | apply below_drew1 | refine below_set ?_ GE321.out | refine below_set ?_ GE322.out | refine below_set ?_ GE323.out) | exact HB.out))) : w.heap.size ≤ gb324)); replace HB := Aside0.mk (below_step (by repeat (first | (with_reducible first | exact HB.out | apply below_alloc | apply pw_below_drewN | apply below_drew1 | refine below_set ?_ GE321.out | refine below_set ?_ GE322.out | refine below_set ?_ GE323.out) | exact HB.out)) hb); have NB321_324 := Aside0.mk ((blk_nw hg BK321.out : gb321 ≠ gb324)); have NB324_321 := Aside0.mk ((nw_blk hg BK321.out : gb324 ≠ gb321)); replace BK321 := Aside0.mk (blk_below (g := gb321) (o := .cells #[.bool a0_0, .slice A0_1 l0_1.length c0_1] 25 (0, 0)) (blk_up BK321.out) hb); have NB322_324 := Aside0.mk ((blk_nw hg BK322.out : gb322 ≠ gb324)); have NB324_322 := Aside0.mk ((nw_blk hg BK322.out : gb324 ≠ gb322)); replace BK322 := Aside0.mk (blk_below (g := gb322) (o := .cells #[.bool a1_0, .slice A1_1 l1_1.length c1_1] 25 (0, 0)) (blk_up BK322.out) hb); have NB323_324 := Aside0.mk ((blk_nw hg BK323.out : gb323 ≠ gb324)); have NB324_323 := Aside0.mk ((nw_blk hg BK323.out : gb324 ≠ gb323)); replace BK323 := Aside0.mk (blk_below (g := gb323) (o := .cells #[.bool false, .slice none 0 0] 25 (0, 0)) (blk_up BK323.out) hb); clear hb hbox hg; have hnb27 := NB322_321.out; have hnc27 := NB321_322.out; have hnb28 := NB322_323.out; have hnc28 := NB323_322.out; have hnb29 := NB322_324.out; have hnc29 := NB324_322.out; have hcz30_0 : w26.cell? ⟨gb322, 0, none⟩ = some (.bool a1_0) := (blk_cell BK322.out 0).trans rfl; have hcz30_1 : w26.cell? ⟨gb322, 1, none⟩ = some (.slice A1_1 l1_1.length c1_1) := (blk_cell BK322.out 1).trans rfl; have hfz30_0 := blk_frozen BK322.out 0; have hfz30_1 := blk_frozen BK322.out 1) | ((with_reducible refine gate_callee (f := 19) rfl ?_); refine gl_ (some 10) Tryd.func19 #[.agg #[.bool a1_0, .slice A1_1 l1_1.length c1_1]] ?_; (with_reducible refine (integer_Int_Sign.calls a1_0 _ _ l1_1 t325 _ ?side1 ?side2 A3.out).mono ?_); (case side1 => repeat (first | exact (Kd.C_below HR1_1.out HB.out) | (with_reducible refine Kd.C_alloc ?_ _) | (with_reducible refine Kd.C_drewN ?_ _) | (with_reducible refine Kd.C_drew ?_))); (case side2 => exact HC1_1.out); rintro e w31 ⟨rfl, hb⟩; refine ⟨_, rfl, ?_⟩; replace HO0_1 := Aside0.mk (Kd.V_below (Kd.V_up HO0_1.out) hb); replace BK321 := Aside0.mk (blk_below (g := gb321) (o := .cells #[.bool a0_0, .slice A0_1 l0_1.length c0_1] 25 (0, 0)) (blk_up BK321.out) hb); replace BK322 := Aside0.mk (blk_below (g := gb322) (o := .cells #[.bool a1_0, .slice A1_1 l1_1.length c1_1] 25 (0, 0)) (blk_up BK322.out) hb); replace BK323 := Aside0.mk (blk_below (g := gb323) (o := .cells #[.bool false, .slice none 0 0] 25 (0, 0)) (blk_up BK323.out) hb); replace BK324 := Aside0.mk (blk_below (g := gb324) (o := .cells #[.bool false, .slice none 0 0] 25 (0, 0)) (blk_up BK324.out) hb); replace HB := Aside0.mk (below_step (by repeat (first | (with_reducible first | exact HB.out | apply below_alloc | apply pw_below_drewN | apply below_drew1 | refine below_set ?_ GE321.out | refine below_set ?_ GE322.out | refine below_set ?_ GE323.out | refine below_set ?_ GE324.out) | exact HB.out)) hb); (try clear hb); (try clear hb2); (try clear hk); (try clear hi); have hnb32 := NB321_323.out; have hnc32 := NB323_321.out; have hnb33 := NB321_324.out; have hnc33 := NB324_321.out; have hcz34_0 : w31.cell? ⟨gb321, 0, none⟩ = some (.bool a0_0) := (blk_cell BK321.out 0).trans rfl; have hcz34_1 : w31.cell? ⟨gb321, 1, none⟩ = some (.slice A0_1 l0_1.length c0_1) := (blk_cell BK321.out 1).trans rfl; have hfz34_0 := blk_frozen BK321.out 0; have hfz34_1 := blk_frozen BK321.out 1; have hcz35_0 : w31.cell? ⟨gb322, 0, none⟩ = some (.bool a1_0) := (blk_cell BK322.out 0).trans rfl; have hcz35_1 : w31.cell? ⟨gb322, 1, none⟩ = some (.slice A1_1 l1_1.length c1_1) := (blk_cell BK322.out 1).trans rfl; have hfz35_0 := blk_frozen BK322.out 0; have hfz35_1 := blk_frozen BK322.out 1) | ((with_reducible refine gate_callee (f := 59) rfl ?_); refine gl_ (some 19) Tryd.func59 #[.slice A0_1 l0_1.length c0_1, .slice A1_1 l1_1.length c1_1] ?_; (with_reducible refine (integer_divide.calls k (fun k_ => (((((P0_1_ k_ ∨ w.heap.size ≤ k_) ∧ k_ ≠ gb321) ∧ k_ ≠ gb322) ∧ k_ ≠ gb323) ∧ k_ ≠ gb324)) _ _ l0_1 _ _ l1_1 t326 t329 _ ?side1 ?side2 ?side3 A19.out).mono ?_); (case side1 => exact HO0_1.out); (case side2 => repeat (first | exact (Kd.C_below HR1_1.out HB.out) | (with_reducible refine Kd.C_alloc ?_ _) | (with_reducible refine Kd.C_drewN ?_ _) | (with_reducible refine Kd.C_drew ?_))); (case side3 => exact HC1_1.out); rintro e w36 ⟨v327, v330, rfl, ho0, ho1, hb⟩; refine ⟨_, rfl, ?_⟩; replace HO0_1 := Aside0.mk (Kd.V_below (Kd.V_up HO0_1.out) hb); have HO328 := Aside0.mk (Kd.V_lower (Kd.V_mono (ok' := fun k_ => (P0_1_ k_ ∨ w.heap.size ≤ k_) ∧ k_ ≠ gb321 ∧ k_ ≠ gb322 ∧ k_ ≠ gb323 ∧ k_ ≠ gb324) ho0 (fun k_ hk_ => ⟨Or.elim hk_ (fun hs_ => hs_.1.1.1.1) (fun hn_ => (.inr (Nat.le_trans (below_size (by repeat (first | (with_reducible first | exact HB.out | apply below_alloc | apply pw_below_drewN | apply below_drew1 | refine below_set ?_ GE321.out | refine below_set ?_ GE322.out | refine below_set ?_ GE323.out | refine below_set ?_ GE324.out) | exact HB.out))) hn_))), Or.elim hk_ (fun hs_ => hs_.1.1.1.2) (fun hn_ => (Kd.freshB (g := gb321) (o := .cells #[.bool a0_0, .slice A0_1 l0_1.length c0_1] 25 (0, 0)) (blk_up BK321.out) k_ hn_)), Or.elim hk_ (fun hs_ => hs_.1.1.2) (fun hn_ => (Kd.freshB (g := gb322) (o := .cells #[.bool a1_0, .slice A1_1 l1_1.length c1_1] 25 (0, 0)) (blk_up BK322.out) k_ hn_)), Or.elim hk_ (fun hs_ => hs_.1.2) (fun hn_ => (Kd.freshB (g := gb323) (o := .cells #[.bool false, .slice none 0 0] 25 (0, 0)) (blk_up BK323.out) k_ hn_)), Or.elim hk_ (fun hs_ => hs_.2) (fun hn_ => (Kd.freshB (g := gb324) (o := .cells #[.bool false, .slice none 0 0] 25 (0, 0)) (blk_up BK324.out) k_ hn_))⟩)) (below_size (by repeat (first | (with_reducible first | exact HB.out | apply below_alloc | apply pw_below_drewN | apply below_drew1 | refine below_set ?_ GE321.out | refine below_set ?_ GE322.out | refine below_set ?_ GE323.out | refine below_set ?_ GE324.out) | exact HB.out)))); have HO331 := Aside0.mk (Kd.V_lower (Kd.V_mono (ok' := fun k_ => (P0_1_ k_ ∨ w.heap.size ≤ k_) ∧ k_ ≠ gb321 ∧ k_ ≠ gb322 ∧ k_ ≠ gb323 ∧ k_ ≠ gb324) ho1 (fun k_ hk_ => ⟨Or.elim hk_ (fun hs_ => hs_.1.1.1.1) (fun hn_ => (.inr (Nat.le_trans (below_size (by repeat (first | (with_reducible first | exact HB.out | apply below_alloc | apply pw_below_drewN | apply below_drew1 | refine below_set ?_ GE321.out | refine below_set ?_ GE322.out | refine below_set ?_ GE323.out | refine below_set ?_ GE324.out) | exact HB.out))) hn_))), Or.elim hk_ (fun hs_ => hs_.1.1.1.2) (fun hn_ => (Kd.freshB (g := gb321) (o := .cells #[.bool a0_0, .slice A0_1 l0_1.length c0_1] 25 (0, 0)) (blk_up BK321.out) k_ hn_)), Or.elim hk_ (fun hs_ => hs_.1.1.2) (fun hn_ => (Kd.freshB (g := gb322) (o := .cells #[.bool a1_0, .slice A1_1 l1_1.length c1_1] 25 (0, 0)) (blk_up BK322.out) k_ hn_)), Or.elim hk_ (fun hs_ => hs_.1.2) (fun hn_ => (Kd.freshB (g := gb323) (o := .cells #[.bool false, .slice none 0 0] 25 (0, 0)) (blk_up BK323.out) k_ hn_)), Or.elim hk_ (fun hs_ => hs_.2) (fun hn_ => (Kd.freshB (g := gb324) (o := .cells #[.bool false, .slice none 0 0] 25 (0, 0)) (blk_up BK324.out) k_ hn_))⟩)) (below_size (by repeat (first | (with_reducible first | exact HB.out | apply below_alloc | apply pw_below_drewN | apply below_drew1 | refine below_set ?_ GE321.out | refine below_set ?_ GE322.out | refine below_set ?_ GE323.out | refine below_set ?_ GE324.out) | exact HB.out)))); replace BK321 := Aside0.mk (blk_below (g := gb321) (o := .cells #[.bool a0_0, .slice A0_1 l0_1.length c0_1] 25 (0, 0)) (blk_up BK321.out) hb); replace BK322 := Aside0.mk (blk_below (g := gb322) (o := .cells #[.bool a1_0, .slice A1_1 l1_1.length c1_1] 25 (0, 0)) (blk_up BK322.out) hb); replace BK323 := Aside0.mk (blk_below (g := gb323) (o := .cells #[.bool false, .slice none 0 0] 25 (0, 0)) (blk_up BK323.out) hb); replace BK324 := Aside0.mk (blk_below (g := gb324) (o := .cells #[.bool false, .slice none 0 0] 25 (0, 0)) (blk_up BK324.out) hb); replace HB := Aside0.mk (below_step (by repeat (first | (with_reducible first | exact HB.out | apply below_alloc | apply pw_below_drewN | apply below_drew1 | refine below_set ?_ GE321.out | refine below_set ?_ GE322.out | refine below_set ?_ GE323.out | refine below_set ?_ GE324.out) | exact HB.out)) hb); (try clear hb); (try clear hb2); (try clear hk); (try clear hi); (try clear ho0); (try clear ho1)))
  replace HO0_1 := Aside0.mk (Kd.V_drew HO0_1.out)
  replace HO328 := Aside0.mk (Kd.V_drew HO328.out)
  replace HO331 := Aside0.mk (Kd.V_drew HO331.out)
  replace BK321 := Aside0.mk (blk_drew BK321.out)
  replace BK322 := Aside0.mk (blk_drew BK322.out)
  replace BK323 := Aside0.mk (blk_drew BK323.out)
  replace BK324 := Aside0.mk (blk_drew BK324.out)
  replace HB := Aside0.mk (below_drew1 HB.out)
  obtain ⟨Ao38, co38, eo38⟩ := Kd.V_slice HO328.out
  (first | subst eo38 | (injection eo38 with f1_ f2_ f3_; have f4_ := f1_.symm; have f5_ := f3_.symm; clear f1_ f2_ f3_; subst f4_; subst f5_))
  refine start_ (n := 13) (S := fun w' => w'.cell? ⟨gb321, 0, none⟩ = some (.bool a0_0) ∧ w'.cell? ⟨gb321, 1, none⟩ = some (.slice A0_1 l0_1.length c0_1) ∧ w'.cell? ⟨gb322, 0, none⟩ = some (.bool a1_0) ∧ w'.cell? ⟨gb322, 1, none⟩ = some (.slice A1_1 l1_1.length c1_1)) (ds := []) #[false, false, false, false, false, false, false, false, false, false, false, false, false] (by kernel_rfl) rfl rfl ⟨(blk_cell BK321.out 0).trans rfl, (blk_cell BK321.out 1).trans rfl, (blk_cell BK322.out 0).trans rfl, (blk_cell BK322.out 1).trans rfl⟩ (fun hHeld => ?_); refine with_tabW integer_DivMod.tab4 integer_DivMod.bits4 (fun HT_ HW_ => ?_)
  generalize w36.drew = w37 at HO0_1 HO328 HO331 BK321 BK322 BK323 BK324 HB hHeld ⊢
  refine pure_ (i := 0) (N := some 22) (v := ?_) (a' := ?_) #[true, false, false, false, false, false, false, false, false, false, false, false, false] rfl rfl (any_of HT_.out (by kernel_rfl)) (fun _ _ _ h => h) (Or.inl ⟨by rfl, ?_⟩) ?_ ?_
  rotate_left
  ·
   intro w'
   go_simp
   with_reducible rfl
  rotate_left
  ·
   simp only [Act.put, List.setIfInBounds_toArray, List.set_cons_zero, List.set_cons_succ, i64_w, i32_w]
   rfl
  refine pure_ (i := 2) (N := some 24) (v := ?_) (a' := ?_) #[true, false, true, false, false, false, false, false, false, false, false, false, false] rfl rfl (any_of HT_.out (by kernel_rfl)) (fun _ _ _ h => h) (Or.inl ⟨by rfl, ?_⟩) ?_ ?_
  rotate_left
  ·
   intro w'
   go_simp
   with_reducible rfl
  rotate_left
  ·
   simp only [Act.put, List.setIfInBounds_toArray, List.set_cons_zero, List.set_cons_succ, i64_w, i32_w]
   rfl
  refine pure_ (i := 5) (N := some 27) (v := ?_) (a' := ?_) #[true, false, true, false, false, true, false, false, false, false, false, false, false] rfl rfl (any_of HT_.out (by kernel_rfl)) (fun _ _ _ h => h) (Or.inl ⟨by rfl, ?_⟩) ?_ ?_
  rotate_left
  ·
   intro w'
   go_simp
   with_reducible rfl
  rotate_left
  ·
   simp only [Act.put, List.setIfInBounds_toArray, List.set_cons_zero, List.set_cons_succ, i64_w, i32_w]
   rfl
  refine pure_ (i := 7) (N := some 29) (v := ?_) (a' := ?_) #[true, false, true, false, false, true, false, true, false, false, false, false, false] rfl rfl (any_of HT_.out (by kernel_rfl)) (fun _ _ _ h => h) (Or.inl ⟨by rfl, ?_⟩) ?_ ?_
  rotate_left
  ·
   intro w'
   go_simp
   with_reducible rfl
  rotate_left
  ·
   simp only [Act.put, List.setIfInBounds_toArray, List.set_cons_zero, List.set_cons_succ, i64_w, i32_w]
   rfl
  refine pure_ (i := 9) (N := some 31) (v := ?_) (a' := ?_) #[true, false, true, false, false, true, false, true, false, true, false, false, false] rfl rfl (any_of HT_.out (by kernel_rfl)) (fun _ _ _ h => h) (Or.inl ⟨by rfl, ?_⟩) ?_ ?_
  rotate_left
  ·
   intro w'
   go_simp
   with_reducible rfl
  rotate_left
  ·
   simp only [Act.put, List.setIfInBounds_toArray, List.set_cons_zero, List.set_cons_succ, i64_w, i32_w]
   rfl
  refine take_ (i := 1) (N := some 23) (v := ?_) (a' := ?_) #[true, true, true, false, false, true, false, true, false, true, false, false, false] rfl rfl (take_ofW HT_.out HW_.out (by kernel_rfl)) (fun _ _ _ h => h) (Or.inl ⟨by rfl, ?_⟩) hHeld ?_ ?_
  rotate_left
  ·
   rintro w' ⟨s0, s1, s2, s3⟩
   go_simp
   with_reducible rfl
  rotate_left
  ·
   simp only [Act.put, List.setIfInBounds_toArray, List.set_cons_zero, List.set_cons_succ, i64_w, i32_w]
   rfl
  refine take_ (i := 3) (N := some 25) (v := ?_) (a' := ?_) #[true, true, true, true, false, true, false, true, false, true, false, false, false] rfl rfl (take_ofW HT_.out HW_.out (by kernel_rfl)) (fun _ _ _ h => h) (Or.inl ⟨by rfl, ?_⟩) hHeld ?_ ?_
  rotate_left
  ·
   rintro w' ⟨s0, s1, s2, s3⟩
   go_simp
   with_reducible rfl
  rotate_left
  ·
   simp only [Act.put, List.setIfInBounds_toArray, List.set_cons_zero, List.set_cons_succ, i64_w, i32_w]
   rfl
  refine pure_ (i := 4) (N := some 26) (v := ?_) (a' := ?_) #[true, true, true, true, true, true, false, true, false, true, false, false, false] rfl rfl (any_of HT_.out (by kernel_rfl)) (fun _ _ _ h => h) (Or.inl ⟨by rfl, ?_⟩) ?_ ?_
  rotate_left
  ·
   intro w'
   go_simp
   with_reducible rfl
  rotate_left
  ·
   simp only [Act.put, List.setIfInBounds_toArray, List.set_cons_zero, List.set_cons_succ, i64_w, i32_w]
   rfl
  refine take_ (i := 8) (N := some 30) (v := ?_) (a' := ?_) #[true, true, true, true, true, true, false, true, true, true, false, false, false] rfl rfl (take_ofW HT_.out HW_.out (by kernel_rfl)) (fun _ _ _ h => h) (Or.inl ⟨by rfl, ?_⟩) hHeld ?_ ?_
  rotate_left
  ·
   rintro w' ⟨s0, s1, s2, s3⟩
   go_simp
   with_reducible rfl
  rotate_left
  ·
   simp only [Act.put, List.setIfInBounds_toArray, List.set_cons_zero, List.set_cons_succ, i64_w, i32_w]
   rfl
  refine one_ (i := 6) (N := some 28) #[true, true, true, true, true, true, true, true, true, true, false, false, false] rfl rfl (one_of HT_.out (by kernel_rfl)) (by decide) (fun K hK => ?_)
  refine goes_ Tryd.func45 (by kernel_rfl) rfl #[.bool (a0_0 != a1_0), .slice Ao38 t326.length co38] (by rfl) rfl rfl (by (try simp only [List.map_toArray, List.map_cons, List.map_nil]); first | done | rfl | (simp only [List.length_drop, List.length_take]; rfl)) ?_
  with_reducible refine (integer_signed.calls k (a0_0 != a1_0) (fun k_ => ((P0_1_ k_ ∨ w.heap.size ≤ k_) ∧ (k_ ≠ gb321 ∧ (k_ ≠ gb322 ∧ (k_ ≠ gb323 ∧ k_ ≠ gb324))))) _ _ t326 t332 t333 _ ?side1 A20.out).mono ?_
  (case side1 => exact HO328.out)
  rintro e w39 ⟨v334, rfl, ho0, hb⟩
  refine ⟨_, rfl, ?_⟩
  replace HO0_1 := Aside0.mk (Kd.V_below (Kd.V_up HO0_1.out) hb)
  replace HO331 := Aside0.mk (Kd.V_below (Kd.V_up HO331.out) hb)
  have HO335 := Aside0.mk (Kd.V_lower (Kd.V_mono (ok' := fun k_ => (P0_1_ k_ ∨ w.heap.size ≤ k_) ∧ k_ ≠ gb321 ∧ k_ ≠ gb322 ∧ k_ ≠ gb323 ∧ k_ ≠ gb324) ho0 (fun k_ hk_ => ⟨Or.elim hk_ (fun hs_ => hs_.1) (fun hn_ => (.inr (Nat.le_trans (below_size (by repeat (first | (with_reducible first | exact HB.out | apply below_alloc | apply pw_below_drewN | apply below_drew1 | refine below_set ?_ GE321.out | refine below_set ?_ GE322.out | refine below_set ?_ GE323.out | refine below_set ?_ GE324.out) | exact HB.out))) hn_))), Or.elim hk_ (fun hs_ => hs_.2.1) (fun hn_ => (Kd.freshB (g := gb321) (o := .cells #[.bool a0_0, .slice A0_1 l0_1.length c0_1] 25 (0, 0)) (blk_up BK321.out) k_ hn_)), Or.elim hk_ (fun hs_ => hs_.2.2.1) (fun hn_ => (Kd.freshB (g := gb322) (o := .cells #[.bool a1_0, .slice A1_1 l1_1.length c1_1] 25 (0, 0)) (blk_up BK322.out) k_ hn_)), Or.elim hk_ (fun hs_ => hs_.2.2.2.1) (fun hn_ => (Kd.freshB (g := gb323) (o := .cells #[.bool false, .slice none 0 0] 25 (0, 0)) (blk_up BK323.out) k_ hn_)), Or.elim hk_ (fun hs_ => hs_.2.2.2.2) (fun hn_ => (Kd.freshB (g := gb324) (o := .cells #[.bool false, .slice none 0 0] 25 (0, 0)) (blk_up BK324.out) k_ hn_))⟩)) (below_size (by repeat (first | (with_reducible first | exact HB.out | apply below_alloc | apply pw_below_drewN | apply below_drew1 | refine below_set ?_ GE321.out | refine below_set ?_ GE322.out | refine below_set ?_ GE323.out | refine below_set ?_ GE324.out) | exact HB.out))))
  replace BK321 := Aside0.mk (blk_below (g := gb321) (o := .cells #[.bool a0_0, .slice A0_1 l0_1.length c0_1] 25 (0, 0)) (blk_up BK321.out) hb)
  replace BK322 := Aside0.mk (blk_below (g := gb322) (o := .cells #[.bool a1_0, .slice A1_1 l1_1.length c1_1] 25 (0, 0)) (blk_up BK322.out) hb)
  replace BK323 := Aside0.mk (blk_below (g := gb323) (o := .cells #[.bool false, .slice none 0 0] 25 (0, 0)) (blk_up BK323.out) hb)
  replace BK324 := Aside0.mk (blk_below (g := gb324) (o := .cells #[.bool false, .slice none 0 0] 25 (0, 0)) (blk_up BK324.out) hb)
  replace HB := Aside0.mk (below_step (by repeat (first | (with_reducible first | exact HB.out | apply below_alloc | apply pw_below_drewN | apply below_drew1 | refine below_set ?_ GE321.out | refine below_set ?_ GE322.out | refine below_set ?_ GE323.out | refine below_set ?_ GE324.out) | exact HB.out)) hb)
  (try clear HO328)
  (try clear hb)
  (try clear hb2)
  (try clear hk)
  (try clear hi)
  (try clear ho0)
  obtain ⟨Ao40, co40, eo40⟩ := Kd.V_slice HO331.out
  (first | subst eo40 | (injection eo40 with f1_ f2_ f3_; have f4_ := f1_.symm; have f5_ := f3_.symm; clear f1_ f2_ f3_; subst f4_; subst f5_))
  refine hK.out _ _ ⟨(blk_cell BK321.out 0).trans rfl, (blk_cell BK321.out 1).trans rfl, (blk_cell BK322.out 0).trans rfl, (blk_cell BK322.out 1).trans rfl⟩ (fun hHeld => ?_)
  clear hK K
  refine norm_ (a' := ?_) ?_ ?_
  rotate_left
  ·
   show Act.put _ (some 28) _ = _
   simp only [Act.put, List.setIfInBounds_toArray, List.set_cons_zero, List.set_cons_succ, i64_w, i32_w]
   rfl
  refine one_ (i := 10) (N := some 32) #[true, true, true, true, true, true, true, true, true, true, true, false, false] rfl rfl (one_of HT_.out (by kernel_rfl)) (by decide) (fun K hK => ?_)
  refine goes_ Tryd.func45 (by kernel_rfl) rfl #[.bool a0_0, .slice Ao40 t329.length co40] (by rfl) rfl rfl (by (try simp only [List.map_toArray, List.map_cons, List.map_nil]); first | done | rfl | (simp only [List.length_drop, List.length_take]; rfl)) ?_
  with_reducible refine (integer_signed.calls k a0_0 (fun k_ => ((P0_1_ k_ ∨ w.heap.size ≤ k_) ∧ (k_ ≠ gb321 ∧ (k_ ≠ gb322 ∧ (k_ ≠ gb323 ∧ k_ ≠ gb324))))) _ _ t329 t336 t337 _ ?side1 A21.out).mono ?_
  (case side1 => exact HO331.out)
  rintro e w41 ⟨v338, rfl, ho0, hb⟩
  refine ⟨_, rfl, ?_⟩
  replace HO0_1 := Aside0.mk (Kd.V_below (Kd.V_up HO0_1.out) hb)
  replace HO335 := Aside0.mk (Kd.V_below (Kd.V_up HO335.out) hb)
  have HO339 := Aside0.mk (Kd.V_lower (Kd.V_mono (ok' := fun k_ => (P0_1_ k_ ∨ w.heap.size ≤ k_) ∧ k_ ≠ gb321 ∧ k_ ≠ gb322 ∧ k_ ≠ gb323 ∧ k_ ≠ gb324) ho0 (fun k_ hk_ => ⟨Or.elim hk_ (fun hs_ => hs_.1) (fun hn_ => (.inr (Nat.le_trans (below_size (by repeat (first | (with_reducible first | exact HB.out | apply below_alloc | apply pw_below_drewN | apply below_drew1 | refine below_set ?_ GE321.out | refine below_set ?_ GE322.out | refine below_set ?_ GE323.out | refine below_set ?_ GE324.out) | exact HB.out))) hn_))), Or.elim hk_ (fun hs_ => hs_.2.1) (fun hn_ => (Kd.freshB (g := gb321) (o := .cells #[.bool a0_0, .slice A0_1 l0_1.length c0_1] 25 (0, 0)) (blk_up BK321.out) k_ hn_)), Or.elim hk_ (fun hs_ => hs_.2.2.1) (fun hn_ => (Kd.freshB (g := gb322) (o := .cells #[.bool a1_0, .slice A1_1 l1_1.length c1_1] 25 (0, 0)) (blk_up BK322.out) k_ hn_)), Or.elim hk_ (fun hs_ => hs_.2.2.2.1) (fun hn_ => (Kd.freshB (g := gb323) (o := .cells #[.bool false, .slice none 0 0] 25 (0, 0)) (blk_up BK323.out) k_ hn_)), Or.elim hk_ (fun hs_ => hs_.2.2.2.2) (fun hn_ => (Kd.freshB (g := gb324) (o := .cells #[.bool false, .slice none 0 0] 25 (0, 0)) (blk_up BK324.out) k_ hn_))⟩)) (below_size (by repeat (first | (with_reducible first | exact HB.out | apply below_alloc | apply pw_below_drewN | apply below_drew1 | refine below_set ?_ GE321.out | refine below_set ?_ GE322.out | refine below_set ?_ GE323.out | refine below_set ?_ GE324.out) | exact HB.out))))
  replace BK321 := Aside0.mk (blk_below (g := gb321) (o := .cells #[.bool a0_0, .slice A0_1 l0_1.length c0_1] 25 (0, 0)) (blk_up BK321.out) hb)
  replace BK322 := Aside0.mk (blk_below (g := gb322) (o := .cells #[.bool a1_0, .slice A1_1 l1_1.length c1_1] 25 (0, 0)) (blk_up BK322.out) hb)
  replace BK323 := Aside0.mk (blk_below (g := gb323) (o := .cells #[.bool false, .slice none 0 0] 25 (0, 0)) (blk_up BK323.out) hb)
  replace BK324 := Aside0.mk (blk_below (g := gb324) (o := .cells #[.bool false, .slice none 0 0] 25 (0, 0)) (blk_up BK324.out) hb)
  replace HB := Aside0.mk (below_step (by repeat (first | (with_reducible first | exact HB.out | apply below_alloc | apply pw_below_drewN | apply below_drew1 | refine below_set ?_ GE321.out | refine below_set ?_ GE322.out | refine below_set ?_ GE323.out | refine below_set ?_ GE324.out) | exact HB.out)) hb)
  (try clear HO331)
  (try clear hb)
  (try clear hb2)
  (try clear hk)
  (try clear hi)
  (try clear ho0)
  obtain ⟨Ao43, co43, eo43⟩ := Kd.V_slice HO335.out
  (first | subst eo43 | (injection eo43 with f1_ f2_ f3_; have f4_ := f1_.symm; have f5_ := f3_.symm; clear f1_ f2_ f3_; subst f4_; subst f5_))
  obtain ⟨Ao46, co46, eo46⟩ := Kd.V_slice HO339.out
  (first | subst eo46 | (injection eo46 with f1_ f2_ f3_; have f4_ := f1_.symm; have f5_ := f3_.symm; clear f1_ f2_ f3_; subst f4_; subst f5_))
  refine hK.out _ _ ⟨(blk_cell BK321.out 0).trans rfl, (blk_cell BK321.out 1).trans rfl, (blk_cell BK322.out 0).trans rfl, (blk_cell BK322.out 1).trans rfl⟩ (fun hHeld => ?_)
  clear hK K
  refine norm_ (a' := ?_) ?_ ?_
  rotate_left
  ·
   show Act.put _ (some 32) _ = _
   simp only [Act.put, List.setIfInBounds_toArray, List.set_cons_zero, List.set_cons_succ, i64_w, i32_w]
   rfl
  refine one_ (i := 11) (N := none) #[true, true, true, true, true, true, true, true, true, true, true, true, false] rfl rfl (one_of HT_.out (by kernel_rfl)) (by decide) (fun K hK => ?_)
  have hs42 : w41.cell? ⟨gb323, 0, none⟩ = some (.bool false) := (blk_cell BK323.out 0).trans rfl
  have hfs42 := blk_frozen BK323.out 0
  have hns42_0 := NB321_323.out
  have hns42_1 := NB322_323.out
  have hns42_3 := NB324_323.out
  have hms42_0 := NB323_321.out
  have hms42_1 := NB323_322.out
  have hms42_3 := NB323_324.out
  have hs44 : w41.cell? ⟨gb323, 1, none⟩ = some (.slice none 0 0) := (blk_cell BK323.out 1).trans rfl
  have hfs44 := blk_frozen BK323.out 1
  have hns44_0 := NB321_323.out
  have hns44_1 := NB322_323.out
  have hns44_3 := NB324_323.out
  have hms44_0 := NB323_321.out
  have hms44_1 := NB323_322.out
  have hms44_3 := NB323_324.out
  refine skip_ (w1 := ?_) (by rfl) rfl ?_ ?_
  rotate_left
  ·
   go_simp
   rfl
  refine hK.out _ _ ⟨((cell_far (p := ⟨gb323, _, none⟩) NB321_323.out _).trans (((cell_far (p := ⟨gb323, _, none⟩) NB321_323.out _).trans (hHeld.1)))), ((cell_far (p := ⟨gb323, _, none⟩) NB321_323.out _).trans (((cell_far (p := ⟨gb323, _, none⟩) NB321_323.out _).trans (hHeld.2.1)))), ((cell_far (p := ⟨gb323, _, none⟩) NB322_323.out _).trans (((cell_far (p := ⟨gb323, _, none⟩) NB322_323.out _).trans (hHeld.2.2.1)))), ((cell_far (p := ⟨gb323, _, none⟩) NB322_323.out _).trans (((cell_far (p := ⟨gb323, _, none⟩) NB322_323.out _).trans (hHeld.2.2.2))))⟩ (fun hHeld => ?_)
  clear hK K
  refine one_ (i := 12) (N := none) #[true, true, true, true, true, true, true, true, true, true, true, true, true] rfl rfl (one_of HT_.out (by kernel_rfl)) (by decide) (fun K hK => ?_)
  have hs45 : w41.cell? ⟨gb324, 0, none⟩ = some (.bool false) := (blk_cell BK324.out 0).trans rfl
  have hfs45 := blk_frozen BK324.out 0
  have hns45_0 := NB321_324.out
  have hns45_1 := NB322_324.out
  have hns45_2 := NB323_324.out
  have hms45_0 := NB324_321.out
  have hms45_1 := NB324_322.out
  have hms45_2 := NB324_323.out
  have hs47 : w41.cell? ⟨gb324, 1, none⟩ = some (.slice none 0 0) := (blk_cell BK324.out 1).trans rfl
  have hfs47 := blk_frozen BK324.out 1
  have hns47_0 := NB321_324.out
  have hns47_1 := NB322_324.out
  have hns47_2 := NB323_324.out
  have hms47_0 := NB324_321.out
  have hms47_1 := NB324_322.out
  have hms47_2 := NB324_323.out
  refine skip_ (w1 := ?_) (by rfl) rfl ?_ ?_
  rotate_left
  ·
   go_simp
   rfl
  refine hK.out _ _ ⟨((cell_far (p := ⟨gb324, _, none⟩) NB321_324.out _).trans (((cell_far (p := ⟨gb324, _, none⟩) NB321_324.out _).trans (hHeld.1)))), ((cell_far (p := ⟨gb324, _, none⟩) NB321_324.out _).trans (((cell_far (p := ⟨gb324, _, none⟩) NB321_324.out _).trans (hHeld.2.1)))), ((cell_far (p := ⟨gb324, _, none⟩) NB322_324.out _).trans (((cell_far (p := ⟨gb324, _, none⟩) NB322_324.out _).trans (hHeld.2.2.1)))), ((cell_far (p := ⟨gb324, _, none⟩) NB322_324.out _).trans (((cell_far (p := ⟨gb324, _, none⟩) NB322_324.out _).trans (hHeld.2.2.2))))⟩ (fun hHeld => ?_)
  clear hK K
  refine done_ (done_of HT_.out (by kernel_rfl)) ?_
  go_upto_region 5 with (fail)
  go_cut [42] (fun v42 wc => ∃ (kq : Nat) (x42_21 : Bool), v42 = .bool x42_21 ∧ Aside0 (integer_DivMod.j0 kq x42_21 a1_0 l1_1 t332 t333 t336 t337 = some (r1, r2, r3, r4, r5)) ∧ Aside0 (kq ≤ k) ∧ Aside0 (Kd.V (Kd.int .u32) 60 wc w.heap.size (fun k_ => (P0_1_ k_ ∨ w.heap.size ≤ k_) ∧ k_ ≠ gb321 ∧ k_ ≠ gb322 ∧ k_ ≠ gb323 ∧ k_ ≠ gb324) (.slice A0_1 l0_1.length c0_1) l0_1) ∧ Aside0 (Kd.V (Kd.int .u32) 60 wc w.heap.size (fun k_ => (P0_1_ k_ ∨ w.heap.size ≤ k_) ∧ k_ ≠ gb321 ∧ k_ ≠ gb322 ∧ k_ ≠ gb323 ∧ k_ ≠ gb324) (.slice Ao43 t333.length co43) t333) ∧ Aside0 (Kd.V (Kd.int .u32) 60 wc w.heap.size (fun k_ => (P0_1_ k_ ∨ w.heap.size ≤ k_) ∧ k_ ≠ gb321 ∧ k_ ≠ gb322 ∧ k_ ≠ gb323 ∧ k_ ≠ gb324) (.slice Ao46 t337.length co46) t337) ∧ Aside0 (wc.heap[gb321]? = some (.cells #[.bool a0_0, (.slice A0_1 l0_1.length c0_1)] 25 (0, 0))) ∧ Aside0 (wc.heap[gb322]? = some (.cells #[.bool a1_0, (.slice A1_1 l1_1.length c1_1)] 25 (0, 0))) ∧ Aside0 (wc.heap[gb323]? = some (.cells #[.bool t332, (.slice Ao43 t333.length co43)] 25 (0, 0))) ∧ Aside0 (wc.heap[gb324]? = some (.cells #[.bool t336, (.slice Ao46 t337.length co46)] 25 (0, 0))) ∧ Aside0 (Below w.heap.size w wc))
  case first =>
   have H := HC22.out
   clear HC22
   replace H := Option.bind_eq_some_iff.mp H
   obtain ⟨t340, A480, H⟩ := H
   try dsimp only at H
   have A48 := Aside0.mk A480
   clear A480
   by_cases c49 : t340 = 0
   ·
    rw [if_pos c49] at H
    have c49b0 : (t340 == 0) = true := beq_iff_eq.mpr c49
    have c49b1 : (t340 != 0) = false := bne_eq_false_iff_eq.mpr c49
    clear c49
    (first | rw [c49b0] | (simp only [i64_w, i32_w]; rw [c49b0]) | skip)
    have H' := Aside0.mk H
    clear H
    have hnb50 := NB324_321.out
    have hnc50 := NB321_324.out
    have hnb51 := NB324_322.out
    have hnc51 := NB322_324.out
    have hnb52 := NB324_323.out
    have hnc52 := NB323_324.out
    have hcz53_0 : w41.cell? ⟨gb324, 0, none⟩ = some (.bool false) := (blk_cell BK324.out 0).trans rfl
    have hcz53_1 : w41.cell? ⟨gb324, 1, none⟩ = some (.slice none 0 0) := (blk_cell BK324.out 1).trans rfl
    have hfz53_0 := blk_frozen BK324.out 0
    have hfz53_1 := blk_frozen BK324.out 1
    go_wp2_with (first | ((with_reducible refine gate_callee (f := 19) rfl ?_); refine gl_ (some 34) Tryd.func19 #[.agg #[.bool t336, .slice Ao46 t337.length co46]] ?_; (with_reducible refine (integer_Int_Sign.calls t336 _ _ t337 t340 _ ?side1 ?side2 A48.out).mono ?_); (case side1 => refine (Kd.V_reads' (e := 60) (base := w.heap.size) (ok := fun k_ => ((P0_1_ k_ ∨ w.heap.size ≤ k_) ∧ (k_ ≠ gb321 ∧ (k_ ≠ gb322 ∧ (k_ ≠ gb323 ∧ k_ ≠ gb324))))) (n := t337.length) (c := co46) ?_).2.2; exact (Kd.V_up ((Kd.V_mono (Kd.V_mono (Kd.V_far (p := ⟨gb324, 1, none⟩) (Kd.V_far (p := ⟨gb324, 0, none⟩) (Kd.V_far (p := ⟨gb323, 1, none⟩) (Kd.V_far (p := ⟨gb323, 0, none⟩) (Kd.V_mono (Kd.V_mono HO339.out (fun k_ hk => (⟨hk, hk.2.2.2.1⟩ : _ ∧ k_ ≠ gb323))) (fun k_ hk => (⟨hk, hk.1.2.2.2.2⟩ : _ ∧ k_ ≠ gb324))) (fun _ hk => hk.1.2) (.bool t332)) (fun _ hk => hk.1.2) (.slice Ao43 t333.length co43)) (fun _ hk => hk.2) (.bool t336)) (fun _ hk => hk.2) (.slice Ao46 t337.length co46)) (fun _ h_ => h_.1)) (fun _ h_ => h_.1))))); (case side2 => exact (Kd.V_reads' HO339.out).2.1); rintro e w54 ⟨rfl, hb⟩; refine ⟨_, rfl, ?_⟩; replace HO0_1 := Aside0.mk (Kd.V_below (Kd.V_up ((Kd.V_mono (Kd.V_mono (Kd.V_far (p := ⟨gb324, 1, none⟩) (Kd.V_far (p := ⟨gb324, 0, none⟩) (Kd.V_far (p := ⟨gb323, 1, none⟩) (Kd.V_far (p := ⟨gb323, 0, none⟩) (Kd.V_mono (Kd.V_mono HO0_1.out (fun k_ hk => (⟨hk, hk.1.2⟩ : _ ∧ k_ ≠ gb323))) (fun k_ hk => (⟨hk, hk.1.2⟩ : _ ∧ k_ ≠ gb324))) (fun _ hk => hk.1.2) (.bool t332)) (fun _ hk => hk.1.2) (.slice Ao43 t333.length co43)) (fun _ hk => hk.2) (.bool t336)) (fun _ hk => hk.2) (.slice Ao46 t337.length co46)) (fun _ h_ => h_.1)) (fun _ h_ => h_.1)))) hb); replace HO335 := Aside0.mk (Kd.V_below (Kd.V_up ((Kd.V_mono (Kd.V_mono (Kd.V_far (p := ⟨gb324, 1, none⟩) (Kd.V_far (p := ⟨gb324, 0, none⟩) (Kd.V_far (p := ⟨gb323, 1, none⟩) (Kd.V_far (p := ⟨gb323, 0, none⟩) (Kd.V_mono (Kd.V_mono HO335.out (fun k_ hk => (⟨hk, hk.2.2.2.1⟩ : _ ∧ k_ ≠ gb323))) (fun k_ hk => (⟨hk, hk.1.2.2.2.2⟩ : _ ∧ k_ ≠ gb324))) (fun _ hk => hk.1.2) (.bool t332)) (fun _ hk => hk.1.2) (.slice Ao43 t333.length co43)) (fun _ hk => hk.2) (.bool t336)) (fun _ hk => hk.2) (.slice Ao46 t337.length co46)) (fun _ h_ => h_.1)) (fun _ h_ => h_.1)))) hb); replace HO339 := Aside0.mk (Kd.V_below (Kd.V_up ((Kd.V_mono (Kd.V_mono (Kd.V_far (p := ⟨gb324, 1, none⟩) (Kd.V_far (p := ⟨gb324, 0, none⟩) (Kd.V_far (p := ⟨gb323, 1, none⟩) (Kd.V_far (p := ⟨gb323, 0, none⟩) (Kd.V_mono (Kd.V_mono HO339.out (fun k_ hk => (⟨hk, hk.2.2.2.1⟩ : _ ∧ k_ ≠ gb323))) (fun k_ hk => (⟨hk, hk.1.2.2.2.2⟩ : _ ∧ k_ ≠ gb324))) (fun _ hk => hk.1.2) (.bool t332)) (fun _ hk => hk.1.2) (.slice Ao43 t333.length co43)) (fun _ hk => hk.2) (.bool t336)) (fun _ hk => hk.2) (.slice Ao46 t337.length co46)) (fun _ h_ => h_.1)) (fun _ h_ => h_.1)))) hb); replace BK321 := Aside0.mk (blk_below (g := gb321) (o := .cells #[.bool a0_0, .slice A0_1 l0_1.length c0_1] 25 (0, 0)) (by refine blk_ups ?_; refine blk_far ?_ NB321_324.out _; refine blk_ups ?_; refine blk_far ?_ NB321_324.out _; refine blk_ups ?_; refine blk_far ?_ NB321_323.out _; refine blk_ups ?_; refine blk_far ?_ NB321_323.out _; exact blk_up BK321.out) hb); replace BK322 := Aside0.mk (blk_below (g := gb322) (o := .cells #[.bool a1_0, .slice A1_1 l1_1.length c1_1] 25 (0, 0)) (by refine blk_ups ?_; refine blk_far ?_ NB322_324.out _; refine blk_ups ?_; refine blk_far ?_ NB322_324.out _; refine blk_ups ?_; refine blk_far ?_ NB322_323.out _; refine blk_ups ?_; refine blk_far ?_ NB322_323.out _; exact blk_up BK322.out) hb); replace BK323 := Aside0.mk (blk_below (g := gb323) (o := .cells #[.bool t332, .slice Ao43 t333.length co43] 25 (0, 0)) (by refine blk_ups ?_; refine blk_far ?_ NB323_324.out _; refine blk_ups ?_; refine blk_far ?_ NB323_324.out _; refine blk_ups ?_; refine blk_put (cs := #[.bool t332, .slice none 0 0]) ?_ 1 _ rfl; refine blk_ups ?_; refine blk_put (cs := #[.bool false, .slice none 0 0]) ?_ 0 _ rfl; exact blk_up BK323.out) hb); replace BK324 := Aside0.mk (blk_below (g := gb324) (o := .cells #[.bool t336, .slice Ao46 t337.length co46] 25 (0, 0)) (by refine blk_ups ?_; refine blk_put (cs := #[.bool t336, .slice none 0 0]) ?_ 1 _ rfl; refine blk_ups ?_; refine blk_put (cs := #[.bool false, .slice none 0 0]) ?_ 0 _ rfl; refine blk_ups ?_; refine blk_far ?_ NB324_323.out _; refine blk_ups ?_; refine blk_far ?_ NB324_323.out _; exact blk_up BK324.out) hb); replace HB := Aside0.mk (below_step (by repeat (first | (with_reducible first | exact HB.out | apply below_alloc | apply pw_below_drewN | apply below_drew1 | refine below_set ?_ GE321.out | refine below_set ?_ GE322.out | refine below_set ?_ GE323.out | refine below_set ?_ GE324.out) | exact HB.out)) hb); (try clear hb); (try clear hb2); (try clear hk); (try clear hi)))
    go_meet
    case rel => exact ⟨_, (false), (by first | rfl | (simp; done) | (simp [*]; done) | (simp <;> omega)), H', ⟨by first | omega | exact Nat.le_refl _⟩, ⟨Kd.V_up (Kd.V_mono HO0_1.out (fun _ hk => ⟨hk.1.1.1.1, ⟨hk.1.1.1.2, ⟨hk.1.1.2, ⟨hk.1.2, hk.2⟩⟩⟩⟩))⟩, ⟨Kd.V_up HO335.out⟩, ⟨Kd.V_up HO339.out⟩, ⟨by (with_reducible repeat (first | refine blk_drewN ?_ _ | refine blk_drew ?_ | refine blk_alloc ?_ _)); exact BK321.out⟩, ⟨by (with_reducible repeat (first | refine blk_drewN ?_ _ | refine blk_drew ?_ | refine blk_alloc ?_ _)); exact BK322.out⟩, ⟨by (with_reducible repeat (first | refine blk_drewN ?_ _ | refine blk_drew ?_ | refine blk_alloc ?_ _)); exact BK323.out⟩, ⟨by (with_reducible repeat (first | refine blk_drewN ?_ _ | refine blk_drew ?_ | refine blk_alloc ?_ _)); exact BK324.out⟩, ⟨by repeat (first | (with_reducible first | exact HB.out | apply below_alloc | apply pw_below_drewN | apply below_drew1 | refine below_set ?_ GE321.out | refine below_set ?_ GE322.out | refine below_set ?_ GE323.out | refine below_set ?_ GE324.out) | exact HB.out)⟩⟩
   ·
    rw [if_neg c49] at H
    have c49b0 : (t340 == 0) = false := beq_eq_false_iff_ne.mpr c49
    have c49b1 : (t340 != 0) = true := bne_iff_ne.mpr c49
    (first | rw [c49b0] | (simp only [i64_w, i32_w]; rw [c49b0]) | skip)
    have H' := Aside0.mk H
    clear H
    have hnb55 := NB324_321.out
    have hnc55 := NB321_324.out
    have hnb56 := NB324_322.out
    have hnc56 := NB322_324.out
    have hnb57 := NB324_323.out
    have hnc57 := NB323_324.out
    have hcz58_0 : w41.cell? ⟨gb324, 0, none⟩ = some (.bool false) := (blk_cell BK324.out 0).trans rfl
    have hcz58_1 : w41.cell? ⟨gb324, 1, none⟩ = some (.slice none 0 0) := (blk_cell BK324.out 1).trans rfl
    have hfz58_0 := blk_frozen BK324.out 0
    have hfz58_1 := blk_frozen BK324.out 1
    go_wp2_with (first | ((with_reducible refine gate_callee (f := 19) rfl ?_); refine gl_ (some 34) Tryd.func19 #[.agg #[.bool t336, .slice Ao46 t337.length co46]] ?_; (with_reducible refine (integer_Int_Sign.calls t336 _ _ t337 t340 _ ?side1 ?side2 A48.out).mono ?_); (case side1 => refine (Kd.V_reads' (e := 60) (base := w.heap.size) (ok := fun k_ => ((P0_1_ k_ ∨ w.heap.size ≤ k_) ∧ (k_ ≠ gb321 ∧ (k_ ≠ gb322 ∧ (k_ ≠ gb323 ∧ k_ ≠ gb324))))) (n := t337.length) (c := co46) ?_).2.2; exact (Kd.V_up ((Kd.V_mono (Kd.V_mono (Kd.V_far (p := ⟨gb324, 1, none⟩) (Kd.V_far (p := ⟨gb324, 0, none⟩) (Kd.V_far (p := ⟨gb323, 1, none⟩) (Kd.V_far (p := ⟨gb323, 0, none⟩) (Kd.V_mono (Kd.V_mono HO339.out (fun k_ hk => (⟨hk, hk.2.2.2.1⟩ : _ ∧ k_ ≠ gb323))) (fun k_ hk => (⟨hk, hk.1.2.2.2.2⟩ : _ ∧ k_ ≠ gb324))) (fun _ hk => hk.1.2) (.bool t332)) (fun _ hk => hk.1.2) (.slice Ao43 t333.length co43)) (fun _ hk => hk.2) (.bool t336)) (fun _ hk => hk.2) (.slice Ao46 t337.length co46)) (fun _ h_ => h_.1)) (fun _ h_ => h_.1))))); (case side2 => exact (Kd.V_reads' HO339.out).2.1); rintro e w59 ⟨rfl, hb⟩; refine ⟨_, rfl, ?_⟩; replace HO0_1 := Aside0.mk (Kd.V_below (Kd.V_up ((Kd.V_mono (Kd.V_mono (Kd.V_far (p := ⟨gb324, 1, none⟩) (Kd.V_far (p := ⟨gb324, 0, none⟩) (Kd.V_far (p := ⟨gb323, 1, none⟩) (Kd.V_far (p := ⟨gb323, 0, none⟩) (Kd.V_mono (Kd.V_mono HO0_1.out (fun k_ hk => (⟨hk, hk.1.2⟩ : _ ∧ k_ ≠ gb323))) (fun k_ hk => (⟨hk, hk.1.2⟩ : _ ∧ k_ ≠ gb324))) (fun _ hk => hk.1.2) (.bool t332)) (fun _ hk => hk.1.2) (.slice Ao43 t333.length co43)) (fun _ hk => hk.2) (.bool t336)) (fun _ hk => hk.2) (.slice Ao46 t337.length co46)) (fun _ h_ => h_.1)) (fun _ h_ => h_.1)))) hb); replace HO335 := Aside0.mk (Kd.V_below (Kd.V_up ((Kd.V_mono (Kd.V_mono (Kd.V_far (p := ⟨gb324, 1, none⟩) (Kd.V_far (p := ⟨gb324, 0, none⟩) (Kd.V_far (p := ⟨gb323, 1, none⟩) (Kd.V_far (p := ⟨gb323, 0, none⟩) (Kd.V_mono (Kd.V_mono HO335.out (fun k_ hk => (⟨hk, hk.2.2.2.1⟩ : _ ∧ k_ ≠ gb323))) (fun k_ hk => (⟨hk, hk.1.2.2.2.2⟩ : _ ∧ k_ ≠ gb324))) (fun _ hk => hk.1.2) (.bool t332)) (fun _ hk => hk.1.2) (.slice Ao43 t333.length co43)) (fun _ hk => hk.2) (.bool t336)) (fun _ hk => hk.2) (.slice Ao46 t337.length co46)) (fun _ h_ => h_.1)) (fun _ h_ => h_.1)))) hb); replace HO339 := Aside0.mk (Kd.V_below (Kd.V_up ((Kd.V_mono (Kd.V_mono (Kd.V_far (p := ⟨gb324, 1, none⟩) (Kd.V_far (p := ⟨gb324, 0, none⟩) (Kd.V_far (p := ⟨gb323, 1, none⟩) (Kd.V_far (p := ⟨gb323, 0, none⟩) (Kd.V_mono (Kd.V_mono HO339.out (fun k_ hk => (⟨hk, hk.2.2.2.1⟩ : _ ∧ k_ ≠ gb323))) (fun k_ hk => (⟨hk, hk.1.2.2.2.2⟩ : _ ∧ k_ ≠ gb324))) (fun _ hk => hk.1.2) (.bool t332)) (fun _ hk => hk.1.2) (.slice Ao43 t333.length co43)) (fun _ hk => hk.2) (.bool t336)) (fun _ hk => hk.2) (.slice Ao46 t337.length co46)) (fun _ h_ => h_.1)) (fun _ h_ => h_.1)))) hb); replace BK321 := Aside0.mk (blk_below (g := gb321) (o := .cells #[.bool a0_0, .slice A0_1 l0_1.length c0_1] 25 (0, 0)) (by refine blk_ups ?_; refine blk_far ?_ NB321_324.out _; refine blk_ups ?_; refine blk_far ?_ NB321_324.out _; refine blk_ups ?_; refine blk_far ?_ NB321_323.out _; refine blk_ups ?_; refine blk_far ?_ NB321_323.out _; exact blk_up BK321.out) hb); replace BK322 := Aside0.mk (blk_below (g := gb322) (o := .cells #[.bool a1_0, .slice A1_1 l1_1.length c1_1] 25 (0, 0)) (by refine blk_ups ?_; refine blk_far ?_ NB322_324.out _; refine blk_ups ?_; refine blk_far ?_ NB322_324.out _; refine blk_ups ?_; refine blk_far ?_ NB322_323.out _; refine blk_ups ?_; refine blk_far ?_ NB322_323.out _; exact blk_up BK322.out) hb); replace BK323 := Aside0.mk (blk_below (g := gb323) (o := .cells #[.bool t332, .slice Ao43 t333.length co43] 25 (0, 0)) (by refine blk_ups ?_; refine blk_far ?_ NB323_324.out _; refine blk_ups ?_; refine blk_far ?_ NB323_324.out _; refine blk_ups ?_; refine blk_put (cs := #[.bool t332, .slice none 0 0]) ?_ 1 _ rfl; refine blk_ups ?_; refine blk_put (cs := #[.bool false, .slice none 0 0]) ?_ 0 _ rfl; exact blk_up BK323.out) hb); replace BK324 := Aside0.mk (blk_below (g := gb324) (o := .cells #[.bool t336, .slice Ao46 t337.length co46] 25 (0, 0)) (by refine blk_ups ?_; refine blk_put (cs := #[.bool t336, .slice none 0 0]) ?_ 1 _ rfl; refine blk_ups ?_; refine blk_put (cs := #[.bool false, .slice none 0 0]) ?_ 0 _ rfl; refine blk_ups ?_; refine blk_far ?_ NB324_323.out _; refine blk_ups ?_; refine blk_far ?_ NB324_323.out _; exact blk_up BK324.out) hb); replace HB := Aside0.mk (below_step (by repeat (first | (with_reducible first | exact HB.out | apply below_alloc | apply pw_below_drewN | apply below_drew1 | refine below_set ?_ GE321.out | refine below_set ?_ GE322.out | refine below_set ?_ GE323.out | refine below_set ?_ GE324.out) | exact HB.out)) hb); (try clear hb); (try clear hb2); (try clear hk); (try clear hi); have hcz60_0 : w59.cell? ⟨gb324, 0, none⟩ = some (.bool t336) := (blk_cell BK324.out 0).trans rfl; have hcz60_1 : w59.cell? ⟨gb324, 1, none⟩ = some (.slice Ao46 t337.length co46) := (blk_cell BK324.out 1).trans rfl; have hfz60_0 := blk_frozen BK324.out 0; have hfz60_1 := blk_frozen BK324.out 1; have hnb61 := NB322_321.out; have hnc61 := NB321_322.out; have hnb62 := NB322_323.out; have hnc62 := NB323_322.out; have hcz63_0 : w59.cell? ⟨gb322, 0, none⟩ = some (.bool a1_0) := (blk_cell BK322.out 0).trans rfl; have hcz63_1 : w59.cell? ⟨gb322, 1, none⟩ = some (.slice A1_1 l1_1.length c1_1) := (blk_cell BK322.out 1).trans rfl; have hfz63_0 := blk_frozen BK322.out 0; have hfz63_1 := blk_frozen BK322.out 1))
    go_meet
    case rel => exact ⟨_, ((t336 != a1_0)), (by first | rfl | (simp; done) | (simp [*]; done) | (simp <;> omega)), H', ⟨by first | omega | exact Nat.le_refl _⟩, ⟨Kd.V_up (Kd.V_mono HO0_1.out (fun _ hk => ⟨hk.1.1.1.1, ⟨hk.1.1.1.2, ⟨hk.1.1.2, ⟨hk.1.2, hk.2⟩⟩⟩⟩))⟩, ⟨Kd.V_up HO335.out⟩, ⟨Kd.V_up HO339.out⟩, ⟨by (with_reducible repeat (first | refine blk_drewN ?_ _ | refine blk_drew ?_ | refine blk_alloc ?_ _)); exact BK321.out⟩, ⟨by (with_reducible repeat (first | refine blk_drewN ?_ _ | refine blk_drew ?_ | refine blk_alloc ?_ _)); exact BK322.out⟩, ⟨by (with_reducible repeat (first | refine blk_drewN ?_ _ | refine blk_drew ?_ | refine blk_alloc ?_ _)); exact BK323.out⟩, ⟨by (with_reducible repeat (first | refine blk_drewN ?_ _ | refine blk_drew ?_ | refine blk_alloc ?_ _)); exact BK324.out⟩, ⟨by repeat (first | (with_reducible first | exact HB.out | apply below_alloc | apply pw_below_drewN | apply below_drew1 | refine below_set ?_ GE321.out | refine below_set ?_ GE322.out | refine below_set ?_ GE323.out | refine below_set ?_ GE324.out) | exact HB.out)⟩⟩
  case rest =>
   clear HC22
   obtain ⟨kq, x42_21, rfl, HA, HJ21, HO_322001, HO_324001, HO_325001, BK321, BK322, BK323, BK324, HB⟩ := hcut
   cases kq with
   | zero => exact absurd HA.out (by simp [integer_DivMod.j0])
   | succ kj21 =>
    have H := HA.out
    clear HA
    simp only [integer_DivMod.j0] at H
    by_cases c64 : x42_21 = true
    ·
     subst c64
     have H1 : ((integer_From.f kj21 1).bind fun bt341 => ((integer_Sub.f kj21 t332 t333 bt341.1 bt341.2).bind fun bt345 => ((integer_Add.f kj21 t336 t337 a1_0 l1_1).bind fun bt349 => (some (bt345.1, bt345.2, bt349.1, bt349.2, 0))))) = some (r1, r2, r3, r4, r5) := by rw [if_pos rfl] at H; exact H
     clear H
     have H := H1
     clear H1
     replace H := Option.bind_eq_some_iff.mp H
     obtain ⟨⟨t341, t342⟩, A650, H⟩ := H
     try dsimp only at H
     have A65 := Aside0.mk A650
     clear A650
     replace H := Option.bind_eq_some_iff.mp H
     obtain ⟨⟨t345, t346⟩, A660, H⟩ := H
     try dsimp only at H
     have A66 := Aside0.mk A660
     clear A660
     replace H := Option.bind_eq_some_iff.mp H
     obtain ⟨⟨t349, t350⟩, A670, H⟩ := H
     try dsimp only at H
     have A67 := Aside0.mk A670
     clear A670
     simp only [Option.some.injEq, Prod.mk.injEq] at H
     obtain ⟨rfl, rfl, rfl, rfl, rfl⟩ := H
     try go_wp2
     replace HO_322001 := Aside0.mk (Kd.V_drew HO_322001.out)
     replace HO_324001 := Aside0.mk (Kd.V_drew HO_324001.out)
     replace HO_325001 := Aside0.mk (Kd.V_drew HO_325001.out)
     replace BK321 := Aside0.mk (blk_drew BK321.out)
     replace BK322 := Aside0.mk (blk_drew BK322.out)
     replace BK323 := Aside0.mk (blk_drew BK323.out)
     replace BK324 := Aside0.mk (blk_drew BK324.out)
     replace HB := Aside0.mk (below_drew1 HB.out)
     refine start_ (n := 8) (S := fun w' => w'.cell? ⟨gb323, 0, none⟩ = some (.bool t332) ∧ w'.cell? ⟨gb323, 1, none⟩ = some (.slice Ao43 t333.length co43) ∧ w'.cell? ⟨gb324, 0, none⟩ = some (.bool t336) ∧ w'.cell? ⟨gb324, 1, none⟩ = some (.slice Ao46 t337.length co46) ∧ w'.cell? ⟨gb322, 0, none⟩ = some (.bool a1_0) ∧ w'.cell? ⟨gb322, 1, none⟩ = some (.slice A1_1 l1_1.length c1_1)) (ds := [6, 7]) #[false, false, false, false, false, false, false, false] (by kernel_rfl) rfl rfl ⟨(blk_cell BK323.out 0).trans rfl, (blk_cell BK323.out 1).trans rfl, (blk_cell BK324.out 0).trans rfl, (blk_cell BK324.out 1).trans rfl, (blk_cell BK322.out 0).trans rfl, (blk_cell BK322.out 1).trans rfl⟩ (fun hHeld => ?_); refine with_tabW integer_DivMod.tab6 integer_DivMod.bits6 (fun HT_ HW_ => ?_)
     generalize wc.drew = w68 at HO_322001 HO_324001 HO_325001 BK321 BK322 BK323 BK324 HB hHeld ⊢
     refine take_ (i := 0) (N := some 43) (v := ?_) (a' := ?_) #[true, false, false, false, false, false, false, false] rfl rfl (take_ofW HT_.out HW_.out (by kernel_rfl)) (fun _ _ _ h => h) (Or.inl ⟨by rfl, ?_⟩) hHeld ?_ ?_
     rotate_left
     ·
      rintro w' ⟨s0, s1, s2, s3, s4, s5⟩
      go_simp
      with_reducible rfl
     rotate_left
     ·
      simp only [Act.put, List.setIfInBounds_toArray, List.set_cons_zero, List.set_cons_succ, i64_w, i32_w]
      rfl
     refine take_ (i := 3) (N := some 46) (v := ?_) (a' := ?_) #[true, false, false, true, false, false, false, false] rfl rfl (take_ofW HT_.out HW_.out (by kernel_rfl)) (fun _ _ _ h => h) (Or.inl ⟨by rfl, ?_⟩) hHeld ?_ ?_
     rotate_left
     ·
      rintro w' ⟨s0, s1, s2, s3, s4, s5⟩
      go_simp
      with_reducible rfl
     rotate_left
     ·
      simp only [Act.put, List.setIfInBounds_toArray, List.set_cons_zero, List.set_cons_succ, i64_w, i32_w]
      rfl
     refine take_ (i := 4) (N := some 47) (v := ?_) (a' := ?_) #[true, false, false, true, true, false, false, false] rfl rfl (take_ofW HT_.out HW_.out (by kernel_rfl)) (fun _ _ _ h => h) (Or.inl ⟨by rfl, ?_⟩) hHeld ?_ ?_
     rotate_left
     ·
      rintro w' ⟨s0, s1, s2, s3, s4, s5⟩
      go_simp
      with_reducible rfl
     rotate_left
     ·
      simp only [Act.put, List.setIfInBounds_toArray, List.set_cons_zero, List.set_cons_succ, i64_w, i32_w]
      rfl
     refine one_ (i := 1) (N := some 44) #[true, true, false, true, true, false, false, false] rfl rfl (one_of HT_.out (by kernel_rfl)) (by decide) (fun K hK => ?_)
     refine goes_ Tryd.func15 (by kernel_rfl) rfl #[.int .i64 1] (by rfl) rfl rfl (by (try simp only [List.map_toArray, List.map_cons, List.map_nil]); first | done | rfl | (simp only [List.length_drop, List.length_take]; rfl)) ?_
     with_reducible refine (integer_From.calls kj21 1 t341 t342 _ A65.out).mono ?_
     rintro e w69 ⟨v343, rfl, ho0, hb⟩
     refine ⟨_, rfl, ?_⟩
     replace HO_322001 := Aside0.mk (Kd.V_below (Kd.V_up HO_322001.out) hb)
     replace HO_324001 := Aside0.mk (Kd.V_below (Kd.V_up HO_324001.out) hb)
     replace HO_325001 := Aside0.mk (Kd.V_below (Kd.V_up HO_325001.out) hb)
     have HO344 := Aside0.mk (Kd.V_lower (Kd.V_mono (ok' := fun k_ => (P0_1_ k_ ∨ w.heap.size ≤ k_) ∧ k_ ≠ gb321 ∧ k_ ≠ gb322 ∧ k_ ≠ gb323 ∧ k_ ≠ gb324) ho0 (fun k_ hk_ => ⟨(.inr (Nat.le_trans (below_size (by repeat (first | (with_reducible first | exact HB.out | apply below_alloc | apply pw_below_drewN | apply below_drew1 | refine below_set ?_ GE321.out | refine below_set ?_ GE322.out | refine below_set ?_ GE323.out | refine below_set ?_ GE324.out) | exact HB.out))) hk_)), (Kd.freshB (g := gb321) (o := .cells #[.bool a0_0, .slice A0_1 l0_1.length c0_1] 25 (0, 0)) (blk_up BK321.out) k_ hk_), (Kd.freshB (g := gb322) (o := .cells #[.bool a1_0, .slice A1_1 l1_1.length c1_1] 25 (0, 0)) (blk_up BK322.out) k_ hk_), (Kd.freshB (g := gb323) (o := .cells #[.bool t332, .slice Ao43 t333.length co43] 25 (0, 0)) (blk_up BK323.out) k_ hk_), (Kd.freshB (g := gb324) (o := .cells #[.bool t336, .slice Ao46 t337.length co46] 25 (0, 0)) (blk_up BK324.out) k_ hk_)⟩)) (below_size (by repeat (first | (with_reducible first | exact HB.out | apply below_alloc | apply pw_below_drewN | apply below_drew1 | refine below_set ?_ GE321.out | refine below_set ?_ GE322.out | refine below_set ?_ GE323.out | refine below_set ?_ GE324.out) | exact HB.out))))
     replace BK321 := Aside0.mk (blk_below (g := gb321) (o := .cells #[.bool a0_0, .slice A0_1 l0_1.length c0_1] 25 (0, 0)) (blk_up BK321.out) hb)
     replace BK322 := Aside0.mk (blk_below (g := gb322) (o := .cells #[.bool a1_0, .slice A1_1 l1_1.length c1_1] 25 (0, 0)) (blk_up BK322.out) hb)
     replace BK323 := Aside0.mk (blk_below (g := gb323) (o := .cells #[.bool t332, .slice Ao43 t333.length co43] 25 (0, 0)) (blk_up BK323.out) hb)
     replace BK324 := Aside0.mk (blk_below (g := gb324) (o := .cells #[.bool t336, .slice Ao46 t337.length co46] 25 (0, 0)) (blk_up BK324.out) hb)
     replace HB := Aside0.mk (below_step (by repeat (first | (with_reducible first | exact HB.out | apply below_alloc | apply pw_below_drewN | apply below_drew1 | refine below_set ?_ GE321.out | refine below_set ?_ GE322.out | refine below_set ?_ GE323.out | refine below_set ?_ GE324.out) | exact HB.out)) hb)
     (try clear hb)
     (try clear hb2)
     (try clear hk)
     (try clear hi)
     (try clear ho0)
     obtain ⟨Ao70, co70, eo70⟩ := Kd.V_slice HO344.out
     (first | subst eo70 | (injection eo70 with f1_ f2_ f3_; have f4_ := f1_.symm; have f5_ := f3_.symm; clear f1_ f2_ f3_; subst f4_; subst f5_))
     refine hK.out _ _ ⟨(blk_cell BK323.out 0).trans rfl, (blk_cell BK323.out 1).trans rfl, (blk_cell BK324.out 0).trans rfl, (blk_cell BK324.out 1).trans rfl, (blk_cell BK322.out 0).trans rfl, (blk_cell BK322.out 1).trans rfl⟩ (fun hHeld => ?_)
     clear hK K
     refine norm_ (a' := ?_) ?_ ?_
     rotate_left
     ·
      show Act.put _ (some 44) _ = _
      simp only [Act.put, List.setIfInBounds_toArray, List.set_cons_zero, List.set_cons_succ, i64_w, i32_w]
      rfl
     refine one_ (i := 2) (N := some 45) #[true, true, true, true, true, false, false, false] rfl rfl (one_of HT_.out (by kernel_rfl)) (by decide) (fun K hK => ?_)
     refine goes_ Tryd.func37 (by kernel_rfl) rfl #[.agg #[.bool t332, .slice Ao43 t333.length co43], .agg #[.bool t341, .slice Ao70 t342.length co70]] (by rfl) rfl rfl (by (try simp only [List.map_toArray, List.map_cons, List.map_nil]); first | done | rfl | (simp only [List.length_drop, List.length_take]; rfl)) ?_
     with_reducible refine (integer_Sub.calls kj21 t332 _ _ t333 t341 (fun k_ => ((P0_1_ k_ ∨ w.heap.size ≤ k_) ∧ (k_ ≠ gb321 ∧ (k_ ≠ gb322 ∧ (k_ ≠ gb323 ∧ k_ ≠ gb324))))) _ _ t342 t345 t346 _ ?side1 ?side2 ?side3 A66.out).mono ?_
     (case side1 => repeat (first | exact (Kd.V_reads' HO_324001.out).2.2 | (with_reducible refine Kd.C_alloc ?_ _) | (with_reducible refine Kd.C_drewN ?_ _) | (with_reducible refine Kd.C_drew ?_)))
     (case side2 => exact (Kd.V_reads' HO_324001.out).2.1)
     (case side3 => exact HO344.out)
     rintro e w71 ⟨v347, rfl, ho0, hb⟩
     refine ⟨_, rfl, ?_⟩
     replace HO_322001 := Aside0.mk (Kd.V_below (Kd.V_up HO_322001.out) hb)
     replace HO_324001 := Aside0.mk (Kd.V_below (Kd.V_up HO_324001.out) hb)
     replace HO_325001 := Aside0.mk (Kd.V_below (Kd.V_up HO_325001.out) hb)
     replace HO344 := Aside0.mk (Kd.V_below (Kd.V_up HO344.out) hb)
     have HO348 := Aside0.mk (Kd.V_lower (Kd.V_mono (ok' := fun k_ => (P0_1_ k_ ∨ w.heap.size ≤ k_) ∧ k_ ≠ gb321 ∧ k_ ≠ gb322 ∧ k_ ≠ gb323 ∧ k_ ≠ gb324) ho0 (fun k_ hk_ => ⟨Or.elim hk_ (fun hs_ => hs_.1) (fun hn_ => (.inr (Nat.le_trans (below_size (by repeat (first | (with_reducible first | exact HB.out | apply below_alloc | apply pw_below_drewN | apply below_drew1 | refine below_set ?_ GE321.out | refine below_set ?_ GE322.out | refine below_set ?_ GE323.out | refine below_set ?_ GE324.out) | exact HB.out))) hn_))), Or.elim hk_ (fun hs_ => hs_.2.1) (fun hn_ => (Kd.freshB (g := gb321) (o := .cells #[.bool a0_0, .slice A0_1 l0_1.length c0_1] 25 (0, 0)) (blk_up BK321.out) k_ hn_)), Or.elim hk_ (fun hs_ => hs_.2.2.1) (fun hn_ => (Kd.freshB (g := gb322) (o := .cells #[.bool a1_0, .slice A1_1 l1_1.length c1_1] 25 (0, 0)) (blk_up BK322.out) k_ hn_)), Or.elim hk_ (fun hs_ => hs_.2.2.2.1) (fun hn_ => (Kd.freshB (g := gb323) (o := .cells #[.bool t332, .slice Ao43 t333.length co43] 25 (0, 0)) (blk_up BK323.out) k_ hn_)), Or.elim hk_ (fun hs_ => hs_.2.2.2.2) (fun hn_ => (Kd.freshB (g := gb324) (o := .cells #[.bool t336, .slice Ao46 t337.length co46] 25 (0, 0)) (blk_up BK324.out) k_ hn_))⟩)) (below_size (by repeat (first | (with_reducible first | exact HB.out | apply below_alloc | apply pw_below_drewN | apply below_drew1 | refine below_set ?_ GE321.out | refine below_set ?_ GE322.out | refine below_set ?_ GE323.out | refine below_set ?_ GE324.out) | exact HB.out))))
     replace BK321 := Aside0.mk (blk_below (g := gb321) (o := .cells #[.bool a0_0, .slice A0_1 l0_1.length c0_1] 25 (0, 0)) (blk_up BK321.out) hb)
     replace BK322 := Aside0.mk (blk_below (g := gb322) (o := .cells #[.bool a1_0, .slice A1_1 l1_1.length c1_1] 25 (0, 0)) (blk_up BK322.out) hb)
     replace BK323 := Aside0.mk (blk_below (g := gb323) (o := .cells #[.bool t332, .slice Ao43 t333.length co43] 25 (0, 0)) (blk_up BK323.out) hb)
     replace BK324 := Aside0.mk (blk_below (g := gb324) (o := .cells #[.bool t336, .slice Ao46 t337.length co46] 25 (0, 0)) (blk_up BK324.out) hb)
     replace HB := Aside0.mk (below_step (by repeat (first | (with_reducible first | exact HB.out | apply below_alloc | apply pw_below_drewN | apply below_drew1 | refine below_set ?_ GE321.out | refine below_set ?_ GE322.out | refine below_set ?_ GE323.out | refine below_set ?_ GE324.out) | exact HB.out)) hb)
     (try clear hb)
     (try clear hb2)
     (try clear hk)
     (try clear hi)
     (try clear ho0)
     refine hK.out _ _ ⟨(blk_cell BK323.out 0).trans rfl, (blk_cell BK323.out 1).trans rfl, (blk_cell BK324.out 0).trans rfl, (blk_cell BK324.out 1).trans rfl, (blk_cell BK322.out 0).trans rfl, (blk_cell BK322.out 1).trans rfl⟩ (fun hHeld => ?_)
     clear hK K
     refine norm_ (a' := ?_) ?_ ?_
     rotate_left
     ·
      show Act.put _ (some 45) _ = _
      simp only [Act.put, List.setIfInBounds_toArray, List.set_cons_zero, List.set_cons_succ, i64_w, i32_w]
      rfl
     refine one_ (i := 5) (N := some 48) #[true, true, true, true, true, true, false, false] rfl rfl (one_of HT_.out (by kernel_rfl)) (by decide) (fun K hK => ?_)
     refine goes_ Tryd.func35 (by kernel_rfl) rfl #[.agg #[.bool t336, .slice Ao46 t337.length co46], .agg #[.bool a1_0, .slice A1_1 l1_1.length c1_1]] (by rfl) rfl rfl (by (try simp only [List.map_toArray, List.map_cons, List.map_nil]); first | done | rfl | (simp only [List.length_drop, List.length_take]; rfl)) ?_
     with_reducible refine (integer_Add.calls kj21 t336 _ _ t337 a1_0 _ _ l1_1 t349 t350 _ ?side1 ?side2 ?side3 ?side4 A67.out).mono ?_
     (case side1 => repeat (first | exact (Kd.V_reads' HO_325001.out).2.2 | (with_reducible refine Kd.C_alloc ?_ _) | (with_reducible refine Kd.C_drewN ?_ _) | (with_reducible refine Kd.C_drew ?_)))
     (case side2 => exact (Kd.V_reads' HO_325001.out).2.1)
     (case side3 => repeat (first | exact (Kd.C_below HR1_1.out HB.out) | (with_reducible refine Kd.C_alloc ?_ _) | (with_reducible refine Kd.C_drewN ?_ _) | (with_reducible refine Kd.C_drew ?_)))
     (case side4 => exact HC1_1.out)
     rintro e w72 ⟨v351, rfl, ho0, hb⟩
     refine ⟨_, rfl, ?_⟩
     replace HO_322001 := Aside0.mk (Kd.V_below (Kd.V_up HO_322001.out) hb)
     replace HO_324001 := Aside0.mk (Kd.V_below (Kd.V_up HO_324001.out) hb)
     replace HO_325001 := Aside0.mk (Kd.V_below (Kd.V_up HO_325001.out) hb)
     replace HO344 := Aside0.mk (Kd.V_below (Kd.V_up HO344.out) hb)
     replace HO348 := Aside0.mk (Kd.V_below (Kd.V_up HO348.out) hb)
     have HO352 := Aside0.mk (Kd.V_lower (Kd.V_mono (ok' := fun k_ => (P0_1_ k_ ∨ w.heap.size ≤ k_) ∧ k_ ≠ gb321 ∧ k_ ≠ gb322 ∧ k_ ≠ gb323 ∧ k_ ≠ gb324) ho0 (fun k_ hk_ => ⟨(.inr (Nat.le_trans (below_size (by repeat (first | (with_reducible first | exact HB.out | apply below_alloc | apply pw_below_drewN | apply below_drew1 | refine below_set ?_ GE321.out | refine below_set ?_ GE322.out | refine below_set ?_ GE323.out | refine below_set ?_ GE324.out) | exact HB.out))) hk_)), (Kd.freshB (g := gb321) (o := .cells #[.bool a0_0, .slice A0_1 l0_1.length c0_1] 25 (0, 0)) (blk_up BK321.out) k_ hk_), (Kd.freshB (g := gb322) (o := .cells #[.bool a1_0, .slice A1_1 l1_1.length c1_1] 25 (0, 0)) (blk_up BK322.out) k_ hk_), (Kd.freshB (g := gb323) (o := .cells #[.bool t332, .slice Ao43 t333.length co43] 25 (0, 0)) (blk_up BK323.out) k_ hk_), (Kd.freshB (g := gb324) (o := .cells #[.bool t336, .slice Ao46 t337.length co46] 25 (0, 0)) (blk_up BK324.out) k_ hk_)⟩)) (below_size (by repeat (first | (with_reducible first | exact HB.out | apply below_alloc | apply pw_below_drewN | apply below_drew1 | refine below_set ?_ GE321.out | refine below_set ?_ GE322.out | refine below_set ?_ GE323.out | refine below_set ?_ GE324.out) | exact HB.out))))
     replace BK321 := Aside0.mk (blk_below (g := gb321) (o := .cells #[.bool a0_0, .slice A0_1 l0_1.length c0_1] 25 (0, 0)) (blk_up BK321.out) hb)
     replace BK322 := Aside0.mk (blk_below (g := gb322) (o := .cells #[.bool a1_0, .slice A1_1 l1_1.length c1_1] 25 (0, 0)) (blk_up BK322.out) hb)
     replace BK323 := Aside0.mk (blk_below (g := gb323) (o := .cells #[.bool t332, .slice Ao43 t333.length co43] 25 (0, 0)) (blk_up BK323.out) hb)
     replace BK324 := Aside0.mk (blk_below (g := gb324) (o := .cells #[.bool t336, .slice Ao46 t337.length co46] 25 (0, 0)) (blk_up BK324.out) hb)
     replace HB := Aside0.mk (below_step (by repeat (first | (with_reducible first | exact HB.out | apply below_alloc | apply pw_below_drewN | apply below_drew1 | refine below_set ?_ GE321.out | refine below_set ?_ GE322.out | refine below_set ?_ GE323.out | refine below_set ?_ GE324.out) | exact HB.out)) hb)
     (try clear hb)
     (try clear hb2)
     (try clear hk)
     (try clear hi)
     (try clear ho0)
     obtain ⟨Ao74, co74, eo74⟩ := Kd.V_slice HO348.out
     (first | subst eo74 | (injection eo74 with f1_ f2_ f3_; have f4_ := f1_.symm; have f5_ := f3_.symm; clear f1_ f2_ f3_; subst f4_; subst f5_))
     obtain ⟨Ao77, co77, eo77⟩ := Kd.V_slice HO352.out
     (first | subst eo77 | (injection eo77 with f1_ f2_ f3_; have f4_ := f1_.symm; have f5_ := f3_.symm; clear f1_ f2_ f3_; subst f4_; subst f5_))
     refine hK.out _ _ ⟨(blk_cell BK323.out 0).trans rfl, (blk_cell BK323.out 1).trans rfl, (blk_cell BK324.out 0).trans rfl, (blk_cell BK324.out 1).trans rfl, (blk_cell BK322.out 0).trans rfl, (blk_cell BK322.out 1).trans rfl⟩ (fun hHeld => ?_)
     clear hK K
     refine norm_ (a' := ?_) ?_ ?_
     rotate_left
     ·
      show Act.put _ (some 48) _ = _
      simp only [Act.put, List.setIfInBounds_toArray, List.set_cons_zero, List.set_cons_succ, i64_w, i32_w]
      rfl
     refine last_ (i := 6) (N := none) #[true, true, true, true, true, true, true, false] rfl rfl (one_of HT_.out (by kernel_rfl)) (by decide) (fun K hK => ?_)
     have hs73 : w72.cell? ⟨gb323, 0, none⟩ = some (.bool t332) := (blk_cell BK323.out 0).trans rfl
     have hfs73 := blk_frozen BK323.out 0
     have hns73_0 := NB321_323.out
     have hns73_1 := NB322_323.out
     have hns73_3 := NB324_323.out
     have hms73_0 := NB323_321.out
     have hms73_1 := NB323_322.out
     have hms73_3 := NB323_324.out
     have hs75 : w72.cell? ⟨gb323, 1, none⟩ = some (.slice Ao43 t333.length co43) := (blk_cell BK323.out 1).trans rfl
     have hfs75 := blk_frozen BK323.out 1
     have hns75_0 := NB321_323.out
     have hns75_1 := NB322_323.out
     have hns75_3 := NB324_323.out
     have hms75_0 := NB323_321.out
     have hms75_1 := NB323_322.out
     have hms75_3 := NB323_324.out
     refine skip_ (w1 := ?_) (by rfl) rfl ?_ ?_
     rotate_left
     ·
      go_simp
      rfl
     refine hK.out _ _ ?_
     clear hK K
     refine last_ (i := 7) (N := none) #[true, true, true, true, true, true, true, true] rfl rfl (one_of HT_.out (by kernel_rfl)) (by decide) (fun K hK => ?_)
     have hs76 : w72.cell? ⟨gb324, 0, none⟩ = some (.bool t336) := (blk_cell BK324.out 0).trans rfl
     have hfs76 := blk_frozen BK324.out 0
     have hns76_0 := NB321_324.out
     have hns76_1 := NB322_324.out
     have hns76_2 := NB323_324.out
     have hms76_0 := NB324_321.out
     have hms76_1 := NB324_322.out
     have hms76_2 := NB324_323.out
     have hs78 : w72.cell? ⟨gb324, 1, none⟩ = some (.slice Ao46 t337.length co46) := (blk_cell BK324.out 1).trans rfl
     have hfs78 := blk_frozen BK324.out 1
     have hns78_0 := NB321_324.out
     have hns78_1 := NB322_324.out
     have hns78_2 := NB323_324.out
     have hms78_0 := NB324_321.out
     have hms78_1 := NB324_322.out
     have hms78_2 := NB324_323.out
     refine skip_ (w1 := ?_) (by rfl) rfl ?_ ?_
     rotate_left
     ·
      go_simp
      rfl
     refine hK.out _ _ ?_
     clear hK K
     refine done_ (done_of HT_.out (by kernel_rfl)) ?_
     try go_wp2
     have n0_ : Aside0 (Kd.V (Kd.int .u32) 60 ((((w72.setCell ⟨gb323, 0, none⟩ (.bool t345)).setCell ⟨gb323, 1, none⟩ (.slice Ao74 t346.length co74)).setCell ⟨gb324, 0, none⟩ (.bool t349)).setCell ⟨gb324, 1, none⟩ (.slice Ao77 t350.length co77)) w.heap.size (fun k_ => (P0_1_ k_ ∨ w.heap.size ≤ k_) ∧ k_ ≠ gb321 ∧ k_ ≠ gb322 ∧ k_ ≠ gb323 ∧ k_ ≠ gb324) (.slice A0_1 l0_1.length c0_1) l0_1) := ⟨Kd.V_up (Kd.V_mono (Kd.V_far (p := ⟨gb324, 1, none⟩) (Kd.V_far (p := ⟨gb324, 0, none⟩) (Kd.V_far (p := ⟨gb323, 1, none⟩) (Kd.V_far (p := ⟨gb323, 0, none⟩) (Kd.V_mono (Kd.V_mono HO_322001.out (fun k_ hk => (⟨hk, hk.2.2.2.1⟩ : _ ∧ k_ ≠ gb323))) (fun k_ hk => (⟨hk, hk.1.2.2.2.2⟩ : _ ∧ k_ ≠ gb324))) (fun _ hk => hk.1.2) (.bool t345)) (fun _ hk => hk.1.2) (.slice Ao74 t346.length co74)) (fun _ hk => hk.2) (.bool t349)) (fun _ hk => hk.2) (.slice Ao77 t350.length co77)) (fun _ hk => ⟨hk.1.1.1, ⟨hk.1.1.2.1, ⟨hk.1.1.2.2.1, ⟨hk.1.1.2.2.2.1, hk.1.1.2.2.2.2⟩⟩⟩⟩))⟩
     have n1_ : Aside0 (Kd.V (Kd.int .u32) 60 ((((w72.setCell ⟨gb323, 0, none⟩ (.bool t345)).setCell ⟨gb323, 1, none⟩ (.slice Ao74 t346.length co74)).setCell ⟨gb324, 0, none⟩ (.bool t349)).setCell ⟨gb324, 1, none⟩ (.slice Ao77 t350.length co77)) w.heap.size (fun k_ => (P0_1_ k_ ∨ w.heap.size ≤ k_) ∧ k_ ≠ gb321 ∧ k_ ≠ gb322 ∧ k_ ≠ gb323 ∧ k_ ≠ gb324) (.slice Ao43 t333.length co43) t333) := ⟨Kd.V_up (Kd.V_mono (Kd.V_far (p := ⟨gb324, 1, none⟩) (Kd.V_far (p := ⟨gb324, 0, none⟩) (Kd.V_far (p := ⟨gb323, 1, none⟩) (Kd.V_far (p := ⟨gb323, 0, none⟩) (Kd.V_mono (Kd.V_mono HO_324001.out (fun k_ hk => (⟨hk, hk.2.2.2.1⟩ : _ ∧ k_ ≠ gb323))) (fun k_ hk => (⟨hk, hk.1.2.2.2.2⟩ : _ ∧ k_ ≠ gb324))) (fun _ hk => hk.1.2) (.bool t345)) (fun _ hk => hk.1.2) (.slice Ao74 t346.length co74)) (fun _ hk => hk.2) (.bool t349)) (fun _ hk => hk.2) (.slice Ao77 t350.length co77)) (fun _ hk => ⟨hk.1.1.1, ⟨hk.1.1.2.1, ⟨hk.1.1.2.2.1, ⟨hk.1.1.2.2.2.1, hk.1.1.2.2.2.2⟩⟩⟩⟩))⟩
     have n2_ : Aside0 (Kd.V (Kd.int .u32) 60 ((((w72.setCell ⟨gb323, 0, none⟩ (.bool t345)).setCell ⟨gb323, 1, none⟩ (.slice Ao74 t346.length co74)).setCell ⟨gb324, 0, none⟩ (.bool t349)).setCell ⟨gb324, 1, none⟩ (.slice Ao77 t350.length co77)) w.heap.size (fun k_ => (P0_1_ k_ ∨ w.heap.size ≤ k_) ∧ k_ ≠ gb321 ∧ k_ ≠ gb322 ∧ k_ ≠ gb323 ∧ k_ ≠ gb324) (.slice Ao46 t337.length co46) t337) := ⟨Kd.V_up (Kd.V_mono (Kd.V_far (p := ⟨gb324, 1, none⟩) (Kd.V_far (p := ⟨gb324, 0, none⟩) (Kd.V_far (p := ⟨gb323, 1, none⟩) (Kd.V_far (p := ⟨gb323, 0, none⟩) (Kd.V_mono (Kd.V_mono HO_325001.out (fun k_ hk => (⟨hk, hk.2.2.2.1⟩ : _ ∧ k_ ≠ gb323))) (fun k_ hk => (⟨hk, hk.1.2.2.2.2⟩ : _ ∧ k_ ≠ gb324))) (fun _ hk => hk.1.2) (.bool t345)) (fun _ hk => hk.1.2) (.slice Ao74 t346.length co74)) (fun _ hk => hk.2) (.bool t349)) (fun _ hk => hk.2) (.slice Ao77 t350.length co77)) (fun _ hk => ⟨hk.1.1.1, ⟨hk.1.1.2.1, ⟨hk.1.1.2.2.1, ⟨hk.1.1.2.2.2.1, hk.1.1.2.2.2.2⟩⟩⟩⟩))⟩
     have n3_ : Aside0 (Kd.V (Kd.int .u32) 60 ((((w72.setCell ⟨gb323, 0, none⟩ (.bool t345)).setCell ⟨gb323, 1, none⟩ (.slice Ao74 t346.length co74)).setCell ⟨gb324, 0, none⟩ (.bool t349)).setCell ⟨gb324, 1, none⟩ (.slice Ao77 t350.length co77)) w.heap.size (fun k_ => (P0_1_ k_ ∨ w.heap.size ≤ k_) ∧ k_ ≠ gb321 ∧ k_ ≠ gb322 ∧ k_ ≠ gb323 ∧ k_ ≠ gb324) (.slice Ao70 t342.length co70) t342) := ⟨Kd.V_up (Kd.V_mono (Kd.V_far (p := ⟨gb324, 1, none⟩) (Kd.V_far (p := ⟨gb324, 0, none⟩) (Kd.V_far (p := ⟨gb323, 1, none⟩) (Kd.V_far (p := ⟨gb323, 0, none⟩) (Kd.V_mono (Kd.V_mono HO344.out (fun k_ hk => (⟨hk, hk.2.2.2.1⟩ : _ ∧ k_ ≠ gb323))) (fun k_ hk => (⟨hk, hk.1.2.2.2.2⟩ : _ ∧ k_ ≠ gb324))) (fun _ hk => hk.1.2) (.bool t345)) (fun _ hk => hk.1.2) (.slice Ao74 t346.length co74)) (fun _ hk => hk.2) (.bool t349)) (fun _ hk => hk.2) (.slice Ao77 t350.length co77)) (fun _ hk => ⟨hk.1.1.1, ⟨hk.1.1.2.1, ⟨hk.1.1.2.2.1, ⟨hk.1.1.2.2.2.1, hk.1.1.2.2.2.2⟩⟩⟩⟩))⟩
     have n4_ : Aside0 (Kd.V (Kd.int .u32) 60 ((((w72.setCell ⟨gb323, 0, none⟩ (.bool t345)).setCell ⟨gb323, 1, none⟩ (.slice Ao74 t346.length co74)).setCell ⟨gb324, 0, none⟩ (.bool t349)).setCell ⟨gb324, 1, none⟩ (.slice Ao77 t350.length co77)) w.heap.size (fun k_ => (P0_1_ k_ ∨ w.heap.size ≤ k_) ∧ k_ ≠ gb321 ∧ k_ ≠ gb322 ∧ k_ ≠ gb323 ∧ k_ ≠ gb324) (.slice Ao74 t346.length co74) t346) := ⟨Kd.V_up (Kd.V_mono (Kd.V_far (p := ⟨gb324, 1, none⟩) (Kd.V_far (p := ⟨gb324, 0, none⟩) (Kd.V_far (p := ⟨gb323, 1, none⟩) (Kd.V_far (p := ⟨gb323, 0, none⟩) (Kd.V_mono (Kd.V_mono HO348.out (fun k_ hk => (⟨hk, hk.2.2.2.1⟩ : _ ∧ k_ ≠ gb323))) (fun k_ hk => (⟨hk, hk.1.2.2.2.2⟩ : _ ∧ k_ ≠ gb324))) (fun _ hk => hk.1.2) (.bool t345)) (fun _ hk => hk.1.2) (.slice Ao74 t346.length co74)) (fun _ hk => hk.2) (.bool t349)) (fun _ hk => hk.2) (.slice Ao77 t350.length co77)) (fun _ hk => ⟨hk.1.1.1, ⟨hk.1.1.2.1, ⟨hk.1.1.2.2.1, ⟨hk.1.1.2.2.2.1, hk.1.1.2.2.2.2⟩⟩⟩⟩))⟩
     have n5_ : Aside0 (Kd.V (Kd.int .u32) 60 ((((w72.setCell ⟨gb323, 0, none⟩ (.bool t345)).setCell ⟨gb323, 1, none⟩ (.slice Ao74 t346.length co74)).setCell ⟨gb324, 0, none⟩ (.bool t349)).setCell ⟨gb324, 1, none⟩ (.slice Ao77 t350.length co77)) w.heap.size (fun k_ => (P0_1_ k_ ∨ w.heap.size ≤ k_) ∧ k_ ≠ gb321 ∧ k_ ≠ gb322 ∧ k_ ≠ gb323 ∧ k_ ≠ gb324) (.slice Ao77 t350.length co77) t350) := ⟨Kd.V_up (Kd.V_mono (Kd.V_far (p := ⟨gb324, 1, none⟩) (Kd.V_far (p := ⟨gb324, 0, none⟩) (Kd.V_far (p := ⟨gb323, 1, none⟩) (Kd.V_far (p := ⟨gb323, 0, none⟩) (Kd.V_mono (Kd.V_mono HO352.out (fun k_ hk => (⟨hk, hk.2.2.2.1⟩ : _ ∧ k_ ≠ gb323))) (fun k_ hk => (⟨hk, hk.1.2.2.2.2⟩ : _ ∧ k_ ≠ gb324))) (fun _ hk => hk.1.2) (.bool t345)) (fun _ hk => hk.1.2) (.slice Ao74 t346.length co74)) (fun _ hk => hk.2) (.bool t349)) (fun _ hk => hk.2) (.slice Ao77 t350.length co77)) (fun _ hk => ⟨hk.1.1.1, ⟨hk.1.1.2.1, ⟨hk.1.1.2.2.1, ⟨hk.1.1.2.2.2.1, hk.1.1.2.2.2.2⟩⟩⟩⟩))⟩
     have n6_ : Aside0 (((((w72.setCell ⟨gb323, 0, none⟩ (.bool t345)).setCell ⟨gb323, 1, none⟩ (.slice Ao74 t346.length co74)).setCell ⟨gb324, 0, none⟩ (.bool t349)).setCell ⟨gb324, 1, none⟩ (.slice Ao77 t350.length co77)).heap[gb321]? = some (.cells #[.bool a0_0, .slice A0_1 l0_1.length c0_1] 25 (0, 0))) := ⟨by (with_reducible repeat (first | refine blk_drewN ?_ _ | refine blk_drew ?_ | refine blk_alloc ?_ _)); refine blk_far ?_ NB321_324.out _; refine blk_ups ?_; refine blk_far ?_ NB321_324.out _; refine blk_ups ?_; refine blk_far ?_ NB321_323.out _; refine blk_ups ?_; refine blk_far ?_ NB321_323.out _; exact blk_up BK321.out⟩
     have n7_ : Aside0 (((((w72.setCell ⟨gb323, 0, none⟩ (.bool t345)).setCell ⟨gb323, 1, none⟩ (.slice Ao74 t346.length co74)).setCell ⟨gb324, 0, none⟩ (.bool t349)).setCell ⟨gb324, 1, none⟩ (.slice Ao77 t350.length co77)).heap[gb322]? = some (.cells #[.bool a1_0, .slice A1_1 l1_1.length c1_1] 25 (0, 0))) := ⟨by (with_reducible repeat (first | refine blk_drewN ?_ _ | refine blk_drew ?_ | refine blk_alloc ?_ _)); refine blk_far ?_ NB322_324.out _; refine blk_ups ?_; refine blk_far ?_ NB322_324.out _; refine blk_ups ?_; refine blk_far ?_ NB322_323.out _; refine blk_ups ?_; refine blk_far ?_ NB322_323.out _; exact blk_up BK322.out⟩
     have n8_ : Aside0 (((((w72.setCell ⟨gb323, 0, none⟩ (.bool t345)).setCell ⟨gb323, 1, none⟩ (.slice Ao74 t346.length co74)).setCell ⟨gb324, 0, none⟩ (.bool t349)).setCell ⟨gb324, 1, none⟩ (.slice Ao77 t350.length co77)).heap[gb323]? = some (.cells #[.bool t345, .slice Ao74 t346.length co74] 25 (0, 0))) := ⟨by (with_reducible repeat (first | refine blk_drewN ?_ _ | refine blk_drew ?_ | refine blk_alloc ?_ _)); refine blk_far ?_ NB323_324.out _; refine blk_ups ?_; refine blk_far ?_ NB323_324.out _; refine blk_ups ?_; refine blk_put (cs := #[.bool t345, .slice Ao43 t333.length co43]) ?_ 1 _ rfl; refine blk_ups ?_; refine blk_put (cs := #[.bool t332, .slice Ao43 t333.length co43]) ?_ 0 _ rfl; exact blk_up BK323.out⟩
     have n9_ : Aside0 (((((w72.setCell ⟨gb323, 0, none⟩ (.bool t345)).setCell ⟨gb323, 1, none⟩ (.slice Ao74 t346.length co74)).setCell ⟨gb324, 0, none⟩ (.bool t349)).setCell ⟨gb324, 1, none⟩ (.slice Ao77 t350.length co77)).heap[gb324]? = some (.cells #[.bool t349, .slice Ao77 t350.length co77] 25 (0, 0))) := ⟨by (with_reducible repeat (first | refine blk_drewN ?_ _ | refine blk_drew ?_ | refine blk_alloc ?_ _)); refine blk_put (cs := #[.bool t349, .slice Ao46 t337.length co46]) ?_ 1 _ rfl; refine blk_ups ?_; refine blk_put (cs := #[.bool t336, .slice Ao46 t337.length co46]) ?_ 0 _ rfl; refine blk_ups ?_; refine blk_far ?_ NB324_323.out _; refine blk_ups ?_; refine blk_far ?_ NB324_323.out _; exact blk_up BK324.out⟩
     have n10_ : Aside0 (Below w.heap.size w ((((w72.setCell ⟨gb323, 0, none⟩ (.bool t345)).setCell ⟨gb323, 1, none⟩ (.slice Ao74 t346.length co74)).setCell ⟨gb324, 0, none⟩ (.bool t349)).setCell ⟨gb324, 1, none⟩ (.slice Ao77 t350.length co77))) := ⟨by repeat (first | (with_reducible first | exact HB.out | apply below_alloc | apply pw_below_drewN | apply below_drew1 | refine below_set ?_ GE321.out | refine below_set ?_ GE322.out | refine below_set ?_ GE323.out | refine below_set ?_ GE324.out) | exact HB.out)⟩
     (try clear HO_322001)
     (try clear HO_324001)
     (try clear HO_325001)
     (try clear HO344)
     (try clear HO348)
     (try clear HO352)
     (try clear BK321)
     (try clear BK322)
     (try clear BK323)
     (try clear BK324)
     (try clear HB)
     generalize ((((w72.setCell ⟨gb323, 0, none⟩ (.bool t345)).setCell ⟨gb323, 1, none⟩ (.slice Ao74 t346.length co74)).setCell ⟨gb324, 0, none⟩ (.bool t349)).setCell ⟨gb324, 1, none⟩ (.slice Ao77 t350.length co77)) = w79 at n0_ n1_ n2_ n3_ n4_ n5_ n6_ n7_ n8_ n9_ n10_ ⊢
     have HO_322001 := n0_
     have HO_324001 := n1_
     have HO_325001 := n2_
     have HO344 := n3_
     have HO348 := n4_
     have HO352 := n5_
     have BK321 := n6_
     have BK322 := n7_
     have BK323 := n8_
     have BK324 := n9_
     have HB := n10_
     clear n0_ n1_ n2_ n3_ n4_ n5_ n6_ n7_ n8_ n9_ n10_
     replace HO_322001 := Aside0.mk (Kd.V_drew HO_322001.out)
     replace HO_324001 := Aside0.mk (Kd.V_drew HO_324001.out)
     replace HO_325001 := Aside0.mk (Kd.V_drew HO_325001.out)
     replace HO344 := Aside0.mk (Kd.V_drew HO344.out)
     replace HO348 := Aside0.mk (Kd.V_drew HO348.out)
     replace HO352 := Aside0.mk (Kd.V_drew HO352.out)
     replace BK321 := Aside0.mk (blk_drew BK321.out)
     replace BK322 := Aside0.mk (blk_drew BK322.out)
     replace BK323 := Aside0.mk (blk_drew BK323.out)
     replace BK324 := Aside0.mk (blk_drew BK324.out)
     replace HB := Aside0.mk (below_drew1 HB.out)
     refine start_ (n := 5) (S := fun w' => w'.cell? ⟨gb323, 0, none⟩ = some (.bool t345) ∧ w'.cell? ⟨gb323, 1, none⟩ = some (.slice Ao74 t346.length co74) ∧ w'.cell? ⟨gb324, 0, none⟩ = some (.bool t349) ∧ w'.cell? ⟨gb324, 1, none⟩ = some (.slice Ao77 t350.length co77)) (ds := []) #[false, false, false, false, false] (by kernel_rfl) rfl rfl ⟨(blk_cell BK323.out 0).trans rfl, (blk_cell BK323.out 1).trans rfl, (blk_cell BK324.out 0).trans rfl, (blk_cell BK324.out 1).trans rfl⟩ (fun hHeld => ?_)
     generalize w79.drew = w80 at HO_322001 HO_324001 HO_325001 HO344 HO348 HO352 BK321 BK322 BK323 BK324 HB hHeld ⊢
     refine take_ (i := 0) (N := some 49) (v := ?_) (a' := ?_) #[true, false, false, false, false] rfl rfl (by kernel_rfl) (fun _ _ _ h => h) (Or.inl ⟨by rfl, ?_⟩) hHeld ?_ ?_
     rotate_left
     ·
      rintro w' ⟨s0, s1, s2, s3⟩
      go_simp
      with_reducible rfl
     rotate_left
     ·
      simp only [Act.put, List.setIfInBounds_toArray, List.set_cons_zero, List.set_cons_succ, i64_w, i32_w]
      rfl
     refine take_ (i := 1) (N := some 50) (v := ?_) (a' := ?_) #[true, true, false, false, false] rfl rfl (by kernel_rfl) (fun _ _ _ h => h) (Or.inl ⟨by rfl, ?_⟩) hHeld ?_ ?_
     rotate_left
     ·
      rintro w' ⟨s0, s1, s2, s3⟩
      go_simp
      with_reducible rfl
     rotate_left
     ·
      simp only [Act.put, List.setIfInBounds_toArray, List.set_cons_zero, List.set_cons_succ, i64_w, i32_w]
      rfl
     refine one_ (i := 2) (N := none) #[true, true, true, false, false] rfl rfl (by kernel_rfl) (by decide) (fun K hK => ?_)
     have hs81 : w80.cell? ⟨gb323, 0, none⟩ = some (.bool t345) := (blk_cell BK323.out 0).trans rfl
     have hfs81 := blk_frozen BK323.out 0
     have hns81_0 := NB321_323.out
     have hns81_1 := NB322_323.out
     have hns81_3 := NB324_323.out
     have hms81_0 := NB323_321.out
     have hms81_1 := NB323_322.out
     have hms81_3 := NB323_324.out
     have hs82 : w80.cell? ⟨gb323, 1, none⟩ = some (.slice Ao74 t346.length co74) := (blk_cell BK323.out 1).trans rfl
     have hfs82 := blk_frozen BK323.out 1
     have hns82_0 := NB321_323.out
     have hns82_1 := NB322_323.out
     have hns82_3 := NB324_323.out
     have hms82_0 := NB323_321.out
     have hms82_1 := NB323_322.out
     have hms82_3 := NB323_324.out
     refine skip_ (w1 := ?_) (by rfl) rfl ?_ ?_
     rotate_left
     ·
      go_simp
      rfl
     refine hK.out _ _ ⟨(cell_same ((cell_same (hHeld.1) (hHeld.1))) ((cell_same (hHeld.2.1) (hHeld.1)))), (cell_same ((cell_same (hHeld.2.1) (hHeld.1))) ((cell_same (hHeld.2.1) (hHeld.1)))), ((cell_far (p := ⟨gb323, _, none⟩) NB324_323.out _).trans (((cell_far (p := ⟨gb323, _, none⟩) NB324_323.out _).trans (hHeld.2.2.1)))), ((cell_far (p := ⟨gb323, _, none⟩) NB324_323.out _).trans (((cell_far (p := ⟨gb323, _, none⟩) NB324_323.out _).trans (hHeld.2.2.2))))⟩ (fun hHeld => ?_)
     clear hK K
     refine one_ (i := 3) (N := none) #[true, true, true, true, false] rfl rfl (by kernel_rfl) (by decide) (fun K hK => ?_)
     have hs83 : w80.cell? ⟨gb324, 0, none⟩ = some (.bool t349) := (blk_cell BK324.out 0).trans rfl
     have hfs83 := blk_frozen BK324.out 0
     have hns83_0 := NB321_324.out
     have hns83_1 := NB322_324.out
     have hns83_2 := NB323_324.out
     have hms83_0 := NB324_321.out
     have hms83_1 := NB324_322.out
     have hms83_2 := NB324_323.out
     have hs84 : w80.cell? ⟨gb324, 1, none⟩ = some (.slice Ao77 t350.length co77) := (blk_cell BK324.out 1).trans rfl
     have hfs84 := blk_frozen BK324.out 1
     have hns84_0 := NB321_324.out
     have hns84_1 := NB322_324.out
     have hns84_2 := NB323_324.out
     have hms84_0 := NB324_321.out
     have hms84_1 := NB324_322.out
     have hms84_2 := NB324_323.out
     refine skip_ (w1 := ?_) (by rfl) rfl ?_ ?_
     rotate_left
     ·
      go_simp
      rfl
     refine hK.out _ _ ⟨((cell_far (p := ⟨gb324, _, none⟩) NB323_324.out _).trans (((cell_far (p := ⟨gb324, _, none⟩) NB323_324.out _).trans (hHeld.1)))), ((cell_far (p := ⟨gb324, _, none⟩) NB323_324.out _).trans (((cell_far (p := ⟨gb324, _, none⟩) NB323_324.out _).trans (hHeld.2.1)))), (cell_same ((cell_same (hHeld.2.2.1) (hHeld.2.2.1))) ((cell_same (hHeld.2.2.2) (hHeld.2.2.1)))), (cell_same ((cell_same (hHeld.2.2.2) (hHeld.2.2.1))) ((cell_same (hHeld.2.2.2) (hHeld.2.2.1))))⟩ (fun hHeld => ?_)
     clear hK K
     refine pure_ (i := 4) (N := some 6) (v := ?_) (a' := ?_) #[true, true, true, true, true] rfl rfl (by kernel_rfl) (fun _ _ _ h => h) (Or.inl ⟨by rfl, ?_⟩) ?_ ?_
     rotate_left
     ·
      intro w'
      go_simp
      with_reducible rfl
     rotate_left
     ·
      simp only [Act.put, List.setIfInBounds_toArray, List.set_cons_zero, List.set_cons_succ, i64_w, i32_w]
      rfl
     refine done_ (by kernel_rfl) ?_
     try go_wp2
     refine bodyPost_ret (results_list (rs := [.cell 4 25, .cell 5 25, .tmp 6]) rfl (by simp) (.cell gb323 25 #[.bool t345, .slice Ao74 t346.length co74] (0, 0) _ rfl (by refine blk_ups ?_; refine blk_far ?_ NB323_324.out _; refine blk_ups ?_; refine blk_far ?_ NB323_324.out _; refine blk_ups ?_; refine blk_put (cs := #[.bool t345, .slice Ao74 t346.length co74]) ?_ 1 _ rfl; refine blk_ups ?_; refine blk_put (cs := #[.bool t345, .slice Ao74 t346.length co74]) ?_ 0 _ rfl; exact blk_up BK323.out) Tryd.underlying25 rfl (by kernel_rfl) (.cell gb324 25 #[.bool t349, .slice Ao77 t350.length co77] (0, 0) _ rfl (by refine blk_ups ?_; refine blk_put (cs := #[.bool t349, .slice Ao77 t350.length co77]) ?_ 1 _ rfl; refine blk_ups ?_; refine blk_put (cs := #[.bool t349, .slice Ao77 t350.length co77]) ?_ 0 _ rfl; refine blk_ups ?_; refine blk_far ?_ NB324_323.out _; refine blk_ups ?_; refine blk_far ?_ NB324_323.out _; exact blk_up BK324.out) Tryd.underlying25 rfl (by kernel_rfl) (.tmp .nil)))) rfl ?_
     exact ⟨_, _, by first | rfl | (simp [errW_none, errW_some] <;> rfl) | (simp [*, errW_none, errW_some] <;> rfl), Kd.V_up (Kd.V_mono (Kd.V_far (p := ⟨gb324, 1, none⟩) (Kd.V_far (p := ⟨gb324, 0, none⟩) (Kd.V_far (p := ⟨gb323, 1, none⟩) (Kd.V_far (p := ⟨gb323, 0, none⟩) (Kd.V_mono (Kd.V_mono HO348.out (fun k_ hk => (⟨hk, hk.2.2.2.1⟩ : _ ∧ k_ ≠ gb323))) (fun k_ hk => (⟨hk, hk.1.2.2.2.2⟩ : _ ∧ k_ ≠ gb324))) (fun _ hk => hk.1.2) (.bool t345)) (fun _ hk => hk.1.2) (.slice Ao74 t346.length co74)) (fun _ hk => hk.2) (.bool t349)) (fun _ hk => hk.2) (.slice Ao77 t350.length co77)) (fun _ hk => hk.1.1.1)), Kd.V_up (Kd.V_mono (Kd.V_far (p := ⟨gb324, 1, none⟩) (Kd.V_far (p := ⟨gb324, 0, none⟩) (Kd.V_far (p := ⟨gb323, 1, none⟩) (Kd.V_far (p := ⟨gb323, 0, none⟩) (Kd.V_mono (Kd.V_mono HO352.out (fun k_ hk => (⟨hk, hk.2.2.2.1⟩ : _ ∧ k_ ≠ gb323))) (fun k_ hk => (⟨hk, hk.1.2.2.2.2⟩ : _ ∧ k_ ≠ gb324))) (fun _ hk => hk.1.2) (.bool t345)) (fun _ hk => hk.1.2) (.slice Ao74 t346.length co74)) (fun _ hk => hk.2) (.bool t349)) (fun _ hk => hk.2) (.slice Ao77 t350.length co77)) (fun _ hk => hk.1.1.1)), by repeat (first | (with_reducible first | exact HB.out | apply below_alloc | apply pw_below_drewN | apply below_drew1 | refine below_set ?_ GE321.out | refine below_set ?_ GE322.out | refine below_set ?_ GE323.out | refine below_set ?_ GE324.out) | exact HB.out)⟩
    ·
     replace c64 := Bool.eq_false_iff.mpr c64
     subst c64
     have H1 : (some (t332, t333, t336, t337, 0)) = some (r1, r2, r3, r4, r5) := by rw [if_neg (show ¬ (false = true) by decide)] at H; exact H
     clear H
     have H := H1
     clear H1
     simp only [Option.some.injEq, Prod.mk.injEq] at H
     obtain ⟨rfl, rfl, rfl, rfl, rfl⟩ := H
     try go_wp2
     replace HO_322001 := Aside0.mk (Kd.V_drew HO_322001.out)
     replace HO_324001 := Aside0.mk (Kd.V_drew HO_324001.out)
     replace HO_325001 := Aside0.mk (Kd.V_drew HO_325001.out)
     replace BK321 := Aside0.mk (blk_drew BK321.out)
     replace BK322 := Aside0.mk (blk_drew BK322.out)
     replace BK323 := Aside0.mk (blk_drew BK323.out)
     replace BK324 := Aside0.mk (blk_drew BK324.out)
     replace HB := Aside0.mk (below_drew1 HB.out)
     refine start_ (n := 5) (S := fun w' => w'.cell? ⟨gb323, 0, none⟩ = some (.bool t332) ∧ w'.cell? ⟨gb323, 1, none⟩ = some (.slice Ao43 t333.length co43) ∧ w'.cell? ⟨gb324, 0, none⟩ = some (.bool t336) ∧ w'.cell? ⟨gb324, 1, none⟩ = some (.slice Ao46 t337.length co46)) (ds := []) #[false, false, false, false, false] (by kernel_rfl) rfl rfl ⟨(blk_cell BK323.out 0).trans rfl, (blk_cell BK323.out 1).trans rfl, (blk_cell BK324.out 0).trans rfl, (blk_cell BK324.out 1).trans rfl⟩ (fun hHeld => ?_)
     generalize wc.drew = w85 at HO_322001 HO_324001 HO_325001 BK321 BK322 BK323 BK324 HB hHeld ⊢
     refine take_ (i := 0) (N := some 49) (v := ?_) (a' := ?_) #[true, false, false, false, false] rfl rfl (by kernel_rfl) (fun _ _ _ h => h) (Or.inl ⟨by rfl, ?_⟩) hHeld ?_ ?_
     rotate_left
     ·
      rintro w' ⟨s0, s1, s2, s3⟩
      go_simp
      with_reducible rfl
     rotate_left
     ·
      simp only [Act.put, List.setIfInBounds_toArray, List.set_cons_zero, List.set_cons_succ, i64_w, i32_w]
      rfl
     refine take_ (i := 1) (N := some 50) (v := ?_) (a' := ?_) #[true, true, false, false, false] rfl rfl (by kernel_rfl) (fun _ _ _ h => h) (Or.inl ⟨by rfl, ?_⟩) hHeld ?_ ?_
     rotate_left
     ·
      rintro w' ⟨s0, s1, s2, s3⟩
      go_simp
      with_reducible rfl
     rotate_left
     ·
      simp only [Act.put, List.setIfInBounds_toArray, List.set_cons_zero, List.set_cons_succ, i64_w, i32_w]
      rfl
     refine one_ (i := 2) (N := none) #[true, true, true, false, false] rfl rfl (by kernel_rfl) (by decide) (fun K hK => ?_)
     have hs86 : w85.cell? ⟨gb323, 0, none⟩ = some (.bool t332) := (blk_cell BK323.out 0).trans rfl
     have hfs86 := blk_frozen BK323.out 0
     have hns86_0 := NB321_323.out
     have hns86_1 := NB322_323.out
     have hns86_3 := NB324_323.out
     have hms86_0 := NB323_321.out
     have hms86_1 := NB323_322.out
     have hms86_3 := NB323_324.out
     have hs87 : w85.cell? ⟨gb323, 1, none⟩ = some (.slice Ao43 t333.length co43) := (blk_cell BK323.out 1).trans rfl
     have hfs87 := blk_frozen BK323.out 1
     have hns87_0 := NB321_323.out
     have hns87_1 := NB322_323.out
     have hns87_3 := NB324_323.out
     have hms87_0 := NB323_321.out
     have hms87_1 := NB323_322.out
     have hms87_3 := NB323_324.out
     refine skip_ (w1 := ?_) (by rfl) rfl ?_ ?_
     rotate_left
     ·
      go_simp
      rfl
     refine hK.out _ _ ⟨(cell_same ((cell_same (hHeld.1) (hHeld.1))) ((cell_same (hHeld.2.1) (hHeld.1)))), (cell_same ((cell_same (hHeld.2.1) (hHeld.1))) ((cell_same (hHeld.2.1) (hHeld.1)))), ((cell_far (p := ⟨gb323, _, none⟩) NB324_323.out _).trans (((cell_far (p := ⟨gb323, _, none⟩) NB324_323.out _).trans (hHeld.2.2.1)))), ((cell_far (p := ⟨gb323, _, none⟩) NB324_323.out _).trans (((cell_far (p := ⟨gb323, _, none⟩) NB324_323.out _).trans (hHeld.2.2.2))))⟩ (fun hHeld => ?_)
     clear hK K
     refine one_ (i := 3) (N := none) #[true, true, true, true, false] rfl rfl (by kernel_rfl) (by decide) (fun K hK => ?_)
     have hs88 : w85.cell? ⟨gb324, 0, none⟩ = some (.bool t336) := (blk_cell BK324.out 0).trans rfl
     have hfs88 := blk_frozen BK324.out 0
     have hns88_0 := NB321_324.out
     have hns88_1 := NB322_324.out
     have hns88_2 := NB323_324.out
     have hms88_0 := NB324_321.out
     have hms88_1 := NB324_322.out
     have hms88_2 := NB324_323.out
     have hs89 : w85.cell? ⟨gb324, 1, none⟩ = some (.slice Ao46 t337.length co46) := (blk_cell BK324.out 1).trans rfl
     have hfs89 := blk_frozen BK324.out 1
     have hns89_0 := NB321_324.out
     have hns89_1 := NB322_324.out
     have hns89_2 := NB323_324.out
     have hms89_0 := NB324_321.out
     have hms89_1 := NB324_322.out
     have hms89_2 := NB324_323.out
     refine skip_ (w1 := ?_) (by rfl) rfl ?_ ?_
     rotate_left
     ·
      go_simp
      rfl
     refine hK.out _ _ ⟨((cell_far (p := ⟨gb324, _, none⟩) NB323_324.out _).trans (((cell_far (p := ⟨gb324, _, none⟩) NB323_324.out _).trans (hHeld.1)))), ((cell_far (p := ⟨gb324, _, none⟩) NB323_324.out _).trans (((cell_far (p := ⟨gb324, _, none⟩) NB323_324.out _).trans (hHeld.2.1)))), (cell_same ((cell_same (hHeld.2.2.1) (hHeld.2.2.1))) ((cell_same (hHeld.2.2.2) (hHeld.2.2.1)))), (cell_same ((cell_same (hHeld.2.2.2) (hHeld.2.2.1))) ((cell_same (hHeld.2.2.2) (hHeld.2.2.1))))⟩ (fun hHeld => ?_)
     clear hK K
     refine pure_ (i := 4) (N := some 6) (v := ?_) (a' := ?_) #[true, true, true, true, true] rfl rfl (by kernel_rfl) (fun _ _ _ h => h) (Or.inl ⟨by rfl, ?_⟩) ?_ ?_
     rotate_left
     ·
      intro w'
      go_simp
      with_reducible rfl
     rotate_left
     ·
      simp only [Act.put, List.setIfInBounds_toArray, List.set_cons_zero, List.set_cons_succ, i64_w, i32_w]
      rfl
     refine done_ (by kernel_rfl) ?_
     try go_wp2
     refine bodyPost_ret (results_list (rs := [.cell 4 25, .cell 5 25, .tmp 6]) rfl (by simp) (.cell gb323 25 #[.bool t332, .slice Ao43 t333.length co43] (0, 0) _ rfl (by refine blk_ups ?_; refine blk_far ?_ NB323_324.out _; refine blk_ups ?_; refine blk_far ?_ NB323_324.out _; refine blk_ups ?_; refine blk_put (cs := #[.bool t332, .slice Ao43 t333.length co43]) ?_ 1 _ rfl; refine blk_ups ?_; refine blk_put (cs := #[.bool t332, .slice Ao43 t333.length co43]) ?_ 0 _ rfl; exact blk_up BK323.out) Tryd.underlying25 rfl (by kernel_rfl) (.cell gb324 25 #[.bool t336, .slice Ao46 t337.length co46] (0, 0) _ rfl (by refine blk_ups ?_; refine blk_put (cs := #[.bool t336, .slice Ao46 t337.length co46]) ?_ 1 _ rfl; refine blk_ups ?_; refine blk_put (cs := #[.bool t336, .slice Ao46 t337.length co46]) ?_ 0 _ rfl; refine blk_ups ?_; refine blk_far ?_ NB324_323.out _; refine blk_ups ?_; refine blk_far ?_ NB324_323.out _; exact blk_up BK324.out) Tryd.underlying25 rfl (by kernel_rfl) (.tmp .nil)))) rfl ?_
     exact ⟨_, _, by first | rfl | (simp [errW_none, errW_some] <;> rfl) | (simp [*, errW_none, errW_some] <;> rfl), Kd.V_up (Kd.V_mono (Kd.V_far (p := ⟨gb324, 1, none⟩) (Kd.V_far (p := ⟨gb324, 0, none⟩) (Kd.V_far (p := ⟨gb323, 1, none⟩) (Kd.V_far (p := ⟨gb323, 0, none⟩) (Kd.V_mono (Kd.V_mono HO_324001.out (fun k_ hk => (⟨hk, hk.2.2.2.1⟩ : _ ∧ k_ ≠ gb323))) (fun k_ hk => (⟨hk, hk.1.2.2.2.2⟩ : _ ∧ k_ ≠ gb324))) (fun _ hk => hk.1.2) (.bool t332)) (fun _ hk => hk.1.2) (.slice Ao43 t333.length co43)) (fun _ hk => hk.2) (.bool t336)) (fun _ hk => hk.2) (.slice Ao46 t337.length co46)) (fun _ hk => hk.1.1.1)), Kd.V_up (Kd.V_mono (Kd.V_far (p := ⟨gb324, 1, none⟩) (Kd.V_far (p := ⟨gb324, 0, none⟩) (Kd.V_far (p := ⟨gb323, 1, none⟩) (Kd.V_far (p := ⟨gb323, 0, none⟩) (Kd.V_mono (Kd.V_mono HO_325001.out (fun k_ hk => (⟨hk, hk.2.2.2.1⟩ : _ ∧ k_ ≠ gb323))) (fun k_ hk => (⟨hk, hk.1.2.2.2.2⟩ : _ ∧ k_ ≠ gb324))) (fun _ hk => hk.1.2) (.bool t332)) (fun _ hk => hk.1.2) (.slice Ao43 t333.length co43)) (fun _ hk => hk.2) (.bool t336)) (fun _ hk => hk.2) (.slice Ao46 t337.length co46)) (fun _ hk => hk.1.1.1)), by repeat (first | (with_reducible first | exact HB.out | apply below_alloc | apply pw_below_drewN | apply below_drew1 | refine below_set ?_ GE321.out | refine below_set ?_ GE322.out | refine below_set ?_ GE323.out | refine below_set ?_ GE324.out) | exact HB.out)⟩
def integer_Gcd.l0 : Nat → List Int → List Int → Option (Bool × List Int)
 | 0, _, _ => none
 | k + 1, x5, x6 => if (x6.length : Int) > 0 then ((integer_divide.f k x5 x6).bind fun bt356 => (integer_Gcd.l0 k x6 bt356.2)) else (some (false, x5))
def integer_Gcd.f (k : Nat) (a0_0 : Bool) (l0_1 : List Int) (a1_0 : Bool) (l1_1 : List Int) : Option (Bool × List Int) := integer_Gcd.l0 k l0_1 l1_1
theorem integer_Gcd.mono_l : ∀ k, (∀ y0 y1, LeO (integer_Gcd.l0 k y0 y1) (integer_Gcd.l0 (k + 1) y0 y1))
 | 0 => fun _ _ r h => by simp [integer_Gcd.l0] at h
 | k + 1 => by
  have ih0 := integer_Gcd.mono_l k
  ·
   intro y0 y1
   unfold integer_Gcd.l0
   repeat' first
   | (with_reducible exact ih0 _ _)
   | (with_reducible exact integer_divide.mono _ _ _)
   | (with_reducible exact LeO.refl _)
   | (with_reducible exact LeO.none _)
   | (with_reducible refine LeO.ite ?_ ?_)
   | (with_reducible refine LeO.bind ?_ (fun _ => ?_))
theorem integer_Gcd.mono : ∀ a0 a1 a2 a3 k, LeO (integer_Gcd.f k a0 a1 a2 a3) (integer_Gcd.f (k + 1) a0 a1 a2 a3) := by
 intro a0 a1 a2 a3 k
 have ih0 := integer_Gcd.mono_l k
 unfold integer_Gcd.f
 repeat' first
   | (with_reducible exact ih0 _ _)
   | (with_reducible exact integer_divide.mono _ _ _)
   | (with_reducible exact LeO.refl _)
   | (with_reducible exact LeO.none _)
   | (with_reducible refine LeO.ite ?_ ?_)
   | (with_reducible refine LeO.bind ?_ (fun _ => ?_))
set_option maxHeartbeats 8000000 in
set_option maxRecDepth 100000 in
theorem integer_Gcd.calls (k : Nat) (a0_0 : Bool) (P0_1_ : Nat → Prop) (A0_1 : Option Addr) (c0_1 : Nat) (l0_1 : List Int) (a1_0 : Bool) (P1_1_ : Nat → Prop) (A1_1 : Option Addr) (c1_1 : Nat) (l1_1 : List Int) (r1 : Bool) (r2 : List Int) (w : World) (hs0_1 : Kd.V (Kd.int .u32) 60 w w.heap.size (fun k_ => P0_1_ k_) (.slice A0_1 l0_1.length c0_1) l0_1) (hs1_1 : Kd.V (Kd.int .u32) 60 w w.heap.size (fun k_ => P1_1_ k_) (.slice A1_1 l1_1.length c1_1) l1_1) (h : integer_Gcd.f k a0_0 l0_1 a1_0 l1_1 = some (r1, r2)) :
  Calls Tryd.prog 29 #[.agg #[.bool a0_0, .slice A0_1 l0_1.length c0_1], .agg #[.bool a1_0, .slice A1_1 l1_1.length c1_1]] w fun e w' => ∃ v1_ : Value, e = .returned (.agg #[.bool r1, v1_]) ∧ Kd.V (Kd.int .u32) 60 w' w.heap.size (fun k_ => ((P0_1_ k_ ∨ P1_1_ k_) ∨ w.heap.size ≤ k_)) v1_ r2 ∧ Below w.heap.size w w' := by
 have hu25 := Tryd.underlying25
 have HO0_1 := Aside0.mk (show Kd.V (Kd.int .u32) 60 w w.heap.size (fun k_ => ((P0_1_ k_ ∨ P1_1_ k_) ∨ w.heap.size ≤ k_)) (.slice A0_1 l0_1.length c0_1) l0_1 from Kd.V_mono hs0_1 (fun k_ hk => .inl (.inl hk)))
 have HO1_1 := Aside0.mk (show Kd.V (Kd.int .u32) 60 w w.heap.size (fun k_ => ((P0_1_ k_ ∨ P1_1_ k_) ∨ w.heap.size ≤ k_)) (.slice A1_1 l1_1.length c1_1) l1_1 from Kd.V_mono hs1_1 (fun k_ hk => .inl (.inr hk)))
 have HB := Aside0.mk (Below.refl w.heap.size w)
 have H := h
 unfold integer_Gcd.f at H
 clear h
 have H' := Aside0.mk H
 clear H
 go_enter Tryd.func29, Tryd.ntmps29
 go_wp2_with (first | ((with_reducible refine gate_dst (N := 2) rfl ?_); refine box_event ?hg (N := 2) ?hd (cs := #[.bool a0_0, .slice A0_1 l0_1.length c0_1]) (t := 25) ?hr ?_; (case hd => rfl); (case hg => rfl); (case hr => first | (go_simp; done) | (go_simp; rfl)); intro gb353 hg w3 hbox hb; replace HO0_1 := Aside0.mk (Kd.V_below (Kd.V_elderB (Kd.V_up HO0_1.out) gb353 (Nat.le_of_eq hg.symm)) hb); replace HO1_1 := Aside0.mk (Kd.V_below (Kd.V_elderB (Kd.V_up HO1_1.out) gb353 (Nat.le_of_eq hg.symm)) hb); have BK353 := Aside0.mk (hbox); have GE353 := Aside0.mk ((size_up hg HB.out : w.heap.size ≤ gb353)); replace HB := Aside0.mk (below_step (below_up HB.out) hb); clear hb hbox hg) | ((with_reducible refine gate_dst (N := 3) rfl ?_); refine box_event ?hg (N := 3) ?hd (cs := #[.bool a1_0, .slice A1_1 l1_1.length c1_1]) (t := 25) ?hr ?_; (case hd => rfl); (case hg => rfl); (case hr => first | (go_simp; done) | (go_simp; rfl)); intro gb354 hg w4 hbox hb; replace HO0_1 := Aside0.mk (Kd.V_below (Kd.V_elderB (Kd.V_up HO0_1.out) gb354 (Nat.le_of_eq hg.symm)) hb); replace HO1_1 := Aside0.mk (Kd.V_below (Kd.V_elderB (Kd.V_up HO1_1.out) gb354 (Nat.le_of_eq hg.symm)) hb); have BK354 := Aside0.mk (hbox); have GE354 := Aside0.mk ((by rw [hg]; exact (below_size (by repeat (first | (with_reducible first | exact HB.out | apply below_alloc | apply pw_below_drewN | apply below_drew1 | refine below_set ?_ GE353.out) | exact HB.out))) : w.heap.size ≤ gb354)); replace HB := Aside0.mk (below_step (by repeat (first | (with_reducible first | exact HB.out | apply below_alloc | apply pw_below_drewN | apply below_drew1 | refine below_set ?_ GE353.out) | exact HB.out)) hb); have NB353_354 := Aside0.mk ((blk_nw hg BK353.out : gb353 ≠ gb354)); have NB354_353 := Aside0.mk ((nw_blk hg BK353.out : gb354 ≠ gb353)); replace BK353 := Aside0.mk (blk_below (g := gb353) (o := .cells #[.bool a0_0, .slice A0_1 l0_1.length c0_1] 25 (0, 0)) (blk_up BK353.out) hb); clear hb hbox hg) | ((with_reducible refine gate_dst (N := 4) rfl ?_); refine box_event ?hg (N := 4) ?hd (cs := #[.bool false, .slice none 0 0]) (t := 25) ?hr ?_; (case hd => rfl); (case hg => rfl); (case hr => first | (go_simp; done) | (go_simp; rfl)); intro gb355 hg w5 hbox hb; replace HO0_1 := Aside0.mk (Kd.V_below (Kd.V_elderB (Kd.V_up HO0_1.out) gb355 (Nat.le_of_eq hg.symm)) hb); replace HO1_1 := Aside0.mk (Kd.V_below (Kd.V_elderB (Kd.V_up HO1_1.out) gb355 (Nat.le_of_eq hg.symm)) hb); have BK355 := Aside0.mk (hbox); have GE355 := Aside0.mk ((by rw [hg]; exact (below_size (by repeat (first | (with_reducible first | exact HB.out | apply below_alloc | apply pw_below_drewN | apply below_drew1 | refine below_set ?_ GE353.out | refine below_set ?_ GE354.out) | exact HB.out))) : w.heap.size ≤ gb355)); replace HB := Aside0.mk (below_step (by repeat (first | (with_reducible first | exact HB.out | apply below_alloc | apply pw_below_drewN | apply below_drew1 | refine below_set ?_ GE353.out | refine below_set ?_ GE354.out) | exact HB.out)) hb); have NB353_355 := Aside0.mk ((blk_nw hg BK353.out : gb353 ≠ gb355)); have NB355_353 := Aside0.mk ((nw_blk hg BK353.out : gb355 ≠ gb353)); replace BK353 := Aside0.mk (blk_below (g := gb353) (o := .cells #[.bool a0_0, .slice A0_1 l0_1.length c0_1] 25 (0, 0)) (blk_up BK353.out) hb); have NB354_355 := Aside0.mk ((blk_nw hg BK354.out : gb354 ≠ gb355)); have NB355_354 := Aside0.mk ((nw_blk hg BK354.out : gb355 ≠ gb354)); replace BK354 := Aside0.mk (blk_below (g := gb354) (o := .cells #[.bool a1_0, .slice A1_1 l1_1.length c1_1] 25 (0, 0)) (blk_up BK354.out) hb); clear hb hbox hg; have hnb6 := NB353_354.out; have hnc6 := NB354_353.out; have hnb7 := NB353_355.out; have hnc7 := NB355_353.out; have hcz8_0 : w5.cell? ⟨gb353, 0, none⟩ = some (.bool a0_0) := (blk_cell BK353.out 0).trans rfl; have hcz8_1 : w5.cell? ⟨gb353, 1, none⟩ = some (.slice A0_1 l0_1.length c0_1) := (blk_cell BK353.out 1).trans rfl; have hfz8_0 := blk_frozen BK353.out 0; have hfz8_1 := blk_frozen BK353.out 1; have hnb9 := NB354_355.out; have hnc9 := NB355_354.out; have hcz10_0 : w5.cell? ⟨gb354, 0, none⟩ = some (.bool a1_0) := (blk_cell BK354.out 0).trans rfl; have hcz10_1 : w5.cell? ⟨gb354, 1, none⟩ = some (.slice A1_1 l1_1.length c1_1) := (blk_cell BK354.out 1).trans rfl; have hfz10_0 := blk_frozen BK354.out 0; have hfz10_1 := blk_frozen BK354.out 1))
 repeat (go_quiet (first | ((with_reducible refine gate_dst (N := 2) rfl ?_); refine box_event ?hg (N := 2) ?hd (cs := #[.bool a0_0, .slice A0_1 l0_1.length c0_1]) (t := 25) ?hr ?_; (case hd => rfl); (case hg => rfl); (case hr => first | (go_simp; done) | (go_simp; rfl)); intro gb353 hg w3 hbox hb; replace HO0_1 := Aside0.mk (Kd.V_below (Kd.V_elderB (Kd.V_up HO0_1.out) gb353 (Nat.le_of_eq hg.symm)) hb); replace HO1_1 := Aside0.mk (Kd.V_below (Kd.V_elderB (Kd.V_up HO1_1.out) gb353 (Nat.le_of_eq hg.symm)) hb); have BK353 := Aside0.mk (hbox); have GE353 := Aside0.mk ((size_up hg HB.out : w.heap.size ≤ gb353)); replace HB := Aside0.mk (below_step (below_up HB.out) hb); clear hb hbox hg) | ((with_reducible refine gate_dst (N := 3) rfl ?_); refine box_event ?hg (N := 3) ?hd (cs := #[.bool a1_0, .slice A1_1 l1_1.length c1_1]) (t := 25) ?hr ?_; (case hd => rfl); (case hg => rfl); (case hr => first | (go_simp; done) | (go_simp; rfl)); intro gb354 hg w4 hbox hb; replace HO0_1 := Aside0.mk (Kd.V_below (Kd.V_elderB (Kd.V_up HO0_1.out) gb354 (Nat.le_of_eq hg.symm)) hb); replace HO1_1 := Aside0.mk (Kd.V_below (Kd.V_elderB (Kd.V_up HO1_1.out) gb354 (Nat.le_of_eq hg.symm)) hb); have BK354 := Aside0.mk (hbox); have GE354 := Aside0.mk ((by rw [hg]; exact (below_size (by repeat (first | (with_reducible first | exact HB.out | apply below_alloc | apply pw_below_drewN | apply below_drew1 | refine below_set ?_ GE353.out) | exact HB.out))) : w.heap.size ≤ gb354)); replace HB := Aside0.mk (below_step (by repeat (first | (with_reducible first | exact HB.out | apply below_alloc | apply pw_below_drewN | apply below_drew1 | refine below_set ?_ GE353.out) | exact HB.out)) hb); have NB353_354 := Aside0.mk ((blk_nw hg BK353.out : gb353 ≠ gb354)); have NB354_353 := Aside0.mk ((nw_blk hg BK353.out : gb354 ≠ gb353)); replace BK353 := Aside0.mk (blk_below (g := gb353) (o := .cells #[.bool a0_0, .slice A0_1 l0_1.length c0_1] 25 (0, 0)) (blk_up BK353.out) hb); clear hb hbox hg) | ((with_reducible refine gate_dst (N := 4) rfl ?_); refine box_event ?hg (N := 4) ?hd (cs := #[.bool false, .slice none 0 0]) (t := 25) ?hr ?_; (case hd => rfl); (case hg => rfl); (case hr => first | (go_simp; done) | (go_simp; rfl)); intro gb355 hg w5 hbox hb; replace HO0_1 := Aside0.mk (Kd.V_below (Kd.V_elderB (Kd.V_up HO0_1.out) gb355 (Nat.le_of_eq hg.symm)) hb); replace HO1_1 := Aside0.mk (Kd.V_below (Kd.V_elderB (Kd.V_up HO1_1.out) gb355 (Nat.le_of_eq hg.symm)) hb); have BK355 := Aside0.mk (hbox); have GE355 := Aside0.mk ((by rw [hg]; exact (below_size (by repeat (first | (with_reducible first | exact HB.out | apply below_alloc | apply pw_below_drewN | apply below_drew1 | refine below_set ?_ GE353.out | refine below_set ?_ GE354.out) | exact HB.out))) : w.heap.size ≤ gb355)); replace HB := Aside0.mk (below_step (by repeat (first | (with_reducible first | exact HB.out | apply below_alloc | apply pw_below_drewN | apply below_drew1 | refine below_set ?_ GE353.out | refine below_set ?_ GE354.out) | exact HB.out)) hb); have NB353_355 := Aside0.mk ((blk_nw hg BK353.out : gb353 ≠ gb355)); have NB355_353 := Aside0.mk ((nw_blk hg BK353.out : gb355 ≠ gb353)); replace BK353 := Aside0.mk (blk_below (g := gb353) (o := .cells #[.bool a0_0, .slice A0_1 l0_1.length c0_1] 25 (0, 0)) (blk_up BK353.out) hb); have NB354_355 := Aside0.mk ((blk_nw hg BK354.out : gb354 ≠ gb355)); have NB355_354 := Aside0.mk ((nw_blk hg BK354.out : gb355 ≠ gb354)); replace BK354 := Aside0.mk (blk_below (g := gb354) (o := .cells #[.bool a1_0, .slice A1_1 l1_1.length c1_1] 25 (0, 0)) (blk_up BK354.out) hb); clear hb hbox hg; have hnb6 := NB353_354.out; have hnc6 := NB354_353.out; have hnb7 := NB353_355.out; have hnc7 := NB355_353.out; have hcz8_0 : w5.cell? ⟨gb353, 0, none⟩ = some (.bool a0_0) := (blk_cell BK353.out 0).trans rfl; have hcz8_1 : w5.cell? ⟨gb353, 1, none⟩ = some (.slice A0_1 l0_1.length c0_1) := (blk_cell BK353.out 1).trans rfl; have hfz8_0 := blk_frozen BK353.out 0; have hfz8_1 := blk_frozen BK353.out 1; have hnb9 := NB354_355.out; have hnc9 := NB355_354.out; have hcz10_0 : w5.cell? ⟨gb354, 0, none⟩ = some (.bool a1_0) := (blk_cell BK354.out 0).trans rfl; have hcz10_1 : w5.cell? ⟨gb354, 1, none⟩ = some (.slice A1_1 l1_1.length c1_1) := (blk_cell BK354.out 1).trans rfl; have hfz10_0 := blk_frozen BK354.out 0; have hfz10_1 := blk_frozen BK354.out 1)); try go_wp2_with (first | ((with_reducible refine gate_dst (N := 2) rfl ?_); refine box_event ?hg (N := 2) ?hd (cs := #[.bool a0_0, .slice A0_1 l0_1.length c0_1]) (t := 25) ?hr ?_; (case hd => rfl); (case hg => rfl); (case hr => first | (go_simp; done) | (go_simp; rfl)); intro gb353 hg w3 hbox hb; replace HO0_1 := Aside0.mk (Kd.V_below (Kd.V_elderB (Kd.V_up HO0_1.out) gb353 (Nat.le_of_eq hg.symm)) hb); replace HO1_1 := Aside0.mk (Kd.V_below (Kd.V_elderB (Kd.V_up HO1_1.out) gb353 (Nat.le_of_eq hg.symm)) hb); have BK353 := Aside0.mk (hbox); have GE353 := Aside0.mk ((size_up hg HB.out : w.heap.size ≤ gb353)); replace HB := Aside0.mk (below_step (below_up HB.out) hb); clear hb hbox hg) | ((with_reducible refine gate_dst (N := 3) rfl ?_); refine box_event ?hg (N := 3) ?hd (cs := #[.bool a1_0, .slice A1_1 l1_1.length c1_1]) (t := 25) ?hr ?_; (case hd => rfl); (case hg => rfl); (case hr => first | (go_simp; done) | (go_simp; rfl)); intro gb354 hg w4 hbox hb; replace HO0_1 := Aside0.mk (Kd.V_below (Kd.V_elderB (Kd.V_up HO0_1.out) gb354 (Nat.le_of_eq hg.symm)) hb); replace HO1_1 := Aside0.mk (Kd.V_below (Kd.V_elderB (Kd.V_up HO1_1.out) gb354 (Nat.le_of_eq hg.symm)) hb); have BK354 := Aside0.mk (hbox); have GE354 := Aside0.mk ((by rw [hg]; exact (below_size (by repeat (first | (with_reducible first | exact HB.out | apply below_alloc | apply pw_below_drewN | apply below_drew1 | refine below_set ?_ GE353.out) | exact HB.out))) : w.heap.size ≤ gb354)); replace HB := Aside0.mk (below_step (by repeat (first | (with_reducible first | exact HB.out | apply below_alloc | apply pw_below_drewN | apply below_drew1 | refine below_set ?_ GE353.out) | exact HB.out)) hb); have NB353_354 := Aside0.mk ((blk_nw hg BK353.out : gb353 ≠ gb354)); have NB354_353 := Aside0.mk ((nw_blk hg BK353.out : gb354 ≠ gb353)); replace BK353 := Aside0.mk (blk_below (g := gb353) (o := .cells #[.bool a0_0, .slice A0_1 l0_1.length c0_1] 25 (0, 0)) (blk_up BK353.out) hb); clear hb hbox hg) | ((with_reducible refine gate_dst (N := 4) rfl ?_); refine box_event ?hg (N := 4) ?hd (cs := #[.bool false, .slice none 0 0]) (t := 25) ?hr ?_; (case hd => rfl); (case hg => rfl); (case hr => first | (go_simp; done) | (go_simp; rfl)); intro gb355 hg w5 hbox hb; replace HO0_1 := Aside0.mk (Kd.V_below (Kd.V_elderB (Kd.V_up HO0_1.out) gb355 (Nat.le_of_eq hg.symm)) hb); replace HO1_1 := Aside0.mk (Kd.V_below (Kd.V_elderB (Kd.V_up HO1_1.out) gb355 (Nat.le_of_eq hg.symm)) hb); have BK355 := Aside0.mk (hbox); have GE355 := Aside0.mk ((by rw [hg]; exact (below_size (by repeat (first | (with_reducible first | exact HB.out | apply below_alloc | apply pw_below_drewN | apply below_drew1 | refine below_set ?_ GE353.out | refine below_set ?_ GE354.out) | exact HB.out))) : w.heap.size ≤ gb355)); replace HB := Aside0.mk (below_step (by repeat (first | (with_reducible first | exact HB.out | apply below_alloc | apply pw_below_drewN | apply below_drew1 | refine below_set ?_ GE353.out | refine below_set ?_ GE354.out) | exact HB.out)) hb); have NB353_355 := Aside0.mk ((blk_nw hg BK353.out : gb353 ≠ gb355)); have NB355_353 := Aside0.mk ((nw_blk hg BK353.out : gb355 ≠ gb353)); replace BK353 := Aside0.mk (blk_below (g := gb353) (o := .cells #[.bool a0_0, .slice A0_1 l0_1.length c0_1] 25 (0, 0)) (blk_up BK353.out) hb); have NB354_355 := Aside0.mk ((blk_nw hg BK354.out : gb354 ≠ gb355)); have NB355_354 := Aside0.mk ((nw_blk hg BK354.out : gb355 ≠ gb354)); replace BK354 := Aside0.mk (blk_below (g := gb354) (o := .cells #[.bool a1_0, .slice A1_1 l1_1.length c1_1] 25 (0, 0)) (blk_up BK354.out) hb); clear hb hbox hg; have hnb6 := NB353_354.out; have hnc6 := NB354_353.out; have hnb7 := NB353_355.out; have hnc7 := NB355_353.out; have hcz8_0 : w5.cell? ⟨gb353, 0, none⟩ = some (.bool a0_0) := (blk_cell BK353.out 0).trans rfl; have hcz8_1 : w5.cell? ⟨gb353, 1, none⟩ = some (.slice A0_1 l0_1.length c0_1) := (blk_cell BK353.out 1).trans rfl; have hfz8_0 := blk_frozen BK353.out 0; have hfz8_1 := blk_frozen BK353.out 1; have hnb9 := NB354_355.out; have hnc9 := NB355_354.out; have hcz10_0 : w5.cell? ⟨gb354, 0, none⟩ = some (.bool a1_0) := (blk_cell BK354.out 0).trans rfl; have hcz10_1 : w5.cell? ⟨gb354, 1, none⟩ = some (.slice A1_1 l1_1.length c1_1) := (blk_cell BK354.out 1).trans rfl; have hfz10_0 := blk_frozen BK354.out 0; have hfz10_1 := blk_frozen BK354.out 1)))
 go_loopg [5, 6] k (fun kq v5 v6 w' => ∃ (x5_1 : List Int) (x6_1 : List Int), Aside0 (integer_Gcd.l0 kq x5_1 x6_1 = some (r1, r2)) ∧ Aside0 (kq ≤ k) ∧ Aside0 (Kd.V (Kd.int .u32) 60 w' w.heap.size (fun k_ => ((P0_1_ k_ ∨ P1_1_ k_) ∨ w.heap.size ≤ k_) ∧ k_ ≠ gb353 ∧ k_ ≠ gb354 ∧ k_ ≠ gb355) v5 x5_1) ∧ Aside0 (Kd.V (Kd.int .u32) 60 w' w.heap.size (fun k_ => ((P0_1_ k_ ∨ P1_1_ k_) ∨ w.heap.size ≤ k_) ∧ k_ ≠ gb353 ∧ k_ ≠ gb354 ∧ k_ ≠ gb355) v6 x6_1) ∧ Aside0 (Kd.V (Kd.int .u32) 60 w' w.heap.size (fun k_ => ((P0_1_ k_ ∨ P1_1_ k_) ∨ w.heap.size ≤ k_) ∧ k_ ≠ gb353 ∧ k_ ≠ gb354 ∧ k_ ≠ gb355) (.slice A0_1 l0_1.length c0_1) l0_1) ∧ Aside0 (Kd.V (Kd.int .u32) 60 w' w.heap.size (fun k_ => ((P0_1_ k_ ∨ P1_1_ k_) ∨ w.heap.size ≤ k_) ∧ k_ ≠ gb353 ∧ k_ ≠ gb354 ∧ k_ ≠ gb355) (.slice A1_1 l1_1.length c1_1) l1_1) ∧ Aside0 (w'.heap[gb353]? = some (.cells #[.bool a0_0, (.slice A0_1 l0_1.length c0_1)] 25 (0, 0))) ∧ Aside0 (w'.heap[gb354]? = some (.cells #[.bool a1_0, (.slice A1_1 l1_1.length c1_1)] 25 (0, 0))) ∧ Aside0 (w'.heap[gb355]? = some (.cells #[.bool false, (.slice none 0 0)] 25 (0, 0))) ∧ Aside0 (Below w.heap.size w w'))
 case atStart => exact ⟨(l0_1), (l1_1), H', ⟨Nat.le_refl _⟩, ⟨Kd.V_up (Kd.V_mono HO0_1.out (fun _ hk => ⟨hk.1.1.1, ⟨hk.1.1.2, ⟨hk.1.2, hk.2⟩⟩⟩))⟩, ⟨Kd.V_up (Kd.V_mono HO1_1.out (fun _ hk => ⟨hk.1.1.1, ⟨hk.1.1.2, ⟨hk.1.2, hk.2⟩⟩⟩))⟩, ⟨Kd.V_up (Kd.V_mono HO0_1.out (fun _ hk => ⟨hk.1.1.1, ⟨hk.1.1.2, ⟨hk.1.2, hk.2⟩⟩⟩))⟩, ⟨Kd.V_up (Kd.V_mono HO1_1.out (fun _ hk => ⟨hk.1.1.1, ⟨hk.1.1.2, ⟨hk.1.2, hk.2⟩⟩⟩))⟩, ⟨by (with_reducible repeat (first | refine blk_drewN ?_ _ | refine blk_drew ?_ | refine blk_alloc ?_ _)); exact BK353.out⟩, ⟨by (with_reducible repeat (first | refine blk_drewN ?_ _ | refine blk_drew ?_ | refine blk_alloc ?_ _)); exact BK354.out⟩, ⟨by (with_reducible repeat (first | refine blk_drewN ?_ _ | refine blk_drew ?_ | refine blk_alloc ?_ _)); exact BK355.out⟩, ⟨by repeat (first | (with_reducible first | exact HB.out | apply below_alloc | apply pw_below_drewN | apply below_drew1 | refine below_set ?_ GE353.out | refine below_set ?_ GE354.out | refine below_set ?_ GE355.out) | exact HB.out)⟩⟩
 case round =>
  clear H'
  obtain ⟨x5_1, x6_1, HA, HK1, HO_5, HO_6, HO_354001, HO_355001, BK353, BK354, BK355, HB⟩ := hrel
  cases gk with
  | zero => exact absurd HA.out (by simp [integer_Gcd.l0])
  | succ k1 =>
   have H := HA.out
   clear HA
   simp only [integer_Gcd.l0] at H
   by_cases c11 : (x6_1.length : Int) > 0
   ·
    rw [if_pos c11] at H
    have c11b0 := decide_eq_true c11
    have c11b1 : decide (0 < x6_1.length) = true := decide_eq_true (by omega)
    clear c11
    replace H := Option.bind_eq_some_iff.mp H
    obtain ⟨⟨t356, t359⟩, A120, H⟩ := H
    try dsimp only at H
    have A12 := Aside0.mk A120
    clear A120
    have H' := Aside0.mk H
    clear H
    obtain ⟨Ao13, co13, eo13⟩ := Kd.V_slice HO_6.out
    subst eo13
    obtain ⟨Ao14, co14, eo14⟩ := Kd.V_slice HO_5.out
    subst eo14
    go_wp2_with (first | (go_at_call 59; (with_reducible refine (integer_divide.calls k1 (fun k_ => (((P0_1_ k_ ∨ P1_1_ k_) ∨ w.heap.size ≤ k_) ∧ (k_ ≠ gb353 ∧ (k_ ≠ gb354 ∧ k_ ≠ gb355)))) _ _ x5_1 _ _ x6_1 t356 t359 _ ?side1 ?side2 ?side3 A12.out).mono ?_); (case side1 => exact HO_5.out); (case side2 => repeat (first | exact (Kd.V_reads' HO_6.out).2.2 | (with_reducible refine Kd.C_alloc ?_ _) | (with_reducible refine Kd.C_drewN ?_ _) | (with_reducible refine Kd.C_drew ?_))); (case side3 => exact (Kd.V_reads' HO_6.out).2.1); rintro e w15 ⟨v357, v360, rfl, ho0, ho1, hb⟩; replace HO_5 := Aside0.mk (Kd.V_below (Kd.V_up HO_5.out) hb); replace HO_6 := Aside0.mk (Kd.V_below (Kd.V_up HO_6.out) hb); replace HO_354001 := Aside0.mk (Kd.V_below (Kd.V_up HO_354001.out) hb); replace HO_355001 := Aside0.mk (Kd.V_below (Kd.V_up HO_355001.out) hb); have HO361 := Aside0.mk (Kd.V_lower (Kd.V_mono (ok' := fun k_ => ((P0_1_ k_ ∨ P1_1_ k_) ∨ w.heap.size ≤ k_) ∧ k_ ≠ gb353 ∧ k_ ≠ gb354 ∧ k_ ≠ gb355) ho1 (fun k_ hk_ => ⟨Or.elim hk_ (fun hs_ => hs_.1) (fun hn_ => (.inr (Nat.le_trans (below_size (by repeat (first | (with_reducible first | exact HB.out | apply below_alloc | apply pw_below_drewN | apply below_drew1 | refine below_set ?_ GE353.out | refine below_set ?_ GE354.out | refine below_set ?_ GE355.out) | exact HB.out))) hn_))), Or.elim hk_ (fun hs_ => hs_.2.1) (fun hn_ => (Kd.freshB (g := gb353) (o := .cells #[.bool a0_0, .slice A0_1 l0_1.length c0_1] 25 (0, 0)) (blk_up BK353.out) k_ hn_)), Or.elim hk_ (fun hs_ => hs_.2.2.1) (fun hn_ => (Kd.freshB (g := gb354) (o := .cells #[.bool a1_0, .slice A1_1 l1_1.length c1_1] 25 (0, 0)) (blk_up BK354.out) k_ hn_)), Or.elim hk_ (fun hs_ => hs_.2.2.2) (fun hn_ => (Kd.freshB (g := gb355) (o := .cells #[.bool false, .slice none 0 0] 25 (0, 0)) (blk_up BK355.out) k_ hn_))⟩)) (below_size (by repeat (first | (with_reducible first | exact HB.out | apply below_alloc | apply pw_below_drewN | apply below_drew1 | refine below_set ?_ GE353.out | refine below_set ?_ GE354.out | refine below_set ?_ GE355.out) | exact HB.out)))); replace BK353 := Aside0.mk (blk_below (g := gb353) (o := .cells #[.bool a0_0, .slice A0_1 l0_1.length c0_1] 25 (0, 0)) (blk_up BK353.out) hb); replace BK354 := Aside0.mk (blk_below (g := gb354) (o := .cells #[.bool a1_0, .slice A1_1 l1_1.length c1_1] 25 (0, 0)) (blk_up BK354.out) hb); replace BK355 := Aside0.mk (blk_below (g := gb355) (o := .cells #[.bool false, .slice none 0 0] 25 (0, 0)) (blk_up BK355.out) hb); replace HB := Aside0.mk (below_step (by repeat (first | (with_reducible first | exact HB.out | apply below_alloc | apply pw_below_drewN | apply below_drew1 | refine below_set ?_ GE353.out | refine below_set ?_ GE354.out | refine below_set ?_ GE355.out) | exact HB.out)) hb); (try clear hb); (try clear hb2); (try clear hk); (try clear hi); (try clear ho0); (try clear ho1)))
    go_roundg k1
    case measure => have := HK1.out; omega
    case rel => exact ⟨(x6_1), (t359), H', ⟨by have := HK1.out; omega⟩, ⟨Kd.V_up HO_6.out⟩, ⟨Kd.V_up HO361.out⟩, ⟨Kd.V_up HO_354001.out⟩, ⟨Kd.V_up HO_355001.out⟩, ⟨by (with_reducible repeat (first | refine blk_drewN ?_ _ | refine blk_drew ?_ | refine blk_alloc ?_ _)); exact BK353.out⟩, ⟨by (with_reducible repeat (first | refine blk_drewN ?_ _ | refine blk_drew ?_ | refine blk_alloc ?_ _)); exact BK354.out⟩, ⟨by (with_reducible repeat (first | refine blk_drewN ?_ _ | refine blk_drew ?_ | refine blk_alloc ?_ _)); exact BK355.out⟩, ⟨by repeat (first | (with_reducible first | exact HB.out | apply below_alloc | apply pw_below_drewN | apply below_drew1 | refine below_set ?_ GE353.out | refine below_set ?_ GE354.out | refine below_set ?_ GE355.out) | exact HB.out)⟩⟩
   ·
    rw [if_neg c11] at H
    have c11b0 := decide_eq_false c11
    have c11b1 : decide (0 < x6_1.length) = false := decide_eq_false (by omega)
    clear c11
    simp only [Option.some.injEq, Prod.mk.injEq] at H
    obtain ⟨rfl, rfl⟩ := H
    obtain ⟨Ao16, co16, eo16⟩ := Kd.V_slice HO_6.out
    subst eo16
    obtain ⟨Ao17, co17, eo17⟩ := Kd.V_slice HO_5.out
    subst eo17
    have hnb18 := NB355_353.out
    have hnc18 := NB353_355.out
    have hnb19 := NB355_354.out
    have hnc19 := NB354_355.out
    have hcz20_0 : wr.cell? ⟨gb355, 0, none⟩ = some (.bool false) := (blk_cell BK355.out 0).trans rfl
    have hcz20_1 : wr.cell? ⟨gb355, 1, none⟩ = some (.slice none 0 0) := (blk_cell BK355.out 1).trans rfl
    have hfz20_0 := blk_frozen BK355.out 0
    have hfz20_1 := blk_frozen BK355.out 1
    go_wp2
    repeat (go_quiet (fail); try go_wp2)
    refine bodyPost_ret (results_cell_row rfl _ _ gb355 25 #[.bool false, .slice Ao17 x5_1.length co17] (0, 0) _ rfl (by refine blk_ups ?_; refine blk_put (cs := #[.bool false, .slice none 0 0]) ?_ 1 _ rfl; refine blk_ups ?_; refine blk_put (cs := #[.bool false, .slice none 0 0]) ?_ 0 _ rfl; exact blk_up BK355.out) Tryd.underlying25 rfl (by kernel_rfl)) rfl ?_
    exact ⟨_, by first | rfl | (simp [errW_none, errW_some] <;> rfl) | (simp [*, errW_none, errW_some] <;> rfl), Kd.V_up (Kd.V_mono (Kd.V_far (p := ⟨gb355, 1, none⟩) (Kd.V_far (p := ⟨gb355, 0, none⟩) (Kd.V_mono HO_5.out (fun k_ hk => (⟨hk, hk.2.2.2⟩ : _ ∧ k_ ≠ gb355))) (fun _ hk => hk.2) (.bool false)) (fun _ hk => hk.2) (.slice Ao17 x5_1.length co17)) (fun _ hk => hk.1.1)), by repeat (first | (with_reducible first | exact HB.out | apply below_alloc | apply pw_below_drewN | apply below_drew1 | refine below_set ?_ GE353.out | refine below_set ?_ GE354.out | refine below_set ?_ GE355.out) | exact HB.out)⟩
mutual
def integer_Mul.l0 : Nat → List Int → List Int → Int → Int → Bool → List Int → Bool → List Int → Option (Bool × List Int)
 | 0, _, _, _, _, _, _, _, _ => none
 | k + 1, x5, x20, x21, x22, x363000, x363001, x364000, x364001 => if x22 < x21 then (if 0 ≤ x22 then (if x22 < (x20.length : Int) then (integer_Mul.l1 k x5 x22 (rd x20 x22) 0 x20 x21 x22 x364001 (x364001.length : Int) 0 x363000 x363001 x364000 x364001) else (none)) else (none)) else ((integer_signed.f k (x363000 != x364000) x5).bind fun bt368 => (some (bt368.1, bt368.2)))
def integer_Mul.l1 : Nat → List Int → Int → Int → Int → List Int → Int → Int → List Int → Int → Int → Bool → List Int → Bool → List Int → Option (Bool × List Int)
 | 0, _, _, _, _, _, _, _, _, _, _, _, _, _, _ => none
 | k + 1, x5, x6, x7, x8, x20, x21, x22, x28, x29, x30, x363000, x363001, x364000, x364001 => if x30 < x29 then (if 0 ≤ x30 then (if x30 < (x28.length : Int) then (if 0 ≤ (wrap64 (x6 + x30)) then (if (wrap64 (x6 + x30)) < (x5.length : Int) then (integer_Mul.l1 k (x5.set ((wrap64 (x6 + x30)) : Int).toNat ((IntKind.u64.wrap (x8 + (IntKind.u64.wrap ((IntKind.u64.wrap ((IntKind.u64.wrap (x7)) * (IntKind.u64.wrap (rd x28 x30)))) + (IntKind.u64.wrap (rd x5 (wrap64 (x6 + x30)))))))) % 4294967296)) x6 x7 ((IntKind.u64.wrap (x8 + (IntKind.u64.wrap ((IntKind.u64.wrap ((IntKind.u64.wrap (x7)) * (IntKind.u64.wrap (rd x28 x30)))) + (IntKind.u64.wrap (rd x5 (wrap64 (x6 + x30)))))))) / 4294967296) x20 x21 x22 x28 x29 (wrap64 (x30 + 1)) x363000 x363001 x364000 x364001) else (none)) else (none)) else (none)) else (none)) else (if 0 ≤ (wrap64 (x6 + (x364001.length : Int))) then (if (wrap64 (x6 + (x364001.length : Int))) < (x5.length : Int) then (integer_Mul.l0 k (x5.set ((wrap64 (x6 + (x364001.length : Int))) : Int).toNat ((x8) % 4294967296)) x20 x21 (wrap64 (x22 + 1)) x363000 x363001 x364000 x364001) else (none)) else (none))
end
def integer_Mul.f (k : Nat) (a0_0 : Bool) (l0_1 : List Int) (a1_0 : Bool) (l1_1 : List Int) : Option (Bool × List Int) := if 0 ≤ (wrap64 ((l0_1.length : Int) + (l1_1.length : Int))) then (if (wrap64 ((l0_1.length : Int) + (l1_1.length : Int)) : Int).toNat ≤ 70368744177664 then (integer_Mul.l0 k (List.replicate (wrap64 ((l0_1.length : Int) + (l1_1.length : Int)) : Int).toNat 0) l0_1 (l0_1.length : Int) 0 a0_0 l0_1 a1_0 l1_1) else (none)) else (none)
theorem integer_Mul.mono_l : ∀ k, (∀ y0 y1 y2 y3 y4 y5 y6 y7, LeO (integer_Mul.l0 k y0 y1 y2 y3 y4 y5 y6 y7) (integer_Mul.l0 (k + 1) y0 y1 y2 y3 y4 y5 y6 y7)) ∧ (∀ y0 y1 y2 y3 y4 y5 y6 y7 y8 y9 y10 y11 y12 y13, LeO (integer_Mul.l1 k y0 y1 y2 y3 y4 y5 y6 y7 y8 y9 y10 y11 y12 y13) (integer_Mul.l1 (k + 1) y0 y1 y2 y3 y4 y5 y6 y7 y8 y9 y10 y11 y12 y13))
 | 0 => ⟨fun _ _ _ _ _ _ _ _ r h => by simp [integer_Mul.l0] at h, fun _ _ _ _ _ _ _ _ _ _ _ _ _ _ r h => by simp [integer_Mul.l1] at h⟩
 | k + 1 => by
  obtain ⟨ih0, ih1⟩ := integer_Mul.mono_l k
  refine ⟨?_, ?_⟩
  ·
   intro y0 y1 y2 y3 y4 y5 y6 y7
   unfold integer_Mul.l0
   repeat' first
   | (with_reducible exact ih0 _ _ _ _ _ _ _ _)
   | (with_reducible exact ih1 _ _ _ _ _ _ _ _ _ _ _ _ _ _)
   | (with_reducible exact integer_signed.mono _ _ _)
   | (with_reducible exact LeO.refl _)
   | (with_reducible exact LeO.none _)
   | (with_reducible refine LeO.ite ?_ ?_)
   | (with_reducible refine LeO.bind ?_ (fun _ => ?_))
  ·
   intro y0 y1 y2 y3 y4 y5 y6 y7 y8 y9 y10 y11 y12 y13
   unfold integer_Mul.l1
   repeat' first
   | (with_reducible exact ih0 _ _ _ _ _ _ _ _)
   | (with_reducible exact ih1 _ _ _ _ _ _ _ _ _ _ _ _ _ _)
   | (with_reducible exact integer_signed.mono _ _ _)
   | (with_reducible exact LeO.refl _)
   | (with_reducible exact LeO.none _)
   | (with_reducible refine LeO.ite ?_ ?_)
   | (with_reducible refine LeO.bind ?_ (fun _ => ?_))
theorem integer_Mul.mono : ∀ a0 a1 a2 a3 k, LeO (integer_Mul.f k a0 a1 a2 a3) (integer_Mul.f (k + 1) a0 a1 a2 a3) := by
 intro a0 a1 a2 a3 k
 obtain ⟨ih0, ih1⟩ := integer_Mul.mono_l k
 unfold integer_Mul.f
 repeat' first
   | (with_reducible exact ih0 _ _ _ _ _ _ _ _)
   | (with_reducible exact ih1 _ _ _ _ _ _ _ _ _ _ _ _ _ _)
   | (with_reducible exact integer_signed.mono _ _ _)
   | (with_reducible exact LeO.refl _)
   | (with_reducible exact LeO.none _)
   | (with_reducible refine LeO.ite ?_ ?_)
   | (with_reducible refine LeO.bind ?_ (fun _ => ?_))
set_option maxHeartbeats 8000000 in
set_option maxRecDepth 100000 in
theorem integer_Mul.calls (k : Nat) (a0_0 : Bool) (A0_1 : Option Addr) (c0_1 : Nat) (l0_1 : List Int) (a1_0 : Bool) (A1_1 : Option Addr) (c1_1 : Nat) (l1_1 : List Int) (r1 : Bool) (r2 : List Int) (w : World) (hr0_1 : Kd.C (Kd.int .u32) w A0_1 l0_1.length l0_1) (hc0_1 : l0_1.length ≤ c0_1) (hr1_1 : Kd.C (Kd.int .u32) w A1_1 l1_1.length l1_1) (hc1_1 : l1_1.length ≤ c1_1) (h : integer_Mul.f k a0_0 l0_1 a1_0 l1_1 = some (r1, r2)) :
  Calls Tryd.prog 25 #[.agg #[.bool a0_0, .slice A0_1 l0_1.length c0_1], .agg #[.bool a1_0, .slice A1_1 l1_1.length c1_1]] w fun e w' => ∃ v1_ : Value, e = .returned (.agg #[.bool r1, v1_]) ∧ Kd.V (Kd.int .u32) 60 w' w.heap.size (fun k_ => (w.heap.size ≤ k_)) v1_ r2 ∧ Below w.heap.size w w' := by
 have hu25 := Tryd.underlying25
 have HR0_1 := Aside0.mk hr0_1
 have HC0_1 := Aside0.mk hc0_1
 clear hr0_1 hc0_1
 have HR1_1 := Aside0.mk hr1_1
 have HC1_1 := Aside0.mk hc1_1
 clear hr1_1 hc1_1
 have HB := Aside0.mk (Below.refl w.heap.size w)
 have H := h
 unfold integer_Mul.f at H
 clear h
 obtain ⟨ji3, hji3⟩ : ∃ j_ : Int, (wrap64 ((l0_1.length : Int) + (l1_1.length : Int))) = j_ := ⟨_, rfl⟩
 replace H : (if 0 ≤ (ji3) then (if (ji3 : Int).toNat ≤ 70368744177664 then (integer_Mul.l0 k (List.replicate (ji3 : Int).toNat 0) l0_1 (l0_1.length : Int) 0 a0_0 l0_1 a1_0 l1_1) else (none)) else (none)) = some (r1, r2) := by first | (rw [hji3] at H; exact H) | (simp only [hji3] at H ⊢; exact H)
 have hji3w : (IntKind.i64.wrap ((l0_1.length : Int) + (l1_1.length : Int))) = ji3 := (i64_w _).trans hji3
 by_cases c4 : 0 ≤ (ji3)
 ·
  rw [if_pos c4] at H
  have c4b0 := eq_true c4
  have c4b1 := decide_eq_true c4
  clear c4
  obtain ⟨c5, H⟩ := ite_some H
  have c5b0 := eq_true c5
  have c5b1 := decide_eq_true c5
  clear c5
  obtain ⟨y365, hy365⟩ : ∃ y_ : List Int, y_ = (List.replicate (ji3 : Int).toNat 0) := ⟨_, rfl⟩
  replace H : (integer_Mul.l0 k y365 l0_1 (l0_1.length : Int) 0 a0_0 l0_1 a1_0 l1_1) = some (r1, r2) := by first | (rw [hy365]; exact H) | exact H
  have Ny365 := Aside0.mk hy365
  clear hy365
  have H' := Aside0.mk H
  clear H
  go_enter Tryd.func25, Tryd.ntmps25
  go_wp2_with (first | ((with_reducible refine gate_dst (N := 2) rfl ?_); refine box_event ?hg (N := 2) ?hd (cs := #[.bool a0_0, .slice A0_1 l0_1.length c0_1]) (t := 25) ?hr ?_; (case hd => rfl); (case hg => rfl); (case hr => first | (go_simp; done) | (go_simp; rfl)); intro gb362 hg w6 hbox hb; have BK362 := Aside0.mk (hbox); have GE362 := Aside0.mk ((size_up hg HB.out : w.heap.size ≤ gb362)); replace HB := Aside0.mk (below_step (below_up HB.out) hb); clear hb hbox hg) | ((with_reducible refine gate_dst (N := 3) rfl ?_); refine box_event ?hg (N := 3) ?hd (cs := #[.bool a1_0, .slice A1_1 l1_1.length c1_1]) (t := 25) ?hr ?_; (case hd => rfl); (case hg => rfl); (case hr => first | (go_simp; done) | (go_simp; rfl)); intro gb363 hg w7 hbox hb; have BK363 := Aside0.mk (hbox); have GE363 := Aside0.mk ((by rw [hg]; exact (below_size (by repeat (first | (with_reducible first | exact HB.out | apply below_alloc | apply pw_below_drewN | apply below_drew1 | refine below_set ?_ GE362.out) | exact HB.out))) : w.heap.size ≤ gb363)); replace HB := Aside0.mk (below_step (by repeat (first | (with_reducible first | exact HB.out | apply below_alloc | apply pw_below_drewN | apply below_drew1 | refine below_set ?_ GE362.out) | exact HB.out)) hb); have NB362_363 := Aside0.mk ((blk_nw hg BK362.out : gb362 ≠ gb363)); have NB363_362 := Aside0.mk ((nw_blk hg BK362.out : gb363 ≠ gb362)); replace BK362 := Aside0.mk (blk_below (g := gb362) (o := .cells #[.bool a0_0, .slice A0_1 l0_1.length c0_1] 25 (0, 0)) (blk_up BK362.out) hb); clear hb hbox hg) | ((with_reducible refine gate_dst (N := 4) rfl ?_); refine box_event ?hg (N := 4) ?hd (cs := #[.bool false, .slice none 0 0]) (t := 25) ?hr ?_; (case hd => rfl); (case hg => rfl); (case hr => first | (go_simp; done) | (go_simp; rfl)); intro gb364 hg w8 hbox hb; have BK364 := Aside0.mk (hbox); have GE364 := Aside0.mk ((by rw [hg]; exact (below_size (by repeat (first | (with_reducible first | exact HB.out | apply below_alloc | apply pw_below_drewN | apply below_drew1 | refine below_set ?_ GE362.out | refine below_set ?_ GE363.out) | exact HB.out))) : w.heap.size ≤ gb364)); replace HB := Aside0.mk (below_step (by repeat (first | (with_reducible first | exact HB.out | apply below_alloc | apply pw_below_drewN | apply below_drew1 | refine below_set ?_ GE362.out | refine below_set ?_ GE363.out) | exact HB.out)) hb); have NB362_364 := Aside0.mk ((blk_nw hg BK362.out : gb362 ≠ gb364)); have NB364_362 := Aside0.mk ((nw_blk hg BK362.out : gb364 ≠ gb362)); replace BK362 := Aside0.mk (blk_below (g := gb362) (o := .cells #[.bool a0_0, .slice A0_1 l0_1.length c0_1] 25 (0, 0)) (blk_up BK362.out) hb); have NB363_364 := Aside0.mk ((blk_nw hg BK363.out : gb363 ≠ gb364)); have NB364_363 := Aside0.mk ((nw_blk hg BK363.out : gb364 ≠ gb363)); replace BK363 := Aside0.mk (blk_below (g := gb363) (o := .cells #[.bool a1_0, .slice A1_1 l1_1.length c1_1] 25 (0, 0)) (blk_up BK363.out) hb); clear hb hbox hg; have hnb9 := NB362_363.out; have hnc9 := NB363_362.out; have hnb10 := NB362_364.out; have hnc10 := NB364_362.out; have hcz11_0 : w8.cell? ⟨gb362, 0, none⟩ = some (.bool a0_0) := (blk_cell BK362.out 0).trans rfl; have hcz11_1 : w8.cell? ⟨gb362, 1, none⟩ = some (.slice A0_1 l0_1.length c0_1) := (blk_cell BK362.out 1).trans rfl; have hfz11_0 := blk_frozen BK362.out 0; have hfz11_1 := blk_frozen BK362.out 1; have hnb12 := NB363_364.out; have hnc12 := NB364_363.out; have hcz13_0 : w8.cell? ⟨gb363, 0, none⟩ = some (.bool a1_0) := (blk_cell BK363.out 0).trans rfl; have hcz13_1 : w8.cell? ⟨gb363, 1, none⟩ = some (.slice A1_1 l1_1.length c1_1) := (blk_cell BK363.out 1).trans rfl; have hfz13_0 := blk_frozen BK363.out 0; have hfz13_1 := blk_frozen BK363.out 1) | ((with_reducible refine gate_dst (N := 18) rfl ?_); refine Kd.R_make (Kd.int .u32) _ 60 rfl (N := 18) rfl 23 _ _ rfl ji3 rfl rfl Tryd.underlying23 (.int .u32 0) 4 info60 rfl (by decide) (by omega) 0 (ok := fun _ => True) (okp := fun _ => True) rfl (fun _ hk => hk) trivial (of_decide_eq_true (by assumption)) (Nat.le_trans (Nat.mul_le_mul_right _ (of_decide_eq_true (by assumption) : ji3.toNat ≤ 70368744177664)) (by omega)) (Below.refl _ _) (Nat.le_refl _) ?_; intro v366 w14 ho15 hb hg_ hnew_; clear hg_ hnew_; (first | rw [← Ny365.out] at ho15 | (simp only [Int.reduceToNat] at ho15; rw [← Ny365.out] at ho15)); have HO367 := Aside0.mk (Kd.R_lower (Kd.R_newM (M := fun k_ => (w.heap.size ≤ k_)) ho15 (below_size (by repeat (first | (with_reducible first | exact HB.out | apply below_alloc | apply pw_below_drewN | apply below_drew1 | refine below_set ?_ GE362.out | refine below_set ?_ GE363.out | refine below_set ?_ GE364.out) | exact HB.out))) (fun k_ h_ => h_)) (below_size (by repeat (first | (with_reducible first | exact HB.out | apply below_alloc | apply pw_below_drewN | apply below_drew1 | refine below_set ?_ GE362.out | refine below_set ?_ GE363.out | refine below_set ?_ GE364.out) | exact HB.out)))); replace BK362 := Aside0.mk (blk_below (g := gb362) (o := .cells #[.bool a0_0, .slice A0_1 l0_1.length c0_1] 25 (0, 0)) (blk_up BK362.out) hb); replace BK363 := Aside0.mk (blk_below (g := gb363) (o := .cells #[.bool a1_0, .slice A1_1 l1_1.length c1_1] 25 (0, 0)) (blk_up BK363.out) hb); replace BK364 := Aside0.mk (blk_below (g := gb364) (o := .cells #[.bool false, .slice none 0 0] 25 (0, 0)) (blk_up BK364.out) hb); replace HB := Aside0.mk (below_step (by repeat (first | (with_reducible first | exact HB.out | apply below_alloc | apply pw_below_drewN | apply below_drew1 | refine below_set ?_ GE362.out | refine below_set ?_ GE363.out | refine below_set ?_ GE364.out) | exact HB.out)) hb); clear hb ho15; have hcz16_0 : w14.cell? ⟨gb362, 0, none⟩ = some (.bool a0_0) := (blk_cell BK362.out 0).trans rfl; have hcz16_1 : w14.cell? ⟨gb362, 1, none⟩ = some (.slice A0_1 l0_1.length c0_1) := (blk_cell BK362.out 1).trans rfl; have hfz16_0 := blk_frozen BK362.out 0; have hfz16_1 := blk_frozen BK362.out 1))
  go_loopg [22] k (fun kq v22 w' => ∃ (x5_1 : List Int) (x22_1 : Int), v22 = .int .i64 x22_1 ∧ Aside0 (integer_Mul.l0 kq x5_1 l0_1 (l0_1.length : Int) x22_1 a0_0 l0_1 a1_0 l1_1 = some (r1, r2)) ∧ Aside0 (kq ≤ k) ∧ Aside0 (Kd.R (Kd.int .u32) 60 w' w.heap.size (fun k_ => (w.heap.size ≤ k_)) v366 x5_1) ∧ Aside0 (w'.heap[gb362]? = some (.cells #[.bool a0_0, (.slice A0_1 l0_1.length c0_1)] 25 (0, 0))) ∧ Aside0 (w'.heap[gb363]? = some (.cells #[.bool a1_0, (.slice A1_1 l1_1.length c1_1)] 25 (0, 0))) ∧ Aside0 (w'.heap[gb364]? = some (.cells #[.bool false, (.slice none 0 0)] 25 (0, 0))) ∧ Aside0 (Below w.heap.size w w'))
  case atStart => exact ⟨(y365), (0), (by first | rfl | (simp; done) | (simp [*]; done) | (simp <;> omega)), H', ⟨Nat.le_refl _⟩, ⟨Kd.R_up (Kd.R_mono HO367.out (fun _ hk => hk.1))⟩, ⟨by (with_reducible repeat (first | refine blk_drewN ?_ _ | refine blk_drew ?_ | refine blk_alloc ?_ _)); exact BK362.out⟩, ⟨by (with_reducible repeat (first | refine blk_drewN ?_ _ | refine blk_drew ?_ | refine blk_alloc ?_ _)); exact BK363.out⟩, ⟨by (with_reducible repeat (first | refine blk_drewN ?_ _ | refine blk_drew ?_ | refine blk_alloc ?_ _)); exact BK364.out⟩, ⟨by repeat (first | (with_reducible first | exact HB.out | apply below_alloc | apply pw_below_drewN | apply below_drew1 | refine below_set ?_ GE362.out | refine below_set ?_ GE363.out | refine below_set ?_ GE364.out) | exact HB.out)⟩⟩
  case round =>
   clear H'
   obtain ⟨x5_1, x22_1, rfl, HA, HK1, HO_5, BK362, BK363, BK364, HB⟩ := hrel
   cases gk with
   | zero => exact absurd HA.out (by simp [integer_Mul.l0])
   | succ k1 =>
    have H := HA.out
    clear HA
    simp only [integer_Mul.l0] at H
    by_cases c17 : x22_1 < (l0_1.length : Int)
    ·
     rw [if_pos c17] at H
     have c17b0 := decide_eq_true c17
     clear c17
     obtain ⟨c18, H⟩ := ite_some H
     have c18b0 := decide_eq_true c18
     clear c18
     obtain ⟨c19, H⟩ := ite_some H
     have c19b0 := decide_eq_true c19
     clear c19
     have H' := Aside0.mk H
     clear H
     have p372 : 0 ≤ (x22_1 : Int) := of_decide_eq_true (by assumption)
     have q372 : x22_1 < (l0_1.length : Int) := of_decide_eq_true (by assumption)
     obtain ⟨ad372, e372, hx372_0⟩ := Kd.at_int HR0_1.out x22_1 p372 q372
     cases e372
     replace hx372_0 := (HB.out.cell (World.block_lt_of_cell? w _ hx372_0)).trans hx372_0
     replace p372 := eq_true p372
     replace q372 := eq_true q372
     have hnb20 := NB363_362.out
     have hnc20 := NB362_363.out
     have hnb21 := NB363_364.out
     have hnc21 := NB364_363.out
     have hcz22_0 : wr.cell? ⟨gb363, 0, none⟩ = some (.bool a1_0) := (blk_cell BK363.out 0).trans rfl
     have hcz22_1 : wr.cell? ⟨gb363, 1, none⟩ = some (.slice A1_1 l1_1.length c1_1) := (blk_cell BK363.out 1).trans rfl
     have hfz22_0 := blk_frozen BK363.out 0
     have hfz22_1 := blk_frozen BK363.out 1
     go_wp2
     go_loopg [8, 30] k1 (fun kq v8 v30 w' => ∃ (x5_2 : List Int) (x8_2 : Int) (x30_2 : Int), v8 = .int .u64 x8_2 ∧ v30 = .int .i64 x30_2 ∧ Aside0 (integer_Mul.l1 kq x5_2 x22_1 (rd l0_1 x22_1) x8_2 l0_1 (l0_1.length : Int) x22_1 l1_1 (l1_1.length : Int) x30_2 a0_0 l0_1 a1_0 l1_1 = some (r1, r2)) ∧ Aside0 (kq ≤ k1) ∧ Aside0 (Kd.R (Kd.int .u32) 60 w' w.heap.size (fun k_ => (w.heap.size ≤ k_)) v366 x5_2) ∧ Aside0 (w'.heap[gb362]? = some (.cells #[.bool a0_0, (.slice (some ad372) l0_1.length c0_1)] 25 (0, 0))) ∧ Aside0 (w'.heap[gb363]? = some (.cells #[.bool a1_0, (.slice A1_1 l1_1.length c1_1)] 25 (0, 0))) ∧ Aside0 (w'.heap[gb364]? = some (.cells #[.bool false, (.slice none 0 0)] 25 (0, 0))) ∧ Aside0 (Below w.heap.size w w'))
     case atStart => exact ⟨(x5_1), (0), (0), (by first | rfl | (simp; done) | (simp [*]; done) | (simp <;> omega)), (by first | rfl | (simp; done) | (simp [*]; done) | (simp <;> omega)), H', ⟨Nat.le_refl _⟩, ⟨Kd.R_up HO_5.out⟩, ⟨by (with_reducible repeat (first | refine blk_drewN ?_ _ | refine blk_drew ?_ | refine blk_alloc ?_ _)); exact BK362.out⟩, ⟨by (with_reducible repeat (first | refine blk_drewN ?_ _ | refine blk_drew ?_ | refine blk_alloc ?_ _)); exact BK363.out⟩, ⟨by (with_reducible repeat (first | refine blk_drewN ?_ _ | refine blk_drew ?_ | refine blk_alloc ?_ _)); exact BK364.out⟩, ⟨by repeat (first | (with_reducible first | exact HB.out | apply below_alloc | apply pw_below_drewN | apply below_drew1 | refine below_set ?_ GE362.out | refine below_set ?_ GE363.out | refine below_set ?_ GE364.out) | exact HB.out)⟩⟩
     case round =>
      clear H'
      obtain ⟨x5_2, x8_2, x30_2, rfl, rfl, HA, HK2, HO_5, BK362, BK363, BK364, HB⟩ := hrel
      cases gk with
      | zero => exact absurd HA.out (by simp [integer_Mul.l1])
      | succ k2 =>
       have H := HA.out
       clear HA
       simp only [integer_Mul.l1] at H
       by_cases c23 : x30_2 < (l1_1.length : Int)
       ·
        rw [if_pos c23] at H
        have c23b0 := decide_eq_true c23
        clear c23
        obtain ⟨c24, H⟩ := ite_some H
        have c24b0 := decide_eq_true c24
        clear c24
        obtain ⟨c25, H⟩ := ite_some H
        have c25b0 := decide_eq_true c25
        clear c25
        obtain ⟨ji26, hji26⟩ : ∃ j_ : Int, (wrap64 (x22_1 + x30_2)) = j_ := ⟨_, rfl⟩
        replace H : (if 0 ≤ (ji26) then (if (ji26) < (x5_2.length : Int) then (integer_Mul.l1 k2 (x5_2.set ((ji26) : Int).toNat ((IntKind.u64.wrap (x8_2 + (IntKind.u64.wrap ((IntKind.u64.wrap ((IntKind.u64.wrap ((rd l0_1 x22_1))) * (IntKind.u64.wrap (rd l1_1 x30_2)))) + (IntKind.u64.wrap (rd x5_2 (ji26))))))) % 4294967296)) x22_1 (rd l0_1 x22_1) ((IntKind.u64.wrap (x8_2 + (IntKind.u64.wrap ((IntKind.u64.wrap ((IntKind.u64.wrap ((rd l0_1 x22_1))) * (IntKind.u64.wrap (rd l1_1 x30_2)))) + (IntKind.u64.wrap (rd x5_2 (ji26))))))) / 4294967296) l0_1 (l0_1.length : Int) x22_1 l1_1 (l1_1.length : Int) (wrap64 (x30_2 + 1)) a0_0 l0_1 a1_0 l1_1) else (none)) else (none)) = some (r1, r2) := by first | (rw [hji26] at H; exact H) | (simp only [hji26] at H ⊢; exact H)
        have hji26w : (IntKind.i64.wrap (x22_1 + x30_2)) = ji26 := (i64_w _).trans hji26
        obtain ⟨c27, H⟩ := ite_some H
        have c27b0 := decide_eq_true c27
        clear c27
        obtain ⟨c28, H⟩ := ite_some H
        have c28b0 := decide_eq_true c28
        clear c28
        obtain ⟨y375, hy375⟩ : ∃ y_ : List Int, y_ = (x5_2.set ((ji26) : Int).toNat ((IntKind.u64.wrap (x8_2 + (IntKind.u64.wrap ((IntKind.u64.wrap ((IntKind.u64.wrap ((rd l0_1 x22_1))) * (IntKind.u64.wrap (rd l1_1 x30_2)))) + (IntKind.u64.wrap (rd x5_2 (ji26))))))) % 4294967296)) := ⟨_, rfl⟩
        replace H : (integer_Mul.l1 k2 y375 x22_1 (rd l0_1 x22_1) ((IntKind.u64.wrap (x8_2 + (IntKind.u64.wrap ((IntKind.u64.wrap ((IntKind.u64.wrap ((rd l0_1 x22_1))) * (IntKind.u64.wrap (rd l1_1 x30_2)))) + (IntKind.u64.wrap (rd x5_2 (ji26))))))) / 4294967296) l0_1 (l0_1.length : Int) x22_1 l1_1 (l1_1.length : Int) (wrap64 (x30_2 + 1)) a0_0 l0_1 a1_0 l1_1) = some (r1, r2) := by first | (rw [hy375]; exact H) | exact H
        have Ny375 := Aside0.mk hy375
        clear hy375
        have H' := Aside0.mk H
        clear H
        have p373 : 0 ≤ (x30_2 : Int) := of_decide_eq_true (by assumption)
        have q373 : x30_2 < (l1_1.length : Int) := of_decide_eq_true (by assumption)
        obtain ⟨ad373, e373, hx373_0⟩ := Kd.at_int HR1_1.out x30_2 p373 q373
        cases e373
        replace hx373_0 := (HB.out.cell (World.block_lt_of_cell? w _ hx373_0)).trans hx373_0
        replace p373 := eq_true p373
        replace q373 := eq_true q373
        obtain ⟨Ao30, co30, eo30⟩ := Kd.R_slice HO_5.out
        subst eo30
        have p374 : 0 ≤ ((ji26) : Int) := of_decide_eq_true (by assumption)
        have q374 : (ji26) < (x5_2.length : Int) := of_decide_eq_true (by assumption)
        obtain ⟨ad374, e374, hx374_0⟩ := Kd.at_int (Kd.R_reads' HO_5.out).2.2 (ji26) p374 q374
        cases e374
        replace p374 := eq_true p374
        replace q374 := eq_true q374
        have p29 : 0 ≤ ((ji26) : Int) := of_decide_eq_true (by assumption)
        have q29 : ((ji26) : Int) < ((x5_2.length : Int) : Int) := of_decide_eq_true (by assumption)
        obtain ⟨go29, co29, eo29, gb29, gl29, cl29, HG29⟩ := Kd.R_form HO_5.out (by omega)
        (first | cases eo29 | (injection eo29 with ea_ en_ ec_; (first | subst ea_ | (injection ea_ with ea_; subst ea_)); subst ec_; clear en_))
        have GB29 := Aside0.mk gb29
        have GG29 := Aside0.mk HG29
        clear gb29 gl29 HG29
        (first | simp only [add_plain] at hx374_0 | skip)
        obtain ⟨hx29_0, hf29_0⟩ := Kd.R_celln 0 HO_5.out ((ji26) : Int) p29 q29
        replace p29 := eq_true p29
        replace q29 := eq_true q29
        have HP31 := Kd.R_putg HO_5.out ((ji26) : Int) ((IntKind.u64.wrap (x8_2 + (IntKind.u64.wrap ((IntKind.u64.wrap ((IntKind.u64.wrap ((rd l0_1 x22_1))) * (IntKind.u64.wrap (rd l1_1 x30_2)))) + (IntKind.u64.wrap (rd x5_2 (ji26))))))) % 4294967296)
        go_wp2_with (first | ((with_reducible refine gate_store (t := 60) (p := 56) rfl ?_); refine store_event (t := 60) (p := 56) (v := ?vo_w32) (w1 := (wr.setCell ⟨go29, ((ji26) : Int).toNat, none⟩ (.int .u32 ((IntKind.u64.wrap (x8_2 + (IntKind.u64.wrap ((IntKind.u64.wrap ((IntKind.u64.wrap ((rd l0_1 x22_1))) * (IntKind.u64.wrap (rd l1_1 x30_2)))) + (IntKind.u64.wrap (rd x5_2 (ji26))))))) % 4294967296)))) ?hg ?ho ?hn ?hr ?_; (case ho => rfl); (case hg => rfl); (case hn => rfl); (case hr => first | (go_simp; done) | (go_simp; rfl)); intro w32 hw; have hg : wr.grownBy w32 (some go29) := (by rw [hw]; exact HP31.2); have hp_ : Kd.R (Kd.int .u32) 60 w32 w.heap.size (fun k_ => (w.heap.size ≤ k_)) (.slice (some ⟨go29, 0, none⟩) x5_2.length co30) y375 := (by rw [hw, Ny375.out]; exact HP31.1); clear HP31; replace BK362 := Aside0.mk (blk_grown (g := gb362) (o := .cells #[.bool a0_0, .slice (some ad372) l0_1.length c0_1] 25 (0, 0)) (blk_up BK362.out) hg (Kd.R_ne HO_5.out BK362.out (by decide))); replace BK363 := Aside0.mk (blk_grown (g := gb363) (o := .cells #[.bool a1_0, .slice (some ad373) l1_1.length c1_1] 25 (0, 0)) (blk_up BK363.out) hg (Kd.R_ne HO_5.out BK363.out (by decide))); replace BK364 := Aside0.mk (blk_grown (g := gb364) (o := .cells #[.bool false, .slice none 0 0] 25 (0, 0)) (blk_up BK364.out) hg (Kd.R_ne HO_5.out BK364.out (by decide))); replace HO_5 := Aside0.mk (hp_); replace HB := Aside0.mk ((by rw [hw]; exact below_set (HB.out) GB29.out : Below w.heap.size w w32)); clear hg hw hp_))
        go_roundg k2
        case measure => have := HK1.out; have := HK2.out; omega
        case rel => exact ⟨(y375), ((IntKind.u64.wrap (x8_2 + (IntKind.u64.wrap ((IntKind.u64.wrap ((IntKind.u64.wrap ((rd l0_1 x22_1))) * (IntKind.u64.wrap (rd l1_1 x30_2)))) + (IntKind.u64.wrap (rd x5_2 (ji26))))))) / 4294967296), (wrap64 (x30_2 + 1)), (by first | rfl | (simp; done) | (simp only [← hji26] <;> (first | rfl | simp)) | (simp [*]; done)), (by first | rfl | (simp; done) | (simp [*]; done) | (simp <;> omega)), H', ⟨by have := HK1.out; have := HK2.out; omega⟩, ⟨Kd.R_up HO_5.out⟩, ⟨by (with_reducible repeat (first | refine blk_drewN ?_ _ | refine blk_drew ?_ | refine blk_alloc ?_ _)); exact BK362.out⟩, ⟨by (with_reducible repeat (first | refine blk_drewN ?_ _ | refine blk_drew ?_ | refine blk_alloc ?_ _)); exact BK363.out⟩, ⟨by (with_reducible repeat (first | refine blk_drewN ?_ _ | refine blk_drew ?_ | refine blk_alloc ?_ _)); exact BK364.out⟩, ⟨by repeat (first | (with_reducible first | exact HB.out | apply below_alloc | apply pw_below_drewN | apply below_drew1 | refine below_set ?_ GE362.out | refine below_set ?_ GE363.out | refine below_set ?_ GE364.out) | exact HB.out)⟩⟩
       ·
        rw [if_neg c23] at H
        have c23b0 := decide_eq_false c23
        clear c23
        obtain ⟨ji33, hji33⟩ : ∃ j_ : Int, (wrap64 (x22_1 + (l1_1.length : Int))) = j_ := ⟨_, rfl⟩
        replace H : (if 0 ≤ (ji33) then (if (ji33) < (x5_2.length : Int) then (integer_Mul.l0 k2 (x5_2.set ((ji33) : Int).toNat ((x8_2) % 4294967296)) l0_1 (l0_1.length : Int) (wrap64 (x22_1 + 1)) a0_0 l0_1 a1_0 l1_1) else (none)) else (none)) = some (r1, r2) := by first | (rw [hji33] at H; exact H) | (simp only [hji33] at H ⊢; exact H)
        have hji33w : (IntKind.i64.wrap (x22_1 + (l1_1.length : Int))) = ji33 := (i64_w _).trans hji33
        obtain ⟨c34, H⟩ := ite_some H
        have c34b0 := decide_eq_true c34
        clear c34
        obtain ⟨c35, H⟩ := ite_some H
        have c35b0 := decide_eq_true c35
        clear c35
        obtain ⟨y376, hy376⟩ : ∃ y_ : List Int, y_ = (x5_2.set ((ji33) : Int).toNat ((x8_2) % 4294967296)) := ⟨_, rfl⟩
        replace H : (integer_Mul.l0 k2 y376 l0_1 (l0_1.length : Int) (wrap64 (x22_1 + 1)) a0_0 l0_1 a1_0 l1_1) = some (r1, r2) := by first | (rw [hy376]; exact H) | exact H
        have Ny376 := Aside0.mk hy376
        clear hy376
        have H' := Aside0.mk H
        clear H
        have hnb37 := NB363_362.out
        have hnc37 := NB362_363.out
        have hnb38 := NB363_364.out
        have hnc38 := NB364_363.out
        have hcz39_0 : wr.cell? ⟨gb363, 0, none⟩ = some (.bool a1_0) := (blk_cell BK363.out 0).trans rfl
        have hcz39_1 : wr.cell? ⟨gb363, 1, none⟩ = some (.slice A1_1 l1_1.length c1_1) := (blk_cell BK363.out 1).trans rfl
        have hfz39_0 := blk_frozen BK363.out 0
        have hfz39_1 := blk_frozen BK363.out 1
        have p36 : 0 ≤ ((ji33) : Int) := of_decide_eq_true (by assumption)
        have q36 : ((ji33) : Int) < ((x5_2.length : Int) : Int) := of_decide_eq_true (by assumption)
        obtain ⟨go36, co36, eo36, gb36, gl36, cl36, HG36⟩ := Kd.R_form HO_5.out (by omega)
        (first | cases eo36 | (injection eo36 with ea_ en_ ec_; (first | subst ea_ | (injection ea_ with ea_; subst ea_)); subst ec_; clear en_))
        have GB36 := Aside0.mk gb36
        have GG36 := Aside0.mk HG36
        clear gb36 gl36 HG36
        obtain ⟨hx36_0, hf36_0⟩ := Kd.R_celln 0 HO_5.out ((ji33) : Int) p36 q36
        replace p36 := eq_true p36
        replace q36 := eq_true q36
        have HP40 := Kd.R_putg HO_5.out ((ji33) : Int) ((x8_2) % 4294967296)
        go_wp2_with (first | ((with_reducible refine gate_store (t := 60) (p := 68) rfl ?_); refine store_event (t := 60) (p := 68) (v := ?vo_w41) (w1 := (wr.setCell ⟨go36, ((ji33) : Int).toNat, none⟩ (.int .u32 ((x8_2) % 4294967296)))) ?hg ?ho ?hn ?hr ?_; (case ho => rfl); (case hg => rfl); (case hn => rfl); (case hr => first | (go_simp; done) | (go_simp; rfl)); intro w41 hw; have hg : wr.grownBy w41 (some go36) := (by rw [hw]; exact HP40.2); have hp_ : Kd.R (Kd.int .u32) 60 w41 w.heap.size (fun k_ => (w.heap.size ≤ k_)) (.slice (some ⟨go36, 0, none⟩) x5_2.length co36) y376 := (by rw [hw, Ny376.out]; exact HP40.1); clear HP40; replace BK362 := Aside0.mk (blk_grown (g := gb362) (o := .cells #[.bool a0_0, .slice (some ad372) l0_1.length c0_1] 25 (0, 0)) (blk_up BK362.out) hg (Kd.R_ne HO_5.out BK362.out (by decide))); replace BK363 := Aside0.mk (blk_grown (g := gb363) (o := .cells #[.bool a1_0, .slice A1_1 l1_1.length c1_1] 25 (0, 0)) (blk_up BK363.out) hg (Kd.R_ne HO_5.out BK363.out (by decide))); replace BK364 := Aside0.mk (blk_grown (g := gb364) (o := .cells #[.bool false, .slice none 0 0] 25 (0, 0)) (blk_up BK364.out) hg (Kd.R_ne HO_5.out BK364.out (by decide))); replace HO_5 := Aside0.mk (hp_); replace HB := Aside0.mk ((by rw [hw]; exact below_set (HB.out) GB36.out : Below w.heap.size w w41)); clear hg hw hp_))
        go_roundg k2
        case measure => have := HK1.out; have := HK2.out; omega
        case rel => exact ⟨(y376), (wrap64 (x22_1 + 1)), (by first | rfl | (simp; done) | (simp [*]; done) | (simp <;> omega)), H', ⟨by have := HK1.out; have := HK2.out; omega⟩, ⟨Kd.R_up HO_5.out⟩, ⟨by (with_reducible repeat (first | refine blk_drewN ?_ _ | refine blk_drew ?_ | refine blk_alloc ?_ _)); exact BK362.out⟩, ⟨by (with_reducible repeat (first | refine blk_drewN ?_ _ | refine blk_drew ?_ | refine blk_alloc ?_ _)); exact BK363.out⟩, ⟨by (with_reducible repeat (first | refine blk_drewN ?_ _ | refine blk_drew ?_ | refine blk_alloc ?_ _)); exact BK364.out⟩, ⟨by repeat (first | (with_reducible first | exact HB.out | apply below_alloc | apply pw_below_drewN | apply below_drew1 | refine below_set ?_ GE362.out | refine below_set ?_ GE363.out | refine below_set ?_ GE364.out) | exact HB.out)⟩⟩
    ·
     rw [if_neg c17] at H
     have c17b0 := decide_eq_false c17
     clear c17
     replace H := Option.bind_eq_some_iff.mp H
     obtain ⟨⟨t368, t369⟩, A420, H⟩ := H
     try dsimp only at H
     have A42 := Aside0.mk A420
     clear A420
     simp only [Option.some.injEq, Prod.mk.injEq] at H
     obtain ⟨rfl, rfl⟩ := H
     have hnb43 := NB362_363.out
     have hnc43 := NB363_362.out
     have hnb44 := NB362_364.out
     have hnc44 := NB364_362.out
     have hcz45_0 : wr.cell? ⟨gb362, 0, none⟩ = some (.bool a0_0) := (blk_cell BK362.out 0).trans rfl
     have hcz45_1 : wr.cell? ⟨gb362, 1, none⟩ = some (.slice A0_1 l0_1.length c0_1) := (blk_cell BK362.out 1).trans rfl
     have hfz45_0 := blk_frozen BK362.out 0
     have hfz45_1 := blk_frozen BK362.out 1
     have hnb46 := NB363_364.out
     have hnc46 := NB364_363.out
     have hcz47_0 : wr.cell? ⟨gb363, 0, none⟩ = some (.bool a1_0) := (blk_cell BK363.out 0).trans rfl
     have hcz47_1 : wr.cell? ⟨gb363, 1, none⟩ = some (.slice A1_1 l1_1.length c1_1) := (blk_cell BK363.out 1).trans rfl
     have hfz47_0 := blk_frozen BK363.out 0
     have hfz47_1 := blk_frozen BK363.out 1
     obtain ⟨Ao48, co48, eo48⟩ := Kd.R_slice HO_5.out
     subst eo48
     go_wp2_with (first | ((with_reducible refine gate_callee (f := 45) rfl ?_); refine gl_ (some 76) Tryd.func45 #[.bool (a0_0 != a1_0), .slice Ao48 x5_1.length co48] ?_; (with_reducible refine (integer_signed.calls k1 (a0_0 != a1_0) (fun k_ => some k_ = (.slice Ao48 x5_1.length co48 : Value).ownBlock) _ _ x5_1 t368 t369 _ ?side1 A42.out).mono ?_); (case side1 => exact Kd.R_V (Kd.R_tight rfl (Kd.R_types (Kd.R_types (Kd.R_types (HO_5.out) BK362.out (by decide)) BK363.out (by decide)) BK364.out (by decide)))); rintro e w49 ⟨v370, rfl, ho0, hb⟩; refine ⟨_, rfl, ?_⟩; have n1_ := Aside0.mk (Kd.V_lower (Kd.V_mono (ok' := fun k_ => (w.heap.size ≤ k_) ∧ k_ ≠ gb362 ∧ k_ ≠ gb363 ∧ k_ ≠ gb364) ho0 (fun k_ hk_ => ⟨Or.elim hk_ (fun hs_ => ((Kd.R_types (Kd.R_types (Kd.R_types (HO_5.out) BK362.out (by decide)) BK363.out (by decide)) BK364.out (by decide)).1 k_ hs_.symm).1.1.1) (fun hn_ => (Nat.le_trans (below_size (by repeat (first | (with_reducible first | exact HB.out | apply below_alloc | apply pw_below_drewN | apply below_drew1 | refine below_set ?_ GE362.out | refine below_set ?_ GE363.out | refine below_set ?_ GE364.out) | exact HB.out))) hn_)), Or.elim hk_ (fun hs_ => ((Kd.R_types (Kd.R_types (Kd.R_types (HO_5.out) BK362.out (by decide)) BK363.out (by decide)) BK364.out (by decide)).1 k_ hs_.symm).1.1.2) (fun hn_ => (Kd.freshB (g := gb362) (o := .cells #[.bool a0_0, .slice A0_1 l0_1.length c0_1] 25 (0, 0)) (blk_up BK362.out) k_ hn_)), Or.elim hk_ (fun hs_ => ((Kd.R_types (Kd.R_types (Kd.R_types (HO_5.out) BK362.out (by decide)) BK363.out (by decide)) BK364.out (by decide)).1 k_ hs_.symm).1.2) (fun hn_ => (Kd.freshB (g := gb363) (o := .cells #[.bool a1_0, .slice A1_1 l1_1.length c1_1] 25 (0, 0)) (blk_up BK363.out) k_ hn_)), Or.elim hk_ (fun hs_ => ((Kd.R_types (Kd.R_types (Kd.R_types (HO_5.out) BK362.out (by decide)) BK363.out (by decide)) BK364.out (by decide)).1 k_ hs_.symm).2) (fun hn_ => (Kd.freshB (g := gb364) (o := .cells #[.bool false, .slice none 0 0] 25 (0, 0)) (blk_up BK364.out) k_ hn_))⟩)) (below_size (by repeat (first | (with_reducible first | exact HB.out | apply below_alloc | apply pw_below_drewN | apply below_drew1 | refine below_set ?_ GE362.out | refine below_set ?_ GE363.out | refine below_set ?_ GE364.out) | exact HB.out)))); have n4_ := Aside0.mk (blk_below (g := gb364) (o := .cells #[.bool false, .slice none 0 0] 25 (0, 0)) (blk_up BK364.out) hb); have n5_ := Aside0.mk (below_step (by repeat (first | (with_reducible first | exact HB.out | apply below_alloc | apply pw_below_drewN | apply below_drew1 | refine below_set ?_ GE362.out | refine below_set ?_ GE363.out | refine below_set ?_ GE364.out) | exact HB.out)) hb); (try clear HO_5); (try clear BK362); (try clear BK363); clear BK364 HB; have HO371 := n1_; have BK364 := n4_; have HB := n5_; clear n1_ n4_ n5_; (try clear hb); (try clear hb2); (try clear hk); (try clear hi); (try clear ho0); have hcz50_0 : w49.cell? ⟨gb364, 0, none⟩ = some (.bool false) := (blk_cell BK364.out 0).trans rfl; have hcz50_1 : w49.cell? ⟨gb364, 1, none⟩ = some (.slice none 0 0) := (blk_cell BK364.out 1).trans rfl; have hfz50_0 := blk_frozen BK364.out 0; have hfz50_1 := blk_frozen BK364.out 1; obtain ⟨Ao51, co51, eo51⟩ := Kd.V_slice HO371.out; subst eo51))
     refine bodyPost_ret (results_cell_row rfl _ _ gb364 25 #[.bool t368, .slice Ao51 t369.length co51] (0, 0) _ rfl (by refine blk_ups ?_; refine blk_put (cs := #[.bool t368, .slice none 0 0]) ?_ 1 _ rfl; refine blk_ups ?_; refine blk_put (cs := #[.bool false, .slice none 0 0]) ?_ 0 _ rfl; exact blk_up BK364.out) Tryd.underlying25 rfl (by kernel_rfl)) rfl ?_
     exact ⟨_, by first | rfl | (simp [errW_none, errW_some] <;> rfl) | (simp only [← hji3]; first | rfl | (simp [errW_none, errW_some] <;> rfl)) | (simp [*, errW_none, errW_some] <;> rfl), Kd.V_up (Kd.V_mono (Kd.V_far (p := ⟨gb364, 1, none⟩) (Kd.V_far (p := ⟨gb364, 0, none⟩) (Kd.V_mono HO371.out (fun k_ hk => (⟨hk, hk.2.2.2⟩ : _ ∧ k_ ≠ gb364))) (fun _ hk => hk.2) (.bool t368)) (fun _ hk => hk.2) (.slice Ao51 t369.length co51)) (fun _ hk => hk.1.1)), by repeat (first | (with_reducible first | exact HB.out | apply below_alloc | apply pw_below_drewN | apply below_drew1 | refine below_set ?_ GE362.out | refine below_set ?_ GE363.out | refine below_set ?_ GE364.out) | exact HB.out)⟩
 ·
  rw [if_neg c4] at H
  exact absurd H (by simp)
mutual
def integer_Power.j0 : Nat → Int → Bool → Bool → List Int → Option (Bool × List Int × Int)
 | 0, _, _, _, _ => none
 | k + 1, x1, x12, x378000, x378001 => if x12 = true then (some (false, ([] : List Int), 2)) else ((integer_From.f k 1).bind fun bt379 => (integer_Power.l0 k x1 0 x378000 x378001 bt379.1 bt379.2))
def integer_Power.l0 : Nat → Int → Int → Bool → List Int → Bool → List Int → Option (Bool × List Int × Int)
 | 0, _, _, _, _, _, _ => none
 | k + 1, x15, x16, x378000, x378001, x384000, x384001 => if x16 < x15 then ((integer_Mul.f k x384000 x384001 x378000 x378001).bind fun bt384 => (integer_Power.l0 k x15 (wrap64 (x16 + 1)) x378000 x378001 bt384.1 bt384.2)) else (some (x384000, x384001, 0))
end
def integer_Power.f (k : Nat) (a0_0 : Bool) (l0_1 : List Int) (a1 : Int) : Option (Bool × List Int × Int) := if a1 < 0 then (integer_Power.j0 k a1 true a0_0 l0_1) else (integer_Power.j0 k a1 (decide (a1 > 64)) a0_0 l0_1)
theorem integer_Power.mono_l : ∀ k, (∀ y0 y1 y2 y3, LeO (integer_Power.j0 k y0 y1 y2 y3) (integer_Power.j0 (k + 1) y0 y1 y2 y3)) ∧ (∀ y0 y1 y2 y3 y4 y5, LeO (integer_Power.l0 k y0 y1 y2 y3 y4 y5) (integer_Power.l0 (k + 1) y0 y1 y2 y3 y4 y5))
 | 0 => ⟨fun _ _ _ _ r h => by simp [integer_Power.j0] at h, fun _ _ _ _ _ _ r h => by simp [integer_Power.l0] at h⟩
 | k + 1 => by
  obtain ⟨ih0, ih1⟩ := integer_Power.mono_l k
  refine ⟨?_, ?_⟩
  ·
   intro y0 y1 y2 y3
   unfold integer_Power.j0
   repeat' first
   | (with_reducible exact ih0 _ _ _ _)
   | (with_reducible exact ih1 _ _ _ _ _ _)
   | (with_reducible exact integer_From.mono _ _)
   | (with_reducible exact integer_Mul.mono _ _ _ _ _)
   | (with_reducible exact LeO.refl _)
   | (with_reducible exact LeO.none _)
   | (with_reducible refine LeO.ite ?_ ?_)
   | (with_reducible refine LeO.bind ?_ (fun _ => ?_))
  ·
   intro y0 y1 y2 y3 y4 y5
   unfold integer_Power.l0
   repeat' first
   | (with_reducible exact ih0 _ _ _ _)
   | (with_reducible exact ih1 _ _ _ _ _ _)
   | (with_reducible exact integer_From.mono _ _)
   | (with_reducible exact integer_Mul.mono _ _ _ _ _)
   | (with_reducible exact LeO.refl _)
   | (with_reducible exact LeO.none _)
   | (with_reducible refine LeO.ite ?_ ?_)
   | (with_reducible refine LeO.bind ?_ (fun _ => ?_))
theorem integer_Power.mono : ∀ a0 a1 a2 k, LeO (integer_Power.f k a0 a1 a2) (integer_Power.f (k + 1) a0 a1 a2) := by
 intro a0 a1 a2 k
 obtain ⟨ih0, ih1⟩ := integer_Power.mono_l k
 unfold integer_Power.f
 repeat' first
   | (with_reducible exact ih0 _ _ _ _)
   | (with_reducible exact ih1 _ _ _ _ _ _)
   | (with_reducible exact integer_From.mono _ _)
   | (with_reducible exact integer_Mul.mono _ _ _ _ _)
   | (with_reducible exact LeO.refl _)
   | (with_reducible exact LeO.none _)
   | (with_reducible refine LeO.ite ?_ ?_)
   | (with_reducible refine LeO.bind ?_ (fun _ => ?_))
set_option maxHeartbeats 8000000 in
set_option maxRecDepth 100000 in
theorem integer_Power.calls (k : Nat) (a0_0 : Bool) (A0_1 : Option Addr) (c0_1 : Nat) (l0_1 : List Int) (a1 : Int) (r1 : Bool) (r2 : List Int) (r3 : Int) (w : World) (hr0_1 : Kd.C (Kd.int .u32) w A0_1 l0_1.length l0_1) (hc0_1 : l0_1.length ≤ c0_1) (h : integer_Power.f k a0_0 l0_1 a1 = some (r1, r2, r3)) :
  Calls Tryd.prog 31 #[.agg #[.bool a0_0, .slice A0_1 l0_1.length c0_1], .int .i64 a1] w fun e w' => ∃ v1_ : Value, e = .returned (.tuple #[.agg #[.bool r1, v1_], .int .i64 r3]) ∧ Kd.V (Kd.int .u32) 60 w' w.heap.size (fun k_ => (w.heap.size ≤ k_)) v1_ r2 ∧ Below w.heap.size w w' := by
 have hu25 := Tryd.underlying25
 have HR0_1 := Aside0.mk hr0_1
 have HC0_1 := Aside0.mk hc0_1
 clear hr0_1 hc0_1
 have HB := Aside0.mk (Below.refl w.heap.size w)
 have H := h
 unfold integer_Power.f at H
 clear h
 have HC3 := Aside0.mk H
 clear H
 go_enter Tryd.func31, Tryd.ntmps31
 go_upto_region 1 with (first | ((with_reducible refine gate_dst (N := 2) rfl ?_); refine box_event ?hg (N := 2) ?hd (cs := #[.bool a0_0, .slice A0_1 l0_1.length c0_1]) (t := 25) ?hr ?_; (case hd => rfl); (case hg => rfl); (case hr => first | (go_simp; done) | (go_simp; rfl)); intro gb377 hg w4 hbox hb; have BK377 := Aside0.mk (hbox); have GE377 := Aside0.mk ((size_up hg HB.out : w.heap.size ≤ gb377)); replace HB := Aside0.mk (below_step (below_up HB.out) hb); clear hb hbox hg) | ((with_reducible refine gate_dst (N := 4) rfl ?_); refine box_event ?hg (N := 4) ?hd (cs := #[.bool false, .slice none 0 0]) (t := 25) ?hr ?_; (case hd => rfl); (case hg => rfl); (case hr => first | (go_simp; done) | (go_simp; rfl)); intro gb378 hg w5 hbox hb; have BK378 := Aside0.mk (hbox); have GE378 := Aside0.mk ((by rw [hg]; exact (below_size (by repeat (first | (with_reducible first | exact HB.out | apply below_alloc | apply pw_below_drewN | apply below_drew1 | refine below_set ?_ GE377.out) | exact HB.out))) : w.heap.size ≤ gb378)); replace HB := Aside0.mk (below_step (by repeat (first | (with_reducible first | exact HB.out | apply below_alloc | apply pw_below_drewN | apply below_drew1 | refine below_set ?_ GE377.out) | exact HB.out)) hb); have NB377_378 := Aside0.mk ((blk_nw hg BK377.out : gb377 ≠ gb378)); have NB378_377 := Aside0.mk ((nw_blk hg BK377.out : gb378 ≠ gb377)); replace BK377 := Aside0.mk (blk_below (g := gb377) (o := .cells #[.bool a0_0, .slice A0_1 l0_1.length c0_1] 25 (0, 0)) (blk_up BK377.out) hb); clear hb hbox hg))
 (try simp only [Act.put, List.setIfInBounds_toArray, List.set_cons_zero, List.set_cons_succ])
 go_cut [12] (fun v12 wc => ∃ (kq : Nat) (x12_2 : Bool), v12 = .bool x12_2 ∧ Aside0 (integer_Power.j0 kq a1 x12_2 a0_0 l0_1 = some (r1, r2, r3)) ∧ Aside0 (kq ≤ k) ∧ Aside0 (wc.heap[gb377]? = some (.cells #[.bool a0_0, (.slice A0_1 l0_1.length c0_1)] 25 (0, 0))) ∧ Aside0 (wc.heap[gb378]? = some (.cells #[.bool false, (.slice none 0 0)] 25 (0, 0))) ∧ Aside0 (Below w.heap.size w wc))
 case first =>
  have H := HC3.out
  clear HC3
  by_cases c6 : a1 < 0
  ·
   rw [if_pos c6] at H
   have c6b0 := decide_eq_true c6
   clear c6
   (first | rw [c6b0] | (simp only [i64_w, i32_w]; rw [c6b0]) | skip)
   have H' := Aside0.mk H
   clear H
   go_wp2
   go_meet
   case rel => exact ⟨_, (true), (by first | rfl | (simp; done) | (simp [*]; done) | (simp <;> omega)), H', ⟨by first | omega | exact Nat.le_refl _⟩, ⟨by (with_reducible repeat (first | refine blk_drewN ?_ _ | refine blk_drew ?_ | refine blk_alloc ?_ _)); exact BK377.out⟩, ⟨by (with_reducible repeat (first | refine blk_drewN ?_ _ | refine blk_drew ?_ | refine blk_alloc ?_ _)); exact BK378.out⟩, ⟨by repeat (first | (with_reducible first | exact HB.out | apply below_alloc | apply pw_below_drewN | apply below_drew1 | refine below_set ?_ GE377.out | refine below_set ?_ GE378.out) | exact HB.out)⟩⟩
  ·
   rw [if_neg c6] at H
   have c6b0 := decide_eq_false c6
   clear c6
   (first | rw [c6b0] | (simp only [i64_w, i32_w]; rw [c6b0]) | skip)
   have H' := Aside0.mk H
   clear H
   go_wp2
   go_meet
   case rel => exact ⟨_, (decide (a1 > 64)), (by first | rfl | (simp; done) | (simp [*]; done) | (simp <;> omega)), H', ⟨by first | omega | exact Nat.le_refl _⟩, ⟨by (with_reducible repeat (first | refine blk_drewN ?_ _ | refine blk_drew ?_ | refine blk_alloc ?_ _)); exact BK377.out⟩, ⟨by (with_reducible repeat (first | refine blk_drewN ?_ _ | refine blk_drew ?_ | refine blk_alloc ?_ _)); exact BK378.out⟩, ⟨by repeat (first | (with_reducible first | exact HB.out | apply below_alloc | apply pw_below_drewN | apply below_drew1 | refine below_set ?_ GE377.out | refine below_set ?_ GE378.out) | exact HB.out)⟩⟩
 case rest =>
  clear HC3
  obtain ⟨kq, x12_2, rfl, HA, HJ2, BK377, BK378, HB⟩ := hcut
  cases kq with
  | zero => exact absurd HA.out (by simp [integer_Power.j0])
  | succ kj2 =>
   have H := HA.out
   clear HA
   simp only [integer_Power.j0] at H
   by_cases c7 : x12_2 = true
   ·
    subst c7
    have H1 : (some (false, ([] : List Int), 2)) = some (r1, r2, r3) := by rw [if_pos rfl] at H; exact H
    clear H
    have H := H1
    clear H1
    simp only [Option.some.injEq, Prod.mk.injEq] at H
    obtain ⟨rfl, rfl, rfl⟩ := H
    have hnb8 := NB378_377.out
    have hnc8 := NB377_378.out
    have hcz9_0 : wc.cell? ⟨gb378, 0, none⟩ = some (.bool false) := (blk_cell BK378.out 0).trans rfl
    have hcz9_1 : wc.cell? ⟨gb378, 1, none⟩ = some (.slice none 0 0) := (blk_cell BK378.out 1).trans rfl
    have hfz9_0 := blk_frozen BK378.out 0
    have hfz9_1 := blk_frozen BK378.out 1
    go_wp2
    refine bodyPost_ret (results_ct rfl _ _ gb378 25 #[.bool false, .slice none 0 0] (0, 0) _ rfl (by refine blk_ups ?_; refine blk_put (cs := #[.bool false, .slice none 0 0]) ?_ 1 _ rfl; refine blk_ups ?_; refine blk_put (cs := #[.bool false, .slice none 0 0]) ?_ 0 _ rfl; exact blk_up BK378.out) Tryd.underlying25 rfl (by kernel_rfl)) rfl ?_
    exact ⟨_, by first | rfl | (simp [errW_none, errW_some] <;> rfl) | (simp [*, errW_none, errW_some] <;> rfl), by first | exact Kd.R_nil _ _ _ _ _ | exact Kd.N_nil _ _ _ _ _ | exact Kd.V_nil _ _ _ _ _ | exact Kd.Q_nil _ _ _ _ _ | exact Kd.S_nil _ _ _ _ _, by repeat (first | (with_reducible first | exact HB.out | apply below_alloc | apply pw_below_drewN | apply below_drew1 | refine below_set ?_ GE377.out | refine below_set ?_ GE378.out) | exact HB.out)⟩
   ·
    replace c7 := Bool.eq_false_iff.mpr c7
    subst c7
    have H1 : ((integer_From.f kj2 1).bind fun bt379 => (integer_Power.l0 kj2 a1 0 a0_0 l0_1 bt379.1 bt379.2)) = some (r1, r2, r3) := by rw [if_neg (show ¬ (false = true) by decide)] at H; exact H
    clear H
    have H := H1
    clear H1
    replace H := Option.bind_eq_some_iff.mp H
    obtain ⟨⟨t379, t380⟩, A100, H⟩ := H
    try dsimp only at H
    have A10 := Aside0.mk A100
    clear A100
    have H' := Aside0.mk H
    clear H
    go_wp2_with (first | ((with_reducible refine gate_callee (f := 15) rfl ?_); refine gl_ (some 14) Tryd.func15 #[.int .i64 1] ?_; (with_reducible refine (integer_From.calls kj2 1 t379 t380 _ A10.out).mono ?_); rintro e w11 ⟨v381, rfl, ho0, hb⟩; refine ⟨_, rfl, ?_⟩; have HO382 := Aside0.mk (Kd.V_lower (Kd.V_mono (ok' := fun k_ => (w.heap.size ≤ k_) ∧ k_ ≠ gb377 ∧ k_ ≠ gb378) ho0 (fun k_ hk_ => ⟨(Nat.le_trans (below_size (by repeat (first | (with_reducible first | exact HB.out | apply below_alloc | apply pw_below_drewN | apply below_drew1 | refine below_set ?_ GE377.out | refine below_set ?_ GE378.out) | exact HB.out))) hk_), (Kd.freshB (g := gb377) (o := .cells #[.bool a0_0, .slice A0_1 l0_1.length c0_1] 25 (0, 0)) (blk_up BK377.out) k_ hk_), (Kd.freshB (g := gb378) (o := .cells #[.bool false, .slice none 0 0] 25 (0, 0)) (blk_up BK378.out) k_ hk_)⟩)) (below_size (by repeat (first | (with_reducible first | exact HB.out | apply below_alloc | apply pw_below_drewN | apply below_drew1 | refine below_set ?_ GE377.out | refine below_set ?_ GE378.out) | exact HB.out)))); replace BK377 := Aside0.mk (blk_below (g := gb377) (o := .cells #[.bool a0_0, .slice A0_1 l0_1.length c0_1] 25 (0, 0)) (blk_up BK377.out) hb); replace BK378 := Aside0.mk (blk_below (g := gb378) (o := .cells #[.bool false, .slice none 0 0] 25 (0, 0)) (blk_up BK378.out) hb); replace HB := Aside0.mk (below_step (by repeat (first | (with_reducible first | exact HB.out | apply below_alloc | apply pw_below_drewN | apply below_drew1 | refine below_set ?_ GE377.out | refine below_set ?_ GE378.out) | exact HB.out)) hb); (try clear hb); (try clear hb2); (try clear hk); (try clear hi); (try clear ho0)) | ((with_reducible refine gate_dst (N := 6) rfl ?_); refine box_event ?hg (N := 6) ?hd (cs := #[.bool false, .slice none 0 0]) (t := 25) ?hr ?_; (case hd => rfl); (case hg => rfl); (case hr => first | (go_simp; done) | (go_simp; rfl)); intro gb383 hg w12 hbox hb; replace HO382 := Aside0.mk (Kd.V_below (Kd.V_elderB (Kd.V_up HO382.out) gb383 (Nat.le_of_eq hg.symm)) hb); have BK383 := Aside0.mk (hbox); have GE383 := Aside0.mk ((by rw [hg]; exact (below_size (by repeat (first | (with_reducible first | exact HB.out | apply below_alloc | apply pw_below_drewN | apply below_drew1 | refine below_set ?_ GE377.out | refine below_set ?_ GE378.out) | exact HB.out))) : w.heap.size ≤ gb383)); replace HB := Aside0.mk (below_step (by repeat (first | (with_reducible first | exact HB.out | apply below_alloc | apply pw_below_drewN | apply below_drew1 | refine below_set ?_ GE377.out | refine below_set ?_ GE378.out) | exact HB.out)) hb); have NB377_383 := Aside0.mk ((blk_nw hg BK377.out : gb377 ≠ gb383)); have NB383_377 := Aside0.mk ((nw_blk hg BK377.out : gb383 ≠ gb377)); replace BK377 := Aside0.mk (blk_below (g := gb377) (o := .cells #[.bool a0_0, .slice A0_1 l0_1.length c0_1] 25 (0, 0)) (blk_up BK377.out) hb); have NB378_383 := Aside0.mk ((blk_nw hg BK378.out : gb378 ≠ gb383)); have NB383_378 := Aside0.mk ((nw_blk hg BK378.out : gb383 ≠ gb378)); replace BK378 := Aside0.mk (blk_below (g := gb378) (o := .cells #[.bool false, .slice none 0 0] 25 (0, 0)) (blk_up BK378.out) hb); clear hb hbox hg; have hnb13 := NB383_377.out; have hnc13 := NB377_383.out; have hnb14 := NB383_378.out; have hnc14 := NB378_383.out; have hcz15_0 : w12.cell? ⟨gb383, 0, none⟩ = some (.bool false) := (blk_cell BK383.out 0).trans rfl; have hcz15_1 : w12.cell? ⟨gb383, 1, none⟩ = some (.slice none 0 0) := (blk_cell BK383.out 1).trans rfl; have hfz15_0 := blk_frozen BK383.out 0; have hfz15_1 := blk_frozen BK383.out 1; obtain ⟨Ao16, co16, eo16⟩ := Kd.V_slice HO382.out; subst eo16))
    go_loopg [16] kj2 (fun kq v16 w' => ∃ (x16_2 : Int) (x384000_2 : Bool) (x384001_2 : List Int) (u384001 : Value), v16 = .int .i64 x16_2 ∧ Aside0 (integer_Power.l0 kq a1 x16_2 a0_0 l0_1 x384000_2 x384001_2 = some (r1, r2, r3)) ∧ Aside0 (kq ≤ kj2) ∧ Aside0 (Kd.V (Kd.int .u32) 60 w' w.heap.size (fun k_ => (w.heap.size ≤ k_) ∧ k_ ≠ gb377 ∧ k_ ≠ gb378 ∧ k_ ≠ gb383) u384001 x384001_2) ∧ Aside0 (w'.heap[gb377]? = some (.cells #[.bool a0_0, (.slice A0_1 l0_1.length c0_1)] 25 (0, 0))) ∧ Aside0 (w'.heap[gb378]? = some (.cells #[.bool false, (.slice none 0 0)] 25 (0, 0))) ∧ Aside0 (w'.heap[gb383]? = some (.cells #[.bool x384000_2, u384001] 25 (0, 0))) ∧ Aside0 (Below w.heap.size w w'))
    case atStart => exact ⟨(0), (t379), (t380), (.slice Ao16 t380.length co16), (by first | rfl | (simp; done) | (simp [*]; done) | (simp <;> omega)), H', ⟨Nat.le_refl _⟩, ⟨Kd.V_up (Kd.V_mono (Kd.V_far (p := ⟨gb383, 1, none⟩) (Kd.V_far (p := ⟨gb383, 0, none⟩) (Kd.V_mono HO382.out (fun k_ hk => (⟨hk, hk.2⟩ : _ ∧ k_ ≠ gb383))) (fun _ hk => hk.2) (.bool t379)) (fun _ hk => hk.2) (.slice Ao16 t380.length co16)) (fun _ hk => ⟨hk.1.1.1, ⟨hk.1.1.2.1, ⟨hk.1.1.2.2, hk.1.2⟩⟩⟩))⟩, ⟨by (with_reducible repeat (first | refine blk_drewN ?_ _ | refine blk_drew ?_ | refine blk_alloc ?_ _)); refine blk_far ?_ NB377_383.out _; refine blk_ups ?_; refine blk_far ?_ NB377_383.out _; exact blk_up BK377.out⟩, ⟨by (with_reducible repeat (first | refine blk_drewN ?_ _ | refine blk_drew ?_ | refine blk_alloc ?_ _)); refine blk_far ?_ NB378_383.out _; refine blk_ups ?_; refine blk_far ?_ NB378_383.out _; exact blk_up BK378.out⟩, ⟨by (with_reducible repeat (first | refine blk_drewN ?_ _ | refine blk_drew ?_ | refine blk_alloc ?_ _)); refine blk_put (cs := #[.bool t379, .slice none 0 0]) ?_ 1 _ rfl; refine blk_ups ?_; refine blk_put (cs := #[.bool false, .slice none 0 0]) ?_ 0 _ rfl; exact blk_up BK383.out⟩, ⟨by repeat (first | (with_reducible first | exact HB.out | apply below_alloc | apply pw_below_drewN | apply below_drew1 | refine below_set ?_ GE377.out | refine below_set ?_ GE378.out | refine below_set ?_ GE383.out) | exact HB.out)⟩⟩
    case round =>
     clear H'
     obtain ⟨x16_2, x384000_2, x384001_2, u384001, rfl, HA, HK2, HO_384001, BK377, BK378, BK383, HB⟩ := hrel
     cases gk with
     | zero => exact absurd HA.out (by simp [integer_Power.l0])
     | succ k2 =>
      have H := HA.out
      clear HA
      simp only [integer_Power.l0] at H
      by_cases c17 : x16_2 < a1
      ·
       rw [if_pos c17] at H
       have c17b0 := decide_eq_true c17
       clear c17
       replace H := Option.bind_eq_some_iff.mp H
       obtain ⟨⟨t384, t385⟩, A180, H⟩ := H
       try dsimp only at H
       have A18 := Aside0.mk A180
       clear A180
       have H' := Aside0.mk H
       clear H
       have hnb19 := NB383_377.out
       have hnc19 := NB377_383.out
       have hnb20 := NB383_378.out
       have hnc20 := NB378_383.out
       have hcz21_0 : wr.cell? ⟨gb383, 0, none⟩ = some (.bool x384000_2) := (blk_cell BK383.out 0).trans rfl
       have hcz21_1 : wr.cell? ⟨gb383, 1, none⟩ = some (u384001) := (blk_cell BK383.out 1).trans rfl
       have hfz21_0 := blk_frozen BK383.out 0
       have hfz21_1 := blk_frozen BK383.out 1
       have hnb22 := NB377_378.out
       have hnc22 := NB378_377.out
       have hcz23_0 : wr.cell? ⟨gb377, 0, none⟩ = some (.bool a0_0) := (blk_cell BK377.out 0).trans rfl
       have hcz23_1 : wr.cell? ⟨gb377, 1, none⟩ = some (.slice A0_1 l0_1.length c0_1) := (blk_cell BK377.out 1).trans rfl
       have hfz23_0 := blk_frozen BK377.out 0
       have hfz23_1 := blk_frozen BK377.out 1
       obtain ⟨Ao24, co24, eo24⟩ := Kd.V_slice HO_384001.out
       subst eo24
       go_wp2_with (first | ((with_reducible refine gate_callee (f := 25) rfl ?_); refine gl_ (some 20) Tryd.func25 #[.agg #[.bool x384000_2, .slice Ao24 x384001_2.length co24], .agg #[.bool a0_0, .slice A0_1 l0_1.length c0_1]] ?_; (with_reducible refine (integer_Mul.calls k2 x384000_2 _ _ x384001_2 a0_0 _ _ l0_1 t384 t385 _ ?side1 ?side2 ?side3 ?side4 A18.out).mono ?_); (case side1 => repeat (first | exact (Kd.V_reads' HO_384001.out).2.2 | (with_reducible refine Kd.C_alloc ?_ _) | (with_reducible refine Kd.C_drewN ?_ _) | (with_reducible refine Kd.C_drew ?_))); (case side2 => exact (Kd.V_reads' HO_384001.out).2.1); (case side3 => repeat (first | exact (Kd.C_below HR0_1.out HB.out) | (with_reducible refine Kd.C_alloc ?_ _) | (with_reducible refine Kd.C_drewN ?_ _) | (with_reducible refine Kd.C_drew ?_))); (case side4 => exact HC0_1.out); rintro e w25 ⟨v386, rfl, ho0, hb⟩; refine ⟨_, rfl, ?_⟩; replace HO_384001 := Aside0.mk (Kd.V_below (Kd.V_up HO_384001.out) hb); have HO387 := Aside0.mk (Kd.V_lower (Kd.V_mono (ok' := fun k_ => (w.heap.size ≤ k_) ∧ k_ ≠ gb377 ∧ k_ ≠ gb378 ∧ k_ ≠ gb383) ho0 (fun k_ hk_ => ⟨(Nat.le_trans (below_size (by repeat (first | (with_reducible first | exact HB.out | apply below_alloc | apply pw_below_drewN | apply below_drew1 | refine below_set ?_ GE377.out | refine below_set ?_ GE378.out | refine below_set ?_ GE383.out) | exact HB.out))) hk_), (Kd.freshB (g := gb377) (o := .cells #[.bool a0_0, .slice A0_1 l0_1.length c0_1] 25 (0, 0)) (blk_up BK377.out) k_ hk_), (Kd.freshB (g := gb378) (o := .cells #[.bool false, .slice none 0 0] 25 (0, 0)) (blk_up BK378.out) k_ hk_), (Kd.freshB (g := gb383) (o := .cells #[.bool x384000_2, .slice Ao24 x384001_2.length co24] 25 (0, 0)) (blk_up BK383.out) k_ hk_)⟩)) (below_size (by repeat (first | (with_reducible first | exact HB.out | apply below_alloc | apply pw_below_drewN | apply below_drew1 | refine below_set ?_ GE377.out | refine below_set ?_ GE378.out | refine below_set ?_ GE383.out) | exact HB.out)))); replace BK377 := Aside0.mk (blk_below (g := gb377) (o := .cells #[.bool a0_0, .slice A0_1 l0_1.length c0_1] 25 (0, 0)) (blk_up BK377.out) hb); replace BK378 := Aside0.mk (blk_below (g := gb378) (o := .cells #[.bool false, .slice none 0 0] 25 (0, 0)) (blk_up BK378.out) hb); replace BK383 := Aside0.mk (blk_below (g := gb383) (o := .cells #[.bool x384000_2, .slice Ao24 x384001_2.length co24] 25 (0, 0)) (blk_up BK383.out) hb); replace HB := Aside0.mk (below_step (by repeat (first | (with_reducible first | exact HB.out | apply below_alloc | apply pw_below_drewN | apply below_drew1 | refine below_set ?_ GE377.out | refine below_set ?_ GE378.out | refine below_set ?_ GE383.out) | exact HB.out)) hb); (try clear hb); (try clear hb2); (try clear hk); (try clear hi); (try clear ho0); have hcz26_0 : w25.cell? ⟨gb383, 0, none⟩ = some (.bool x384000_2) := (blk_cell BK383.out 0).trans rfl; have hcz26_1 : w25.cell? ⟨gb383, 1, none⟩ = some (.slice Ao24 x384001_2.length co24) := (blk_cell BK383.out 1).trans rfl; have hfz26_0 := blk_frozen BK383.out 0; have hfz26_1 := blk_frozen BK383.out 1; obtain ⟨Ao27, co27, eo27⟩ := Kd.V_slice HO387.out; subst eo27))
       go_roundg k2
       case measure => have := HJ2.out; have := HK2.out; omega
       case rel => exact ⟨(wrap64 (x16_2 + 1)), (t384), (t385), (.slice Ao27 t385.length co27), (by first | rfl | (simp; done) | (simp [*]; done) | (simp <;> omega)), H', ⟨by have := HJ2.out; have := HK2.out; omega⟩, ⟨Kd.V_up (Kd.V_mono (Kd.V_far (p := ⟨gb383, 1, none⟩) (Kd.V_far (p := ⟨gb383, 0, none⟩) (Kd.V_mono HO387.out (fun k_ hk => (⟨hk, hk.2.2.2⟩ : _ ∧ k_ ≠ gb383))) (fun _ hk => hk.2) (.bool t384)) (fun _ hk => hk.2) (.slice Ao27 t385.length co27)) (fun _ hk => ⟨hk.1.1, ⟨hk.1.2.1, ⟨hk.1.2.2.1, hk.1.2.2.2⟩⟩⟩))⟩, ⟨by (with_reducible repeat (first | refine blk_drewN ?_ _ | refine blk_drew ?_ | refine blk_alloc ?_ _)); refine blk_far ?_ NB377_383.out _; refine blk_ups ?_; refine blk_far ?_ NB377_383.out _; exact blk_up BK377.out⟩, ⟨by (with_reducible repeat (first | refine blk_drewN ?_ _ | refine blk_drew ?_ | refine blk_alloc ?_ _)); refine blk_far ?_ NB378_383.out _; refine blk_ups ?_; refine blk_far ?_ NB378_383.out _; exact blk_up BK378.out⟩, ⟨by (with_reducible repeat (first | refine blk_drewN ?_ _ | refine blk_drew ?_ | refine blk_alloc ?_ _)); refine blk_put (cs := #[.bool t384, .slice Ao24 x384001_2.length co24]) ?_ 1 _ rfl; refine blk_ups ?_; refine blk_put (cs := #[.bool x384000_2, .slice Ao24 x384001_2.length co24]) ?_ 0 _ rfl; exact blk_up BK383.out⟩, ⟨by repeat (first | (with_reducible first | exact HB.out | apply below_alloc | apply pw_below_drewN | apply below_drew1 | refine below_set ?_ GE377.out | refine below_set ?_ GE378.out | refine below_set ?_ GE383.out) | exact HB.out)⟩⟩
      ·
       rw [if_neg c17] at H
       have c17b0 := decide_eq_false c17
       clear c17
       simp only [Option.some.injEq, Prod.mk.injEq] at H
       obtain ⟨rfl, rfl, rfl⟩ := H
       have hnb28 := NB383_377.out
       have hnc28 := NB377_383.out
       have hnb29 := NB383_378.out
       have hnc29 := NB378_383.out
       have hcz30_0 : wr.cell? ⟨gb383, 0, none⟩ = some (.bool x384000_2) := (blk_cell BK383.out 0).trans rfl
       have hcz30_1 : wr.cell? ⟨gb383, 1, none⟩ = some (u384001) := (blk_cell BK383.out 1).trans rfl
       have hfz30_0 := blk_frozen BK383.out 0
       have hfz30_1 := blk_frozen BK383.out 1
       have hnb31 := NB378_377.out
       have hnc31 := NB377_378.out
       have hcz32_0 : wr.cell? ⟨gb378, 0, none⟩ = some (.bool false) := (blk_cell BK378.out 0).trans rfl
       have hcz32_1 : wr.cell? ⟨gb378, 1, none⟩ = some (.slice none 0 0) := (blk_cell BK378.out 1).trans rfl
       have hfz32_0 := blk_frozen BK378.out 0
       have hfz32_1 := blk_frozen BK378.out 1
       obtain ⟨Ao33, co33, eo33⟩ := Kd.V_slice HO_384001.out
       subst eo33
       go_wp2
       refine bodyPost_ret (results_ct rfl _ _ gb378 25 #[.bool x384000_2, .slice Ao33 x384001_2.length co33] (0, 0) _ rfl (by refine blk_ups ?_; refine blk_put (cs := #[.bool x384000_2, .slice none 0 0]) ?_ 1 _ rfl; refine blk_ups ?_; refine blk_put (cs := #[.bool false, .slice none 0 0]) ?_ 0 _ rfl; exact blk_up BK378.out) Tryd.underlying25 rfl (by kernel_rfl)) rfl ?_
       exact ⟨_, by first | rfl | (simp [errW_none, errW_some] <;> rfl) | (simp [*, errW_none, errW_some] <;> rfl), Kd.V_up (Kd.V_mono (Kd.V_far (p := ⟨gb378, 1, none⟩) (Kd.V_far (p := ⟨gb378, 0, none⟩) (Kd.V_mono HO_384001.out (fun k_ hk => (⟨hk, hk.2.2.1⟩ : _ ∧ k_ ≠ gb378))) (fun _ hk => hk.2) (.bool x384000_2)) (fun _ hk => hk.2) (.slice Ao33 x384001_2.length co33)) (fun _ hk => hk.1.1)), by repeat (first | (with_reducible first | exact HB.out | apply below_alloc | apply pw_below_drewN | apply below_drew1 | refine below_set ?_ GE377.out | refine below_set ?_ GE378.out | refine below_set ?_ GE383.out) | exact HB.out)⟩
def bits_Len32.f (a0 : Int) : Option Int := if 0 ≤ a0 ∧ a0 ≤ 4294967295 then some (Lib.bitLen a0.toNat) else none
theorem bits_Len32.calls (a0 : Int) (r : Int) (w : World) (h : bits_Len32.f a0 = some r) :
  Calls Tryd.prog 66 #[.int .u32 a0] w fun e w' => e = .returned (.int .i64 r) ∧ Drawn0 w w' := by
 unfold bits_Len32.f at h
 split at h
 ·
  rename_i hb
  simp only [Option.some.injEq] at h
  subst h
  refine (Tryd.bits_Len32 a0 w hb.1 hb.2).mono ?_
  rintro e w' ⟨rfl, rfl⟩
  exact ⟨rfl, Drawn0.refl _⟩
 ·
  cases h
def integer_Int_Bits.f (a0_0 : Bool) (l0_1 : List Int) : Option (Int) := if (l0_1.length : Int) = 0 then (some 0) else (if 0 ≤ (wrap64 ((l0_1.length : Int) - 1)) then (if (wrap64 ((l0_1.length : Int) - 1)) < (l0_1.length : Int) then ((bits_Len32.f (rd l0_1 (wrap64 ((l0_1.length : Int) - 1)))).bind fun t390 => (some (wrap64 ((wrap64 (32 * (wrap64 ((l0_1.length : Int) - 1)))) + t390)))) else (none)) else (none))
set_option maxHeartbeats 8000000 in
set_option maxRecDepth 100000 in
theorem integer_Int_Bits.calls (a0_0 : Bool) (A0_1 : Option Addr) (c0_1 : Nat) (l0_1 : List Int) (r : Int) (w : World) (hr0_1 : Kd.C (Kd.int .u32) w A0_1 l0_1.length l0_1) (hc0_1 : l0_1.length ≤ c0_1) (h : integer_Int_Bits.f a0_0 l0_1 = some r) :
  Calls Tryd.prog 42 #[.agg #[.bool a0_0, .slice A0_1 l0_1.length c0_1]] w fun e w' => e = .returned (.int .i64 r) ∧ Below w.heap.size w w' := by
 have hu25 := Tryd.underlying25
 have HR0_1 := Aside0.mk hr0_1
 have HC0_1 := Aside0.mk hc0_1
 clear hr0_1 hc0_1
 have HB := Aside0.mk (Below.refl w.heap.size w)
 have H := h
 unfold integer_Int_Bits.f at H
 clear h
 by_cases c2 : (l0_1.length : Int) = 0
 ·
  rw [if_pos c2] at H
  have c2b0 : ((l0_1.length : Int) == 0) = true := beq_iff_eq.mpr c2
  have c2b1 : ((l0_1.length : Int) != 0) = false := bne_eq_false_iff_eq.mpr c2
  clear c2
  obtain rfl := Option.some.inj H
  go_enter Tryd.func42, Tryd.ntmps42
  go_wp2_with (first | ((with_reducible refine gate_dst (N := 1) rfl ?_); refine box_event ?hg (N := 1) ?hd (cs := #[.bool a0_0, .slice A0_1 l0_1.length c0_1]) (t := 25) ?hr ?_; (case hd => rfl); (case hg => rfl); (case hr => first | (go_simp; done) | (go_simp; rfl)); intro gb388 hg w3 hbox hb; have BK388 := Aside0.mk (hbox); have GE388 := Aside0.mk ((size_up hg HB.out : w.heap.size ≤ gb388)); replace HB := Aside0.mk (below_step (below_up HB.out) hb); clear hb hbox hg; have hcz4_0 : w3.cell? ⟨gb388, 0, none⟩ = some (.bool a0_0) := (blk_cell BK388.out 0).trans rfl; have hcz4_1 : w3.cell? ⟨gb388, 1, none⟩ = some (.slice A0_1 l0_1.length c0_1) := (blk_cell BK388.out 1).trans rfl; have hfz4_0 := blk_frozen BK388.out 0; have hfz4_1 := blk_frozen BK388.out 1))
  go_ret
  exact ⟨by first | rfl | (simp [errW_none, errW_some] <;> rfl) | (simp [*, errW_none, errW_some] <;> rfl), by repeat (first | (with_reducible first | exact HB.out | apply below_alloc | apply pw_below_drewN | apply below_drew1 | refine below_set ?_ GE388.out) | exact HB.out)⟩
 ·
  rw [if_neg c2] at H
  have c2b0 : ((l0_1.length : Int) == 0) = false := beq_eq_false_iff_ne.mpr c2
  have c2b1 : ((l0_1.length : Int) != 0) = true := bne_iff_ne.mpr c2
  have c2b2 : ¬ (l0_1 = []) := fun h_ => c2 (by rw [h_]; rfl)
  obtain ⟨ji5, hji5⟩ : ∃ j_ : Int, (wrap64 ((l0_1.length : Int) - 1)) = j_ := ⟨_, rfl⟩
  replace H : (if 0 ≤ (ji5) then (if (ji5) < (l0_1.length : Int) then ((bits_Len32.f (rd l0_1 (ji5))).bind fun t390 => (some (wrap64 ((wrap64 (32 * (ji5))) + t390)))) else (none)) else (none)) = some r := by first | (rw [hji5] at H; exact H) | (simp only [hji5] at H ⊢; exact H)
  have hji5w : (IntKind.i64.wrap ((l0_1.length : Int) - 1)) = ji5 := (i64_w _).trans hji5
  by_cases c6 : 0 ≤ (ji5)
  ·
   rw [if_pos c6] at H
   have c6b0 := decide_eq_true c6
   clear c6
   obtain ⟨c7, H⟩ := ite_some H
   have c7b0 := decide_eq_true c7
   clear c7
   replace H := Option.bind_eq_some_iff.mp H
   obtain ⟨t390, A80, H⟩ := H
   try dsimp only at H
   have A8 := Aside0.mk A80
   clear A80
   obtain rfl := Option.some.inj H
   go_enter Tryd.func42, Tryd.ntmps42
   go_wp2_with (first | ((with_reducible refine gate_dst (N := 1) rfl ?_); refine box_event ?hg (N := 1) ?hd (cs := #[.bool a0_0, .slice A0_1 l0_1.length c0_1]) (t := 25) ?hr ?_; (case hd => rfl); (case hg => rfl); (case hr => first | (go_simp; done) | (go_simp; rfl)); intro gb388 hg w9 hbox hb; have BK388 := Aside0.mk (hbox); have GE388 := Aside0.mk ((size_up hg HB.out : w.heap.size ≤ gb388)); replace HB := Aside0.mk (below_step (below_up HB.out) hb); clear hb hbox hg; have hcz10_0 : w9.cell? ⟨gb388, 0, none⟩ = some (.bool a0_0) := (blk_cell BK388.out 0).trans rfl; have hcz10_1 : w9.cell? ⟨gb388, 1, none⟩ = some (.slice A0_1 l0_1.length c0_1) := (blk_cell BK388.out 1).trans rfl; have hfz10_0 := blk_frozen BK388.out 0; have hfz10_1 := blk_frozen BK388.out 1; have p389 : 0 ≤ ((ji5) : Int) := of_decide_eq_true (by assumption); have q389 : (ji5) < (l0_1.length : Int) := of_decide_eq_true (by assumption); obtain ⟨ad389, e389, hx389_0⟩ := Kd.at_int HR0_1.out (ji5) p389 q389; cases e389; replace hx389_0 := (HB.out.cell (World.block_lt_of_cell? w _ hx389_0)).trans hx389_0; replace p389 := eq_true p389; replace q389 := eq_true q389) | (go_at_call 66; (with_reducible refine (bits_Len32.calls (rd l0_1 (ji5)) t390 _ A8.out).mono ?_); rintro e w' ⟨rfl, ⟨nd, rfl⟩⟩; (try first | exact ⟨rfl, _, World.drewN_drewN _ _ _⟩ | exact ⟨rfl, _, Eq.trans (World.drewN_drewN _ _ _) (congrArg (World.drewN _) (Nat.add_assoc _ _ _))⟩)))
   repeat (go_quiet (first | ((with_reducible refine gate_dst (N := 1) rfl ?_); refine box_event ?hg (N := 1) ?hd (cs := #[.bool a0_0, .slice A0_1 l0_1.length c0_1]) (t := 25) ?hr ?_; (case hd => rfl); (case hg => rfl); (case hr => first | (go_simp; done) | (go_simp; rfl)); intro gb388 hg w9 hbox hb; have BK388 := Aside0.mk (hbox); have GE388 := Aside0.mk ((size_up hg HB.out : w.heap.size ≤ gb388)); replace HB := Aside0.mk (below_step (below_up HB.out) hb); clear hb hbox hg; have hcz10_0 : w9.cell? ⟨gb388, 0, none⟩ = some (.bool a0_0) := (blk_cell BK388.out 0).trans rfl; have hcz10_1 : w9.cell? ⟨gb388, 1, none⟩ = some (.slice A0_1 l0_1.length c0_1) := (blk_cell BK388.out 1).trans rfl; have hfz10_0 := blk_frozen BK388.out 0; have hfz10_1 := blk_frozen BK388.out 1; have p389 : 0 ≤ ((ji5) : Int) := of_decide_eq_true (by assumption); have q389 : (ji5) < (l0_1.length : Int) := of_decide_eq_true (by assumption); obtain ⟨ad389, e389, hx389_0⟩ := Kd.at_int HR0_1.out (ji5) p389 q389; cases e389; replace hx389_0 := (HB.out.cell (World.block_lt_of_cell? w _ hx389_0)).trans hx389_0; replace p389 := eq_true p389; replace q389 := eq_true q389) | (go_at_call 66; (with_reducible refine (bits_Len32.calls (rd l0_1 (ji5)) t390 _ A8.out).mono ?_); rintro e w' ⟨rfl, ⟨nd, rfl⟩⟩; (try first | exact ⟨rfl, _, World.drewN_drewN _ _ _⟩ | exact ⟨rfl, _, Eq.trans (World.drewN_drewN _ _ _) (congrArg (World.drewN _) (Nat.add_assoc _ _ _))⟩))); try go_wp2_with (first | ((with_reducible refine gate_dst (N := 1) rfl ?_); refine box_event ?hg (N := 1) ?hd (cs := #[.bool a0_0, .slice A0_1 l0_1.length c0_1]) (t := 25) ?hr ?_; (case hd => rfl); (case hg => rfl); (case hr => first | (go_simp; done) | (go_simp; rfl)); intro gb388 hg w9 hbox hb; have BK388 := Aside0.mk (hbox); have GE388 := Aside0.mk ((size_up hg HB.out : w.heap.size ≤ gb388)); replace HB := Aside0.mk (below_step (below_up HB.out) hb); clear hb hbox hg; have hcz10_0 : w9.cell? ⟨gb388, 0, none⟩ = some (.bool a0_0) := (blk_cell BK388.out 0).trans rfl; have hcz10_1 : w9.cell? ⟨gb388, 1, none⟩ = some (.slice A0_1 l0_1.length c0_1) := (blk_cell BK388.out 1).trans rfl; have hfz10_0 := blk_frozen BK388.out 0; have hfz10_1 := blk_frozen BK388.out 1; have p389 : 0 ≤ ((ji5) : Int) := of_decide_eq_true (by assumption); have q389 : (ji5) < (l0_1.length : Int) := of_decide_eq_true (by assumption); obtain ⟨ad389, e389, hx389_0⟩ := Kd.at_int HR0_1.out (ji5) p389 q389; cases e389; replace hx389_0 := (HB.out.cell (World.block_lt_of_cell? w _ hx389_0)).trans hx389_0; replace p389 := eq_true p389; replace q389 := eq_true q389) | (go_at_call 66; (with_reducible refine (bits_Len32.calls (rd l0_1 (ji5)) t390 _ A8.out).mono ?_); rintro e w' ⟨rfl, ⟨nd, rfl⟩⟩; (try first | exact ⟨rfl, _, World.drewN_drewN _ _ _⟩ | exact ⟨rfl, _, Eq.trans (World.drewN_drewN _ _ _) (congrArg (World.drewN _) (Nat.add_assoc _ _ _))⟩))))
   go_ret
   exact ⟨by first | rfl | (simp [errW_none, errW_some] <;> rfl) | (simp only [← hji5]; first | rfl | (simp [errW_none, errW_some] <;> rfl)) | (simp [*, errW_none, errW_some] <;> rfl), by repeat (first | (with_reducible first | exact HB.out | apply below_alloc | apply pw_below_drewN | apply below_drew1 | refine below_set ?_ GE388.out) | exact HB.out)⟩
  ·
   rw [if_neg c6] at H
   exact absurd H (by simp)
def dowellaw01_known.f (k : Nat)  : Option (Bool) := (integer_From.f k (-7)).bind fun bt391 => ((integer_From.f k 2).bind fun bt395 => ((integer_DivMod.f k bt391.1 bt391.2 bt395.1 bt395.2).bind fun bt399 => ((integer_From.f k (-10)).bind fun bt410 => ((integer_Power.f k bt410.1 bt410.2 3).bind fun bt414 => ((integer_Int_Text.f k bt399.1 bt399.2.1).bind fun t420 => (if t420.toList = ([45, 52] : List UInt8) then ((integer_Int_Text.f k bt399.2.2.1 bt399.2.2.2.1).bind fun t421 => (if t421.toList = ([49] : List UInt8) then (if bt399.2.2.2.2 = 0 then ((integer_Int_Text.f k bt414.1 bt414.2.1).bind fun t422 => (if t422.toList = ([45, 49, 48, 48, 48] : List UInt8) then (if bt414.2.2 = 0 then ((integer_From.f k (-12)).bind fun bt423 => ((integer_From.f k 18).bind fun bt427 => ((integer_Gcd.f k bt423.1 bt423.2 bt427.1 bt427.2).bind fun bt431 => ((integer_Int_Text.f k bt431.1 bt431.2).bind fun t435 => (if t435.toList = ([54] : List UInt8) then ((integer_From.f k 256).bind fun bt436 => ((integer_Int_Bits.f bt436.1 bt436.2).bind fun t440 => (some (t440 == 9)))) else (none)))))) else (none)) else (none))) else (none)) else (none))) else (none)))))))
theorem dowellaw01_known.mono : ∀ k, LeO (dowellaw01_known.f k ) (dowellaw01_known.f (k + 1) ) := by
 intro  k
 unfold dowellaw01_known.f
 repeat' first
   | (with_reducible exact integer_DivMod.mono _ _ _ _ _)
   | (with_reducible exact integer_From.mono _ _)
   | (with_reducible exact integer_Gcd.mono _ _ _ _ _)
   | (with_reducible exact integer_Int_Text.mono _ _ _)
   | (with_reducible exact integer_Power.mono _ _ _ _)
   | (with_reducible exact LeO.refl _)
   | (with_reducible exact LeO.none _)
   | (with_reducible refine LeO.ite ?_ ?_)
   | (with_reducible refine LeO.bind ?_ (fun _ => ?_))
set_option maxHeartbeats 8000000 in
set_option maxRecDepth 100000 in
theorem dowellaw01_known.calls (k : Nat)  (r : Bool) (w : World) (hG : G w) (h : dowellaw01_known.f k  = some r) :
  Calls Tryd.prog 14 #[] w fun e w' => e = .returned (.bool r) ∧ Below w.heap.size w w' := by
 have hu25 := Tryd.underlying25
 have HB := Aside0.mk (Below.refl w.heap.size w)
 have HG := Aside0.mk hG
 clear hG
 have H := h
 unfold dowellaw01_known.f at H
 clear h
 replace H := Option.bind_eq_some_iff.mp H
 obtain ⟨⟨t391, t392⟩, A10, H⟩ := H
 try dsimp only at H
 have A1 := Aside0.mk A10
 clear A10
 replace H := Option.bind_eq_some_iff.mp H
 obtain ⟨⟨t395, t396⟩, A20, H⟩ := H
 try dsimp only at H
 have A2 := Aside0.mk A20
 clear A20
 replace H := Option.bind_eq_some_iff.mp H
 obtain ⟨⟨t399, t400, t403, t404, t407⟩, A30, H⟩ := H
 try dsimp only at H
 have A3 := Aside0.mk A30
 clear A30
 replace H := Option.bind_eq_some_iff.mp H
 obtain ⟨⟨t410, t411⟩, A40, H⟩ := H
 try dsimp only at H
 have A4 := Aside0.mk A40
 clear A40
 replace H := Option.bind_eq_some_iff.mp H
 obtain ⟨⟨t414, t415, t418⟩, A50, H⟩ := H
 try dsimp only at H
 have A5 := Aside0.mk A50
 clear A50
 replace H := Option.bind_eq_some_iff.mp H
 obtain ⟨t420, A60, H⟩ := H
 try dsimp only at H
 have A6 := Aside0.mk A60
 clear A60
 by_cases c7 : t420.toList = ([45, 52] : List UInt8)
 ·
  rw [if_pos c7] at H
  have c7b0 : (t420.toList == ([45, 52] : List UInt8)) = true := beq_iff_eq.mpr c7
  have c7b1 : (t420.toList != ([45, 52] : List UInt8)) = false := bne_eq_false_iff_eq.mpr c7
  clear c7
  replace H := Option.bind_eq_some_iff.mp H
  obtain ⟨t421, A80, H⟩ := H
  try dsimp only at H
  have A8 := Aside0.mk A80
  clear A80
  obtain ⟨c9, H⟩ := ite_some H
  have c9b0 : (t421.toList == ([49] : List UInt8)) = true := beq_iff_eq.mpr c9
  have c9b1 : (t421.toList != ([49] : List UInt8)) = false := bne_eq_false_iff_eq.mpr c9
  clear c9
  obtain ⟨c10, H⟩ := ite_some H
  have c10b0 : (t407 == 0) = true := beq_iff_eq.mpr c10
  have c10b1 : (t407 != 0) = false := bne_eq_false_iff_eq.mpr c10
  clear c10
  replace H := Option.bind_eq_some_iff.mp H
  obtain ⟨t422, A110, H⟩ := H
  try dsimp only at H
  have A11 := Aside0.mk A110
  clear A110
  obtain ⟨c12, H⟩ := ite_some H
  have c12b0 : (t422.toList == ([45, 49, 48, 48, 48] : List UInt8)) = true := beq_iff_eq.mpr c12
  have c12b1 : (t422.toList != ([45, 49, 48, 48, 48] : List UInt8)) = false := bne_eq_false_iff_eq.mpr c12
  clear c12
  obtain ⟨c13, H⟩ := ite_some H
  have c13b0 : (t418 == 0) = true := beq_iff_eq.mpr c13
  have c13b1 : (t418 != 0) = false := bne_eq_false_iff_eq.mpr c13
  clear c13
  replace H := Option.bind_eq_some_iff.mp H
  obtain ⟨⟨t423, t424⟩, A140, H⟩ := H
  try dsimp only at H
  have A14 := Aside0.mk A140
  clear A140
  replace H := Option.bind_eq_some_iff.mp H
  obtain ⟨⟨t427, t428⟩, A150, H⟩ := H
  try dsimp only at H
  have A15 := Aside0.mk A150
  clear A150
  replace H := Option.bind_eq_some_iff.mp H
  obtain ⟨⟨t431, t432⟩, A160, H⟩ := H
  try dsimp only at H
  have A16 := Aside0.mk A160
  clear A160
  replace H := Option.bind_eq_some_iff.mp H
  obtain ⟨t435, A170, H⟩ := H
  try dsimp only at H
  have A17 := Aside0.mk A170
  clear A170
  obtain ⟨c18, H⟩ := ite_some H
  have c18b0 : (t435.toList == ([54] : List UInt8)) = true := beq_iff_eq.mpr c18
  have c18b1 : (t435.toList != ([54] : List UInt8)) = false := bne_eq_false_iff_eq.mpr c18
  clear c18
  replace H := Option.bind_eq_some_iff.mp H
  obtain ⟨⟨t436, t437⟩, A190, H⟩ := H
  try dsimp only at H
  have A19 := Aside0.mk A190
  clear A190
  replace H := Option.bind_eq_some_iff.mp H
  obtain ⟨t440, A200, H⟩ := H
  try dsimp only at H
  have A20 := Aside0.mk A200
  clear A200
  obtain rfl := Option.some.inj H
  go_enter Tryd.func14, Tryd.ntmps14
  go_wp2_with (first | ((with_reducible refine gate_callee (f := 15) rfl ?_); refine gl_ (some 7) Tryd.func15 #[.int .i64 (-7)] ?_; (with_reducible refine (integer_From.calls k (-7) t391 t392 _ A1.out).mono ?_); rintro e w21 ⟨v393, rfl, ho0, hb⟩; refine ⟨_, rfl, ?_⟩; have HO394 := Aside0.mk (Kd.V_lower (Kd.V_mono (ok' := fun k_ => True) ho0 (fun k_ hk_ => trivial)) (below_size (below_up HB.out))); replace HB := Aside0.mk (below_step (below_up HB.out) hb); (try clear hb); (try clear hb2); (try clear hk); (try clear hi); (try clear ho0)) | ((with_reducible refine gate_callee (f := 15) rfl ?_); refine gl_ (some 8) Tryd.func15 #[.int .i64 2] ?_; (with_reducible refine (integer_From.calls k 2 t395 t396 _ A2.out).mono ?_); rintro e w22 ⟨v397, rfl, ho0, hb⟩; refine ⟨_, rfl, ?_⟩; replace HO394 := Aside0.mk (Kd.V_below (Kd.V_up HO394.out) hb); have HO398 := Aside0.mk (Kd.V_lower (Kd.V_mono (ok' := fun k_ => True) ho0 (fun k_ hk_ => trivial)) (below_size (below_up HB.out))); replace HB := Aside0.mk (below_step (below_up HB.out) hb); (try clear hb); (try clear hb2); (try clear hk); (try clear hi); (try clear ho0); obtain ⟨Ao23, co23, eo23⟩ := Kd.V_slice HO394.out; subst eo23; obtain ⟨Ao24, co24, eo24⟩ := Kd.V_slice HO398.out; subst eo24) | ((with_reducible refine gate_callee (f := 27) rfl ?_); refine gl_ (some 9) Tryd.func27 #[.agg #[.bool t391, .slice Ao23 t392.length co23], .agg #[.bool t395, .slice Ao24 t396.length co24]] ?_; (with_reducible refine (integer_DivMod.calls k t391 (fun k_ => True) _ _ t392 t395 _ _ t396 t399 t400 t403 t404 t407 _ ?side1 ?side2 ?side3 A3.out).mono ?_); (case side1 => exact HO394.out); (case side2 => repeat (first | exact (Kd.V_reads' HO398.out).2.2 | (with_reducible refine Kd.C_alloc ?_ _) | (with_reducible refine Kd.C_drewN ?_ _) | (with_reducible refine Kd.C_drew ?_))); (case side3 => exact (Kd.V_reads' HO398.out).2.1); rintro e w25 ⟨v401, v405, rfl, ho0, ho1, hb⟩; refine ⟨_, rfl, ?_⟩; have n2_ := Aside0.mk (Kd.V_lower (Kd.V_mono (ok' := fun k_ => True) ho0 (fun k_ hk_ => trivial)) (below_size (below_up HB.out))); have n3_ := Aside0.mk (Kd.V_lower (Kd.V_mono (ok' := fun k_ => True) ho1 (fun k_ hk_ => trivial)) (below_size (below_up HB.out))); have n4_ := Aside0.mk (below_step (below_up HB.out) hb); (try clear HO394); (try clear HO398); clear HB; have HO402 := n2_; have HO406 := n3_; have HB := n4_; clear n2_ n3_ n4_; (try clear hb); (try clear hb2); (try clear hk); (try clear hi); (try clear ho0); (try clear ho1)) | ((with_reducible refine gate_dst (N := 1) rfl ?_); refine box_event ?hg (N := 1) ?hd (cs := #[.bool false, .slice none 0 0]) (t := 25) ?hr ?_; (case hd => rfl); (case hg => rfl); (case hr => first | (go_simp; done) | (go_simp; rfl)); intro gb408 hg w26 hbox hb; have n2_ := Aside0.mk (Kd.V_below (Kd.V_elderB (Kd.V_up HO402.out) gb408 (Nat.le_of_eq hg.symm)) hb); have n3_ := Aside0.mk (Kd.V_below (Kd.V_elderB (Kd.V_up HO406.out) gb408 (Nat.le_of_eq hg.symm)) hb); have n4_ := Aside0.mk (below_step (below_up HB.out) hb); have n5_ := Aside0.mk (hbox); have n7_ := Aside0.mk ((size_up hg HB.out : w.heap.size ≤ gb408)); clear HO402 HO406 HB; have HO402 := n2_; have HO406 := n3_; have HB := n4_; have BK408 := n5_; have GE408 := n7_; clear n2_ n3_ n4_ n5_ n7_ hb hbox hg) | ((with_reducible refine gate_dst (N := 2) rfl ?_); refine box_event ?hg (N := 2) ?hd (cs := #[.bool false, .slice none 0 0]) (t := 25) ?hr ?_; (case hd => rfl); (case hg => rfl); (case hr => first | (go_simp; done) | (go_simp; rfl)); intro gb409 hg w27 hbox hb; have n2_ := Aside0.mk (Kd.V_below (Kd.V_elderB (Kd.V_up HO402.out) gb409 (Nat.le_of_eq hg.symm)) hb); have n3_ := Aside0.mk (Kd.V_below (Kd.V_elderB (Kd.V_up HO406.out) gb409 (Nat.le_of_eq hg.symm)) hb); have n4_ := Aside0.mk (blk_below (g := gb408) (o := .cells #[.bool false, .slice none 0 0] 25 (0, 0)) (blk_up BK408.out) hb); have n5_ := Aside0.mk (below_step (by repeat (first | (with_reducible first | exact HB.out | apply below_alloc | apply pw_below_drewN | apply below_drew1 | refine below_set ?_ GE408.out) | exact HB.out)) hb); have n6_ := Aside0.mk (hbox); have n8_ := Aside0.mk ((by rw [hg]; exact (below_size (by repeat (first | (with_reducible first | exact HB.out | apply below_alloc | apply pw_below_drewN | apply below_drew1 | refine below_set ?_ GE408.out) | exact HB.out))) : w.heap.size ≤ gb409)); have n9_ := Aside0.mk ((blk_nw hg BK408.out : gb408 ≠ gb409)); have n10_ := Aside0.mk ((nw_blk hg BK408.out : gb409 ≠ gb408)); clear HO402 HO406 BK408 HB; have HO402 := n2_; have HO406 := n3_; have BK408 := n4_; have HB := n5_; have BK409 := n6_; have GE409 := n8_; have NB408_409 := n9_; have NB409_408 := n10_; clear n2_ n3_ n4_ n5_ n6_ n8_ n9_ n10_ hb hbox hg; have hnb28 := NB408_409.out; have hnc28 := NB409_408.out; have hcz29_0 : w27.cell? ⟨gb408, 0, none⟩ = some (.bool false) := (blk_cell BK408.out 0).trans rfl; have hcz29_1 : w27.cell? ⟨gb408, 1, none⟩ = some (.slice none 0 0) := (blk_cell BK408.out 1).trans rfl; have hfz29_0 := blk_frozen BK408.out 0; have hfz29_1 := blk_frozen BK408.out 1; obtain ⟨Ao30, co30, eo30⟩ := Kd.V_slice HO402.out; subst eo30; have hcz31_0 : w27.cell? ⟨gb409, 0, none⟩ = some (.bool false) := (blk_cell BK409.out 0).trans rfl; have hcz31_1 : w27.cell? ⟨gb409, 1, none⟩ = some (.slice none 0 0) := (blk_cell BK409.out 1).trans rfl; have hfz31_0 := blk_frozen BK409.out 0; have hfz31_1 := blk_frozen BK409.out 1; obtain ⟨Ao32, co32, eo32⟩ := Kd.V_slice HO406.out; subst eo32) | ((with_reducible refine gate_callee (f := 15) rfl ?_); refine gl_ (some 14) Tryd.func15 #[.int .i64 (-10)] ?_; (with_reducible refine (integer_From.calls k (-10) t410 t411 _ A4.out).mono ?_); rintro e w33 ⟨v412, rfl, ho0, hb⟩; refine ⟨_, rfl, ?_⟩; have n2_ := Aside0.mk (Kd.V_below (Kd.V_up ((Kd.V_mono (Kd.V_mono (Kd.V_far (p := ⟨gb409, 1, none⟩) (Kd.V_far (p := ⟨gb409, 0, none⟩) (Kd.V_far (p := ⟨gb408, 1, none⟩) (Kd.V_far (p := ⟨gb408, 0, none⟩) (Kd.V_mono (Kd.V_mono HO402.out (fun k_ hk => (⟨hk, hk.1.2⟩ : _ ∧ k_ ≠ gb408))) (fun k_ hk => (⟨hk, hk.1.2⟩ : _ ∧ k_ ≠ gb409))) (fun _ hk => hk.1.2) (.bool t399)) (fun _ hk => hk.1.2) (.slice Ao30 t400.length co30)) (fun _ hk => hk.2) (.bool t403)) (fun _ hk => hk.2) (.slice Ao32 t404.length co32)) (fun _ h_ => h_.1)) (fun _ h_ => h_.1)))) hb); have n3_ := Aside0.mk (Kd.V_below (Kd.V_up ((Kd.V_mono (Kd.V_mono (Kd.V_far (p := ⟨gb409, 1, none⟩) (Kd.V_far (p := ⟨gb409, 0, none⟩) (Kd.V_far (p := ⟨gb408, 1, none⟩) (Kd.V_far (p := ⟨gb408, 0, none⟩) (Kd.V_mono (Kd.V_mono HO406.out (fun k_ hk => (⟨hk, hk.1.2⟩ : _ ∧ k_ ≠ gb408))) (fun k_ hk => (⟨hk, hk.1.2⟩ : _ ∧ k_ ≠ gb409))) (fun _ hk => hk.1.2) (.bool t399)) (fun _ hk => hk.1.2) (.slice Ao30 t400.length co30)) (fun _ hk => hk.2) (.bool t403)) (fun _ hk => hk.2) (.slice Ao32 t404.length co32)) (fun _ h_ => h_.1)) (fun _ h_ => h_.1)))) hb); have n4_ := Aside0.mk (Kd.V_lower (Kd.V_mono (ok' := fun k_ => k_ ≠ gb408 ∧ k_ ≠ gb409) ho0 (fun k_ hk_ => ⟨(Kd.freshB (g := gb408) (o := .cells #[.bool t399, .slice Ao30 t400.length co30] 25 (0, 0)) (by refine blk_ups ?_; refine blk_far ?_ NB408_409.out _; refine blk_ups ?_; refine blk_far ?_ NB408_409.out _; refine blk_ups ?_; refine blk_put (cs := #[.bool t399, .slice none 0 0]) ?_ 1 _ rfl; refine blk_ups ?_; refine blk_put (cs := #[.bool false, .slice none 0 0]) ?_ 0 _ rfl; exact blk_up BK408.out) k_ hk_), (Kd.freshB (g := gb409) (o := .cells #[.bool t403, .slice Ao32 t404.length co32] 25 (0, 0)) (by refine blk_ups ?_; refine blk_put (cs := #[.bool t403, .slice none 0 0]) ?_ 1 _ rfl; refine blk_ups ?_; refine blk_put (cs := #[.bool false, .slice none 0 0]) ?_ 0 _ rfl; refine blk_ups ?_; refine blk_far ?_ NB409_408.out _; refine blk_ups ?_; refine blk_far ?_ NB409_408.out _; exact blk_up BK409.out) k_ hk_)⟩)) (below_size (by repeat (first | (with_reducible first | exact HB.out | apply below_alloc | apply pw_below_drewN | apply below_drew1 | refine below_set ?_ GE408.out | refine below_set ?_ GE409.out) | exact HB.out)))); have n5_ := Aside0.mk (blk_below (g := gb408) (o := .cells #[.bool t399, .slice Ao30 t400.length co30] 25 (0, 0)) (by refine blk_ups ?_; refine blk_far ?_ NB408_409.out _; refine blk_ups ?_; refine blk_far ?_ NB408_409.out _; refine blk_ups ?_; refine blk_put (cs := #[.bool t399, .slice none 0 0]) ?_ 1 _ rfl; refine blk_ups ?_; refine blk_put (cs := #[.bool false, .slice none 0 0]) ?_ 0 _ rfl; exact blk_up BK408.out) hb); have n6_ := Aside0.mk (blk_below (g := gb409) (o := .cells #[.bool t403, .slice Ao32 t404.length co32] 25 (0, 0)) (by refine blk_ups ?_; refine blk_put (cs := #[.bool t403, .slice none 0 0]) ?_ 1 _ rfl; refine blk_ups ?_; refine blk_put (cs := #[.bool false, .slice none 0 0]) ?_ 0 _ rfl; refine blk_ups ?_; refine blk_far ?_ NB409_408.out _; refine blk_ups ?_; refine blk_far ?_ NB409_408.out _; exact blk_up BK409.out) hb); have n7_ := Aside0.mk (below_step (by repeat (first | (with_reducible first | exact HB.out | apply below_alloc | apply pw_below_drewN | apply below_drew1 | refine below_set ?_ GE408.out | refine below_set ?_ GE409.out) | exact HB.out)) hb); clear HO402 HO406 BK408 BK409 HB; have HO402 := n2_; have HO406 := n3_; have HO413 := n4_; have BK408 := n5_; have BK409 := n6_; have HB := n7_; clear n2_ n3_ n4_ n5_ n6_ n7_; (try clear hb); (try clear hb2); (try clear hk); (try clear hi); (try clear ho0); obtain ⟨Ao34, co34, eo34⟩ := Kd.V_slice HO413.out; subst eo34) | ((with_reducible refine gate_callee (f := 31) rfl ?_); refine gl_ (some 15) Tryd.func31 #[.agg #[.bool t410, .slice Ao34 t411.length co34], .int .i64 3] ?_; (with_reducible refine (integer_Power.calls k t410 _ _ t411 3 t414 t415 t418 _ ?side1 ?side2 A5.out).mono ?_); (case side1 => repeat (first | exact (Kd.V_reads' HO413.out).2.2 | (with_reducible refine Kd.C_alloc ?_ _) | (with_reducible refine Kd.C_drewN ?_ _) | (with_reducible refine Kd.C_drew ?_))); (case side2 => exact (Kd.V_reads' HO413.out).2.1); rintro e w35 ⟨v416, rfl, ho0, hb⟩; refine ⟨_, rfl, ?_⟩; have n2_ := Aside0.mk (Kd.V_below (Kd.V_up HO402.out) hb); have n3_ := Aside0.mk (Kd.V_below (Kd.V_up HO406.out) hb); have n5_ := Aside0.mk (Kd.V_lower (Kd.V_mono (ok' := fun k_ => k_ ≠ gb408 ∧ k_ ≠ gb409) ho0 (fun k_ hk_ => ⟨(Kd.freshB (g := gb408) (o := .cells #[.bool t399, .slice Ao30 t400.length co30] 25 (0, 0)) (blk_up BK408.out) k_ hk_), (Kd.freshB (g := gb409) (o := .cells #[.bool t403, .slice Ao32 t404.length co32] 25 (0, 0)) (blk_up BK409.out) k_ hk_)⟩)) (below_size (by repeat (first | (with_reducible first | exact HB.out | apply below_alloc | apply pw_below_drewN | apply below_drew1 | refine below_set ?_ GE408.out | refine below_set ?_ GE409.out) | exact HB.out)))); have n6_ := Aside0.mk (blk_below (g := gb408) (o := .cells #[.bool t399, .slice Ao30 t400.length co30] 25 (0, 0)) (blk_up BK408.out) hb); have n7_ := Aside0.mk (blk_below (g := gb409) (o := .cells #[.bool t403, .slice Ao32 t404.length co32] 25 (0, 0)) (blk_up BK409.out) hb); have n8_ := Aside0.mk (below_step (by repeat (first | (with_reducible first | exact HB.out | apply below_alloc | apply pw_below_drewN | apply below_drew1 | refine below_set ?_ GE408.out | refine below_set ?_ GE409.out) | exact HB.out)) hb); clear HO402 HO406; (try clear HO413); clear BK408 BK409 HB; have HO402 := n2_; have HO406 := n3_; have HO417 := n5_; have BK408 := n6_; have BK409 := n7_; have HB := n8_; clear n2_ n3_ n5_ n6_ n7_ n8_; (try clear hb); (try clear hb2); (try clear hk); (try clear hi); (try clear ho0)) | ((with_reducible refine gate_dst (N := 4) rfl ?_); refine box_event ?hg (N := 4) ?hd (cs := #[.bool false, .slice none 0 0]) (t := 25) ?hr ?_; (case hd => rfl); (case hg => rfl); (case hr => first | (go_simp; done) | (go_simp; rfl)); intro gb419 hg w36 hbox hb; have n2_ := Aside0.mk (Kd.V_below (Kd.V_elderB (Kd.V_up HO402.out) gb419 (Nat.le_of_eq hg.symm)) hb); have n3_ := Aside0.mk (Kd.V_below (Kd.V_elderB (Kd.V_up HO406.out) gb419 (Nat.le_of_eq hg.symm)) hb); have n5_ := Aside0.mk (Kd.V_below (Kd.V_elderB (Kd.V_up HO417.out) gb419 (Nat.le_of_eq hg.symm)) hb); have n6_ := Aside0.mk (blk_below (g := gb408) (o := .cells #[.bool t399, .slice Ao30 t400.length co30] 25 (0, 0)) (blk_up BK408.out) hb); have n7_ := Aside0.mk (blk_below (g := gb409) (o := .cells #[.bool t403, .slice Ao32 t404.length co32] 25 (0, 0)) (blk_up BK409.out) hb); have n8_ := Aside0.mk (below_step (by repeat (first | (with_reducible first | exact HB.out | apply below_alloc | apply pw_below_drewN | apply below_drew1 | refine below_set ?_ GE408.out | refine below_set ?_ GE409.out) | exact HB.out)) hb); have n9_ := Aside0.mk (hbox); have n11_ := Aside0.mk ((by rw [hg]; exact (below_size (by repeat (first | (with_reducible first | exact HB.out | apply below_alloc | apply pw_below_drewN | apply below_drew1 | refine below_set ?_ GE408.out | refine below_set ?_ GE409.out) | exact HB.out))) : w.heap.size ≤ gb419)); have n12_ := Aside0.mk ((blk_nw hg BK408.out : gb408 ≠ gb419)); have n13_ := Aside0.mk ((nw_blk hg BK408.out : gb419 ≠ gb408)); have n14_ := Aside0.mk ((blk_nw hg BK409.out : gb409 ≠ gb419)); have n15_ := Aside0.mk ((nw_blk hg BK409.out : gb419 ≠ gb409)); clear HO402 HO406 HO417 BK408 BK409 HB; have HO402 := n2_; have HO406 := n3_; have HO417 := n5_; have BK408 := n6_; have BK409 := n7_; have HB := n8_; have BK419 := n9_; have GE419 := n11_; have NB408_419 := n12_; have NB419_408 := n13_; have NB409_419 := n14_; have NB419_409 := n15_; clear n2_ n3_ n5_ n6_ n7_ n8_ n9_ n11_ n12_ n13_ n14_ n15_ hb hbox hg; have hnb37 := NB419_408.out; have hnc37 := NB408_419.out; have hnb38 := NB419_409.out; have hnc38 := NB409_419.out; have hcz39_0 : w36.cell? ⟨gb419, 0, none⟩ = some (.bool false) := (blk_cell BK419.out 0).trans rfl; have hcz39_1 : w36.cell? ⟨gb419, 1, none⟩ = some (.slice none 0 0) := (blk_cell BK419.out 1).trans rfl; have hfz39_0 := blk_frozen BK419.out 0; have hfz39_1 := blk_frozen BK419.out 1; obtain ⟨Ao40, co40, eo40⟩ := Kd.V_slice HO417.out; subst eo40) | ((with_reducible refine gate_store (t := 25) (p := 4) rfl ?_); refine store_event (t := 25) (p := 4) (v := ?vo_w41) (w1 := ((w36.setCell ⟨gb419, 0, none⟩ (.bool t414)).setCell ⟨gb419, 1, none⟩ (.slice Ao40 t415.length co40))) ?hg ?ho ?hn ?hr ?_; (case ho => rfl); (case hg => rfl); (case hn => rfl); (case hr => first | (go_simp; done) | (go_simp; rfl)); intro w41 hw; have n2_ : Aside0 (Kd.V (Kd.int .u32) 60 w41 w.heap.size (fun k_ => k_ ≠ gb408 ∧ k_ ≠ gb409 ∧ k_ ≠ gb419) (.slice Ao30 t400.length co30) t400) := ⟨(by rw [hw]; exact (Kd.V_up (Kd.V_mono (Kd.V_far (p := ⟨gb419, 1, none⟩) (Kd.V_far (p := ⟨gb419, 0, none⟩) (Kd.V_mono HO402.out (fun k_ hk => (⟨hk, hk.2⟩ : _ ∧ k_ ≠ gb419))) (fun _ hk => hk.2) (.bool t414)) (fun _ hk => hk.2) (.slice Ao40 t415.length co40)) (fun _ hk => ⟨hk.1.1.1.2, ⟨hk.1.1.2, hk.1.2⟩⟩))))⟩; have n3_ : Aside0 (Kd.V (Kd.int .u32) 60 w41 w.heap.size (fun k_ => k_ ≠ gb408 ∧ k_ ≠ gb409 ∧ k_ ≠ gb419) (.slice Ao32 t404.length co32) t404) := ⟨(by rw [hw]; exact (Kd.V_up (Kd.V_mono (Kd.V_far (p := ⟨gb419, 1, none⟩) (Kd.V_far (p := ⟨gb419, 0, none⟩) (Kd.V_mono HO406.out (fun k_ hk => (⟨hk, hk.2⟩ : _ ∧ k_ ≠ gb419))) (fun _ hk => hk.2) (.bool t414)) (fun _ hk => hk.2) (.slice Ao40 t415.length co40)) (fun _ hk => ⟨hk.1.1.1.2, ⟨hk.1.1.2, hk.1.2⟩⟩))))⟩; have n5_ : Aside0 (Kd.V (Kd.int .u32) 60 w41 w.heap.size (fun k_ => k_ ≠ gb408 ∧ k_ ≠ gb409 ∧ k_ ≠ gb419) (.slice Ao40 t415.length co40) t415) := ⟨(by rw [hw]; exact (Kd.V_up (Kd.V_mono (Kd.V_far (p := ⟨gb419, 1, none⟩) (Kd.V_far (p := ⟨gb419, 0, none⟩) (Kd.V_mono HO417.out (fun k_ hk => (⟨hk, hk.2⟩ : _ ∧ k_ ≠ gb419))) (fun _ hk => hk.2) (.bool t414)) (fun _ hk => hk.2) (.slice Ao40 t415.length co40)) (fun _ hk => ⟨hk.1.1.1, ⟨hk.1.1.2, hk.1.2⟩⟩))))⟩; have n6_ : Aside0 (w41.heap[gb408]? = some (.cells #[.bool t399, .slice Ao30 t400.length co30] 25 (0, 0))) := ⟨(by rw [hw]; exact (by refine blk_ups ?_; refine blk_far ?_ NB408_419.out _; refine blk_ups ?_; refine blk_far ?_ NB408_419.out _; exact blk_up BK408.out))⟩; have n7_ : Aside0 (w41.heap[gb409]? = some (.cells #[.bool t403, .slice Ao32 t404.length co32] 25 (0, 0))) := ⟨(by rw [hw]; exact (by refine blk_ups ?_; refine blk_far ?_ NB409_419.out _; refine blk_ups ?_; refine blk_far ?_ NB409_419.out _; exact blk_up BK409.out))⟩; have n8_ : Aside0 (w41.heap[gb419]? = some (.cells #[.bool t414, .slice Ao40 t415.length co40] 25 (0, 0))) := ⟨(by rw [hw]; exact (by refine blk_ups ?_; refine blk_put (cs := #[.bool t414, .slice none 0 0]) ?_ 1 _ rfl; refine blk_ups ?_; refine blk_put (cs := #[.bool false, .slice none 0 0]) ?_ 0 _ rfl; exact blk_up BK419.out))⟩; have n9_ : Aside0 (Below w.heap.size w w41) := ⟨(by rw [hw]; exact (by repeat (first | (with_reducible first | exact HB.out | apply below_alloc | apply pw_below_drewN | apply below_drew1 | refine below_set ?_ GE408.out | refine below_set ?_ GE409.out | refine below_set ?_ GE419.out) | exact HB.out)))⟩; clear hw HO402 HO406 HO417 BK408 BK409 BK419 HB; have HO402 := n2_; have HO406 := n3_; have HO417 := n5_; have BK408 := n6_; have BK409 := n7_; have BK419 := n8_; have HB := n9_; clear n2_ n3_ n5_ n6_ n7_ n8_ n9_; have hcz42_0 : w41.cell? ⟨gb408, 0, none⟩ = some (.bool t399) := (blk_cell BK408.out 0).trans rfl; have hcz42_1 : w41.cell? ⟨gb408, 1, none⟩ = some (.slice Ao30 t400.length co30) := (blk_cell BK408.out 1).trans rfl; have hfz42_0 := blk_frozen BK408.out 0; have hfz42_1 := blk_frozen BK408.out 1) | ((with_reducible refine gate_callee (f := 17) rfl ?_); refine gl_ (some 19) Tryd.func17 #[.agg #[.bool t399, .slice Ao30 t400.length co30]] ?_; (with_reducible refine (integer_Int_Text.calls k t399 (fun k_ => (k_ ≠ gb408 ∧ (k_ ≠ gb409 ∧ k_ ≠ gb419))) _ _ t400 t420 _ ?side1 ?side2 A6.out).mono ?_); (case side1 => exact HO402.out); (case side2 => exact G_below HG.out (by repeat (first | (with_reducible first | exact HB.out | apply below_alloc | apply pw_below_drewN | apply below_drew1 | refine below_set ?_ GE408.out | refine below_set ?_ GE409.out | refine below_set ?_ GE419.out) | exact HB.out))); rintro e w43 ⟨rfl, hb⟩; refine ⟨_, rfl, ?_⟩; have n3_ := Aside0.mk (Kd.V_below (Kd.V_up HO406.out) hb); have n5_ := Aside0.mk (Kd.V_below (Kd.V_up HO417.out) hb); have n6_ := Aside0.mk (blk_below (g := gb408) (o := .cells #[.bool t399, .slice Ao30 t400.length co30] 25 (0, 0)) (blk_up BK408.out) hb); have n7_ := Aside0.mk (blk_below (g := gb409) (o := .cells #[.bool t403, .slice Ao32 t404.length co32] 25 (0, 0)) (blk_up BK409.out) hb); have n8_ := Aside0.mk (blk_below (g := gb419) (o := .cells #[.bool t414, .slice Ao40 t415.length co40] 25 (0, 0)) (blk_up BK419.out) hb); have n9_ := Aside0.mk (below_step (by repeat (first | (with_reducible first | exact HB.out | apply below_alloc | apply pw_below_drewN | apply below_drew1 | refine below_set ?_ GE408.out | refine below_set ?_ GE409.out | refine below_set ?_ GE419.out) | exact HB.out)) hb); (try clear HO402); clear HO406 HO417 BK408 BK409 BK419 HB; have HO406 := n3_; have HO417 := n5_; have BK408 := n6_; have BK409 := n7_; have BK419 := n8_; have HB := n9_; clear n3_ n5_ n6_ n7_ n8_ n9_; (try clear hb); (try clear hb2); (try clear hk); (try clear hi); have hcz44_0 : w43.cell? ⟨gb409, 0, none⟩ = some (.bool t403) := (blk_cell BK409.out 0).trans rfl; have hcz44_1 : w43.cell? ⟨gb409, 1, none⟩ = some (.slice Ao32 t404.length co32) := (blk_cell BK409.out 1).trans rfl; have hfz44_0 := blk_frozen BK409.out 0; have hfz44_1 := blk_frozen BK409.out 1) | (go_at_call 17; (with_reducible refine (integer_Int_Text.calls k t403 (fun k_ => (k_ ≠ gb408 ∧ (k_ ≠ gb409 ∧ k_ ≠ gb419))) _ _ t404 t421 _ ?side1 ?side2 A8.out).mono ?_); (case side1 => exact HO406.out); (case side2 => exact G_below HG.out (by repeat (first | (with_reducible first | exact HB.out | apply below_alloc | apply pw_below_drewN | apply below_drew1 | refine below_set ?_ GE408.out | refine below_set ?_ GE409.out | refine below_set ?_ GE419.out) | exact HB.out))); rintro e w45 ⟨rfl, hb⟩; have n5_ := Aside0.mk (Kd.V_below (Kd.V_up HO417.out) hb); have n6_ := Aside0.mk (blk_below (g := gb408) (o := .cells #[.bool t399, .slice Ao30 t400.length co30] 25 (0, 0)) (blk_up BK408.out) hb); have n7_ := Aside0.mk (blk_below (g := gb409) (o := .cells #[.bool t403, .slice Ao32 t404.length co32] 25 (0, 0)) (blk_up BK409.out) hb); have n8_ := Aside0.mk (blk_below (g := gb419) (o := .cells #[.bool t414, .slice Ao40 t415.length co40] 25 (0, 0)) (blk_up BK419.out) hb); have n9_ := Aside0.mk (below_step (by repeat (first | (with_reducible first | exact HB.out | apply below_alloc | apply pw_below_drewN | apply below_drew1 | refine below_set ?_ GE408.out | refine below_set ?_ GE409.out | refine below_set ?_ GE419.out) | exact HB.out)) hb); (try clear HO406); clear HO417 BK408 BK409 BK419 HB; have HO417 := n5_; have BK408 := n6_; have BK409 := n7_; have BK419 := n8_; have HB := n9_; clear n5_ n6_ n7_ n8_ n9_; (try clear hb); (try clear hb2); (try clear hk); (try clear hi); have hcz46_0 : w45.cell? ⟨gb419, 0, none⟩ = some (.bool t414) := (blk_cell BK419.out 0).trans rfl; have hcz46_1 : w45.cell? ⟨gb419, 1, none⟩ = some (.slice Ao40 t415.length co40) := (blk_cell BK419.out 1).trans rfl; have hfz46_0 := blk_frozen BK419.out 0; have hfz46_1 := blk_frozen BK419.out 1) | (go_at_call 17; (with_reducible refine (integer_Int_Text.calls k t414 (fun k_ => (k_ ≠ gb408 ∧ (k_ ≠ gb409 ∧ k_ ≠ gb419))) _ _ t415 t422 _ ?side1 ?side2 A11.out).mono ?_); (case side1 => exact HO417.out); (case side2 => exact G_below HG.out (by repeat (first | (with_reducible first | exact HB.out | apply below_alloc | apply pw_below_drewN | apply below_drew1 | refine below_set ?_ GE408.out | refine below_set ?_ GE409.out | refine below_set ?_ GE419.out) | exact HB.out))); rintro e w47 ⟨rfl, hb⟩; have n6_ := Aside0.mk (blk_below (g := gb408) (o := .cells #[.bool t399, .slice Ao30 t400.length co30] 25 (0, 0)) (blk_up BK408.out) hb); have n7_ := Aside0.mk (blk_below (g := gb409) (o := .cells #[.bool t403, .slice Ao32 t404.length co32] 25 (0, 0)) (blk_up BK409.out) hb); have n8_ := Aside0.mk (blk_below (g := gb419) (o := .cells #[.bool t414, .slice Ao40 t415.length co40] 25 (0, 0)) (blk_up BK419.out) hb); have n9_ := Aside0.mk (below_step (by repeat (first | (with_reducible first | exact HB.out | apply below_alloc | apply pw_below_drewN | apply below_drew1 | refine below_set ?_ GE408.out | refine below_set ?_ GE409.out | refine below_set ?_ GE419.out) | exact HB.out)) hb); (try clear HO417); clear BK408 BK409 BK419 HB; have BK408 := n6_; have BK409 := n7_; have BK419 := n8_; have HB := n9_; clear n6_ n7_ n8_ n9_; (try clear hb); (try clear hb2); (try clear hk); (try clear hi)) | (go_at_call 15; (with_reducible refine (integer_From.calls k (-12) t423 t424 _ A14.out).mono ?_); rintro e w48 ⟨v425, rfl, ho0, hb⟩; have n6_ := Aside0.mk (Kd.V_lower (Kd.V_mono (ok' := fun k_ => k_ ≠ gb408 ∧ k_ ≠ gb409 ∧ k_ ≠ gb419) ho0 (fun k_ hk_ => ⟨(Kd.freshB (g := gb408) (o := .cells #[.bool t399, .slice Ao30 t400.length co30] 25 (0, 0)) (blk_up BK408.out) k_ hk_), (Kd.freshB (g := gb409) (o := .cells #[.bool t403, .slice Ao32 t404.length co32] 25 (0, 0)) (blk_up BK409.out) k_ hk_), (Kd.freshB (g := gb419) (o := .cells #[.bool t414, .slice Ao40 t415.length co40] 25 (0, 0)) (blk_up BK419.out) k_ hk_)⟩)) (below_size (by repeat (first | (with_reducible first | exact HB.out | apply below_alloc | apply pw_below_drewN | apply below_drew1 | refine below_set ?_ GE408.out | refine below_set ?_ GE409.out | refine below_set ?_ GE419.out) | exact HB.out)))); have n7_ := Aside0.mk (blk_below (g := gb408) (o := .cells #[.bool t399, .slice Ao30 t400.length co30] 25 (0, 0)) (blk_up BK408.out) hb); have n8_ := Aside0.mk (blk_below (g := gb409) (o := .cells #[.bool t403, .slice Ao32 t404.length co32] 25 (0, 0)) (blk_up BK409.out) hb); have n9_ := Aside0.mk (blk_below (g := gb419) (o := .cells #[.bool t414, .slice Ao40 t415.length co40] 25 (0, 0)) (blk_up BK419.out) hb); have n10_ := Aside0.mk (below_step (by repeat (first | (with_reducible first | exact HB.out | apply below_alloc | apply pw_below_drewN | apply below_drew1 | refine below_set ?_ GE408.out | refine below_set ?_ GE409.out | refine below_set ?_ GE419.out) | exact HB.out)) hb); clear BK408 BK409 BK419 HB; have HO426 := n6_; have BK408 := n7_; have BK409 := n8_; have BK419 := n9_; have HB := n10_; clear n6_ n7_ n8_ n9_ n10_; (try clear hb); (try clear hb2); (try clear hk); (try clear hi); (try clear ho0)) | (go_at_call 15; (with_reducible refine (integer_From.calls k 18 t427 t428 _ A15.out).mono ?_); rintro e w49 ⟨v429, rfl, ho0, hb⟩; have n6_ := Aside0.mk (Kd.V_below (Kd.V_up HO426.out) hb); have n7_ := Aside0.mk (Kd.V_lower (Kd.V_mono (ok' := fun k_ => k_ ≠ gb408 ∧ k_ ≠ gb409 ∧ k_ ≠ gb419) ho0 (fun k_ hk_ => ⟨(Kd.freshB (g := gb408) (o := .cells #[.bool t399, .slice Ao30 t400.length co30] 25 (0, 0)) (blk_up BK408.out) k_ hk_), (Kd.freshB (g := gb409) (o := .cells #[.bool t403, .slice Ao32 t404.length co32] 25 (0, 0)) (blk_up BK409.out) k_ hk_), (Kd.freshB (g := gb419) (o := .cells #[.bool t414, .slice Ao40 t415.length co40] 25 (0, 0)) (blk_up BK419.out) k_ hk_)⟩)) (below_size (by repeat (first | (with_reducible first | exact HB.out | apply below_alloc | apply pw_below_drewN | apply below_drew1 | refine below_set ?_ GE408.out | refine below_set ?_ GE409.out | refine below_set ?_ GE419.out) | exact HB.out)))); have n8_ := Aside0.mk (blk_below (g := gb408) (o := .cells #[.bool t399, .slice Ao30 t400.length co30] 25 (0, 0)) (blk_up BK408.out) hb); have n9_ := Aside0.mk (blk_below (g := gb409) (o := .cells #[.bool t403, .slice Ao32 t404.length co32] 25 (0, 0)) (blk_up BK409.out) hb); have n10_ := Aside0.mk (blk_below (g := gb419) (o := .cells #[.bool t414, .slice Ao40 t415.length co40] 25 (0, 0)) (blk_up BK419.out) hb); have n11_ := Aside0.mk (below_step (by repeat (first | (with_reducible first | exact HB.out | apply below_alloc | apply pw_below_drewN | apply below_drew1 | refine below_set ?_ GE408.out | refine below_set ?_ GE409.out | refine below_set ?_ GE419.out) | exact HB.out)) hb); clear HO426 BK408 BK409 BK419 HB; have HO426 := n6_; have HO430 := n7_; have BK408 := n8_; have BK409 := n9_; have BK419 := n10_; have HB := n11_; clear n6_ n7_ n8_ n9_ n10_ n11_; (try clear hb); (try clear hb2); (try clear hk); (try clear hi); (try clear ho0); obtain ⟨Ao50, co50, eo50⟩ := Kd.V_slice HO426.out; subst eo50; obtain ⟨Ao51, co51, eo51⟩ := Kd.V_slice HO430.out; subst eo51) | (go_at_call 29; (with_reducible refine (integer_Gcd.calls k t423 (fun k_ => (k_ ≠ gb408 ∧ (k_ ≠ gb409 ∧ k_ ≠ gb419))) _ _ t424 t427 (fun k_ => (k_ ≠ gb408 ∧ (k_ ≠ gb409 ∧ k_ ≠ gb419))) _ _ t428 t431 t432 _ ?side1 ?side2 A16.out).mono ?_); (case side1 => exact HO426.out); (case side2 => exact HO430.out); rintro e w52 ⟨v433, rfl, ho0, hb⟩; have n8_ := Aside0.mk (Kd.V_lower (Kd.V_mono (ok' := fun k_ => k_ ≠ gb408 ∧ k_ ≠ gb409 ∧ k_ ≠ gb419) ho0 (fun k_ hk_ => ⟨Or.elim hk_ (fun hs_ => Or.elim hs_ (fun hs_ => hs_.1) (fun hs_ => hs_.1)) (fun hn_ => (Kd.freshB (g := gb408) (o := .cells #[.bool t399, .slice Ao30 t400.length co30] 25 (0, 0)) (blk_up BK408.out) k_ hn_)), Or.elim hk_ (fun hs_ => Or.elim hs_ (fun hs_ => hs_.2.1) (fun hs_ => hs_.2.1)) (fun hn_ => (Kd.freshB (g := gb409) (o := .cells #[.bool t403, .slice Ao32 t404.length co32] 25 (0, 0)) (blk_up BK409.out) k_ hn_)), Or.elim hk_ (fun hs_ => Or.elim hs_ (fun hs_ => hs_.2.2) (fun hs_ => hs_.2.2)) (fun hn_ => (Kd.freshB (g := gb419) (o := .cells #[.bool t414, .slice Ao40 t415.length co40] 25 (0, 0)) (blk_up BK419.out) k_ hn_))⟩)) (below_size (by repeat (first | (with_reducible first | exact HB.out | apply below_alloc | apply pw_below_drewN | apply below_drew1 | refine below_set ?_ GE408.out | refine below_set ?_ GE409.out | refine below_set ?_ GE419.out) | exact HB.out)))); have n9_ := Aside0.mk (blk_below (g := gb408) (o := .cells #[.bool t399, .slice Ao30 t400.length co30] 25 (0, 0)) (blk_up BK408.out) hb); have n10_ := Aside0.mk (blk_below (g := gb409) (o := .cells #[.bool t403, .slice Ao32 t404.length co32] 25 (0, 0)) (blk_up BK409.out) hb); have n11_ := Aside0.mk (blk_below (g := gb419) (o := .cells #[.bool t414, .slice Ao40 t415.length co40] 25 (0, 0)) (blk_up BK419.out) hb); have n12_ := Aside0.mk (below_step (by repeat (first | (with_reducible first | exact HB.out | apply below_alloc | apply pw_below_drewN | apply below_drew1 | refine below_set ?_ GE408.out | refine below_set ?_ GE409.out | refine below_set ?_ GE419.out) | exact HB.out)) hb); (try clear HO426); (try clear HO430); clear BK408 BK409 BK419 HB; have HO434 := n8_; have BK408 := n9_; have BK409 := n10_; have BK419 := n11_; have HB := n12_; clear n8_ n9_ n10_ n11_ n12_; (try clear hb); (try clear hb2); (try clear hk); (try clear hi); (try clear ho0); obtain ⟨Ao53, co53, eo53⟩ := Kd.V_slice HO434.out; subst eo53) | (go_at_call 17; (with_reducible refine (integer_Int_Text.calls k t431 (fun k_ => (k_ ≠ gb408 ∧ (k_ ≠ gb409 ∧ k_ ≠ gb419))) _ _ t432 t435 _ ?side1 ?side2 A17.out).mono ?_); (case side1 => exact HO434.out); (case side2 => exact G_below HG.out (by repeat (first | (with_reducible first | exact HB.out | apply below_alloc | apply pw_below_drewN | apply below_drew1 | refine below_set ?_ GE408.out | refine below_set ?_ GE409.out | refine below_set ?_ GE419.out) | exact HB.out))); rintro e w54 ⟨rfl, hb⟩; have n9_ := Aside0.mk (blk_below (g := gb408) (o := .cells #[.bool t399, .slice Ao30 t400.length co30] 25 (0, 0)) (blk_up BK408.out) hb); have n10_ := Aside0.mk (blk_below (g := gb409) (o := .cells #[.bool t403, .slice Ao32 t404.length co32] 25 (0, 0)) (blk_up BK409.out) hb); have n11_ := Aside0.mk (blk_below (g := gb419) (o := .cells #[.bool t414, .slice Ao40 t415.length co40] 25 (0, 0)) (blk_up BK419.out) hb); have n12_ := Aside0.mk (below_step (by repeat (first | (with_reducible first | exact HB.out | apply below_alloc | apply pw_below_drewN | apply below_drew1 | refine below_set ?_ GE408.out | refine below_set ?_ GE409.out | refine below_set ?_ GE419.out) | exact HB.out)) hb); (try clear HO434); clear BK408 BK409 BK419 HB; have BK408 := n9_; have BK409 := n10_; have BK419 := n11_; have HB := n12_; clear n9_ n10_ n11_ n12_; (try clear hb); (try clear hb2); (try clear hk); (try clear hi)) | (go_at_call 15; (with_reducible refine (integer_From.calls k 256 t436 t437 _ A19.out).mono ?_); rintro e w55 ⟨v438, rfl, ho0, hb⟩; have n9_ := Aside0.mk (Kd.V_lower (Kd.V_mono (ok' := fun k_ => k_ ≠ gb408 ∧ k_ ≠ gb409 ∧ k_ ≠ gb419) ho0 (fun k_ hk_ => ⟨(Kd.freshB (g := gb408) (o := .cells #[.bool t399, .slice Ao30 t400.length co30] 25 (0, 0)) (blk_up BK408.out) k_ hk_), (Kd.freshB (g := gb409) (o := .cells #[.bool t403, .slice Ao32 t404.length co32] 25 (0, 0)) (blk_up BK409.out) k_ hk_), (Kd.freshB (g := gb419) (o := .cells #[.bool t414, .slice Ao40 t415.length co40] 25 (0, 0)) (blk_up BK419.out) k_ hk_)⟩)) (below_size (by repeat (first | (with_reducible first | exact HB.out | apply below_alloc | apply pw_below_drewN | apply below_drew1 | refine below_set ?_ GE408.out | refine below_set ?_ GE409.out | refine below_set ?_ GE419.out) | exact HB.out)))); have n13_ := Aside0.mk (below_step (by repeat (first | (with_reducible first | exact HB.out | apply below_alloc | apply pw_below_drewN | apply below_drew1 | refine below_set ?_ GE408.out | refine below_set ?_ GE409.out | refine below_set ?_ GE419.out) | exact HB.out)) hb); (try clear BK408); (try clear BK409); (try clear BK419); clear HB; have HO439 := n9_; have HB := n13_; clear n9_ n13_; (try clear hb); (try clear hb2); (try clear hk); (try clear hi); (try clear ho0); obtain ⟨Ao56, co56, eo56⟩ := Kd.V_slice HO439.out; subst eo56) | (go_at_call 42; (with_reducible refine (integer_Int_Bits.calls t436 _ _ t437 t440 _ ?side1 ?side2 A20.out).mono ?_); (case side1 => repeat (first | exact (Kd.V_reads' HO439.out).2.2 | (with_reducible refine Kd.C_alloc ?_ _) | (with_reducible refine Kd.C_drewN ?_ _) | (with_reducible refine Kd.C_drew ?_))); (case side2 => exact (Kd.V_reads' HO439.out).2.1); rintro e w57 ⟨rfl, hb⟩; have n13_ := Aside0.mk (below_step (by repeat (first | (with_reducible first | exact HB.out | apply below_alloc | apply pw_below_drewN | apply below_drew1 | refine below_set ?_ GE408.out | refine below_set ?_ GE409.out | refine below_set ?_ GE419.out) | exact HB.out)) hb); (try clear HO439); clear HB; have HB := n13_; clear n13_; (try clear hb); (try clear hb2); (try clear hk); (try clear hi)))
  go_ret
  exact ⟨by first | rfl | (simp [errW_none, errW_some] <;> rfl) | (simp [*, errW_none, errW_some] <;> rfl), by repeat (first | (with_reducible first | exact HB.out | apply below_alloc | apply pw_below_drewN | apply below_drew1 | refine below_set ?_ GE408.out | refine below_set ?_ GE409.out | refine below_set ?_ GE419.out) | exact HB.out)⟩
 ·
  rw [if_neg c7] at H
  exact absurd H (by simp)
mutual
def dowelref01_Check.j0 : Nat → ByteArray → ByteArray → Bool → Option (Int)
 | 0, _, _, _ => none
 | k + 1, x0, x3, x16 => if x16 = true then (if 1 ≤ (x3.size : Int) then (dowelref01_Check.j1 k x0 (x3.extract 1 x3.size)) else (none)) else (dowelref01_Check.j1 k x0 x3)
def dowelref01_Check.j1 : Nat → ByteArray → ByteArray → Option (Int)
 | 0, _, _ => none
 | k + 1, x0, x3 => if (x3.size : Int) = 0 then (some 14) else (dowelref01_Check.l0 k x0 x3 0)
def dowelref01_Check.l0 : Nat → ByteArray → ByteArray → Int → Option (Int)
 | 0, _, _, _ => none
 | k + 1, x0, x3, x4 => if x4 < (x3.size : Int) then (if 0 ≤ x4 then (if (bt x3 x4) < 48 then (some 14) else (if (bt x3 x4) > 57 then (some 14) else (dowelref01_Check.l0 k x0 x3 (wrap64 (x4 + 1))))) else (none)) else (if 0 < (x3.size : Int) then (if (bt x3 0) = 48 then (if (x3.size : Int) > 1 then (some 3) else (if (x0.size : Int) > 1 then (some 3) else (some 0))) else (some 0)) else (none))
end
def dowelref01_Check.f (k : Nat) (a0 : ByteArray) : Option (Int) := if (a0.size : Int) > 65536 then (some 5) else (if (a0.size : Int) > 0 then (if 0 < (a0.size : Int) then (dowelref01_Check.j0 k a0 a0 ((bt a0 0) == 45)) else (none)) else (dowelref01_Check.j0 k a0 a0 false))
theorem dowelref01_Check.mono_l : ∀ k, (∀ y0 y1 y2, LeO (dowelref01_Check.j0 k y0 y1 y2) (dowelref01_Check.j0 (k + 1) y0 y1 y2)) ∧ (∀ y0 y1, LeO (dowelref01_Check.j1 k y0 y1) (dowelref01_Check.j1 (k + 1) y0 y1)) ∧ (∀ y0 y1 y2, LeO (dowelref01_Check.l0 k y0 y1 y2) (dowelref01_Check.l0 (k + 1) y0 y1 y2))
 | 0 => ⟨fun _ _ _ r h => by simp [dowelref01_Check.j0] at h, fun _ _ r h => by simp [dowelref01_Check.j1] at h, fun _ _ _ r h => by simp [dowelref01_Check.l0] at h⟩
 | k + 1 => by
  obtain ⟨ih0, ih1, ih2⟩ := dowelref01_Check.mono_l k
  refine ⟨?_, ?_, ?_⟩
  ·
   intro y0 y1 y2
   unfold dowelref01_Check.j0
   repeat' first
   | (with_reducible exact ih0 _ _ _)
   | (with_reducible exact ih1 _ _)
   | (with_reducible exact ih2 _ _ _)
   | (with_reducible exact LeO.refl _)
   | (with_reducible exact LeO.none _)
   | (with_reducible refine LeO.ite ?_ ?_)
   | (with_reducible refine LeO.bind ?_ (fun _ => ?_))
  ·
   intro y0 y1
   unfold dowelref01_Check.j1
   repeat' first
   | (with_reducible exact ih0 _ _ _)
   | (with_reducible exact ih1 _ _)
   | (with_reducible exact ih2 _ _ _)
   | (with_reducible exact LeO.refl _)
   | (with_reducible exact LeO.none _)
   | (with_reducible refine LeO.ite ?_ ?_)
   | (with_reducible refine LeO.bind ?_ (fun _ => ?_))
  ·
   intro y0 y1 y2
   unfold dowelref01_Check.l0
   repeat' first
   | (with_reducible exact ih0 _ _ _)
   | (with_reducible exact ih1 _ _)
   | (with_reducible exact ih2 _ _ _)
   | (with_reducible exact LeO.refl _)
   | (with_reducible exact LeO.none _)
   | (with_reducible refine LeO.ite ?_ ?_)
   | (with_reducible refine LeO.bind ?_ (fun _ => ?_))
theorem dowelref01_Check.mono : ∀ a0 k, LeO (dowelref01_Check.f k a0) (dowelref01_Check.f (k + 1) a0) := by
 intro a0 k
 obtain ⟨ih0, ih1, ih2⟩ := dowelref01_Check.mono_l k
 unfold dowelref01_Check.f
 repeat' first
   | (with_reducible exact ih0 _ _ _)
   | (with_reducible exact ih1 _ _)
   | (with_reducible exact ih2 _ _ _)
   | (with_reducible exact LeO.refl _)
   | (with_reducible exact LeO.none _)
   | (with_reducible refine LeO.ite ?_ ?_)
   | (with_reducible refine LeO.bind ?_ (fun _ => ?_))
set_option maxHeartbeats 8000000 in
set_option maxRecDepth 100000 in
theorem dowelref01_Check.calls (k : Nat) (a0 : ByteArray) (r : Int) (w : World) (h : dowelref01_Check.f k a0 = some r) :
  Calls Tryd.prog 22 #[.string a0] w fun e w' => e = .returned (.int .i64 r) ∧ Drawn0 w w' := by
 have H := h
 unfold dowelref01_Check.f at H
 clear h
 by_cases c2 : (a0.size : Int) > 65536
 ·
  rw [if_pos c2] at H
  have c2b0 := decide_eq_true c2
  have c2b1 : decide (65536 < a0.size) = true := decide_eq_true (by omega)
  clear c2
  obtain rfl := Option.some.inj H
  go_enter Tryd.func22, Tryd.ntmps22
  go_wp2
  go_ret
  exact ⟨by first | rfl | (simp; done) | (simp [*]; done) | (simp <;> omega), by repeat (first | exact Drawn0.refl _ | apply Drawn0.step)⟩
 ·
  rw [if_neg c2] at H
  have c2b0 := decide_eq_false c2
  have c2b1 : decide (65536 < a0.size) = false := decide_eq_false (by omega)
  clear c2
  have HC3 := Aside0.mk H
  clear H
  go_enter Tryd.func22, Tryd.ntmps22
  go_upto_region 4 with (fail)
  go_cut [16] (fun v16 wc => ∃ (kq : Nat) (x16_2 : Bool), v16 = .bool x16_2 ∧ Aside0 (dowelref01_Check.j0 kq a0 a0 x16_2 = some r) ∧ Aside0 (kq ≤ k) ∧ Drawn0 w wc)
  case first =>
   have H := HC3.out
   clear HC3
   by_cases c4 : (a0.size : Int) > 0
   ·
    rw [if_pos c4] at H
    have c4b0 := decide_eq_true c4
    have c4b1 : decide (0 < a0.size) = true := decide_eq_true (by omega)
    clear c4
    (first | rw [c4b0] | (simp only [i64_w, i32_w]; rw [c4b0]) | skip)
    obtain ⟨c5, H⟩ := ite_some H
    have c5b0 := decide_eq_true c5
    have c5b1 : decide (0 < a0.size) = true := decide_eq_true (by omega)
    clear c5
    have H' := Aside0.mk H
    clear H
    have p6 : 0 ≤ (0 : Int) := (by omega)
    have q6 : 0 < a0.size := (by have : (0 : Int) < (a0.size : Int) := of_decide_eq_true (by assumption); omega)
    have hx6 : ∀ h : 0 < a0.size, ((a0[0]'h).toNat : Int) = bt a0 0 := bt_at a0 0
    clear p6
    have qi6 : (0 < (a0.size : Int)) = True := eq_true (of_decide_eq_true (by assumption))
    replace q6 := eq_true q6
    go_wp2
    go_meet
    case rel => exact ⟨_, (((bt a0 0) == 45)), (by first | rfl | (simp; done) | (simp [*]; done) | (simp <;> omega)), H', ⟨by first | omega | exact Nat.le_refl _⟩, by repeat (first | exact Drawn0.refl _ | apply Drawn0.step)⟩
   ·
    rw [if_neg c4] at H
    have c4b0 := decide_eq_false c4
    have c4b1 : decide (0 < a0.size) = false := decide_eq_false (by omega)
    clear c4
    (first | rw [c4b0] | (simp only [i64_w, i32_w]; rw [c4b0]) | skip)
    have H' := Aside0.mk H
    clear H
    go_wp2
    go_meet
    case rel => exact ⟨_, (false), (by first | rfl | (simp; done) | (simp [*]; done) | (simp <;> omega)), H', ⟨by first | omega | exact Nat.le_refl _⟩, by repeat (first | exact Drawn0.refl _ | apply Drawn0.step)⟩
  case rest =>
   clear HC3
   obtain ⟨kq, x16_2, rfl, HA, HJ2, ⟨mc2, rfl⟩⟩ := hcut
   cases kq with
   | zero => exact absurd HA.out (by simp [dowelref01_Check.j0])
   | succ kj2 =>
    have H := HA.out
    clear HA
    simp only [dowelref01_Check.j0] at H
    have HC7 := Aside0.mk H
    clear H
    go_upto_if 16 with (fail)
    go_cut [3] (fun v3 wc => ∃ (kq : Nat) (x3_6 : ByteArray), v3 = .string x3_6 ∧ Aside0 (dowelref01_Check.j1 kq a0 x3_6 = some r) ∧ Aside0 (kq ≤ kj2) ∧ Drawn0 w wc)
    case first =>
     have H := HC7.out
     clear HC7
     by_cases c8 : x16_2 = true
     ·
      subst c8
      have H1 : (if 1 ≤ (a0.size : Int) then (dowelref01_Check.j1 kj2 a0 (a0.extract 1 a0.size)) else (none)) = some r := by rw [if_pos rfl] at H; exact H
      clear H
      have H := H1
      clear H1
      obtain ⟨c9, H⟩ := ite_some H
      have c9b0 := eq_true c9
      have c9b1 := decide_eq_true c9
      clear c9
      have H' := Aside0.mk H
      clear H
      go_wp2
      go_meet
      case rel => exact ⟨_, (a0.extract 1 a0.size), (by first | rfl | (simp; done) | (simp [*]; done) | (simp <;> omega)), H', ⟨by have := HJ2.out; first | omega | exact Nat.le_refl _⟩, by repeat (first | exact Drawn0.refl _ | apply Drawn0.step)⟩
     ·
      replace c8 := Bool.eq_false_iff.mpr c8
      subst c8
      have H1 : (dowelref01_Check.j1 kj2 a0 a0) = some r := by rw [if_neg (show ¬ (false = true) by decide)] at H; exact H
      clear H
      have H := H1
      clear H1
      have H' := Aside0.mk H
      clear H
      go_wp2
      go_meet
      case rel => exact ⟨_, (a0), (by first | rfl | (simp; done) | (simp [*]; done) | (simp <;> omega)), H', ⟨by have := HJ2.out; first | omega | exact Nat.le_refl _⟩, by repeat (first | exact Drawn0.refl _ | apply Drawn0.step)⟩
    case rest =>
     clear HC7
     obtain ⟨kq, x3_6, rfl, HA, HJ6, ⟨mc6, rfl⟩⟩ := hcut
     cases kq with
     | zero => exact absurd HA.out (by simp [dowelref01_Check.j1])
     | succ kj6 =>
      have H := HA.out
      clear HA
      simp only [dowelref01_Check.j1] at H
      by_cases c10 : (x3_6.size : Int) = 0
      ·
       rw [if_pos c10] at H
       have c10b0 : ((x3_6.size : Int) == 0) = true := beq_iff_eq.mpr c10
       have c10b1 : ((x3_6.size : Int) != 0) = false := bne_eq_false_iff_eq.mpr c10
       clear c10
       obtain rfl := Option.some.inj H
       go_wp2
       go_ret
       exact ⟨by first | rfl | (simp; done) | (simp [*]; done) | (simp <;> omega), by repeat (first | exact Drawn0.refl _ | apply Drawn0.step)⟩
      ·
       rw [if_neg c10] at H
       have c10b0 : ((x3_6.size : Int) == 0) = false := beq_eq_false_iff_ne.mpr c10
       have c10b1 : ((x3_6.size : Int) != 0) = true := bne_iff_ne.mpr c10
       have H' := Aside0.mk H
       clear H
       go_wp2
       go_loopg [4] kj6 (fun kq v4 w' => ∃ (x4_3 : Int), v4 = .int .i64 x4_3 ∧ Aside0 (dowelref01_Check.l0 kq a0 x3_6 x4_3 = some r) ∧ Aside0 (kq ≤ kj6) ∧ Drawn0 w w')
       case atStart => exact ⟨(0), (by first | rfl | (simp; done) | (simp [*]; done) | (simp <;> omega)), H', ⟨Nat.le_refl _⟩, by repeat (first | exact Drawn0.refl _ | apply Drawn0.step)⟩
       case round =>
        clear H'
        obtain ⟨x4_3, rfl, HA, HK3, ⟨m3, rfl⟩⟩ := hrel
        cases gk with
        | zero => exact absurd HA.out (by simp [dowelref01_Check.l0])
        | succ k3 =>
         have H := HA.out
         clear HA
         simp only [dowelref01_Check.l0] at H
         by_cases c11 : x4_3 < (x3_6.size : Int)
         ·
          rw [if_pos c11] at H
          have c11b0 := decide_eq_true c11
          clear c11
          obtain ⟨c12, H⟩ := ite_some H
          have c12b0 := decide_eq_true c12
          clear c12
          by_cases c14 : (bt x3_6 x4_3) < 48
          ·
           rw [if_pos c14] at H
           have c14b0 := decide_eq_true c14
           clear c14
           obtain rfl := Option.some.inj H
           have p13 : 0 ≤ (x4_3 : Int) := of_decide_eq_true (by assumption)
           have q13 : x4_3 < (x3_6.size : Int) := of_decide_eq_true (by assumption)
           have hx13 := bt_at x3_6 x4_3
           replace p13 := eq_true p13
           replace q13 := eq_true q13
           go_wp2
           go_ret
           exact ⟨by first | rfl | (simp; done) | (simp [*]; done) | (simp <;> omega), by repeat (first | exact Drawn0.refl _ | apply Drawn0.step)⟩
          ·
           rw [if_neg c14] at H
           have c14b0 := decide_eq_false c14
           clear c14
           by_cases c16 : (bt x3_6 x4_3) > 57
           ·
            rw [if_pos c16] at H
            have c16b0 := decide_eq_true c16
            clear c16
            obtain rfl := Option.some.inj H
            have p13 : 0 ≤ (x4_3 : Int) := of_decide_eq_true (by assumption)
            have q13 : x4_3 < (x3_6.size : Int) := of_decide_eq_true (by assumption)
            have hx13 := bt_at x3_6 x4_3
            replace p13 := eq_true p13
            replace q13 := eq_true q13
            have p15 : 0 ≤ (x4_3 : Int) := of_decide_eq_true (by assumption)
            have q15 : x4_3 < (x3_6.size : Int) := of_decide_eq_true (by assumption)
            have hx15 := bt_at x3_6 x4_3
            replace p15 := eq_true p15
            replace q15 := eq_true q15
            go_wp2
            go_ret
            exact ⟨by first | rfl | (simp; done) | (simp [*]; done) | (simp <;> omega), by repeat (first | exact Drawn0.refl _ | apply Drawn0.step)⟩
           ·
            rw [if_neg c16] at H
            have c16b0 := decide_eq_false c16
            clear c16
            have H' := Aside0.mk H
            clear H
            have p13 : 0 ≤ (x4_3 : Int) := of_decide_eq_true (by assumption)
            have q13 : x4_3 < (x3_6.size : Int) := of_decide_eq_true (by assumption)
            have hx13 := bt_at x3_6 x4_3
            replace p13 := eq_true p13
            replace q13 := eq_true q13
            have p15 : 0 ≤ (x4_3 : Int) := of_decide_eq_true (by assumption)
            have q15 : x4_3 < (x3_6.size : Int) := of_decide_eq_true (by assumption)
            have hx15 := bt_at x3_6 x4_3
            replace p15 := eq_true p15
            replace q15 := eq_true q15
            go_wp2
            go_roundg k3
            case measure => have := HJ2.out; have := HJ6.out; have := HK3.out; omega
            case rel => exact ⟨(wrap64 (x4_3 + 1)), (by first | rfl | (simp; done) | (simp [*]; done) | (simp <;> omega)), H', ⟨by have := HJ2.out; have := HJ6.out; have := HK3.out; omega⟩, by repeat (first | exact Drawn0.refl _ | apply Drawn0.step)⟩
         ·
          rw [if_neg c11] at H
          have c11b0 := decide_eq_false c11
          clear c11
          by_cases c17 : 0 < (x3_6.size : Int)
          ·
           rw [if_pos c17] at H
           have c17b0 := decide_eq_true c17
           have c17b1 : decide (0 < x3_6.size) = true := decide_eq_true (by omega)
           clear c17
           by_cases c19 : (bt x3_6 0) = 48
           ·
            rw [if_pos c19] at H
            have c19b0 : ((bt x3_6 0) == 48) = true := beq_iff_eq.mpr c19
            have c19b1 : ((bt x3_6 0) != 48) = false := bne_eq_false_iff_eq.mpr c19
            clear c19
            by_cases c20 : (x3_6.size : Int) > 1
            ·
             rw [if_pos c20] at H
             have c20b0 := decide_eq_true c20
             have c20b1 : decide (1 < x3_6.size) = true := decide_eq_true (by omega)
             clear c20
             obtain rfl := Option.some.inj H
             have p18 : 0 ≤ (0 : Int) := (by omega)
             have q18 : 0 < x3_6.size := (by have : (0 : Int) < (x3_6.size : Int) := of_decide_eq_true (by assumption); omega)
             have hx18 : ∀ h : 0 < x3_6.size, ((x3_6[0]'h).toNat : Int) = bt x3_6 0 := bt_at x3_6 0
             clear p18
             have qi18 : (0 < (x3_6.size : Int)) = True := eq_true (of_decide_eq_true (by assumption))
             replace q18 := eq_true q18
             go_wp2
             go_ret
             exact ⟨by first | rfl | (simp; done) | (simp [*]; done) | (simp <;> omega), by repeat (first | exact Drawn0.refl _ | apply Drawn0.step)⟩
            ·
             rw [if_neg c20] at H
             have c20b0 := decide_eq_false c20
             have c20b1 : decide (1 < x3_6.size) = false := decide_eq_false (by omega)
             clear c20
             by_cases c21 : (a0.size : Int) > 1
             ·
              rw [if_pos c21] at H
              have c21b0 := decide_eq_true c21
              have c21b1 : decide (1 < a0.size) = true := decide_eq_true (by omega)
              clear c21
              obtain rfl := Option.some.inj H
              have p18 : 0 ≤ (0 : Int) := (by omega)
              have q18 : 0 < x3_6.size := (by have : (0 : Int) < (x3_6.size : Int) := of_decide_eq_true (by assumption); omega)
              have hx18 : ∀ h : 0 < x3_6.size, ((x3_6[0]'h).toNat : Int) = bt x3_6 0 := bt_at x3_6 0
              clear p18
              have qi18 : (0 < (x3_6.size : Int)) = True := eq_true (of_decide_eq_true (by assumption))
              replace q18 := eq_true q18
              go_wp2
              go_ret
              exact ⟨by first | rfl | (simp; done) | (simp [*]; done) | (simp <;> omega), by repeat (first | exact Drawn0.refl _ | apply Drawn0.step)⟩
             ·
              rw [if_neg c21] at H
              have c21b0 := decide_eq_false c21
              have c21b1 : decide (1 < a0.size) = false := decide_eq_false (by omega)
              clear c21
              obtain rfl := Option.some.inj H
              have p18 : 0 ≤ (0 : Int) := (by omega)
              have q18 : 0 < x3_6.size := (by have : (0 : Int) < (x3_6.size : Int) := of_decide_eq_true (by assumption); omega)
              have hx18 : ∀ h : 0 < x3_6.size, ((x3_6[0]'h).toNat : Int) = bt x3_6 0 := bt_at x3_6 0
              clear p18
              have qi18 : (0 < (x3_6.size : Int)) = True := eq_true (of_decide_eq_true (by assumption))
              replace q18 := eq_true q18
              go_wp2
              go_ret
              exact ⟨by first | rfl | (simp; done) | (simp [*]; done) | (simp <;> omega), by repeat (first | exact Drawn0.refl _ | apply Drawn0.step)⟩
           ·
            rw [if_neg c19] at H
            have c19b0 : ((bt x3_6 0) == 48) = false := beq_eq_false_iff_ne.mpr c19
            have c19b1 : ((bt x3_6 0) != 48) = true := bne_iff_ne.mpr c19
            obtain rfl := Option.some.inj H
            have p18 : 0 ≤ (0 : Int) := (by omega)
            have q18 : 0 < x3_6.size := (by have : (0 : Int) < (x3_6.size : Int) := of_decide_eq_true (by assumption); omega)
            have hx18 : ∀ h : 0 < x3_6.size, ((x3_6[0]'h).toNat : Int) = bt x3_6 0 := bt_at x3_6 0
            clear p18
            have qi18 : (0 < (x3_6.size : Int)) = True := eq_true (of_decide_eq_true (by assumption))
            replace q18 := eq_true q18
            go_wp2
            go_ret
            exact ⟨by first | rfl | (simp; done) | (simp [*]; done) | (simp <;> omega), by repeat (first | exact Drawn0.refl _ | apply Drawn0.step)⟩
          ·
           rw [if_neg c17] at H
           exact absurd H (by simp)
def dowellaw01_right.f (k : Nat) (a0 : ByteArray) : Option (Bool) := if (a0.size : Int) ≤ 120 then ((dowelref01_Check.f k a0).bind fun t549 => (some (t549 == 0))) else (some false)
theorem dowellaw01_right.mono : ∀ a0 k, LeO (dowellaw01_right.f k a0) (dowellaw01_right.f (k + 1) a0) := by
 intro a0 k
 unfold dowellaw01_right.f
 repeat' first
   | (with_reducible exact dowelref01_Check.mono _ _)
   | (with_reducible exact LeO.refl _)
   | (with_reducible exact LeO.none _)
   | (with_reducible refine LeO.ite ?_ ?_)
   | (with_reducible refine LeO.bind ?_ (fun _ => ?_))
set_option maxHeartbeats 8000000 in
set_option maxRecDepth 100000 in
theorem dowellaw01_right.calls (k : Nat) (a0 : ByteArray) (r : Bool) (w : World) (h : dowellaw01_right.f k a0 = some r) :
  Calls Tryd.prog 23 #[.string a0] w fun e w' => e = .returned (.bool r) ∧ Drawn0 w w' := by
 have H := h
 unfold dowellaw01_right.f at H
 clear h
 by_cases c2 : (a0.size : Int) ≤ 120
 ·
  rw [if_pos c2] at H
  have c2b0 := decide_eq_true c2
  have c2b1 : decide (a0.size ≤ 120) = true := decide_eq_true (by omega)
  clear c2
  replace H := Option.bind_eq_some_iff.mp H
  obtain ⟨t549, A30, H⟩ := H
  try dsimp only at H
  have A3 := Aside0.mk A30
  clear A30
  obtain rfl := Option.some.inj H
  go_enter Tryd.func23, Tryd.ntmps23
  go_wp2_with (first | (go_at_call 22; (with_reducible refine (dowelref01_Check.calls k a0 t549 _ A3.out).mono ?_); rintro e w' ⟨rfl, ⟨nd, rfl⟩⟩))
  go_ret
  exact ⟨by first | rfl | (simp; done) | (simp [*]; done) | (simp <;> omega), by repeat (first | exact Drawn0.refl _ | apply Drawn0.step)⟩
 ·
  rw [if_neg c2] at H
  have c2b0 := decide_eq_false c2
  have c2b1 : decide (a0.size ≤ 120) = false := decide_eq_false (by omega)
  clear c2
  obtain rfl := Option.some.inj H
  go_enter Tryd.func23, Tryd.ntmps23
  go_wp2
  go_ret
  exact ⟨by first | rfl | (simp; done) | (simp [*]; done) | (simp <;> omega), by repeat (first | exact Drawn0.refl _ | apply Drawn0.step)⟩
def stringslite_HasPrefix.f (a0 : ByteArray) (a1 : ByteArray) : Option (Bool) := if (a0.size : Int) ≥ (a1.size : Int) then (if 0 ≤ (a1.size : Int) then (if (a1.size : Int) ≤ (a0.size : Int) then (some ((a0.extract 0 ((a1.size : Int) : Int).toNat).toList == a1.toList)) else (none)) else (none)) else (some false)
set_option maxHeartbeats 8000000 in
set_option maxRecDepth 100000 in
theorem stringslite_HasPrefix.calls (a0 : ByteArray) (a1 : ByteArray) (r : Bool) (w : World) (h : stringslite_HasPrefix.f a0 a1 = some r) :
  Calls Tryd.prog 86 #[.string a0, .string a1] w fun e w' => e = .returned (.bool r) ∧ Drawn0 w w' := by
 have H := h
 unfold stringslite_HasPrefix.f at H
 clear h
 by_cases c3 : (a0.size : Int) ≥ (a1.size : Int)
 ·
  rw [if_pos c3] at H
  have c3b0 := decide_eq_true c3
  have c3b1 : decide (a1.size ≤ a0.size) = true := decide_eq_true (Int.ofNat_le.mp c3)
  clear c3
  obtain ⟨c4, H⟩ := ite_some H
  have c4b0 := eq_true c4
  have c4b1 := decide_eq_true c4
  clear c4
  obtain ⟨c5, H⟩ := ite_some H
  have c5b0 := eq_true c5
  have c5b1 := decide_eq_true c5
  clear c5
  obtain rfl := Option.some.inj H
  go_enter Tryd.func86, Tryd.ntmps86
  go_wp2
  go_ret
  exact ⟨by first | rfl | (simp; done) | (simp [*]; done) | (simp <;> omega), by repeat (first | exact Drawn0.refl _ | apply Drawn0.step)⟩
 ·
  rw [if_neg c3] at H
  have c3b0 := decide_eq_false c3
  have c3b1 : decide (a1.size ≤ a0.size) = false := decide_eq_false (fun h => c3 (Int.ofNat_le.mpr h))
  clear c3
  obtain rfl := Option.some.inj H
  go_enter Tryd.func86, Tryd.ntmps86
  go_wp2
  go_ret
  exact ⟨by first | rfl | (simp; done) | (simp [*]; done) | (simp <;> omega), by repeat (first | exact Drawn0.refl _ | apply Drawn0.step)⟩
def stringslite_CutPrefix.f (a0 : ByteArray) (a1 : ByteArray) : Option (ByteArray × Bool) := (stringslite_HasPrefix.f a0 a1).bind fun t489 => (if t489 = true then (if 0 ≤ (a1.size : Int) then (if (a1.size : Int) ≤ (a0.size : Int) then (some (a0.extract ((a1.size : Int) : Int).toNat a0.size, true)) else (none)) else (none)) else (some (a0, false)))
set_option maxHeartbeats 8000000 in
set_option maxRecDepth 100000 in
theorem stringslite_CutPrefix.calls (a0 : ByteArray) (a1 : ByteArray) (r1 : ByteArray) (r2 : Bool) (w : World) (h : stringslite_CutPrefix.f a0 a1 = some (r1, r2)) :
  Calls Tryd.prog 75 #[.string a0, .string a1] w fun e w' => e = .returned (.tuple #[.string r1, .bool r2]) ∧ Drawn0 w w' := by
 have H := h
 unfold stringslite_CutPrefix.f at H
 clear h
 replace H := Option.bind_eq_some_iff.mp H
 obtain ⟨t489, A30, H⟩ := H
 try dsimp only at H
 have A3 := Aside0.mk A30
 clear A30
 by_cases c4 : t489 = true
 ·
  subst c4
  have H1 : (if 0 ≤ (a1.size : Int) then (if (a1.size : Int) ≤ (a0.size : Int) then (some (a0.extract ((a1.size : Int) : Int).toNat a0.size, true)) else (none)) else (none)) = some (r1, r2) := by rw [if_pos rfl] at H; exact H
  clear H
  have H := H1
  clear H1
  obtain ⟨c5, H⟩ := ite_some H
  have c5b0 := eq_true c5
  have c5b1 := decide_eq_true c5
  clear c5
  obtain ⟨c6, H⟩ := ite_some H
  have c6b0 := eq_true c6
  have c6b1 := decide_eq_true c6
  clear c6
  simp only [Option.some.injEq, Prod.mk.injEq] at H
  obtain ⟨rfl, rfl⟩ := H
  go_enter Tryd.func75, Tryd.ntmps75
  go_wp2_with (first | ((with_reducible refine gate_callee (f := 86) rfl ?_); refine gl_ (some 8) Tryd.func86 #[.string a0, .string a1] ?_; (with_reducible refine (stringslite_HasPrefix.calls a0 a1 true _ A3.out).mono ?_); rintro e w' ⟨rfl, ⟨nd, rfl⟩⟩; refine ⟨_, rfl, ?_⟩))
  go_ret2
  exact ⟨by first | rfl | (simp; done) | (simp [*]; done) | (simp <;> omega), by repeat (first | exact Drawn0.refl _ | apply Drawn0.step)⟩
 ·
  replace c4 := Bool.eq_false_iff.mpr c4
  subst c4
  have H1 : (some (a0, false)) = some (r1, r2) := by rw [if_neg (show ¬ (false = true) by decide)] at H; exact H
  clear H
  have H := H1
  clear H1
  simp only [Option.some.injEq, Prod.mk.injEq] at H
  obtain ⟨rfl, rfl⟩ := H
  go_enter Tryd.func75, Tryd.ntmps75
  go_wp2_with (first | ((with_reducible refine gate_callee (f := 86) rfl ?_); refine gl_ (some 8) Tryd.func86 #[.string a0, .string a1] ?_; (with_reducible refine (stringslite_HasPrefix.calls a0 a1 false _ A3.out).mono ?_); rintro e w' ⟨rfl, ⟨nd, rfl⟩⟩; refine ⟨_, rfl, ?_⟩))
  go_ret2
  exact ⟨by first | rfl | (simp; done) | (simp [*]; done) | (simp <;> omega), by repeat (first | exact Drawn0.refl _ | apply Drawn0.step)⟩
def strings_CutPrefix.f (a0 : ByteArray) (a1 : ByteArray) : Option (ByteArray × Bool) := (stringslite_CutPrefix.f a0 a1).bind fun bt490 => (some (bt490.1, bt490.2))
set_option maxHeartbeats 8000000 in
set_option maxRecDepth 100000 in
theorem strings_CutPrefix.calls (a0 : ByteArray) (a1 : ByteArray) (r1 : ByteArray) (r2 : Bool) (w : World) (h : strings_CutPrefix.f a0 a1 = some (r1, r2)) :
  Calls Tryd.prog 53 #[.string a0, .string a1] w fun e w' => e = .returned (.tuple #[.string r1, .bool r2]) ∧ Drawn0 w w' := by
 have H := h
 unfold strings_CutPrefix.f at H
 clear h
 replace H := Option.bind_eq_some_iff.mp H
 obtain ⟨⟨t490, t491⟩, A30, H⟩ := H
 try dsimp only at H
 have A3 := Aside0.mk A30
 clear A30
 simp only [Option.some.injEq, Prod.mk.injEq] at H
 obtain ⟨rfl, rfl⟩ := H
 go_enter Tryd.func53, Tryd.ntmps53
 go_wp2_with (first | ((with_reducible refine gate_callee (f := 75) rfl ?_); refine gl_ (some 8) Tryd.func75 #[.string a0, .string a1] ?_; (with_reducible refine (stringslite_CutPrefix.calls a0 a1 t490 t491 _ A3.out).mono ?_); rintro e w' ⟨rfl, ⟨nd, rfl⟩⟩; refine ⟨_, rfl, ?_⟩))
 go_ret2
 exact ⟨by first | rfl | (simp; done) | (simp [*]; done) | (simp <;> omega), by repeat (first | exact Drawn0.refl _ | apply Drawn0.step)⟩
def integer_Parse_1.f (a0 : Int) : Option (Bool) := if a0 < 48 then (some true) else (some (decide (a0 > 57)))
set_option maxHeartbeats 8000000 in
set_option maxRecDepth 100000 in
theorem integer_Parse_1.calls (a0 : Int) (r : Bool) (w : World) (h : integer_Parse_1.f a0 = some r) :
  Calls Tryd.prog 55 #[.int .i32 a0] w fun e w' => e = .returned (.bool r) ∧ Drawn0 w w' := by
 have H := h
 unfold integer_Parse_1.f at H
 clear h
 by_cases c2 : a0 < 48
 ·
  rw [if_pos c2] at H
  have c2b0 := decide_eq_true c2
  clear c2
  obtain rfl := Option.some.inj H
  go_enter Tryd.func55, Tryd.ntmps55
  go_wp2
  go_ret
  exact ⟨by first | rfl | (simp; done) | (simp [*]; done) | (simp <;> omega), by repeat (first | exact Drawn0.refl _ | apply Drawn0.step)⟩
 ·
  rw [if_neg c2] at H
  have c2b0 := decide_eq_false c2
  clear c2
  obtain rfl := Option.some.inj H
  go_enter Tryd.func55, Tryd.ntmps55
  go_wp2
  go_ret
  exact ⟨by first | rfl | (simp; done) | (simp [*]; done) | (simp <;> omega), by repeat (first | exact Drawn0.refl _ | apply Drawn0.step)⟩
def strings_ContainsFunc_Parse1.f (a0 : ByteArray) : Option Bool := some (decide (0 ≤ Lib.idxFunc (fun x => decide (x < 48) || decide (57 < x)) true a0))
theorem strings_ContainsFunc_Parse1.pays (w : World) : PredAt Tryd.prog 55 #[] encR (fun x => decide (x < 48) || decide (57 < x)) w := fun W x _ => by
 refine (integer_Parse_1.calls (x : Int) (decide (x < 48) || decide (57 < x)) W ?_).mono ?_
 ·
  unfold integer_Parse_1.f
  by_cases h1 : x < 48
  ·
   rw [if_pos (by omega)]; simp [h1]
  ·
   rw [if_neg (by omega)]; simp [h1]
   omega
 ·
  rintro e w' ⟨rfl, hd⟩
  exact ⟨rfl, hd.out⟩
theorem strings_ContainsFunc_Parse1.calls (a0 : ByteArray) (r : Bool) (w : World) (h : strings_ContainsFunc_Parse1.f a0 = some r) :
  Calls Tryd.prog 54 #[.string a0, .func (.func 55) #[] #[]] w fun e w' => e = .returned (.bool r) ∧ Below w.heap.size w w' := by
 unfold strings_ContainsFunc_Parse1.f at h
 simp only [Option.some.injEq] at h
 subst h
 exact Tryd.strings_ContainsFunc 55 #[] (enters_of Tryd.func55 (by kernel_rfl) rfl) _ a0 w (strings_ContainsFunc_Parse1.pays w)
def strconv_ParseUint_56.f (a0 : ByteArray) (a1 a2 : Int) : Option (Int × Option Int) :=
 if a1 = 10 ∧ a2 = 32 ∧ a0.size ≤ 9223372036854775806 then (match Lib.parseUintB 32 a0.data.toList with | .ok u => some ((u : Int), none) | _ => none) else none
theorem strconv_ParseUint_56.calls (a0 : ByteArray) (a1 a2 : Int) (r1 : Int) (r2 : Option Int) (w : World) (h : strconv_ParseUint_56.f a0 a1 a2 = some (r1, r2)) :
  Calls Tryd.prog 56 #[.string a0, .int .i64 a1, .int .i64 a2] w fun e w' => e = .returned (.tuple #[.int .u64 r1, errW r2]) ∧ Below w.heap.size w w' := by
 unfold strconv_ParseUint_56.f at h
 split at h
 ·
  rename_i hb
  obtain ⟨rfl, rfl, hs⟩ := hb
  split at h
  ·
   rename_i u hu
   simp only [Option.some.injEq, Prod.mk.injEq] at h
   obtain ⟨rfl, rfl⟩ := h
   refine (Tryd.strconv_ParseUint_10_at32_ok a0 hs u hu w).mono ?_
   rintro e w' ⟨rfl, rfl | rfl⟩
   ·
    exact ⟨rfl, Below.refl _ _⟩
   ·
    exact ⟨rfl, Lib.bytesWorld_below _ _ _⟩
  ·
   cases h
 ·
  cases h
end Go.Proofs.YtiikfhdmclmjmaaDoor.P
