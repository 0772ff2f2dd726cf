/- Part 4 of the proof of IntegerPowers: what the program's functions compute, told as plain functions, and what these answer. Conditions: none beside the statement's own. Gathered by the session's program merge.py out of its own and the printed texts; no declaration that the proof does not name is left in. -/
import Derived.Test.YtiikfhdmclmjmaaDoorIPow3
namespace Go.Proofs.YtiikfhdmclmjmaaDoor.P
open Go.RowKit Go.Proofs.YtiikfhdmclmjmaaDoorW.PrintWords Go.Proofs.YtiikfhdmclmjmaaDoorW.PrintLast
set_option linter.unusedVariables false
set_option linter.unusedSimpArgs false
def integer_DivMod.j0 : Nat → Bool → Bool → List Int → Bool → List Int → Bool → List Int → Option (Bool × List Int × Bool × List Int × Int)
 | 0, _, _, _, _, _, _, _ => none
 | k + 1, x42, x293000, x293001, x294000, x294001, x295000, x295001 => if x42 = true then ((integer_From.f k 1).bind fun bt311 => ((integer_Sub.f k x294000 x294001 bt311.1 bt311.2).bind fun bt315 => ((integer_Add.f k x295000 x295001 x293000 x293001).bind fun bt319 => (some (bt315.1, bt315.2, bt319.1, bt319.2, 0))))) else (some (x294000, x294001, x295000, x295001, 0))
def integer_DivMod.f (k : Nat) (a0_0 : Bool) (l0_1 : List Int) (a1_0 : Bool) (l1_1 : List Int) : Option (Bool × List Int × Bool × List Int × Int) := (integer_Int_Sign.f a1_0 l1_1).bind fun t295 => (if t295 = 0 then (some (false, ([] : List Int), false, ([] : List Int), 19)) else ((integer_divide.f k l0_1 l1_1).bind fun bt296 => ((integer_signed.f k (a0_0 != a1_0) bt296.1).bind fun bt302 => ((integer_signed.f k a0_0 bt296.2).bind fun bt306 => ((integer_Int_Sign.f bt306.1 bt306.2).bind fun t310 => (if t310 = 0 then (integer_DivMod.j0 k false a1_0 l1_1 bt302.1 bt302.2 bt306.1 bt306.2) else (integer_DivMod.j0 k (bt306.1 != a1_0) a1_0 l1_1 bt302.1 bt302.2 bt306.1 bt306.2)))))))
theorem integer_DivMod.mono_l : ∀ k, (∀ y0 y1 y2 y3 y4 y5 y6, LeO (integer_DivMod.j0 k y0 y1 y2 y3 y4 y5 y6) (integer_DivMod.j0 (k + 1) y0 y1 y2 y3 y4 y5 y6))
 | 0 => fun _ _ _ _ _ _ _ r h => by simp [integer_DivMod.j0] at h
 | k + 1 => by
  have ih0 := integer_DivMod.mono_l k
  ·
   intro y0 y1 y2 y3 y4 y5 y6
   unfold integer_DivMod.j0
   repeat' first
   | (with_reducible exact ih0 _ _ _ _ _ _ _)
   | (with_reducible exact integer_Add.mono _ _ _ _ _)
   | (with_reducible exact integer_From.mono _ _)
   | (with_reducible exact integer_Sub.mono _ _ _ _ _)
   | (with_reducible exact integer_divide.mono _ _ _)
   | (with_reducible exact integer_signed.mono _ _ _)
   | (with_reducible exact LeO.refl _)
   | (with_reducible exact LeO.none _)
   | (with_reducible refine LeO.ite ?_ ?_)
   | (with_reducible refine LeO.bind ?_ (fun _ => ?_))
   | exact ih0 _ _ _ _ _ _ _
   | exact integer_Add.mono _ _ _ _ _
   | exact integer_From.mono _ _
   | exact integer_Sub.mono _ _ _ _ _
   | exact integer_divide.mono _ _ _
   | exact integer_signed.mono _ _ _
   | exact LeO.none _
   | refine LeO.ite ?_ ?_
   | refine LeO.bind ?_ (fun _ => ?_)
theorem integer_DivMod.mono : ∀ a0 a1 a2 a3 k, LeO (integer_DivMod.f k a0 a1 a2 a3) (integer_DivMod.f (k + 1) a0 a1 a2 a3) := by
 intro a0 a1 a2 a3 k
 have ih0 := integer_DivMod.mono_l k
 unfold integer_DivMod.f
 repeat' first
   | (with_reducible exact ih0 _ _ _ _ _ _ _)
   | (with_reducible exact integer_Add.mono _ _ _ _ _)
   | (with_reducible exact integer_From.mono _ _)
   | (with_reducible exact integer_Sub.mono _ _ _ _ _)
   | (with_reducible exact integer_divide.mono _ _ _)
   | (with_reducible exact integer_signed.mono _ _ _)
   | (with_reducible exact LeO.refl _)
   | (with_reducible exact LeO.none _)
   | (with_reducible refine LeO.ite ?_ ?_)
   | (with_reducible refine LeO.bind ?_ (fun _ => ?_))
   | exact ih0 _ _ _ _ _ _ _
   | exact integer_Add.mono _ _ _ _ _
   | exact integer_From.mono _ _
   | exact integer_Sub.mono _ _ _ _ _
   | exact integer_divide.mono _ _ _
   | exact integer_signed.mono _ _ _
   | exact LeO.none _
   | refine LeO.ite ?_ ?_
   | refine LeO.bind ?_ (fun _ => ?_)
def integer_DivMod.T4 : Bool × List (List Nat × List Nat) := (true, [([], []), ([0], [0]), ([], []), ([2], [2]), ([1, 3], [1, 3]), ([], []), ([4, 5], [4, 5]), ([], []), ([7], [7]), ([], []), ([8, 9, 6], [8, 9]), ([6, 10, 0, 1, 2, 3, 4, 5, 6], [6]), ([10, 11, 0, 1, 2, 3, 4, 5, 6, 7, 8, 9, 10, 11], [10])])
def integer_DivMod.B4 : List Nat := [0, 1, 0, 4, 15, 0, 63, 0, 128, 0, 1023, 2047, 4095]
theorem integer_DivMod.tab4 : rtab .any (opsOf Tryd.f27 4) = integer_DivMod.T4 := by kernel_rfl
theorem integer_DivMod.bits4 : waitsOk integer_DivMod.T4.2 integer_DivMod.B4 = true := by kernel_rfl
def integer_DivMod.T6 : Bool × List (List Nat × List Nat) := (true, [([], []), ([], []), ([0, 1, 1], [0, 1]), ([], []), ([], []), ([3, 4, 2], [3, 4]), ([2, 5, 0, 1, 2], [2]), ([5, 6, 0, 1, 2, 3, 4, 5, 6], [5])])
def integer_DivMod.B6 : List Nat := [0, 0, 3, 0, 0, 31, 63, 127]
theorem integer_DivMod.tab6 : rtab .any (opsOf Tryd.f27 6) = integer_DivMod.T6 := by kernel_rfl
theorem integer_DivMod.bits6 : waitsOk integer_DivMod.T6.2 integer_DivMod.B6 = true := by kernel_rfl
set_option maxHeartbeats 8000000 in
set_option maxRecDepth 100000 in
theorem integer_DivMod.calls (k : Nat) (a0_0 : Bool) (P0_1_ : Nat → Prop) (A0_1 : Option Addr) (c0_1 : Nat) (l0_1 : List Int) (a1_0 : Bool) (A1_1 : Option Addr) (c1_1 : Nat) (l1_1 : List Int) (r1 : Bool) (r2 : List Int) (r3 : Bool) (r4 : List Int) (r5 : Int) (w : World) (hs0_1 : Kd.V (Kd.int .u32) 60 w w.heap.size (fun k_ => P0_1_ k_) (.slice A0_1 l0_1.length c0_1) l0_1) (hr1_1 : Kd.C (Kd.int .u32) w A1_1 l1_1.length l1_1) (hc1_1 : l1_1.length ≤ c1_1) (h : integer_DivMod.f k a0_0 l0_1 a1_0 l1_1 = some (r1, r2, r3, r4, r5)) :
  Calls Tryd.prog 27 #[.agg #[.bool a0_0, .slice A0_1 l0_1.length c0_1], .agg #[.bool a1_0, .slice A1_1 l1_1.length c1_1]] w fun e w' => ∃ v1_ v3_ : Value, e = .returned (.tuple #[.agg #[.bool r1, v1_], .agg #[.bool r3, v3_], .int .i64 r5]) ∧ Kd.V (Kd.int .u32) 60 w' w.heap.size (fun k_ => (P0_1_ k_ ∨ w.heap.size ≤ k_)) v1_ r2 ∧ Kd.V (Kd.int .u32) 60 w' w.heap.size (fun k_ => (P0_1_ k_ ∨ w.heap.size ≤ k_)) v3_ r4 ∧ Below w.heap.size w w' := by
 have hu25 := Tryd.underlying25
 have HO0_1 := Aside0.mk (show Kd.V (Kd.int .u32) 60 w w.heap.size (fun k_ => (P0_1_ k_ ∨ w.heap.size ≤ k_)) (.slice A0_1 l0_1.length c0_1) l0_1 from Kd.V_mono hs0_1 (fun k_ hk => .inl hk))
 have HR1_1 := Aside0.mk hr1_1
 have HC1_1 := Aside0.mk hc1_1
 clear hr1_1 hc1_1
 have HB := Aside0.mk (Below.refl w.heap.size w)
 have H : ((integer_Int_Sign.f a1_0 l1_1).bind fun t295 => (if t295 = 0 then (some (false, ([] : List Int), false, ([] : List Int), 19)) else ((integer_divide.f k l0_1 l1_1).bind fun bt296 => ((integer_signed.f k (a0_0 != a1_0) bt296.1).bind fun bt302 => ((integer_signed.f k a0_0 bt296.2).bind fun bt306 => ((integer_Int_Sign.f bt306.1 bt306.2).bind fun t310 => (if t310 = 0 then (integer_DivMod.j0 k false a1_0 l1_1 bt302.1 bt302.2 bt306.1 bt306.2) else (integer_DivMod.j0 k (bt306.1 != a1_0) a1_0 l1_1 bt302.1 bt302.2 bt306.1 bt306.2)))))))) = some (r1, r2, r3, r4, r5) := h
 clear h
 replace H := Option.bind_eq_some_iff.mp H
 obtain ⟨t295, A30, H⟩ := H
 replace H : (if t295 = 0 then (some (false, ([] : List Int), false, ([] : List Int), 19)) else ((integer_divide.f k l0_1 l1_1).bind fun bt296 => ((integer_signed.f k (a0_0 != a1_0) bt296.1).bind fun bt302 => ((integer_signed.f k a0_0 bt296.2).bind fun bt306 => ((integer_Int_Sign.f bt306.1 bt306.2).bind fun t310 => (if t310 = 0 then (integer_DivMod.j0 k false a1_0 l1_1 bt302.1 bt302.2 bt306.1 bt306.2) else (integer_DivMod.j0 k (bt306.1 != a1_0) a1_0 l1_1 bt302.1 bt302.2 bt306.1 bt306.2))))))) = some (r1, r2, r3, r4, r5) := H
 have A3 := Aside0.mk A30
 clear A30
 by_cases c4 : t295 = 0
 ·
  rw [if_pos c4] at H
  have c4b0 : (t295 == 0) = true := beq_iff_eq.mpr c4
  have c4b1 : (t295 != 0) = false := bne_eq_false_iff_eq.mpr c4
  clear c4
  simp only [Option.some.injEq, Prod.mk.injEq] at H
  obtain ⟨rfl, rfl, rfl, rfl, rfl⟩ := H
  go_enter Tryd.func27, Tryd.ntmps27
  go_wp2_with (first | ((with_reducible refine gate_dst (N := 2) rfl ?_); refine box_event ?hg (N := 2) ?hd (cs := #[.bool a0_0, .slice A0_1 l0_1.length c0_1]) (t := 25) ?hr ?_; (case hd => rfl); (case hg => rfl); (case hr => first | (go_simp; done) | (go_simp; rfl)); intro gb291 hg w5 hbox hb; have n0_ := Aside0.mk (Kd.V_below (Kd.V_elderB (by (with_reducible repeat (first | apply Kd.V_alloc | apply Kd.V_drewN | apply Kd.V_drew)); exact HO0_1.out) gb291 (Nat.le_of_eq hg.symm)) hb); have n1_ := Aside0.mk (below_step (by repeat (first | (with_reducible first | exact HB.out | apply below_alloc | apply pw_below_drewN | apply below_drew1) | exact HB.out)) hb); have n2_ := Aside0.mk (hbox); have n3_ := Aside0.mk ((by rw [hg]; exact (below_size (by repeat (first | (with_reducible first | exact HB.out | apply below_alloc | apply pw_below_drewN | apply below_drew1) | exact HB.out))) : w.heap.size ≤ gb291)); have n4_ := Aside0.mk ((by rw [hg]; exact (below_size (by repeat (first | (with_reducible first | exact HB.out | apply below_alloc | apply pw_below_drewN | apply below_drew1) | exact HB.out))) : w.heap.size ≤ gb291)); clear HO0_1; clear HB; have HO0_1 := n0_; have HB := n1_; have BK291 := n2_; have GW291 := n3_; have GE291 := n4_; clear n0_ n1_ n2_ n3_ n4_; clear hb hbox hg) | ((with_reducible refine gate_dst (N := 3) rfl ?_); refine box_event ?hg (N := 3) ?hd (cs := #[.bool a1_0, .slice A1_1 l1_1.length c1_1]) (t := 25) ?hr ?_; (case hd => rfl); (case hg => rfl); (case hr => first | (go_simp; done) | (go_simp; rfl)); intro gb292 hg w6 hbox hb; have n0_ := Aside0.mk (Kd.V_below (Kd.V_elderB (by (with_reducible repeat (first | apply Kd.V_alloc | apply Kd.V_drewN | apply Kd.V_drew)); exact HO0_1.out) gb292 (Nat.le_of_eq hg.symm)) hb); have n1_ := Aside0.mk (blk_below (g := gb291) (o := .cells #[.bool a0_0, .slice A0_1 l0_1.length c0_1] 25 (0, 0)) (by (with_reducible repeat (first | refine blk_drewN ?_ _ | refine blk_drew ?_ | refine blk_alloc ?_ _)); exact BK291.out) hb); have n2_ := Aside0.mk (below_step (by repeat (first | (with_reducible first | exact HB.out | apply below_alloc | apply pw_below_drewN | apply below_drew1 | refine below_set ?_ GE291.out) | exact HB.out)) hb); have n3_ := Aside0.mk (hbox); have n4_ := Aside0.mk ((by rw [hg]; exact (below_size (by repeat (first | (with_reducible first | exact HB.out | apply below_alloc | apply pw_below_drewN | apply below_drew1 | refine below_set ?_ GE291.out) | exact HB.out))) : w.heap.size ≤ gb292)); have n5_ := Aside0.mk ((by rw [hg]; exact (below_size (by repeat (first | (with_reducible first | exact HB.out | apply below_alloc | apply pw_below_drewN | apply below_drew1 | refine below_set ?_ GE291.out) | exact HB.out))) : w.heap.size ≤ gb292)); have n6_ := Aside0.mk ((by rw [hg]; exact Nat.ne_of_lt (blk_lt (g := gb291) (o := .cells #[.bool a0_0, .slice A0_1 l0_1.length c0_1] 25 (0, 0)) (by (with_reducible repeat (first | refine blk_drewN ?_ _ | refine blk_drew ?_ | refine blk_alloc ?_ _)); exact BK291.out)) : gb291 ≠ gb292)); have n7_ := Aside0.mk ((by rw [hg]; exact Nat.ne_of_gt (blk_lt (g := gb291) (o := .cells #[.bool a0_0, .slice A0_1 l0_1.length c0_1] 25 (0, 0)) (by (with_reducible repeat (first | refine blk_drewN ?_ _ | refine blk_drew ?_ | refine blk_alloc ?_ _)); exact BK291.out)) : gb292 ≠ gb291)); clear HO0_1; clear BK291; clear HB; have HO0_1 := n0_; have BK291 := n1_; have HB := n2_; have BK292 := n3_; have GW292 := n4_; have GE292 := n5_; have NB291_292 := n6_; have NB292_291 := n7_; clear n0_ n1_ n2_ n3_ n4_ n5_ n6_ n7_; clear hb hbox hg) | ((with_reducible refine gate_dst (N := 4) rfl ?_); refine box_event ?hg (N := 4) ?hd (cs := #[.bool false, .slice none 0 0]) (t := 25) ?hr ?_; (case hd => rfl); (case hg => rfl); (case hr => first | (go_simp; done) | (go_simp; rfl)); intro gb293 hg w7 hbox hb; have n0_ := Aside0.mk (Kd.V_below (Kd.V_elderB (by (with_reducible repeat (first | apply Kd.V_alloc | apply Kd.V_drewN | apply Kd.V_drew)); exact HO0_1.out) gb293 (Nat.le_of_eq hg.symm)) hb); have n1_ := Aside0.mk (blk_below (g := gb291) (o := .cells #[.bool a0_0, .slice A0_1 l0_1.length c0_1] 25 (0, 0)) (by (with_reducible repeat (first | refine blk_drewN ?_ _ | refine blk_drew ?_ | refine blk_alloc ?_ _)); exact BK291.out) hb); have n2_ := Aside0.mk (blk_below (g := gb292) (o := .cells #[.bool a1_0, .slice A1_1 l1_1.length c1_1] 25 (0, 0)) (by (with_reducible repeat (first | refine blk_drewN ?_ _ | refine blk_drew ?_ | refine blk_alloc ?_ _)); exact BK292.out) hb); have n3_ := Aside0.mk (below_step (by repeat (first | (with_reducible first | exact HB.out | apply below_alloc | apply pw_below_drewN | apply below_drew1 | refine below_set ?_ GE291.out | refine below_set ?_ GE292.out) | exact HB.out)) hb); have n4_ := Aside0.mk (hbox); have n5_ := Aside0.mk ((by rw [hg]; exact (below_size (by repeat (first | (with_reducible first | exact HB.out | apply below_alloc | apply pw_below_drewN | apply below_drew1 | refine below_set ?_ GE291.out | refine below_set ?_ GE292.out) | exact HB.out))) : w.heap.size ≤ gb293)); have n6_ := Aside0.mk ((by rw [hg]; exact (below_size (by repeat (first | (with_reducible first | exact HB.out | apply below_alloc | apply pw_below_drewN | apply below_drew1 | refine below_set ?_ GE291.out | refine below_set ?_ GE292.out) | exact HB.out))) : w.heap.size ≤ gb293)); have n7_ := Aside0.mk ((by rw [hg]; exact Nat.ne_of_lt (blk_lt (g := gb291) (o := .cells #[.bool a0_0, .slice A0_1 l0_1.length c0_1] 25 (0, 0)) (by (with_reducible repeat (first | refine blk_drewN ?_ _ | refine blk_drew ?_ | refine blk_alloc ?_ _)); exact BK291.out)) : gb291 ≠ gb293)); have n8_ := Aside0.mk ((by rw [hg]; exact Nat.ne_of_gt (blk_lt (g := gb291) (o := .cells #[.bool a0_0, .slice A0_1 l0_1.length c0_1] 25 (0, 0)) (by (with_reducible repeat (first | refine blk_drewN ?_ _ | refine blk_drew ?_ | refine blk_alloc ?_ _)); exact BK291.out)) : gb293 ≠ gb291)); have n9_ := Aside0.mk ((by rw [hg]; exact Nat.ne_of_lt (blk_lt (g := gb292) (o := .cells #[.bool a1_0, .slice A1_1 l1_1.length c1_1] 25 (0, 0)) (by (with_reducible repeat (first | refine blk_drewN ?_ _ | refine blk_drew ?_ | refine blk_alloc ?_ _)); exact BK292.out)) : gb292 ≠ gb293)); have n10_ := Aside0.mk ((by rw [hg]; exact Nat.ne_of_gt (blk_lt (g := gb292) (o := .cells #[.bool a1_0, .slice A1_1 l1_1.length c1_1] 25 (0, 0)) (by (with_reducible repeat (first | refine blk_drewN ?_ _ | refine blk_drew ?_ | refine blk_alloc ?_ _)); exact BK292.out)) : gb293 ≠ gb292)); clear HO0_1; clear BK291; clear BK292; clear HB; have HO0_1 := n0_; have BK291 := n1_; have BK292 := n2_; have HB := n3_; have BK293 := n4_; have GW293 := n5_; have GE293 := n6_; have NB291_293 := n7_; have NB293_291 := n8_; have NB292_293 := n9_; have NB293_292 := n10_; clear n0_ n1_ n2_ n3_ n4_ n5_ n6_ n7_ n8_ n9_ n10_; clear hb hbox hg) | ((with_reducible refine gate_dst (N := 5) rfl ?_); refine box_event ?hg (N := 5) ?hd (cs := #[.bool false, .slice none 0 0]) (t := 25) ?hr ?_; (case hd => rfl); (case hg => rfl); (case hr => first | (go_simp; done) | (go_simp; rfl)); intro gb294 hg w8 hbox hb; have n0_ := Aside0.mk (Kd.V_below (Kd.V_elderB (by (with_reducible repeat (first | apply Kd.V_alloc | apply Kd.V_drewN | apply Kd.V_drew)); exact HO0_1.out) gb294 (Nat.le_of_eq hg.symm)) hb); have n1_ := Aside0.mk (blk_below (g := gb291) (o := .cells #[.bool a0_0, .slice A0_1 l0_1.length c0_1] 25 (0, 0)) (by (with_reducible repeat (first | refine blk_drewN ?_ _ | refine blk_drew ?_ | refine blk_alloc ?_ _)); exact BK291.out) hb); have n2_ := Aside0.mk (blk_below (g := gb292) (o := .cells #[.bool a1_0, .slice A1_1 l1_1.length c1_1] 25 (0, 0)) (by (with_reducible repeat (first | refine blk_drewN ?_ _ | refine blk_drew ?_ | refine blk_alloc ?_ _)); exact BK292.out) hb); have n3_ := Aside0.mk (blk_below (g := gb293) (o := .cells #[.bool false, .slice none 0 0] 25 (0, 0)) (by (with_reducible repeat (first | refine blk_drewN ?_ _ | refine blk_drew ?_ | refine blk_alloc ?_ _)); exact BK293.out) hb); have n4_ := Aside0.mk (below_step (by repeat (first | (with_reducible first | exact HB.out | apply below_alloc | apply pw_below_drewN | apply below_drew1 | refine below_set ?_ GE291.out | refine below_set ?_ GE292.out | refine below_set ?_ GE293.out) | exact HB.out)) hb); have n5_ := Aside0.mk (hbox); have n6_ := Aside0.mk ((by rw [hg]; exact (below_size (by repeat (first | (with_reducible first | exact HB.out | apply below_alloc | apply pw_below_drewN | apply below_drew1 | refine below_set ?_ GE291.out | refine below_set ?_ GE292.out | refine below_set ?_ GE293.out) | exact HB.out))) : w.heap.size ≤ gb294)); have n7_ := Aside0.mk ((by rw [hg]; exact (below_size (by repeat (first | (with_reducible first | exact HB.out | apply below_alloc | apply pw_below_drewN | apply below_drew1 | refine below_set ?_ GE291.out | refine below_set ?_ GE292.out | refine below_set ?_ GE293.out) | exact HB.out))) : w.heap.size ≤ gb294)); have n8_ := Aside0.mk ((by rw [hg]; exact Nat.ne_of_lt (blk_lt (g := gb291) (o := .cells #[.bool a0_0, .slice A0_1 l0_1.length c0_1] 25 (0, 0)) (by (with_reducible repeat (first | refine blk_drewN ?_ _ | refine blk_drew ?_ | refine blk_alloc ?_ _)); exact BK291.out)) : gb291 ≠ gb294)); have n9_ := Aside0.mk ((by rw [hg]; exact Nat.ne_of_gt (blk_lt (g := gb291) (o := .cells #[.bool a0_0, .slice A0_1 l0_1.length c0_1] 25 (0, 0)) (by (with_reducible repeat (first | refine blk_drewN ?_ _ | refine blk_drew ?_ | refine blk_alloc ?_ _)); exact BK291.out)) : gb294 ≠ gb291)); have n10_ := Aside0.mk ((by rw [hg]; exact Nat.ne_of_lt (blk_lt (g := gb292) (o := .cells #[.bool a1_0, .slice A1_1 l1_1.length c1_1] 25 (0, 0)) (by (with_reducible repeat (first | refine blk_drewN ?_ _ | refine blk_drew ?_ | refine blk_alloc ?_ _)); exact BK292.out)) : gb292 ≠ gb294)); have n11_ := Aside0.mk ((by rw [hg]; exact Nat.ne_of_gt (blk_lt (g := gb292) (o := .cells #[.bool a1_0, .slice A1_1 l1_1.length c1_1] 25 (0, 0)) (by (with_reducible repeat (first | refine blk_drewN ?_ _ | refine blk_drew ?_ | refine blk_alloc ?_ _)); exact BK292.out)) : gb294 ≠ gb292)); have n12_ := Aside0.mk ((by rw [hg]; exact Nat.ne_of_lt (blk_lt (g := gb293) (o := .cells #[.bool false, .slice none 0 0] 25 (0, 0)) (by (with_reducible repeat (first | refine blk_drewN ?_ _ | refine blk_drew ?_ | refine blk_alloc ?_ _)); exact BK293.out)) : gb293 ≠ gb294)); have n13_ := Aside0.mk ((by rw [hg]; exact Nat.ne_of_gt (blk_lt (g := gb293) (o := .cells #[.bool false, .slice none 0 0] 25 (0, 0)) (by (with_reducible repeat (first | refine blk_drewN ?_ _ | refine blk_drew ?_ | refine blk_alloc ?_ _)); exact BK293.out)) : gb294 ≠ gb293)); clear HO0_1; clear BK291; clear BK292; clear BK293; clear HB; have HO0_1 := n0_; have BK291 := n1_; have BK292 := n2_; have BK293 := n3_; have HB := n4_; have BK294 := n5_; have GW294 := n6_; have GE294 := n7_; have NB291_294 := n8_; have NB294_291 := n9_; have NB292_294 := n10_; have NB294_292 := n11_; have NB293_294 := n12_; have NB294_293 := n13_; clear n0_ n1_ n2_ n3_ n4_ n5_ n6_ n7_ n8_ n9_ n10_ n11_ n12_ n13_; clear hb hbox hg; have hnb9 := NB292_291.out; have hnc9 := NB291_292.out; have hnb10 := NB292_293.out; have hnc10 := NB293_292.out; have hnb11 := NB292_294.out; have hnc11 := NB294_292.out; have hcz12_0 : w8.cell? ⟨gb292, 0, none⟩ = some (.bool a1_0) := (blk_cell BK292.out 0).trans rfl; have hcz12_1 : w8.cell? ⟨gb292, 1, none⟩ = some (.slice A1_1 l1_1.length c1_1) := (blk_cell BK292.out 1).trans rfl; have hfz12_0 := blk_frozen BK292.out 0; have hfz12_1 := blk_frozen BK292.out 1) | ((with_reducible refine gate_callee (f := 19) rfl ?_); refine goesL_ (some 10) rfl rfl Tryd.func19 (by kernel_rfl) rfl #[.agg #[.bool a1_0, .slice A1_1 l1_1.length c1_1]] rfl (by (try simp only [List.map_toArray, List.map_cons, List.map_nil]); first | done | rfl | (simp only [List.length_drop, List.length_take]; rfl)) ?_; (with_reducible refine (integer_Int_Sign.calls a1_0 _ _ l1_1 t295 _ ?side1 ?side2 A3.out).mono ?_); (case side1 => repeat (first | exact (Kd.C_below HR1_1.out HB.out) | (with_reducible refine Kd.C_alloc ?_ _) | (with_reducible refine Kd.C_drewN ?_ _) | (with_reducible refine Kd.C_drew ?_))); (case side2 => exact HC1_1.out); rintro e w13 ⟨rfl, hb⟩; refine ⟨_, rfl, ?_⟩; have n0_ := Aside0.mk (Kd.V_below (by (with_reducible repeat (first | apply Kd.V_alloc | apply Kd.V_drewN | apply Kd.V_drew)); exact HO0_1.out) hb); have n1_ := Aside0.mk (blk_below (g := gb291) (o := .cells #[.bool a0_0, .slice A0_1 l0_1.length c0_1] 25 (0, 0)) (by (with_reducible repeat (first | refine blk_drewN ?_ _ | refine blk_drew ?_ | refine blk_alloc ?_ _)); exact BK291.out) hb); have n2_ := Aside0.mk (blk_below (g := gb292) (o := .cells #[.bool a1_0, .slice A1_1 l1_1.length c1_1] 25 (0, 0)) (by (with_reducible repeat (first | refine blk_drewN ?_ _ | refine blk_drew ?_ | refine blk_alloc ?_ _)); exact BK292.out) hb); have n3_ := Aside0.mk (blk_below (g := gb293) (o := .cells #[.bool false, .slice none 0 0] 25 (0, 0)) (by (with_reducible repeat (first | refine blk_drewN ?_ _ | refine blk_drew ?_ | refine blk_alloc ?_ _)); exact BK293.out) hb); have n4_ := Aside0.mk (blk_below (g := gb294) (o := .cells #[.bool false, .slice none 0 0] 25 (0, 0)) (by (with_reducible repeat (first | refine blk_drewN ?_ _ | refine blk_drew ?_ | refine blk_alloc ?_ _)); exact BK294.out) hb); have n5_ := Aside0.mk (below_step (by repeat (first | (with_reducible first | exact HB.out | apply below_alloc | apply pw_below_drewN | apply below_drew1 | refine below_set ?_ GE291.out | refine below_set ?_ GE292.out | refine below_set ?_ GE293.out | refine below_set ?_ GE294.out) | exact HB.out)) hb); clear HO0_1; clear BK291; clear BK292; clear BK293; clear BK294; clear HB; have HO0_1 := n0_; have BK291 := n1_; have BK292 := n2_; have BK293 := n3_; have BK294 := n4_; have HB := n5_; clear n0_ n1_ n2_ n3_ n4_ n5_; (try clear hb); (try clear hb2); (try clear hk); (try clear hi); have hnb14 := NB293_291.out; have hnc14 := NB291_293.out; have hnb15 := NB293_294.out; have hnc15 := NB294_293.out; have hcz16_0 : w13.cell? ⟨gb293, 0, none⟩ = some (.bool false) := (blk_cell BK293.out 0).trans rfl; have hcz16_1 : w13.cell? ⟨gb293, 1, none⟩ = some (.slice none 0 0) := (blk_cell BK293.out 1).trans rfl; have hfz16_0 := blk_frozen BK293.out 0; have hfz16_1 := blk_frozen BK293.out 1; have hnb17 := NB294_291.out; have hnc17 := NB291_294.out; have hcz18_0 : w13.cell? ⟨gb294, 0, none⟩ = some (.bool false) := (blk_cell BK294.out 0).trans rfl; have hcz18_1 : w13.cell? ⟨gb294, 1, none⟩ = some (.slice none 0 0) := (blk_cell BK294.out 1).trans rfl; have hfz18_0 := blk_frozen BK294.out 0; have hfz18_1 := blk_frozen BK294.out 1))
  refine bodyPost_ret (results_list (rs := [.cell 4 25, .cell 5 25, .tmp 6]) rfl (by simp) (.cell gb293 25 #[.bool false, .slice none 0 0] (0, 0) _ rfl (by (with_reducible repeat (first | refine blk_drewN ?_ _ | refine blk_drew ?_ | refine blk_alloc ?_ _)); refine blk_far ?_ NB293_294.out _; (with_reducible repeat (first | refine blk_drewN ?_ _ | refine blk_drew ?_ | refine blk_alloc ?_ _)); refine blk_far ?_ NB293_294.out _; (with_reducible repeat (first | refine blk_drewN ?_ _ | refine blk_drew ?_ | refine blk_alloc ?_ _)); refine blk_put (cs := #[.bool false, .slice none 0 0]) ?_ 1 _ rfl; (with_reducible repeat (first | refine blk_drewN ?_ _ | refine blk_drew ?_ | refine blk_alloc ?_ _)); refine blk_put (cs := #[.bool false, .slice none 0 0]) ?_ 0 _ rfl; (with_reducible repeat (first | refine blk_drewN ?_ _ | refine blk_drew ?_ | refine blk_alloc ?_ _)); exact BK293.out) Tryd.underlying25 rfl (by kernel_rfl) (.cell gb294 25 #[.bool false, .slice none 0 0] (0, 0) _ rfl (by (with_reducible repeat (first | refine blk_drewN ?_ _ | refine blk_drew ?_ | refine blk_alloc ?_ _)); refine blk_put (cs := #[.bool false, .slice none 0 0]) ?_ 1 _ rfl; (with_reducible repeat (first | refine blk_drewN ?_ _ | refine blk_drew ?_ | refine blk_alloc ?_ _)); refine blk_put (cs := #[.bool false, .slice none 0 0]) ?_ 0 _ rfl; (with_reducible repeat (first | refine blk_drewN ?_ _ | refine blk_drew ?_ | refine blk_alloc ?_ _)); refine blk_far ?_ NB294_293.out _; (with_reducible repeat (first | refine blk_drewN ?_ _ | refine blk_drew ?_ | refine blk_alloc ?_ _)); refine blk_far ?_ NB294_293.out _; (with_reducible repeat (first | refine blk_drewN ?_ _ | refine blk_drew ?_ | refine blk_alloc ?_ _)); exact BK294.out) Tryd.underlying25 rfl (by kernel_rfl) (.tmp .nil)))) rfl ?_
  exact ⟨_, _, by first | rfl | (simp [errW_none, errW_some] <;> rfl) | (simp [*, errW_none, errW_some] <;> rfl), by first | exact Kd.R_nil _ _ _ _ _ | exact Kd.N_nil _ _ _ _ _ | exact Kd.V_nil _ _ _ _ _ | exact Kd.Q_nil _ _ _ _ _ | exact Kd.S_nil _ _ _ _ _, by first | exact Kd.R_nil _ _ _ _ _ | exact Kd.N_nil _ _ _ _ _ | exact Kd.V_nil _ _ _ _ _ | exact Kd.Q_nil _ _ _ _ _ | exact Kd.S_nil _ _ _ _ _, by repeat (first | (with_reducible first | exact HB.out | apply below_alloc | apply pw_below_drewN | apply below_drew1 | refine below_set ?_ GE291.out | refine below_set ?_ GE292.out | refine below_set ?_ GE293.out | refine below_set ?_ GE294.out) | exact HB.out)⟩
 ·
  rw [if_neg c4] at H
  have c4b0 : (t295 == 0) = false := beq_eq_false_iff_ne.mpr c4
  have c4b1 : (t295 != 0) = true := bne_iff_ne.mpr c4
  replace H := Option.bind_eq_some_iff.mp H
  obtain ⟨⟨t296, t299⟩, A190, H⟩ := H
  replace H : ((integer_signed.f k (a0_0 != a1_0) t296).bind fun bt302 => ((integer_signed.f k a0_0 t299).bind fun bt306 => ((integer_Int_Sign.f bt306.1 bt306.2).bind fun t310 => (if t310 = 0 then (integer_DivMod.j0 k false a1_0 l1_1 bt302.1 bt302.2 bt306.1 bt306.2) else (integer_DivMod.j0 k (bt306.1 != a1_0) a1_0 l1_1 bt302.1 bt302.2 bt306.1 bt306.2))))) = some (r1, r2, r3, r4, r5) := H
  have A19 := Aside0.mk A190
  clear A190
  replace H := Option.bind_eq_some_iff.mp H
  obtain ⟨⟨t302, t303⟩, A200, H⟩ := H
  replace H : ((integer_signed.f k a0_0 t299).bind fun bt306 => ((integer_Int_Sign.f bt306.1 bt306.2).bind fun t310 => (if t310 = 0 then (integer_DivMod.j0 k false a1_0 l1_1 t302 t303 bt306.1 bt306.2) else (integer_DivMod.j0 k (bt306.1 != a1_0) a1_0 l1_1 t302 t303 bt306.1 bt306.2)))) = some (r1, r2, r3, r4, r5) := H
  have A20 := Aside0.mk A200
  clear A200
  replace H := Option.bind_eq_some_iff.mp H
  obtain ⟨⟨t306, t307⟩, A210, H⟩ := H
  replace H : ((integer_Int_Sign.f t306 t307).bind fun t310 => (if t310 = 0 then (integer_DivMod.j0 k false a1_0 l1_1 t302 t303 t306 t307) else (integer_DivMod.j0 k (t306 != a1_0) a1_0 l1_1 t302 t303 t306 t307))) = some (r1, r2, r3, r4, r5) := H
  have A21 := Aside0.mk A210
  clear A210
  have HC22 := Aside0.mk H
  clear H
  go_enter Tryd.func27, Tryd.ntmps27
  try go_wp2_with (first | ((with_reducible refine gate_dst (N := 2) rfl ?_); refine box_event ?hg (N := 2) ?hd (cs := #[.bool a0_0, .slice A0_1 l0_1.length c0_1]) (t := 25) ?hr ?_; (case hd => rfl); (case hg => rfl); (case hr => first | (go_simp; done) | (go_simp; rfl)); intro gb291 hg w23 hbox hb; have n0_ := Aside0.mk (Kd.V_below (Kd.V_elderB (by (with_reducible repeat (first | apply Kd.V_alloc | apply Kd.V_drewN | apply Kd.V_drew)); exact HO0_1.out) gb291 (Nat.le_of_eq hg.symm)) hb); have n1_ := Aside0.mk (below_step (by repeat (first | (with_reducible first | exact HB.out | apply below_alloc | apply pw_below_drewN | apply below_drew1) | exact HB.out)) hb); have n2_ := Aside0.mk (hbox); have n3_ := Aside0.mk ((by rw [hg]; exact (below_size (by repeat (first | (with_reducible first | exact HB.out | apply below_alloc | apply pw_below_drewN | apply below_drew1) | exact HB.out))) : w.heap.size ≤ gb291)); have n4_ := Aside0.mk ((by rw [hg]; exact (below_size (by repeat (first | (with_reducible first | exact HB.out | apply below_alloc | apply pw_below_drewN | apply below_drew1) | exact HB.out))) : w.heap.size ≤ gb291)); clear HO0_1; clear HB; have HO0_1 := n0_; have HB := n1_; have BK291 := n2_; have GW291 := n3_; have GE291 := n4_; clear n0_ n1_ n2_ n3_ n4_; clear hb hbox hg) | ((with_reducible refine gate_dst (N := 3) rfl ?_); refine box_event ?hg (N := 3) ?hd (cs := #[.bool a1_0, .slice A1_1 l1_1.length c1_1]) (t := 25) ?hr ?_; (case hd => rfl); (case hg => rfl); (case hr => first | (go_simp; done) | (go_simp; rfl)); intro gb292 hg w24 hbox hb; have n0_ := Aside0.mk (Kd.V_below (Kd.V_elderB (by (with_reducible repeat (first | apply Kd.V_alloc | apply Kd.V_drewN | apply Kd.V_drew)); exact HO0_1.out) gb292 (Nat.le_of_eq hg.symm)) hb); have n1_ := Aside0.mk (blk_below (g := gb291) (o := .cells #[.bool a0_0, .slice A0_1 l0_1.length c0_1] 25 (0, 0)) (by (with_reducible repeat (first | refine blk_drewN ?_ _ | refine blk_drew ?_ | refine blk_alloc ?_ _)); exact BK291.out) hb); have n2_ := Aside0.mk (below_step (by repeat (first | (with_reducible first | exact HB.out | apply below_alloc | apply pw_below_drewN | apply below_drew1 | refine below_set ?_ GE291.out) | exact HB.out)) hb); have n3_ := Aside0.mk (hbox); have n4_ := Aside0.mk ((by rw [hg]; exact (below_size (by repeat (first | (with_reducible first | exact HB.out | apply below_alloc | apply pw_below_drewN | apply below_drew1 | refine below_set ?_ GE291.out) | exact HB.out))) : w.heap.size ≤ gb292)); have n5_ := Aside0.mk ((by rw [hg]; exact (below_size (by repeat (first | (with_reducible first | exact HB.out | apply below_alloc | apply pw_below_drewN | apply below_drew1 | refine below_set ?_ GE291.out) | exact HB.out))) : w.heap.size ≤ gb292)); have n6_ := Aside0.mk ((by rw [hg]; exact Nat.ne_of_lt (blk_lt (g := gb291) (o := .cells #[.bool a0_0, .slice A0_1 l0_1.length c0_1] 25 (0, 0)) (by (with_reducible repeat (first | refine blk_drewN ?_ _ | refine blk_drew ?_ | refine blk_alloc ?_ _)); exact BK291.out)) : gb291 ≠ gb292)); have n7_ := Aside0.mk ((by rw [hg]; exact Nat.ne_of_gt (blk_lt (g := gb291) (o := .cells #[.bool a0_0, .slice A0_1 l0_1.length c0_1] 25 (0, 0)) (by (with_reducible repeat (first | refine blk_drewN ?_ _ | refine blk_drew ?_ | refine blk_alloc ?_ _)); exact BK291.out)) : gb292 ≠ gb291)); clear HO0_1; clear BK291; clear HB; have HO0_1 := n0_; have BK291 := n1_; have HB := n2_; have BK292 := n3_; have GW292 := n4_; have GE292 := n5_; have NB291_292 := n6_; have NB292_291 := n7_; clear n0_ n1_ n2_ n3_ n4_ n5_ n6_ n7_; clear hb hbox hg) | ((with_reducible refine gate_dst (N := 4) rfl ?_); refine box_event ?hg (N := 4) ?hd (cs := #[.bool false, .slice none 0 0]) (t := 25) ?hr ?_; (case hd => rfl); (case hg => rfl); (case hr => first | (go_simp; done) | (go_simp; rfl)); intro gb293 hg w25 hbox hb; have n0_ := Aside0.mk (Kd.V_below (Kd.V_elderB (by (with_reducible repeat (first | apply Kd.V_alloc | apply Kd.V_drewN | apply Kd.V_drew)); exact HO0_1.out) gb293 (Nat.le_of_eq hg.symm)) hb); have n1_ := Aside0.mk (blk_below (g := gb291) (o := .cells #[.bool a0_0, .slice A0_1 l0_1.length c0_1] 25 (0, 0)) (by (with_reducible repeat (first | refine blk_drewN ?_ _ | refine blk_drew ?_ | refine blk_alloc ?_ _)); exact BK291.out) hb); have n2_ := Aside0.mk (blk_below (g := gb292) (o := .cells #[.bool a1_0, .slice A1_1 l1_1.length c1_1] 25 (0, 0)) (by (with_reducible repeat (first | refine blk_drewN ?_ _ | refine blk_drew ?_ | refine blk_alloc ?_ _)); exact BK292.out) hb); have n3_ := Aside0.mk (below_step (by repeat (first | (with_reducible first | exact HB.out | apply below_alloc | apply pw_below_drewN | apply below_drew1 | refine below_set ?_ GE291.out | refine below_set ?_ GE292.out) | exact HB.out)) hb); have n4_ := Aside0.mk (hbox); have n5_ := Aside0.mk ((by rw [hg]; exact (below_size (by repeat (first | (with_reducible first | exact HB.out | apply below_alloc | apply pw_below_drewN | apply below_drew1 | refine below_set ?_ GE291.out | refine below_set ?_ GE292.out) | exact HB.out))) : w.heap.size ≤ gb293)); have n6_ := Aside0.mk ((by rw [hg]; exact (below_size (by repeat (first | (with_reducible first | exact HB.out | apply below_alloc | apply pw_below_drewN | apply below_drew1 | refine below_set ?_ GE291.out | refine below_set ?_ GE292.out) | exact HB.out))) : w.heap.size ≤ gb293)); have n7_ := Aside0.mk ((by rw [hg]; exact Nat.ne_of_lt (blk_lt (g := gb291) (o := .cells #[.bool a0_0, .slice A0_1 l0_1.length c0_1] 25 (0, 0)) (by (with_reducible repeat (first | refine blk_drewN ?_ _ | refine blk_drew ?_ | refine blk_alloc ?_ _)); exact BK291.out)) : gb291 ≠ gb293)); have n8_ := Aside0.mk ((by rw [hg]; exact Nat.ne_of_gt (blk_lt (g := gb291) (o := .cells #[.bool a0_0, .slice A0_1 l0_1.length c0_1] 25 (0, 0)) (by (with_reducible repeat (first | refine blk_drewN ?_ _ | refine blk_drew ?_ | refine blk_alloc ?_ _)); exact BK291.out)) : gb293 ≠ gb291)); have n9_ := Aside0.mk ((by rw [hg]; exact Nat.ne_of_lt (blk_lt (g := gb292) (o := .cells #[.bool a1_0, .slice A1_1 l1_1.length c1_1] 25 (0, 0)) (by (with_reducible repeat (first | refine blk_drewN ?_ _ | refine blk_drew ?_ | refine blk_alloc ?_ _)); exact BK292.out)) : gb292 ≠ gb293)); have n10_ := Aside0.mk ((by rw [hg]; exact Nat.ne_of_gt (blk_lt (g := gb292) (o := .cells #[.bool a1_0, .slice A1_1 l1_1.length c1_1] 25 (0, 0)) (by (with_reducible repeat (first | refine blk_drewN ?_ _ | refine blk_drew ?_ | refine blk_alloc ?_ _)); exact BK292.out)) : gb293 ≠ gb292)); clear HO0_1; clear BK291; clear BK292; clear HB; have HO0_1 := n0_; have BK291 := n1_; have BK292 := n2_; have HB := n3_; have BK293 := n4_; have GW293 := n5_; have GE293 := n6_; have NB291_293 := n7_; have NB293_291 := n8_; have NB292_293 := n9_; have NB293_292 := n10_; clear n0_ n1_ n2_ n3_ n4_ n5_ n6_ n7_ n8_ n9_ n10_; clear hb hbox hg) | ((with_reducible refine gate_dst (N := 5) rfl ?_); refine box_event ?hg (N := 5) ?hd (cs := #[.bool false, .slice none 0 0]) (t := 25) ?hr ?_; (case hd => rfl); (case hg => rfl); (case hr => first | (go_simp; done) | (go_simp; rfl)); intro gb294 hg w26 hbox hb; have n0_ := Aside0.mk (Kd.V_below (Kd.V_elderB (by (with_reducible repeat (first | apply Kd.V_alloc | apply Kd.V_drewN | apply Kd.V_drew)); exact HO0_1.out) gb294 (Nat.le_of_eq hg.symm)) hb); have n1_ := Aside0.mk (blk_below (g := gb291) (o := .cells #[.bool a0_0, .slice A0_1 l0_1.length c0_1] 25 (0, 0)) (by (with_reducible repeat (first | refine blk_drewN ?_ _ | refine blk_drew ?_ | refine blk_alloc ?_ _)); exact BK291.out) hb); have n2_ := Aside0.mk (blk_below (g := gb292) (o := .cells #[.bool a1_0, .slice A1_1 l1_1.length c1_1] 25 (0, 0)) (by (with_reducible repeat (first | refine blk_drewN ?_ _ | refine blk_drew ?_ | refine blk_alloc ?_ _)); exact BK292.out) hb); have n3_ := Aside0.mk (blk_below (g := gb293) (o := .cells #[.bool false, .slice none 0 0] 25 (0, 0)) (by (with_reducible repeat (first | refine blk_drewN ?_ _ | refine blk_drew ?_ | refine blk_alloc ?_ _)); exact BK293.out) hb); have n4_ := Aside0.mk (below_step (by repeat (first | (with_reducible first | exact HB.out | apply below_alloc | apply pw_below_drewN | apply below_drew1 | refine below_set ?_ GE291.out | refine below_set ?_ GE292.out | refine below_set ?_ GE293.out) | exact HB.out)) hb); have n5_ := Aside0.mk (hbox); have n6_ := Aside0.mk ((by rw [hg]; exact (below_size (by repeat (first | (with_reducible first | exact HB.out | apply below_alloc | apply pw_below_drewN | apply below_drew1 | refine below_set ?_ GE291.out | refine below_set ?_ GE292.out | refine below_set ?_ GE293.out) | exact HB.out))) : w.heap.size ≤ gb294)); have n7_ := Aside0.mk ((by rw [hg]; exact (below_size (by repeat (first | (with_reducible first | exact HB.out | apply below_alloc | apply pw_below_drewN | apply below_drew1 | refine below_set ?_ GE291.out | refine below_set ?_ GE292.out | refine below_set ?_ GE293.out) | exact HB.out))) : w.heap.size ≤ gb294)); have n8_ := Aside0.mk ((by rw [hg]; exact Nat.ne_of_lt (blk_lt (g := gb291) (o := .cells #[.bool a0_0, .slice A0_1 l0_1.length c0_1] 25 (0, 0)) (by (with_reducible repeat (first | refine blk_drewN ?_ _ | refine blk_drew ?_ | refine blk_alloc ?_ _)); exact BK291.out)) : gb291 ≠ gb294)); have n9_ := Aside0.mk ((by rw [hg]; exact Nat.ne_of_gt (blk_lt (g := gb291) (o := .cells #[.bool a0_0, .slice A0_1 l0_1.length c0_1] 25 (0, 0)) (by (with_reducible repeat (first | refine blk_drewN ?_ _ | refine blk_drew ?_ | refine blk_alloc ?_ _)); exact BK291.out)) : gb294 ≠ gb291)); have n10_ := Aside0.mk ((by rw [hg]; exact Nat.ne_of_lt (blk_lt (g := gb292) (o := .cells #[.bool a1_0, .slice A1_1 l1_1.length c1_1] 25 (0, 0)) (by (with_reducible repeat (first | refine blk_drewN ?_ _ | refine blk_drew ?_ | refine blk_alloc ?_ _)); exact BK292.out)) : gb292 ≠ gb294)); have n11_ := Aside0.mk ((by rw [hg]; exact Nat.ne_of_gt (blk_lt (g := gb292) (o := .cells #[.bool a1_0, .slice A1_1 l1_1.length c1_1] 25 (0, 0)) (by (with_reducible repeat (first | refine blk_drewN ?_ _ | refine blk_drew ?_ | refine blk_alloc ?_ _)); exact BK292.out)) : gb294 ≠ gb292)); have n12_ := Aside0.mk ((by rw [hg]; exact Nat.ne_of_lt (blk_lt (g := gb293) (o := .cells #[.bool false, .slice none 0 0] 25 (0, 0)) (by (with_reducible repeat (first | refine blk_drewN ?_ _ | refine blk_drew ?_ | refine blk_alloc ?_ _)); exact BK293.out)) : gb293 ≠ gb294)); have n13_ := Aside0.mk ((by rw [hg]; exact Nat.ne_of_gt (blk_lt (g := gb293) (o := .cells #[.bool false, .slice none 0 0] 25 (0, 0)) (by (with_reducible repeat (first | refine blk_drewN ?_ _ | refine blk_drew ?_ | refine blk_alloc ?_ _)); exact BK293.out)) : gb294 ≠ gb293)); clear HO0_1; clear BK291; clear BK292; clear BK293; clear HB; have HO0_1 := n0_; have BK291 := n1_; have BK292 := n2_; have BK293 := n3_; have HB := n4_; have BK294 := n5_; have GW294 := n6_; have GE294 := n7_; have NB291_294 := n8_; have NB294_291 := n9_; have NB292_294 := n10_; have NB294_292 := n11_; have NB293_294 := n12_; have NB294_293 := n13_; clear n0_ n1_ n2_ n3_ n4_ n5_ n6_ n7_ n8_ n9_ n10_ n11_ n12_ n13_; clear hb hbox hg; have hnb27 := NB292_291.out; have hnc27 := NB291_292.out; have hnb28 := NB292_293.out; have hnc28 := NB293_292.out; have hnb29 := NB292_294.out; have hnc29 := NB294_292.out; have hcz30_0 : w26.cell? ⟨gb292, 0, none⟩ = some (.bool a1_0) := (blk_cell BK292.out 0).trans rfl; have hcz30_1 : w26.cell? ⟨gb292, 1, none⟩ = some (.slice A1_1 l1_1.length c1_1) := (blk_cell BK292.out 1).trans rfl; have hfz30_0 := blk_frozen BK292.out 0; have hfz30_1 := blk_frozen BK292.out 1) | ((with_reducible refine gate_callee (f := 19) rfl ?_); refine goesL_ (some 10) rfl rfl Tryd.func19 (by kernel_rfl) rfl #[.agg #[.bool a1_0, .slice A1_1 l1_1.length c1_1]] rfl (by (try simp only [List.map_toArray, List.map_cons, List.map_nil]); first | done | rfl | (simp only [List.length_drop, List.length_take]; rfl)) ?_; (with_reducible refine (integer_Int_Sign.calls a1_0 _ _ l1_1 t295 _ ?side1 ?side2 A3.out).mono ?_); (case side1 => repeat (first | exact (Kd.C_below HR1_1.out HB.out) | (with_reducible refine Kd.C_alloc ?_ _) | (with_reducible refine Kd.C_drewN ?_ _) | (with_reducible refine Kd.C_drew ?_))); (case side2 => exact HC1_1.out); rintro e w31 ⟨rfl, hb⟩; refine ⟨_, rfl, ?_⟩; have n0_ := Aside0.mk (Kd.V_below (by (with_reducible repeat (first | apply Kd.V_alloc | apply Kd.V_drewN | apply Kd.V_drew)); exact HO0_1.out) hb); have n1_ := Aside0.mk (blk_below (g := gb291) (o := .cells #[.bool a0_0, .slice A0_1 l0_1.length c0_1] 25 (0, 0)) (by (with_reducible repeat (first | refine blk_drewN ?_ _ | refine blk_drew ?_ | refine blk_alloc ?_ _)); exact BK291.out) hb); have n2_ := Aside0.mk (blk_below (g := gb292) (o := .cells #[.bool a1_0, .slice A1_1 l1_1.length c1_1] 25 (0, 0)) (by (with_reducible repeat (first | refine blk_drewN ?_ _ | refine blk_drew ?_ | refine blk_alloc ?_ _)); exact BK292.out) hb); have n3_ := Aside0.mk (blk_below (g := gb293) (o := .cells #[.bool false, .slice none 0 0] 25 (0, 0)) (by (with_reducible repeat (first | refine blk_drewN ?_ _ | refine blk_drew ?_ | refine blk_alloc ?_ _)); exact BK293.out) hb); have n4_ := Aside0.mk (blk_below (g := gb294) (o := .cells #[.bool false, .slice none 0 0] 25 (0, 0)) (by (with_reducible repeat (first | refine blk_drewN ?_ _ | refine blk_drew ?_ | refine blk_alloc ?_ _)); exact BK294.out) hb); have n5_ := Aside0.mk (below_step (by repeat (first | (with_reducible first | exact HB.out | apply below_alloc | apply pw_below_drewN | apply below_drew1 | refine below_set ?_ GE291.out | refine below_set ?_ GE292.out | refine below_set ?_ GE293.out | refine below_set ?_ GE294.out) | exact HB.out)) hb); clear HO0_1; clear BK291; clear BK292; clear BK293; clear BK294; clear HB; have HO0_1 := n0_; have BK291 := n1_; have BK292 := n2_; have BK293 := n3_; have BK294 := n4_; have HB := n5_; clear n0_ n1_ n2_ n3_ n4_ n5_; (try clear hb); (try clear hb2); (try clear hk); (try clear hi); have hnb32 := NB291_293.out; have hnc32 := NB293_291.out; have hnb33 := NB291_294.out; have hnc33 := NB294_291.out; have hcz34_0 : w31.cell? ⟨gb291, 0, none⟩ = some (.bool a0_0) := (blk_cell BK291.out 0).trans rfl; have hcz34_1 : w31.cell? ⟨gb291, 1, none⟩ = some (.slice A0_1 l0_1.length c0_1) := (blk_cell BK291.out 1).trans rfl; have hfz34_0 := blk_frozen BK291.out 0; have hfz34_1 := blk_frozen BK291.out 1; have hcz35_0 : w31.cell? ⟨gb292, 0, none⟩ = some (.bool a1_0) := (blk_cell BK292.out 0).trans rfl; have hcz35_1 : w31.cell? ⟨gb292, 1, none⟩ = some (.slice A1_1 l1_1.length c1_1) := (blk_cell BK292.out 1).trans rfl; have hfz35_0 := blk_frozen BK292.out 0; have hfz35_1 := blk_frozen BK292.out 1) | ((with_reducible refine gate_callee (f := 59) rfl ?_); refine goesL_ (some 19) rfl rfl Tryd.func59 (by kernel_rfl) rfl #[.slice A0_1 l0_1.length c0_1, .slice A1_1 l1_1.length c1_1] rfl (by (try simp only [List.map_toArray, List.map_cons, List.map_nil]); first | done | rfl | (simp only [List.length_drop, List.length_take]; rfl)) ?_; (with_reducible refine (integer_divide.calls k (fun k_ => (((((P0_1_ k_ ∨ w.heap.size ≤ k_) ∧ k_ ≠ gb291) ∧ k_ ≠ gb292) ∧ k_ ≠ gb293) ∧ k_ ≠ gb294)) _ _ l0_1 _ _ l1_1 t296 t299 _ ?side1 ?side2 ?side3 A19.out).mono ?_); (case side1 => exact HO0_1.out); (case side2 => repeat (first | exact (Kd.C_below HR1_1.out HB.out) | (with_reducible refine Kd.C_alloc ?_ _) | (with_reducible refine Kd.C_drewN ?_ _) | (with_reducible refine Kd.C_drew ?_))); (case side3 => exact HC1_1.out); rintro e w36 ⟨v297, v300, rfl, ho0, ho1, hb⟩; refine ⟨_, rfl, ?_⟩; have n0_ := Aside0.mk (Kd.V_below (by (with_reducible repeat (first | apply Kd.V_alloc | apply Kd.V_drewN | apply Kd.V_drew)); exact HO0_1.out) hb); have n1_ := Aside0.mk (Kd.V_lower (Kd.V_mono (ok' := fun k_ => (P0_1_ k_ ∨ w.heap.size ≤ k_) ∧ k_ ≠ gb291 ∧ k_ ≠ gb292 ∧ k_ ≠ gb293 ∧ k_ ≠ gb294) ho0 (fun k_ hk_ => ⟨Or.elim hk_ (fun hs_ => hs_.1.1.1.1) (fun hn_ => (.inr (Nat.le_trans (below_size (by repeat (first | (with_reducible first | exact HB.out | apply below_alloc | apply pw_below_drewN | apply below_drew1 | refine below_set ?_ GE291.out | refine below_set ?_ GE292.out | refine below_set ?_ GE293.out | refine below_set ?_ GE294.out) | exact HB.out))) hn_))), Or.elim hk_ (fun hs_ => hs_.1.1.1.2) (fun hn_ => (Kd.freshB (g := gb291) (o := .cells #[.bool a0_0, .slice A0_1 l0_1.length c0_1] 25 (0, 0)) (by (with_reducible repeat (first | refine blk_drewN ?_ _ | refine blk_drew ?_ | refine blk_alloc ?_ _)); exact BK291.out) k_ hn_)), Or.elim hk_ (fun hs_ => hs_.1.1.2) (fun hn_ => (Kd.freshB (g := gb292) (o := .cells #[.bool a1_0, .slice A1_1 l1_1.length c1_1] 25 (0, 0)) (by (with_reducible repeat (first | refine blk_drewN ?_ _ | refine blk_drew ?_ | refine blk_alloc ?_ _)); exact BK292.out) k_ hn_)), Or.elim hk_ (fun hs_ => hs_.1.2) (fun hn_ => (Kd.freshB (g := gb293) (o := .cells #[.bool false, .slice none 0 0] 25 (0, 0)) (by (with_reducible repeat (first | refine blk_drewN ?_ _ | refine blk_drew ?_ | refine blk_alloc ?_ _)); exact BK293.out) k_ hn_)), Or.elim hk_ (fun hs_ => hs_.2) (fun hn_ => (Kd.freshB (g := gb294) (o := .cells #[.bool false, .slice none 0 0] 25 (0, 0)) (by (with_reducible repeat (first | refine blk_drewN ?_ _ | refine blk_drew ?_ | refine blk_alloc ?_ _)); exact BK294.out) k_ hn_))⟩)) (below_size (by repeat (first | (with_reducible first | exact HB.out | apply below_alloc | apply pw_below_drewN | apply below_drew1 | refine below_set ?_ GE291.out | refine below_set ?_ GE292.out | refine below_set ?_ GE293.out | refine below_set ?_ GE294.out) | exact HB.out)))); have n2_ := Aside0.mk (Kd.V_lower (Kd.V_mono (ok' := fun k_ => (P0_1_ k_ ∨ w.heap.size ≤ k_) ∧ k_ ≠ gb291 ∧ k_ ≠ gb292 ∧ k_ ≠ gb293 ∧ k_ ≠ gb294) ho1 (fun k_ hk_ => ⟨Or.elim hk_ (fun hs_ => hs_.1.1.1.1) (fun hn_ => (.inr (Nat.le_trans (below_size (by repeat (first | (with_reducible first | exact HB.out | apply below_alloc | apply pw_below_drewN | apply below_drew1 | refine below_set ?_ GE291.out | refine below_set ?_ GE292.out | refine below_set ?_ GE293.out | refine below_set ?_ GE294.out) | exact HB.out))) hn_))), Or.elim hk_ (fun hs_ => hs_.1.1.1.2) (fun hn_ => (Kd.freshB (g := gb291) (o := .cells #[.bool a0_0, .slice A0_1 l0_1.length c0_1] 25 (0, 0)) (by (with_reducible repeat (first | refine blk_drewN ?_ _ | refine blk_drew ?_ | refine blk_alloc ?_ _)); exact BK291.out) k_ hn_)), Or.elim hk_ (fun hs_ => hs_.1.1.2) (fun hn_ => (Kd.freshB (g := gb292) (o := .cells #[.bool a1_0, .slice A1_1 l1_1.length c1_1] 25 (0, 0)) (by (with_reducible repeat (first | refine blk_drewN ?_ _ | refine blk_drew ?_ | refine blk_alloc ?_ _)); exact BK292.out) k_ hn_)), Or.elim hk_ (fun hs_ => hs_.1.2) (fun hn_ => (Kd.freshB (g := gb293) (o := .cells #[.bool false, .slice none 0 0] 25 (0, 0)) (by (with_reducible repeat (first | refine blk_drewN ?_ _ | refine blk_drew ?_ | refine blk_alloc ?_ _)); exact BK293.out) k_ hn_)), Or.elim hk_ (fun hs_ => hs_.2) (fun hn_ => (Kd.freshB (g := gb294) (o := .cells #[.bool false, .slice none 0 0] 25 (0, 0)) (by (with_reducible repeat (first | refine blk_drewN ?_ _ | refine blk_drew ?_ | refine blk_alloc ?_ _)); exact BK294.out) k_ hn_))⟩)) (below_size (by repeat (first | (with_reducible first | exact HB.out | apply below_alloc | apply pw_below_drewN | apply below_drew1 | refine below_set ?_ GE291.out | refine below_set ?_ GE292.out | refine below_set ?_ GE293.out | refine below_set ?_ GE294.out) | exact HB.out)))); have n3_ := Aside0.mk (blk_below (g := gb291) (o := .cells #[.bool a0_0, .slice A0_1 l0_1.length c0_1] 25 (0, 0)) (by (with_reducible repeat (first | refine blk_drewN ?_ _ | refine blk_drew ?_ | refine blk_alloc ?_ _)); exact BK291.out) hb); have n4_ := Aside0.mk (blk_below (g := gb292) (o := .cells #[.bool a1_0, .slice A1_1 l1_1.length c1_1] 25 (0, 0)) (by (with_reducible repeat (first | refine blk_drewN ?_ _ | refine blk_drew ?_ | refine blk_alloc ?_ _)); exact BK292.out) hb); have n5_ := Aside0.mk (blk_below (g := gb293) (o := .cells #[.bool false, .slice none 0 0] 25 (0, 0)) (by (with_reducible repeat (first | refine blk_drewN ?_ _ | refine blk_drew ?_ | refine blk_alloc ?_ _)); exact BK293.out) hb); have n6_ := Aside0.mk (blk_below (g := gb294) (o := .cells #[.bool false, .slice none 0 0] 25 (0, 0)) (by (with_reducible repeat (first | refine blk_drewN ?_ _ | refine blk_drew ?_ | refine blk_alloc ?_ _)); exact BK294.out) hb); have n7_ := Aside0.mk (below_step (by repeat (first | (with_reducible first | exact HB.out | apply below_alloc | apply pw_below_drewN | apply below_drew1 | refine below_set ?_ GE291.out | refine below_set ?_ GE292.out | refine below_set ?_ GE293.out | refine below_set ?_ GE294.out) | exact HB.out)) hb); clear HO0_1; clear BK291; clear BK292; clear BK293; clear BK294; clear HB; have HO0_1 := n0_; have HO298 := n1_; have HO301 := n2_; have BK291 := n3_; have BK292 := n4_; have BK293 := n5_; have BK294 := n6_; have HB := n7_; clear n0_ n1_ n2_ n3_ n4_ n5_ n6_ n7_; (try clear hb); (try clear hb2); (try clear hk); (try clear hi); (try clear ho0); (try clear ho1)))
  have n0_ := Aside0.mk (Kd.V_drew HO0_1.out)
  have n1_ := Aside0.mk (Kd.V_drew HO298.out)
  have n2_ := Aside0.mk (Kd.V_drew HO301.out)
  have n3_ := Aside0.mk (blk_drew BK291.out)
  have n4_ := Aside0.mk (blk_drew BK292.out)
  have n5_ := Aside0.mk (blk_drew BK293.out)
  have n6_ := Aside0.mk (blk_drew BK294.out)
  have n7_ := Aside0.mk (below_drew1 HB.out)
  clear HO0_1
  clear HO298
  clear HO301
  clear BK291
  clear BK292
  clear BK293
  clear BK294
  clear HB
  have HO0_1 := n0_
  have HO298 := n1_
  have HO301 := n2_
  have BK291 := n3_
  have BK292 := n4_
  have BK293 := n5_
  have BK294 := n6_
  have HB := n7_
  clear n0_ n1_ n2_ n3_ n4_ n5_ n6_ n7_
  obtain ⟨Ao38, co38, eo38⟩ := Kd.V_slice HO298.out
  (first | subst eo38 | (injection eo38 with f1_ f2_ f3_; have f4_ := f1_.symm; have f5_ := f3_.symm; clear f1_ f2_ f3_; subst f4_; subst f5_))
  refine start_ (n := 13) (S := fun w' => w'.cell? ⟨gb291, 0, none⟩ = some (.bool a0_0) ∧ w'.cell? ⟨gb291, 1, none⟩ = some (.slice A0_1 l0_1.length c0_1) ∧ w'.cell? ⟨gb292, 0, none⟩ = some (.bool a1_0) ∧ w'.cell? ⟨gb292, 1, none⟩ = some (.slice A1_1 l1_1.length c1_1)) (ds := []) #[false, false, false, false, false, false, false, false, false, false, false, false, false] (by kernel_rfl) rfl rfl ⟨(blk_cell BK291.out 0).trans rfl, (blk_cell BK291.out 1).trans rfl, (blk_cell BK292.out 0).trans rfl, (blk_cell BK292.out 1).trans rfl⟩ (fun hHeld => ?_); refine with_tabW integer_DivMod.tab4 integer_DivMod.bits4 (fun HT_ HW_ => ?_)
  generalize w36.drew = w37 at HO0_1 HO298 HO301 BK291 BK292 BK293 BK294 HB hHeld ⊢
  refine pure_ (i := 0) (N := some 22) (v := ?_) (a' := ?_) #[true, false, false, false, false, false, false, false, false, false, false, false, false] rfl rfl (any_of HT_.out (by kernel_rfl)) (fun _ _ _ h => h) (Or.inl ⟨by rfl, ?_⟩) ?_ ?_
  rotate_left
  ·
   intro w'
   go_simp
   with_reducible rfl
  rotate_left
  ·
   simp only [Act.put, List.setIfInBounds_toArray, List.set_cons_zero, List.set_cons_succ, i64_w, i32_w]
   rfl
  refine pure_ (i := 2) (N := some 24) (v := ?_) (a' := ?_) #[true, false, true, false, false, false, false, false, false, false, false, false, false] rfl rfl (any_of HT_.out (by kernel_rfl)) (fun _ _ _ h => h) (Or.inl ⟨by rfl, ?_⟩) ?_ ?_
  rotate_left
  ·
   intro w'
   go_simp
   with_reducible rfl
  rotate_left
  ·
   simp only [Act.put, List.setIfInBounds_toArray, List.set_cons_zero, List.set_cons_succ, i64_w, i32_w]
   rfl
  refine pure_ (i := 5) (N := some 27) (v := ?_) (a' := ?_) #[true, false, true, false, false, true, false, false, false, false, false, false, false] rfl rfl (any_of HT_.out (by kernel_rfl)) (fun _ _ _ h => h) (Or.inl ⟨by rfl, ?_⟩) ?_ ?_
  rotate_left
  ·
   intro w'
   go_simp
   with_reducible rfl
  rotate_left
  ·
   simp only [Act.put, List.setIfInBounds_toArray, List.set_cons_zero, List.set_cons_succ, i64_w, i32_w]
   rfl
  refine pure_ (i := 7) (N := some 29) (v := ?_) (a' := ?_) #[true, false, true, false, false, true, false, true, false, false, false, false, false] rfl rfl (any_of HT_.out (by kernel_rfl)) (fun _ _ _ h => h) (Or.inl ⟨by rfl, ?_⟩) ?_ ?_
  rotate_left
  ·
   intro w'
   go_simp
   with_reducible rfl
  rotate_left
  ·
   simp only [Act.put, List.setIfInBounds_toArray, List.set_cons_zero, List.set_cons_succ, i64_w, i32_w]
   rfl
  refine pure_ (i := 9) (N := some 31) (v := ?_) (a' := ?_) #[true, false, true, false, false, true, false, true, false, true, false, false, false] rfl rfl (any_of HT_.out (by kernel_rfl)) (fun _ _ _ h => h) (Or.inl ⟨by rfl, ?_⟩) ?_ ?_
  rotate_left
  ·
   intro w'
   go_simp
   with_reducible rfl
  rotate_left
  ·
   simp only [Act.put, List.setIfInBounds_toArray, List.set_cons_zero, List.set_cons_succ, i64_w, i32_w]
   rfl
  refine take_ (i := 1) (N := some 23) (v := ?_) (a' := ?_) #[true, true, true, false, false, true, false, true, false, true, false, false, false] rfl rfl (take_ofW HT_.out HW_.out (by kernel_rfl)) (fun _ _ _ h => h) (Or.inl ⟨by rfl, ?_⟩) hHeld ?_ ?_
  rotate_left
  ·
   rintro w' ⟨s0, s1, s2, s3⟩
   go_simp
   with_reducible rfl
  rotate_left
  ·
   simp only [Act.put, List.setIfInBounds_toArray, List.set_cons_zero, List.set_cons_succ, i64_w, i32_w]
   rfl
  refine take_ (i := 3) (N := some 25) (v := ?_) (a' := ?_) #[true, true, true, true, false, true, false, true, false, true, false, false, false] rfl rfl (take_ofW HT_.out HW_.out (by kernel_rfl)) (fun _ _ _ h => h) (Or.inl ⟨by rfl, ?_⟩) hHeld ?_ ?_
  rotate_left
  ·
   rintro w' ⟨s0, s1, s2, s3⟩
   go_simp
   with_reducible rfl
  rotate_left
  ·
   simp only [Act.put, List.setIfInBounds_toArray, List.set_cons_zero, List.set_cons_succ, i64_w, i32_w]
   rfl
  refine pure_ (i := 4) (N := some 26) (v := ?_) (a' := ?_) #[true, true, true, true, true, true, false, true, false, true, false, false, false] rfl rfl (any_of HT_.out (by kernel_rfl)) (fun _ _ _ h => h) (Or.inl ⟨by rfl, ?_⟩) ?_ ?_
  rotate_left
  ·
   intro w'
   go_simp
   with_reducible rfl
  rotate_left
  ·
   simp only [Act.put, List.setIfInBounds_toArray, List.set_cons_zero, List.set_cons_succ, i64_w, i32_w]
   rfl
  refine take_ (i := 8) (N := some 30) (v := ?_) (a' := ?_) #[true, true, true, true, true, true, false, true, true, true, false, false, false] rfl rfl (take_ofW HT_.out HW_.out (by kernel_rfl)) (fun _ _ _ h => h) (Or.inl ⟨by rfl, ?_⟩) hHeld ?_ ?_
  rotate_left
  ·
   rintro w' ⟨s0, s1, s2, s3⟩
   go_simp
   with_reducible rfl
  rotate_left
  ·
   simp only [Act.put, List.setIfInBounds_toArray, List.set_cons_zero, List.set_cons_succ, i64_w, i32_w]
   rfl
  refine one_ (i := 6) (N := some 28) #[true, true, true, true, true, true, true, true, true, true, false, false, false] rfl rfl (one_of HT_.out (by kernel_rfl)) (by decide) (fun K hK => ?_)
  refine goes_ Tryd.func45 (by kernel_rfl) rfl #[.bool (a0_0 != a1_0), .slice Ao38 t296.length co38] (by rfl) rfl rfl (by (try simp only [List.map_toArray, List.map_cons, List.map_nil]); first | done | rfl | (simp only [List.length_drop, List.length_take]; rfl)) ?_
  with_reducible refine (integer_signed.calls k (a0_0 != a1_0) (fun k_ => ((P0_1_ k_ ∨ w.heap.size ≤ k_) ∧ (k_ ≠ gb291 ∧ (k_ ≠ gb292 ∧ (k_ ≠ gb293 ∧ k_ ≠ gb294))))) _ _ t296 t302 t303 _ ?side1 A20.out).mono ?_
  (case side1 => exact HO298.out)
  rintro e w39 ⟨v304, rfl, ho0, hb⟩
  refine ⟨_, rfl, ?_⟩
  have n0_ := Aside0.mk (Kd.V_below (by (with_reducible repeat (first | apply Kd.V_alloc | apply Kd.V_drewN | apply Kd.V_drew)); exact HO0_1.out) hb)
  have n1_ := Aside0.mk (Kd.V_below (by (with_reducible repeat (first | apply Kd.V_alloc | apply Kd.V_drewN | apply Kd.V_drew)); exact HO298.out) hb)
  have n2_ := Aside0.mk (Kd.V_below (by (with_reducible repeat (first | apply Kd.V_alloc | apply Kd.V_drewN | apply Kd.V_drew)); exact HO301.out) hb)
  have n3_ := Aside0.mk (Kd.V_lower (Kd.V_mono (ok' := fun k_ => (P0_1_ k_ ∨ w.heap.size ≤ k_) ∧ k_ ≠ gb291 ∧ k_ ≠ gb292 ∧ k_ ≠ gb293 ∧ k_ ≠ gb294) ho0 (fun k_ hk_ => ⟨Or.elim hk_ (fun hs_ => hs_.1) (fun hn_ => (.inr (Nat.le_trans (below_size (by repeat (first | (with_reducible first | exact HB.out | apply below_alloc | apply pw_below_drewN | apply below_drew1 | refine below_set ?_ GE291.out | refine below_set ?_ GE292.out | refine below_set ?_ GE293.out | refine below_set ?_ GE294.out) | exact HB.out))) hn_))), Or.elim hk_ (fun hs_ => hs_.2.1) (fun hn_ => (Kd.freshB (g := gb291) (o := .cells #[.bool a0_0, .slice A0_1 l0_1.length c0_1] 25 (0, 0)) (by (with_reducible repeat (first | refine blk_drewN ?_ _ | refine blk_drew ?_ | refine blk_alloc ?_ _)); exact BK291.out) k_ hn_)), Or.elim hk_ (fun hs_ => hs_.2.2.1) (fun hn_ => (Kd.freshB (g := gb292) (o := .cells #[.bool a1_0, .slice A1_1 l1_1.length c1_1] 25 (0, 0)) (by (with_reducible repeat (first | refine blk_drewN ?_ _ | refine blk_drew ?_ | refine blk_alloc ?_ _)); exact BK292.out) k_ hn_)), Or.elim hk_ (fun hs_ => hs_.2.2.2.1) (fun hn_ => (Kd.freshB (g := gb293) (o := .cells #[.bool false, .slice none 0 0] 25 (0, 0)) (by (with_reducible repeat (first | refine blk_drewN ?_ _ | refine blk_drew ?_ | refine blk_alloc ?_ _)); exact BK293.out) k_ hn_)), Or.elim hk_ (fun hs_ => hs_.2.2.2.2) (fun hn_ => (Kd.freshB (g := gb294) (o := .cells #[.bool false, .slice none 0 0] 25 (0, 0)) (by (with_reducible repeat (first | refine blk_drewN ?_ _ | refine blk_drew ?_ | refine blk_alloc ?_ _)); exact BK294.out) k_ hn_))⟩)) (below_size (by repeat (first | (with_reducible first | exact HB.out | apply below_alloc | apply pw_below_drewN | apply below_drew1 | refine below_set ?_ GE291.out | refine below_set ?_ GE292.out | refine below_set ?_ GE293.out | refine below_set ?_ GE294.out) | exact HB.out))))
  have n4_ := Aside0.mk (blk_below (g := gb291) (o := .cells #[.bool a0_0, .slice A0_1 l0_1.length c0_1] 25 (0, 0)) (by (with_reducible repeat (first | refine blk_drewN ?_ _ | refine blk_drew ?_ | refine blk_alloc ?_ _)); exact BK291.out) hb)
  have n5_ := Aside0.mk (blk_below (g := gb292) (o := .cells #[.bool a1_0, .slice A1_1 l1_1.length c1_1] 25 (0, 0)) (by (with_reducible repeat (first | refine blk_drewN ?_ _ | refine blk_drew ?_ | refine blk_alloc ?_ _)); exact BK292.out) hb)
  have n6_ := Aside0.mk (blk_below (g := gb293) (o := .cells #[.bool false, .slice none 0 0] 25 (0, 0)) (by (with_reducible repeat (first | refine blk_drewN ?_ _ | refine blk_drew ?_ | refine blk_alloc ?_ _)); exact BK293.out) hb)
  have n7_ := Aside0.mk (blk_below (g := gb294) (o := .cells #[.bool false, .slice none 0 0] 25 (0, 0)) (by (with_reducible repeat (first | refine blk_drewN ?_ _ | refine blk_drew ?_ | refine blk_alloc ?_ _)); exact BK294.out) hb)
  have n8_ := Aside0.mk (below_step (by repeat (first | (with_reducible first | exact HB.out | apply below_alloc | apply pw_below_drewN | apply below_drew1 | refine below_set ?_ GE291.out | refine below_set ?_ GE292.out | refine below_set ?_ GE293.out | refine below_set ?_ GE294.out) | exact HB.out)) hb)
  clear HO0_1
  clear HO298
  clear HO301
  clear BK291
  clear BK292
  clear BK293
  clear BK294
  clear HB
  have HO0_1 := n0_
  have HO298 := n1_
  have HO301 := n2_
  have HO305 := n3_
  have BK291 := n4_
  have BK292 := n5_
  have BK293 := n6_
  have BK294 := n7_
  have HB := n8_
  clear n0_ n1_ n2_ n3_ n4_ n5_ n6_ n7_ n8_
  (try clear hb)
  (try clear hb2)
  (try clear hk)
  (try clear hi)
  (try clear ho0)
  obtain ⟨Ao40, co40, eo40⟩ := Kd.V_slice HO301.out
  (first | subst eo40 | (injection eo40 with f1_ f2_ f3_; have f4_ := f1_.symm; have f5_ := f3_.symm; clear f1_ f2_ f3_; subst f4_; subst f5_))
  refine hK.out _ _ ⟨(blk_cell BK291.out 0).trans rfl, (blk_cell BK291.out 1).trans rfl, (blk_cell BK292.out 0).trans rfl, (blk_cell BK292.out 1).trans rfl⟩ (fun hHeld => ?_)
  clear hK K
  refine norm_ (a' := ?_) ?_ ?_
  rotate_left
  ·
   show Act.put _ (some 28) _ = _
   simp only [Act.put, List.setIfInBounds_toArray, List.set_cons_zero, List.set_cons_succ, i64_w, i32_w]
   rfl
  refine one_ (i := 10) (N := some 32) #[true, true, true, true, true, true, true, true, true, true, true, false, false] rfl rfl (one_of HT_.out (by kernel_rfl)) (by decide) (fun K hK => ?_)
  refine goes_ Tryd.func45 (by kernel_rfl) rfl #[.bool a0_0, .slice Ao40 t299.length co40] (by rfl) rfl rfl (by (try simp only [List.map_toArray, List.map_cons, List.map_nil]); first | done | rfl | (simp only [List.length_drop, List.length_take]; rfl)) ?_
  with_reducible refine (integer_signed.calls k a0_0 (fun k_ => ((P0_1_ k_ ∨ w.heap.size ≤ k_) ∧ (k_ ≠ gb291 ∧ (k_ ≠ gb292 ∧ (k_ ≠ gb293 ∧ k_ ≠ gb294))))) _ _ t299 t306 t307 _ ?side1 A21.out).mono ?_
  (case side1 => exact HO301.out)
  rintro e w41 ⟨v308, rfl, ho0, hb⟩
  refine ⟨_, rfl, ?_⟩
  have n0_ := Aside0.mk (Kd.V_below (by (with_reducible repeat (first | apply Kd.V_alloc | apply Kd.V_drewN | apply Kd.V_drew)); exact HO0_1.out) hb)
  have n1_ := Aside0.mk (Kd.V_below (by (with_reducible repeat (first | apply Kd.V_alloc | apply Kd.V_drewN | apply Kd.V_drew)); exact HO298.out) hb)
  have n2_ := Aside0.mk (Kd.V_below (by (with_reducible repeat (first | apply Kd.V_alloc | apply Kd.V_drewN | apply Kd.V_drew)); exact HO301.out) hb)
  have n3_ := Aside0.mk (Kd.V_below (by (with_reducible repeat (first | apply Kd.V_alloc | apply Kd.V_drewN | apply Kd.V_drew)); exact HO305.out) hb)
  have n4_ := Aside0.mk (Kd.V_lower (Kd.V_mono (ok' := fun k_ => (P0_1_ k_ ∨ w.heap.size ≤ k_) ∧ k_ ≠ gb291 ∧ k_ ≠ gb292 ∧ k_ ≠ gb293 ∧ k_ ≠ gb294) ho0 (fun k_ hk_ => ⟨Or.elim hk_ (fun hs_ => hs_.1) (fun hn_ => (.inr (Nat.le_trans (below_size (by repeat (first | (with_reducible first | exact HB.out | apply below_alloc | apply pw_below_drewN | apply below_drew1 | refine below_set ?_ GE291.out | refine below_set ?_ GE292.out | refine below_set ?_ GE293.out | refine below_set ?_ GE294.out) | exact HB.out))) hn_))), Or.elim hk_ (fun hs_ => hs_.2.1) (fun hn_ => (Kd.freshB (g := gb291) (o := .cells #[.bool a0_0, .slice A0_1 l0_1.length c0_1] 25 (0, 0)) (by (with_reducible repeat (first | refine blk_drewN ?_ _ | refine blk_drew ?_ | refine blk_alloc ?_ _)); exact BK291.out) k_ hn_)), Or.elim hk_ (fun hs_ => hs_.2.2.1) (fun hn_ => (Kd.freshB (g := gb292) (o := .cells #[.bool a1_0, .slice A1_1 l1_1.length c1_1] 25 (0, 0)) (by (with_reducible repeat (first | refine blk_drewN ?_ _ | refine blk_drew ?_ | refine blk_alloc ?_ _)); exact BK292.out) k_ hn_)), Or.elim hk_ (fun hs_ => hs_.2.2.2.1) (fun hn_ => (Kd.freshB (g := gb293) (o := .cells #[.bool false, .slice none 0 0] 25 (0, 0)) (by (with_reducible repeat (first | refine blk_drewN ?_ _ | refine blk_drew ?_ | refine blk_alloc ?_ _)); exact BK293.out) k_ hn_)), Or.elim hk_ (fun hs_ => hs_.2.2.2.2) (fun hn_ => (Kd.freshB (g := gb294) (o := .cells #[.bool false, .slice none 0 0] 25 (0, 0)) (by (with_reducible repeat (first | refine blk_drewN ?_ _ | refine blk_drew ?_ | refine blk_alloc ?_ _)); exact BK294.out) k_ hn_))⟩)) (below_size (by repeat (first | (with_reducible first | exact HB.out | apply below_alloc | apply pw_below_drewN | apply below_drew1 | refine below_set ?_ GE291.out | refine below_set ?_ GE292.out | refine below_set ?_ GE293.out | refine below_set ?_ GE294.out) | exact HB.out))))
  have n5_ := Aside0.mk (blk_below (g := gb291) (o := .cells #[.bool a0_0, .slice A0_1 l0_1.length c0_1] 25 (0, 0)) (by (with_reducible repeat (first | refine blk_drewN ?_ _ | refine blk_drew ?_ | refine blk_alloc ?_ _)); exact BK291.out) hb)
  have n6_ := Aside0.mk (blk_below (g := gb292) (o := .cells #[.bool a1_0, .slice A1_1 l1_1.length c1_1] 25 (0, 0)) (by (with_reducible repeat (first | refine blk_drewN ?_ _ | refine blk_drew ?_ | refine blk_alloc ?_ _)); exact BK292.out) hb)
  have n7_ := Aside0.mk (blk_below (g := gb293) (o := .cells #[.bool false, .slice none 0 0] 25 (0, 0)) (by (with_reducible repeat (first | refine blk_drewN ?_ _ | refine blk_drew ?_ | refine blk_alloc ?_ _)); exact BK293.out) hb)
  have n8_ := Aside0.mk (blk_below (g := gb294) (o := .cells #[.bool false, .slice none 0 0] 25 (0, 0)) (by (with_reducible repeat (first | refine blk_drewN ?_ _ | refine blk_drew ?_ | refine blk_alloc ?_ _)); exact BK294.out) hb)
  have n9_ := Aside0.mk (below_step (by repeat (first | (with_reducible first | exact HB.out | apply below_alloc | apply pw_below_drewN | apply below_drew1 | refine below_set ?_ GE291.out | refine below_set ?_ GE292.out | refine below_set ?_ GE293.out | refine below_set ?_ GE294.out) | exact HB.out)) hb)
  clear HO0_1
  clear HO298
  clear HO301
  clear HO305
  clear BK291
  clear BK292
  clear BK293
  clear BK294
  clear HB
  have HO0_1 := n0_
  have HO298 := n1_
  have HO301 := n2_
  have HO305 := n3_
  have HO309 := n4_
  have BK291 := n5_
  have BK292 := n6_
  have BK293 := n7_
  have BK294 := n8_
  have HB := n9_
  clear n0_ n1_ n2_ n3_ n4_ n5_ n6_ n7_ n8_ n9_
  (try clear hb)
  (try clear hb2)
  (try clear hk)
  (try clear hi)
  (try clear ho0)
  obtain ⟨Ao43, co43, eo43⟩ := Kd.V_slice HO305.out
  (first | subst eo43 | (injection eo43 with f1_ f2_ f3_; have f4_ := f1_.symm; have f5_ := f3_.symm; clear f1_ f2_ f3_; subst f4_; subst f5_))
  obtain ⟨Ao46, co46, eo46⟩ := Kd.V_slice HO309.out
  (first | subst eo46 | (injection eo46 with f1_ f2_ f3_; have f4_ := f1_.symm; have f5_ := f3_.symm; clear f1_ f2_ f3_; subst f4_; subst f5_))
  refine hK.out _ _ ⟨(blk_cell BK291.out 0).trans rfl, (blk_cell BK291.out 1).trans rfl, (blk_cell BK292.out 0).trans rfl, (blk_cell BK292.out 1).trans rfl⟩ (fun hHeld => ?_)
  clear hK K
  refine norm_ (a' := ?_) ?_ ?_
  rotate_left
  ·
   show Act.put _ (some 32) _ = _
   simp only [Act.put, List.setIfInBounds_toArray, List.set_cons_zero, List.set_cons_succ, i64_w, i32_w]
   rfl
  refine one_ (i := 11) (N := none) #[true, true, true, true, true, true, true, true, true, true, true, true, false] rfl rfl (one_of HT_.out (by kernel_rfl)) (by decide) (fun K hK => ?_)
  have hs42 : w41.cell? ⟨gb293, 0, none⟩ = some (.bool false) := (blk_cell BK293.out 0).trans rfl
  have hfs42 := blk_frozen BK293.out 0
  have hns42_0 := NB291_293.out
  have hns42_1 := NB292_293.out
  have hns42_3 := NB294_293.out
  have hms42_0 := NB293_291.out
  have hms42_1 := NB293_292.out
  have hms42_3 := NB293_294.out
  have hs44 : w41.cell? ⟨gb293, 1, none⟩ = some (.slice none 0 0) := (blk_cell BK293.out 1).trans rfl
  have hfs44 := blk_frozen BK293.out 1
  have hns44_0 := NB291_293.out
  have hns44_1 := NB292_293.out
  have hns44_3 := NB294_293.out
  have hms44_0 := NB293_291.out
  have hms44_1 := NB293_292.out
  have hms44_3 := NB293_294.out
  refine skip_ (w1 := ?_) (by rfl) rfl ?_ ?_
  rotate_left
  ·
   go_simp
   rfl
  refine hK.out _ _ ⟨((cell_far (p := ⟨gb293, _, none⟩) NB291_293.out _).trans (((cell_far (p := ⟨gb293, _, none⟩) NB291_293.out _).trans (hHeld.1)))), ((cell_far (p := ⟨gb293, _, none⟩) NB291_293.out _).trans (((cell_far (p := ⟨gb293, _, none⟩) NB291_293.out _).trans (hHeld.2.1)))), ((cell_far (p := ⟨gb293, _, none⟩) NB292_293.out _).trans (((cell_far (p := ⟨gb293, _, none⟩) NB292_293.out _).trans (hHeld.2.2.1)))), ((cell_far (p := ⟨gb293, _, none⟩) NB292_293.out _).trans (((cell_far (p := ⟨gb293, _, none⟩) NB292_293.out _).trans (hHeld.2.2.2))))⟩ (fun hHeld => ?_)
  clear hK K
  refine one_ (i := 12) (N := none) #[true, true, true, true, true, true, true, true, true, true, true, true, true] rfl rfl (one_of HT_.out (by kernel_rfl)) (by decide) (fun K hK => ?_)
  have hs45 : w41.cell? ⟨gb294, 0, none⟩ = some (.bool false) := (blk_cell BK294.out 0).trans rfl
  have hfs45 := blk_frozen BK294.out 0
  have hns45_0 := NB291_294.out
  have hns45_1 := NB292_294.out
  have hns45_2 := NB293_294.out
  have hms45_0 := NB294_291.out
  have hms45_1 := NB294_292.out
  have hms45_2 := NB294_293.out
  have hs47 : w41.cell? ⟨gb294, 1, none⟩ = some (.slice none 0 0) := (blk_cell BK294.out 1).trans rfl
  have hfs47 := blk_frozen BK294.out 1
  have hns47_0 := NB291_294.out
  have hns47_1 := NB292_294.out
  have hns47_2 := NB293_294.out
  have hms47_0 := NB294_291.out
  have hms47_1 := NB294_292.out
  have hms47_2 := NB294_293.out
  refine skip_ (w1 := ?_) (by rfl) rfl ?_ ?_
  rotate_left
  ·
   go_simp
   rfl
  refine hK.out _ _ ⟨((cell_far (p := ⟨gb294, _, none⟩) NB291_294.out _).trans (((cell_far (p := ⟨gb294, _, none⟩) NB291_294.out _).trans (hHeld.1)))), ((cell_far (p := ⟨gb294, _, none⟩) NB291_294.out _).trans (((cell_far (p := ⟨gb294, _, none⟩) NB291_294.out _).trans (hHeld.2.1)))), ((cell_far (p := ⟨gb294, _, none⟩) NB292_294.out _).trans (((cell_far (p := ⟨gb294, _, none⟩) NB292_294.out _).trans (hHeld.2.2.1)))), ((cell_far (p := ⟨gb294, _, none⟩) NB292_294.out _).trans (((cell_far (p := ⟨gb294, _, none⟩) NB292_294.out _).trans (hHeld.2.2.2))))⟩ (fun hHeld => ?_)
  clear hK K
  refine done_ (done_of HT_.out (by kernel_rfl)) ?_
  go_upto_region 5 with (fail)
  go_cut [42] (fun v42 wc => ∃ (kq : Nat) (x42_21 : Bool), v42 = .bool x42_21 ∧ Aside0 (integer_DivMod.j0 kq x42_21 a1_0 l1_1 t302 t303 t306 t307 = some (r1, r2, r3, r4, r5)) ∧ Aside0 (kq ≤ k) ∧ Aside0 (Kd.V (Kd.int .u32) 60 wc w.heap.size (fun k_ => (P0_1_ k_ ∨ w.heap.size ≤ k_) ∧ k_ ≠ gb291 ∧ k_ ≠ gb292 ∧ k_ ≠ gb293 ∧ k_ ≠ gb294) (.slice A0_1 l0_1.length c0_1) l0_1) ∧ Aside0 (Kd.V (Kd.int .u32) 60 wc w.heap.size (fun k_ => (P0_1_ k_ ∨ w.heap.size ≤ k_) ∧ k_ ≠ gb291 ∧ k_ ≠ gb292 ∧ k_ ≠ gb293 ∧ k_ ≠ gb294) (.slice Ao43 t303.length co43) t303) ∧ Aside0 (Kd.V (Kd.int .u32) 60 wc w.heap.size (fun k_ => (P0_1_ k_ ∨ w.heap.size ≤ k_) ∧ k_ ≠ gb291 ∧ k_ ≠ gb292 ∧ k_ ≠ gb293 ∧ k_ ≠ gb294) (.slice Ao46 t307.length co46) t307) ∧ Aside0 (wc.heap[gb291]? = some (.cells #[.bool a0_0, (.slice A0_1 l0_1.length c0_1)] 25 (0, 0))) ∧ Aside0 (wc.heap[gb292]? = some (.cells #[.bool a1_0, (.slice A1_1 l1_1.length c1_1)] 25 (0, 0))) ∧ Aside0 (wc.heap[gb293]? = some (.cells #[.bool t302, (.slice Ao43 t303.length co43)] 25 (0, 0))) ∧ Aside0 (wc.heap[gb294]? = some (.cells #[.bool t306, (.slice Ao46 t307.length co46)] 25 (0, 0))) ∧ Aside0 (Below w.heap.size w wc))
  case first =>
   have H := HC22.out
   clear HC22
   replace H := Option.bind_eq_some_iff.mp H
   obtain ⟨t310, A480, H⟩ := H
   replace H : (if t310 = 0 then (integer_DivMod.j0 k false a1_0 l1_1 t302 t303 t306 t307) else (integer_DivMod.j0 k (t306 != a1_0) a1_0 l1_1 t302 t303 t306 t307)) = some (r1, r2, r3, r4, r5) := H
   have A48 := Aside0.mk A480
   clear A480
   by_cases c49 : t310 = 0
   ·
    rw [if_pos c49] at H
    have c49b0 : (t310 == 0) = true := beq_iff_eq.mpr c49
    have c49b1 : (t310 != 0) = false := bne_eq_false_iff_eq.mpr c49
    clear c49
    (first | rw [c49b0] | (simp only [i64_w, i32_w]; rw [c49b0]) | skip)
    have H' := Aside0.mk H
    clear H
    have hnb50 := NB294_291.out
    have hnc50 := NB291_294.out
    have hnb51 := NB294_292.out
    have hnc51 := NB292_294.out
    have hnb52 := NB294_293.out
    have hnc52 := NB293_294.out
    have hcz53_0 : w41.cell? ⟨gb294, 0, none⟩ = some (.bool false) := (blk_cell BK294.out 0).trans rfl
    have hcz53_1 : w41.cell? ⟨gb294, 1, none⟩ = some (.slice none 0 0) := (blk_cell BK294.out 1).trans rfl
    have hfz53_0 := blk_frozen BK294.out 0
    have hfz53_1 := blk_frozen BK294.out 1
    go_wp2_with (first | ((with_reducible refine gate_callee (f := 19) rfl ?_); refine goesL_ (some 34) rfl rfl Tryd.func19 (by kernel_rfl) rfl #[.agg #[.bool t306, .slice Ao46 t307.length co46]] rfl (by (try simp only [List.map_toArray, List.map_cons, List.map_nil]); first | done | rfl | (simp only [List.length_drop, List.length_take]; rfl)) ?_; (with_reducible refine (integer_Int_Sign.calls t306 _ _ t307 t310 _ ?side1 ?side2 A48.out).mono ?_); (case side1 => refine (Kd.V_reads' (e := 60) (base := w.heap.size) (ok := fun k_ => ((P0_1_ k_ ∨ w.heap.size ≤ k_) ∧ (k_ ≠ gb291 ∧ (k_ ≠ gb292 ∧ (k_ ≠ gb293 ∧ k_ ≠ gb294))))) (n := t307.length) (c := co46) ?_).2.2; exact (by (with_reducible repeat (first | apply Kd.V_alloc | apply Kd.V_drewN | apply Kd.V_drew)); exact (Kd.V_mono (Kd.V_mono (Kd.V_far (p := ⟨gb294, 1, none⟩) (Kd.V_far (p := ⟨gb294, 0, none⟩) (Kd.V_far (p := ⟨gb293, 1, none⟩) (Kd.V_far (p := ⟨gb293, 0, none⟩) (Kd.V_mono (Kd.V_mono HO309.out (fun k_ hk => (⟨hk, hk.2.2.2.1⟩ : _ ∧ k_ ≠ gb293))) (fun k_ hk => (⟨hk, hk.1.2.2.2.2⟩ : _ ∧ k_ ≠ gb294))) (fun _ hk => hk.1.2) (.bool t302)) (fun _ hk => hk.1.2) (.slice Ao43 t303.length co43)) (fun _ hk => hk.2) (.bool t306)) (fun _ hk => hk.2) (.slice Ao46 t307.length co46)) (fun _ h_ => h_.1)) (fun _ h_ => h_.1)))); (case side2 => exact (Kd.V_reads' HO309.out).2.1); rintro e w54 ⟨rfl, hb⟩; refine ⟨_, rfl, ?_⟩; have n0_ := Aside0.mk (Kd.V_below (by (with_reducible repeat (first | apply Kd.V_alloc | apply Kd.V_drewN | apply Kd.V_drew)); exact (Kd.V_mono (Kd.V_mono (Kd.V_far (p := ⟨gb294, 1, none⟩) (Kd.V_far (p := ⟨gb294, 0, none⟩) (Kd.V_far (p := ⟨gb293, 1, none⟩) (Kd.V_far (p := ⟨gb293, 0, none⟩) (Kd.V_mono (Kd.V_mono HO0_1.out (fun k_ hk => (⟨hk, hk.1.2⟩ : _ ∧ k_ ≠ gb293))) (fun k_ hk => (⟨hk, hk.1.2⟩ : _ ∧ k_ ≠ gb294))) (fun _ hk => hk.1.2) (.bool t302)) (fun _ hk => hk.1.2) (.slice Ao43 t303.length co43)) (fun _ hk => hk.2) (.bool t306)) (fun _ hk => hk.2) (.slice Ao46 t307.length co46)) (fun _ h_ => h_.1)) (fun _ h_ => h_.1))) hb); have n1_ := Aside0.mk (Kd.V_below (by (with_reducible repeat (first | apply Kd.V_alloc | apply Kd.V_drewN | apply Kd.V_drew)); exact (Kd.V_mono (Kd.V_mono (Kd.V_far (p := ⟨gb294, 1, none⟩) (Kd.V_far (p := ⟨gb294, 0, none⟩) (Kd.V_far (p := ⟨gb293, 1, none⟩) (Kd.V_far (p := ⟨gb293, 0, none⟩) (Kd.V_mono (Kd.V_mono HO298.out (fun k_ hk => (⟨hk, hk.2.2.2.1⟩ : _ ∧ k_ ≠ gb293))) (fun k_ hk => (⟨hk, hk.1.2.2.2.2⟩ : _ ∧ k_ ≠ gb294))) (fun _ hk => hk.1.2) (.bool t302)) (fun _ hk => hk.1.2) (.slice Ao43 t303.length co43)) (fun _ hk => hk.2) (.bool t306)) (fun _ hk => hk.2) (.slice Ao46 t307.length co46)) (fun _ h_ => h_.1)) (fun _ h_ => h_.1))) hb); have n2_ := Aside0.mk (Kd.V_below (by (with_reducible repeat (first | apply Kd.V_alloc | apply Kd.V_drewN | apply Kd.V_drew)); exact (Kd.V_mono (Kd.V_mono (Kd.V_far (p := ⟨gb294, 1, none⟩) (Kd.V_far (p := ⟨gb294, 0, none⟩) (Kd.V_far (p := ⟨gb293, 1, none⟩) (Kd.V_far (p := ⟨gb293, 0, none⟩) (Kd.V_mono (Kd.V_mono HO301.out (fun k_ hk => (⟨hk, hk.2.2.2.1⟩ : _ ∧ k_ ≠ gb293))) (fun k_ hk => (⟨hk, hk.1.2.2.2.2⟩ : _ ∧ k_ ≠ gb294))) (fun _ hk => hk.1.2) (.bool t302)) (fun _ hk => hk.1.2) (.slice Ao43 t303.length co43)) (fun _ hk => hk.2) (.bool t306)) (fun _ hk => hk.2) (.slice Ao46 t307.length co46)) (fun _ h_ => h_.1)) (fun _ h_ => h_.1))) hb); have n3_ := Aside0.mk (Kd.V_below (by (with_reducible repeat (first | apply Kd.V_alloc | apply Kd.V_drewN | apply Kd.V_drew)); exact (Kd.V_mono (Kd.V_mono (Kd.V_far (p := ⟨gb294, 1, none⟩) (Kd.V_far (p := ⟨gb294, 0, none⟩) (Kd.V_far (p := ⟨gb293, 1, none⟩) (Kd.V_far (p := ⟨gb293, 0, none⟩) (Kd.V_mono (Kd.V_mono HO305.out (fun k_ hk => (⟨hk, hk.2.2.2.1⟩ : _ ∧ k_ ≠ gb293))) (fun k_ hk => (⟨hk, hk.1.2.2.2.2⟩ : _ ∧ k_ ≠ gb294))) (fun _ hk => hk.1.2) (.bool t302)) (fun _ hk => hk.1.2) (.slice Ao43 t303.length co43)) (fun _ hk => hk.2) (.bool t306)) (fun _ hk => hk.2) (.slice Ao46 t307.length co46)) (fun _ h_ => h_.1)) (fun _ h_ => h_.1))) hb); have n4_ := Aside0.mk (Kd.V_below (by (with_reducible repeat (first | apply Kd.V_alloc | apply Kd.V_drewN | apply Kd.V_drew)); exact (Kd.V_mono (Kd.V_mono (Kd.V_far (p := ⟨gb294, 1, none⟩) (Kd.V_far (p := ⟨gb294, 0, none⟩) (Kd.V_far (p := ⟨gb293, 1, none⟩) (Kd.V_far (p := ⟨gb293, 0, none⟩) (Kd.V_mono (Kd.V_mono HO309.out (fun k_ hk => (⟨hk, hk.2.2.2.1⟩ : _ ∧ k_ ≠ gb293))) (fun k_ hk => (⟨hk, hk.1.2.2.2.2⟩ : _ ∧ k_ ≠ gb294))) (fun _ hk => hk.1.2) (.bool t302)) (fun _ hk => hk.1.2) (.slice Ao43 t303.length co43)) (fun _ hk => hk.2) (.bool t306)) (fun _ hk => hk.2) (.slice Ao46 t307.length co46)) (fun _ h_ => h_.1)) (fun _ h_ => h_.1))) hb); have n5_ := Aside0.mk (blk_below (g := gb291) (o := .cells #[.bool a0_0, .slice A0_1 l0_1.length c0_1] 25 (0, 0)) (by (with_reducible repeat (first | refine blk_drewN ?_ _ | refine blk_drew ?_ | refine blk_alloc ?_ _)); refine blk_far ?_ NB291_294.out _; (with_reducible repeat (first | refine blk_drewN ?_ _ | refine blk_drew ?_ | refine blk_alloc ?_ _)); refine blk_far ?_ NB291_294.out _; (with_reducible repeat (first | refine blk_drewN ?_ _ | refine blk_drew ?_ | refine blk_alloc ?_ _)); refine blk_far ?_ NB291_293.out _; (with_reducible repeat (first | refine blk_drewN ?_ _ | refine blk_drew ?_ | refine blk_alloc ?_ _)); refine blk_far ?_ NB291_293.out _; (with_reducible repeat (first | refine blk_drewN ?_ _ | refine blk_drew ?_ | refine blk_alloc ?_ _)); exact BK291.out) hb); have n6_ := Aside0.mk (blk_below (g := gb292) (o := .cells #[.bool a1_0, .slice A1_1 l1_1.length c1_1] 25 (0, 0)) (by (with_reducible repeat (first | refine blk_drewN ?_ _ | refine blk_drew ?_ | refine blk_alloc ?_ _)); refine blk_far ?_ NB292_294.out _; (with_reducible repeat (first | refine blk_drewN ?_ _ | refine blk_drew ?_ | refine blk_alloc ?_ _)); refine blk_far ?_ NB292_294.out _; (with_reducible repeat (first | refine blk_drewN ?_ _ | refine blk_drew ?_ | refine blk_alloc ?_ _)); refine blk_far ?_ NB292_293.out _; (with_reducible repeat (first | refine blk_drewN ?_ _ | refine blk_drew ?_ | refine blk_alloc ?_ _)); refine blk_far ?_ NB292_293.out _; (with_reducible repeat (first | refine blk_drewN ?_ _ | refine blk_drew ?_ | refine blk_alloc ?_ _)); exact BK292.out) hb); have n7_ := Aside0.mk (blk_below (g := gb293) (o := .cells #[.bool t302, .slice Ao43 t303.length co43] 25 (0, 0)) (by (with_reducible repeat (first | refine blk_drewN ?_ _ | refine blk_drew ?_ | refine blk_alloc ?_ _)); refine blk_far ?_ NB293_294.out _; (with_reducible repeat (first | refine blk_drewN ?_ _ | refine blk_drew ?_ | refine blk_alloc ?_ _)); refine blk_far ?_ NB293_294.out _; (with_reducible repeat (first | refine blk_drewN ?_ _ | refine blk_drew ?_ | refine blk_alloc ?_ _)); refine blk_put (cs := #[.bool t302, .slice none 0 0]) ?_ 1 _ rfl; (with_reducible repeat (first | refine blk_drewN ?_ _ | refine blk_drew ?_ | refine blk_alloc ?_ _)); refine blk_put (cs := #[.bool false, .slice none 0 0]) ?_ 0 _ rfl; (with_reducible repeat (first | refine blk_drewN ?_ _ | refine blk_drew ?_ | refine blk_alloc ?_ _)); exact BK293.out) hb); have n8_ := Aside0.mk (blk_below (g := gb294) (o := .cells #[.bool t306, .slice Ao46 t307.length co46] 25 (0, 0)) (by (with_reducible repeat (first | refine blk_drewN ?_ _ | refine blk_drew ?_ | refine blk_alloc ?_ _)); refine blk_put (cs := #[.bool t306, .slice none 0 0]) ?_ 1 _ rfl; (with_reducible repeat (first | refine blk_drewN ?_ _ | refine blk_drew ?_ | refine blk_alloc ?_ _)); refine blk_put (cs := #[.bool false, .slice none 0 0]) ?_ 0 _ rfl; (with_reducible repeat (first | refine blk_drewN ?_ _ | refine blk_drew ?_ | refine blk_alloc ?_ _)); refine blk_far ?_ NB294_293.out _; (with_reducible repeat (first | refine blk_drewN ?_ _ | refine blk_drew ?_ | refine blk_alloc ?_ _)); refine blk_far ?_ NB294_293.out _; (with_reducible repeat (first | refine blk_drewN ?_ _ | refine blk_drew ?_ | refine blk_alloc ?_ _)); exact BK294.out) hb); have n9_ := Aside0.mk (below_step (by repeat (first | (with_reducible first | exact HB.out | apply below_alloc | apply pw_below_drewN | apply below_drew1 | refine below_set ?_ GE291.out | refine below_set ?_ GE292.out | refine below_set ?_ GE293.out | refine below_set ?_ GE294.out) | exact HB.out)) hb); clear HO0_1; clear HO298; clear HO301; clear HO305; clear HO309; clear BK291; clear BK292; clear BK293; clear BK294; clear HB; have HO0_1 := n0_; have HO298 := n1_; have HO301 := n2_; have HO305 := n3_; have HO309 := n4_; have BK291 := n5_; have BK292 := n6_; have BK293 := n7_; have BK294 := n8_; have HB := n9_; clear n0_ n1_ n2_ n3_ n4_ n5_ n6_ n7_ n8_ n9_; (try clear hb); (try clear hb2); (try clear hk); (try clear hi)))
    go_meet
    case rel => exact ⟨_, (false), (by first | rfl | (simp; done) | (simp [*]; done) | (simp <;> omega)), H', ⟨by first | omega | exact Nat.le_refl _⟩, ⟨by (with_reducible repeat (first | apply Kd.V_alloc | apply Kd.V_drewN | apply Kd.V_drew)); exact Kd.V_mono HO0_1.out (fun _ hk => ⟨hk.1.1.1.1, ⟨hk.1.1.1.2, ⟨hk.1.1.2, ⟨hk.1.2, hk.2⟩⟩⟩⟩)⟩, ⟨by (with_reducible repeat (first | apply Kd.V_alloc | apply Kd.V_drewN | apply Kd.V_drew)); exact HO305.out⟩, ⟨by (with_reducible repeat (first | apply Kd.V_alloc | apply Kd.V_drewN | apply Kd.V_drew)); exact HO309.out⟩, ⟨by (with_reducible repeat (first | refine blk_drewN ?_ _ | refine blk_drew ?_ | refine blk_alloc ?_ _)); exact BK291.out⟩, ⟨by (with_reducible repeat (first | refine blk_drewN ?_ _ | refine blk_drew ?_ | refine blk_alloc ?_ _)); exact BK292.out⟩, ⟨by (with_reducible repeat (first | refine blk_drewN ?_ _ | refine blk_drew ?_ | refine blk_alloc ?_ _)); exact BK293.out⟩, ⟨by (with_reducible repeat (first | refine blk_drewN ?_ _ | refine blk_drew ?_ | refine blk_alloc ?_ _)); exact BK294.out⟩, ⟨by repeat (first | (with_reducible first | exact HB.out | apply below_alloc | apply pw_below_drewN | apply below_drew1 | refine below_set ?_ GE291.out | refine below_set ?_ GE292.out | refine below_set ?_ GE293.out | refine below_set ?_ GE294.out) | exact HB.out)⟩⟩
   ·
    rw [if_neg c49] at H
    have c49b0 : (t310 == 0) = false := beq_eq_false_iff_ne.mpr c49
    have c49b1 : (t310 != 0) = true := bne_iff_ne.mpr c49
    (first | rw [c49b0] | (simp only [i64_w, i32_w]; rw [c49b0]) | skip)
    have H' := Aside0.mk H
    clear H
    have hnb55 := NB294_291.out
    have hnc55 := NB291_294.out
    have hnb56 := NB294_292.out
    have hnc56 := NB292_294.out
    have hnb57 := NB294_293.out
    have hnc57 := NB293_294.out
    have hcz58_0 : w41.cell? ⟨gb294, 0, none⟩ = some (.bool false) := (blk_cell BK294.out 0).trans rfl
    have hcz58_1 : w41.cell? ⟨gb294, 1, none⟩ = some (.slice none 0 0) := (blk_cell BK294.out 1).trans rfl
    have hfz58_0 := blk_frozen BK294.out 0
    have hfz58_1 := blk_frozen BK294.out 1
    go_wp2_with (first | ((with_reducible refine gate_callee (f := 19) rfl ?_); refine goesL_ (some 34) rfl rfl Tryd.func19 (by kernel_rfl) rfl #[.agg #[.bool t306, .slice Ao46 t307.length co46]] rfl (by (try simp only [List.map_toArray, List.map_cons, List.map_nil]); first | done | rfl | (simp only [List.length_drop, List.length_take]; rfl)) ?_; (with_reducible refine (integer_Int_Sign.calls t306 _ _ t307 t310 _ ?side1 ?side2 A48.out).mono ?_); (case side1 => refine (Kd.V_reads' (e := 60) (base := w.heap.size) (ok := fun k_ => ((P0_1_ k_ ∨ w.heap.size ≤ k_) ∧ (k_ ≠ gb291 ∧ (k_ ≠ gb292 ∧ (k_ ≠ gb293 ∧ k_ ≠ gb294))))) (n := t307.length) (c := co46) ?_).2.2; exact (by (with_reducible repeat (first | apply Kd.V_alloc | apply Kd.V_drewN | apply Kd.V_drew)); exact (Kd.V_mono (Kd.V_mono (Kd.V_far (p := ⟨gb294, 1, none⟩) (Kd.V_far (p := ⟨gb294, 0, none⟩) (Kd.V_far (p := ⟨gb293, 1, none⟩) (Kd.V_far (p := ⟨gb293, 0, none⟩) (Kd.V_mono (Kd.V_mono HO309.out (fun k_ hk => (⟨hk, hk.2.2.2.1⟩ : _ ∧ k_ ≠ gb293))) (fun k_ hk => (⟨hk, hk.1.2.2.2.2⟩ : _ ∧ k_ ≠ gb294))) (fun _ hk => hk.1.2) (.bool t302)) (fun _ hk => hk.1.2) (.slice Ao43 t303.length co43)) (fun _ hk => hk.2) (.bool t306)) (fun _ hk => hk.2) (.slice Ao46 t307.length co46)) (fun _ h_ => h_.1)) (fun _ h_ => h_.1)))); (case side2 => exact (Kd.V_reads' HO309.out).2.1); rintro e w59 ⟨rfl, hb⟩; refine ⟨_, rfl, ?_⟩; have n0_ := Aside0.mk (Kd.V_below (by (with_reducible repeat (first | apply Kd.V_alloc | apply Kd.V_drewN | apply Kd.V_drew)); exact (Kd.V_mono (Kd.V_mono (Kd.V_far (p := ⟨gb294, 1, none⟩) (Kd.V_far (p := ⟨gb294, 0, none⟩) (Kd.V_far (p := ⟨gb293, 1, none⟩) (Kd.V_far (p := ⟨gb293, 0, none⟩) (Kd.V_mono (Kd.V_mono HO0_1.out (fun k_ hk => (⟨hk, hk.1.2⟩ : _ ∧ k_ ≠ gb293))) (fun k_ hk => (⟨hk, hk.1.2⟩ : _ ∧ k_ ≠ gb294))) (fun _ hk => hk.1.2) (.bool t302)) (fun _ hk => hk.1.2) (.slice Ao43 t303.length co43)) (fun _ hk => hk.2) (.bool t306)) (fun _ hk => hk.2) (.slice Ao46 t307.length co46)) (fun _ h_ => h_.1)) (fun _ h_ => h_.1))) hb); have n1_ := Aside0.mk (Kd.V_below (by (with_reducible repeat (first | apply Kd.V_alloc | apply Kd.V_drewN | apply Kd.V_drew)); exact (Kd.V_mono (Kd.V_mono (Kd.V_far (p := ⟨gb294, 1, none⟩) (Kd.V_far (p := ⟨gb294, 0, none⟩) (Kd.V_far (p := ⟨gb293, 1, none⟩) (Kd.V_far (p := ⟨gb293, 0, none⟩) (Kd.V_mono (Kd.V_mono HO298.out (fun k_ hk => (⟨hk, hk.2.2.2.1⟩ : _ ∧ k_ ≠ gb293))) (fun k_ hk => (⟨hk, hk.1.2.2.2.2⟩ : _ ∧ k_ ≠ gb294))) (fun _ hk => hk.1.2) (.bool t302)) (fun _ hk => hk.1.2) (.slice Ao43 t303.length co43)) (fun _ hk => hk.2) (.bool t306)) (fun _ hk => hk.2) (.slice Ao46 t307.length co46)) (fun _ h_ => h_.1)) (fun _ h_ => h_.1))) hb); have n2_ := Aside0.mk (Kd.V_below (by (with_reducible repeat (first | apply Kd.V_alloc | apply Kd.V_drewN | apply Kd.V_drew)); exact (Kd.V_mono (Kd.V_mono (Kd.V_far (p := ⟨gb294, 1, none⟩) (Kd.V_far (p := ⟨gb294, 0, none⟩) (Kd.V_far (p := ⟨gb293, 1, none⟩) (Kd.V_far (p := ⟨gb293, 0, none⟩) (Kd.V_mono (Kd.V_mono HO301.out (fun k_ hk => (⟨hk, hk.2.2.2.1⟩ : _ ∧ k_ ≠ gb293))) (fun k_ hk => (⟨hk, hk.1.2.2.2.2⟩ : _ ∧ k_ ≠ gb294))) (fun _ hk => hk.1.2) (.bool t302)) (fun _ hk => hk.1.2) (.slice Ao43 t303.length co43)) (fun _ hk => hk.2) (.bool t306)) (fun _ hk => hk.2) (.slice Ao46 t307.length co46)) (fun _ h_ => h_.1)) (fun _ h_ => h_.1))) hb); have n3_ := Aside0.mk (Kd.V_below (by (with_reducible repeat (first | apply Kd.V_alloc | apply Kd.V_drewN | apply Kd.V_drew)); exact (Kd.V_mono (Kd.V_mono (Kd.V_far (p := ⟨gb294, 1, none⟩) (Kd.V_far (p := ⟨gb294, 0, none⟩) (Kd.V_far (p := ⟨gb293, 1, none⟩) (Kd.V_far (p := ⟨gb293, 0, none⟩) (Kd.V_mono (Kd.V_mono HO305.out (fun k_ hk => (⟨hk, hk.2.2.2.1⟩ : _ ∧ k_ ≠ gb293))) (fun k_ hk => (⟨hk, hk.1.2.2.2.2⟩ : _ ∧ k_ ≠ gb294))) (fun _ hk => hk.1.2) (.bool t302)) (fun _ hk => hk.1.2) (.slice Ao43 t303.length co43)) (fun _ hk => hk.2) (.bool t306)) (fun _ hk => hk.2) (.slice Ao46 t307.length co46)) (fun _ h_ => h_.1)) (fun _ h_ => h_.1))) hb); have n4_ := Aside0.mk (Kd.V_below (by (with_reducible repeat (first | apply Kd.V_alloc | apply Kd.V_drewN | apply Kd.V_drew)); exact (Kd.V_mono (Kd.V_mono (Kd.V_far (p := ⟨gb294, 1, none⟩) (Kd.V_far (p := ⟨gb294, 0, none⟩) (Kd.V_far (p := ⟨gb293, 1, none⟩) (Kd.V_far (p := ⟨gb293, 0, none⟩) (Kd.V_mono (Kd.V_mono HO309.out (fun k_ hk => (⟨hk, hk.2.2.2.1⟩ : _ ∧ k_ ≠ gb293))) (fun k_ hk => (⟨hk, hk.1.2.2.2.2⟩ : _ ∧ k_ ≠ gb294))) (fun _ hk => hk.1.2) (.bool t302)) (fun _ hk => hk.1.2) (.slice Ao43 t303.length co43)) (fun _ hk => hk.2) (.bool t306)) (fun _ hk => hk.2) (.slice Ao46 t307.length co46)) (fun _ h_ => h_.1)) (fun _ h_ => h_.1))) hb); have n5_ := Aside0.mk (blk_below (g := gb291) (o := .cells #[.bool a0_0, .slice A0_1 l0_1.length c0_1] 25 (0, 0)) (by (with_reducible repeat (first | refine blk_drewN ?_ _ | refine blk_drew ?_ | refine blk_alloc ?_ _)); refine blk_far ?_ NB291_294.out _; (with_reducible repeat (first | refine blk_drewN ?_ _ | refine blk_drew ?_ | refine blk_alloc ?_ _)); refine blk_far ?_ NB291_294.out _; (with_reducible repeat (first | refine blk_drewN ?_ _ | refine blk_drew ?_ | refine blk_alloc ?_ _)); refine blk_far ?_ NB291_293.out _; (with_reducible repeat (first | refine blk_drewN ?_ _ | refine blk_drew ?_ | refine blk_alloc ?_ _)); refine blk_far ?_ NB291_293.out _; (with_reducible repeat (first | refine blk_drewN ?_ _ | refine blk_drew ?_ | refine blk_alloc ?_ _)); exact BK291.out) hb); have n6_ := Aside0.mk (blk_below (g := gb292) (o := .cells #[.bool a1_0, .slice A1_1 l1_1.length c1_1] 25 (0, 0)) (by (with_reducible repeat (first | refine blk_drewN ?_ _ | refine blk_drew ?_ | refine blk_alloc ?_ _)); refine blk_far ?_ NB292_294.out _; (with_reducible repeat (first | refine blk_drewN ?_ _ | refine blk_drew ?_ | refine blk_alloc ?_ _)); refine blk_far ?_ NB292_294.out _; (with_reducible repeat (first | refine blk_drewN ?_ _ | refine blk_drew ?_ | refine blk_alloc ?_ _)); refine blk_far ?_ NB292_293.out _; (with_reducible repeat (first | refine blk_drewN ?_ _ | refine blk_drew ?_ | refine blk_alloc ?_ _)); refine blk_far ?_ NB292_293.out _; (with_reducible repeat (first | refine blk_drewN ?_ _ | refine blk_drew ?_ | refine blk_alloc ?_ _)); exact BK292.out) hb); have n7_ := Aside0.mk (blk_below (g := gb293) (o := .cells #[.bool t302, .slice Ao43 t303.length co43] 25 (0, 0)) (by (with_reducible repeat (first | refine blk_drewN ?_ _ | refine blk_drew ?_ | refine blk_alloc ?_ _)); refine blk_far ?_ NB293_294.out _; (with_reducible repeat (first | refine blk_drewN ?_ _ | refine blk_drew ?_ | refine blk_alloc ?_ _)); refine blk_far ?_ NB293_294.out _; (with_reducible repeat (first | refine blk_drewN ?_ _ | refine blk_drew ?_ | refine blk_alloc ?_ _)); refine blk_put (cs := #[.bool t302, .slice none 0 0]) ?_ 1 _ rfl; (with_reducible repeat (first | refine blk_drewN ?_ _ | refine blk_drew ?_ | refine blk_alloc ?_ _)); refine blk_put (cs := #[.bool false, .slice none 0 0]) ?_ 0 _ rfl; (with_reducible repeat (first | refine blk_drewN ?_ _ | refine blk_drew ?_ | refine blk_alloc ?_ _)); exact BK293.out) hb); have n8_ := Aside0.mk (blk_below (g := gb294) (o := .cells #[.bool t306, .slice Ao46 t307.length co46] 25 (0, 0)) (by (with_reducible repeat (first | refine blk_drewN ?_ _ | refine blk_drew ?_ | refine blk_alloc ?_ _)); refine blk_put (cs := #[.bool t306, .slice none 0 0]) ?_ 1 _ rfl; (with_reducible repeat (first | refine blk_drewN ?_ _ | refine blk_drew ?_ | refine blk_alloc ?_ _)); refine blk_put (cs := #[.bool false, .slice none 0 0]) ?_ 0 _ rfl; (with_reducible repeat (first | refine blk_drewN ?_ _ | refine blk_drew ?_ | refine blk_alloc ?_ _)); refine blk_far ?_ NB294_293.out _; (with_reducible repeat (first | refine blk_drewN ?_ _ | refine blk_drew ?_ | refine blk_alloc ?_ _)); refine blk_far ?_ NB294_293.out _; (with_reducible repeat (first | refine blk_drewN ?_ _ | refine blk_drew ?_ | refine blk_alloc ?_ _)); exact BK294.out) hb); have n9_ := Aside0.mk (below_step (by repeat (first | (with_reducible first | exact HB.out | apply below_alloc | apply pw_below_drewN | apply below_drew1 | refine below_set ?_ GE291.out | refine below_set ?_ GE292.out | refine below_set ?_ GE293.out | refine below_set ?_ GE294.out) | exact HB.out)) hb); clear HO0_1; clear HO298; clear HO301; clear HO305; clear HO309; clear BK291; clear BK292; clear BK293; clear BK294; clear HB; have HO0_1 := n0_; have HO298 := n1_; have HO301 := n2_; have HO305 := n3_; have HO309 := n4_; have BK291 := n5_; have BK292 := n6_; have BK293 := n7_; have BK294 := n8_; have HB := n9_; clear n0_ n1_ n2_ n3_ n4_ n5_ n6_ n7_ n8_ n9_; (try clear hb); (try clear hb2); (try clear hk); (try clear hi); have hcz60_0 : w59.cell? ⟨gb294, 0, none⟩ = some (.bool t306) := (blk_cell BK294.out 0).trans rfl; have hcz60_1 : w59.cell? ⟨gb294, 1, none⟩ = some (.slice Ao46 t307.length co46) := (blk_cell BK294.out 1).trans rfl; have hfz60_0 := blk_frozen BK294.out 0; have hfz60_1 := blk_frozen BK294.out 1; have hnb61 := NB292_291.out; have hnc61 := NB291_292.out; have hnb62 := NB292_293.out; have hnc62 := NB293_292.out; have hcz63_0 : w59.cell? ⟨gb292, 0, none⟩ = some (.bool a1_0) := (blk_cell BK292.out 0).trans rfl; have hcz63_1 : w59.cell? ⟨gb292, 1, none⟩ = some (.slice A1_1 l1_1.length c1_1) := (blk_cell BK292.out 1).trans rfl; have hfz63_0 := blk_frozen BK292.out 0; have hfz63_1 := blk_frozen BK292.out 1))
    go_meet
    case rel => exact ⟨_, ((t306 != a1_0)), (by first | rfl | (simp; done) | (simp [*]; done) | (simp <;> omega)), H', ⟨by first | omega | exact Nat.le_refl _⟩, ⟨by (with_reducible repeat (first | apply Kd.V_alloc | apply Kd.V_drewN | apply Kd.V_drew)); exact Kd.V_mono HO0_1.out (fun _ hk => ⟨hk.1.1.1.1, ⟨hk.1.1.1.2, ⟨hk.1.1.2, ⟨hk.1.2, hk.2⟩⟩⟩⟩)⟩, ⟨by (with_reducible repeat (first | apply Kd.V_alloc | apply Kd.V_drewN | apply Kd.V_drew)); exact HO305.out⟩, ⟨by (with_reducible repeat (first | apply Kd.V_alloc | apply Kd.V_drewN | apply Kd.V_drew)); exact HO309.out⟩, ⟨by (with_reducible repeat (first | refine blk_drewN ?_ _ | refine blk_drew ?_ | refine blk_alloc ?_ _)); exact BK291.out⟩, ⟨by (with_reducible repeat (first | refine blk_drewN ?_ _ | refine blk_drew ?_ | refine blk_alloc ?_ _)); exact BK292.out⟩, ⟨by (with_reducible repeat (first | refine blk_drewN ?_ _ | refine blk_drew ?_ | refine blk_alloc ?_ _)); exact BK293.out⟩, ⟨by (with_reducible repeat (first | refine blk_drewN ?_ _ | refine blk_drew ?_ | refine blk_alloc ?_ _)); exact BK294.out⟩, ⟨by repeat (first | (with_reducible first | exact HB.out | apply below_alloc | apply pw_below_drewN | apply below_drew1 | refine below_set ?_ GE291.out | refine below_set ?_ GE292.out | refine below_set ?_ GE293.out | refine below_set ?_ GE294.out) | exact HB.out)⟩⟩
  case rest =>
   clear HC22
   try clear c1
   try clear c2
   try clear p2
   try clear c3
   try clear c4
   try clear c4b0
   try clear c4b1
   try clear c5
   try clear c6
   try clear c9
   try clear c10
   try clear c11
   try clear c14
   try clear c15
   try clear c17
   try clear c19
   try clear c27
   try clear c28
   try clear c29
   try clear c32
   try clear c33
   try clear c45
   try clear c49
   try clear c49b0
   try clear c49b1
   try clear c50
   try clear c51
   try clear c52
   try clear c55
   try clear c56
   try clear c57
   try clear c59
   try clear c61
   try clear c62
   try clear hcz12_0
   try clear hcz12_1
   try clear hcz16_0
   try clear hcz16_1
   try clear hcz18_0
   try clear hcz18_1
   try clear hcz30_0
   try clear hcz30_1
   try clear hcz34_0
   try clear hcz34_1
   try clear hcz35_0
   try clear hcz35_1
   try clear hcz53_0
   try clear hcz53_1
   try clear hcz58_0
   try clear hcz58_1
   try clear hcz60_0
   try clear hcz60_1
   try clear hcz63_0
   try clear hcz63_1
   try clear hfz12_0
   try clear hfz12_1
   try clear hfz16_0
   try clear hfz16_1
   try clear hfz18_0
   try clear hfz18_1
   try clear hfz30_0
   try clear hfz30_1
   try clear hfz34_0
   try clear hfz34_1
   try clear hfz35_0
   try clear hfz35_1
   try clear hfz53_0
   try clear hfz53_1
   try clear hfz58_0
   try clear hfz58_1
   try clear hfz60_0
   try clear hfz60_1
   try clear hfz63_0
   try clear hfz63_1
   obtain ⟨kq, x42_21, rfl, HA, HJ21, HO_292001, HO_294001, HO_295001, BK291, BK292, BK293, BK294, HB⟩ := hcut
   cases kq with
   | zero => exact absurd HA.out (by simp [integer_DivMod.j0])
   | succ kj21 =>
    have H := HA.out
    clear HA
    simp only [integer_DivMod.j0] at H
    by_cases c64 : x42_21 = true
    ·
     subst c64
     have H1 : ((integer_From.f kj21 1).bind fun bt311 => ((integer_Sub.f kj21 t302 t303 bt311.1 bt311.2).bind fun bt315 => ((integer_Add.f kj21 t306 t307 a1_0 l1_1).bind fun bt319 => (some (bt315.1, bt315.2, bt319.1, bt319.2, 0))))) = some (r1, r2, r3, r4, r5) := by rw [if_pos rfl] at H; exact H
     clear H
     have H := H1
     clear H1
     replace H := Option.bind_eq_some_iff.mp H
     obtain ⟨⟨t311, t312⟩, A650, H⟩ := H
     replace H : ((integer_Sub.f kj21 t302 t303 t311 t312).bind fun bt315 => ((integer_Add.f kj21 t306 t307 a1_0 l1_1).bind fun bt319 => (some (bt315.1, bt315.2, bt319.1, bt319.2, 0)))) = some (r1, r2, r3, r4, r5) := H
     have A65 := Aside0.mk A650
     clear A650
     replace H := Option.bind_eq_some_iff.mp H
     obtain ⟨⟨t315, t316⟩, A660, H⟩ := H
     replace H : ((integer_Add.f kj21 t306 t307 a1_0 l1_1).bind fun bt319 => (some (t315, t316, bt319.1, bt319.2, 0))) = some (r1, r2, r3, r4, r5) := H
     have A66 := Aside0.mk A660
     clear A660
     replace H := Option.bind_eq_some_iff.mp H
     obtain ⟨⟨t319, t320⟩, A670, H⟩ := H
     replace H : (some (t315, t316, t319, t320, 0)) = some (r1, r2, r3, r4, r5) := H
     have A67 := Aside0.mk A670
     clear A670
     simp only [Option.some.injEq, Prod.mk.injEq] at H
     obtain ⟨rfl, rfl, rfl, rfl, rfl⟩ := H
     try go_wp2
     have n0_ := Aside0.mk (Kd.V_drew HO_292001.out)
     have n1_ := Aside0.mk (Kd.V_drew HO_294001.out)
     have n2_ := Aside0.mk (Kd.V_drew HO_295001.out)
     have n3_ := Aside0.mk (blk_drew BK291.out)
     have n4_ := Aside0.mk (blk_drew BK292.out)
     have n5_ := Aside0.mk (blk_drew BK293.out)
     have n6_ := Aside0.mk (blk_drew BK294.out)
     have n7_ := Aside0.mk (below_drew1 HB.out)
     clear HO_292001
     clear HO_294001
     clear HO_295001
     clear BK291
     clear BK292
     clear BK293
     clear BK294
     clear HB
     have HO_292001 := n0_
     have HO_294001 := n1_
     have HO_295001 := n2_
     have BK291 := n3_
     have BK292 := n4_
     have BK293 := n5_
     have BK294 := n6_
     have HB := n7_
     clear n0_ n1_ n2_ n3_ n4_ n5_ n6_ n7_
     refine start_ (n := 8) (S := fun w' => w'.cell? ⟨gb293, 0, none⟩ = some (.bool t302) ∧ w'.cell? ⟨gb293, 1, none⟩ = some (.slice Ao43 t303.length co43) ∧ w'.cell? ⟨gb294, 0, none⟩ = some (.bool t306) ∧ w'.cell? ⟨gb294, 1, none⟩ = some (.slice Ao46 t307.length co46) ∧ w'.cell? ⟨gb292, 0, none⟩ = some (.bool a1_0) ∧ w'.cell? ⟨gb292, 1, none⟩ = some (.slice A1_1 l1_1.length c1_1)) (ds := [6, 7]) #[false, false, false, false, false, false, false, false] (by kernel_rfl) rfl rfl ⟨(blk_cell BK293.out 0).trans rfl, (blk_cell BK293.out 1).trans rfl, (blk_cell BK294.out 0).trans rfl, (blk_cell BK294.out 1).trans rfl, (blk_cell BK292.out 0).trans rfl, (blk_cell BK292.out 1).trans rfl⟩ (fun hHeld => ?_); refine with_tabW integer_DivMod.tab6 integer_DivMod.bits6 (fun HT_ HW_ => ?_)
     generalize wc.drew = w68 at HO_292001 HO_294001 HO_295001 BK291 BK292 BK293 BK294 HB hHeld ⊢
     refine take_ (i := 0) (N := some 43) (v := ?_) (a' := ?_) #[true, false, false, false, false, false, false, false] rfl rfl (take_ofW HT_.out HW_.out (by kernel_rfl)) (fun _ _ _ h => h) (Or.inl ⟨by rfl, ?_⟩) hHeld ?_ ?_
     rotate_left
     ·
      rintro w' ⟨s0, s1, s2, s3, s4, s5⟩
      go_simp
      with_reducible rfl
     rotate_left
     ·
      simp only [Act.put, List.setIfInBounds_toArray, List.set_cons_zero, List.set_cons_succ, i64_w, i32_w]
      rfl
     refine take_ (i := 3) (N := some 46) (v := ?_) (a' := ?_) #[true, false, false, true, false, false, false, false] rfl rfl (take_ofW HT_.out HW_.out (by kernel_rfl)) (fun _ _ _ h => h) (Or.inl ⟨by rfl, ?_⟩) hHeld ?_ ?_
     rotate_left
     ·
      rintro w' ⟨s0, s1, s2, s3, s4, s5⟩
      go_simp
      with_reducible rfl
     rotate_left
     ·
      simp only [Act.put, List.setIfInBounds_toArray, List.set_cons_zero, List.set_cons_succ, i64_w, i32_w]
      rfl
     refine take_ (i := 4) (N := some 47) (v := ?_) (a' := ?_) #[true, false, false, true, true, false, false, false] rfl rfl (take_ofW HT_.out HW_.out (by kernel_rfl)) (fun _ _ _ h => h) (Or.inl ⟨by rfl, ?_⟩) hHeld ?_ ?_
     rotate_left
     ·
      rintro w' ⟨s0, s1, s2, s3, s4, s5⟩
      go_simp
      with_reducible rfl
     rotate_left
     ·
      simp only [Act.put, List.setIfInBounds_toArray, List.set_cons_zero, List.set_cons_succ, i64_w, i32_w]
      rfl
     refine one_ (i := 1) (N := some 44) #[true, true, false, true, true, false, false, false] rfl rfl (one_of HT_.out (by kernel_rfl)) (by decide) (fun K hK => ?_)
     refine goes_ Tryd.func15 (by kernel_rfl) rfl #[.int .i64 1] (by rfl) rfl rfl (by (try simp only [List.map_toArray, List.map_cons, List.map_nil]); first | done | rfl | (simp only [List.length_drop, List.length_take]; rfl)) ?_
     with_reducible refine (integer_From.calls kj21 1 t311 t312 _ A65.out).mono ?_
     rintro e w69 ⟨v313, rfl, ho0, hb⟩
     refine ⟨_, rfl, ?_⟩
     have n0_ := Aside0.mk (Kd.V_below (by (with_reducible repeat (first | apply Kd.V_alloc | apply Kd.V_drewN | apply Kd.V_drew)); exact HO_292001.out) hb)
     have n1_ := Aside0.mk (Kd.V_below (by (with_reducible repeat (first | apply Kd.V_alloc | apply Kd.V_drewN | apply Kd.V_drew)); exact HO_294001.out) hb)
     have n2_ := Aside0.mk (Kd.V_below (by (with_reducible repeat (first | apply Kd.V_alloc | apply Kd.V_drewN | apply Kd.V_drew)); exact HO_295001.out) hb)
     have n3_ := Aside0.mk (Kd.V_lower (Kd.V_mono (ok' := fun k_ => (P0_1_ k_ ∨ w.heap.size ≤ k_) ∧ k_ ≠ gb291 ∧ k_ ≠ gb292 ∧ k_ ≠ gb293 ∧ k_ ≠ gb294) ho0 (fun k_ hk_ => ⟨(.inr (Nat.le_trans (below_size (by repeat (first | (with_reducible first | exact HB.out | apply below_alloc | apply pw_below_drewN | apply below_drew1 | refine below_set ?_ GE291.out | refine below_set ?_ GE292.out | refine below_set ?_ GE293.out | refine below_set ?_ GE294.out) | exact HB.out))) hk_)), (Kd.freshB (g := gb291) (o := .cells #[.bool a0_0, .slice A0_1 l0_1.length c0_1] 25 (0, 0)) (by (with_reducible repeat (first | refine blk_drewN ?_ _ | refine blk_drew ?_ | refine blk_alloc ?_ _)); exact BK291.out) k_ hk_), (Kd.freshB (g := gb292) (o := .cells #[.bool a1_0, .slice A1_1 l1_1.length c1_1] 25 (0, 0)) (by (with_reducible repeat (first | refine blk_drewN ?_ _ | refine blk_drew ?_ | refine blk_alloc ?_ _)); exact BK292.out) k_ hk_), (Kd.freshB (g := gb293) (o := .cells #[.bool t302, .slice Ao43 t303.length co43] 25 (0, 0)) (by (with_reducible repeat (first | refine blk_drewN ?_ _ | refine blk_drew ?_ | refine blk_alloc ?_ _)); exact BK293.out) k_ hk_), (Kd.freshB (g := gb294) (o := .cells #[.bool t306, .slice Ao46 t307.length co46] 25 (0, 0)) (by (with_reducible repeat (first | refine blk_drewN ?_ _ | refine blk_drew ?_ | refine blk_alloc ?_ _)); exact BK294.out) k_ hk_)⟩)) (below_size (by repeat (first | (with_reducible first | exact HB.out | apply below_alloc | apply pw_below_drewN | apply below_drew1 | refine below_set ?_ GE291.out | refine below_set ?_ GE292.out | refine below_set ?_ GE293.out | refine below_set ?_ GE294.out) | exact HB.out))))
     have n4_ := Aside0.mk (blk_below (g := gb291) (o := .cells #[.bool a0_0, .slice A0_1 l0_1.length c0_1] 25 (0, 0)) (by (with_reducible repeat (first | refine blk_drewN ?_ _ | refine blk_drew ?_ | refine blk_alloc ?_ _)); exact BK291.out) hb)
     have n5_ := Aside0.mk (blk_below (g := gb292) (o := .cells #[.bool a1_0, .slice A1_1 l1_1.length c1_1] 25 (0, 0)) (by (with_reducible repeat (first | refine blk_drewN ?_ _ | refine blk_drew ?_ | refine blk_alloc ?_ _)); exact BK292.out) hb)
     have n6_ := Aside0.mk (blk_below (g := gb293) (o := .cells #[.bool t302, .slice Ao43 t303.length co43] 25 (0, 0)) (by (with_reducible repeat (first | refine blk_drewN ?_ _ | refine blk_drew ?_ | refine blk_alloc ?_ _)); exact BK293.out) hb)
     have n7_ := Aside0.mk (blk_below (g := gb294) (o := .cells #[.bool t306, .slice Ao46 t307.length co46] 25 (0, 0)) (by (with_reducible repeat (first | refine blk_drewN ?_ _ | refine blk_drew ?_ | refine blk_alloc ?_ _)); exact BK294.out) hb)
     have n8_ := Aside0.mk (below_step (by repeat (first | (with_reducible first | exact HB.out | apply below_alloc | apply pw_below_drewN | apply below_drew1 | refine below_set ?_ GE291.out | refine below_set ?_ GE292.out | refine below_set ?_ GE293.out | refine below_set ?_ GE294.out) | exact HB.out)) hb)
     clear HO_292001
     clear HO_294001
     clear HO_295001
     clear BK291
     clear BK292
     clear BK293
     clear BK294
     clear HB
     have HO_292001 := n0_
     have HO_294001 := n1_
     have HO_295001 := n2_
     have HO314 := n3_
     have BK291 := n4_
     have BK292 := n5_
     have BK293 := n6_
     have BK294 := n7_
     have HB := n8_
     clear n0_ n1_ n2_ n3_ n4_ n5_ n6_ n7_ n8_
     (try clear hb)
     (try clear hb2)
     (try clear hk)
     (try clear hi)
     (try clear ho0)
     obtain ⟨Ao70, co70, eo70⟩ := Kd.V_slice HO314.out
     (first | subst eo70 | (injection eo70 with f1_ f2_ f3_; have f4_ := f1_.symm; have f5_ := f3_.symm; clear f1_ f2_ f3_; subst f4_; subst f5_))
     refine hK.out _ _ ⟨(blk_cell BK293.out 0).trans rfl, (blk_cell BK293.out 1).trans rfl, (blk_cell BK294.out 0).trans rfl, (blk_cell BK294.out 1).trans rfl, (blk_cell BK292.out 0).trans rfl, (blk_cell BK292.out 1).trans rfl⟩ (fun hHeld => ?_)
     clear hK K
     refine norm_ (a' := ?_) ?_ ?_
     rotate_left
     ·
      show Act.put _ (some 44) _ = _
      simp only [Act.put, List.setIfInBounds_toArray, List.set_cons_zero, List.set_cons_succ, i64_w, i32_w]
      rfl
     refine one_ (i := 2) (N := some 45) #[true, true, true, true, true, false, false, false] rfl rfl (one_of HT_.out (by kernel_rfl)) (by decide) (fun K hK => ?_)
     refine goes_ Tryd.func37 (by kernel_rfl) rfl #[.agg #[.bool t302, .slice Ao43 t303.length co43], .agg #[.bool t311, .slice Ao70 t312.length co70]] (by rfl) rfl rfl (by (try simp only [List.map_toArray, List.map_cons, List.map_nil]); first | done | rfl | (simp only [List.length_drop, List.length_take]; rfl)) ?_
     with_reducible refine (integer_Sub.calls kj21 t302 _ _ t303 t311 (fun k_ => ((P0_1_ k_ ∨ w.heap.size ≤ k_) ∧ (k_ ≠ gb291 ∧ (k_ ≠ gb292 ∧ (k_ ≠ gb293 ∧ k_ ≠ gb294))))) _ _ t312 t315 t316 _ ?side1 ?side2 ?side3 A66.out).mono ?_
     (case side1 => repeat (first | exact (Kd.V_reads' HO_294001.out).2.2 | (with_reducible refine Kd.C_alloc ?_ _) | (with_reducible refine Kd.C_drewN ?_ _) | (with_reducible refine Kd.C_drew ?_)))
     (case side2 => exact (Kd.V_reads' HO_294001.out).2.1)
     (case side3 => exact HO314.out)
     rintro e w71 ⟨v317, rfl, ho0, hb⟩
     refine ⟨_, rfl, ?_⟩
     have n0_ := Aside0.mk (Kd.V_below (by (with_reducible repeat (first | apply Kd.V_alloc | apply Kd.V_drewN | apply Kd.V_drew)); exact HO_292001.out) hb)
     have n1_ := Aside0.mk (Kd.V_below (by (with_reducible repeat (first | apply Kd.V_alloc | apply Kd.V_drewN | apply Kd.V_drew)); exact HO_294001.out) hb)
     have n2_ := Aside0.mk (Kd.V_below (by (with_reducible repeat (first | apply Kd.V_alloc | apply Kd.V_drewN | apply Kd.V_drew)); exact HO_295001.out) hb)
     have n3_ := Aside0.mk (Kd.V_below (by (with_reducible repeat (first | apply Kd.V_alloc | apply Kd.V_drewN | apply Kd.V_drew)); exact HO314.out) hb)
     have n4_ := Aside0.mk (Kd.V_lower (Kd.V_mono (ok' := fun k_ => (P0_1_ k_ ∨ w.heap.size ≤ k_) ∧ k_ ≠ gb291 ∧ k_ ≠ gb292 ∧ k_ ≠ gb293 ∧ k_ ≠ gb294) ho0 (fun k_ hk_ => ⟨Or.elim hk_ (fun hs_ => hs_.1) (fun hn_ => (.inr (Nat.le_trans (below_size (by repeat (first | (with_reducible first | exact HB.out | apply below_alloc | apply pw_below_drewN | apply below_drew1 | refine below_set ?_ GE291.out | refine below_set ?_ GE292.out | refine below_set ?_ GE293.out | refine below_set ?_ GE294.out) | exact HB.out))) hn_))), Or.elim hk_ (fun hs_ => hs_.2.1) (fun hn_ => (Kd.freshB (g := gb291) (o := .cells #[.bool a0_0, .slice A0_1 l0_1.length c0_1] 25 (0, 0)) (by (with_reducible repeat (first | refine blk_drewN ?_ _ | refine blk_drew ?_ | refine blk_alloc ?_ _)); exact BK291.out) k_ hn_)), Or.elim hk_ (fun hs_ => hs_.2.2.1) (fun hn_ => (Kd.freshB (g := gb292) (o := .cells #[.bool a1_0, .slice A1_1 l1_1.length c1_1] 25 (0, 0)) (by (with_reducible repeat (first | refine blk_drewN ?_ _ | refine blk_drew ?_ | refine blk_alloc ?_ _)); exact BK292.out) k_ hn_)), Or.elim hk_ (fun hs_ => hs_.2.2.2.1) (fun hn_ => (Kd.freshB (g := gb293) (o := .cells #[.bool t302, .slice Ao43 t303.length co43] 25 (0, 0)) (by (with_reducible repeat (first | refine blk_drewN ?_ _ | refine blk_drew ?_ | refine blk_alloc ?_ _)); exact BK293.out) k_ hn_)), Or.elim hk_ (fun hs_ => hs_.2.2.2.2) (fun hn_ => (Kd.freshB (g := gb294) (o := .cells #[.bool t306, .slice Ao46 t307.length co46] 25 (0, 0)) (by (with_reducible repeat (first | refine blk_drewN ?_ _ | refine blk_drew ?_ | refine blk_alloc ?_ _)); exact BK294.out) k_ hn_))⟩)) (below_size (by repeat (first | (with_reducible first | exact HB.out | apply below_alloc | apply pw_below_drewN | apply below_drew1 | refine below_set ?_ GE291.out | refine below_set ?_ GE292.out | refine below_set ?_ GE293.out | refine below_set ?_ GE294.out) | exact HB.out))))
     have n5_ := Aside0.mk (blk_below (g := gb291) (o := .cells #[.bool a0_0, .slice A0_1 l0_1.length c0_1] 25 (0, 0)) (by (with_reducible repeat (first | refine blk_drewN ?_ _ | refine blk_drew ?_ | refine blk_alloc ?_ _)); exact BK291.out) hb)
     have n6_ := Aside0.mk (blk_below (g := gb292) (o := .cells #[.bool a1_0, .slice A1_1 l1_1.length c1_1] 25 (0, 0)) (by (with_reducible repeat (first | refine blk_drewN ?_ _ | refine blk_drew ?_ | refine blk_alloc ?_ _)); exact BK292.out) hb)
     have n7_ := Aside0.mk (blk_below (g := gb293) (o := .cells #[.bool t302, .slice Ao43 t303.length co43] 25 (0, 0)) (by (with_reducible repeat (first | refine blk_drewN ?_ _ | refine blk_drew ?_ | refine blk_alloc ?_ _)); exact BK293.out) hb)
     have n8_ := Aside0.mk (blk_below (g := gb294) (o := .cells #[.bool t306, .slice Ao46 t307.length co46] 25 (0, 0)) (by (with_reducible repeat (first | refine blk_drewN ?_ _ | refine blk_drew ?_ | refine blk_alloc ?_ _)); exact BK294.out) hb)
     have n9_ := Aside0.mk (below_step (by repeat (first | (with_reducible first | exact HB.out | apply below_alloc | apply pw_below_drewN | apply below_drew1 | refine below_set ?_ GE291.out | refine below_set ?_ GE292.out | refine below_set ?_ GE293.out | refine below_set ?_ GE294.out) | exact HB.out)) hb)
     clear HO_292001
     clear HO_294001
     clear HO_295001
     clear HO314
     clear BK291
     clear BK292
     clear BK293
     clear BK294
     clear HB
     have HO_292001 := n0_
     have HO_294001 := n1_
     have HO_295001 := n2_
     have HO314 := n3_
     have HO318 := n4_
     have BK291 := n5_
     have BK292 := n6_
     have BK293 := n7_
     have BK294 := n8_
     have HB := n9_
     clear n0_ n1_ n2_ n3_ n4_ n5_ n6_ n7_ n8_ n9_
     (try clear hb)
     (try clear hb2)
     (try clear hk)
     (try clear hi)
     (try clear ho0)
     refine hK.out _ _ ⟨(blk_cell BK293.out 0).trans rfl, (blk_cell BK293.out 1).trans rfl, (blk_cell BK294.out 0).trans rfl, (blk_cell BK294.out 1).trans rfl, (blk_cell BK292.out 0).trans rfl, (blk_cell BK292.out 1).trans rfl⟩ (fun hHeld => ?_)
     clear hK K
     refine norm_ (a' := ?_) ?_ ?_
     rotate_left
     ·
      show Act.put _ (some 45) _ = _
      simp only [Act.put, List.setIfInBounds_toArray, List.set_cons_zero, List.set_cons_succ, i64_w, i32_w]
      rfl
     refine one_ (i := 5) (N := some 48) #[true, true, true, true, true, true, false, false] rfl rfl (one_of HT_.out (by kernel_rfl)) (by decide) (fun K hK => ?_)
     refine goes_ Tryd.func35 (by kernel_rfl) rfl #[.agg #[.bool t306, .slice Ao46 t307.length co46], .agg #[.bool a1_0, .slice A1_1 l1_1.length c1_1]] (by rfl) rfl rfl (by (try simp only [List.map_toArray, List.map_cons, List.map_nil]); first | done | rfl | (simp only [List.length_drop, List.length_take]; rfl)) ?_
     with_reducible refine (integer_Add.calls kj21 t306 _ _ t307 a1_0 _ _ l1_1 t319 t320 _ ?side1 ?side2 ?side3 ?side4 A67.out).mono ?_
     (case side1 => repeat (first | exact (Kd.V_reads' HO_295001.out).2.2 | (with_reducible refine Kd.C_alloc ?_ _) | (with_reducible refine Kd.C_drewN ?_ _) | (with_reducible refine Kd.C_drew ?_)))
     (case side2 => exact (Kd.V_reads' HO_295001.out).2.1)
     (case side3 => repeat (first | exact (Kd.C_below HR1_1.out HB.out) | (with_reducible refine Kd.C_alloc ?_ _) | (with_reducible refine Kd.C_drewN ?_ _) | (with_reducible refine Kd.C_drew ?_)))
     (case side4 => exact HC1_1.out)
     rintro e w72 ⟨v321, rfl, ho0, hb⟩
     refine ⟨_, rfl, ?_⟩
     have n0_ := Aside0.mk (Kd.V_below (by (with_reducible repeat (first | apply Kd.V_alloc | apply Kd.V_drewN | apply Kd.V_drew)); exact HO_292001.out) hb)
     have n1_ := Aside0.mk (Kd.V_below (by (with_reducible repeat (first | apply Kd.V_alloc | apply Kd.V_drewN | apply Kd.V_drew)); exact HO_294001.out) hb)
     have n2_ := Aside0.mk (Kd.V_below (by (with_reducible repeat (first | apply Kd.V_alloc | apply Kd.V_drewN | apply Kd.V_drew)); exact HO_295001.out) hb)
     have n3_ := Aside0.mk (Kd.V_below (by (with_reducible repeat (first | apply Kd.V_alloc | apply Kd.V_drewN | apply Kd.V_drew)); exact HO314.out) hb)
     have n4_ := Aside0.mk (Kd.V_below (by (with_reducible repeat (first | apply Kd.V_alloc | apply Kd.V_drewN | apply Kd.V_drew)); exact HO318.out) hb)
     have n5_ := Aside0.mk (Kd.V_lower (Kd.V_mono (ok' := fun k_ => (P0_1_ k_ ∨ w.heap.size ≤ k_) ∧ k_ ≠ gb291 ∧ k_ ≠ gb292 ∧ k_ ≠ gb293 ∧ k_ ≠ gb294) ho0 (fun k_ hk_ => ⟨(.inr (Nat.le_trans (below_size (by repeat (first | (with_reducible first | exact HB.out | apply below_alloc | apply pw_below_drewN | apply below_drew1 | refine below_set ?_ GE291.out | refine below_set ?_ GE292.out | refine below_set ?_ GE293.out | refine below_set ?_ GE294.out) | exact HB.out))) hk_)), (Kd.freshB (g := gb291) (o := .cells #[.bool a0_0, .slice A0_1 l0_1.length c0_1] 25 (0, 0)) (by (with_reducible repeat (first | refine blk_drewN ?_ _ | refine blk_drew ?_ | refine blk_alloc ?_ _)); exact BK291.out) k_ hk_), (Kd.freshB (g := gb292) (o := .cells #[.bool a1_0, .slice A1_1 l1_1.length c1_1] 25 (0, 0)) (by (with_reducible repeat (first | refine blk_drewN ?_ _ | refine blk_drew ?_ | refine blk_alloc ?_ _)); exact BK292.out) k_ hk_), (Kd.freshB (g := gb293) (o := .cells #[.bool t302, .slice Ao43 t303.length co43] 25 (0, 0)) (by (with_reducible repeat (first | refine blk_drewN ?_ _ | refine blk_drew ?_ | refine blk_alloc ?_ _)); exact BK293.out) k_ hk_), (Kd.freshB (g := gb294) (o := .cells #[.bool t306, .slice Ao46 t307.length co46] 25 (0, 0)) (by (with_reducible repeat (first | refine blk_drewN ?_ _ | refine blk_drew ?_ | refine blk_alloc ?_ _)); exact BK294.out) k_ hk_)⟩)) (below_size (by repeat (first | (with_reducible first | exact HB.out | apply below_alloc | apply pw_below_drewN | apply below_drew1 | refine below_set ?_ GE291.out | refine below_set ?_ GE292.out | refine below_set ?_ GE293.out | refine below_set ?_ GE294.out) | exact HB.out))))
     have n6_ := Aside0.mk (blk_below (g := gb291) (o := .cells #[.bool a0_0, .slice A0_1 l0_1.length c0_1] 25 (0, 0)) (by (with_reducible repeat (first | refine blk_drewN ?_ _ | refine blk_drew ?_ | refine blk_alloc ?_ _)); exact BK291.out) hb)
     have n7_ := Aside0.mk (blk_below (g := gb292) (o := .cells #[.bool a1_0, .slice A1_1 l1_1.length c1_1] 25 (0, 0)) (by (with_reducible repeat (first | refine blk_drewN ?_ _ | refine blk_drew ?_ | refine blk_alloc ?_ _)); exact BK292.out) hb)
     have n8_ := Aside0.mk (blk_below (g := gb293) (o := .cells #[.bool t302, .slice Ao43 t303.length co43] 25 (0, 0)) (by (with_reducible repeat (first | refine blk_drewN ?_ _ | refine blk_drew ?_ | refine blk_alloc ?_ _)); exact BK293.out) hb)
     have n9_ := Aside0.mk (blk_below (g := gb294) (o := .cells #[.bool t306, .slice Ao46 t307.length co46] 25 (0, 0)) (by (with_reducible repeat (first | refine blk_drewN ?_ _ | refine blk_drew ?_ | refine blk_alloc ?_ _)); exact BK294.out) hb)
     have n10_ := Aside0.mk (below_step (by repeat (first | (with_reducible first | exact HB.out | apply below_alloc | apply pw_below_drewN | apply below_drew1 | refine below_set ?_ GE291.out | refine below_set ?_ GE292.out | refine below_set ?_ GE293.out | refine below_set ?_ GE294.out) | exact HB.out)) hb)
     clear HO_292001
     clear HO_294001
     clear HO_295001
     clear HO314
     clear HO318
     clear BK291
     clear BK292
     clear BK293
     clear BK294
     clear HB
     have HO_292001 := n0_
     have HO_294001 := n1_
     have HO_295001 := n2_
     have HO314 := n3_
     have HO318 := n4_
     have HO322 := n5_
     have BK291 := n6_
     have BK292 := n7_
     have BK293 := n8_
     have BK294 := n9_
     have HB := n10_
     clear n0_ n1_ n2_ n3_ n4_ n5_ n6_ n7_ n8_ n9_ n10_
     (try clear hb)
     (try clear hb2)
     (try clear hk)
     (try clear hi)
     (try clear ho0)
     obtain ⟨Ao74, co74, eo74⟩ := Kd.V_slice HO318.out
     (first | subst eo74 | (injection eo74 with f1_ f2_ f3_; have f4_ := f1_.symm; have f5_ := f3_.symm; clear f1_ f2_ f3_; subst f4_; subst f5_))
     obtain ⟨Ao77, co77, eo77⟩ := Kd.V_slice HO322.out
     (first | subst eo77 | (injection eo77 with f1_ f2_ f3_; have f4_ := f1_.symm; have f5_ := f3_.symm; clear f1_ f2_ f3_; subst f4_; subst f5_))
     refine hK.out _ _ ⟨(blk_cell BK293.out 0).trans rfl, (blk_cell BK293.out 1).trans rfl, (blk_cell BK294.out 0).trans rfl, (blk_cell BK294.out 1).trans rfl, (blk_cell BK292.out 0).trans rfl, (blk_cell BK292.out 1).trans rfl⟩ (fun hHeld => ?_)
     clear hK K
     refine norm_ (a' := ?_) ?_ ?_
     rotate_left
     ·
      show Act.put _ (some 48) _ = _
      simp only [Act.put, List.setIfInBounds_toArray, List.set_cons_zero, List.set_cons_succ, i64_w, i32_w]
      rfl
     refine last_ (i := 6) (N := none) #[true, true, true, true, true, true, true, false] rfl rfl (one_of HT_.out (by kernel_rfl)) (by decide) (fun K hK => ?_)
     have hs73 : w72.cell? ⟨gb293, 0, none⟩ = some (.bool t302) := (blk_cell BK293.out 0).trans rfl
     have hfs73 := blk_frozen BK293.out 0
     have hns73_0 := NB291_293.out
     have hns73_1 := NB292_293.out
     have hns73_3 := NB294_293.out
     have hms73_0 := NB293_291.out
     have hms73_1 := NB293_292.out
     have hms73_3 := NB293_294.out
     have hs75 : w72.cell? ⟨gb293, 1, none⟩ = some (.slice Ao43 t303.length co43) := (blk_cell BK293.out 1).trans rfl
     have hfs75 := blk_frozen BK293.out 1
     have hns75_0 := NB291_293.out
     have hns75_1 := NB292_293.out
     have hns75_3 := NB294_293.out
     have hms75_0 := NB293_291.out
     have hms75_1 := NB293_292.out
     have hms75_3 := NB293_294.out
     refine skip_ (w1 := ?_) (by rfl) rfl ?_ ?_
     rotate_left
     ·
      go_simp
      rfl
     refine hK.out _ _ ?_
     clear hK K
     refine last_ (i := 7) (N := none) #[true, true, true, true, true, true, true, true] rfl rfl (one_of HT_.out (by kernel_rfl)) (by decide) (fun K hK => ?_)
     have hs76 : w72.cell? ⟨gb294, 0, none⟩ = some (.bool t306) := (blk_cell BK294.out 0).trans rfl
     have hfs76 := blk_frozen BK294.out 0
     have hns76_0 := NB291_294.out
     have hns76_1 := NB292_294.out
     have hns76_2 := NB293_294.out
     have hms76_0 := NB294_291.out
     have hms76_1 := NB294_292.out
     have hms76_2 := NB294_293.out
     have hs78 : w72.cell? ⟨gb294, 1, none⟩ = some (.slice Ao46 t307.length co46) := (blk_cell BK294.out 1).trans rfl
     have hfs78 := blk_frozen BK294.out 1
     have hns78_0 := NB291_294.out
     have hns78_1 := NB292_294.out
     have hns78_2 := NB293_294.out
     have hms78_0 := NB294_291.out
     have hms78_1 := NB294_292.out
     have hms78_2 := NB294_293.out
     refine skip_ (w1 := ?_) (by rfl) rfl ?_ ?_
     rotate_left
     ·
      go_simp
      rfl
     refine hK.out _ _ ?_
     clear hK K
     refine done_ (done_of HT_.out (by kernel_rfl)) ?_
     try go_wp2
     have n0_ : Aside0 (Kd.V (Kd.int .u32) 60 ((((w72.setCell ⟨gb293, 0, none⟩ (.bool t315)).setCell ⟨gb293, 1, none⟩ (.slice Ao74 t316.length co74)).setCell ⟨gb294, 0, none⟩ (.bool t319)).setCell ⟨gb294, 1, none⟩ (.slice Ao77 t320.length co77)) w.heap.size (fun k_ => (P0_1_ k_ ∨ w.heap.size ≤ k_) ∧ k_ ≠ gb291 ∧ k_ ≠ gb292 ∧ k_ ≠ gb293 ∧ k_ ≠ gb294) (.slice A0_1 l0_1.length c0_1) l0_1) := ⟨by (with_reducible repeat (first | apply Kd.V_alloc | apply Kd.V_drewN | apply Kd.V_drew)); exact Kd.V_mono (Kd.V_far (p := ⟨gb294, 1, none⟩) (Kd.V_far (p := ⟨gb294, 0, none⟩) (Kd.V_far (p := ⟨gb293, 1, none⟩) (Kd.V_far (p := ⟨gb293, 0, none⟩) (Kd.V_mono (Kd.V_mono HO_292001.out (fun k_ hk => (⟨hk, hk.2.2.2.1⟩ : _ ∧ k_ ≠ gb293))) (fun k_ hk => (⟨hk, hk.1.2.2.2.2⟩ : _ ∧ k_ ≠ gb294))) (fun _ hk => hk.1.2) (.bool t315)) (fun _ hk => hk.1.2) (.slice Ao74 t316.length co74)) (fun _ hk => hk.2) (.bool t319)) (fun _ hk => hk.2) (.slice Ao77 t320.length co77)) (fun _ hk => ⟨hk.1.1.1, ⟨hk.1.1.2.1, ⟨hk.1.1.2.2.1, ⟨hk.1.1.2.2.2.1, hk.1.1.2.2.2.2⟩⟩⟩⟩)⟩
     have n1_ : Aside0 (Kd.V (Kd.int .u32) 60 ((((w72.setCell ⟨gb293, 0, none⟩ (.bool t315)).setCell ⟨gb293, 1, none⟩ (.slice Ao74 t316.length co74)).setCell ⟨gb294, 0, none⟩ (.bool t319)).setCell ⟨gb294, 1, none⟩ (.slice Ao77 t320.length co77)) w.heap.size (fun k_ => (P0_1_ k_ ∨ w.heap.size ≤ k_) ∧ k_ ≠ gb291 ∧ k_ ≠ gb292 ∧ k_ ≠ gb293 ∧ k_ ≠ gb294) (.slice Ao43 t303.length co43) t303) := ⟨by (with_reducible repeat (first | apply Kd.V_alloc | apply Kd.V_drewN | apply Kd.V_drew)); exact Kd.V_mono (Kd.V_far (p := ⟨gb294, 1, none⟩) (Kd.V_far (p := ⟨gb294, 0, none⟩) (Kd.V_far (p := ⟨gb293, 1, none⟩) (Kd.V_far (p := ⟨gb293, 0, none⟩) (Kd.V_mono (Kd.V_mono HO_294001.out (fun k_ hk => (⟨hk, hk.2.2.2.1⟩ : _ ∧ k_ ≠ gb293))) (fun k_ hk => (⟨hk, hk.1.2.2.2.2⟩ : _ ∧ k_ ≠ gb294))) (fun _ hk => hk.1.2) (.bool t315)) (fun _ hk => hk.1.2) (.slice Ao74 t316.length co74)) (fun _ hk => hk.2) (.bool t319)) (fun _ hk => hk.2) (.slice Ao77 t320.length co77)) (fun _ hk => ⟨hk.1.1.1, ⟨hk.1.1.2.1, ⟨hk.1.1.2.2.1, ⟨hk.1.1.2.2.2.1, hk.1.1.2.2.2.2⟩⟩⟩⟩)⟩
     have n2_ : Aside0 (Kd.V (Kd.int .u32) 60 ((((w72.setCell ⟨gb293, 0, none⟩ (.bool t315)).setCell ⟨gb293, 1, none⟩ (.slice Ao74 t316.length co74)).setCell ⟨gb294, 0, none⟩ (.bool t319)).setCell ⟨gb294, 1, none⟩ (.slice Ao77 t320.length co77)) w.heap.size (fun k_ => (P0_1_ k_ ∨ w.heap.size ≤ k_) ∧ k_ ≠ gb291 ∧ k_ ≠ gb292 ∧ k_ ≠ gb293 ∧ k_ ≠ gb294) (.slice Ao46 t307.length co46) t307) := ⟨by (with_reducible repeat (first | apply Kd.V_alloc | apply Kd.V_drewN | apply Kd.V_drew)); exact Kd.V_mono (Kd.V_far (p := ⟨gb294, 1, none⟩) (Kd.V_far (p := ⟨gb294, 0, none⟩) (Kd.V_far (p := ⟨gb293, 1, none⟩) (Kd.V_far (p := ⟨gb293, 0, none⟩) (Kd.V_mono (Kd.V_mono HO_295001.out (fun k_ hk => (⟨hk, hk.2.2.2.1⟩ : _ ∧ k_ ≠ gb293))) (fun k_ hk => (⟨hk, hk.1.2.2.2.2⟩ : _ ∧ k_ ≠ gb294))) (fun _ hk => hk.1.2) (.bool t315)) (fun _ hk => hk.1.2) (.slice Ao74 t316.length co74)) (fun _ hk => hk.2) (.bool t319)) (fun _ hk => hk.2) (.slice Ao77 t320.length co77)) (fun _ hk => ⟨hk.1.1.1, ⟨hk.1.1.2.1, ⟨hk.1.1.2.2.1, ⟨hk.1.1.2.2.2.1, hk.1.1.2.2.2.2⟩⟩⟩⟩)⟩
     have n3_ : Aside0 (Kd.V (Kd.int .u32) 60 ((((w72.setCell ⟨gb293, 0, none⟩ (.bool t315)).setCell ⟨gb293, 1, none⟩ (.slice Ao74 t316.length co74)).setCell ⟨gb294, 0, none⟩ (.bool t319)).setCell ⟨gb294, 1, none⟩ (.slice Ao77 t320.length co77)) w.heap.size (fun k_ => (P0_1_ k_ ∨ w.heap.size ≤ k_) ∧ k_ ≠ gb291 ∧ k_ ≠ gb292 ∧ k_ ≠ gb293 ∧ k_ ≠ gb294) (.slice Ao70 t312.length co70) t312) := ⟨by (with_reducible repeat (first | apply Kd.V_alloc | apply Kd.V_drewN | apply Kd.V_drew)); exact Kd.V_mono (Kd.V_far (p := ⟨gb294, 1, none⟩) (Kd.V_far (p := ⟨gb294, 0, none⟩) (Kd.V_far (p := ⟨gb293, 1, none⟩) (Kd.V_far (p := ⟨gb293, 0, none⟩) (Kd.V_mono (Kd.V_mono HO314.out (fun k_ hk => (⟨hk, hk.2.2.2.1⟩ : _ ∧ k_ ≠ gb293))) (fun k_ hk => (⟨hk, hk.1.2.2.2.2⟩ : _ ∧ k_ ≠ gb294))) (fun _ hk => hk.1.2) (.bool t315)) (fun _ hk => hk.1.2) (.slice Ao74 t316.length co74)) (fun _ hk => hk.2) (.bool t319)) (fun _ hk => hk.2) (.slice Ao77 t320.length co77)) (fun _ hk => ⟨hk.1.1.1, ⟨hk.1.1.2.1, ⟨hk.1.1.2.2.1, ⟨hk.1.1.2.2.2.1, hk.1.1.2.2.2.2⟩⟩⟩⟩)⟩
     have n4_ : Aside0 (Kd.V (Kd.int .u32) 60 ((((w72.setCell ⟨gb293, 0, none⟩ (.bool t315)).setCell ⟨gb293, 1, none⟩ (.slice Ao74 t316.length co74)).setCell ⟨gb294, 0, none⟩ (.bool t319)).setCell ⟨gb294, 1, none⟩ (.slice Ao77 t320.length co77)) w.heap.size (fun k_ => (P0_1_ k_ ∨ w.heap.size ≤ k_) ∧ k_ ≠ gb291 ∧ k_ ≠ gb292 ∧ k_ ≠ gb293 ∧ k_ ≠ gb294) (.slice Ao74 t316.length co74) t316) := ⟨by (with_reducible repeat (first | apply Kd.V_alloc | apply Kd.V_drewN | apply Kd.V_drew)); exact Kd.V_mono (Kd.V_far (p := ⟨gb294, 1, none⟩) (Kd.V_far (p := ⟨gb294, 0, none⟩) (Kd.V_far (p := ⟨gb293, 1, none⟩) (Kd.V_far (p := ⟨gb293, 0, none⟩) (Kd.V_mono (Kd.V_mono HO318.out (fun k_ hk => (⟨hk, hk.2.2.2.1⟩ : _ ∧ k_ ≠ gb293))) (fun k_ hk => (⟨hk, hk.1.2.2.2.2⟩ : _ ∧ k_ ≠ gb294))) (fun _ hk => hk.1.2) (.bool t315)) (fun _ hk => hk.1.2) (.slice Ao74 t316.length co74)) (fun _ hk => hk.2) (.bool t319)) (fun _ hk => hk.2) (.slice Ao77 t320.length co77)) (fun _ hk => ⟨hk.1.1.1, ⟨hk.1.1.2.1, ⟨hk.1.1.2.2.1, ⟨hk.1.1.2.2.2.1, hk.1.1.2.2.2.2⟩⟩⟩⟩)⟩
     have n5_ : Aside0 (Kd.V (Kd.int .u32) 60 ((((w72.setCell ⟨gb293, 0, none⟩ (.bool t315)).setCell ⟨gb293, 1, none⟩ (.slice Ao74 t316.length co74)).setCell ⟨gb294, 0, none⟩ (.bool t319)).setCell ⟨gb294, 1, none⟩ (.slice Ao77 t320.length co77)) w.heap.size (fun k_ => (P0_1_ k_ ∨ w.heap.size ≤ k_) ∧ k_ ≠ gb291 ∧ k_ ≠ gb292 ∧ k_ ≠ gb293 ∧ k_ ≠ gb294) (.slice Ao77 t320.length co77) t320) := ⟨by (with_reducible repeat (first | apply Kd.V_alloc | apply Kd.V_drewN | apply Kd.V_drew)); exact Kd.V_mono (Kd.V_far (p := ⟨gb294, 1, none⟩) (Kd.V_far (p := ⟨gb294, 0, none⟩) (Kd.V_far (p := ⟨gb293, 1, none⟩) (Kd.V_far (p := ⟨gb293, 0, none⟩) (Kd.V_mono (Kd.V_mono HO322.out (fun k_ hk => (⟨hk, hk.2.2.2.1⟩ : _ ∧ k_ ≠ gb293))) (fun k_ hk => (⟨hk, hk.1.2.2.2.2⟩ : _ ∧ k_ ≠ gb294))) (fun _ hk => hk.1.2) (.bool t315)) (fun _ hk => hk.1.2) (.slice Ao74 t316.length co74)) (fun _ hk => hk.2) (.bool t319)) (fun _ hk => hk.2) (.slice Ao77 t320.length co77)) (fun _ hk => ⟨hk.1.1.1, ⟨hk.1.1.2.1, ⟨hk.1.1.2.2.1, ⟨hk.1.1.2.2.2.1, hk.1.1.2.2.2.2⟩⟩⟩⟩)⟩
     have n6_ : Aside0 (((((w72.setCell ⟨gb293, 0, none⟩ (.bool t315)).setCell ⟨gb293, 1, none⟩ (.slice Ao74 t316.length co74)).setCell ⟨gb294, 0, none⟩ (.bool t319)).setCell ⟨gb294, 1, none⟩ (.slice Ao77 t320.length co77)).heap[gb291]? = some (.cells #[.bool a0_0, .slice A0_1 l0_1.length c0_1] 25 (0, 0))) := ⟨by (with_reducible repeat (first | refine blk_drewN ?_ _ | refine blk_drew ?_ | refine blk_alloc ?_ _)); refine blk_far ?_ NB291_294.out _; (with_reducible repeat (first | refine blk_drewN ?_ _ | refine blk_drew ?_ | refine blk_alloc ?_ _)); refine blk_far ?_ NB291_294.out _; (with_reducible repeat (first | refine blk_drewN ?_ _ | refine blk_drew ?_ | refine blk_alloc ?_ _)); refine blk_far ?_ NB291_293.out _; (with_reducible repeat (first | refine blk_drewN ?_ _ | refine blk_drew ?_ | refine blk_alloc ?_ _)); refine blk_far ?_ NB291_293.out _; (with_reducible repeat (first | refine blk_drewN ?_ _ | refine blk_drew ?_ | refine blk_alloc ?_ _)); exact BK291.out⟩
     have n7_ : Aside0 (((((w72.setCell ⟨gb293, 0, none⟩ (.bool t315)).setCell ⟨gb293, 1, none⟩ (.slice Ao74 t316.length co74)).setCell ⟨gb294, 0, none⟩ (.bool t319)).setCell ⟨gb294, 1, none⟩ (.slice Ao77 t320.length co77)).heap[gb292]? = some (.cells #[.bool a1_0, .slice A1_1 l1_1.length c1_1] 25 (0, 0))) := ⟨by (with_reducible repeat (first | refine blk_drewN ?_ _ | refine blk_drew ?_ | refine blk_alloc ?_ _)); refine blk_far ?_ NB292_294.out _; (with_reducible repeat (first | refine blk_drewN ?_ _ | refine blk_drew ?_ | refine blk_alloc ?_ _)); refine blk_far ?_ NB292_294.out _; (with_reducible repeat (first | refine blk_drewN ?_ _ | refine blk_drew ?_ | refine blk_alloc ?_ _)); refine blk_far ?_ NB292_293.out _; (with_reducible repeat (first | refine blk_drewN ?_ _ | refine blk_drew ?_ | refine blk_alloc ?_ _)); refine blk_far ?_ NB292_293.out _; (with_reducible repeat (first | refine blk_drewN ?_ _ | refine blk_drew ?_ | refine blk_alloc ?_ _)); exact BK292.out⟩
     have n8_ : Aside0 (((((w72.setCell ⟨gb293, 0, none⟩ (.bool t315)).setCell ⟨gb293, 1, none⟩ (.slice Ao74 t316.length co74)).setCell ⟨gb294, 0, none⟩ (.bool t319)).setCell ⟨gb294, 1, none⟩ (.slice Ao77 t320.length co77)).heap[gb293]? = some (.cells #[.bool t315, .slice Ao74 t316.length co74] 25 (0, 0))) := ⟨by (with_reducible repeat (first | refine blk_drewN ?_ _ | refine blk_drew ?_ | refine blk_alloc ?_ _)); refine blk_far ?_ NB293_294.out _; (with_reducible repeat (first | refine blk_drewN ?_ _ | refine blk_drew ?_ | refine blk_alloc ?_ _)); refine blk_far ?_ NB293_294.out _; (with_reducible repeat (first | refine blk_drewN ?_ _ | refine blk_drew ?_ | refine blk_alloc ?_ _)); refine blk_put (cs := #[.bool t315, .slice Ao43 t303.length co43]) ?_ 1 _ rfl; (with_reducible repeat (first | refine blk_drewN ?_ _ | refine blk_drew ?_ | refine blk_alloc ?_ _)); refine blk_put (cs := #[.bool t302, .slice Ao43 t303.length co43]) ?_ 0 _ rfl; (with_reducible repeat (first | refine blk_drewN ?_ _ | refine blk_drew ?_ | refine blk_alloc ?_ _)); exact BK293.out⟩
     have n9_ : Aside0 (((((w72.setCell ⟨gb293, 0, none⟩ (.bool t315)).setCell ⟨gb293, 1, none⟩ (.slice Ao74 t316.length co74)).setCell ⟨gb294, 0, none⟩ (.bool t319)).setCell ⟨gb294, 1, none⟩ (.slice Ao77 t320.length co77)).heap[gb294]? = some (.cells #[.bool t319, .slice Ao77 t320.length co77] 25 (0, 0))) := ⟨by (with_reducible repeat (first | refine blk_drewN ?_ _ | refine blk_drew ?_ | refine blk_alloc ?_ _)); refine blk_put (cs := #[.bool t319, .slice Ao46 t307.length co46]) ?_ 1 _ rfl; (with_reducible repeat (first | refine blk_drewN ?_ _ | refine blk_drew ?_ | refine blk_alloc ?_ _)); refine blk_put (cs := #[.bool t306, .slice Ao46 t307.length co46]) ?_ 0 _ rfl; (with_reducible repeat (first | refine blk_drewN ?_ _ | refine blk_drew ?_ | refine blk_alloc ?_ _)); refine blk_far ?_ NB294_293.out _; (with_reducible repeat (first | refine blk_drewN ?_ _ | refine blk_drew ?_ | refine blk_alloc ?_ _)); refine blk_far ?_ NB294_293.out _; (with_reducible repeat (first | refine blk_drewN ?_ _ | refine blk_drew ?_ | refine blk_alloc ?_ _)); exact BK294.out⟩
     have n10_ : Aside0 (Below w.heap.size w ((((w72.setCell ⟨gb293, 0, none⟩ (.bool t315)).setCell ⟨gb293, 1, none⟩ (.slice Ao74 t316.length co74)).setCell ⟨gb294, 0, none⟩ (.bool t319)).setCell ⟨gb294, 1, none⟩ (.slice Ao77 t320.length co77))) := ⟨by repeat (first | (with_reducible first | exact HB.out | apply below_alloc | apply pw_below_drewN | apply below_drew1 | refine below_set ?_ GE291.out | refine below_set ?_ GE292.out | refine below_set ?_ GE293.out | refine below_set ?_ GE294.out) | exact HB.out)⟩
     (try clear HO_292001)
     (try clear HO_294001)
     (try clear HO_295001)
     (try clear HO314)
     (try clear HO318)
     (try clear HO322)
     (try clear BK291)
     (try clear BK292)
     (try clear BK293)
     (try clear BK294)
     (try clear HB)
     generalize ((((w72.setCell ⟨gb293, 0, none⟩ (.bool t315)).setCell ⟨gb293, 1, none⟩ (.slice Ao74 t316.length co74)).setCell ⟨gb294, 0, none⟩ (.bool t319)).setCell ⟨gb294, 1, none⟩ (.slice Ao77 t320.length co77)) = w79 at n0_ n1_ n2_ n3_ n4_ n5_ n6_ n7_ n8_ n9_ n10_ ⊢
     have HO_292001 := n0_
     have HO_294001 := n1_
     have HO_295001 := n2_
     have HO314 := n3_
     have HO318 := n4_
     have HO322 := n5_
     have BK291 := n6_
     have BK292 := n7_
     have BK293 := n8_
     have BK294 := n9_
     have HB := n10_
     clear n0_ n1_ n2_ n3_ n4_ n5_ n6_ n7_ n8_ n9_ n10_
     have n0_ := Aside0.mk (Kd.V_drew HO_292001.out)
     have n1_ := Aside0.mk (Kd.V_drew HO_294001.out)
     have n2_ := Aside0.mk (Kd.V_drew HO_295001.out)
     have n3_ := Aside0.mk (Kd.V_drew HO314.out)
     have n4_ := Aside0.mk (Kd.V_drew HO318.out)
     have n5_ := Aside0.mk (Kd.V_drew HO322.out)
     have n6_ := Aside0.mk (blk_drew BK291.out)
     have n7_ := Aside0.mk (blk_drew BK292.out)
     have n8_ := Aside0.mk (blk_drew BK293.out)
     have n9_ := Aside0.mk (blk_drew BK294.out)
     have n10_ := Aside0.mk (below_drew1 HB.out)
     clear HO_292001
     clear HO_294001
     clear HO_295001
     clear HO314
     clear HO318
     clear HO322
     clear BK291
     clear BK292
     clear BK293
     clear BK294
     clear HB
     have HO_292001 := n0_
     have HO_294001 := n1_
     have HO_295001 := n2_
     have HO314 := n3_
     have HO318 := n4_
     have HO322 := n5_
     have BK291 := n6_
     have BK292 := n7_
     have BK293 := n8_
     have BK294 := n9_
     have HB := n10_
     clear n0_ n1_ n2_ n3_ n4_ n5_ n6_ n7_ n8_ n9_ n10_
     refine start_ (n := 5) (S := fun w' => w'.cell? ⟨gb293, 0, none⟩ = some (.bool t315) ∧ w'.cell? ⟨gb293, 1, none⟩ = some (.slice Ao74 t316.length co74) ∧ w'.cell? ⟨gb294, 0, none⟩ = some (.bool t319) ∧ w'.cell? ⟨gb294, 1, none⟩ = some (.slice Ao77 t320.length co77)) (ds := []) #[false, false, false, false, false] (by kernel_rfl) rfl rfl ⟨(blk_cell BK293.out 0).trans rfl, (blk_cell BK293.out 1).trans rfl, (blk_cell BK294.out 0).trans rfl, (blk_cell BK294.out 1).trans rfl⟩ (fun hHeld => ?_)
     generalize w79.drew = w80 at HO_292001 HO_294001 HO_295001 HO314 HO318 HO322 BK291 BK292 BK293 BK294 HB hHeld ⊢
     refine take_ (i := 0) (N := some 49) (v := ?_) (a' := ?_) #[true, false, false, false, false] rfl rfl (by kernel_rfl) (fun _ _ _ h => h) (Or.inl ⟨by rfl, ?_⟩) hHeld ?_ ?_
     rotate_left
     ·
      rintro w' ⟨s0, s1, s2, s3⟩
      go_simp
      with_reducible rfl
     rotate_left
     ·
      simp only [Act.put, List.setIfInBounds_toArray, List.set_cons_zero, List.set_cons_succ, i64_w, i32_w]
      rfl
     refine take_ (i := 1) (N := some 50) (v := ?_) (a' := ?_) #[true, true, false, false, false] rfl rfl (by kernel_rfl) (fun _ _ _ h => h) (Or.inl ⟨by rfl, ?_⟩) hHeld ?_ ?_
     rotate_left
     ·
      rintro w' ⟨s0, s1, s2, s3⟩
      go_simp
      with_reducible rfl
     rotate_left
     ·
      simp only [Act.put, List.setIfInBounds_toArray, List.set_cons_zero, List.set_cons_succ, i64_w, i32_w]
      rfl
     refine one_ (i := 2) (N := none) #[true, true, true, false, false] rfl rfl (by kernel_rfl) (by decide) (fun K hK => ?_)
     have hs81 : w80.cell? ⟨gb293, 0, none⟩ = some (.bool t315) := (blk_cell BK293.out 0).trans rfl
     have hfs81 := blk_frozen BK293.out 0
     have hns81_0 := NB291_293.out
     have hns81_1 := NB292_293.out
     have hns81_3 := NB294_293.out
     have hms81_0 := NB293_291.out
     have hms81_1 := NB293_292.out
     have hms81_3 := NB293_294.out
     have hs82 : w80.cell? ⟨gb293, 1, none⟩ = some (.slice Ao74 t316.length co74) := (blk_cell BK293.out 1).trans rfl
     have hfs82 := blk_frozen BK293.out 1
     have hns82_0 := NB291_293.out
     have hns82_1 := NB292_293.out
     have hns82_3 := NB294_293.out
     have hms82_0 := NB293_291.out
     have hms82_1 := NB293_292.out
     have hms82_3 := NB293_294.out
     refine skip_ (w1 := ?_) (by rfl) rfl ?_ ?_
     rotate_left
     ·
      go_simp
      rfl
     refine hK.out _ _ ⟨(cell_same ((cell_same (hHeld.1) (hHeld.1))) ((cell_same (hHeld.2.1) (hHeld.1)))), (cell_same ((cell_same (hHeld.2.1) (hHeld.1))) ((cell_same (hHeld.2.1) (hHeld.1)))), ((cell_far (p := ⟨gb293, _, none⟩) NB294_293.out _).trans (((cell_far (p := ⟨gb293, _, none⟩) NB294_293.out _).trans (hHeld.2.2.1)))), ((cell_far (p := ⟨gb293, _, none⟩) NB294_293.out _).trans (((cell_far (p := ⟨gb293, _, none⟩) NB294_293.out _).trans (hHeld.2.2.2))))⟩ (fun hHeld => ?_)
     clear hK K
     refine one_ (i := 3) (N := none) #[true, true, true, true, false] rfl rfl (by kernel_rfl) (by decide) (fun K hK => ?_)
     have hs83 : w80.cell? ⟨gb294, 0, none⟩ = some (.bool t319) := (blk_cell BK294.out 0).trans rfl
     have hfs83 := blk_frozen BK294.out 0
     have hns83_0 := NB291_294.out
     have hns83_1 := NB292_294.out
     have hns83_2 := NB293_294.out
     have hms83_0 := NB294_291.out
     have hms83_1 := NB294_292.out
     have hms83_2 := NB294_293.out
     have hs84 : w80.cell? ⟨gb294, 1, none⟩ = some (.slice Ao77 t320.length co77) := (blk_cell BK294.out 1).trans rfl
     have hfs84 := blk_frozen BK294.out 1
     have hns84_0 := NB291_294.out
     have hns84_1 := NB292_294.out
     have hns84_2 := NB293_294.out
     have hms84_0 := NB294_291.out
     have hms84_1 := NB294_292.out
     have hms84_2 := NB294_293.out
     refine skip_ (w1 := ?_) (by rfl) rfl ?_ ?_
     rotate_left
     ·
      go_simp
      rfl
     refine hK.out _ _ ⟨((cell_far (p := ⟨gb294, _, none⟩) NB293_294.out _).trans (((cell_far (p := ⟨gb294, _, none⟩) NB293_294.out _).trans (hHeld.1)))), ((cell_far (p := ⟨gb294, _, none⟩) NB293_294.out _).trans (((cell_far (p := ⟨gb294, _, none⟩) NB293_294.out _).trans (hHeld.2.1)))), (cell_same ((cell_same (hHeld.2.2.1) (hHeld.2.2.1))) ((cell_same (hHeld.2.2.2) (hHeld.2.2.1)))), (cell_same ((cell_same (hHeld.2.2.2) (hHeld.2.2.1))) ((cell_same (hHeld.2.2.2) (hHeld.2.2.1))))⟩ (fun hHeld => ?_)
     clear hK K
     refine pure_ (i := 4) (N := some 6) (v := ?_) (a' := ?_) #[true, true, true, true, true] rfl rfl (by kernel_rfl) (fun _ _ _ h => h) (Or.inl ⟨by rfl, ?_⟩) ?_ ?_
     rotate_left
     ·
      intro w'
      go_simp
      with_reducible rfl
     rotate_left
     ·
      simp only [Act.put, List.setIfInBounds_toArray, List.set_cons_zero, List.set_cons_succ, i64_w, i32_w]
      rfl
     refine done_ (by kernel_rfl) ?_
     try go_wp2
     refine bodyPost_ret (results_list (rs := [.cell 4 25, .cell 5 25, .tmp 6]) rfl (by simp) (.cell gb293 25 #[.bool t315, .slice Ao74 t316.length co74] (0, 0) _ rfl (by (with_reducible repeat (first | refine blk_drewN ?_ _ | refine blk_drew ?_ | refine blk_alloc ?_ _)); refine blk_far ?_ NB293_294.out _; (with_reducible repeat (first | refine blk_drewN ?_ _ | refine blk_drew ?_ | refine blk_alloc ?_ _)); refine blk_far ?_ NB293_294.out _; (with_reducible repeat (first | refine blk_drewN ?_ _ | refine blk_drew ?_ | refine blk_alloc ?_ _)); refine blk_put (cs := #[.bool t315, .slice Ao74 t316.length co74]) ?_ 1 _ rfl; (with_reducible repeat (first | refine blk_drewN ?_ _ | refine blk_drew ?_ | refine blk_alloc ?_ _)); refine blk_put (cs := #[.bool t315, .slice Ao74 t316.length co74]) ?_ 0 _ rfl; (with_reducible repeat (first | refine blk_drewN ?_ _ | refine blk_drew ?_ | refine blk_alloc ?_ _)); exact BK293.out) Tryd.underlying25 rfl (by kernel_rfl) (.cell gb294 25 #[.bool t319, .slice Ao77 t320.length co77] (0, 0) _ rfl (by (with_reducible repeat (first | refine blk_drewN ?_ _ | refine blk_drew ?_ | refine blk_alloc ?_ _)); refine blk_put (cs := #[.bool t319, .slice Ao77 t320.length co77]) ?_ 1 _ rfl; (with_reducible repeat (first | refine blk_drewN ?_ _ | refine blk_drew ?_ | refine blk_alloc ?_ _)); refine blk_put (cs := #[.bool t319, .slice Ao77 t320.length co77]) ?_ 0 _ rfl; (with_reducible repeat (first | refine blk_drewN ?_ _ | refine blk_drew ?_ | refine blk_alloc ?_ _)); refine blk_far ?_ NB294_293.out _; (with_reducible repeat (first | refine blk_drewN ?_ _ | refine blk_drew ?_ | refine blk_alloc ?_ _)); refine blk_far ?_ NB294_293.out _; (with_reducible repeat (first | refine blk_drewN ?_ _ | refine blk_drew ?_ | refine blk_alloc ?_ _)); exact BK294.out) Tryd.underlying25 rfl (by kernel_rfl) (.tmp .nil)))) rfl ?_
     exact ⟨_, _, by first | rfl | (simp [errW_none, errW_some] <;> rfl) | (simp [*, errW_none, errW_some] <;> rfl), by (with_reducible repeat (first | apply Kd.V_alloc | apply Kd.V_drewN | apply Kd.V_drew)); exact Kd.V_mono (Kd.V_far (p := ⟨gb294, 1, none⟩) (Kd.V_far (p := ⟨gb294, 0, none⟩) (Kd.V_far (p := ⟨gb293, 1, none⟩) (Kd.V_far (p := ⟨gb293, 0, none⟩) (Kd.V_mono (Kd.V_mono HO318.out (fun k_ hk => (⟨hk, hk.2.2.2.1⟩ : _ ∧ k_ ≠ gb293))) (fun k_ hk => (⟨hk, hk.1.2.2.2.2⟩ : _ ∧ k_ ≠ gb294))) (fun _ hk => hk.1.2) (.bool t315)) (fun _ hk => hk.1.2) (.slice Ao74 t316.length co74)) (fun _ hk => hk.2) (.bool t319)) (fun _ hk => hk.2) (.slice Ao77 t320.length co77)) (fun _ hk => hk.1.1.1), by (with_reducible repeat (first | apply Kd.V_alloc | apply Kd.V_drewN | apply Kd.V_drew)); exact Kd.V_mono (Kd.V_far (p := ⟨gb294, 1, none⟩) (Kd.V_far (p := ⟨gb294, 0, none⟩) (Kd.V_far (p := ⟨gb293, 1, none⟩) (Kd.V_far (p := ⟨gb293, 0, none⟩) (Kd.V_mono (Kd.V_mono HO322.out (fun k_ hk => (⟨hk, hk.2.2.2.1⟩ : _ ∧ k_ ≠ gb293))) (fun k_ hk => (⟨hk, hk.1.2.2.2.2⟩ : _ ∧ k_ ≠ gb294))) (fun _ hk => hk.1.2) (.bool t315)) (fun _ hk => hk.1.2) (.slice Ao74 t316.length co74)) (fun _ hk => hk.2) (.bool t319)) (fun _ hk => hk.2) (.slice Ao77 t320.length co77)) (fun _ hk => hk.1.1.1), by repeat (first | (with_reducible first | exact HB.out | apply below_alloc | apply pw_below_drewN | apply below_drew1 | refine below_set ?_ GE291.out | refine below_set ?_ GE292.out | refine below_set ?_ GE293.out | refine below_set ?_ GE294.out) | exact HB.out)⟩
    ·
     replace c64 := Bool.eq_false_iff.mpr c64
     subst c64
     have H1 : (some (t302, t303, t306, t307, 0)) = some (r1, r2, r3, r4, r5) := by rw [if_neg (show ¬ (false = true) by decide)] at H; exact H
     clear H
     have H := H1
     clear H1
     simp only [Option.some.injEq, Prod.mk.injEq] at H
     obtain ⟨rfl, rfl, rfl, rfl, rfl⟩ := H
     try go_wp2
     have n0_ := Aside0.mk (Kd.V_drew HO_292001.out)
     have n1_ := Aside0.mk (Kd.V_drew HO_294001.out)
     have n2_ := Aside0.mk (Kd.V_drew HO_295001.out)
     have n3_ := Aside0.mk (blk_drew BK291.out)
     have n4_ := Aside0.mk (blk_drew BK292.out)
     have n5_ := Aside0.mk (blk_drew BK293.out)
     have n6_ := Aside0.mk (blk_drew BK294.out)
     have n7_ := Aside0.mk (below_drew1 HB.out)
     clear HO_292001
     clear HO_294001
     clear HO_295001
     clear BK291
     clear BK292
     clear BK293
     clear BK294
     clear HB
     have HO_292001 := n0_
     have HO_294001 := n1_
     have HO_295001 := n2_
     have BK291 := n3_
     have BK292 := n4_
     have BK293 := n5_
     have BK294 := n6_
     have HB := n7_
     clear n0_ n1_ n2_ n3_ n4_ n5_ n6_ n7_
     refine start_ (n := 5) (S := fun w' => w'.cell? ⟨gb293, 0, none⟩ = some (.bool t302) ∧ w'.cell? ⟨gb293, 1, none⟩ = some (.slice Ao43 t303.length co43) ∧ w'.cell? ⟨gb294, 0, none⟩ = some (.bool t306) ∧ w'.cell? ⟨gb294, 1, none⟩ = some (.slice Ao46 t307.length co46)) (ds := []) #[false, false, false, false, false] (by kernel_rfl) rfl rfl ⟨(blk_cell BK293.out 0).trans rfl, (blk_cell BK293.out 1).trans rfl, (blk_cell BK294.out 0).trans rfl, (blk_cell BK294.out 1).trans rfl⟩ (fun hHeld => ?_)
     generalize wc.drew = w85 at HO_292001 HO_294001 HO_295001 BK291 BK292 BK293 BK294 HB hHeld ⊢
     refine take_ (i := 0) (N := some 49) (v := ?_) (a' := ?_) #[true, false, false, false, false] rfl rfl (by kernel_rfl) (fun _ _ _ h => h) (Or.inl ⟨by rfl, ?_⟩) hHeld ?_ ?_
     rotate_left
     ·
      rintro w' ⟨s0, s1, s2, s3⟩
      go_simp
      with_reducible rfl
     rotate_left
     ·
      simp only [Act.put, List.setIfInBounds_toArray, List.set_cons_zero, List.set_cons_succ, i64_w, i32_w]
      rfl
     refine take_ (i := 1) (N := some 50) (v := ?_) (a' := ?_) #[true, true, false, false, false] rfl rfl (by kernel_rfl) (fun _ _ _ h => h) (Or.inl ⟨by rfl, ?_⟩) hHeld ?_ ?_
     rotate_left
     ·
      rintro w' ⟨s0, s1, s2, s3⟩
      go_simp
      with_reducible rfl
     rotate_left
     ·
      simp only [Act.put, List.setIfInBounds_toArray, List.set_cons_zero, List.set_cons_succ, i64_w, i32_w]
      rfl
     refine one_ (i := 2) (N := none) #[true, true, true, false, false] rfl rfl (by kernel_rfl) (by decide) (fun K hK => ?_)
     have hs86 : w85.cell? ⟨gb293, 0, none⟩ = some (.bool t302) := (blk_cell BK293.out 0).trans rfl
     have hfs86 := blk_frozen BK293.out 0
     have hns86_0 := NB291_293.out
     have hns86_1 := NB292_293.out
     have hns86_3 := NB294_293.out
     have hms86_0 := NB293_291.out
     have hms86_1 := NB293_292.out
     have hms86_3 := NB293_294.out
     have hs87 : w85.cell? ⟨gb293, 1, none⟩ = some (.slice Ao43 t303.length co43) := (blk_cell BK293.out 1).trans rfl
     have hfs87 := blk_frozen BK293.out 1
     have hns87_0 := NB291_293.out
     have hns87_1 := NB292_293.out
     have hns87_3 := NB294_293.out
     have hms87_0 := NB293_291.out
     have hms87_1 := NB293_292.out
     have hms87_3 := NB293_294.out
     refine skip_ (w1 := ?_) (by rfl) rfl ?_ ?_
     rotate_left
     ·
      go_simp
      rfl
     refine hK.out _ _ ⟨(cell_same ((cell_same (hHeld.1) (hHeld.1))) ((cell_same (hHeld.2.1) (hHeld.1)))), (cell_same ((cell_same (hHeld.2.1) (hHeld.1))) ((cell_same (hHeld.2.1) (hHeld.1)))), ((cell_far (p := ⟨gb293, _, none⟩) NB294_293.out _).trans (((cell_far (p := ⟨gb293, _, none⟩) NB294_293.out _).trans (hHeld.2.2.1)))), ((cell_far (p := ⟨gb293, _, none⟩) NB294_293.out _).trans (((cell_far (p := ⟨gb293, _, none⟩) NB294_293.out _).trans (hHeld.2.2.2))))⟩ (fun hHeld => ?_)
     clear hK K
     refine one_ (i := 3) (N := none) #[true, true, true, true, false] rfl rfl (by kernel_rfl) (by decide) (fun K hK => ?_)
     have hs88 : w85.cell? ⟨gb294, 0, none⟩ = some (.bool t306) := (blk_cell BK294.out 0).trans rfl
     have hfs88 := blk_frozen BK294.out 0
     have hns88_0 := NB291_294.out
     have hns88_1 := NB292_294.out
     have hns88_2 := NB293_294.out
     have hms88_0 := NB294_291.out
     have hms88_1 := NB294_292.out
     have hms88_2 := NB294_293.out
     have hs89 : w85.cell? ⟨gb294, 1, none⟩ = some (.slice Ao46 t307.length co46) := (blk_cell BK294.out 1).trans rfl
     have hfs89 := blk_frozen BK294.out 1
     have hns89_0 := NB291_294.out
     have hns89_1 := NB292_294.out
     have hns89_2 := NB293_294.out
     have hms89_0 := NB294_291.out
     have hms89_1 := NB294_292.out
     have hms89_2 := NB294_293.out
     refine skip_ (w1 := ?_) (by rfl) rfl ?_ ?_
     rotate_left
     ·
      go_simp
      rfl
     refine hK.out _ _ ⟨((cell_far (p := ⟨gb294, _, none⟩) NB293_294.out _).trans (((cell_far (p := ⟨gb294, _, none⟩) NB293_294.out _).trans (hHeld.1)))), ((cell_far (p := ⟨gb294, _, none⟩) NB293_294.out _).trans (((cell_far (p := ⟨gb294, _, none⟩) NB293_294.out _).trans (hHeld.2.1)))), (cell_same ((cell_same (hHeld.2.2.1) (hHeld.2.2.1))) ((cell_same (hHeld.2.2.2) (hHeld.2.2.1)))), (cell_same ((cell_same (hHeld.2.2.2) (hHeld.2.2.1))) ((cell_same (hHeld.2.2.2) (hHeld.2.2.1))))⟩ (fun hHeld => ?_)
     clear hK K
     refine pure_ (i := 4) (N := some 6) (v := ?_) (a' := ?_) #[true, true, true, true, true] rfl rfl (by kernel_rfl) (fun _ _ _ h => h) (Or.inl ⟨by rfl, ?_⟩) ?_ ?_
     rotate_left
     ·
      intro w'
      go_simp
      with_reducible rfl
     rotate_left
     ·
      simp only [Act.put, List.setIfInBounds_toArray, List.set_cons_zero, List.set_cons_succ, i64_w, i32_w]
      rfl
     refine done_ (by kernel_rfl) ?_
     try go_wp2
     refine bodyPost_ret (results_list (rs := [.cell 4 25, .cell 5 25, .tmp 6]) rfl (by simp) (.cell gb293 25 #[.bool t302, .slice Ao43 t303.length co43] (0, 0) _ rfl (by (with_reducible repeat (first | refine blk_drewN ?_ _ | refine blk_drew ?_ | refine blk_alloc ?_ _)); refine blk_far ?_ NB293_294.out _; (with_reducible repeat (first | refine blk_drewN ?_ _ | refine blk_drew ?_ | refine blk_alloc ?_ _)); refine blk_far ?_ NB293_294.out _; (with_reducible repeat (first | refine blk_drewN ?_ _ | refine blk_drew ?_ | refine blk_alloc ?_ _)); refine blk_put (cs := #[.bool t302, .slice Ao43 t303.length co43]) ?_ 1 _ rfl; (with_reducible repeat (first | refine blk_drewN ?_ _ | refine blk_drew ?_ | refine blk_alloc ?_ _)); refine blk_put (cs := #[.bool t302, .slice Ao43 t303.length co43]) ?_ 0 _ rfl; (with_reducible repeat (first | refine blk_drewN ?_ _ | refine blk_drew ?_ | refine blk_alloc ?_ _)); exact BK293.out) Tryd.underlying25 rfl (by kernel_rfl) (.cell gb294 25 #[.bool t306, .slice Ao46 t307.length co46] (0, 0) _ rfl (by (with_reducible repeat (first | refine blk_drewN ?_ _ | refine blk_drew ?_ | refine blk_alloc ?_ _)); refine blk_put (cs := #[.bool t306, .slice Ao46 t307.length co46]) ?_ 1 _ rfl; (with_reducible repeat (first | refine blk_drewN ?_ _ | refine blk_drew ?_ | refine blk_alloc ?_ _)); refine blk_put (cs := #[.bool t306, .slice Ao46 t307.length co46]) ?_ 0 _ rfl; (with_reducible repeat (first | refine blk_drewN ?_ _ | refine blk_drew ?_ | refine blk_alloc ?_ _)); refine blk_far ?_ NB294_293.out _; (with_reducible repeat (first | refine blk_drewN ?_ _ | refine blk_drew ?_ | refine blk_alloc ?_ _)); refine blk_far ?_ NB294_293.out _; (with_reducible repeat (first | refine blk_drewN ?_ _ | refine blk_drew ?_ | refine blk_alloc ?_ _)); exact BK294.out) Tryd.underlying25 rfl (by kernel_rfl) (.tmp .nil)))) rfl ?_
     exact ⟨_, _, by first | rfl | (simp [errW_none, errW_some] <;> rfl) | (simp [*, errW_none, errW_some] <;> rfl), by (with_reducible repeat (first | apply Kd.V_alloc | apply Kd.V_drewN | apply Kd.V_drew)); exact Kd.V_mono (Kd.V_far (p := ⟨gb294, 1, none⟩) (Kd.V_far (p := ⟨gb294, 0, none⟩) (Kd.V_far (p := ⟨gb293, 1, none⟩) (Kd.V_far (p := ⟨gb293, 0, none⟩) (Kd.V_mono (Kd.V_mono HO_294001.out (fun k_ hk => (⟨hk, hk.2.2.2.1⟩ : _ ∧ k_ ≠ gb293))) (fun k_ hk => (⟨hk, hk.1.2.2.2.2⟩ : _ ∧ k_ ≠ gb294))) (fun _ hk => hk.1.2) (.bool t302)) (fun _ hk => hk.1.2) (.slice Ao43 t303.length co43)) (fun _ hk => hk.2) (.bool t306)) (fun _ hk => hk.2) (.slice Ao46 t307.length co46)) (fun _ hk => hk.1.1.1), by (with_reducible repeat (first | apply Kd.V_alloc | apply Kd.V_drewN | apply Kd.V_drew)); exact Kd.V_mono (Kd.V_far (p := ⟨gb294, 1, none⟩) (Kd.V_far (p := ⟨gb294, 0, none⟩) (Kd.V_far (p := ⟨gb293, 1, none⟩) (Kd.V_far (p := ⟨gb293, 0, none⟩) (Kd.V_mono (Kd.V_mono HO_295001.out (fun k_ hk => (⟨hk, hk.2.2.2.1⟩ : _ ∧ k_ ≠ gb293))) (fun k_ hk => (⟨hk, hk.1.2.2.2.2⟩ : _ ∧ k_ ≠ gb294))) (fun _ hk => hk.1.2) (.bool t302)) (fun _ hk => hk.1.2) (.slice Ao43 t303.length co43)) (fun _ hk => hk.2) (.bool t306)) (fun _ hk => hk.2) (.slice Ao46 t307.length co46)) (fun _ hk => hk.1.1.1), by repeat (first | (with_reducible first | exact HB.out | apply below_alloc | apply pw_below_drewN | apply below_drew1 | refine below_set ?_ GE291.out | refine below_set ?_ GE292.out | refine below_set ?_ GE293.out | refine below_set ?_ GE294.out) | exact HB.out)⟩
def integer_Gcd.l0 : Nat → List Int → List Int → Option (Bool × List Int)
 | 0, _, _ => none
 | k + 1, x5, x6 => if (x6.length : Int) > 0 then ((integer_divide.f k x5 x6).bind fun bt326 => (integer_Gcd.l0 k x6 bt326.2)) else (some (false, x5))
def integer_Gcd.f (k : Nat) (a0_0 : Bool) (l0_1 : List Int) (a1_0 : Bool) (l1_1 : List Int) : Option (Bool × List Int) := integer_Gcd.l0 k l0_1 l1_1
theorem integer_Gcd.mono_l : ∀ k, (∀ y0 y1, LeO (integer_Gcd.l0 k y0 y1) (integer_Gcd.l0 (k + 1) y0 y1))
 | 0 => fun _ _ r h => by simp [integer_Gcd.l0] at h
 | k + 1 => by
  have ih0 := integer_Gcd.mono_l k
  ·
   intro y0 y1
   unfold integer_Gcd.l0
   repeat' first
   | (with_reducible exact ih0 _ _)
   | (with_reducible exact integer_divide.mono _ _ _)
   | (with_reducible exact LeO.refl _)
   | (with_reducible exact LeO.none _)
   | (with_reducible refine LeO.ite ?_ ?_)
   | (with_reducible refine LeO.bind ?_ (fun _ => ?_))
   | exact ih0 _ _
   | exact integer_divide.mono _ _ _
   | exact LeO.none _
   | refine LeO.ite ?_ ?_
   | refine LeO.bind ?_ (fun _ => ?_)
theorem integer_Gcd.mono : ∀ a0 a1 a2 a3 k, LeO (integer_Gcd.f k a0 a1 a2 a3) (integer_Gcd.f (k + 1) a0 a1 a2 a3) := by
 intro a0 a1 a2 a3 k
 have ih0 := integer_Gcd.mono_l k
 unfold integer_Gcd.f
 repeat' first
   | (with_reducible exact ih0 _ _)
   | (with_reducible exact integer_divide.mono _ _ _)
   | (with_reducible exact LeO.refl _)
   | (with_reducible exact LeO.none _)
   | (with_reducible refine LeO.ite ?_ ?_)
   | (with_reducible refine LeO.bind ?_ (fun _ => ?_))
   | exact ih0 _ _
   | exact integer_divide.mono _ _ _
   | exact LeO.none _
   | refine LeO.ite ?_ ?_
   | refine LeO.bind ?_ (fun _ => ?_)
set_option maxHeartbeats 8000000 in
set_option maxRecDepth 100000 in
theorem integer_Gcd.calls (k : Nat) (a0_0 : Bool) (P0_1_ : Nat → Prop) (A0_1 : Option Addr) (c0_1 : Nat) (l0_1 : List Int) (a1_0 : Bool) (P1_1_ : Nat → Prop) (A1_1 : Option Addr) (c1_1 : Nat) (l1_1 : List Int) (r1 : Bool) (r2 : List Int) (w : World) (hs0_1 : Kd.V (Kd.int .u32) 60 w w.heap.size (fun k_ => P0_1_ k_) (.slice A0_1 l0_1.length c0_1) l0_1) (hs1_1 : Kd.V (Kd.int .u32) 60 w w.heap.size (fun k_ => P1_1_ k_) (.slice A1_1 l1_1.length c1_1) l1_1) (h : integer_Gcd.f k a0_0 l0_1 a1_0 l1_1 = some (r1, r2)) :
  Calls Tryd.prog 29 #[.agg #[.bool a0_0, .slice A0_1 l0_1.length c0_1], .agg #[.bool a1_0, .slice A1_1 l1_1.length c1_1]] w fun e w' => ∃ v1_ : Value, e = .returned (.agg #[.bool r1, v1_]) ∧ Kd.V (Kd.int .u32) 60 w' w.heap.size (fun k_ => ((P0_1_ k_ ∨ P1_1_ k_) ∨ w.heap.size ≤ k_)) v1_ r2 ∧ Below w.heap.size w w' := by
 have hu25 := Tryd.underlying25
 have HO0_1 := Aside0.mk (show Kd.V (Kd.int .u32) 60 w w.heap.size (fun k_ => ((P0_1_ k_ ∨ P1_1_ k_) ∨ w.heap.size ≤ k_)) (.slice A0_1 l0_1.length c0_1) l0_1 from Kd.V_mono hs0_1 (fun k_ hk => .inl (.inl hk)))
 have HO1_1 := Aside0.mk (show Kd.V (Kd.int .u32) 60 w w.heap.size (fun k_ => ((P0_1_ k_ ∨ P1_1_ k_) ∨ w.heap.size ≤ k_)) (.slice A1_1 l1_1.length c1_1) l1_1 from Kd.V_mono hs1_1 (fun k_ hk => .inl (.inr hk)))
 have HB := Aside0.mk (Below.refl w.heap.size w)
 have H : (integer_Gcd.l0 k l0_1 l1_1) = some (r1, r2) := h
 clear h
 have H' := Aside0.mk H
 clear H
 go_enter Tryd.func29, Tryd.ntmps29
 go_wp2_with (first | ((with_reducible refine gate_dst (N := 2) rfl ?_); refine box_event ?hg (N := 2) ?hd (cs := #[.bool a0_0, .slice A0_1 l0_1.length c0_1]) (t := 25) ?hr ?_; (case hd => rfl); (case hg => rfl); (case hr => first | (go_simp; done) | (go_simp; rfl)); intro gb323 hg w3 hbox hb; have n0_ := Aside0.mk (Kd.V_below (Kd.V_elderB (by (with_reducible repeat (first | apply Kd.V_alloc | apply Kd.V_drewN | apply Kd.V_drew)); exact HO0_1.out) gb323 (Nat.le_of_eq hg.symm)) hb); have n1_ := Aside0.mk (Kd.V_below (Kd.V_elderB (by (with_reducible repeat (first | apply Kd.V_alloc | apply Kd.V_drewN | apply Kd.V_drew)); exact HO1_1.out) gb323 (Nat.le_of_eq hg.symm)) hb); have n2_ := Aside0.mk (below_step (by repeat (first | (with_reducible first | exact HB.out | apply below_alloc | apply pw_below_drewN | apply below_drew1) | exact HB.out)) hb); have n3_ := Aside0.mk (hbox); have n4_ := Aside0.mk ((by rw [hg]; exact (below_size (by repeat (first | (with_reducible first | exact HB.out | apply below_alloc | apply pw_below_drewN | apply below_drew1) | exact HB.out))) : w.heap.size ≤ gb323)); have n5_ := Aside0.mk ((by rw [hg]; exact (below_size (by repeat (first | (with_reducible first | exact HB.out | apply below_alloc | apply pw_below_drewN | apply below_drew1) | exact HB.out))) : w.heap.size ≤ gb323)); clear HO0_1; clear HO1_1; clear HB; have HO0_1 := n0_; have HO1_1 := n1_; have HB := n2_; have BK323 := n3_; have GW323 := n4_; have GE323 := n5_; clear n0_ n1_ n2_ n3_ n4_ n5_; clear hb hbox hg) | ((with_reducible refine gate_dst (N := 3) rfl ?_); refine box_event ?hg (N := 3) ?hd (cs := #[.bool a1_0, .slice A1_1 l1_1.length c1_1]) (t := 25) ?hr ?_; (case hd => rfl); (case hg => rfl); (case hr => first | (go_simp; done) | (go_simp; rfl)); intro gb324 hg w4 hbox hb; have n0_ := Aside0.mk (Kd.V_below (Kd.V_elderB (by (with_reducible repeat (first | apply Kd.V_alloc | apply Kd.V_drewN | apply Kd.V_drew)); exact HO0_1.out) gb324 (Nat.le_of_eq hg.symm)) hb); have n1_ := Aside0.mk (Kd.V_below (Kd.V_elderB (by (with_reducible repeat (first | apply Kd.V_alloc | apply Kd.V_drewN | apply Kd.V_drew)); exact HO1_1.out) gb324 (Nat.le_of_eq hg.symm)) hb); have n2_ := Aside0.mk (blk_below (g := gb323) (o := .cells #[.bool a0_0, .slice A0_1 l0_1.length c0_1] 25 (0, 0)) (by (with_reducible repeat (first | refine blk_drewN ?_ _ | refine blk_drew ?_ | refine blk_alloc ?_ _)); exact BK323.out) hb); have n3_ := Aside0.mk (below_step (by repeat (first | (with_reducible first | exact HB.out | apply below_alloc | apply pw_below_drewN | apply below_drew1 | refine below_set ?_ GE323.out) | exact HB.out)) hb); have n4_ := Aside0.mk (hbox); have n5_ := Aside0.mk ((by rw [hg]; exact (below_size (by repeat (first | (with_reducible first | exact HB.out | apply below_alloc | apply pw_below_drewN | apply below_drew1 | refine below_set ?_ GE323.out) | exact HB.out))) : w.heap.size ≤ gb324)); have n6_ := Aside0.mk ((by rw [hg]; exact (below_size (by repeat (first | (with_reducible first | exact HB.out | apply below_alloc | apply pw_below_drewN | apply below_drew1 | refine below_set ?_ GE323.out) | exact HB.out))) : w.heap.size ≤ gb324)); have n7_ := Aside0.mk ((by rw [hg]; exact Nat.ne_of_lt (blk_lt (g := gb323) (o := .cells #[.bool a0_0, .slice A0_1 l0_1.length c0_1] 25 (0, 0)) (by (with_reducible repeat (first | refine blk_drewN ?_ _ | refine blk_drew ?_ | refine blk_alloc ?_ _)); exact BK323.out)) : gb323 ≠ gb324)); have n8_ := Aside0.mk ((by rw [hg]; exact Nat.ne_of_gt (blk_lt (g := gb323) (o := .cells #[.bool a0_0, .slice A0_1 l0_1.length c0_1] 25 (0, 0)) (by (with_reducible repeat (first | refine blk_drewN ?_ _ | refine blk_drew ?_ | refine blk_alloc ?_ _)); exact BK323.out)) : gb324 ≠ gb323)); clear HO0_1; clear HO1_1; clear BK323; clear HB; have HO0_1 := n0_; have HO1_1 := n1_; have BK323 := n2_; have HB := n3_; have BK324 := n4_; have GW324 := n5_; have GE324 := n6_; have NB323_324 := n7_; have NB324_323 := n8_; clear n0_ n1_ n2_ n3_ n4_ n5_ n6_ n7_ n8_; clear hb hbox hg) | ((with_reducible refine gate_dst (N := 4) rfl ?_); refine box_event ?hg (N := 4) ?hd (cs := #[.bool false, .slice none 0 0]) (t := 25) ?hr ?_; (case hd => rfl); (case hg => rfl); (case hr => first | (go_simp; done) | (go_simp; rfl)); intro gb325 hg w5 hbox hb; have n0_ := Aside0.mk (Kd.V_below (Kd.V_elderB (by (with_reducible repeat (first | apply Kd.V_alloc | apply Kd.V_drewN | apply Kd.V_drew)); exact HO0_1.out) gb325 (Nat.le_of_eq hg.symm)) hb); have n1_ := Aside0.mk (Kd.V_below (Kd.V_elderB (by (with_reducible repeat (first | apply Kd.V_alloc | apply Kd.V_drewN | apply Kd.V_drew)); exact HO1_1.out) gb325 (Nat.le_of_eq hg.symm)) hb); have n2_ := Aside0.mk (blk_below (g := gb323) (o := .cells #[.bool a0_0, .slice A0_1 l0_1.length c0_1] 25 (0, 0)) (by (with_reducible repeat (first | refine blk_drewN ?_ _ | refine blk_drew ?_ | refine blk_alloc ?_ _)); exact BK323.out) hb); have n3_ := Aside0.mk (blk_below (g := gb324) (o := .cells #[.bool a1_0, .slice A1_1 l1_1.length c1_1] 25 (0, 0)) (by (with_reducible repeat (first | refine blk_drewN ?_ _ | refine blk_drew ?_ | refine blk_alloc ?_ _)); exact BK324.out) hb); have n4_ := Aside0.mk (below_step (by repeat (first | (with_reducible first | exact HB.out | apply below_alloc | apply pw_below_drewN | apply below_drew1 | refine below_set ?_ GE323.out | refine below_set ?_ GE324.out) | exact HB.out)) hb); have n5_ := Aside0.mk (hbox); have n6_ := Aside0.mk ((by rw [hg]; exact (below_size (by repeat (first | (with_reducible first | exact HB.out | apply below_alloc | apply pw_below_drewN | apply below_drew1 | refine below_set ?_ GE323.out | refine below_set ?_ GE324.out) | exact HB.out))) : w.heap.size ≤ gb325)); have n7_ := Aside0.mk ((by rw [hg]; exact (below_size (by repeat (first | (with_reducible first | exact HB.out | apply below_alloc | apply pw_below_drewN | apply below_drew1 | refine below_set ?_ GE323.out | refine below_set ?_ GE324.out) | exact HB.out))) : w.heap.size ≤ gb325)); have n8_ := Aside0.mk ((by rw [hg]; exact Nat.ne_of_lt (blk_lt (g := gb323) (o := .cells #[.bool a0_0, .slice A0_1 l0_1.length c0_1] 25 (0, 0)) (by (with_reducible repeat (first | refine blk_drewN ?_ _ | refine blk_drew ?_ | refine blk_alloc ?_ _)); exact BK323.out)) : gb323 ≠ gb325)); have n9_ := Aside0.mk ((by rw [hg]; exact Nat.ne_of_gt (blk_lt (g := gb323) (o := .cells #[.bool a0_0, .slice A0_1 l0_1.length c0_1] 25 (0, 0)) (by (with_reducible repeat (first | refine blk_drewN ?_ _ | refine blk_drew ?_ | refine blk_alloc ?_ _)); exact BK323.out)) : gb325 ≠ gb323)); have n10_ := Aside0.mk ((by rw [hg]; exact Nat.ne_of_lt (blk_lt (g := gb324) (o := .cells #[.bool a1_0, .slice A1_1 l1_1.length c1_1] 25 (0, 0)) (by (with_reducible repeat (first | refine blk_drewN ?_ _ | refine blk_drew ?_ | refine blk_alloc ?_ _)); exact BK324.out)) : gb324 ≠ gb325)); have n11_ := Aside0.mk ((by rw [hg]; exact Nat.ne_of_gt (blk_lt (g := gb324) (o := .cells #[.bool a1_0, .slice A1_1 l1_1.length c1_1] 25 (0, 0)) (by (with_reducible repeat (first | refine blk_drewN ?_ _ | refine blk_drew ?_ | refine blk_alloc ?_ _)); exact BK324.out)) : gb325 ≠ gb324)); clear HO0_1; clear HO1_1; clear BK323; clear BK324; clear HB; have HO0_1 := n0_; have HO1_1 := n1_; have BK323 := n2_; have BK324 := n3_; have HB := n4_; have BK325 := n5_; have GW325 := n6_; have GE325 := n7_; have NB323_325 := n8_; have NB325_323 := n9_; have NB324_325 := n10_; have NB325_324 := n11_; clear n0_ n1_ n2_ n3_ n4_ n5_ n6_ n7_ n8_ n9_ n10_ n11_; clear hb hbox hg; have hnb6 := NB323_324.out; have hnc6 := NB324_323.out; have hnb7 := NB323_325.out; have hnc7 := NB325_323.out; have hcz8_0 : w5.cell? ⟨gb323, 0, none⟩ = some (.bool a0_0) := (blk_cell BK323.out 0).trans rfl; have hcz8_1 : w5.cell? ⟨gb323, 1, none⟩ = some (.slice A0_1 l0_1.length c0_1) := (blk_cell BK323.out 1).trans rfl; have hfz8_0 := blk_frozen BK323.out 0; have hfz8_1 := blk_frozen BK323.out 1; have hnb9 := NB324_325.out; have hnc9 := NB325_324.out; have hcz10_0 : w5.cell? ⟨gb324, 0, none⟩ = some (.bool a1_0) := (blk_cell BK324.out 0).trans rfl; have hcz10_1 : w5.cell? ⟨gb324, 1, none⟩ = some (.slice A1_1 l1_1.length c1_1) := (blk_cell BK324.out 1).trans rfl; have hfz10_0 := blk_frozen BK324.out 0; have hfz10_1 := blk_frozen BK324.out 1))
 repeat (go_quiet (first | ((with_reducible refine gate_dst (N := 2) rfl ?_); refine box_event ?hg (N := 2) ?hd (cs := #[.bool a0_0, .slice A0_1 l0_1.length c0_1]) (t := 25) ?hr ?_; (case hd => rfl); (case hg => rfl); (case hr => first | (go_simp; done) | (go_simp; rfl)); intro gb323 hg w3 hbox hb; have n0_ := Aside0.mk (Kd.V_below (Kd.V_elderB (by (with_reducible repeat (first | apply Kd.V_alloc | apply Kd.V_drewN | apply Kd.V_drew)); exact HO0_1.out) gb323 (Nat.le_of_eq hg.symm)) hb); have n1_ := Aside0.mk (Kd.V_below (Kd.V_elderB (by (with_reducible repeat (first | apply Kd.V_alloc | apply Kd.V_drewN | apply Kd.V_drew)); exact HO1_1.out) gb323 (Nat.le_of_eq hg.symm)) hb); have n2_ := Aside0.mk (below_step (by repeat (first | (with_reducible first | exact HB.out | apply below_alloc | apply pw_below_drewN | apply below_drew1) | exact HB.out)) hb); have n3_ := Aside0.mk (hbox); have n4_ := Aside0.mk ((by rw [hg]; exact (below_size (by repeat (first | (with_reducible first | exact HB.out | apply below_alloc | apply pw_below_drewN | apply below_drew1) | exact HB.out))) : w.heap.size ≤ gb323)); have n5_ := Aside0.mk ((by rw [hg]; exact (below_size (by repeat (first | (with_reducible first | exact HB.out | apply below_alloc | apply pw_below_drewN | apply below_drew1) | exact HB.out))) : w.heap.size ≤ gb323)); clear HO0_1; clear HO1_1; clear HB; have HO0_1 := n0_; have HO1_1 := n1_; have HB := n2_; have BK323 := n3_; have GW323 := n4_; have GE323 := n5_; clear n0_ n1_ n2_ n3_ n4_ n5_; clear hb hbox hg) | ((with_reducible refine gate_dst (N := 3) rfl ?_); refine box_event ?hg (N := 3) ?hd (cs := #[.bool a1_0, .slice A1_1 l1_1.length c1_1]) (t := 25) ?hr ?_; (case hd => rfl); (case hg => rfl); (case hr => first | (go_simp; done) | (go_simp; rfl)); intro gb324 hg w4 hbox hb; have n0_ := Aside0.mk (Kd.V_below (Kd.V_elderB (by (with_reducible repeat (first | apply Kd.V_alloc | apply Kd.V_drewN | apply Kd.V_drew)); exact HO0_1.out) gb324 (Nat.le_of_eq hg.symm)) hb); have n1_ := Aside0.mk (Kd.V_below (Kd.V_elderB (by (with_reducible repeat (first | apply Kd.V_alloc | apply Kd.V_drewN | apply Kd.V_drew)); exact HO1_1.out) gb324 (Nat.le_of_eq hg.symm)) hb); have n2_ := Aside0.mk (blk_below (g := gb323) (o := .cells #[.bool a0_0, .slice A0_1 l0_1.length c0_1] 25 (0, 0)) (by (with_reducible repeat (first | refine blk_drewN ?_ _ | refine blk_drew ?_ | refine blk_alloc ?_ _)); exact BK323.out) hb); have n3_ := Aside0.mk (below_step (by repeat (first | (with_reducible first | exact HB.out | apply below_alloc | apply pw_below_drewN | apply below_drew1 | refine below_set ?_ GE323.out) | exact HB.out)) hb); have n4_ := Aside0.mk (hbox); have n5_ := Aside0.mk ((by rw [hg]; exact (below_size (by repeat (first | (with_reducible first | exact HB.out | apply below_alloc | apply pw_below_drewN | apply below_drew1 | refine below_set ?_ GE323.out) | exact HB.out))) : w.heap.size ≤ gb324)); have n6_ := Aside0.mk ((by rw [hg]; exact (below_size (by repeat (first | (with_reducible first | exact HB.out | apply below_alloc | apply pw_below_drewN | apply below_drew1 | refine below_set ?_ GE323.out) | exact HB.out))) : w.heap.size ≤ gb324)); have n7_ := Aside0.mk ((by rw [hg]; exact Nat.ne_of_lt (blk_lt (g := gb323) (o := .cells #[.bool a0_0, .slice A0_1 l0_1.length c0_1] 25 (0, 0)) (by (with_reducible repeat (first | refine blk_drewN ?_ _ | refine blk_drew ?_ | refine blk_alloc ?_ _)); exact BK323.out)) : gb323 ≠ gb324)); have n8_ := Aside0.mk ((by rw [hg]; exact Nat.ne_of_gt (blk_lt (g := gb323) (o := .cells #[.bool a0_0, .slice A0_1 l0_1.length c0_1] 25 (0, 0)) (by (with_reducible repeat (first | refine blk_drewN ?_ _ | refine blk_drew ?_ | refine blk_alloc ?_ _)); exact BK323.out)) : gb324 ≠ gb323)); clear HO0_1; clear HO1_1; clear BK323; clear HB; have HO0_1 := n0_; have HO1_1 := n1_; have BK323 := n2_; have HB := n3_; have BK324 := n4_; have GW324 := n5_; have GE324 := n6_; have NB323_324 := n7_; have NB324_323 := n8_; clear n0_ n1_ n2_ n3_ n4_ n5_ n6_ n7_ n8_; clear hb hbox hg) | ((with_reducible refine gate_dst (N := 4) rfl ?_); refine box_event ?hg (N := 4) ?hd (cs := #[.bool false, .slice none 0 0]) (t := 25) ?hr ?_; (case hd => rfl); (case hg => rfl); (case hr => first | (go_simp; done) | (go_simp; rfl)); intro gb325 hg w5 hbox hb; have n0_ := Aside0.mk (Kd.V_below (Kd.V_elderB (by (with_reducible repeat (first | apply Kd.V_alloc | apply Kd.V_drewN | apply Kd.V_drew)); exact HO0_1.out) gb325 (Nat.le_of_eq hg.symm)) hb); have n1_ := Aside0.mk (Kd.V_below (Kd.V_elderB (by (with_reducible repeat (first | apply Kd.V_alloc | apply Kd.V_drewN | apply Kd.V_drew)); exact HO1_1.out) gb325 (Nat.le_of_eq hg.symm)) hb); have n2_ := Aside0.mk (blk_below (g := gb323) (o := .cells #[.bool a0_0, .slice A0_1 l0_1.length c0_1] 25 (0, 0)) (by (with_reducible repeat (first | refine blk_drewN ?_ _ | refine blk_drew ?_ | refine blk_alloc ?_ _)); exact BK323.out) hb); have n3_ := Aside0.mk (blk_below (g := gb324) (o := .cells #[.bool a1_0, .slice A1_1 l1_1.length c1_1] 25 (0, 0)) (by (with_reducible repeat (first | refine blk_drewN ?_ _ | refine blk_drew ?_ | refine blk_alloc ?_ _)); exact BK324.out) hb); have n4_ := Aside0.mk (below_step (by repeat (first | (with_reducible first | exact HB.out | apply below_alloc | apply pw_below_drewN | apply below_drew1 | refine below_set ?_ GE323.out | refine below_set ?_ GE324.out) | exact HB.out)) hb); have n5_ := Aside0.mk (hbox); have n6_ := Aside0.mk ((by rw [hg]; exact (below_size (by repeat (first | (with_reducible first | exact HB.out | apply below_alloc | apply pw_below_drewN | apply below_drew1 | refine below_set ?_ GE323.out | refine below_set ?_ GE324.out) | exact HB.out))) : w.heap.size ≤ gb325)); have n7_ := Aside0.mk ((by rw [hg]; exact (below_size (by repeat (first | (with_reducible first | exact HB.out | apply below_alloc | apply pw_below_drewN | apply below_drew1 | refine below_set ?_ GE323.out | refine below_set ?_ GE324.out) | exact HB.out))) : w.heap.size ≤ gb325)); have n8_ := Aside0.mk ((by rw [hg]; exact Nat.ne_of_lt (blk_lt (g := gb323) (o := .cells #[.bool a0_0, .slice A0_1 l0_1.length c0_1] 25 (0, 0)) (by (with_reducible repeat (first | refine blk_drewN ?_ _ | refine blk_drew ?_ | refine blk_alloc ?_ _)); exact BK323.out)) : gb323 ≠ gb325)); have n9_ := Aside0.mk ((by rw [hg]; exact Nat.ne_of_gt (blk_lt (g := gb323) (o := .cells #[.bool a0_0, .slice A0_1 l0_1.length c0_1] 25 (0, 0)) (by (with_reducible repeat (first | refine blk_drewN ?_ _ | refine blk_drew ?_ | refine blk_alloc ?_ _)); exact BK323.out)) : gb325 ≠ gb323)); have n10_ := Aside0.mk ((by rw [hg]; exact Nat.ne_of_lt (blk_lt (g := gb324) (o := .cells #[.bool a1_0, .slice A1_1 l1_1.length c1_1] 25 (0, 0)) (by (with_reducible repeat (first | refine blk_drewN ?_ _ | refine blk_drew ?_ | refine blk_alloc ?_ _)); exact BK324.out)) : gb324 ≠ gb325)); have n11_ := Aside0.mk ((by rw [hg]; exact Nat.ne_of_gt (blk_lt (g := gb324) (o := .cells #[.bool a1_0, .slice A1_1 l1_1.length c1_1] 25 (0, 0)) (by (with_reducible repeat (first | refine blk_drewN ?_ _ | refine blk_drew ?_ | refine blk_alloc ?_ _)); exact BK324.out)) : gb325 ≠ gb324)); clear HO0_1; clear HO1_1; clear BK323; clear BK324; clear HB; have HO0_1 := n0_; have HO1_1 := n1_; have BK323 := n2_; have BK324 := n3_; have HB := n4_; have BK325 := n5_; have GW325 := n6_; have GE325 := n7_; have NB323_325 := n8_; have NB325_323 := n9_; have NB324_325 := n10_; have NB325_324 := n11_; clear n0_ n1_ n2_ n3_ n4_ n5_ n6_ n7_ n8_ n9_ n10_ n11_; clear hb hbox hg; have hnb6 := NB323_324.out; have hnc6 := NB324_323.out; have hnb7 := NB323_325.out; have hnc7 := NB325_323.out; have hcz8_0 : w5.cell? ⟨gb323, 0, none⟩ = some (.bool a0_0) := (blk_cell BK323.out 0).trans rfl; have hcz8_1 : w5.cell? ⟨gb323, 1, none⟩ = some (.slice A0_1 l0_1.length c0_1) := (blk_cell BK323.out 1).trans rfl; have hfz8_0 := blk_frozen BK323.out 0; have hfz8_1 := blk_frozen BK323.out 1; have hnb9 := NB324_325.out; have hnc9 := NB325_324.out; have hcz10_0 : w5.cell? ⟨gb324, 0, none⟩ = some (.bool a1_0) := (blk_cell BK324.out 0).trans rfl; have hcz10_1 : w5.cell? ⟨gb324, 1, none⟩ = some (.slice A1_1 l1_1.length c1_1) := (blk_cell BK324.out 1).trans rfl; have hfz10_0 := blk_frozen BK324.out 0; have hfz10_1 := blk_frozen BK324.out 1)); try go_wp2_with (first | ((with_reducible refine gate_dst (N := 2) rfl ?_); refine box_event ?hg (N := 2) ?hd (cs := #[.bool a0_0, .slice A0_1 l0_1.length c0_1]) (t := 25) ?hr ?_; (case hd => rfl); (case hg => rfl); (case hr => first | (go_simp; done) | (go_simp; rfl)); intro gb323 hg w3 hbox hb; have n0_ := Aside0.mk (Kd.V_below (Kd.V_elderB (by (with_reducible repeat (first | apply Kd.V_alloc | apply Kd.V_drewN | apply Kd.V_drew)); exact HO0_1.out) gb323 (Nat.le_of_eq hg.symm)) hb); have n1_ := Aside0.mk (Kd.V_below (Kd.V_elderB (by (with_reducible repeat (first | apply Kd.V_alloc | apply Kd.V_drewN | apply Kd.V_drew)); exact HO1_1.out) gb323 (Nat.le_of_eq hg.symm)) hb); have n2_ := Aside0.mk (below_step (by repeat (first | (with_reducible first | exact HB.out | apply below_alloc | apply pw_below_drewN | apply below_drew1) | exact HB.out)) hb); have n3_ := Aside0.mk (hbox); have n4_ := Aside0.mk ((by rw [hg]; exact (below_size (by repeat (first | (with_reducible first | exact HB.out | apply below_alloc | apply pw_below_drewN | apply below_drew1) | exact HB.out))) : w.heap.size ≤ gb323)); have n5_ := Aside0.mk ((by rw [hg]; exact (below_size (by repeat (first | (with_reducible first | exact HB.out | apply below_alloc | apply pw_below_drewN | apply below_drew1) | exact HB.out))) : w.heap.size ≤ gb323)); clear HO0_1; clear HO1_1; clear HB; have HO0_1 := n0_; have HO1_1 := n1_; have HB := n2_; have BK323 := n3_; have GW323 := n4_; have GE323 := n5_; clear n0_ n1_ n2_ n3_ n4_ n5_; clear hb hbox hg) | ((with_reducible refine gate_dst (N := 3) rfl ?_); refine box_event ?hg (N := 3) ?hd (cs := #[.bool a1_0, .slice A1_1 l1_1.length c1_1]) (t := 25) ?hr ?_; (case hd => rfl); (case hg => rfl); (case hr => first | (go_simp; done) | (go_simp; rfl)); intro gb324 hg w4 hbox hb; have n0_ := Aside0.mk (Kd.V_below (Kd.V_elderB (by (with_reducible repeat (first | apply Kd.V_alloc | apply Kd.V_drewN | apply Kd.V_drew)); exact HO0_1.out) gb324 (Nat.le_of_eq hg.symm)) hb); have n1_ := Aside0.mk (Kd.V_below (Kd.V_elderB (by (with_reducible repeat (first | apply Kd.V_alloc | apply Kd.V_drewN | apply Kd.V_drew)); exact HO1_1.out) gb324 (Nat.le_of_eq hg.symm)) hb); have n2_ := Aside0.mk (blk_below (g := gb323) (o := .cells #[.bool a0_0, .slice A0_1 l0_1.length c0_1] 25 (0, 0)) (by (with_reducible repeat (first | refine blk_drewN ?_ _ | refine blk_drew ?_ | refine blk_alloc ?_ _)); exact BK323.out) hb); have n3_ := Aside0.mk (below_step (by repeat (first | (with_reducible first | exact HB.out | apply below_alloc | apply pw_below_drewN | apply below_drew1 | refine below_set ?_ GE323.out) | exact HB.out)) hb); have n4_ := Aside0.mk (hbox); have n5_ := Aside0.mk ((by rw [hg]; exact (below_size (by repeat (first | (with_reducible first | exact HB.out | apply below_alloc | apply pw_below_drewN | apply below_drew1 | refine below_set ?_ GE323.out) | exact HB.out))) : w.heap.size ≤ gb324)); have n6_ := Aside0.mk ((by rw [hg]; exact (below_size (by repeat (first | (with_reducible first | exact HB.out | apply below_alloc | apply pw_below_drewN | apply below_drew1 | refine below_set ?_ GE323.out) | exact HB.out))) : w.heap.size ≤ gb324)); have n7_ := Aside0.mk ((by rw [hg]; exact Nat.ne_of_lt (blk_lt (g := gb323) (o := .cells #[.bool a0_0, .slice A0_1 l0_1.length c0_1] 25 (0, 0)) (by (with_reducible repeat (first | refine blk_drewN ?_ _ | refine blk_drew ?_ | refine blk_alloc ?_ _)); exact BK323.out)) : gb323 ≠ gb324)); have n8_ := Aside0.mk ((by rw [hg]; exact Nat.ne_of_gt (blk_lt (g := gb323) (o := .cells #[.bool a0_0, .slice A0_1 l0_1.length c0_1] 25 (0, 0)) (by (with_reducible repeat (first | refine blk_drewN ?_ _ | refine blk_drew ?_ | refine blk_alloc ?_ _)); exact BK323.out)) : gb324 ≠ gb323)); clear HO0_1; clear HO1_1; clear BK323; clear HB; have HO0_1 := n0_; have HO1_1 := n1_; have BK323 := n2_; have HB := n3_; have BK324 := n4_; have GW324 := n5_; have GE324 := n6_; have NB323_324 := n7_; have NB324_323 := n8_; clear n0_ n1_ n2_ n3_ n4_ n5_ n6_ n7_ n8_; clear hb hbox hg) | ((with_reducible refine gate_dst (N := 4) rfl ?_); refine box_event ?hg (N := 4) ?hd (cs := #[.bool false, .slice none 0 0]) (t := 25) ?hr ?_; (case hd => rfl); (case hg => rfl); (case hr => first | (go_simp; done) | (go_simp; rfl)); intro gb325 hg w5 hbox hb; have n0_ := Aside0.mk (Kd.V_below (Kd.V_elderB (by (with_reducible repeat (first | apply Kd.V_alloc | apply Kd.V_drewN | apply Kd.V_drew)); exact HO0_1.out) gb325 (Nat.le_of_eq hg.symm)) hb); have n1_ := Aside0.mk (Kd.V_below (Kd.V_elderB (by (with_reducible repeat (first | apply Kd.V_alloc | apply Kd.V_drewN | apply Kd.V_drew)); exact HO1_1.out) gb325 (Nat.le_of_eq hg.symm)) hb); have n2_ := Aside0.mk (blk_below (g := gb323) (o := .cells #[.bool a0_0, .slice A0_1 l0_1.length c0_1] 25 (0, 0)) (by (with_reducible repeat (first | refine blk_drewN ?_ _ | refine blk_drew ?_ | refine blk_alloc ?_ _)); exact BK323.out) hb); have n3_ := Aside0.mk (blk_below (g := gb324) (o := .cells #[.bool a1_0, .slice A1_1 l1_1.length c1_1] 25 (0, 0)) (by (with_reducible repeat (first | refine blk_drewN ?_ _ | refine blk_drew ?_ | refine blk_alloc ?_ _)); exact BK324.out) hb); have n4_ := Aside0.mk (below_step (by repeat (first | (with_reducible first | exact HB.out | apply below_alloc | apply pw_below_drewN | apply below_drew1 | refine below_set ?_ GE323.out | refine below_set ?_ GE324.out) | exact HB.out)) hb); have n5_ := Aside0.mk (hbox); have n6_ := Aside0.mk ((by rw [hg]; exact (below_size (by repeat (first | (with_reducible first | exact HB.out | apply below_alloc | apply pw_below_drewN | apply below_drew1 | refine below_set ?_ GE323.out | refine below_set ?_ GE324.out) | exact HB.out))) : w.heap.size ≤ gb325)); have n7_ := Aside0.mk ((by rw [hg]; exact (below_size (by repeat (first | (with_reducible first | exact HB.out | apply below_alloc | apply pw_below_drewN | apply below_drew1 | refine below_set ?_ GE323.out | refine below_set ?_ GE324.out) | exact HB.out))) : w.heap.size ≤ gb325)); have n8_ := Aside0.mk ((by rw [hg]; exact Nat.ne_of_lt (blk_lt (g := gb323) (o := .cells #[.bool a0_0, .slice A0_1 l0_1.length c0_1] 25 (0, 0)) (by (with_reducible repeat (first | refine blk_drewN ?_ _ | refine blk_drew ?_ | refine blk_alloc ?_ _)); exact BK323.out)) : gb323 ≠ gb325)); have n9_ := Aside0.mk ((by rw [hg]; exact Nat.ne_of_gt (blk_lt (g := gb323) (o := .cells #[.bool a0_0, .slice A0_1 l0_1.length c0_1] 25 (0, 0)) (by (with_reducible repeat (first | refine blk_drewN ?_ _ | refine blk_drew ?_ | refine blk_alloc ?_ _)); exact BK323.out)) : gb325 ≠ gb323)); have n10_ := Aside0.mk ((by rw [hg]; exact Nat.ne_of_lt (blk_lt (g := gb324) (o := .cells #[.bool a1_0, .slice A1_1 l1_1.length c1_1] 25 (0, 0)) (by (with_reducible repeat (first | refine blk_drewN ?_ _ | refine blk_drew ?_ | refine blk_alloc ?_ _)); exact BK324.out)) : gb324 ≠ gb325)); have n11_ := Aside0.mk ((by rw [hg]; exact Nat.ne_of_gt (blk_lt (g := gb324) (o := .cells #[.bool a1_0, .slice A1_1 l1_1.length c1_1] 25 (0, 0)) (by (with_reducible repeat (first | refine blk_drewN ?_ _ | refine blk_drew ?_ | refine blk_alloc ?_ _)); exact BK324.out)) : gb325 ≠ gb324)); clear HO0_1; clear HO1_1; clear BK323; clear BK324; clear HB; have HO0_1 := n0_; have HO1_1 := n1_; have BK323 := n2_; have BK324 := n3_; have HB := n4_; have BK325 := n5_; have GW325 := n6_; have GE325 := n7_; have NB323_325 := n8_; have NB325_323 := n9_; have NB324_325 := n10_; have NB325_324 := n11_; clear n0_ n1_ n2_ n3_ n4_ n5_ n6_ n7_ n8_ n9_ n10_ n11_; clear hb hbox hg; have hnb6 := NB323_324.out; have hnc6 := NB324_323.out; have hnb7 := NB323_325.out; have hnc7 := NB325_323.out; have hcz8_0 : w5.cell? ⟨gb323, 0, none⟩ = some (.bool a0_0) := (blk_cell BK323.out 0).trans rfl; have hcz8_1 : w5.cell? ⟨gb323, 1, none⟩ = some (.slice A0_1 l0_1.length c0_1) := (blk_cell BK323.out 1).trans rfl; have hfz8_0 := blk_frozen BK323.out 0; have hfz8_1 := blk_frozen BK323.out 1; have hnb9 := NB324_325.out; have hnc9 := NB325_324.out; have hcz10_0 : w5.cell? ⟨gb324, 0, none⟩ = some (.bool a1_0) := (blk_cell BK324.out 0).trans rfl; have hcz10_1 : w5.cell? ⟨gb324, 1, none⟩ = some (.slice A1_1 l1_1.length c1_1) := (blk_cell BK324.out 1).trans rfl; have hfz10_0 := blk_frozen BK324.out 0; have hfz10_1 := blk_frozen BK324.out 1)))
 go_loopg [5, 6] k (fun kq v5 v6 w' => ∃ (x5_1 : List Int) (x6_1 : List Int), Aside0 (integer_Gcd.l0 kq x5_1 x6_1 = some (r1, r2)) ∧ Aside0 (kq ≤ k) ∧ Aside0 (Kd.V (Kd.int .u32) 60 w' w.heap.size (fun k_ => ((P0_1_ k_ ∨ P1_1_ k_) ∨ w.heap.size ≤ k_) ∧ k_ ≠ gb323 ∧ k_ ≠ gb324 ∧ k_ ≠ gb325) v5 x5_1) ∧ Aside0 (Kd.V (Kd.int .u32) 60 w' w.heap.size (fun k_ => ((P0_1_ k_ ∨ P1_1_ k_) ∨ w.heap.size ≤ k_) ∧ k_ ≠ gb323 ∧ k_ ≠ gb324 ∧ k_ ≠ gb325) v6 x6_1) ∧ Aside0 (Kd.V (Kd.int .u32) 60 w' w.heap.size (fun k_ => ((P0_1_ k_ ∨ P1_1_ k_) ∨ w.heap.size ≤ k_) ∧ k_ ≠ gb323 ∧ k_ ≠ gb324 ∧ k_ ≠ gb325) (.slice A0_1 l0_1.length c0_1) l0_1) ∧ Aside0 (Kd.V (Kd.int .u32) 60 w' w.heap.size (fun k_ => ((P0_1_ k_ ∨ P1_1_ k_) ∨ w.heap.size ≤ k_) ∧ k_ ≠ gb323 ∧ k_ ≠ gb324 ∧ k_ ≠ gb325) (.slice A1_1 l1_1.length c1_1) l1_1) ∧ Aside0 (w'.heap[gb323]? = some (.cells #[.bool a0_0, (.slice A0_1 l0_1.length c0_1)] 25 (0, 0))) ∧ Aside0 (w'.heap[gb324]? = some (.cells #[.bool a1_0, (.slice A1_1 l1_1.length c1_1)] 25 (0, 0))) ∧ Aside0 (w'.heap[gb325]? = some (.cells #[.bool false, (.slice none 0 0)] 25 (0, 0))) ∧ Aside0 (Below w.heap.size w w'))
 case atStart => exact ⟨(l0_1), (l1_1), H', ⟨Nat.le_refl _⟩, ⟨by (with_reducible repeat (first | apply Kd.V_alloc | apply Kd.V_drewN | apply Kd.V_drew)); exact Kd.V_mono HO0_1.out (fun _ hk => ⟨hk.1.1.1, ⟨hk.1.1.2, ⟨hk.1.2, hk.2⟩⟩⟩)⟩, ⟨by (with_reducible repeat (first | apply Kd.V_alloc | apply Kd.V_drewN | apply Kd.V_drew)); exact Kd.V_mono HO1_1.out (fun _ hk => ⟨hk.1.1.1, ⟨hk.1.1.2, ⟨hk.1.2, hk.2⟩⟩⟩)⟩, ⟨by (with_reducible repeat (first | apply Kd.V_alloc | apply Kd.V_drewN | apply Kd.V_drew)); exact Kd.V_mono HO0_1.out (fun _ hk => ⟨hk.1.1.1, ⟨hk.1.1.2, ⟨hk.1.2, hk.2⟩⟩⟩)⟩, ⟨by (with_reducible repeat (first | apply Kd.V_alloc | apply Kd.V_drewN | apply Kd.V_drew)); exact Kd.V_mono HO1_1.out (fun _ hk => ⟨hk.1.1.1, ⟨hk.1.1.2, ⟨hk.1.2, hk.2⟩⟩⟩)⟩, ⟨by (with_reducible repeat (first | refine blk_drewN ?_ _ | refine blk_drew ?_ | refine blk_alloc ?_ _)); exact BK323.out⟩, ⟨by (with_reducible repeat (first | refine blk_drewN ?_ _ | refine blk_drew ?_ | refine blk_alloc ?_ _)); exact BK324.out⟩, ⟨by (with_reducible repeat (first | refine blk_drewN ?_ _ | refine blk_drew ?_ | refine blk_alloc ?_ _)); exact BK325.out⟩, ⟨by repeat (first | (with_reducible first | exact HB.out | apply below_alloc | apply pw_below_drewN | apply below_drew1 | refine below_set ?_ GE323.out | refine below_set ?_ GE324.out | refine below_set ?_ GE325.out) | exact HB.out)⟩⟩
 case round =>
  clear H'
  try clear c1
  try clear c2
  try clear p2
  try clear c6
  try clear c7
  try clear c9
  try clear hcz10_0
  try clear hcz10_1
  try clear hcz8_0
  try clear hcz8_1
  try clear hfz10_0
  try clear hfz10_1
  try clear hfz8_0
  try clear hfz8_1
  obtain ⟨x5_1, x6_1, HA, HK1, HO_5, HO_6, HO_324001, HO_325001, BK323, BK324, BK325, HB⟩ := hrel
  cases gk with
  | zero => exact absurd HA.out (by simp [integer_Gcd.l0])
  | succ k1 =>
   have H := HA.out
   clear HA
   simp only [integer_Gcd.l0] at H
   by_cases c11 : (x6_1.length : Int) > 0
   ·
    rw [if_pos c11] at H
    have c11b0 : decide (0 < (x6_1.length : Int)) = true := decide_eq_true c11
    have c11b1 : decide (0 < x6_1.length) = true := decide_eq_true (by omega)
    clear c11
    replace H := Option.bind_eq_some_iff.mp H
    obtain ⟨⟨t326, t329⟩, A120, H⟩ := H
    replace H : (integer_Gcd.l0 k1 x6_1 t329) = some (r1, r2) := H
    have A12 := Aside0.mk A120
    clear A120
    have H' := Aside0.mk H
    clear H
    obtain ⟨Ao13, co13, eo13⟩ := Kd.V_slice HO_6.out
    subst eo13
    obtain ⟨Ao14, co14, eo14⟩ := Kd.V_slice HO_5.out
    subst eo14
    go_wp2_with (first | (go_at_call 59; (with_reducible refine (integer_divide.calls k1 (fun k_ => (((P0_1_ k_ ∨ P1_1_ k_) ∨ w.heap.size ≤ k_) ∧ (k_ ≠ gb323 ∧ (k_ ≠ gb324 ∧ k_ ≠ gb325)))) _ _ x5_1 _ _ x6_1 t326 t329 _ ?side1 ?side2 ?side3 A12.out).mono ?_); (case side1 => exact HO_5.out); (case side2 => repeat (first | exact (Kd.V_reads' HO_6.out).2.2 | (with_reducible refine Kd.C_alloc ?_ _) | (with_reducible refine Kd.C_drewN ?_ _) | (with_reducible refine Kd.C_drew ?_))); (case side3 => exact (Kd.V_reads' HO_6.out).2.1); rintro e w15 ⟨v327, v330, rfl, ho0, ho1, hb⟩; have n0_ := Aside0.mk (Kd.V_below (by (with_reducible repeat (first | apply Kd.V_alloc | apply Kd.V_drewN | apply Kd.V_drew)); exact HO_5.out) hb); have n1_ := Aside0.mk (Kd.V_below (by (with_reducible repeat (first | apply Kd.V_alloc | apply Kd.V_drewN | apply Kd.V_drew)); exact HO_6.out) hb); have n2_ := Aside0.mk (Kd.V_below (by (with_reducible repeat (first | apply Kd.V_alloc | apply Kd.V_drewN | apply Kd.V_drew)); exact HO_324001.out) hb); have n3_ := Aside0.mk (Kd.V_below (by (with_reducible repeat (first | apply Kd.V_alloc | apply Kd.V_drewN | apply Kd.V_drew)); exact HO_325001.out) hb); have n4_ := Aside0.mk (Kd.V_lower (Kd.V_mono (ok' := fun k_ => ((P0_1_ k_ ∨ P1_1_ k_) ∨ w.heap.size ≤ k_) ∧ k_ ≠ gb323 ∧ k_ ≠ gb324 ∧ k_ ≠ gb325) ho0 (fun k_ hk_ => ⟨Or.elim hk_ (fun hs_ => hs_.1) (fun hn_ => (.inr (Nat.le_trans (below_size (by repeat (first | (with_reducible first | exact HB.out | apply below_alloc | apply pw_below_drewN | apply below_drew1 | refine below_set ?_ GE323.out | refine below_set ?_ GE324.out | refine below_set ?_ GE325.out) | exact HB.out))) hn_))), Or.elim hk_ (fun hs_ => hs_.2.1) (fun hn_ => (Kd.freshB (g := gb323) (o := .cells #[.bool a0_0, .slice A0_1 l0_1.length c0_1] 25 (0, 0)) (by (with_reducible repeat (first | refine blk_drewN ?_ _ | refine blk_drew ?_ | refine blk_alloc ?_ _)); exact BK323.out) k_ hn_)), Or.elim hk_ (fun hs_ => hs_.2.2.1) (fun hn_ => (Kd.freshB (g := gb324) (o := .cells #[.bool a1_0, .slice A1_1 l1_1.length c1_1] 25 (0, 0)) (by (with_reducible repeat (first | refine blk_drewN ?_ _ | refine blk_drew ?_ | refine blk_alloc ?_ _)); exact BK324.out) k_ hn_)), Or.elim hk_ (fun hs_ => hs_.2.2.2) (fun hn_ => (Kd.freshB (g := gb325) (o := .cells #[.bool false, .slice none 0 0] 25 (0, 0)) (by (with_reducible repeat (first | refine blk_drewN ?_ _ | refine blk_drew ?_ | refine blk_alloc ?_ _)); exact BK325.out) k_ hn_))⟩)) (below_size (by repeat (first | (with_reducible first | exact HB.out | apply below_alloc | apply pw_below_drewN | apply below_drew1 | refine below_set ?_ GE323.out | refine below_set ?_ GE324.out | refine below_set ?_ GE325.out) | exact HB.out)))); have n5_ := Aside0.mk (Kd.V_lower (Kd.V_mono (ok' := fun k_ => ((P0_1_ k_ ∨ P1_1_ k_) ∨ w.heap.size ≤ k_) ∧ k_ ≠ gb323 ∧ k_ ≠ gb324 ∧ k_ ≠ gb325) ho1 (fun k_ hk_ => ⟨Or.elim hk_ (fun hs_ => hs_.1) (fun hn_ => (.inr (Nat.le_trans (below_size (by repeat (first | (with_reducible first | exact HB.out | apply below_alloc | apply pw_below_drewN | apply below_drew1 | refine below_set ?_ GE323.out | refine below_set ?_ GE324.out | refine below_set ?_ GE325.out) | exact HB.out))) hn_))), Or.elim hk_ (fun hs_ => hs_.2.1) (fun hn_ => (Kd.freshB (g := gb323) (o := .cells #[.bool a0_0, .slice A0_1 l0_1.length c0_1] 25 (0, 0)) (by (with_reducible repeat (first | refine blk_drewN ?_ _ | refine blk_drew ?_ | refine blk_alloc ?_ _)); exact BK323.out) k_ hn_)), Or.elim hk_ (fun hs_ => hs_.2.2.1) (fun hn_ => (Kd.freshB (g := gb324) (o := .cells #[.bool a1_0, .slice A1_1 l1_1.length c1_1] 25 (0, 0)) (by (with_reducible repeat (first | refine blk_drewN ?_ _ | refine blk_drew ?_ | refine blk_alloc ?_ _)); exact BK324.out) k_ hn_)), Or.elim hk_ (fun hs_ => hs_.2.2.2) (fun hn_ => (Kd.freshB (g := gb325) (o := .cells #[.bool false, .slice none 0 0] 25 (0, 0)) (by (with_reducible repeat (first | refine blk_drewN ?_ _ | refine blk_drew ?_ | refine blk_alloc ?_ _)); exact BK325.out) k_ hn_))⟩)) (below_size (by repeat (first | (with_reducible first | exact HB.out | apply below_alloc | apply pw_below_drewN | apply below_drew1 | refine below_set ?_ GE323.out | refine below_set ?_ GE324.out | refine below_set ?_ GE325.out) | exact HB.out)))); have n6_ := Aside0.mk (blk_below (g := gb323) (o := .cells #[.bool a0_0, .slice A0_1 l0_1.length c0_1] 25 (0, 0)) (by (with_reducible repeat (first | refine blk_drewN ?_ _ | refine blk_drew ?_ | refine blk_alloc ?_ _)); exact BK323.out) hb); have n7_ := Aside0.mk (blk_below (g := gb324) (o := .cells #[.bool a1_0, .slice A1_1 l1_1.length c1_1] 25 (0, 0)) (by (with_reducible repeat (first | refine blk_drewN ?_ _ | refine blk_drew ?_ | refine blk_alloc ?_ _)); exact BK324.out) hb); have n8_ := Aside0.mk (blk_below (g := gb325) (o := .cells #[.bool false, .slice none 0 0] 25 (0, 0)) (by (with_reducible repeat (first | refine blk_drewN ?_ _ | refine blk_drew ?_ | refine blk_alloc ?_ _)); exact BK325.out) hb); have n9_ := Aside0.mk (below_step (by repeat (first | (with_reducible first | exact HB.out | apply below_alloc | apply pw_below_drewN | apply below_drew1 | refine below_set ?_ GE323.out | refine below_set ?_ GE324.out | refine below_set ?_ GE325.out) | exact HB.out)) hb); clear HO_5; clear HO_6; clear HO_324001; clear HO_325001; clear BK323; clear BK324; clear BK325; clear HB; have HO_5 := n0_; have HO_6 := n1_; have HO_324001 := n2_; have HO_325001 := n3_; have HO328 := n4_; have HO331 := n5_; have BK323 := n6_; have BK324 := n7_; have BK325 := n8_; have HB := n9_; clear n0_ n1_ n2_ n3_ n4_ n5_ n6_ n7_ n8_ n9_; (try clear hb); (try clear hb2); (try clear hk); (try clear hi); (try clear ho0); (try clear ho1)))
    go_roundg k1
    case measure => have := HK1.out; omega
    case rel => exact ⟨(x6_1), (t329), H', ⟨by have := HK1.out; omega⟩, ⟨by (with_reducible repeat (first | apply Kd.V_alloc | apply Kd.V_drewN | apply Kd.V_drew)); exact HO_6.out⟩, ⟨by (with_reducible repeat (first | apply Kd.V_alloc | apply Kd.V_drewN | apply Kd.V_drew)); exact HO331.out⟩, ⟨by (with_reducible repeat (first | apply Kd.V_alloc | apply Kd.V_drewN | apply Kd.V_drew)); exact HO_324001.out⟩, ⟨by (with_reducible repeat (first | apply Kd.V_alloc | apply Kd.V_drewN | apply Kd.V_drew)); exact HO_325001.out⟩, ⟨by (with_reducible repeat (first | refine blk_drewN ?_ _ | refine blk_drew ?_ | refine blk_alloc ?_ _)); exact BK323.out⟩, ⟨by (with_reducible repeat (first | refine blk_drewN ?_ _ | refine blk_drew ?_ | refine blk_alloc ?_ _)); exact BK324.out⟩, ⟨by (with_reducible repeat (first | refine blk_drewN ?_ _ | refine blk_drew ?_ | refine blk_alloc ?_ _)); exact BK325.out⟩, ⟨by repeat (first | (with_reducible first | exact HB.out | apply below_alloc | apply pw_below_drewN | apply below_drew1 | refine below_set ?_ GE323.out | refine below_set ?_ GE324.out | refine below_set ?_ GE325.out) | exact HB.out)⟩⟩
   ·
    rw [if_neg c11] at H
    have c11b0 : decide (0 < (x6_1.length : Int)) = false := decide_eq_false c11
    have c11b1 : decide (0 < x6_1.length) = false := decide_eq_false (by omega)
    clear c11
    simp only [Option.some.injEq, Prod.mk.injEq] at H
    obtain ⟨rfl, rfl⟩ := H
    obtain ⟨Ao16, co16, eo16⟩ := Kd.V_slice HO_6.out
    subst eo16
    obtain ⟨Ao17, co17, eo17⟩ := Kd.V_slice HO_5.out
    subst eo17
    have hnb18 := NB325_323.out
    have hnc18 := NB323_325.out
    have hnb19 := NB325_324.out
    have hnc19 := NB324_325.out
    have hcz20_0 : wr.cell? ⟨gb325, 0, none⟩ = some (.bool false) := (blk_cell BK325.out 0).trans rfl
    have hcz20_1 : wr.cell? ⟨gb325, 1, none⟩ = some (.slice none 0 0) := (blk_cell BK325.out 1).trans rfl
    have hfz20_0 := blk_frozen BK325.out 0
    have hfz20_1 := blk_frozen BK325.out 1
    go_wp2
    repeat (go_quiet (fail); try go_wp2)
    refine bodyPost_ret (results_cell_row rfl _ _ gb325 25 #[.bool false, .slice Ao17 x5_1.length co17] (0, 0) _ rfl (by (with_reducible repeat (first | refine blk_drewN ?_ _ | refine blk_drew ?_ | refine blk_alloc ?_ _)); refine blk_put (cs := #[.bool false, .slice none 0 0]) ?_ 1 _ rfl; (with_reducible repeat (first | refine blk_drewN ?_ _ | refine blk_drew ?_ | refine blk_alloc ?_ _)); refine blk_put (cs := #[.bool false, .slice none 0 0]) ?_ 0 _ rfl; (with_reducible repeat (first | refine blk_drewN ?_ _ | refine blk_drew ?_ | refine blk_alloc ?_ _)); exact BK325.out) Tryd.underlying25 rfl (by kernel_rfl)) rfl ?_
    exact ⟨_, by first | rfl | (simp [errW_none, errW_some] <;> rfl) | (simp [*, errW_none, errW_some] <;> rfl), by (with_reducible repeat (first | apply Kd.V_alloc | apply Kd.V_drewN | apply Kd.V_drew)); exact Kd.V_mono (Kd.V_far (p := ⟨gb325, 1, none⟩) (Kd.V_far (p := ⟨gb325, 0, none⟩) (Kd.V_mono HO_5.out (fun k_ hk => (⟨hk, hk.2.2.2⟩ : _ ∧ k_ ≠ gb325))) (fun _ hk => hk.2) (.bool false)) (fun _ hk => hk.2) (.slice Ao17 x5_1.length co17)) (fun _ hk => hk.1.1), by repeat (first | (with_reducible first | exact HB.out | apply below_alloc | apply pw_below_drewN | apply below_drew1 | refine below_set ?_ GE323.out | refine below_set ?_ GE324.out | refine below_set ?_ GE325.out) | exact HB.out)⟩
def bits_Len32.f (a0 : Int) : Option Int := if 0 ≤ a0 ∧ a0 ≤ 4294967295 then some (Lib.bitLen a0.toNat) else none
theorem bits_Len32.calls (a0 : Int) (r : Int) (w : World) (h : bits_Len32.f a0 = some r) :
  Calls Tryd.prog 66 #[.int .u32 a0] w fun e w' => e = .returned (.int .i64 r) ∧ Drawn0 w w' := by
 unfold bits_Len32.f at h
 split at h
 ·
  rename_i hb
  simp only [Option.some.injEq] at h
  subst h
  refine (Tryd.bits_Len32 a0 w hb.1 hb.2).mono ?_
  rintro e w' ⟨rfl, rfl⟩
  exact ⟨rfl, Drawn0.refl _⟩
 ·
  cases h
def integer_Int_Bits.f (a0_0 : Bool) (l0_1 : List Int) : Option (Int) := if (l0_1.length : Int) = 0 then (some 0) else (if 0 ≤ (wrap64 ((l0_1.length : Int) - 1)) then (if (wrap64 ((l0_1.length : Int) - 1)) < (l0_1.length : Int) then ((bits_Len32.f (rd l0_1 (wrap64 ((l0_1.length : Int) - 1)))).bind fun t360 => (some (wrap64 ((wrap64 (32 * (wrap64 ((l0_1.length : Int) - 1)))) + t360)))) else (none)) else (none))
set_option maxHeartbeats 8000000 in
set_option maxRecDepth 100000 in
theorem integer_Int_Bits.calls (a0_0 : Bool) (A0_1 : Option Addr) (c0_1 : Nat) (l0_1 : List Int) (r : Int) (w : World) (hr0_1 : Kd.C (Kd.int .u32) w A0_1 l0_1.length l0_1) (hc0_1 : l0_1.length ≤ c0_1) (h : integer_Int_Bits.f a0_0 l0_1 = some r) :
  Calls Tryd.prog 42 #[.agg #[.bool a0_0, .slice A0_1 l0_1.length c0_1]] w fun e w' => e = .returned (.int .i64 r) ∧ Below w.heap.size w w' := by
 have hu25 := Tryd.underlying25
 have HR0_1 := Aside0.mk hr0_1
 have HC0_1 := Aside0.mk hc0_1
 clear hr0_1 hc0_1
 have HB := Aside0.mk (Below.refl w.heap.size w)
 have H : (if (l0_1.length : Int) = 0 then (some 0) else (if 0 ≤ (wrap64 ((l0_1.length : Int) - 1)) then (if (wrap64 ((l0_1.length : Int) - 1)) < (l0_1.length : Int) then ((bits_Len32.f (rd l0_1 (wrap64 ((l0_1.length : Int) - 1)))).bind fun t360 => (some (wrap64 ((wrap64 (32 * (wrap64 ((l0_1.length : Int) - 1)))) + t360)))) else (none)) else (none))) = some r := h
 clear h
 by_cases c2 : (l0_1.length : Int) = 0
 ·
  rw [if_pos c2] at H
  have c2b0 : ((l0_1.length : Int) == 0) = true := beq_iff_eq.mpr c2
  have c2b1 : ((l0_1.length : Int) != 0) = false := bne_eq_false_iff_eq.mpr c2
  clear c2
  obtain rfl := Option.some.inj H
  go_enter Tryd.func42, Tryd.ntmps42
  go_wp2_with (first | ((with_reducible refine gate_dst (N := 1) rfl ?_); refine box_event ?hg (N := 1) ?hd (cs := #[.bool a0_0, .slice A0_1 l0_1.length c0_1]) (t := 25) ?hr ?_; (case hd => rfl); (case hg => rfl); (case hr => first | (go_simp; done) | (go_simp; rfl)); intro gb358 hg w3 hbox hb; have n0_ := Aside0.mk (below_step (by repeat (first | (with_reducible first | exact HB.out | apply below_alloc | apply pw_below_drewN | apply below_drew1) | exact HB.out)) hb); have n1_ := Aside0.mk (hbox); have n2_ := Aside0.mk ((by rw [hg]; exact (below_size (by repeat (first | (with_reducible first | exact HB.out | apply below_alloc | apply pw_below_drewN | apply below_drew1) | exact HB.out))) : w.heap.size ≤ gb358)); have n3_ := Aside0.mk ((by rw [hg]; exact (below_size (by repeat (first | (with_reducible first | exact HB.out | apply below_alloc | apply pw_below_drewN | apply below_drew1) | exact HB.out))) : w.heap.size ≤ gb358)); clear HB; have HB := n0_; have BK358 := n1_; have GW358 := n2_; have GE358 := n3_; clear n0_ n1_ n2_ n3_; clear hb hbox hg; have hcz4_0 : w3.cell? ⟨gb358, 0, none⟩ = some (.bool a0_0) := (blk_cell BK358.out 0).trans rfl; have hcz4_1 : w3.cell? ⟨gb358, 1, none⟩ = some (.slice A0_1 l0_1.length c0_1) := (blk_cell BK358.out 1).trans rfl; have hfz4_0 := blk_frozen BK358.out 0; have hfz4_1 := blk_frozen BK358.out 1))
  go_ret
  exact ⟨by first | rfl | (simp [errW_none, errW_some] <;> rfl) | (simp [*, errW_none, errW_some] <;> rfl), by repeat (first | (with_reducible first | exact HB.out | apply below_alloc | apply pw_below_drewN | apply below_drew1 | refine below_set ?_ GE358.out) | exact HB.out)⟩
 ·
  rw [if_neg c2] at H
  have c2b0 : ((l0_1.length : Int) == 0) = false := beq_eq_false_iff_ne.mpr c2
  have c2b1 : ((l0_1.length : Int) != 0) = true := bne_iff_ne.mpr c2
  have c2b2 : ¬ (l0_1 = []) := fun h_ => c2 (by rw [h_]; rfl)
  obtain ⟨ji5, hji5⟩ : ∃ j_ : Int, (wrap64 ((l0_1.length : Int) - 1)) = j_ := ⟨_, rfl⟩
  replace H : (if 0 ≤ (ji5) then (if (ji5) < (l0_1.length : Int) then ((bits_Len32.f (rd l0_1 (ji5))).bind fun t360 => (some (wrap64 ((wrap64 (32 * (ji5))) + t360)))) else (none)) else (none)) = some r := by first | (rw [hji5] at H; exact H) | (simp only [hji5] at H ⊢; exact H)
  have hji5w : (IntKind.i64.wrap ((l0_1.length : Int) - 1)) = ji5 := (i64_w _).trans hji5
  by_cases c6 : 0 ≤ (ji5)
  ·
   rw [if_pos c6] at H
   have c6b0 : decide (0 ≤ (ji5)) = true := decide_eq_true c6
   clear c6
   by_cases c7 : (ji5) < (l0_1.length : Int)
   ·
    rw [if_pos c7] at H
    have c7b0 : decide ((ji5) < (l0_1.length : Int)) = true := decide_eq_true c7
    clear c7
    replace H := Option.bind_eq_some_iff.mp H
    obtain ⟨t360, A80, H⟩ := H
    replace H : (some (wrap64 ((wrap64 (32 * (ji5))) + t360))) = some r := H
    have A8 := Aside0.mk A80
    clear A80
    obtain rfl := Option.some.inj H
    go_enter Tryd.func42, Tryd.ntmps42
    go_wp2_with (first | ((with_reducible refine gate_dst (N := 1) rfl ?_); refine box_event ?hg (N := 1) ?hd (cs := #[.bool a0_0, .slice A0_1 l0_1.length c0_1]) (t := 25) ?hr ?_; (case hd => rfl); (case hg => rfl); (case hr => first | (go_simp; done) | (go_simp; rfl)); intro gb358 hg w9 hbox hb; have n0_ := Aside0.mk (below_step (by repeat (first | (with_reducible first | exact HB.out | apply below_alloc | apply pw_below_drewN | apply below_drew1) | exact HB.out)) hb); have n1_ := Aside0.mk (hbox); have n2_ := Aside0.mk ((by rw [hg]; exact (below_size (by repeat (first | (with_reducible first | exact HB.out | apply below_alloc | apply pw_below_drewN | apply below_drew1) | exact HB.out))) : w.heap.size ≤ gb358)); have n3_ := Aside0.mk ((by rw [hg]; exact (below_size (by repeat (first | (with_reducible first | exact HB.out | apply below_alloc | apply pw_below_drewN | apply below_drew1) | exact HB.out))) : w.heap.size ≤ gb358)); clear HB; have HB := n0_; have BK358 := n1_; have GW358 := n2_; have GE358 := n3_; clear n0_ n1_ n2_ n3_; clear hb hbox hg; have hcz10_0 : w9.cell? ⟨gb358, 0, none⟩ = some (.bool a0_0) := (blk_cell BK358.out 0).trans rfl; have hcz10_1 : w9.cell? ⟨gb358, 1, none⟩ = some (.slice A0_1 l0_1.length c0_1) := (blk_cell BK358.out 1).trans rfl; have hfz10_0 := blk_frozen BK358.out 0; have hfz10_1 := blk_frozen BK358.out 1; have p359 : 0 ≤ ((ji5) : Int) := of_decide_eq_true (by assumption); have q359 : (ji5) < (l0_1.length : Int) := of_decide_eq_true (by assumption); obtain ⟨ad359, e359, hx359_0⟩ := Kd.at_int HR0_1.out (ji5) p359 q359; cases e359; replace hx359_0 := (HB.out.cell (World.block_lt_of_cell? w _ hx359_0)).trans hx359_0; replace p359 := eq_true p359; replace q359 := eq_true q359) | (go_at_call 66; (with_reducible refine (bits_Len32.calls (rd l0_1 (ji5)) t360 _ A8.out).mono ?_); rintro e w' ⟨rfl, ⟨nd, rfl⟩⟩; (try first | exact ⟨rfl, _, World.drewN_drewN _ _ _⟩ | exact ⟨rfl, _, Eq.trans (World.drewN_drewN _ _ _) (congrArg (World.drewN _) (Nat.add_assoc _ _ _))⟩)))
    repeat (go_quiet (first | ((with_reducible refine gate_dst (N := 1) rfl ?_); refine box_event ?hg (N := 1) ?hd (cs := #[.bool a0_0, .slice A0_1 l0_1.length c0_1]) (t := 25) ?hr ?_; (case hd => rfl); (case hg => rfl); (case hr => first | (go_simp; done) | (go_simp; rfl)); intro gb358 hg w9 hbox hb; have n0_ := Aside0.mk (below_step (by repeat (first | (with_reducible first | exact HB.out | apply below_alloc | apply pw_below_drewN | apply below_drew1) | exact HB.out)) hb); have n1_ := Aside0.mk (hbox); have n2_ := Aside0.mk ((by rw [hg]; exact (below_size (by repeat (first | (with_reducible first | exact HB.out | apply below_alloc | apply pw_below_drewN | apply below_drew1) | exact HB.out))) : w.heap.size ≤ gb358)); have n3_ := Aside0.mk ((by rw [hg]; exact (below_size (by repeat (first | (with_reducible first | exact HB.out | apply below_alloc | apply pw_below_drewN | apply below_drew1) | exact HB.out))) : w.heap.size ≤ gb358)); clear HB; have HB := n0_; have BK358 := n1_; have GW358 := n2_; have GE358 := n3_; clear n0_ n1_ n2_ n3_; clear hb hbox hg; have hcz10_0 : w9.cell? ⟨gb358, 0, none⟩ = some (.bool a0_0) := (blk_cell BK358.out 0).trans rfl; have hcz10_1 : w9.cell? ⟨gb358, 1, none⟩ = some (.slice A0_1 l0_1.length c0_1) := (blk_cell BK358.out 1).trans rfl; have hfz10_0 := blk_frozen BK358.out 0; have hfz10_1 := blk_frozen BK358.out 1; have p359 : 0 ≤ ((ji5) : Int) := of_decide_eq_true (by assumption); have q359 : (ji5) < (l0_1.length : Int) := of_decide_eq_true (by assumption); obtain ⟨ad359, e359, hx359_0⟩ := Kd.at_int HR0_1.out (ji5) p359 q359; cases e359; replace hx359_0 := (HB.out.cell (World.block_lt_of_cell? w _ hx359_0)).trans hx359_0; replace p359 := eq_true p359; replace q359 := eq_true q359) | (go_at_call 66; (with_reducible refine (bits_Len32.calls (rd l0_1 (ji5)) t360 _ A8.out).mono ?_); rintro e w' ⟨rfl, ⟨nd, rfl⟩⟩; (try first | exact ⟨rfl, _, World.drewN_drewN _ _ _⟩ | exact ⟨rfl, _, Eq.trans (World.drewN_drewN _ _ _) (congrArg (World.drewN _) (Nat.add_assoc _ _ _))⟩))); try go_wp2_with (first | ((with_reducible refine gate_dst (N := 1) rfl ?_); refine box_event ?hg (N := 1) ?hd (cs := #[.bool a0_0, .slice A0_1 l0_1.length c0_1]) (t := 25) ?hr ?_; (case hd => rfl); (case hg => rfl); (case hr => first | (go_simp; done) | (go_simp; rfl)); intro gb358 hg w9 hbox hb; have n0_ := Aside0.mk (below_step (by repeat (first | (with_reducible first | exact HB.out | apply below_alloc | apply pw_below_drewN | apply below_drew1) | exact HB.out)) hb); have n1_ := Aside0.mk (hbox); have n2_ := Aside0.mk ((by rw [hg]; exact (below_size (by repeat (first | (with_reducible first | exact HB.out | apply below_alloc | apply pw_below_drewN | apply below_drew1) | exact HB.out))) : w.heap.size ≤ gb358)); have n3_ := Aside0.mk ((by rw [hg]; exact (below_size (by repeat (first | (with_reducible first | exact HB.out | apply below_alloc | apply pw_below_drewN | apply below_drew1) | exact HB.out))) : w.heap.size ≤ gb358)); clear HB; have HB := n0_; have BK358 := n1_; have GW358 := n2_; have GE358 := n3_; clear n0_ n1_ n2_ n3_; clear hb hbox hg; have hcz10_0 : w9.cell? ⟨gb358, 0, none⟩ = some (.bool a0_0) := (blk_cell BK358.out 0).trans rfl; have hcz10_1 : w9.cell? ⟨gb358, 1, none⟩ = some (.slice A0_1 l0_1.length c0_1) := (blk_cell BK358.out 1).trans rfl; have hfz10_0 := blk_frozen BK358.out 0; have hfz10_1 := blk_frozen BK358.out 1; have p359 : 0 ≤ ((ji5) : Int) := of_decide_eq_true (by assumption); have q359 : (ji5) < (l0_1.length : Int) := of_decide_eq_true (by assumption); obtain ⟨ad359, e359, hx359_0⟩ := Kd.at_int HR0_1.out (ji5) p359 q359; cases e359; replace hx359_0 := (HB.out.cell (World.block_lt_of_cell? w _ hx359_0)).trans hx359_0; replace p359 := eq_true p359; replace q359 := eq_true q359) | (go_at_call 66; (with_reducible refine (bits_Len32.calls (rd l0_1 (ji5)) t360 _ A8.out).mono ?_); rintro e w' ⟨rfl, ⟨nd, rfl⟩⟩; (try first | exact ⟨rfl, _, World.drewN_drewN _ _ _⟩ | exact ⟨rfl, _, Eq.trans (World.drewN_drewN _ _ _) (congrArg (World.drewN _) (Nat.add_assoc _ _ _))⟩))))
    go_ret
    exact ⟨by first | rfl | (simp [errW_none, errW_some] <;> rfl) | (simp only [← hji5]; first | rfl | (simp [errW_none, errW_some] <;> rfl)) | (simp [*, errW_none, errW_some] <;> rfl), by repeat (first | (with_reducible first | exact HB.out | apply below_alloc | apply pw_below_drewN | apply below_drew1 | refine below_set ?_ GE358.out) | exact HB.out)⟩
   ·
    rw [if_neg c7] at H
    exact absurd H (by simp)
  ·
   rw [if_neg c6] at H
   exact absurd H (by simp)
end Go.Proofs.YtiikfhdmclmjmaaDoor.P
