/- Part 4 of the proof of IntegerGcds: what the program's functions compute, told as plain functions, and what these answer. Conditions: none beside the statement's own. Gathered by the session's program merge.py out of its own and the printed texts; no declaration that the proof does not name is left in. -/
import Derived.Test.YtiikfhdmclmjmaaDoorIGcd3
set_option linter.unusedVariables false
set_option linter.unusedSimpArgs false
namespace Go.Proofs.YtiikfhdmclmjmaaDoor.P
open Go.RowKit Go.Proofs.YtiikfhdmclmjmaaDoorW.PrintWords Go.Proofs.YtiikfhdmclmjmaaDoorW.PrintLast
def integer_Gcd.l0 : Nat → List Int → List Int → Option (Bool × List Int)
 | 0, _, _ => none
 | k + 1, x5, x6 => if (x6.length : Int) > 0 then ((integer_divide.f k x5 x6).bind fun bt356 => (integer_Gcd.l0 k x6 bt356.2)) else (some (false, x5))
def integer_Gcd.f (k : Nat) (a0_0 : Bool) (l0_1 : List Int) (a1_0 : Bool) (l1_1 : List Int) : Option (Bool × List Int) := integer_Gcd.l0 k l0_1 l1_1
theorem integer_Gcd.mono_l : ∀ k, (∀ y0 y1, LeO (integer_Gcd.l0 k y0 y1) (integer_Gcd.l0 (k + 1) y0 y1))
 | 0 => fun _ _ r h => by simp [integer_Gcd.l0] at h
 | k + 1 => by
  have ih0 := integer_Gcd.mono_l k
  ·
   intro y0 y1
   unfold integer_Gcd.l0
   repeat' with_reducible first | exact ih0 _ _ | exact integer_divide.mono _ _ _ | exact LeO.refl _ | exact LeO.none _ | refine LeO.ite ?_ ?_ | refine LeO.bind ?_ (fun _ => ?_)
theorem integer_Gcd.mono : ∀ a0 a1 a2 a3 k, LeO (integer_Gcd.f k a0 a1 a2 a3) (integer_Gcd.f (k + 1) a0 a1 a2 a3) := by
 intro a0 a1 a2 a3 k
 have ih0 := integer_Gcd.mono_l k
 unfold integer_Gcd.f
 repeat' with_reducible first | exact ih0 _ _ | exact integer_divide.mono _ _ _ | exact LeO.refl _ | exact LeO.none _ | refine LeO.ite ?_ ?_ | refine LeO.bind ?_ (fun _ => ?_)
set_option maxHeartbeats 8000000 in
set_option maxRecDepth 100000 in
theorem integer_Gcd.calls (k : Nat) (a0_0 : Bool) (P0_1_ : Nat → Prop) (A0_1 : Option Addr) (c0_1 : Nat) (l0_1 : List Int) (a1_0 : Bool) (P1_1_ : Nat → Prop) (A1_1 : Option Addr) (c1_1 : Nat) (l1_1 : List Int) (r1 : Bool) (r2 : List Int) (w : World) (hs0_1 : Kd.V (Kd.int .u32) 60 w w.heap.size (fun k_ => P0_1_ k_) (.slice A0_1 l0_1.length c0_1) l0_1) (hs1_1 : Kd.V (Kd.int .u32) 60 w w.heap.size (fun k_ => P1_1_ k_) (.slice A1_1 l1_1.length c1_1) l1_1) (h : integer_Gcd.f k a0_0 l0_1 a1_0 l1_1 = some (r1, r2)) :
  Calls Tryd.prog 29 #[.agg #[.bool a0_0, .slice A0_1 l0_1.length c0_1], .agg #[.bool a1_0, .slice A1_1 l1_1.length c1_1]] w fun e w' => ∃ v1_ : Value, e = .returned (.agg #[.bool r1, v1_]) ∧ Kd.V (Kd.int .u32) 60 w' w.heap.size (fun k_ => ((P0_1_ k_ ∨ P1_1_ k_) ∨ w.heap.size ≤ k_)) v1_ r2 ∧ Below w.heap.size w w' := by
 have hu25 := Tryd.underlying25
 have HO0_1 := Aside0.mk (show Kd.V (Kd.int .u32) 60 w w.heap.size (fun k_ => ((P0_1_ k_ ∨ P1_1_ k_) ∨ w.heap.size ≤ k_)) (.slice A0_1 l0_1.length c0_1) l0_1 from Kd.V_mono hs0_1 (fun k_ hk => .inl (.inl hk)))
 have HO1_1 := Aside0.mk (show Kd.V (Kd.int .u32) 60 w w.heap.size (fun k_ => ((P0_1_ k_ ∨ P1_1_ k_) ∨ w.heap.size ≤ k_)) (.slice A1_1 l1_1.length c1_1) l1_1 from Kd.V_mono hs1_1 (fun k_ hk => .inl (.inr hk)))
 have HB := Aside0.mk (Below.refl w.heap.size w)
 have H := h
 unfold integer_Gcd.f at H
 clear h
 have H' := Aside0.mk H
 clear H
 go_enter Tryd.func29, Tryd.ntmps29
 go_wp2_with (first | ((with_reducible refine gate_dst (N := 2) rfl ?_); refine box_event ?hg (N := 2) ?hd (cs := #[.bool a0_0, .slice A0_1 l0_1.length c0_1]) (t := 25) ?hr ?_; (case hd => rfl); (case hg => rfl); (case hr => first | (go_simp; done) | (go_simp; rfl)); intro gb353 hg w3 hbox hb; replace HO0_1 := Aside0.mk (Kd.V_below (Kd.V_elderB (Kd.V_up HO0_1.out) gb353 (Nat.le_of_eq hg.symm)) hb); replace HO1_1 := Aside0.mk (Kd.V_below (Kd.V_elderB (Kd.V_up HO1_1.out) gb353 (Nat.le_of_eq hg.symm)) hb); have BK353 := Aside0.mk (hbox); have GE353 := Aside0.mk ((size_up hg HB.out : w.heap.size ≤ gb353)); replace HB := Aside0.mk (below_step (below_up HB.out) hb); clear hb hbox hg) | ((with_reducible refine gate_dst (N := 3) rfl ?_); refine box_event ?hg (N := 3) ?hd (cs := #[.bool a1_0, .slice A1_1 l1_1.length c1_1]) (t := 25) ?hr ?_; (case hd => rfl); (case hg => rfl); (case hr => first | (go_simp; done) | (go_simp; rfl)); intro gb354 hg w4 hbox hb; replace HO0_1 := Aside0.mk (Kd.V_below (Kd.V_elderB (Kd.V_up HO0_1.out) gb354 (Nat.le_of_eq hg.symm)) hb); replace HO1_1 := Aside0.mk (Kd.V_below (Kd.V_elderB (Kd.V_up HO1_1.out) gb354 (Nat.le_of_eq hg.symm)) hb); have BK354 := Aside0.mk (hbox); have GE354 := Aside0.mk ((by rw [hg]; exact (below_size (by with_reducible repeat first | exact HB.out | apply below_alloc | apply pw_below_drewN | apply below_drew1 | refine below_set ?_ GE353.out)) : w.heap.size ≤ gb354)); replace HB := Aside0.mk (below_step (by with_reducible repeat first | exact HB.out | apply below_alloc | apply pw_below_drewN | apply below_drew1 | refine below_set ?_ GE353.out) hb); have NB353_354 := Aside0.mk ((blk_nw hg BK353.out : gb353 ≠ gb354)); have NB354_353 := Aside0.mk ((nw_blk hg BK353.out : gb354 ≠ gb353)); replace BK353 := Aside0.mk (blk_below (blk_up BK353.out) hb); clear hb hbox hg) | ((with_reducible refine gate_dst (N := 4) rfl ?_); refine box_event ?hg (N := 4) ?hd (cs := #[.bool false, .slice none 0 0]) (t := 25) ?hr ?_; (case hd => rfl); (case hg => rfl); (case hr => first | (go_simp; done) | (go_simp; rfl)); intro gb355 hg w5 hbox hb; replace HO0_1 := Aside0.mk (Kd.V_below (Kd.V_elderB (Kd.V_up HO0_1.out) gb355 (Nat.le_of_eq hg.symm)) hb); replace HO1_1 := Aside0.mk (Kd.V_below (Kd.V_elderB (Kd.V_up HO1_1.out) gb355 (Nat.le_of_eq hg.symm)) hb); have BK355 := Aside0.mk (hbox); have GE355 := Aside0.mk ((by rw [hg]; exact (below_size (by with_reducible repeat first | exact HB.out | apply below_alloc | apply pw_below_drewN | apply below_drew1 | refine below_set ?_ GE353.out | refine below_set ?_ GE354.out)) : w.heap.size ≤ gb355)); replace HB := Aside0.mk (below_step (by with_reducible repeat first | exact HB.out | apply below_alloc | apply pw_below_drewN | apply below_drew1 | refine below_set ?_ GE353.out | refine below_set ?_ GE354.out) hb); have NB353_355 := Aside0.mk ((blk_nw hg BK353.out : gb353 ≠ gb355)); have NB355_353 := Aside0.mk ((nw_blk hg BK353.out : gb355 ≠ gb353)); replace BK353 := Aside0.mk (blk_below (blk_up BK353.out) hb); have NB354_355 := Aside0.mk ((blk_nw hg BK354.out : gb354 ≠ gb355)); have NB355_354 := Aside0.mk ((nw_blk hg BK354.out : gb355 ≠ gb354)); replace BK354 := Aside0.mk (blk_below (blk_up BK354.out) hb); clear hb hbox hg; have hnb6 := NB353_354.out; have hnc6 := NB354_353.out; have hnb7 := NB353_355.out; have hnc7 := NB355_353.out; have hcz8_0 : w5.cell? ⟨gb353, 0, none⟩ = some (.bool a0_0) := (blk_cell BK353.out 0).trans rfl; have hcz8_1 : w5.cell? ⟨gb353, 1, none⟩ = some (.slice A0_1 l0_1.length c0_1) := (blk_cell BK353.out 1).trans rfl; have hfz8_0 := blk_frozen BK353.out 0; have hfz8_1 := blk_frozen BK353.out 1; have hnb9 := NB354_355.out; have hnc9 := NB355_354.out; have hcz10_0 : w5.cell? ⟨gb354, 0, none⟩ = some (.bool a1_0) := (blk_cell BK354.out 0).trans rfl; have hcz10_1 : w5.cell? ⟨gb354, 1, none⟩ = some (.slice A1_1 l1_1.length c1_1) := (blk_cell BK354.out 1).trans rfl; have hfz10_0 := blk_frozen BK354.out 0; have hfz10_1 := blk_frozen BK354.out 1))
 repeat (go_quiet (first | ((with_reducible refine gate_dst (N := 2) rfl ?_); refine box_event ?hg (N := 2) ?hd (cs := #[.bool a0_0, .slice A0_1 l0_1.length c0_1]) (t := 25) ?hr ?_; (case hd => rfl); (case hg => rfl); (case hr => first | (go_simp; done) | (go_simp; rfl)); intro gb353 hg w3 hbox hb; replace HO0_1 := Aside0.mk (Kd.V_below (Kd.V_elderB (Kd.V_up HO0_1.out) gb353 (Nat.le_of_eq hg.symm)) hb); replace HO1_1 := Aside0.mk (Kd.V_below (Kd.V_elderB (Kd.V_up HO1_1.out) gb353 (Nat.le_of_eq hg.symm)) hb); have BK353 := Aside0.mk (hbox); have GE353 := Aside0.mk ((size_up hg HB.out : w.heap.size ≤ gb353)); replace HB := Aside0.mk (below_step (below_up HB.out) hb); clear hb hbox hg) | ((with_reducible refine gate_dst (N := 3) rfl ?_); refine box_event ?hg (N := 3) ?hd (cs := #[.bool a1_0, .slice A1_1 l1_1.length c1_1]) (t := 25) ?hr ?_; (case hd => rfl); (case hg => rfl); (case hr => first | (go_simp; done) | (go_simp; rfl)); intro gb354 hg w4 hbox hb; replace HO0_1 := Aside0.mk (Kd.V_below (Kd.V_elderB (Kd.V_up HO0_1.out) gb354 (Nat.le_of_eq hg.symm)) hb); replace HO1_1 := Aside0.mk (Kd.V_below (Kd.V_elderB (Kd.V_up HO1_1.out) gb354 (Nat.le_of_eq hg.symm)) hb); have BK354 := Aside0.mk (hbox); have GE354 := Aside0.mk ((by rw [hg]; exact (below_size (by with_reducible repeat first | exact HB.out | apply below_alloc | apply pw_below_drewN | apply below_drew1 | refine below_set ?_ GE353.out)) : w.heap.size ≤ gb354)); replace HB := Aside0.mk (below_step (by with_reducible repeat first | exact HB.out | apply below_alloc | apply pw_below_drewN | apply below_drew1 | refine below_set ?_ GE353.out) hb); have NB353_354 := Aside0.mk ((blk_nw hg BK353.out : gb353 ≠ gb354)); have NB354_353 := Aside0.mk ((nw_blk hg BK353.out : gb354 ≠ gb353)); replace BK353 := Aside0.mk (blk_below (blk_up BK353.out) hb); clear hb hbox hg) | ((with_reducible refine gate_dst (N := 4) rfl ?_); refine box_event ?hg (N := 4) ?hd (cs := #[.bool false, .slice none 0 0]) (t := 25) ?hr ?_; (case hd => rfl); (case hg => rfl); (case hr => first | (go_simp; done) | (go_simp; rfl)); intro gb355 hg w5 hbox hb; replace HO0_1 := Aside0.mk (Kd.V_below (Kd.V_elderB (Kd.V_up HO0_1.out) gb355 (Nat.le_of_eq hg.symm)) hb); replace HO1_1 := Aside0.mk (Kd.V_below (Kd.V_elderB (Kd.V_up HO1_1.out) gb355 (Nat.le_of_eq hg.symm)) hb); have BK355 := Aside0.mk (hbox); have GE355 := Aside0.mk ((by rw [hg]; exact (below_size (by with_reducible repeat first | exact HB.out | apply below_alloc | apply pw_below_drewN | apply below_drew1 | refine below_set ?_ GE353.out | refine below_set ?_ GE354.out)) : w.heap.size ≤ gb355)); replace HB := Aside0.mk (below_step (by with_reducible repeat first | exact HB.out | apply below_alloc | apply pw_below_drewN | apply below_drew1 | refine below_set ?_ GE353.out | refine below_set ?_ GE354.out) hb); have NB353_355 := Aside0.mk ((blk_nw hg BK353.out : gb353 ≠ gb355)); have NB355_353 := Aside0.mk ((nw_blk hg BK353.out : gb355 ≠ gb353)); replace BK353 := Aside0.mk (blk_below (blk_up BK353.out) hb); have NB354_355 := Aside0.mk ((blk_nw hg BK354.out : gb354 ≠ gb355)); have NB355_354 := Aside0.mk ((nw_blk hg BK354.out : gb355 ≠ gb354)); replace BK354 := Aside0.mk (blk_below (blk_up BK354.out) hb); clear hb hbox hg; have hnb6 := NB353_354.out; have hnc6 := NB354_353.out; have hnb7 := NB353_355.out; have hnc7 := NB355_353.out; have hcz8_0 : w5.cell? ⟨gb353, 0, none⟩ = some (.bool a0_0) := (blk_cell BK353.out 0).trans rfl; have hcz8_1 : w5.cell? ⟨gb353, 1, none⟩ = some (.slice A0_1 l0_1.length c0_1) := (blk_cell BK353.out 1).trans rfl; have hfz8_0 := blk_frozen BK353.out 0; have hfz8_1 := blk_frozen BK353.out 1; have hnb9 := NB354_355.out; have hnc9 := NB355_354.out; have hcz10_0 : w5.cell? ⟨gb354, 0, none⟩ = some (.bool a1_0) := (blk_cell BK354.out 0).trans rfl; have hcz10_1 : w5.cell? ⟨gb354, 1, none⟩ = some (.slice A1_1 l1_1.length c1_1) := (blk_cell BK354.out 1).trans rfl; have hfz10_0 := blk_frozen BK354.out 0; have hfz10_1 := blk_frozen BK354.out 1)); try go_wp2_with (first | ((with_reducible refine gate_dst (N := 2) rfl ?_); refine box_event ?hg (N := 2) ?hd (cs := #[.bool a0_0, .slice A0_1 l0_1.length c0_1]) (t := 25) ?hr ?_; (case hd => rfl); (case hg => rfl); (case hr => first | (go_simp; done) | (go_simp; rfl)); intro gb353 hg w3 hbox hb; replace HO0_1 := Aside0.mk (Kd.V_below (Kd.V_elderB (Kd.V_up HO0_1.out) gb353 (Nat.le_of_eq hg.symm)) hb); replace HO1_1 := Aside0.mk (Kd.V_below (Kd.V_elderB (Kd.V_up HO1_1.out) gb353 (Nat.le_of_eq hg.symm)) hb); have BK353 := Aside0.mk (hbox); have GE353 := Aside0.mk ((size_up hg HB.out : w.heap.size ≤ gb353)); replace HB := Aside0.mk (below_step (below_up HB.out) hb); clear hb hbox hg) | ((with_reducible refine gate_dst (N := 3) rfl ?_); refine box_event ?hg (N := 3) ?hd (cs := #[.bool a1_0, .slice A1_1 l1_1.length c1_1]) (t := 25) ?hr ?_; (case hd => rfl); (case hg => rfl); (case hr => first | (go_simp; done) | (go_simp; rfl)); intro gb354 hg w4 hbox hb; replace HO0_1 := Aside0.mk (Kd.V_below (Kd.V_elderB (Kd.V_up HO0_1.out) gb354 (Nat.le_of_eq hg.symm)) hb); replace HO1_1 := Aside0.mk (Kd.V_below (Kd.V_elderB (Kd.V_up HO1_1.out) gb354 (Nat.le_of_eq hg.symm)) hb); have BK354 := Aside0.mk (hbox); have GE354 := Aside0.mk ((by rw [hg]; exact (below_size (by with_reducible repeat first | exact HB.out | apply below_alloc | apply pw_below_drewN | apply below_drew1 | refine below_set ?_ GE353.out)) : w.heap.size ≤ gb354)); replace HB := Aside0.mk (below_step (by with_reducible repeat first | exact HB.out | apply below_alloc | apply pw_below_drewN | apply below_drew1 | refine below_set ?_ GE353.out) hb); have NB353_354 := Aside0.mk ((blk_nw hg BK353.out : gb353 ≠ gb354)); have NB354_353 := Aside0.mk ((nw_blk hg BK353.out : gb354 ≠ gb353)); replace BK353 := Aside0.mk (blk_below (blk_up BK353.out) hb); clear hb hbox hg) | ((with_reducible refine gate_dst (N := 4) rfl ?_); refine box_event ?hg (N := 4) ?hd (cs := #[.bool false, .slice none 0 0]) (t := 25) ?hr ?_; (case hd => rfl); (case hg => rfl); (case hr => first | (go_simp; done) | (go_simp; rfl)); intro gb355 hg w5 hbox hb; replace HO0_1 := Aside0.mk (Kd.V_below (Kd.V_elderB (Kd.V_up HO0_1.out) gb355 (Nat.le_of_eq hg.symm)) hb); replace HO1_1 := Aside0.mk (Kd.V_below (Kd.V_elderB (Kd.V_up HO1_1.out) gb355 (Nat.le_of_eq hg.symm)) hb); have BK355 := Aside0.mk (hbox); have GE355 := Aside0.mk ((by rw [hg]; exact (below_size (by with_reducible repeat first | exact HB.out | apply below_alloc | apply pw_below_drewN | apply below_drew1 | refine below_set ?_ GE353.out | refine below_set ?_ GE354.out)) : w.heap.size ≤ gb355)); replace HB := Aside0.mk (below_step (by with_reducible repeat first | exact HB.out | apply below_alloc | apply pw_below_drewN | apply below_drew1 | refine below_set ?_ GE353.out | refine below_set ?_ GE354.out) hb); have NB353_355 := Aside0.mk ((blk_nw hg BK353.out : gb353 ≠ gb355)); have NB355_353 := Aside0.mk ((nw_blk hg BK353.out : gb355 ≠ gb353)); replace BK353 := Aside0.mk (blk_below (blk_up BK353.out) hb); have NB354_355 := Aside0.mk ((blk_nw hg BK354.out : gb354 ≠ gb355)); have NB355_354 := Aside0.mk ((nw_blk hg BK354.out : gb355 ≠ gb354)); replace BK354 := Aside0.mk (blk_below (blk_up BK354.out) hb); clear hb hbox hg; have hnb6 := NB353_354.out; have hnc6 := NB354_353.out; have hnb7 := NB353_355.out; have hnc7 := NB355_353.out; have hcz8_0 : w5.cell? ⟨gb353, 0, none⟩ = some (.bool a0_0) := (blk_cell BK353.out 0).trans rfl; have hcz8_1 : w5.cell? ⟨gb353, 1, none⟩ = some (.slice A0_1 l0_1.length c0_1) := (blk_cell BK353.out 1).trans rfl; have hfz8_0 := blk_frozen BK353.out 0; have hfz8_1 := blk_frozen BK353.out 1; have hnb9 := NB354_355.out; have hnc9 := NB355_354.out; have hcz10_0 : w5.cell? ⟨gb354, 0, none⟩ = some (.bool a1_0) := (blk_cell BK354.out 0).trans rfl; have hcz10_1 : w5.cell? ⟨gb354, 1, none⟩ = some (.slice A1_1 l1_1.length c1_1) := (blk_cell BK354.out 1).trans rfl; have hfz10_0 := blk_frozen BK354.out 0; have hfz10_1 := blk_frozen BK354.out 1)))
 go_loopg [5, 6] k (fun kq v5 v6 w' => ∃ (x5_1 : List Int) (x6_1 : List Int), Aside0 (integer_Gcd.l0 kq x5_1 x6_1 = some (r1, r2)) ∧ Aside0 (kq ≤ k) ∧ Aside0 (Kd.V (Kd.int .u32) 60 w' w.heap.size (fun k_ => ((P0_1_ k_ ∨ P1_1_ k_) ∨ w.heap.size ≤ k_) ∧ k_ ≠ gb353 ∧ k_ ≠ gb354 ∧ k_ ≠ gb355) v5 x5_1) ∧ Aside0 (Kd.V (Kd.int .u32) 60 w' w.heap.size (fun k_ => ((P0_1_ k_ ∨ P1_1_ k_) ∨ w.heap.size ≤ k_) ∧ k_ ≠ gb353 ∧ k_ ≠ gb354 ∧ k_ ≠ gb355) v6 x6_1) ∧ Aside0 (Kd.V (Kd.int .u32) 60 w' w.heap.size (fun k_ => ((P0_1_ k_ ∨ P1_1_ k_) ∨ w.heap.size ≤ k_) ∧ k_ ≠ gb353 ∧ k_ ≠ gb354 ∧ k_ ≠ gb355) (.slice A0_1 l0_1.length c0_1) l0_1) ∧ Aside0 (Kd.V (Kd.int .u32) 60 w' w.heap.size (fun k_ => ((P0_1_ k_ ∨ P1_1_ k_) ∨ w.heap.size ≤ k_) ∧ k_ ≠ gb353 ∧ k_ ≠ gb354 ∧ k_ ≠ gb355) (.slice A1_1 l1_1.length c1_1) l1_1) ∧ Aside0 (w'.heap[gb353]? = some (.cells #[.bool a0_0, (.slice A0_1 l0_1.length c0_1)] 25 (0, 0))) ∧ Aside0 (w'.heap[gb354]? = some (.cells #[.bool a1_0, (.slice A1_1 l1_1.length c1_1)] 25 (0, 0))) ∧ Aside0 (w'.heap[gb355]? = some (.cells #[.bool false, (.slice none 0 0)] 25 (0, 0))) ∧ Aside0 (Below w.heap.size w w'))
 case atStart => exact ⟨(l0_1), (l1_1), H', ⟨Nat.le_refl _⟩, ⟨Kd.V_up (Kd.V_mono HO0_1.out (fun _ hk => ⟨hk.1.1.1, ⟨hk.1.1.2, ⟨hk.1.2, hk.2⟩⟩⟩))⟩, ⟨Kd.V_up (Kd.V_mono HO1_1.out (fun _ hk => ⟨hk.1.1.1, ⟨hk.1.1.2, ⟨hk.1.2, hk.2⟩⟩⟩))⟩, ⟨Kd.V_up (Kd.V_mono HO0_1.out (fun _ hk => ⟨hk.1.1.1, ⟨hk.1.1.2, ⟨hk.1.2, hk.2⟩⟩⟩))⟩, ⟨Kd.V_up (Kd.V_mono HO1_1.out (fun _ hk => ⟨hk.1.1.1, ⟨hk.1.1.2, ⟨hk.1.2, hk.2⟩⟩⟩))⟩, ⟨by (with_reducible repeat (first | refine blk_drewN ?_ _ | refine blk_drew ?_ | refine blk_alloc ?_ _)); exact BK353.out⟩, ⟨by (with_reducible repeat (first | refine blk_drewN ?_ _ | refine blk_drew ?_ | refine blk_alloc ?_ _)); exact BK354.out⟩, ⟨by (with_reducible repeat (first | refine blk_drewN ?_ _ | refine blk_drew ?_ | refine blk_alloc ?_ _)); exact BK355.out⟩, ⟨by with_reducible repeat first | exact HB.out | apply below_alloc | apply pw_below_drewN | apply below_drew1 | refine below_set ?_ GE353.out | refine below_set ?_ GE354.out | refine below_set ?_ GE355.out⟩⟩
 case round =>
  clear H'
  obtain ⟨x5_1, x6_1, HA, HK1, HO_5, HO_6, HO_354001, HO_355001, BK353, BK354, BK355, HB⟩ := hrel
  cases gk with
  | zero => exact absurd HA.out (by simp [integer_Gcd.l0])
  | succ k1 =>
   have H := HA.out
   clear HA
   simp only [integer_Gcd.l0] at H
   by_cases c11 : (x6_1.length : Int) > 0
   ·
    rw [if_pos c11] at H
    have c11b0 := decide_eq_true c11
    have c11b1 : decide (0 < x6_1.length) = true := decide_eq_true (by omega)
    clear c11
    replace H := Option.bind_eq_some_iff.mp H
    obtain ⟨⟨t356, t359⟩, A120, H⟩ := H
    try dsimp only at H
    have A12 := Aside0.mk A120
    clear A120
    have H' := Aside0.mk H
    clear H
    obtain ⟨Ao13, co13, eo13⟩ := Kd.V_slice HO_6.out
    subst eo13
    obtain ⟨Ao14, co14, eo14⟩ := Kd.V_slice HO_5.out
    subst eo14
    go_wp2_with (first | (go_at_call 59; (with_reducible refine (integer_divide.calls k1 (fun k_ => (((P0_1_ k_ ∨ P1_1_ k_) ∨ w.heap.size ≤ k_) ∧ (k_ ≠ gb353 ∧ (k_ ≠ gb354 ∧ k_ ≠ gb355)))) _ _ x5_1 _ _ x6_1 t356 t359 _ ?side1 ?side2 ?side3 A12.out).mono ?_); (case side1 => exact HO_5.out); (case side2 => repeat (first | exact (Kd.V_reads' HO_6.out).2.2 | (with_reducible refine Kd.C_alloc ?_ _) | (with_reducible refine Kd.C_drewN ?_ _) | (with_reducible refine Kd.C_drew ?_))); (case side3 => exact (Kd.V_reads' HO_6.out).2.1); rintro e w15 ⟨v357, v360, rfl, ho0, ho1, hb⟩; replace HO_5 := Aside0.mk (Kd.V_below (Kd.V_up HO_5.out) hb); replace HO_6 := Aside0.mk (Kd.V_below (Kd.V_up HO_6.out) hb); replace HO_354001 := Aside0.mk (Kd.V_below (Kd.V_up HO_354001.out) hb); replace HO_355001 := Aside0.mk (Kd.V_below (Kd.V_up HO_355001.out) hb); have HO361 := Aside0.mk (Kd.V_lower (Kd.V_mono (ok' := fun k_ => ((P0_1_ k_ ∨ P1_1_ k_) ∨ w.heap.size ≤ k_) ∧ k_ ≠ gb353 ∧ k_ ≠ gb354 ∧ k_ ≠ gb355) ho1 (fun k_ hk_ => ⟨Or.elim hk_ (fun hs_ => hs_.1) (fun hn_ => (.inr (Nat.le_trans (below_size (by with_reducible repeat first | exact HB.out | apply below_alloc | apply pw_below_drewN | apply below_drew1 | refine below_set ?_ GE353.out | refine below_set ?_ GE354.out | refine below_set ?_ GE355.out)) hn_))), Or.elim hk_ (fun hs_ => hs_.2.1) (fun hn_ => (Kd.freshB (g := gb353) (o := .cells #[.bool a0_0, .slice A0_1 l0_1.length c0_1] 25 (0, 0)) (blk_up BK353.out) k_ hn_)), Or.elim hk_ (fun hs_ => hs_.2.2.1) (fun hn_ => (Kd.freshB (g := gb354) (o := .cells #[.bool a1_0, .slice A1_1 l1_1.length c1_1] 25 (0, 0)) (blk_up BK354.out) k_ hn_)), Or.elim hk_ (fun hs_ => hs_.2.2.2) (fun hn_ => (Kd.freshB (g := gb355) (o := .cells #[.bool false, .slice none 0 0] 25 (0, 0)) (blk_up BK355.out) k_ hn_))⟩)) (below_size (by with_reducible repeat first | exact HB.out | apply below_alloc | apply pw_below_drewN | apply below_drew1 | refine below_set ?_ GE353.out | refine below_set ?_ GE354.out | refine below_set ?_ GE355.out))); replace BK353 := Aside0.mk (blk_below (blk_up BK353.out) hb); replace BK354 := Aside0.mk (blk_below (blk_up BK354.out) hb); replace BK355 := Aside0.mk (blk_below (blk_up BK355.out) hb); replace HB := Aside0.mk (below_step (by with_reducible repeat first | exact HB.out | apply below_alloc | apply pw_below_drewN | apply below_drew1 | refine below_set ?_ GE353.out | refine below_set ?_ GE354.out | refine below_set ?_ GE355.out) hb); (try clear hb); (try clear hb2); (try clear hk); (try clear hi); (try clear ho0); (try clear ho1)))
    repeat (go_quiet (first | (go_at_call 59; (with_reducible refine (integer_divide.calls k1 (fun k_ => (((P0_1_ k_ ∨ P1_1_ k_) ∨ w.heap.size ≤ k_) ∧ (k_ ≠ gb353 ∧ (k_ ≠ gb354 ∧ k_ ≠ gb355)))) _ _ x5_1 _ _ x6_1 t356 t359 _ ?side1 ?side2 ?side3 A12.out).mono ?_); (case side1 => exact HO_5.out); (case side2 => repeat (first | exact (Kd.V_reads' HO_6.out).2.2 | (with_reducible refine Kd.C_alloc ?_ _) | (with_reducible refine Kd.C_drewN ?_ _) | (with_reducible refine Kd.C_drew ?_))); (case side3 => exact (Kd.V_reads' HO_6.out).2.1); rintro e w15 ⟨v357, v360, rfl, ho0, ho1, hb⟩; replace HO_5 := Aside0.mk (Kd.V_below (Kd.V_up HO_5.out) hb); replace HO_6 := Aside0.mk (Kd.V_below (Kd.V_up HO_6.out) hb); replace HO_354001 := Aside0.mk (Kd.V_below (Kd.V_up HO_354001.out) hb); replace HO_355001 := Aside0.mk (Kd.V_below (Kd.V_up HO_355001.out) hb); have HO361 := Aside0.mk (Kd.V_lower (Kd.V_mono (ok' := fun k_ => ((P0_1_ k_ ∨ P1_1_ k_) ∨ w.heap.size ≤ k_) ∧ k_ ≠ gb353 ∧ k_ ≠ gb354 ∧ k_ ≠ gb355) ho1 (fun k_ hk_ => ⟨Or.elim hk_ (fun hs_ => hs_.1) (fun hn_ => (.inr (Nat.le_trans (below_size (by with_reducible repeat first | exact HB.out | apply below_alloc | apply pw_below_drewN | apply below_drew1 | refine below_set ?_ GE353.out | refine below_set ?_ GE354.out | refine below_set ?_ GE355.out)) hn_))), Or.elim hk_ (fun hs_ => hs_.2.1) (fun hn_ => (Kd.freshB (g := gb353) (o := .cells #[.bool a0_0, .slice A0_1 l0_1.length c0_1] 25 (0, 0)) (blk_up BK353.out) k_ hn_)), Or.elim hk_ (fun hs_ => hs_.2.2.1) (fun hn_ => (Kd.freshB (g := gb354) (o := .cells #[.bool a1_0, .slice A1_1 l1_1.length c1_1] 25 (0, 0)) (blk_up BK354.out) k_ hn_)), Or.elim hk_ (fun hs_ => hs_.2.2.2) (fun hn_ => (Kd.freshB (g := gb355) (o := .cells #[.bool false, .slice none 0 0] 25 (0, 0)) (blk_up BK355.out) k_ hn_))⟩)) (below_size (by with_reducible repeat first | exact HB.out | apply below_alloc | apply pw_below_drewN | apply below_drew1 | refine below_set ?_ GE353.out | refine below_set ?_ GE354.out | refine below_set ?_ GE355.out))); replace BK353 := Aside0.mk (blk_below (blk_up BK353.out) hb); replace BK354 := Aside0.mk (blk_below (blk_up BK354.out) hb); replace BK355 := Aside0.mk (blk_below (blk_up BK355.out) hb); replace HB := Aside0.mk (below_step (by with_reducible repeat first | exact HB.out | apply below_alloc | apply pw_below_drewN | apply below_drew1 | refine below_set ?_ GE353.out | refine below_set ?_ GE354.out | refine below_set ?_ GE355.out) hb); (try clear hb); (try clear hb2); (try clear hk); (try clear hi); (try clear ho0); (try clear ho1))); try go_wp2_with (first | (go_at_call 59; (with_reducible refine (integer_divide.calls k1 (fun k_ => (((P0_1_ k_ ∨ P1_1_ k_) ∨ w.heap.size ≤ k_) ∧ (k_ ≠ gb353 ∧ (k_ ≠ gb354 ∧ k_ ≠ gb355)))) _ _ x5_1 _ _ x6_1 t356 t359 _ ?side1 ?side2 ?side3 A12.out).mono ?_); (case side1 => exact HO_5.out); (case side2 => repeat (first | exact (Kd.V_reads' HO_6.out).2.2 | (with_reducible refine Kd.C_alloc ?_ _) | (with_reducible refine Kd.C_drewN ?_ _) | (with_reducible refine Kd.C_drew ?_))); (case side3 => exact (Kd.V_reads' HO_6.out).2.1); rintro e w15 ⟨v357, v360, rfl, ho0, ho1, hb⟩; replace HO_5 := Aside0.mk (Kd.V_below (Kd.V_up HO_5.out) hb); replace HO_6 := Aside0.mk (Kd.V_below (Kd.V_up HO_6.out) hb); replace HO_354001 := Aside0.mk (Kd.V_below (Kd.V_up HO_354001.out) hb); replace HO_355001 := Aside0.mk (Kd.V_below (Kd.V_up HO_355001.out) hb); have HO361 := Aside0.mk (Kd.V_lower (Kd.V_mono (ok' := fun k_ => ((P0_1_ k_ ∨ P1_1_ k_) ∨ w.heap.size ≤ k_) ∧ k_ ≠ gb353 ∧ k_ ≠ gb354 ∧ k_ ≠ gb355) ho1 (fun k_ hk_ => ⟨Or.elim hk_ (fun hs_ => hs_.1) (fun hn_ => (.inr (Nat.le_trans (below_size (by with_reducible repeat first | exact HB.out | apply below_alloc | apply pw_below_drewN | apply below_drew1 | refine below_set ?_ GE353.out | refine below_set ?_ GE354.out | refine below_set ?_ GE355.out)) hn_))), Or.elim hk_ (fun hs_ => hs_.2.1) (fun hn_ => (Kd.freshB (g := gb353) (o := .cells #[.bool a0_0, .slice A0_1 l0_1.length c0_1] 25 (0, 0)) (blk_up BK353.out) k_ hn_)), Or.elim hk_ (fun hs_ => hs_.2.2.1) (fun hn_ => (Kd.freshB (g := gb354) (o := .cells #[.bool a1_0, .slice A1_1 l1_1.length c1_1] 25 (0, 0)) (blk_up BK354.out) k_ hn_)), Or.elim hk_ (fun hs_ => hs_.2.2.2) (fun hn_ => (Kd.freshB (g := gb355) (o := .cells #[.bool false, .slice none 0 0] 25 (0, 0)) (blk_up BK355.out) k_ hn_))⟩)) (below_size (by with_reducible repeat first | exact HB.out | apply below_alloc | apply pw_below_drewN | apply below_drew1 | refine below_set ?_ GE353.out | refine below_set ?_ GE354.out | refine below_set ?_ GE355.out))); replace BK353 := Aside0.mk (blk_below (blk_up BK353.out) hb); replace BK354 := Aside0.mk (blk_below (blk_up BK354.out) hb); replace BK355 := Aside0.mk (blk_below (blk_up BK355.out) hb); replace HB := Aside0.mk (below_step (by with_reducible repeat first | exact HB.out | apply below_alloc | apply pw_below_drewN | apply below_drew1 | refine below_set ?_ GE353.out | refine below_set ?_ GE354.out | refine below_set ?_ GE355.out) hb); (try clear hb); (try clear hb2); (try clear hk); (try clear hi); (try clear ho0); (try clear ho1))))
    go_roundg k1
    case measure => have := HK1.out; omega
    case rel => exact ⟨(x6_1), (t359), H', ⟨by have := HK1.out; omega⟩, ⟨Kd.V_up HO_6.out⟩, ⟨Kd.V_up HO361.out⟩, ⟨Kd.V_up HO_354001.out⟩, ⟨Kd.V_up HO_355001.out⟩, ⟨by (with_reducible repeat (first | refine blk_drewN ?_ _ | refine blk_drew ?_ | refine blk_alloc ?_ _)); exact BK353.out⟩, ⟨by (with_reducible repeat (first | refine blk_drewN ?_ _ | refine blk_drew ?_ | refine blk_alloc ?_ _)); exact BK354.out⟩, ⟨by (with_reducible repeat (first | refine blk_drewN ?_ _ | refine blk_drew ?_ | refine blk_alloc ?_ _)); exact BK355.out⟩, ⟨by with_reducible repeat first | exact HB.out | apply below_alloc | apply pw_below_drewN | apply below_drew1 | refine below_set ?_ GE353.out | refine below_set ?_ GE354.out | refine below_set ?_ GE355.out⟩⟩
   ·
    rw [if_neg c11] at H
    have c11b0 := decide_eq_false c11
    have c11b1 : decide (0 < x6_1.length) = false := decide_eq_false (by omega)
    clear c11
    simp only [Option.some.injEq, Prod.mk.injEq] at H
    obtain ⟨rfl, rfl⟩ := H
    obtain ⟨Ao16, co16, eo16⟩ := Kd.V_slice HO_6.out
    subst eo16
    obtain ⟨Ao17, co17, eo17⟩ := Kd.V_slice HO_5.out
    subst eo17
    have hnb18 := NB355_353.out
    have hnc18 := NB353_355.out
    have hnb19 := NB355_354.out
    have hnc19 := NB354_355.out
    have hcz20_0 : wr.cell? ⟨gb355, 0, none⟩ = some (.bool false) := (blk_cell BK355.out 0).trans rfl
    have hcz20_1 : wr.cell? ⟨gb355, 1, none⟩ = some (.slice none 0 0) := (blk_cell BK355.out 1).trans rfl
    have hfz20_0 := blk_frozen BK355.out 0
    have hfz20_1 := blk_frozen BK355.out 1
    go_wp2
    repeat (go_quiet (fail); try go_wp2)
    refine bodyPost_ret (results_cell_row rfl _ _ gb355 25 #[.bool false, .slice Ao17 x5_1.length co17] (0, 0) _ rfl (by refine blk_ups ?_; refine blk_put (cs := #[.bool false, .slice none 0 0]) ?_ 1 _ rfl; refine blk_ups ?_; refine blk_put (cs := #[.bool false, .slice none 0 0]) ?_ 0 _ rfl; exact blk_up BK355.out) Tryd.underlying25 rfl (by kernel_rfl)) rfl ?_
    exact ⟨_, by first | rfl | (simp [errW_none, errW_some] <;> rfl) | (simp [*, errW_none, errW_some] <;> rfl), Kd.V_up (Kd.V_mono (Kd.V_far (p := ⟨gb355, 1, none⟩) (Kd.V_far (p := ⟨gb355, 0, none⟩) (Kd.V_mono HO_5.out (fun k_ hk => (⟨hk, hk.2.2.2⟩ : _ ∧ k_ ≠ gb355))) (fun _ hk => hk.2) (.bool false)) (fun _ hk => hk.2) (.slice Ao17 x5_1.length co17)) (fun _ hk => hk.1.1)), by with_reducible repeat first | exact HB.out | apply below_alloc | apply pw_below_drewN | apply below_drew1 | refine below_set ?_ GE353.out | refine below_set ?_ GE354.out | refine below_set ?_ GE355.out⟩
mutual
def integer_Mul.l0 : Nat → List Int → List Int → Int → Int → Bool → List Int → Bool → List Int → Option (Bool × List Int)
 | 0, _, _, _, _, _, _, _, _ => none
 | k + 1, x5, x20, x21, x22, x363000, x363001, x364000, x364001 => if x22 < x21 then (if 0 ≤ x22 then (if x22 < (x20.length : Int) then (integer_Mul.l1 k x5 x22 (rd x20 x22) 0 x20 x21 x22 x364001 (x364001.length : Int) 0 x363000 x363001 x364000 x364001) else (none)) else (none)) else ((integer_signed.f k (x363000 != x364000) x5).bind fun bt368 => (some (bt368.1, bt368.2)))
def integer_Mul.l1 : Nat → List Int → Int → Int → Int → List Int → Int → Int → List Int → Int → Int → Bool → List Int → Bool → List Int → Option (Bool × List Int)
 | 0, _, _, _, _, _, _, _, _, _, _, _, _, _, _ => none
 | k + 1, x5, x6, x7, x8, x20, x21, x22, x28, x29, x30, x363000, x363001, x364000, x364001 => if x30 < x29 then (if 0 ≤ x30 then (if x30 < (x28.length : Int) then (if 0 ≤ (wrap64 (x6 + x30)) then (if (wrap64 (x6 + x30)) < (x5.length : Int) then (integer_Mul.l1 k (x5.set ((wrap64 (x6 + x30)) : Int).toNat ((IntKind.u64.wrap (x8 + (IntKind.u64.wrap ((IntKind.u64.wrap ((IntKind.u64.wrap (x7)) * (IntKind.u64.wrap (rd x28 x30)))) + (IntKind.u64.wrap (rd x5 (wrap64 (x6 + x30)))))))) % 4294967296)) x6 x7 ((IntKind.u64.wrap (x8 + (IntKind.u64.wrap ((IntKind.u64.wrap ((IntKind.u64.wrap (x7)) * (IntKind.u64.wrap (rd x28 x30)))) + (IntKind.u64.wrap (rd x5 (wrap64 (x6 + x30)))))))) / 4294967296) x20 x21 x22 x28 x29 (wrap64 (x30 + 1)) x363000 x363001 x364000 x364001) else (none)) else (none)) else (none)) else (none)) else (if 0 ≤ (wrap64 (x6 + (x364001.length : Int))) then (if (wrap64 (x6 + (x364001.length : Int))) < (x5.length : Int) then (integer_Mul.l0 k (x5.set ((wrap64 (x6 + (x364001.length : Int))) : Int).toNat ((x8) % 4294967296)) x20 x21 (wrap64 (x22 + 1)) x363000 x363001 x364000 x364001) else (none)) else (none))
end
def integer_Mul.f (k : Nat) (a0_0 : Bool) (l0_1 : List Int) (a1_0 : Bool) (l1_1 : List Int) : Option (Bool × List Int) := if 0 ≤ (wrap64 ((l0_1.length : Int) + (l1_1.length : Int))) then (if (wrap64 ((l0_1.length : Int) + (l1_1.length : Int)) : Int).toNat ≤ 70368744177664 then (integer_Mul.l0 k (List.replicate (wrap64 ((l0_1.length : Int) + (l1_1.length : Int)) : Int).toNat 0) l0_1 (l0_1.length : Int) 0 a0_0 l0_1 a1_0 l1_1) else (none)) else (none)
theorem integer_Mul.mono_l : ∀ k, (∀ y0 y1 y2 y3 y4 y5 y6 y7, LeO (integer_Mul.l0 k y0 y1 y2 y3 y4 y5 y6 y7) (integer_Mul.l0 (k + 1) y0 y1 y2 y3 y4 y5 y6 y7)) ∧ (∀ y0 y1 y2 y3 y4 y5 y6 y7 y8 y9 y10 y11 y12 y13, LeO (integer_Mul.l1 k y0 y1 y2 y3 y4 y5 y6 y7 y8 y9 y10 y11 y12 y13) (integer_Mul.l1 (k + 1) y0 y1 y2 y3 y4 y5 y6 y7 y8 y9 y10 y11 y12 y13))
 | 0 => ⟨fun _ _ _ _ _ _ _ _ r h => by simp [integer_Mul.l0] at h, fun _ _ _ _ _ _ _ _ _ _ _ _ _ _ r h => by simp [integer_Mul.l1] at h⟩
 | k + 1 => by
  obtain ⟨ih0, ih1⟩ := integer_Mul.mono_l k
  refine ⟨?_, ?_⟩
  ·
   intro y0 y1 y2 y3 y4 y5 y6 y7
   unfold integer_Mul.l0
   repeat' with_reducible first | exact ih0 _ _ _ _ _ _ _ _ | exact ih1 _ _ _ _ _ _ _ _ _ _ _ _ _ _ | exact integer_signed.mono _ _ _ | exact LeO.refl _ | exact LeO.none _ | refine LeO.ite ?_ ?_ | refine LeO.bind ?_ (fun _ => ?_)
  ·
   intro y0 y1 y2 y3 y4 y5 y6 y7 y8 y9 y10 y11 y12 y13
   unfold integer_Mul.l1
   repeat' with_reducible first | exact ih0 _ _ _ _ _ _ _ _ | exact ih1 _ _ _ _ _ _ _ _ _ _ _ _ _ _ | exact integer_signed.mono _ _ _ | exact LeO.refl _ | exact LeO.none _ | refine LeO.ite ?_ ?_ | refine LeO.bind ?_ (fun _ => ?_)
theorem integer_Mul.mono : ∀ a0 a1 a2 a3 k, LeO (integer_Mul.f k a0 a1 a2 a3) (integer_Mul.f (k + 1) a0 a1 a2 a3) := by
 intro a0 a1 a2 a3 k
 obtain ⟨ih0, ih1⟩ := integer_Mul.mono_l k
 unfold integer_Mul.f
 repeat' with_reducible first | exact ih0 _ _ _ _ _ _ _ _ | exact ih1 _ _ _ _ _ _ _ _ _ _ _ _ _ _ | exact integer_signed.mono _ _ _ | exact LeO.refl _ | exact LeO.none _ | refine LeO.ite ?_ ?_ | refine LeO.bind ?_ (fun _ => ?_)
set_option maxHeartbeats 8000000 in
set_option maxRecDepth 100000 in
theorem integer_Mul.calls (k : Nat) (a0_0 : Bool) (A0_1 : Option Addr) (c0_1 : Nat) (l0_1 : List Int) (a1_0 : Bool) (A1_1 : Option Addr) (c1_1 : Nat) (l1_1 : List Int) (r1 : Bool) (r2 : List Int) (w : World) (hr0_1 : Kd.C (Kd.int .u32) w A0_1 l0_1.length l0_1) (hc0_1 : l0_1.length ≤ c0_1) (hr1_1 : Kd.C (Kd.int .u32) w A1_1 l1_1.length l1_1) (hc1_1 : l1_1.length ≤ c1_1) (h : integer_Mul.f k a0_0 l0_1 a1_0 l1_1 = some (r1, r2)) :
  Calls Tryd.prog 25 #[.agg #[.bool a0_0, .slice A0_1 l0_1.length c0_1], .agg #[.bool a1_0, .slice A1_1 l1_1.length c1_1]] w fun e w' => ∃ v1_ : Value, e = .returned (.agg #[.bool r1, v1_]) ∧ Kd.V (Kd.int .u32) 60 w' w.heap.size (fun k_ => (w.heap.size ≤ k_)) v1_ r2 ∧ Below w.heap.size w w' := by
 have hu25 := Tryd.underlying25
 have HR0_1 := Aside0.mk hr0_1
 have HC0_1 := Aside0.mk hc0_1
 clear hr0_1 hc0_1
 have HR1_1 := Aside0.mk hr1_1
 have HC1_1 := Aside0.mk hc1_1
 clear hr1_1 hc1_1
 have HB := Aside0.mk (Below.refl w.heap.size w)
 have H := h
 unfold integer_Mul.f at H
 clear h
 obtain ⟨ji3, hji3⟩ : ∃ j_ : Int, (wrap64 ((l0_1.length : Int) + (l1_1.length : Int))) = j_ := ⟨_, rfl⟩
 replace H : (if 0 ≤ (ji3) then (if (ji3 : Int).toNat ≤ 70368744177664 then (integer_Mul.l0 k (List.replicate (ji3 : Int).toNat 0) l0_1 (l0_1.length : Int) 0 a0_0 l0_1 a1_0 l1_1) else (none)) else (none)) = some (r1, r2) := by first | (rw [hji3] at H; exact H) | (simp only [hji3] at H ⊢; exact H)
 have hji3w : (IntKind.i64.wrap ((l0_1.length : Int) + (l1_1.length : Int))) = ji3 := (i64_w _).trans hji3
 by_cases c4 : 0 ≤ (ji3)
 ·
  rw [if_pos c4] at H
  have c4b0 := eq_true c4
  have c4b1 := decide_eq_true c4
  clear c4
  obtain ⟨c5, H⟩ := ite_some H
  have c5b0 := eq_true c5
  have c5b1 := decide_eq_true c5
  clear c5
  obtain ⟨y365, hy365⟩ : ∃ y_ : List Int, y_ = (List.replicate (ji3 : Int).toNat 0) := ⟨_, rfl⟩
  replace H : (integer_Mul.l0 k y365 l0_1 (l0_1.length : Int) 0 a0_0 l0_1 a1_0 l1_1) = some (r1, r2) := by first | (rw [hy365]; exact H) | exact H
  have Ny365 := Aside0.mk hy365
  clear hy365
  have H' := Aside0.mk H
  clear H
  go_enter Tryd.func25, Tryd.ntmps25
  go_wp2_with (first | ((with_reducible refine gate_dst (N := 2) rfl ?_); refine box_event ?hg (N := 2) ?hd (cs := #[.bool a0_0, .slice A0_1 l0_1.length c0_1]) (t := 25) ?hr ?_; (case hd => rfl); (case hg => rfl); (case hr => first | (go_simp; done) | (go_simp; rfl)); intro gb362 hg w6 hbox hb; have BK362 := Aside0.mk (hbox); have GE362 := Aside0.mk ((size_up hg HB.out : w.heap.size ≤ gb362)); replace HB := Aside0.mk (below_step (below_up HB.out) hb); clear hb hbox hg) | ((with_reducible refine gate_dst (N := 3) rfl ?_); refine box_event ?hg (N := 3) ?hd (cs := #[.bool a1_0, .slice A1_1 l1_1.length c1_1]) (t := 25) ?hr ?_; (case hd => rfl); (case hg => rfl); (case hr => first | (go_simp; done) | (go_simp; rfl)); intro gb363 hg w7 hbox hb; have BK363 := Aside0.mk (hbox); have GE363 := Aside0.mk ((by rw [hg]; exact (below_size (by with_reducible repeat first | exact HB.out | apply below_alloc | apply pw_below_drewN | apply below_drew1 | refine below_set ?_ GE362.out)) : w.heap.size ≤ gb363)); replace HB := Aside0.mk (below_step (by with_reducible repeat first | exact HB.out | apply below_alloc | apply pw_below_drewN | apply below_drew1 | refine below_set ?_ GE362.out) hb); have NB362_363 := Aside0.mk ((blk_nw hg BK362.out : gb362 ≠ gb363)); have NB363_362 := Aside0.mk ((nw_blk hg BK362.out : gb363 ≠ gb362)); replace BK362 := Aside0.mk (blk_below (blk_up BK362.out) hb); clear hb hbox hg) | ((with_reducible refine gate_dst (N := 4) rfl ?_); refine box_event ?hg (N := 4) ?hd (cs := #[.bool false, .slice none 0 0]) (t := 25) ?hr ?_; (case hd => rfl); (case hg => rfl); (case hr => first | (go_simp; done) | (go_simp; rfl)); intro gb364 hg w8 hbox hb; have BK364 := Aside0.mk (hbox); have GE364 := Aside0.mk ((by rw [hg]; exact (below_size (by with_reducible repeat first | exact HB.out | apply below_alloc | apply pw_below_drewN | apply below_drew1 | refine below_set ?_ GE362.out | refine below_set ?_ GE363.out)) : w.heap.size ≤ gb364)); replace HB := Aside0.mk (below_step (by with_reducible repeat first | exact HB.out | apply below_alloc | apply pw_below_drewN | apply below_drew1 | refine below_set ?_ GE362.out | refine below_set ?_ GE363.out) hb); have NB362_364 := Aside0.mk ((blk_nw hg BK362.out : gb362 ≠ gb364)); have NB364_362 := Aside0.mk ((nw_blk hg BK362.out : gb364 ≠ gb362)); replace BK362 := Aside0.mk (blk_below (blk_up BK362.out) hb); have NB363_364 := Aside0.mk ((blk_nw hg BK363.out : gb363 ≠ gb364)); have NB364_363 := Aside0.mk ((nw_blk hg BK363.out : gb364 ≠ gb363)); replace BK363 := Aside0.mk (blk_below (blk_up BK363.out) hb); clear hb hbox hg; have hnb9 := NB362_363.out; have hnc9 := NB363_362.out; have hnb10 := NB362_364.out; have hnc10 := NB364_362.out; have hcz11_0 : w8.cell? ⟨gb362, 0, none⟩ = some (.bool a0_0) := (blk_cell BK362.out 0).trans rfl; have hcz11_1 : w8.cell? ⟨gb362, 1, none⟩ = some (.slice A0_1 l0_1.length c0_1) := (blk_cell BK362.out 1).trans rfl; have hfz11_0 := blk_frozen BK362.out 0; have hfz11_1 := blk_frozen BK362.out 1; have hnb12 := NB363_364.out; have hnc12 := NB364_363.out; have hcz13_0 : w8.cell? ⟨gb363, 0, none⟩ = some (.bool a1_0) := (blk_cell BK363.out 0).trans rfl; have hcz13_1 : w8.cell? ⟨gb363, 1, none⟩ = some (.slice A1_1 l1_1.length c1_1) := (blk_cell BK363.out 1).trans rfl; have hfz13_0 := blk_frozen BK363.out 0; have hfz13_1 := blk_frozen BK363.out 1) | ((with_reducible refine gate_dst (N := 18) rfl ?_); refine Kd.R_make (Kd.int .u32) _ 60 rfl (N := 18) rfl 23 _ _ rfl ji3 rfl rfl Tryd.underlying23 (.int .u32 0) 4 info60 rfl (by decide) (by omega) 0 (ok := fun _ => True) (okp := fun _ => True) rfl (fun _ hk => hk) trivial (of_decide_eq_true (by assumption)) (Nat.le_trans (Nat.mul_le_mul_right _ (of_decide_eq_true (by assumption) : ji3.toNat ≤ 70368744177664)) (by omega)) (Below.refl _ _) (Nat.le_refl _) ?_; intro v366 w14 ho15 hb hg_ hnew_; clear hg_ hnew_; (first | rw [← Ny365.out] at ho15 | (simp only [Int.reduceToNat] at ho15; rw [← Ny365.out] at ho15)); have HO367 := Aside0.mk (Kd.R_lower (Kd.R_newM (M := fun k_ => (w.heap.size ≤ k_)) ho15 (below_size (by with_reducible repeat first | exact HB.out | apply below_alloc | apply pw_below_drewN | apply below_drew1 | refine below_set ?_ GE362.out | refine below_set ?_ GE363.out | refine below_set ?_ GE364.out)) (fun k_ h_ => h_)) (below_size (by with_reducible repeat first | exact HB.out | apply below_alloc | apply pw_below_drewN | apply below_drew1 | refine below_set ?_ GE362.out | refine below_set ?_ GE363.out | refine below_set ?_ GE364.out))); replace BK362 := Aside0.mk (blk_below (blk_up BK362.out) hb); replace BK363 := Aside0.mk (blk_below (blk_up BK363.out) hb); replace BK364 := Aside0.mk (blk_below (blk_up BK364.out) hb); replace HB := Aside0.mk (below_step (by with_reducible repeat first | exact HB.out | apply below_alloc | apply pw_below_drewN | apply below_drew1 | refine below_set ?_ GE362.out | refine below_set ?_ GE363.out | refine below_set ?_ GE364.out) hb); clear hb ho15; have hcz16_0 : w14.cell? ⟨gb362, 0, none⟩ = some (.bool a0_0) := (blk_cell BK362.out 0).trans rfl; have hcz16_1 : w14.cell? ⟨gb362, 1, none⟩ = some (.slice A0_1 l0_1.length c0_1) := (blk_cell BK362.out 1).trans rfl; have hfz16_0 := blk_frozen BK362.out 0; have hfz16_1 := blk_frozen BK362.out 1))
  go_loopg [22] k (fun kq v22 w' => ∃ (x5_1 : List Int) (x22_1 : Int), v22 = .int .i64 x22_1 ∧ Aside0 (integer_Mul.l0 kq x5_1 l0_1 (l0_1.length : Int) x22_1 a0_0 l0_1 a1_0 l1_1 = some (r1, r2)) ∧ Aside0 (kq ≤ k) ∧ Aside0 (Kd.R (Kd.int .u32) 60 w' w.heap.size (fun k_ => (w.heap.size ≤ k_)) v366 x5_1) ∧ Aside0 (w'.heap[gb362]? = some (.cells #[.bool a0_0, (.slice A0_1 l0_1.length c0_1)] 25 (0, 0))) ∧ Aside0 (w'.heap[gb363]? = some (.cells #[.bool a1_0, (.slice A1_1 l1_1.length c1_1)] 25 (0, 0))) ∧ Aside0 (w'.heap[gb364]? = some (.cells #[.bool false, (.slice none 0 0)] 25 (0, 0))) ∧ Aside0 (Below w.heap.size w w'))
  case atStart => exact ⟨(y365), (0), (by first | rfl | (simp; done) | (simp [*]; done) | (simp <;> omega)), H', ⟨Nat.le_refl _⟩, ⟨Kd.R_up (Kd.R_mono HO367.out (fun _ hk => hk.1))⟩, ⟨by (with_reducible repeat (first | refine blk_drewN ?_ _ | refine blk_drew ?_ | refine blk_alloc ?_ _)); exact BK362.out⟩, ⟨by (with_reducible repeat (first | refine blk_drewN ?_ _ | refine blk_drew ?_ | refine blk_alloc ?_ _)); exact BK363.out⟩, ⟨by (with_reducible repeat (first | refine blk_drewN ?_ _ | refine blk_drew ?_ | refine blk_alloc ?_ _)); exact BK364.out⟩, ⟨by with_reducible repeat first | exact HB.out | apply below_alloc | apply pw_below_drewN | apply below_drew1 | refine below_set ?_ GE362.out | refine below_set ?_ GE363.out | refine below_set ?_ GE364.out⟩⟩
  case round =>
   clear H'
   obtain ⟨x5_1, x22_1, rfl, HA, HK1, HO_5, BK362, BK363, BK364, HB⟩ := hrel
   cases gk with
   | zero => exact absurd HA.out (by simp [integer_Mul.l0])
   | succ k1 =>
    have H := HA.out
    clear HA
    simp only [integer_Mul.l0] at H
    by_cases c17 : x22_1 < (l0_1.length : Int)
    ·
     rw [if_pos c17] at H
     have c17b0 := decide_eq_true c17
     clear c17
     obtain ⟨c18, H⟩ := ite_some H
     have c18b0 := decide_eq_true c18
     clear c18
     obtain ⟨c19, H⟩ := ite_some H
     have c19b0 := decide_eq_true c19
     clear c19
     have H' := Aside0.mk H
     clear H
     have p372 : 0 ≤ (x22_1 : Int) := of_decide_eq_true (by assumption)
     have q372 : x22_1 < (l0_1.length : Int) := of_decide_eq_true (by assumption)
     obtain ⟨ad372, e372, hx372_0⟩ := Kd.at_int HR0_1.out x22_1 p372 q372
     cases e372
     replace hx372_0 := (HB.out.cell (World.block_lt_of_cell? w _ hx372_0)).trans hx372_0
     replace p372 := eq_true p372
     replace q372 := eq_true q372
     have hnb20 := NB363_362.out
     have hnc20 := NB362_363.out
     have hnb21 := NB363_364.out
     have hnc21 := NB364_363.out
     have hcz22_0 : wr.cell? ⟨gb363, 0, none⟩ = some (.bool a1_0) := (blk_cell BK363.out 0).trans rfl
     have hcz22_1 : wr.cell? ⟨gb363, 1, none⟩ = some (.slice A1_1 l1_1.length c1_1) := (blk_cell BK363.out 1).trans rfl
     have hfz22_0 := blk_frozen BK363.out 0
     have hfz22_1 := blk_frozen BK363.out 1
     go_wp2
     go_loopg [8, 30] k1 (fun kq v8 v30 w' => ∃ (x5_2 : List Int) (x8_2 : Int) (x30_2 : Int), v8 = .int .u64 x8_2 ∧ v30 = .int .i64 x30_2 ∧ Aside0 (integer_Mul.l1 kq x5_2 x22_1 (rd l0_1 x22_1) x8_2 l0_1 (l0_1.length : Int) x22_1 l1_1 (l1_1.length : Int) x30_2 a0_0 l0_1 a1_0 l1_1 = some (r1, r2)) ∧ Aside0 (kq ≤ k1) ∧ Aside0 (Kd.R (Kd.int .u32) 60 w' w.heap.size (fun k_ => (w.heap.size ≤ k_)) v366 x5_2) ∧ Aside0 (w'.heap[gb362]? = some (.cells #[.bool a0_0, (.slice (some ad372) l0_1.length c0_1)] 25 (0, 0))) ∧ Aside0 (w'.heap[gb363]? = some (.cells #[.bool a1_0, (.slice A1_1 l1_1.length c1_1)] 25 (0, 0))) ∧ Aside0 (w'.heap[gb364]? = some (.cells #[.bool false, (.slice none 0 0)] 25 (0, 0))) ∧ Aside0 (Below w.heap.size w w'))
     case atStart => exact ⟨(x5_1), (0), (0), (by first | rfl | (simp; done) | (simp [*]; done) | (simp <;> omega)), (by first | rfl | (simp; done) | (simp [*]; done) | (simp <;> omega)), H', ⟨Nat.le_refl _⟩, ⟨Kd.R_up HO_5.out⟩, ⟨by (with_reducible repeat (first | refine blk_drewN ?_ _ | refine blk_drew ?_ | refine blk_alloc ?_ _)); exact BK362.out⟩, ⟨by (with_reducible repeat (first | refine blk_drewN ?_ _ | refine blk_drew ?_ | refine blk_alloc ?_ _)); exact BK363.out⟩, ⟨by (with_reducible repeat (first | refine blk_drewN ?_ _ | refine blk_drew ?_ | refine blk_alloc ?_ _)); exact BK364.out⟩, ⟨by with_reducible repeat first | exact HB.out | apply below_alloc | apply pw_below_drewN | apply below_drew1 | refine below_set ?_ GE362.out | refine below_set ?_ GE363.out | refine below_set ?_ GE364.out⟩⟩
     case round =>
      clear H'
      obtain ⟨x5_2, x8_2, x30_2, rfl, rfl, HA, HK2, HO_5, BK362, BK363, BK364, HB⟩ := hrel
      cases gk with
      | zero => exact absurd HA.out (by simp [integer_Mul.l1])
      | succ k2 =>
       have H := HA.out
       clear HA
       simp only [integer_Mul.l1] at H
       by_cases c23 : x30_2 < (l1_1.length : Int)
       ·
        rw [if_pos c23] at H
        have c23b0 := decide_eq_true c23
        clear c23
        obtain ⟨c24, H⟩ := ite_some H
        have c24b0 := decide_eq_true c24
        clear c24
        obtain ⟨c25, H⟩ := ite_some H
        have c25b0 := decide_eq_true c25
        clear c25
        obtain ⟨ji26, hji26⟩ : ∃ j_ : Int, (wrap64 (x22_1 + x30_2)) = j_ := ⟨_, rfl⟩
        replace H : (if 0 ≤ (ji26) then (if (ji26) < (x5_2.length : Int) then (integer_Mul.l1 k2 (x5_2.set ((ji26) : Int).toNat ((IntKind.u64.wrap (x8_2 + (IntKind.u64.wrap ((IntKind.u64.wrap ((IntKind.u64.wrap ((rd l0_1 x22_1))) * (IntKind.u64.wrap (rd l1_1 x30_2)))) + (IntKind.u64.wrap (rd x5_2 (ji26))))))) % 4294967296)) x22_1 (rd l0_1 x22_1) ((IntKind.u64.wrap (x8_2 + (IntKind.u64.wrap ((IntKind.u64.wrap ((IntKind.u64.wrap ((rd l0_1 x22_1))) * (IntKind.u64.wrap (rd l1_1 x30_2)))) + (IntKind.u64.wrap (rd x5_2 (ji26))))))) / 4294967296) l0_1 (l0_1.length : Int) x22_1 l1_1 (l1_1.length : Int) (wrap64 (x30_2 + 1)) a0_0 l0_1 a1_0 l1_1) else (none)) else (none)) = some (r1, r2) := by first | (rw [hji26] at H; exact H) | (simp only [hji26] at H ⊢; exact H)
        have hji26w : (IntKind.i64.wrap (x22_1 + x30_2)) = ji26 := (i64_w _).trans hji26
        obtain ⟨c27, H⟩ := ite_some H
        have c27b0 := decide_eq_true c27
        clear c27
        obtain ⟨c28, H⟩ := ite_some H
        have c28b0 := decide_eq_true c28
        clear c28
        obtain ⟨y375, hy375⟩ : ∃ y_ : List Int, y_ = (x5_2.set ((ji26) : Int).toNat ((IntKind.u64.wrap (x8_2 + (IntKind.u64.wrap ((IntKind.u64.wrap ((IntKind.u64.wrap ((rd l0_1 x22_1))) * (IntKind.u64.wrap (rd l1_1 x30_2)))) + (IntKind.u64.wrap (rd x5_2 (ji26))))))) % 4294967296)) := ⟨_, rfl⟩
        replace H : (integer_Mul.l1 k2 y375 x22_1 (rd l0_1 x22_1) ((IntKind.u64.wrap (x8_2 + (IntKind.u64.wrap ((IntKind.u64.wrap ((IntKind.u64.wrap ((rd l0_1 x22_1))) * (IntKind.u64.wrap (rd l1_1 x30_2)))) + (IntKind.u64.wrap (rd x5_2 (ji26))))))) / 4294967296) l0_1 (l0_1.length : Int) x22_1 l1_1 (l1_1.length : Int) (wrap64 (x30_2 + 1)) a0_0 l0_1 a1_0 l1_1) = some (r1, r2) := by first | (rw [hy375]; exact H) | exact H
        have Ny375 := Aside0.mk hy375
        clear hy375
        have H' := Aside0.mk H
        clear H
        have p373 : 0 ≤ (x30_2 : Int) := of_decide_eq_true (by assumption)
        have q373 : x30_2 < (l1_1.length : Int) := of_decide_eq_true (by assumption)
        obtain ⟨ad373, e373, hx373_0⟩ := Kd.at_int HR1_1.out x30_2 p373 q373
        cases e373
        replace hx373_0 := (HB.out.cell (World.block_lt_of_cell? w _ hx373_0)).trans hx373_0
        replace p373 := eq_true p373
        replace q373 := eq_true q373
        obtain ⟨Ao30, co30, eo30⟩ := Kd.R_slice HO_5.out
        subst eo30
        have p374 : 0 ≤ ((ji26) : Int) := of_decide_eq_true (by assumption)
        have q374 : (ji26) < (x5_2.length : Int) := of_decide_eq_true (by assumption)
        obtain ⟨ad374, e374, hx374_0⟩ := Kd.at_int (Kd.R_reads' HO_5.out).2.2 (ji26) p374 q374
        cases e374
        replace p374 := eq_true p374
        replace q374 := eq_true q374
        have p29 : 0 ≤ ((ji26) : Int) := of_decide_eq_true (by assumption)
        have q29 : ((ji26) : Int) < ((x5_2.length : Int) : Int) := of_decide_eq_true (by assumption)
        obtain ⟨go29, co29, eo29, gb29, gl29, cl29, HG29⟩ := Kd.R_form HO_5.out (by omega)
        (first | cases eo29 | (injection eo29 with ea_ en_ ec_; (first | subst ea_ | (injection ea_ with ea_; subst ea_)); subst ec_; clear en_))
        have GB29 := Aside0.mk gb29
        have GG29 := Aside0.mk HG29
        clear gb29 gl29 HG29
        (first | simp only [add_plain] at hx374_0 | skip)
        obtain ⟨hx29_0, hf29_0⟩ := Kd.R_celln 0 HO_5.out ((ji26) : Int) p29 q29
        replace p29 := eq_true p29
        replace q29 := eq_true q29
        have HP31 := Kd.R_putg HO_5.out ((ji26) : Int) ((IntKind.u64.wrap (x8_2 + (IntKind.u64.wrap ((IntKind.u64.wrap ((IntKind.u64.wrap ((rd l0_1 x22_1))) * (IntKind.u64.wrap (rd l1_1 x30_2)))) + (IntKind.u64.wrap (rd x5_2 (ji26))))))) % 4294967296)
        go_wp2_with (first | ((with_reducible refine gate_store (t := 60) (p := 56) rfl ?_); refine store_event (t := 60) (p := 56) (v := ?vo_w32) (w1 := (wr.setCell ⟨go29, ((ji26) : Int).toNat, none⟩ (.int .u32 ((IntKind.u64.wrap (x8_2 + (IntKind.u64.wrap ((IntKind.u64.wrap ((IntKind.u64.wrap ((rd l0_1 x22_1))) * (IntKind.u64.wrap (rd l1_1 x30_2)))) + (IntKind.u64.wrap (rd x5_2 (ji26))))))) % 4294967296)))) ?hg ?ho ?hn ?hr ?_; (case ho => rfl); (case hg => rfl); (case hn => rfl); (case hr => first | (go_simp; done) | (go_simp; rfl)); intro w32 hw; have hg : wr.grownBy w32 (some go29) := (by rw [hw]; exact HP31.2); have hp_ : Kd.R (Kd.int .u32) 60 w32 w.heap.size (fun k_ => (w.heap.size ≤ k_)) (.slice (some ⟨go29, 0, none⟩) x5_2.length co30) y375 := (by rw [hw, Ny375.out]; exact HP31.1); clear HP31; replace BK362 := Aside0.mk (blk_grown (g := gb362) (o := .cells #[.bool a0_0, .slice (some ad372) l0_1.length c0_1] 25 (0, 0)) (blk_up BK362.out) hg (Kd.R_ne HO_5.out BK362.out (by decide))); replace BK363 := Aside0.mk (blk_grown (g := gb363) (o := .cells #[.bool a1_0, .slice (some ad373) l1_1.length c1_1] 25 (0, 0)) (blk_up BK363.out) hg (Kd.R_ne HO_5.out BK363.out (by decide))); replace BK364 := Aside0.mk (blk_grown (g := gb364) (o := .cells #[.bool false, .slice none 0 0] 25 (0, 0)) (blk_up BK364.out) hg (Kd.R_ne HO_5.out BK364.out (by decide))); replace HO_5 := Aside0.mk (hp_); replace HB := Aside0.mk ((by rw [hw]; exact below_set (HB.out) GB29.out : Below w.heap.size w w32)); clear hg hw hp_))
        go_roundg k2
        case measure => have := HK1.out; have := HK2.out; omega
        case rel => exact ⟨(y375), ((IntKind.u64.wrap (x8_2 + (IntKind.u64.wrap ((IntKind.u64.wrap ((IntKind.u64.wrap ((rd l0_1 x22_1))) * (IntKind.u64.wrap (rd l1_1 x30_2)))) + (IntKind.u64.wrap (rd x5_2 (ji26))))))) / 4294967296), (wrap64 (x30_2 + 1)), (by first | rfl | (simp; done) | (simp only [← hji26] <;> (first | rfl | simp)) | (simp [*]; done)), (by first | rfl | (simp; done) | (simp [*]; done) | (simp <;> omega)), H', ⟨by have := HK1.out; have := HK2.out; omega⟩, ⟨Kd.R_up HO_5.out⟩, ⟨by (with_reducible repeat (first | refine blk_drewN ?_ _ | refine blk_drew ?_ | refine blk_alloc ?_ _)); exact BK362.out⟩, ⟨by (with_reducible repeat (first | refine blk_drewN ?_ _ | refine blk_drew ?_ | refine blk_alloc ?_ _)); exact BK363.out⟩, ⟨by (with_reducible repeat (first | refine blk_drewN ?_ _ | refine blk_drew ?_ | refine blk_alloc ?_ _)); exact BK364.out⟩, ⟨by with_reducible repeat first | exact HB.out | apply below_alloc | apply pw_below_drewN | apply below_drew1 | refine below_set ?_ GE362.out | refine below_set ?_ GE363.out | refine below_set ?_ GE364.out⟩⟩
       ·
        rw [if_neg c23] at H
        have c23b0 := decide_eq_false c23
        clear c23
        obtain ⟨ji33, hji33⟩ : ∃ j_ : Int, (wrap64 (x22_1 + (l1_1.length : Int))) = j_ := ⟨_, rfl⟩
        replace H : (if 0 ≤ (ji33) then (if (ji33) < (x5_2.length : Int) then (integer_Mul.l0 k2 (x5_2.set ((ji33) : Int).toNat ((x8_2) % 4294967296)) l0_1 (l0_1.length : Int) (wrap64 (x22_1 + 1)) a0_0 l0_1 a1_0 l1_1) else (none)) else (none)) = some (r1, r2) := by first | (rw [hji33] at H; exact H) | (simp only [hji33] at H ⊢; exact H)
        have hji33w : (IntKind.i64.wrap (x22_1 + (l1_1.length : Int))) = ji33 := (i64_w _).trans hji33
        obtain ⟨c34, H⟩ := ite_some H
        have c34b0 := decide_eq_true c34
        clear c34
        obtain ⟨c35, H⟩ := ite_some H
        have c35b0 := decide_eq_true c35
        clear c35
        obtain ⟨y376, hy376⟩ : ∃ y_ : List Int, y_ = (x5_2.set ((ji33) : Int).toNat ((x8_2) % 4294967296)) := ⟨_, rfl⟩
        replace H : (integer_Mul.l0 k2 y376 l0_1 (l0_1.length : Int) (wrap64 (x22_1 + 1)) a0_0 l0_1 a1_0 l1_1) = some (r1, r2) := by first | (rw [hy376]; exact H) | exact H
        have Ny376 := Aside0.mk hy376
        clear hy376
        have H' := Aside0.mk H
        clear H
        have hnb37 := NB363_362.out
        have hnc37 := NB362_363.out
        have hnb38 := NB363_364.out
        have hnc38 := NB364_363.out
        have hcz39_0 : wr.cell? ⟨gb363, 0, none⟩ = some (.bool a1_0) := (blk_cell BK363.out 0).trans rfl
        have hcz39_1 : wr.cell? ⟨gb363, 1, none⟩ = some (.slice A1_1 l1_1.length c1_1) := (blk_cell BK363.out 1).trans rfl
        have hfz39_0 := blk_frozen BK363.out 0
        have hfz39_1 := blk_frozen BK363.out 1
        have p36 : 0 ≤ ((ji33) : Int) := of_decide_eq_true (by assumption)
        have q36 : ((ji33) : Int) < ((x5_2.length : Int) : Int) := of_decide_eq_true (by assumption)
        obtain ⟨go36, co36, eo36, gb36, gl36, cl36, HG36⟩ := Kd.R_form HO_5.out (by omega)
        (first | cases eo36 | (injection eo36 with ea_ en_ ec_; (first | subst ea_ | (injection ea_ with ea_; subst ea_)); subst ec_; clear en_))
        have GB36 := Aside0.mk gb36
        have GG36 := Aside0.mk HG36
        clear gb36 gl36 HG36
        obtain ⟨hx36_0, hf36_0⟩ := Kd.R_celln 0 HO_5.out ((ji33) : Int) p36 q36
        replace p36 := eq_true p36
        replace q36 := eq_true q36
        have HP40 := Kd.R_putg HO_5.out ((ji33) : Int) ((x8_2) % 4294967296)
        go_wp2_with (first | ((with_reducible refine gate_store (t := 60) (p := 68) rfl ?_); refine store_event (t := 60) (p := 68) (v := ?vo_w41) (w1 := (wr.setCell ⟨go36, ((ji33) : Int).toNat, none⟩ (.int .u32 ((x8_2) % 4294967296)))) ?hg ?ho ?hn ?hr ?_; (case ho => rfl); (case hg => rfl); (case hn => rfl); (case hr => first | (go_simp; done) | (go_simp; rfl)); intro w41 hw; have hg : wr.grownBy w41 (some go36) := (by rw [hw]; exact HP40.2); have hp_ : Kd.R (Kd.int .u32) 60 w41 w.heap.size (fun k_ => (w.heap.size ≤ k_)) (.slice (some ⟨go36, 0, none⟩) x5_2.length co36) y376 := (by rw [hw, Ny376.out]; exact HP40.1); clear HP40; replace BK362 := Aside0.mk (blk_grown (g := gb362) (o := .cells #[.bool a0_0, .slice (some ad372) l0_1.length c0_1] 25 (0, 0)) (blk_up BK362.out) hg (Kd.R_ne HO_5.out BK362.out (by decide))); replace BK363 := Aside0.mk (blk_grown (g := gb363) (o := .cells #[.bool a1_0, .slice A1_1 l1_1.length c1_1] 25 (0, 0)) (blk_up BK363.out) hg (Kd.R_ne HO_5.out BK363.out (by decide))); replace BK364 := Aside0.mk (blk_grown (g := gb364) (o := .cells #[.bool false, .slice none 0 0] 25 (0, 0)) (blk_up BK364.out) hg (Kd.R_ne HO_5.out BK364.out (by decide))); replace HO_5 := Aside0.mk (hp_); replace HB := Aside0.mk ((by rw [hw]; exact below_set (HB.out) GB36.out : Below w.heap.size w w41)); clear hg hw hp_))
        go_roundg k2
        case measure => have := HK1.out; have := HK2.out; omega
        case rel => exact ⟨(y376), (wrap64 (x22_1 + 1)), (by first | rfl | (simp; done) | (simp [*]; done) | (simp <;> omega)), H', ⟨by have := HK1.out; have := HK2.out; omega⟩, ⟨Kd.R_up HO_5.out⟩, ⟨by (with_reducible repeat (first | refine blk_drewN ?_ _ | refine blk_drew ?_ | refine blk_alloc ?_ _)); exact BK362.out⟩, ⟨by (with_reducible repeat (first | refine blk_drewN ?_ _ | refine blk_drew ?_ | refine blk_alloc ?_ _)); exact BK363.out⟩, ⟨by (with_reducible repeat (first | refine blk_drewN ?_ _ | refine blk_drew ?_ | refine blk_alloc ?_ _)); exact BK364.out⟩, ⟨by with_reducible repeat first | exact HB.out | apply below_alloc | apply pw_below_drewN | apply below_drew1 | refine below_set ?_ GE362.out | refine below_set ?_ GE363.out | refine below_set ?_ GE364.out⟩⟩
    ·
     rw [if_neg c17] at H
     have c17b0 := decide_eq_false c17
     clear c17
     replace H := Option.bind_eq_some_iff.mp H
     obtain ⟨⟨t368, t369⟩, A420, H⟩ := H
     try dsimp only at H
     have A42 := Aside0.mk A420
     clear A420
     simp only [Option.some.injEq, Prod.mk.injEq] at H
     obtain ⟨rfl, rfl⟩ := H
     have hnb43 := NB362_363.out
     have hnc43 := NB363_362.out
     have hnb44 := NB362_364.out
     have hnc44 := NB364_362.out
     have hcz45_0 : wr.cell? ⟨gb362, 0, none⟩ = some (.bool a0_0) := (blk_cell BK362.out 0).trans rfl
     have hcz45_1 : wr.cell? ⟨gb362, 1, none⟩ = some (.slice A0_1 l0_1.length c0_1) := (blk_cell BK362.out 1).trans rfl
     have hfz45_0 := blk_frozen BK362.out 0
     have hfz45_1 := blk_frozen BK362.out 1
     have hnb46 := NB363_364.out
     have hnc46 := NB364_363.out
     have hcz47_0 : wr.cell? ⟨gb363, 0, none⟩ = some (.bool a1_0) := (blk_cell BK363.out 0).trans rfl
     have hcz47_1 : wr.cell? ⟨gb363, 1, none⟩ = some (.slice A1_1 l1_1.length c1_1) := (blk_cell BK363.out 1).trans rfl
     have hfz47_0 := blk_frozen BK363.out 0
     have hfz47_1 := blk_frozen BK363.out 1
     obtain ⟨Ao48, co48, eo48⟩ := Kd.R_slice HO_5.out
     subst eo48
     go_wp2_with (first | ((with_reducible refine gate_callee (f := 45) rfl ?_); refine gl_ (some 76) Tryd.func45 #[.bool (a0_0 != a1_0), .slice Ao48 x5_1.length co48] ?_; (with_reducible refine (integer_signed.calls k1 (a0_0 != a1_0) (fun k_ => some k_ = (.slice Ao48 x5_1.length co48 : Value).ownBlock) _ _ x5_1 t368 t369 _ ?side1 A42.out).mono ?_); (case side1 => exact Kd.R_V (Kd.R_tight rfl (Kd.R_types (Kd.R_types (Kd.R_types (HO_5.out) BK362.out (by decide)) BK363.out (by decide)) BK364.out (by decide)))); rintro e w49 ⟨v370, rfl, ho0, hb⟩; refine ⟨_, rfl, ?_⟩; have n1_ := Aside0.mk (Kd.V_lower (Kd.V_mono (ok' := fun k_ => (w.heap.size ≤ k_) ∧ k_ ≠ gb362 ∧ k_ ≠ gb363 ∧ k_ ≠ gb364) ho0 (fun k_ hk_ => ⟨Or.elim hk_ (fun hs_ => ((Kd.R_types (Kd.R_types (Kd.R_types (HO_5.out) BK362.out (by decide)) BK363.out (by decide)) BK364.out (by decide)).1 k_ hs_.symm).1.1.1) (fun hn_ => (Nat.le_trans (below_size (by with_reducible repeat first | exact HB.out | apply below_alloc | apply pw_below_drewN | apply below_drew1 | refine below_set ?_ GE362.out | refine below_set ?_ GE363.out | refine below_set ?_ GE364.out)) hn_)), Or.elim hk_ (fun hs_ => ((Kd.R_types (Kd.R_types (Kd.R_types (HO_5.out) BK362.out (by decide)) BK363.out (by decide)) BK364.out (by decide)).1 k_ hs_.symm).1.1.2) (fun hn_ => (Kd.freshB (g := gb362) (o := .cells #[.bool a0_0, .slice A0_1 l0_1.length c0_1] 25 (0, 0)) (blk_up BK362.out) k_ hn_)), Or.elim hk_ (fun hs_ => ((Kd.R_types (Kd.R_types (Kd.R_types (HO_5.out) BK362.out (by decide)) BK363.out (by decide)) BK364.out (by decide)).1 k_ hs_.symm).1.2) (fun hn_ => (Kd.freshB (g := gb363) (o := .cells #[.bool a1_0, .slice A1_1 l1_1.length c1_1] 25 (0, 0)) (blk_up BK363.out) k_ hn_)), Or.elim hk_ (fun hs_ => ((Kd.R_types (Kd.R_types (Kd.R_types (HO_5.out) BK362.out (by decide)) BK363.out (by decide)) BK364.out (by decide)).1 k_ hs_.symm).2) (fun hn_ => (Kd.freshB (g := gb364) (o := .cells #[.bool false, .slice none 0 0] 25 (0, 0)) (blk_up BK364.out) k_ hn_))⟩)) (below_size (by with_reducible repeat first | exact HB.out | apply below_alloc | apply pw_below_drewN | apply below_drew1 | refine below_set ?_ GE362.out | refine below_set ?_ GE363.out | refine below_set ?_ GE364.out))); have n4_ := Aside0.mk (blk_below (blk_up BK364.out) hb); have n5_ := Aside0.mk (below_step (by with_reducible repeat first | exact HB.out | apply below_alloc | apply pw_below_drewN | apply below_drew1 | refine below_set ?_ GE362.out | refine below_set ?_ GE363.out | refine below_set ?_ GE364.out) hb); (try clear HO_5); (try clear BK362); (try clear BK363); clear BK364 HB; have HO371 := n1_; have BK364 := n4_; have HB := n5_; clear n1_ n4_ n5_; (try clear hb); (try clear hb2); (try clear hk); (try clear hi); (try clear ho0); have hcz50_0 : w49.cell? ⟨gb364, 0, none⟩ = some (.bool false) := (blk_cell BK364.out 0).trans rfl; have hcz50_1 : w49.cell? ⟨gb364, 1, none⟩ = some (.slice none 0 0) := (blk_cell BK364.out 1).trans rfl; have hfz50_0 := blk_frozen BK364.out 0; have hfz50_1 := blk_frozen BK364.out 1; obtain ⟨Ao51, co51, eo51⟩ := Kd.V_slice HO371.out; subst eo51))
     refine bodyPost_ret (results_cell_row rfl _ _ gb364 25 #[.bool t368, .slice Ao51 t369.length co51] (0, 0) _ rfl (by refine blk_ups ?_; refine blk_put (cs := #[.bool t368, .slice none 0 0]) ?_ 1 _ rfl; refine blk_ups ?_; refine blk_put (cs := #[.bool false, .slice none 0 0]) ?_ 0 _ rfl; exact blk_up BK364.out) Tryd.underlying25 rfl (by kernel_rfl)) rfl ?_
     exact ⟨_, by first | rfl | (simp [errW_none, errW_some] <;> rfl) | (simp only [← hji3]; first | rfl | (simp [errW_none, errW_some] <;> rfl)) | (simp [*, errW_none, errW_some] <;> rfl), Kd.V_up (Kd.V_mono (Kd.V_far (p := ⟨gb364, 1, none⟩) (Kd.V_far (p := ⟨gb364, 0, none⟩) (Kd.V_mono HO371.out (fun k_ hk => (⟨hk, hk.2.2.2⟩ : _ ∧ k_ ≠ gb364))) (fun _ hk => hk.2) (.bool t368)) (fun _ hk => hk.2) (.slice Ao51 t369.length co51)) (fun _ hk => hk.1.1)), by with_reducible repeat first | exact HB.out | apply below_alloc | apply pw_below_drewN | apply below_drew1 | refine below_set ?_ GE362.out | refine below_set ?_ GE363.out | refine below_set ?_ GE364.out⟩
 ·
  rw [if_neg c4] at H
  exact absurd H (by simp)
mutual
def integer_Power.j0 : Nat → Int → Bool → Bool → List Int → Option (Bool × List Int × Int)
 | 0, _, _, _, _ => none
 | k + 1, x1, x12, x378000, x378001 => if x12 = true then (some (false, ([] : List Int), 2)) else ((integer_From.f k 1).bind fun bt379 => (integer_Power.l0 k x1 0 x378000 x378001 bt379.1 bt379.2))
def integer_Power.l0 : Nat → Int → Int → Bool → List Int → Bool → List Int → Option (Bool × List Int × Int)
 | 0, _, _, _, _, _, _ => none
 | k + 1, x15, x16, x378000, x378001, x384000, x384001 => if x16 < x15 then ((integer_Mul.f k x384000 x384001 x378000 x378001).bind fun bt384 => (integer_Power.l0 k x15 (wrap64 (x16 + 1)) x378000 x378001 bt384.1 bt384.2)) else (some (x384000, x384001, 0))
end
def integer_Power.f (k : Nat) (a0_0 : Bool) (l0_1 : List Int) (a1 : Int) : Option (Bool × List Int × Int) := if a1 < 0 then (integer_Power.j0 k a1 true a0_0 l0_1) else (integer_Power.j0 k a1 (decide (a1 > 64)) a0_0 l0_1)
theorem integer_Power.mono_l : ∀ k, (∀ y0 y1 y2 y3, LeO (integer_Power.j0 k y0 y1 y2 y3) (integer_Power.j0 (k + 1) y0 y1 y2 y3)) ∧ (∀ y0 y1 y2 y3 y4 y5, LeO (integer_Power.l0 k y0 y1 y2 y3 y4 y5) (integer_Power.l0 (k + 1) y0 y1 y2 y3 y4 y5))
 | 0 => ⟨fun _ _ _ _ r h => by simp [integer_Power.j0] at h, fun _ _ _ _ _ _ r h => by simp [integer_Power.l0] at h⟩
 | k + 1 => by
  obtain ⟨ih0, ih1⟩ := integer_Power.mono_l k
  refine ⟨?_, ?_⟩
  ·
   intro y0 y1 y2 y3
   unfold integer_Power.j0
   repeat' with_reducible first | exact ih0 _ _ _ _ | exact ih1 _ _ _ _ _ _ | exact integer_From.mono _ _ | exact integer_Mul.mono _ _ _ _ _ | exact LeO.refl _ | exact LeO.none _ | refine LeO.ite ?_ ?_ | refine LeO.bind ?_ (fun _ => ?_)
  ·
   intro y0 y1 y2 y3 y4 y5
   unfold integer_Power.l0
   repeat' with_reducible first | exact ih0 _ _ _ _ | exact ih1 _ _ _ _ _ _ | exact integer_From.mono _ _ | exact integer_Mul.mono _ _ _ _ _ | exact LeO.refl _ | exact LeO.none _ | refine LeO.ite ?_ ?_ | refine LeO.bind ?_ (fun _ => ?_)
theorem integer_Power.mono : ∀ a0 a1 a2 k, LeO (integer_Power.f k a0 a1 a2) (integer_Power.f (k + 1) a0 a1 a2) := by
 intro a0 a1 a2 k
 obtain ⟨ih0, ih1⟩ := integer_Power.mono_l k
 unfold integer_Power.f
 repeat' with_reducible first | exact ih0 _ _ _ _ | exact ih1 _ _ _ _ _ _ | exact integer_From.mono _ _ | exact integer_Mul.mono _ _ _ _ _ | exact LeO.refl _ | exact LeO.none _ | refine LeO.ite ?_ ?_ | refine LeO.bind ?_ (fun _ => ?_)
set_option maxHeartbeats 8000000 in
set_option maxRecDepth 100000 in
theorem integer_Power.calls (k : Nat) (a0_0 : Bool) (A0_1 : Option Addr) (c0_1 : Nat) (l0_1 : List Int) (a1 : Int) (r1 : Bool) (r2 : List Int) (r3 : Int) (w : World) (hr0_1 : Kd.C (Kd.int .u32) w A0_1 l0_1.length l0_1) (hc0_1 : l0_1.length ≤ c0_1) (h : integer_Power.f k a0_0 l0_1 a1 = some (r1, r2, r3)) :
  Calls Tryd.prog 31 #[.agg #[.bool a0_0, .slice A0_1 l0_1.length c0_1], .int .i64 a1] w fun e w' => ∃ v1_ : Value, e = .returned (.tuple #[.agg #[.bool r1, v1_], .int .i64 r3]) ∧ Kd.V (Kd.int .u32) 60 w' w.heap.size (fun k_ => (w.heap.size ≤ k_)) v1_ r2 ∧ Below w.heap.size w w' := by
 have hu25 := Tryd.underlying25
 have HR0_1 := Aside0.mk hr0_1
 have HC0_1 := Aside0.mk hc0_1
 clear hr0_1 hc0_1
 have HB := Aside0.mk (Below.refl w.heap.size w)
 have H := h
 unfold integer_Power.f at H
 clear h
 have HC3 := Aside0.mk H
 clear H
 go_enter Tryd.func31, Tryd.ntmps31
 go_upto_region 1 with (first | ((with_reducible refine gate_dst (N := 2) rfl ?_); refine box_event ?hg (N := 2) ?hd (cs := #[.bool a0_0, .slice A0_1 l0_1.length c0_1]) (t := 25) ?hr ?_; (case hd => rfl); (case hg => rfl); (case hr => first | (go_simp; done) | (go_simp; rfl)); intro gb377 hg w4 hbox hb; have BK377 := Aside0.mk (hbox); have GE377 := Aside0.mk ((size_up hg HB.out : w.heap.size ≤ gb377)); replace HB := Aside0.mk (below_step (below_up HB.out) hb); clear hb hbox hg) | ((with_reducible refine gate_dst (N := 4) rfl ?_); refine box_event ?hg (N := 4) ?hd (cs := #[.bool false, .slice none 0 0]) (t := 25) ?hr ?_; (case hd => rfl); (case hg => rfl); (case hr => first | (go_simp; done) | (go_simp; rfl)); intro gb378 hg w5 hbox hb; have BK378 := Aside0.mk (hbox); have GE378 := Aside0.mk ((by rw [hg]; exact (below_size (by with_reducible repeat first | exact HB.out | apply below_alloc | apply pw_below_drewN | apply below_drew1 | refine below_set ?_ GE377.out)) : w.heap.size ≤ gb378)); replace HB := Aside0.mk (below_step (by with_reducible repeat first | exact HB.out | apply below_alloc | apply pw_below_drewN | apply below_drew1 | refine below_set ?_ GE377.out) hb); have NB377_378 := Aside0.mk ((blk_nw hg BK377.out : gb377 ≠ gb378)); have NB378_377 := Aside0.mk ((nw_blk hg BK377.out : gb378 ≠ gb377)); replace BK377 := Aside0.mk (blk_below (blk_up BK377.out) hb); clear hb hbox hg))
 (try simp only [Act.put, List.setIfInBounds_toArray, List.set_cons_zero, List.set_cons_succ])
 go_cut [12] (fun v12 wc => ∃ (kq : Nat) (x12_2 : Bool), v12 = .bool x12_2 ∧ Aside0 (integer_Power.j0 kq a1 x12_2 a0_0 l0_1 = some (r1, r2, r3)) ∧ Aside0 (kq ≤ k) ∧ Aside0 (wc.heap[gb377]? = some (.cells #[.bool a0_0, (.slice A0_1 l0_1.length c0_1)] 25 (0, 0))) ∧ Aside0 (wc.heap[gb378]? = some (.cells #[.bool false, (.slice none 0 0)] 25 (0, 0))) ∧ Aside0 (Below w.heap.size w wc))
 case first =>
  have H := HC3.out
  clear HC3
  by_cases c6 : a1 < 0
  ·
   rw [if_pos c6] at H
   have c6b0 := decide_eq_true c6
   clear c6
   (first | rw [c6b0] | (simp only [i64_w, i32_w]; rw [c6b0]) | skip)
   have H' := Aside0.mk H
   clear H
   go_wp2
   go_meet
   case rel => exact ⟨_, (true), (by first | rfl | (simp; done) | (simp [*]; done) | (simp <;> omega)), H', ⟨by first | omega | exact Nat.le_refl _⟩, ⟨by (with_reducible repeat (first | refine blk_drewN ?_ _ | refine blk_drew ?_ | refine blk_alloc ?_ _)); exact BK377.out⟩, ⟨by (with_reducible repeat (first | refine blk_drewN ?_ _ | refine blk_drew ?_ | refine blk_alloc ?_ _)); exact BK378.out⟩, ⟨by with_reducible repeat first | exact HB.out | apply below_alloc | apply pw_below_drewN | apply below_drew1 | refine below_set ?_ GE377.out | refine below_set ?_ GE378.out⟩⟩
  ·
   rw [if_neg c6] at H
   have c6b0 := decide_eq_false c6
   clear c6
   (first | rw [c6b0] | (simp only [i64_w, i32_w]; rw [c6b0]) | skip)
   have H' := Aside0.mk H
   clear H
   go_wp2
   go_meet
   case rel => exact ⟨_, (decide (a1 > 64)), (by first | rfl | (simp; done) | (simp [*]; done) | (simp <;> omega)), H', ⟨by first | omega | exact Nat.le_refl _⟩, ⟨by (with_reducible repeat (first | refine blk_drewN ?_ _ | refine blk_drew ?_ | refine blk_alloc ?_ _)); exact BK377.out⟩, ⟨by (with_reducible repeat (first | refine blk_drewN ?_ _ | refine blk_drew ?_ | refine blk_alloc ?_ _)); exact BK378.out⟩, ⟨by with_reducible repeat first | exact HB.out | apply below_alloc | apply pw_below_drewN | apply below_drew1 | refine below_set ?_ GE377.out | refine below_set ?_ GE378.out⟩⟩
 case rest =>
  clear HC3
  obtain ⟨kq, x12_2, rfl, HA, HJ2, BK377, BK378, HB⟩ := hcut
  cases kq with
  | zero => exact absurd HA.out (by simp [integer_Power.j0])
  | succ kj2 =>
   have H := HA.out
   clear HA
   simp only [integer_Power.j0] at H
   by_cases c7 : x12_2 = true
   ·
    subst c7
    have H1 : (some (false, ([] : List Int), 2)) = some (r1, r2, r3) := by rw [if_pos rfl] at H; exact H
    clear H
    have H := H1
    clear H1
    simp only [Option.some.injEq, Prod.mk.injEq] at H
    obtain ⟨rfl, rfl, rfl⟩ := H
    have hnb8 := NB378_377.out
    have hnc8 := NB377_378.out
    have hcz9_0 : wc.cell? ⟨gb378, 0, none⟩ = some (.bool false) := (blk_cell BK378.out 0).trans rfl
    have hcz9_1 : wc.cell? ⟨gb378, 1, none⟩ = some (.slice none 0 0) := (blk_cell BK378.out 1).trans rfl
    have hfz9_0 := blk_frozen BK378.out 0
    have hfz9_1 := blk_frozen BK378.out 1
    go_wp2
    refine bodyPost_ret (results_ct rfl _ _ gb378 25 #[.bool false, .slice none 0 0] (0, 0) _ rfl (by refine blk_ups ?_; refine blk_put (cs := #[.bool false, .slice none 0 0]) ?_ 1 _ rfl; refine blk_ups ?_; refine blk_put (cs := #[.bool false, .slice none 0 0]) ?_ 0 _ rfl; exact blk_up BK378.out) Tryd.underlying25 rfl (by kernel_rfl)) rfl ?_
    exact ⟨_, by first | rfl | (simp [errW_none, errW_some] <;> rfl) | (simp [*, errW_none, errW_some] <;> rfl), by first | exact Kd.R_nil _ _ _ _ _ | exact Kd.N_nil _ _ _ _ _ | exact Kd.V_nil _ _ _ _ _ | exact Kd.Q_nil _ _ _ _ _ | exact Kd.S_nil _ _ _ _ _, by with_reducible repeat first | exact HB.out | apply below_alloc | apply pw_below_drewN | apply below_drew1 | refine below_set ?_ GE377.out | refine below_set ?_ GE378.out⟩
   ·
    replace c7 := Bool.eq_false_iff.mpr c7
    subst c7
    have H1 : ((integer_From.f kj2 1).bind fun bt379 => (integer_Power.l0 kj2 a1 0 a0_0 l0_1 bt379.1 bt379.2)) = some (r1, r2, r3) := by rw [if_neg (show ¬ (false = true) by decide)] at H; exact H
    clear H
    have H := H1
    clear H1
    replace H := Option.bind_eq_some_iff.mp H
    obtain ⟨⟨t379, t380⟩, A100, H⟩ := H
    try dsimp only at H
    have A10 := Aside0.mk A100
    clear A100
    have H' := Aside0.mk H
    clear H
    go_wp2_with (first | ((with_reducible refine gate_callee (f := 15) rfl ?_); refine gl_ (some 14) Tryd.func15 #[.int .i64 1] ?_; (with_reducible refine (integer_From.calls kj2 1 t379 t380 _ A10.out).mono ?_); rintro e w11 ⟨v381, rfl, ho0, hb⟩; refine ⟨_, rfl, ?_⟩; have HO382 := Aside0.mk (Kd.V_lower (Kd.V_mono (ok' := fun k_ => (w.heap.size ≤ k_) ∧ k_ ≠ gb377 ∧ k_ ≠ gb378) ho0 (fun k_ hk_ => ⟨(Nat.le_trans (below_size (by with_reducible repeat first | exact HB.out | apply below_alloc | apply pw_below_drewN | apply below_drew1 | refine below_set ?_ GE377.out | refine below_set ?_ GE378.out)) hk_), (Kd.freshB (g := gb377) (o := .cells #[.bool a0_0, .slice A0_1 l0_1.length c0_1] 25 (0, 0)) (blk_up BK377.out) k_ hk_), (Kd.freshB (g := gb378) (o := .cells #[.bool false, .slice none 0 0] 25 (0, 0)) (blk_up BK378.out) k_ hk_)⟩)) (below_size (by with_reducible repeat first | exact HB.out | apply below_alloc | apply pw_below_drewN | apply below_drew1 | refine below_set ?_ GE377.out | refine below_set ?_ GE378.out))); replace BK377 := Aside0.mk (blk_below (blk_up BK377.out) hb); replace BK378 := Aside0.mk (blk_below (blk_up BK378.out) hb); replace HB := Aside0.mk (below_step (by with_reducible repeat first | exact HB.out | apply below_alloc | apply pw_below_drewN | apply below_drew1 | refine below_set ?_ GE377.out | refine below_set ?_ GE378.out) hb); (try clear hb); (try clear hb2); (try clear hk); (try clear hi); (try clear ho0)) | ((with_reducible refine gate_dst (N := 6) rfl ?_); refine box_event ?hg (N := 6) ?hd (cs := #[.bool false, .slice none 0 0]) (t := 25) ?hr ?_; (case hd => rfl); (case hg => rfl); (case hr => first | (go_simp; done) | (go_simp; rfl)); intro gb383 hg w12 hbox hb; replace HO382 := Aside0.mk (Kd.V_below (Kd.V_elderB (Kd.V_up HO382.out) gb383 (Nat.le_of_eq hg.symm)) hb); have BK383 := Aside0.mk (hbox); have GE383 := Aside0.mk ((by rw [hg]; exact (below_size (by with_reducible repeat first | exact HB.out | apply below_alloc | apply pw_below_drewN | apply below_drew1 | refine below_set ?_ GE377.out | refine below_set ?_ GE378.out)) : w.heap.size ≤ gb383)); replace HB := Aside0.mk (below_step (by with_reducible repeat first | exact HB.out | apply below_alloc | apply pw_below_drewN | apply below_drew1 | refine below_set ?_ GE377.out | refine below_set ?_ GE378.out) hb); have NB377_383 := Aside0.mk ((blk_nw hg BK377.out : gb377 ≠ gb383)); have NB383_377 := Aside0.mk ((nw_blk hg BK377.out : gb383 ≠ gb377)); replace BK377 := Aside0.mk (blk_below (blk_up BK377.out) hb); have NB378_383 := Aside0.mk ((blk_nw hg BK378.out : gb378 ≠ gb383)); have NB383_378 := Aside0.mk ((nw_blk hg BK378.out : gb383 ≠ gb378)); replace BK378 := Aside0.mk (blk_below (blk_up BK378.out) hb); clear hb hbox hg; have hnb13 := NB383_377.out; have hnc13 := NB377_383.out; have hnb14 := NB383_378.out; have hnc14 := NB378_383.out; have hcz15_0 : w12.cell? ⟨gb383, 0, none⟩ = some (.bool false) := (blk_cell BK383.out 0).trans rfl; have hcz15_1 : w12.cell? ⟨gb383, 1, none⟩ = some (.slice none 0 0) := (blk_cell BK383.out 1).trans rfl; have hfz15_0 := blk_frozen BK383.out 0; have hfz15_1 := blk_frozen BK383.out 1; obtain ⟨Ao16, co16, eo16⟩ := Kd.V_slice HO382.out; subst eo16))
    go_loopg [16] kj2 (fun kq v16 w' => ∃ (x16_2 : Int) (x384000_2 : Bool) (x384001_2 : List Int) (u384001 : Value), v16 = .int .i64 x16_2 ∧ Aside0 (integer_Power.l0 kq a1 x16_2 a0_0 l0_1 x384000_2 x384001_2 = some (r1, r2, r3)) ∧ Aside0 (kq ≤ kj2) ∧ Aside0 (Kd.V (Kd.int .u32) 60 w' w.heap.size (fun k_ => (w.heap.size ≤ k_) ∧ k_ ≠ gb377 ∧ k_ ≠ gb378 ∧ k_ ≠ gb383) u384001 x384001_2) ∧ Aside0 (w'.heap[gb377]? = some (.cells #[.bool a0_0, (.slice A0_1 l0_1.length c0_1)] 25 (0, 0))) ∧ Aside0 (w'.heap[gb378]? = some (.cells #[.bool false, (.slice none 0 0)] 25 (0, 0))) ∧ Aside0 (w'.heap[gb383]? = some (.cells #[.bool x384000_2, u384001] 25 (0, 0))) ∧ Aside0 (Below w.heap.size w w'))
    case atStart => exact ⟨(0), (t379), (t380), (.slice Ao16 t380.length co16), (by first | rfl | (simp; done) | (simp [*]; done) | (simp <;> omega)), H', ⟨Nat.le_refl _⟩, ⟨Kd.V_up (Kd.V_mono (Kd.V_far (p := ⟨gb383, 1, none⟩) (Kd.V_far (p := ⟨gb383, 0, none⟩) (Kd.V_mono HO382.out (fun k_ hk => (⟨hk, hk.2⟩ : _ ∧ k_ ≠ gb383))) (fun _ hk => hk.2) (.bool t379)) (fun _ hk => hk.2) (.slice Ao16 t380.length co16)) (fun _ hk => ⟨hk.1.1.1, ⟨hk.1.1.2.1, ⟨hk.1.1.2.2, hk.1.2⟩⟩⟩))⟩, ⟨by (with_reducible repeat (first | refine blk_drewN ?_ _ | refine blk_drew ?_ | refine blk_alloc ?_ _)); refine blk_far ?_ NB377_383.out _; refine blk_ups ?_; refine blk_far ?_ NB377_383.out _; exact blk_up BK377.out⟩, ⟨by (with_reducible repeat (first | refine blk_drewN ?_ _ | refine blk_drew ?_ | refine blk_alloc ?_ _)); refine blk_far ?_ NB378_383.out _; refine blk_ups ?_; refine blk_far ?_ NB378_383.out _; exact blk_up BK378.out⟩, ⟨by (with_reducible repeat (first | refine blk_drewN ?_ _ | refine blk_drew ?_ | refine blk_alloc ?_ _)); refine blk_put (cs := #[.bool t379, .slice none 0 0]) ?_ 1 _ rfl; refine blk_ups ?_; refine blk_put (cs := #[.bool false, .slice none 0 0]) ?_ 0 _ rfl; exact blk_up BK383.out⟩, ⟨by with_reducible repeat first | exact HB.out | apply below_alloc | apply pw_below_drewN | apply below_drew1 | refine below_set ?_ GE377.out | refine below_set ?_ GE378.out | refine below_set ?_ GE383.out⟩⟩
    case round =>
     clear H'
     obtain ⟨x16_2, x384000_2, x384001_2, u384001, rfl, HA, HK2, HO_384001, BK377, BK378, BK383, HB⟩ := hrel
     cases gk with
     | zero => exact absurd HA.out (by simp [integer_Power.l0])
     | succ k2 =>
      have H := HA.out
      clear HA
      simp only [integer_Power.l0] at H
      by_cases c17 : x16_2 < a1
      ·
       rw [if_pos c17] at H
       have c17b0 := decide_eq_true c17
       clear c17
       replace H := Option.bind_eq_some_iff.mp H
       obtain ⟨⟨t384, t385⟩, A180, H⟩ := H
       try dsimp only at H
       have A18 := Aside0.mk A180
       clear A180
       have H' := Aside0.mk H
       clear H
       have hnb19 := NB383_377.out
       have hnc19 := NB377_383.out
       have hnb20 := NB383_378.out
       have hnc20 := NB378_383.out
       have hcz21_0 : wr.cell? ⟨gb383, 0, none⟩ = some (.bool x384000_2) := (blk_cell BK383.out 0).trans rfl
       have hcz21_1 : wr.cell? ⟨gb383, 1, none⟩ = some (u384001) := (blk_cell BK383.out 1).trans rfl
       have hfz21_0 := blk_frozen BK383.out 0
       have hfz21_1 := blk_frozen BK383.out 1
       have hnb22 := NB377_378.out
       have hnc22 := NB378_377.out
       have hcz23_0 : wr.cell? ⟨gb377, 0, none⟩ = some (.bool a0_0) := (blk_cell BK377.out 0).trans rfl
       have hcz23_1 : wr.cell? ⟨gb377, 1, none⟩ = some (.slice A0_1 l0_1.length c0_1) := (blk_cell BK377.out 1).trans rfl
       have hfz23_0 := blk_frozen BK377.out 0
       have hfz23_1 := blk_frozen BK377.out 1
       obtain ⟨Ao24, co24, eo24⟩ := Kd.V_slice HO_384001.out
       subst eo24
       go_wp2_with (first | ((with_reducible refine gate_callee (f := 25) rfl ?_); refine gl_ (some 20) Tryd.func25 #[.agg #[.bool x384000_2, .slice Ao24 x384001_2.length co24], .agg #[.bool a0_0, .slice A0_1 l0_1.length c0_1]] ?_; (with_reducible refine (integer_Mul.calls k2 x384000_2 _ _ x384001_2 a0_0 _ _ l0_1 t384 t385 _ ?side1 ?side2 ?side3 ?side4 A18.out).mono ?_); (case side1 => repeat (first | exact (Kd.V_reads' HO_384001.out).2.2 | (with_reducible refine Kd.C_alloc ?_ _) | (with_reducible refine Kd.C_drewN ?_ _) | (with_reducible refine Kd.C_drew ?_))); (case side2 => exact (Kd.V_reads' HO_384001.out).2.1); (case side3 => repeat (first | exact (Kd.C_below HR0_1.out HB.out) | (with_reducible refine Kd.C_alloc ?_ _) | (with_reducible refine Kd.C_drewN ?_ _) | (with_reducible refine Kd.C_drew ?_))); (case side4 => exact HC0_1.out); rintro e w25 ⟨v386, rfl, ho0, hb⟩; refine ⟨_, rfl, ?_⟩; replace HO_384001 := Aside0.mk (Kd.V_below (Kd.V_up HO_384001.out) hb); have HO387 := Aside0.mk (Kd.V_lower (Kd.V_mono (ok' := fun k_ => (w.heap.size ≤ k_) ∧ k_ ≠ gb377 ∧ k_ ≠ gb378 ∧ k_ ≠ gb383) ho0 (fun k_ hk_ => ⟨(Nat.le_trans (below_size (by with_reducible repeat first | exact HB.out | apply below_alloc | apply pw_below_drewN | apply below_drew1 | refine below_set ?_ GE377.out | refine below_set ?_ GE378.out | refine below_set ?_ GE383.out)) hk_), (Kd.freshB (g := gb377) (o := .cells #[.bool a0_0, .slice A0_1 l0_1.length c0_1] 25 (0, 0)) (blk_up BK377.out) k_ hk_), (Kd.freshB (g := gb378) (o := .cells #[.bool false, .slice none 0 0] 25 (0, 0)) (blk_up BK378.out) k_ hk_), (Kd.freshB (g := gb383) (o := .cells #[.bool x384000_2, .slice Ao24 x384001_2.length co24] 25 (0, 0)) (blk_up BK383.out) k_ hk_)⟩)) (below_size (by with_reducible repeat first | exact HB.out | apply below_alloc | apply pw_below_drewN | apply below_drew1 | refine below_set ?_ GE377.out | refine below_set ?_ GE378.out | refine below_set ?_ GE383.out))); replace BK377 := Aside0.mk (blk_below (blk_up BK377.out) hb); replace BK378 := Aside0.mk (blk_below (blk_up BK378.out) hb); replace BK383 := Aside0.mk (blk_below (blk_up BK383.out) hb); replace HB := Aside0.mk (below_step (by with_reducible repeat first | exact HB.out | apply below_alloc | apply pw_below_drewN | apply below_drew1 | refine below_set ?_ GE377.out | refine below_set ?_ GE378.out | refine below_set ?_ GE383.out) hb); (try clear hb); (try clear hb2); (try clear hk); (try clear hi); (try clear ho0); have hcz26_0 : w25.cell? ⟨gb383, 0, none⟩ = some (.bool x384000_2) := (blk_cell BK383.out 0).trans rfl; have hcz26_1 : w25.cell? ⟨gb383, 1, none⟩ = some (.slice Ao24 x384001_2.length co24) := (blk_cell BK383.out 1).trans rfl; have hfz26_0 := blk_frozen BK383.out 0; have hfz26_1 := blk_frozen BK383.out 1; obtain ⟨Ao27, co27, eo27⟩ := Kd.V_slice HO387.out; subst eo27))
       go_roundg k2
       case measure => have := HJ2.out; have := HK2.out; omega
       case rel => exact ⟨(wrap64 (x16_2 + 1)), (t384), (t385), (.slice Ao27 t385.length co27), (by first | rfl | (simp; done) | (simp [*]; done) | (simp <;> omega)), H', ⟨by have := HJ2.out; have := HK2.out; omega⟩, ⟨Kd.V_up (Kd.V_mono (Kd.V_far (p := ⟨gb383, 1, none⟩) (Kd.V_far (p := ⟨gb383, 0, none⟩) (Kd.V_mono HO387.out (fun k_ hk => (⟨hk, hk.2.2.2⟩ : _ ∧ k_ ≠ gb383))) (fun _ hk => hk.2) (.bool t384)) (fun _ hk => hk.2) (.slice Ao27 t385.length co27)) (fun _ hk => ⟨hk.1.1, ⟨hk.1.2.1, ⟨hk.1.2.2.1, hk.1.2.2.2⟩⟩⟩))⟩, ⟨by (with_reducible repeat (first | refine blk_drewN ?_ _ | refine blk_drew ?_ | refine blk_alloc ?_ _)); refine blk_far ?_ NB377_383.out _; refine blk_ups ?_; refine blk_far ?_ NB377_383.out _; exact blk_up BK377.out⟩, ⟨by (with_reducible repeat (first | refine blk_drewN ?_ _ | refine blk_drew ?_ | refine blk_alloc ?_ _)); refine blk_far ?_ NB378_383.out _; refine blk_ups ?_; refine blk_far ?_ NB378_383.out _; exact blk_up BK378.out⟩, ⟨by (with_reducible repeat (first | refine blk_drewN ?_ _ | refine blk_drew ?_ | refine blk_alloc ?_ _)); refine blk_put (cs := #[.bool t384, .slice Ao24 x384001_2.length co24]) ?_ 1 _ rfl; refine blk_ups ?_; refine blk_put (cs := #[.bool x384000_2, .slice Ao24 x384001_2.length co24]) ?_ 0 _ rfl; exact blk_up BK383.out⟩, ⟨by with_reducible repeat first | exact HB.out | apply below_alloc | apply pw_below_drewN | apply below_drew1 | refine below_set ?_ GE377.out | refine below_set ?_ GE378.out | refine below_set ?_ GE383.out⟩⟩
      ·
       rw [if_neg c17] at H
       have c17b0 := decide_eq_false c17
       clear c17
       simp only [Option.some.injEq, Prod.mk.injEq] at H
       obtain ⟨rfl, rfl, rfl⟩ := H
       have hnb28 := NB383_377.out
       have hnc28 := NB377_383.out
       have hnb29 := NB383_378.out
       have hnc29 := NB378_383.out
       have hcz30_0 : wr.cell? ⟨gb383, 0, none⟩ = some (.bool x384000_2) := (blk_cell BK383.out 0).trans rfl
       have hcz30_1 : wr.cell? ⟨gb383, 1, none⟩ = some (u384001) := (blk_cell BK383.out 1).trans rfl
       have hfz30_0 := blk_frozen BK383.out 0
       have hfz30_1 := blk_frozen BK383.out 1
       have hnb31 := NB378_377.out
       have hnc31 := NB377_378.out
       have hcz32_0 : wr.cell? ⟨gb378, 0, none⟩ = some (.bool false) := (blk_cell BK378.out 0).trans rfl
       have hcz32_1 : wr.cell? ⟨gb378, 1, none⟩ = some (.slice none 0 0) := (blk_cell BK378.out 1).trans rfl
       have hfz32_0 := blk_frozen BK378.out 0
       have hfz32_1 := blk_frozen BK378.out 1
       obtain ⟨Ao33, co33, eo33⟩ := Kd.V_slice HO_384001.out
       subst eo33
       go_wp2
       refine bodyPost_ret (results_ct rfl _ _ gb378 25 #[.bool x384000_2, .slice Ao33 x384001_2.length co33] (0, 0) _ rfl (by refine blk_ups ?_; refine blk_put (cs := #[.bool x384000_2, .slice none 0 0]) ?_ 1 _ rfl; refine blk_ups ?_; refine blk_put (cs := #[.bool false, .slice none 0 0]) ?_ 0 _ rfl; exact blk_up BK378.out) Tryd.underlying25 rfl (by kernel_rfl)) rfl ?_
       exact ⟨_, by first | rfl | (simp [errW_none, errW_some] <;> rfl) | (simp [*, errW_none, errW_some] <;> rfl), Kd.V_up (Kd.V_mono (Kd.V_far (p := ⟨gb378, 1, none⟩) (Kd.V_far (p := ⟨gb378, 0, none⟩) (Kd.V_mono HO_384001.out (fun k_ hk => (⟨hk, hk.2.2.1⟩ : _ ∧ k_ ≠ gb378))) (fun _ hk => hk.2) (.bool x384000_2)) (fun _ hk => hk.2) (.slice Ao33 x384001_2.length co33)) (fun _ hk => hk.1.1)), by with_reducible repeat first | exact HB.out | apply below_alloc | apply pw_below_drewN | apply below_drew1 | refine below_set ?_ GE377.out | refine below_set ?_ GE378.out | refine below_set ?_ GE383.out⟩
def bits_Len32.f (a0 : Int) : Option Int := if 0 ≤ a0 ∧ a0 ≤ 4294967295 then some (Lib.bitLen a0.toNat) else none
theorem bits_Len32.calls (a0 : Int) (r : Int) (w : World) (h : bits_Len32.f a0 = some r) :
  Calls Tryd.prog 66 #[.int .u32 a0] w fun e w' => e = .returned (.int .i64 r) ∧ Drawn0 w w' := by
 unfold bits_Len32.f at h
 split at h
 ·
  rename_i hb
  simp only [Option.some.injEq] at h
  subst h
  refine (Tryd.bits_Len32 a0 w hb.1 hb.2).mono ?_
  rintro e w' ⟨rfl, rfl⟩
  exact ⟨rfl, Drawn0.refl _⟩
 ·
  cases h
def integer_Int_Bits.f (a0_0 : Bool) (l0_1 : List Int) : Option (Int) := if (l0_1.length : Int) = 0 then (some 0) else (if 0 ≤ (wrap64 ((l0_1.length : Int) - 1)) then (if (wrap64 ((l0_1.length : Int) - 1)) < (l0_1.length : Int) then ((bits_Len32.f (rd l0_1 (wrap64 ((l0_1.length : Int) - 1)))).bind fun t390 => (some (wrap64 ((wrap64 (32 * (wrap64 ((l0_1.length : Int) - 1)))) + t390)))) else (none)) else (none))
set_option maxHeartbeats 8000000 in
set_option maxRecDepth 100000 in
theorem integer_Int_Bits.calls (a0_0 : Bool) (A0_1 : Option Addr) (c0_1 : Nat) (l0_1 : List Int) (r : Int) (w : World) (hr0_1 : Kd.C (Kd.int .u32) w A0_1 l0_1.length l0_1) (hc0_1 : l0_1.length ≤ c0_1) (h : integer_Int_Bits.f a0_0 l0_1 = some r) :
  Calls Tryd.prog 42 #[.agg #[.bool a0_0, .slice A0_1 l0_1.length c0_1]] w fun e w' => e = .returned (.int .i64 r) ∧ Below w.heap.size w w' := by
 have hu25 := Tryd.underlying25
 have HR0_1 := Aside0.mk hr0_1
 have HC0_1 := Aside0.mk hc0_1
 clear hr0_1 hc0_1
 have HB := Aside0.mk (Below.refl w.heap.size w)
 have H := h
 unfold integer_Int_Bits.f at H
 clear h
 by_cases c2 : (l0_1.length : Int) = 0
 ·
  rw [if_pos c2] at H
  have c2b0 : ((l0_1.length : Int) == 0) = true := beq_iff_eq.mpr c2
  have c2b1 : ((l0_1.length : Int) != 0) = false := bne_eq_false_iff_eq.mpr c2
  clear c2
  obtain rfl := Option.some.inj H
  go_enter Tryd.func42, Tryd.ntmps42
  go_wp2_with (first | ((with_reducible refine gate_dst (N := 1) rfl ?_); refine box_event ?hg (N := 1) ?hd (cs := #[.bool a0_0, .slice A0_1 l0_1.length c0_1]) (t := 25) ?hr ?_; (case hd => rfl); (case hg => rfl); (case hr => first | (go_simp; done) | (go_simp; rfl)); intro gb388 hg w3 hbox hb; have BK388 := Aside0.mk (hbox); have GE388 := Aside0.mk ((size_up hg HB.out : w.heap.size ≤ gb388)); replace HB := Aside0.mk (below_step (below_up HB.out) hb); clear hb hbox hg; have hcz4_0 : w3.cell? ⟨gb388, 0, none⟩ = some (.bool a0_0) := (blk_cell BK388.out 0).trans rfl; have hcz4_1 : w3.cell? ⟨gb388, 1, none⟩ = some (.slice A0_1 l0_1.length c0_1) := (blk_cell BK388.out 1).trans rfl; have hfz4_0 := blk_frozen BK388.out 0; have hfz4_1 := blk_frozen BK388.out 1))
  go_ret
  exact ⟨by first | rfl | (simp [errW_none, errW_some] <;> rfl) | (simp [*, errW_none, errW_some] <;> rfl), by with_reducible repeat first | exact HB.out | apply below_alloc | apply pw_below_drewN | apply below_drew1 | refine below_set ?_ GE388.out⟩
 ·
  rw [if_neg c2] at H
  have c2b0 : ((l0_1.length : Int) == 0) = false := beq_eq_false_iff_ne.mpr c2
  have c2b1 : ((l0_1.length : Int) != 0) = true := bne_iff_ne.mpr c2
  have c2b2 : ¬ (l0_1 = []) := fun h_ => c2 (by rw [h_]; rfl)
  obtain ⟨ji5, hji5⟩ : ∃ j_ : Int, (wrap64 ((l0_1.length : Int) - 1)) = j_ := ⟨_, rfl⟩
  replace H : (if 0 ≤ (ji5) then (if (ji5) < (l0_1.length : Int) then ((bits_Len32.f (rd l0_1 (ji5))).bind fun t390 => (some (wrap64 ((wrap64 (32 * (ji5))) + t390)))) else (none)) else (none)) = some r := by first | (rw [hji5] at H; exact H) | (simp only [hji5] at H ⊢; exact H)
  have hji5w : (IntKind.i64.wrap ((l0_1.length : Int) - 1)) = ji5 := (i64_w _).trans hji5
  by_cases c6 : 0 ≤ (ji5)
  ·
   rw [if_pos c6] at H
   have c6b0 := decide_eq_true c6
   clear c6
   obtain ⟨c7, H⟩ := ite_some H
   have c7b0 := decide_eq_true c7
   clear c7
   replace H := Option.bind_eq_some_iff.mp H
   obtain ⟨t390, A80, H⟩ := H
   try dsimp only at H
   have A8 := Aside0.mk A80
   clear A80
   obtain rfl := Option.some.inj H
   go_enter Tryd.func42, Tryd.ntmps42
   go_wp2_with (first | ((with_reducible refine gate_dst (N := 1) rfl ?_); refine box_event ?hg (N := 1) ?hd (cs := #[.bool a0_0, .slice A0_1 l0_1.length c0_1]) (t := 25) ?hr ?_; (case hd => rfl); (case hg => rfl); (case hr => first | (go_simp; done) | (go_simp; rfl)); intro gb388 hg w9 hbox hb; have BK388 := Aside0.mk (hbox); have GE388 := Aside0.mk ((size_up hg HB.out : w.heap.size ≤ gb388)); replace HB := Aside0.mk (below_step (below_up HB.out) hb); clear hb hbox hg; have hcz10_0 : w9.cell? ⟨gb388, 0, none⟩ = some (.bool a0_0) := (blk_cell BK388.out 0).trans rfl; have hcz10_1 : w9.cell? ⟨gb388, 1, none⟩ = some (.slice A0_1 l0_1.length c0_1) := (blk_cell BK388.out 1).trans rfl; have hfz10_0 := blk_frozen BK388.out 0; have hfz10_1 := blk_frozen BK388.out 1; have p389 : 0 ≤ ((ji5) : Int) := of_decide_eq_true (by assumption); have q389 : (ji5) < (l0_1.length : Int) := of_decide_eq_true (by assumption); obtain ⟨ad389, e389, hx389_0⟩ := Kd.at_int HR0_1.out (ji5) p389 q389; cases e389; replace hx389_0 := (HB.out.cell (World.block_lt_of_cell? w _ hx389_0)).trans hx389_0; replace p389 := eq_true p389; replace q389 := eq_true q389) | (go_at_call 66; (with_reducible refine (bits_Len32.calls (rd l0_1 (ji5)) t390 _ A8.out).mono ?_); rintro e w' ⟨rfl, ⟨nd, rfl⟩⟩; (try first | exact ⟨rfl, _, World.drewN_drewN _ _ _⟩ | exact ⟨rfl, _, Eq.trans (World.drewN_drewN _ _ _) (congrArg (World.drewN _) (Nat.add_assoc _ _ _))⟩)))
   repeat (go_quiet (first | ((with_reducible refine gate_dst (N := 1) rfl ?_); refine box_event ?hg (N := 1) ?hd (cs := #[.bool a0_0, .slice A0_1 l0_1.length c0_1]) (t := 25) ?hr ?_; (case hd => rfl); (case hg => rfl); (case hr => first | (go_simp; done) | (go_simp; rfl)); intro gb388 hg w9 hbox hb; have BK388 := Aside0.mk (hbox); have GE388 := Aside0.mk ((size_up hg HB.out : w.heap.size ≤ gb388)); replace HB := Aside0.mk (below_step (below_up HB.out) hb); clear hb hbox hg; have hcz10_0 : w9.cell? ⟨gb388, 0, none⟩ = some (.bool a0_0) := (blk_cell BK388.out 0).trans rfl; have hcz10_1 : w9.cell? ⟨gb388, 1, none⟩ = some (.slice A0_1 l0_1.length c0_1) := (blk_cell BK388.out 1).trans rfl; have hfz10_0 := blk_frozen BK388.out 0; have hfz10_1 := blk_frozen BK388.out 1; have p389 : 0 ≤ ((ji5) : Int) := of_decide_eq_true (by assumption); have q389 : (ji5) < (l0_1.length : Int) := of_decide_eq_true (by assumption); obtain ⟨ad389, e389, hx389_0⟩ := Kd.at_int HR0_1.out (ji5) p389 q389; cases e389; replace hx389_0 := (HB.out.cell (World.block_lt_of_cell? w _ hx389_0)).trans hx389_0; replace p389 := eq_true p389; replace q389 := eq_true q389) | (go_at_call 66; (with_reducible refine (bits_Len32.calls (rd l0_1 (ji5)) t390 _ A8.out).mono ?_); rintro e w' ⟨rfl, ⟨nd, rfl⟩⟩; (try first | exact ⟨rfl, _, World.drewN_drewN _ _ _⟩ | exact ⟨rfl, _, Eq.trans (World.drewN_drewN _ _ _) (congrArg (World.drewN _) (Nat.add_assoc _ _ _))⟩))); try go_wp2_with (first | ((with_reducible refine gate_dst (N := 1) rfl ?_); refine box_event ?hg (N := 1) ?hd (cs := #[.bool a0_0, .slice A0_1 l0_1.length c0_1]) (t := 25) ?hr ?_; (case hd => rfl); (case hg => rfl); (case hr => first | (go_simp; done) | (go_simp; rfl)); intro gb388 hg w9 hbox hb; have BK388 := Aside0.mk (hbox); have GE388 := Aside0.mk ((size_up hg HB.out : w.heap.size ≤ gb388)); replace HB := Aside0.mk (below_step (below_up HB.out) hb); clear hb hbox hg; have hcz10_0 : w9.cell? ⟨gb388, 0, none⟩ = some (.bool a0_0) := (blk_cell BK388.out 0).trans rfl; have hcz10_1 : w9.cell? ⟨gb388, 1, none⟩ = some (.slice A0_1 l0_1.length c0_1) := (blk_cell BK388.out 1).trans rfl; have hfz10_0 := blk_frozen BK388.out 0; have hfz10_1 := blk_frozen BK388.out 1; have p389 : 0 ≤ ((ji5) : Int) := of_decide_eq_true (by assumption); have q389 : (ji5) < (l0_1.length : Int) := of_decide_eq_true (by assumption); obtain ⟨ad389, e389, hx389_0⟩ := Kd.at_int HR0_1.out (ji5) p389 q389; cases e389; replace hx389_0 := (HB.out.cell (World.block_lt_of_cell? w _ hx389_0)).trans hx389_0; replace p389 := eq_true p389; replace q389 := eq_true q389) | (go_at_call 66; (with_reducible refine (bits_Len32.calls (rd l0_1 (ji5)) t390 _ A8.out).mono ?_); rintro e w' ⟨rfl, ⟨nd, rfl⟩⟩; (try first | exact ⟨rfl, _, World.drewN_drewN _ _ _⟩ | exact ⟨rfl, _, Eq.trans (World.drewN_drewN _ _ _) (congrArg (World.drewN _) (Nat.add_assoc _ _ _))⟩))))
   go_ret
   exact ⟨by first | rfl | (simp [errW_none, errW_some] <;> rfl) | (simp only [← hji5]; first | rfl | (simp [errW_none, errW_some] <;> rfl)) | (simp [*, errW_none, errW_some] <;> rfl), by with_reducible repeat first | exact HB.out | apply below_alloc | apply pw_below_drewN | apply below_drew1 | refine below_set ?_ GE388.out⟩
  ·
   rw [if_neg c6] at H
   exact absurd H (by simp)
def dowellaw01_known.f (k : Nat)  : Option (Bool) := (integer_From.f k (-7)).bind fun bt391 => ((integer_From.f k 2).bind fun bt395 => ((integer_DivMod.f k bt391.1 bt391.2 bt395.1 bt395.2).bind fun bt399 => ((integer_From.f k (-10)).bind fun bt410 => ((integer_Power.f k bt410.1 bt410.2 3).bind fun bt414 => ((integer_Int_Text.f k bt399.1 bt399.2.1).bind fun t420 => (if t420.toList = ([45, 52] : List UInt8) then ((integer_Int_Text.f k bt399.2.2.1 bt399.2.2.2.1).bind fun t421 => (if t421.toList = ([49] : List UInt8) then (if bt399.2.2.2.2 = 0 then ((integer_Int_Text.f k bt414.1 bt414.2.1).bind fun t422 => (if t422.toList = ([45, 49, 48, 48, 48] : List UInt8) then (if bt414.2.2 = 0 then ((integer_From.f k (-12)).bind fun bt423 => ((integer_From.f k 18).bind fun bt427 => ((integer_Gcd.f k bt423.1 bt423.2 bt427.1 bt427.2).bind fun bt431 => ((integer_Int_Text.f k bt431.1 bt431.2).bind fun t435 => (if t435.toList = ([54] : List UInt8) then ((integer_From.f k 256).bind fun bt436 => ((integer_Int_Bits.f bt436.1 bt436.2).bind fun t440 => (some (t440 == 9)))) else (none)))))) else (none)) else (none))) else (none)) else (none))) else (none)))))))
theorem dowellaw01_known.mono : ∀ k, LeO (dowellaw01_known.f k ) (dowellaw01_known.f (k + 1) ) := by
 intro  k
 unfold dowellaw01_known.f
 repeat' with_reducible first | exact integer_DivMod.mono _ _ _ _ _ | exact integer_From.mono _ _ | exact integer_Gcd.mono _ _ _ _ _ | exact integer_Int_Text.mono _ _ _ | exact integer_Power.mono _ _ _ _ | exact LeO.refl _ | exact LeO.none _ | refine LeO.ite ?_ ?_ | refine LeO.bind ?_ (fun _ => ?_)
set_option maxHeartbeats 8000000 in
set_option maxRecDepth 100000 in
theorem dowellaw01_known.calls (k : Nat)  (r : Bool) (w : World) (hG : G w) (h : dowellaw01_known.f k  = some r) :
  Calls Tryd.prog 14 #[] w fun e w' => e = .returned (.bool r) ∧ Below w.heap.size w w' := by
 have hu25 := Tryd.underlying25
 have HB := Aside0.mk (Below.refl w.heap.size w)
 have HG := Aside0.mk hG
 clear hG
 have H := h
 unfold dowellaw01_known.f at H
 clear h
 replace H := Option.bind_eq_some_iff.mp H
 obtain ⟨⟨t391, t392⟩, A10, H⟩ := H
 try dsimp only at H
 have A1 := Aside0.mk A10
 clear A10
 replace H := Option.bind_eq_some_iff.mp H
 obtain ⟨⟨t395, t396⟩, A20, H⟩ := H
 try dsimp only at H
 have A2 := Aside0.mk A20
 clear A20
 replace H := Option.bind_eq_some_iff.mp H
 obtain ⟨⟨t399, t400, t403, t404, t407⟩, A30, H⟩ := H
 try dsimp only at H
 have A3 := Aside0.mk A30
 clear A30
 replace H := Option.bind_eq_some_iff.mp H
 obtain ⟨⟨t410, t411⟩, A40, H⟩ := H
 try dsimp only at H
 have A4 := Aside0.mk A40
 clear A40
 replace H := Option.bind_eq_some_iff.mp H
 obtain ⟨⟨t414, t415, t418⟩, A50, H⟩ := H
 try dsimp only at H
 have A5 := Aside0.mk A50
 clear A50
 replace H := Option.bind_eq_some_iff.mp H
 obtain ⟨t420, A60, H⟩ := H
 try dsimp only at H
 have A6 := Aside0.mk A60
 clear A60
 by_cases c7 : t420.toList = ([45, 52] : List UInt8)
 ·
  rw [if_pos c7] at H
  have c7b0 : (t420.toList == ([45, 52] : List UInt8)) = true := beq_iff_eq.mpr c7
  have c7b1 : (t420.toList != ([45, 52] : List UInt8)) = false := bne_eq_false_iff_eq.mpr c7
  clear c7
  replace H := Option.bind_eq_some_iff.mp H
  obtain ⟨t421, A80, H⟩ := H
  try dsimp only at H
  have A8 := Aside0.mk A80
  clear A80
  obtain ⟨c9, H⟩ := ite_some H
  have c9b0 : (t421.toList == ([49] : List UInt8)) = true := beq_iff_eq.mpr c9
  have c9b1 : (t421.toList != ([49] : List UInt8)) = false := bne_eq_false_iff_eq.mpr c9
  clear c9
  obtain ⟨c10, H⟩ := ite_some H
  have c10b0 : (t407 == 0) = true := beq_iff_eq.mpr c10
  have c10b1 : (t407 != 0) = false := bne_eq_false_iff_eq.mpr c10
  clear c10
  replace H := Option.bind_eq_some_iff.mp H
  obtain ⟨t422, A110, H⟩ := H
  try dsimp only at H
  have A11 := Aside0.mk A110
  clear A110
  obtain ⟨c12, H⟩ := ite_some H
  have c12b0 : (t422.toList == ([45, 49, 48, 48, 48] : List UInt8)) = true := beq_iff_eq.mpr c12
  have c12b1 : (t422.toList != ([45, 49, 48, 48, 48] : List UInt8)) = false := bne_eq_false_iff_eq.mpr c12
  clear c12
  obtain ⟨c13, H⟩ := ite_some H
  have c13b0 : (t418 == 0) = true := beq_iff_eq.mpr c13
  have c13b1 : (t418 != 0) = false := bne_eq_false_iff_eq.mpr c13
  clear c13
  replace H := Option.bind_eq_some_iff.mp H
  obtain ⟨⟨t423, t424⟩, A140, H⟩ := H
  try dsimp only at H
  have A14 := Aside0.mk A140
  clear A140
  replace H := Option.bind_eq_some_iff.mp H
  obtain ⟨⟨t427, t428⟩, A150, H⟩ := H
  try dsimp only at H
  have A15 := Aside0.mk A150
  clear A150
  replace H := Option.bind_eq_some_iff.mp H
  obtain ⟨⟨t431, t432⟩, A160, H⟩ := H
  try dsimp only at H
  have A16 := Aside0.mk A160
  clear A160
  replace H := Option.bind_eq_some_iff.mp H
  obtain ⟨t435, A170, H⟩ := H
  try dsimp only at H
  have A17 := Aside0.mk A170
  clear A170
  obtain ⟨c18, H⟩ := ite_some H
  have c18b0 : (t435.toList == ([54] : List UInt8)) = true := beq_iff_eq.mpr c18
  have c18b1 : (t435.toList != ([54] : List UInt8)) = false := bne_eq_false_iff_eq.mpr c18
  clear c18
  replace H := Option.bind_eq_some_iff.mp H
  obtain ⟨⟨t436, t437⟩, A190, H⟩ := H
  try dsimp only at H
  have A19 := Aside0.mk A190
  clear A190
  replace H := Option.bind_eq_some_iff.mp H
  obtain ⟨t440, A200, H⟩ := H
  try dsimp only at H
  have A20 := Aside0.mk A200
  clear A200
  obtain rfl := Option.some.inj H
  go_enter Tryd.func14, Tryd.ntmps14
  go_wp2_with (first | ((with_reducible refine gate_callee (f := 15) rfl ?_); refine gl_ (some 7) Tryd.func15 #[.int .i64 (-7)] ?_; (with_reducible refine (integer_From.calls k (-7) t391 t392 _ A1.out).mono ?_); rintro e w21 ⟨v393, rfl, ho0, hb⟩; refine ⟨_, rfl, ?_⟩; have HO394 := Aside0.mk (Kd.V_lower (Kd.V_mono (ok' := fun k_ => True) ho0 (fun k_ hk_ => trivial)) (below_size (below_up HB.out))); replace HB := Aside0.mk (below_step (below_up HB.out) hb); (try clear hb); (try clear hb2); (try clear hk); (try clear hi); (try clear ho0)) | ((with_reducible refine gate_callee (f := 15) rfl ?_); refine gl_ (some 8) Tryd.func15 #[.int .i64 2] ?_; (with_reducible refine (integer_From.calls k 2 t395 t396 _ A2.out).mono ?_); rintro e w22 ⟨v397, rfl, ho0, hb⟩; refine ⟨_, rfl, ?_⟩; replace HO394 := Aside0.mk (Kd.V_below (Kd.V_up HO394.out) hb); have HO398 := Aside0.mk (Kd.V_lower (Kd.V_mono (ok' := fun k_ => True) ho0 (fun k_ hk_ => trivial)) (below_size (below_up HB.out))); replace HB := Aside0.mk (below_step (below_up HB.out) hb); (try clear hb); (try clear hb2); (try clear hk); (try clear hi); (try clear ho0); obtain ⟨Ao23, co23, eo23⟩ := Kd.V_slice HO394.out; subst eo23; obtain ⟨Ao24, co24, eo24⟩ := Kd.V_slice HO398.out; subst eo24) | ((with_reducible refine gate_callee (f := 27) rfl ?_); refine gl_ (some 9) Tryd.func27 #[.agg #[.bool t391, .slice Ao23 t392.length co23], .agg #[.bool t395, .slice Ao24 t396.length co24]] ?_; (with_reducible refine (integer_DivMod.calls k t391 (fun k_ => True) _ _ t392 t395 _ _ t396 t399 t400 t403 t404 t407 _ ?side1 ?side2 ?side3 A3.out).mono ?_); (case side1 => exact HO394.out); (case side2 => repeat (first | exact (Kd.V_reads' HO398.out).2.2 | (with_reducible refine Kd.C_alloc ?_ _) | (with_reducible refine Kd.C_drewN ?_ _) | (with_reducible refine Kd.C_drew ?_))); (case side3 => exact (Kd.V_reads' HO398.out).2.1); rintro e w25 ⟨v401, v405, rfl, ho0, ho1, hb⟩; refine ⟨_, rfl, ?_⟩; have n2_ := Aside0.mk (Kd.V_lower (Kd.V_mono (ok' := fun k_ => True) ho0 (fun k_ hk_ => trivial)) (below_size (below_up HB.out))); have n3_ := Aside0.mk (Kd.V_lower (Kd.V_mono (ok' := fun k_ => True) ho1 (fun k_ hk_ => trivial)) (below_size (below_up HB.out))); have n4_ := Aside0.mk (below_step (below_up HB.out) hb); (try clear HO394); (try clear HO398); clear HB; have HO402 := n2_; have HO406 := n3_; have HB := n4_; clear n2_ n3_ n4_; (try clear hb); (try clear hb2); (try clear hk); (try clear hi); (try clear ho0); (try clear ho1)) | ((with_reducible refine gate_dst (N := 1) rfl ?_); refine box_event ?hg (N := 1) ?hd (cs := #[.bool false, .slice none 0 0]) (t := 25) ?hr ?_; (case hd => rfl); (case hg => rfl); (case hr => first | (go_simp; done) | (go_simp; rfl)); intro gb408 hg w26 hbox hb; have n2_ := Aside0.mk (Kd.V_below (Kd.V_elderB (Kd.V_up HO402.out) gb408 (Nat.le_of_eq hg.symm)) hb); have n3_ := Aside0.mk (Kd.V_below (Kd.V_elderB (Kd.V_up HO406.out) gb408 (Nat.le_of_eq hg.symm)) hb); have n4_ := Aside0.mk (below_step (below_up HB.out) hb); have n5_ := Aside0.mk (hbox); have n7_ := Aside0.mk ((size_up hg HB.out : w.heap.size ≤ gb408)); clear HO402 HO406 HB; have HO402 := n2_; have HO406 := n3_; have HB := n4_; have BK408 := n5_; have GE408 := n7_; clear n2_ n3_ n4_ n5_ n7_ hb hbox hg) | ((with_reducible refine gate_dst (N := 2) rfl ?_); refine box_event ?hg (N := 2) ?hd (cs := #[.bool false, .slice none 0 0]) (t := 25) ?hr ?_; (case hd => rfl); (case hg => rfl); (case hr => first | (go_simp; done) | (go_simp; rfl)); intro gb409 hg w27 hbox hb; have n2_ := Aside0.mk (Kd.V_below (Kd.V_elderB (Kd.V_up HO402.out) gb409 (Nat.le_of_eq hg.symm)) hb); have n3_ := Aside0.mk (Kd.V_below (Kd.V_elderB (Kd.V_up HO406.out) gb409 (Nat.le_of_eq hg.symm)) hb); have n4_ := Aside0.mk (blk_below (blk_up BK408.out) hb); have n5_ := Aside0.mk (below_step (by with_reducible repeat first | exact HB.out | apply below_alloc | apply pw_below_drewN | apply below_drew1 | refine below_set ?_ GE408.out) hb); have n6_ := Aside0.mk (hbox); have n8_ := Aside0.mk ((by rw [hg]; exact (below_size (by with_reducible repeat first | exact HB.out | apply below_alloc | apply pw_below_drewN | apply below_drew1 | refine below_set ?_ GE408.out)) : w.heap.size ≤ gb409)); have n9_ := Aside0.mk ((blk_nw hg BK408.out : gb408 ≠ gb409)); have n10_ := Aside0.mk ((nw_blk hg BK408.out : gb409 ≠ gb408)); clear HO402 HO406 BK408 HB; have HO402 := n2_; have HO406 := n3_; have BK408 := n4_; have HB := n5_; have BK409 := n6_; have GE409 := n8_; have NB408_409 := n9_; have NB409_408 := n10_; clear n2_ n3_ n4_ n5_ n6_ n8_ n9_ n10_ hb hbox hg; have hnb28 := NB408_409.out; have hnc28 := NB409_408.out; have hcz29_0 : w27.cell? ⟨gb408, 0, none⟩ = some (.bool false) := (blk_cell BK408.out 0).trans rfl; have hcz29_1 : w27.cell? ⟨gb408, 1, none⟩ = some (.slice none 0 0) := (blk_cell BK408.out 1).trans rfl; have hfz29_0 := blk_frozen BK408.out 0; have hfz29_1 := blk_frozen BK408.out 1; obtain ⟨Ao30, co30, eo30⟩ := Kd.V_slice HO402.out; subst eo30; have hcz31_0 : w27.cell? ⟨gb409, 0, none⟩ = some (.bool false) := (blk_cell BK409.out 0).trans rfl; have hcz31_1 : w27.cell? ⟨gb409, 1, none⟩ = some (.slice none 0 0) := (blk_cell BK409.out 1).trans rfl; have hfz31_0 := blk_frozen BK409.out 0; have hfz31_1 := blk_frozen BK409.out 1; obtain ⟨Ao32, co32, eo32⟩ := Kd.V_slice HO406.out; subst eo32) | ((with_reducible refine gate_callee (f := 15) rfl ?_); refine gl_ (some 14) Tryd.func15 #[.int .i64 (-10)] ?_; (with_reducible refine (integer_From.calls k (-10) t410 t411 _ A4.out).mono ?_); rintro e w33 ⟨v412, rfl, ho0, hb⟩; refine ⟨_, rfl, ?_⟩; have n2_ := Aside0.mk (Kd.V_below (Kd.V_up ((Kd.V_mono (Kd.V_mono (Kd.V_far (p := ⟨gb409, 1, none⟩) (Kd.V_far (p := ⟨gb409, 0, none⟩) (Kd.V_far (p := ⟨gb408, 1, none⟩) (Kd.V_far (p := ⟨gb408, 0, none⟩) (Kd.V_mono (Kd.V_mono HO402.out (fun k_ hk => (⟨hk, hk.1.2⟩ : _ ∧ k_ ≠ gb408))) (fun k_ hk => (⟨hk, hk.1.2⟩ : _ ∧ k_ ≠ gb409))) (fun _ hk => hk.1.2) (.bool t399)) (fun _ hk => hk.1.2) (.slice Ao30 t400.length co30)) (fun _ hk => hk.2) (.bool t403)) (fun _ hk => hk.2) (.slice Ao32 t404.length co32)) (fun _ h_ => h_.1)) (fun _ h_ => h_.1)))) hb); have n3_ := Aside0.mk (Kd.V_below (Kd.V_up ((Kd.V_mono (Kd.V_mono (Kd.V_far (p := ⟨gb409, 1, none⟩) (Kd.V_far (p := ⟨gb409, 0, none⟩) (Kd.V_far (p := ⟨gb408, 1, none⟩) (Kd.V_far (p := ⟨gb408, 0, none⟩) (Kd.V_mono (Kd.V_mono HO406.out (fun k_ hk => (⟨hk, hk.1.2⟩ : _ ∧ k_ ≠ gb408))) (fun k_ hk => (⟨hk, hk.1.2⟩ : _ ∧ k_ ≠ gb409))) (fun _ hk => hk.1.2) (.bool t399)) (fun _ hk => hk.1.2) (.slice Ao30 t400.length co30)) (fun _ hk => hk.2) (.bool t403)) (fun _ hk => hk.2) (.slice Ao32 t404.length co32)) (fun _ h_ => h_.1)) (fun _ h_ => h_.1)))) hb); have n4_ := Aside0.mk (Kd.V_lower (Kd.V_mono (ok' := fun k_ => k_ ≠ gb408 ∧ k_ ≠ gb409) ho0 (fun k_ hk_ => ⟨(Kd.freshB (g := gb408) (o := .cells #[.bool t399, .slice Ao30 t400.length co30] 25 (0, 0)) (by refine blk_ups ?_; refine blk_far ?_ NB408_409.out _; refine blk_ups ?_; refine blk_far ?_ NB408_409.out _; refine blk_ups ?_; refine blk_put (cs := #[.bool t399, .slice none 0 0]) ?_ 1 _ rfl; refine blk_ups ?_; refine blk_put (cs := #[.bool false, .slice none 0 0]) ?_ 0 _ rfl; exact blk_up BK408.out) k_ hk_), (Kd.freshB (g := gb409) (o := .cells #[.bool t403, .slice Ao32 t404.length co32] 25 (0, 0)) (by refine blk_ups ?_; refine blk_put (cs := #[.bool t403, .slice none 0 0]) ?_ 1 _ rfl; refine blk_ups ?_; refine blk_put (cs := #[.bool false, .slice none 0 0]) ?_ 0 _ rfl; refine blk_ups ?_; refine blk_far ?_ NB409_408.out _; refine blk_ups ?_; refine blk_far ?_ NB409_408.out _; exact blk_up BK409.out) k_ hk_)⟩)) (below_size (by with_reducible repeat first | exact HB.out | apply below_alloc | apply pw_below_drewN | apply below_drew1 | refine below_set ?_ GE408.out | refine below_set ?_ GE409.out))); have n5_ := Aside0.mk (blk_below (g := gb408) (o := .cells #[.bool t399, .slice Ao30 t400.length co30] 25 (0, 0)) (by refine blk_ups ?_; refine blk_far ?_ NB408_409.out _; refine blk_ups ?_; refine blk_far ?_ NB408_409.out _; refine blk_ups ?_; refine blk_put (cs := #[.bool t399, .slice none 0 0]) ?_ 1 _ rfl; refine blk_ups ?_; refine blk_put (cs := #[.bool false, .slice none 0 0]) ?_ 0 _ rfl; exact blk_up BK408.out) hb); have n6_ := Aside0.mk (blk_below (g := gb409) (o := .cells #[.bool t403, .slice Ao32 t404.length co32] 25 (0, 0)) (by refine blk_ups ?_; refine blk_put (cs := #[.bool t403, .slice none 0 0]) ?_ 1 _ rfl; refine blk_ups ?_; refine blk_put (cs := #[.bool false, .slice none 0 0]) ?_ 0 _ rfl; refine blk_ups ?_; refine blk_far ?_ NB409_408.out _; refine blk_ups ?_; refine blk_far ?_ NB409_408.out _; exact blk_up BK409.out) hb); have n7_ := Aside0.mk (below_step (by with_reducible repeat first | exact HB.out | apply below_alloc | apply pw_below_drewN | apply below_drew1 | refine below_set ?_ GE408.out | refine below_set ?_ GE409.out) hb); clear HO402 HO406 BK408 BK409 HB; have HO402 := n2_; have HO406 := n3_; have HO413 := n4_; have BK408 := n5_; have BK409 := n6_; have HB := n7_; clear n2_ n3_ n4_ n5_ n6_ n7_; (try clear hb); (try clear hb2); (try clear hk); (try clear hi); (try clear ho0); obtain ⟨Ao34, co34, eo34⟩ := Kd.V_slice HO413.out; subst eo34) | ((with_reducible refine gate_callee (f := 31) rfl ?_); refine gl_ (some 15) Tryd.func31 #[.agg #[.bool t410, .slice Ao34 t411.length co34], .int .i64 3] ?_; (with_reducible refine (integer_Power.calls k t410 _ _ t411 3 t414 t415 t418 _ ?side1 ?side2 A5.out).mono ?_); (case side1 => repeat (first | exact (Kd.V_reads' HO413.out).2.2 | (with_reducible refine Kd.C_alloc ?_ _) | (with_reducible refine Kd.C_drewN ?_ _) | (with_reducible refine Kd.C_drew ?_))); (case side2 => exact (Kd.V_reads' HO413.out).2.1); rintro e w35 ⟨v416, rfl, ho0, hb⟩; refine ⟨_, rfl, ?_⟩; have n2_ := Aside0.mk (Kd.V_below (Kd.V_up HO402.out) hb); have n3_ := Aside0.mk (Kd.V_below (Kd.V_up HO406.out) hb); have n5_ := Aside0.mk (Kd.V_lower (Kd.V_mono (ok' := fun k_ => k_ ≠ gb408 ∧ k_ ≠ gb409) ho0 (fun k_ hk_ => ⟨(Kd.freshB (g := gb408) (o := .cells #[.bool t399, .slice Ao30 t400.length co30] 25 (0, 0)) (blk_up BK408.out) k_ hk_), (Kd.freshB (g := gb409) (o := .cells #[.bool t403, .slice Ao32 t404.length co32] 25 (0, 0)) (blk_up BK409.out) k_ hk_)⟩)) (below_size (by with_reducible repeat first | exact HB.out | apply below_alloc | apply pw_below_drewN | apply below_drew1 | refine below_set ?_ GE408.out | refine below_set ?_ GE409.out))); have n6_ := Aside0.mk (blk_below (blk_up BK408.out) hb); have n7_ := Aside0.mk (blk_below (blk_up BK409.out) hb); have n8_ := Aside0.mk (below_step (by with_reducible repeat first | exact HB.out | apply below_alloc | apply pw_below_drewN | apply below_drew1 | refine below_set ?_ GE408.out | refine below_set ?_ GE409.out) hb); clear HO402 HO406; (try clear HO413); clear BK408 BK409 HB; have HO402 := n2_; have HO406 := n3_; have HO417 := n5_; have BK408 := n6_; have BK409 := n7_; have HB := n8_; clear n2_ n3_ n5_ n6_ n7_ n8_; (try clear hb); (try clear hb2); (try clear hk); (try clear hi); (try clear ho0)) | ((with_reducible refine gate_dst (N := 4) rfl ?_); refine box_event ?hg (N := 4) ?hd (cs := #[.bool false, .slice none 0 0]) (t := 25) ?hr ?_; (case hd => rfl); (case hg => rfl); (case hr => first | (go_simp; done) | (go_simp; rfl)); intro gb419 hg w36 hbox hb; have n2_ := Aside0.mk (Kd.V_below (Kd.V_elderB (Kd.V_up HO402.out) gb419 (Nat.le_of_eq hg.symm)) hb); have n3_ := Aside0.mk (Kd.V_below (Kd.V_elderB (Kd.V_up HO406.out) gb419 (Nat.le_of_eq hg.symm)) hb); have n5_ := Aside0.mk (Kd.V_below (Kd.V_elderB (Kd.V_up HO417.out) gb419 (Nat.le_of_eq hg.symm)) hb); have n6_ := Aside0.mk (blk_below (blk_up BK408.out) hb); have n7_ := Aside0.mk (blk_below (blk_up BK409.out) hb); have n8_ := Aside0.mk (below_step (by with_reducible repeat first | exact HB.out | apply below_alloc | apply pw_below_drewN | apply below_drew1 | refine below_set ?_ GE408.out | refine below_set ?_ GE409.out) hb); have n9_ := Aside0.mk (hbox); have n11_ := Aside0.mk ((by rw [hg]; exact (below_size (by with_reducible repeat first | exact HB.out | apply below_alloc | apply pw_below_drewN | apply below_drew1 | refine below_set ?_ GE408.out | refine below_set ?_ GE409.out)) : w.heap.size ≤ gb419)); have n12_ := Aside0.mk ((blk_nw hg BK408.out : gb408 ≠ gb419)); have n13_ := Aside0.mk ((nw_blk hg BK408.out : gb419 ≠ gb408)); have n14_ := Aside0.mk ((blk_nw hg BK409.out : gb409 ≠ gb419)); have n15_ := Aside0.mk ((nw_blk hg BK409.out : gb419 ≠ gb409)); clear HO402 HO406 HO417 BK408 BK409 HB; have HO402 := n2_; have HO406 := n3_; have HO417 := n5_; have BK408 := n6_; have BK409 := n7_; have HB := n8_; have BK419 := n9_; have GE419 := n11_; have NB408_419 := n12_; have NB419_408 := n13_; have NB409_419 := n14_; have NB419_409 := n15_; clear n2_ n3_ n5_ n6_ n7_ n8_ n9_ n11_ n12_ n13_ n14_ n15_ hb hbox hg; have hnb37 := NB419_408.out; have hnc37 := NB408_419.out; have hnb38 := NB419_409.out; have hnc38 := NB409_419.out; have hcz39_0 : w36.cell? ⟨gb419, 0, none⟩ = some (.bool false) := (blk_cell BK419.out 0).trans rfl; have hcz39_1 : w36.cell? ⟨gb419, 1, none⟩ = some (.slice none 0 0) := (blk_cell BK419.out 1).trans rfl; have hfz39_0 := blk_frozen BK419.out 0; have hfz39_1 := blk_frozen BK419.out 1; obtain ⟨Ao40, co40, eo40⟩ := Kd.V_slice HO417.out; subst eo40) | ((with_reducible refine gate_store (t := 25) (p := 4) rfl ?_); refine store_event (t := 25) (p := 4) (v := ?vo_w41) (w1 := ((w36.setCell ⟨gb419, 0, none⟩ (.bool t414)).setCell ⟨gb419, 1, none⟩ (.slice Ao40 t415.length co40))) ?hg ?ho ?hn ?hr ?_; (case ho => rfl); (case hg => rfl); (case hn => rfl); (case hr => first | (go_simp; done) | (go_simp; rfl)); intro w41 hw; have n2_ : Aside0 (Kd.V (Kd.int .u32) 60 w41 w.heap.size (fun k_ => k_ ≠ gb408 ∧ k_ ≠ gb409 ∧ k_ ≠ gb419) (.slice Ao30 t400.length co30) t400) := ⟨(by rw [hw]; exact (Kd.V_up (Kd.V_mono (Kd.V_far (p := ⟨gb419, 1, none⟩) (Kd.V_far (p := ⟨gb419, 0, none⟩) (Kd.V_mono HO402.out (fun k_ hk => (⟨hk, hk.2⟩ : _ ∧ k_ ≠ gb419))) (fun _ hk => hk.2) (.bool t414)) (fun _ hk => hk.2) (.slice Ao40 t415.length co40)) (fun _ hk => ⟨hk.1.1.1.2, ⟨hk.1.1.2, hk.1.2⟩⟩))))⟩; have n3_ : Aside0 (Kd.V (Kd.int .u32) 60 w41 w.heap.size (fun k_ => k_ ≠ gb408 ∧ k_ ≠ gb409 ∧ k_ ≠ gb419) (.slice Ao32 t404.length co32) t404) := ⟨(by rw [hw]; exact (Kd.V_up (Kd.V_mono (Kd.V_far (p := ⟨gb419, 1, none⟩) (Kd.V_far (p := ⟨gb419, 0, none⟩) (Kd.V_mono HO406.out (fun k_ hk => (⟨hk, hk.2⟩ : _ ∧ k_ ≠ gb419))) (fun _ hk => hk.2) (.bool t414)) (fun _ hk => hk.2) (.slice Ao40 t415.length co40)) (fun _ hk => ⟨hk.1.1.1.2, ⟨hk.1.1.2, hk.1.2⟩⟩))))⟩; have n5_ : Aside0 (Kd.V (Kd.int .u32) 60 w41 w.heap.size (fun k_ => k_ ≠ gb408 ∧ k_ ≠ gb409 ∧ k_ ≠ gb419) (.slice Ao40 t415.length co40) t415) := ⟨(by rw [hw]; exact (Kd.V_up (Kd.V_mono (Kd.V_far (p := ⟨gb419, 1, none⟩) (Kd.V_far (p := ⟨gb419, 0, none⟩) (Kd.V_mono HO417.out (fun k_ hk => (⟨hk, hk.2⟩ : _ ∧ k_ ≠ gb419))) (fun _ hk => hk.2) (.bool t414)) (fun _ hk => hk.2) (.slice Ao40 t415.length co40)) (fun _ hk => ⟨hk.1.1.1, ⟨hk.1.1.2, hk.1.2⟩⟩))))⟩; have n6_ : Aside0 (w41.heap[gb408]? = some (.cells #[.bool t399, .slice Ao30 t400.length co30] 25 (0, 0))) := ⟨(by rw [hw]; exact (by refine blk_ups ?_; refine blk_far ?_ NB408_419.out _; refine blk_ups ?_; refine blk_far ?_ NB408_419.out _; exact blk_up BK408.out))⟩; have n7_ : Aside0 (w41.heap[gb409]? = some (.cells #[.bool t403, .slice Ao32 t404.length co32] 25 (0, 0))) := ⟨(by rw [hw]; exact (by refine blk_ups ?_; refine blk_far ?_ NB409_419.out _; refine blk_ups ?_; refine blk_far ?_ NB409_419.out _; exact blk_up BK409.out))⟩; have n8_ : Aside0 (w41.heap[gb419]? = some (.cells #[.bool t414, .slice Ao40 t415.length co40] 25 (0, 0))) := ⟨(by rw [hw]; exact (by refine blk_ups ?_; refine blk_put (cs := #[.bool t414, .slice none 0 0]) ?_ 1 _ rfl; refine blk_ups ?_; refine blk_put (cs := #[.bool false, .slice none 0 0]) ?_ 0 _ rfl; exact blk_up BK419.out))⟩; have n9_ : Aside0 (Below w.heap.size w w41) := ⟨(by rw [hw]; exact (by with_reducible repeat first | exact HB.out | apply below_alloc | apply pw_below_drewN | apply below_drew1 | refine below_set ?_ GE408.out | refine below_set ?_ GE409.out | refine below_set ?_ GE419.out))⟩; clear hw HO402 HO406 HO417 BK408 BK409 BK419 HB; have HO402 := n2_; have HO406 := n3_; have HO417 := n5_; have BK408 := n6_; have BK409 := n7_; have BK419 := n8_; have HB := n9_; clear n2_ n3_ n5_ n6_ n7_ n8_ n9_; have hcz42_0 : w41.cell? ⟨gb408, 0, none⟩ = some (.bool t399) := (blk_cell BK408.out 0).trans rfl; have hcz42_1 : w41.cell? ⟨gb408, 1, none⟩ = some (.slice Ao30 t400.length co30) := (blk_cell BK408.out 1).trans rfl; have hfz42_0 := blk_frozen BK408.out 0; have hfz42_1 := blk_frozen BK408.out 1) | ((with_reducible refine gate_callee (f := 17) rfl ?_); refine gl_ (some 19) Tryd.func17 #[.agg #[.bool t399, .slice Ao30 t400.length co30]] ?_; (with_reducible refine (integer_Int_Text.calls k t399 (fun k_ => (k_ ≠ gb408 ∧ (k_ ≠ gb409 ∧ k_ ≠ gb419))) _ _ t400 t420 _ ?side1 ?side2 A6.out).mono ?_); (case side1 => exact HO402.out); (case side2 => exact G_below HG.out (by with_reducible repeat first | exact HB.out | apply below_alloc | apply pw_below_drewN | apply below_drew1 | refine below_set ?_ GE408.out | refine below_set ?_ GE409.out | refine below_set ?_ GE419.out)); rintro e w43 ⟨rfl, hb⟩; refine ⟨_, rfl, ?_⟩; have n3_ := Aside0.mk (Kd.V_below (Kd.V_up HO406.out) hb); have n5_ := Aside0.mk (Kd.V_below (Kd.V_up HO417.out) hb); have n6_ := Aside0.mk (blk_below (blk_up BK408.out) hb); have n7_ := Aside0.mk (blk_below (blk_up BK409.out) hb); have n8_ := Aside0.mk (blk_below (blk_up BK419.out) hb); have n9_ := Aside0.mk (below_step (by with_reducible repeat first | exact HB.out | apply below_alloc | apply pw_below_drewN | apply below_drew1 | refine below_set ?_ GE408.out | refine below_set ?_ GE409.out | refine below_set ?_ GE419.out) hb); (try clear HO402); clear HO406 HO417 BK408 BK409 BK419 HB; have HO406 := n3_; have HO417 := n5_; have BK408 := n6_; have BK409 := n7_; have BK419 := n8_; have HB := n9_; clear n3_ n5_ n6_ n7_ n8_ n9_; (try clear hb); (try clear hb2); (try clear hk); (try clear hi); have hcz44_0 : w43.cell? ⟨gb409, 0, none⟩ = some (.bool t403) := (blk_cell BK409.out 0).trans rfl; have hcz44_1 : w43.cell? ⟨gb409, 1, none⟩ = some (.slice Ao32 t404.length co32) := (blk_cell BK409.out 1).trans rfl; have hfz44_0 := blk_frozen BK409.out 0; have hfz44_1 := blk_frozen BK409.out 1) | (go_at_call 17; (with_reducible refine (integer_Int_Text.calls k t403 (fun k_ => (k_ ≠ gb408 ∧ (k_ ≠ gb409 ∧ k_ ≠ gb419))) _ _ t404 t421 _ ?side1 ?side2 A8.out).mono ?_); (case side1 => exact HO406.out); (case side2 => exact G_below HG.out (by with_reducible repeat first | exact HB.out | apply below_alloc | apply pw_below_drewN | apply below_drew1 | refine below_set ?_ GE408.out | refine below_set ?_ GE409.out | refine below_set ?_ GE419.out)); rintro e w45 ⟨rfl, hb⟩; have n5_ := Aside0.mk (Kd.V_below (Kd.V_up HO417.out) hb); have n6_ := Aside0.mk (blk_below (blk_up BK408.out) hb); have n7_ := Aside0.mk (blk_below (blk_up BK409.out) hb); have n8_ := Aside0.mk (blk_below (blk_up BK419.out) hb); have n9_ := Aside0.mk (below_step (by with_reducible repeat first | exact HB.out | apply below_alloc | apply pw_below_drewN | apply below_drew1 | refine below_set ?_ GE408.out | refine below_set ?_ GE409.out | refine below_set ?_ GE419.out) hb); (try clear HO406); clear HO417 BK408 BK409 BK419 HB; have HO417 := n5_; have BK408 := n6_; have BK409 := n7_; have BK419 := n8_; have HB := n9_; clear n5_ n6_ n7_ n8_ n9_; (try clear hb); (try clear hb2); (try clear hk); (try clear hi); have hcz46_0 : w45.cell? ⟨gb419, 0, none⟩ = some (.bool t414) := (blk_cell BK419.out 0).trans rfl; have hcz46_1 : w45.cell? ⟨gb419, 1, none⟩ = some (.slice Ao40 t415.length co40) := (blk_cell BK419.out 1).trans rfl; have hfz46_0 := blk_frozen BK419.out 0; have hfz46_1 := blk_frozen BK419.out 1) | (go_at_call 17; (with_reducible refine (integer_Int_Text.calls k t414 (fun k_ => (k_ ≠ gb408 ∧ (k_ ≠ gb409 ∧ k_ ≠ gb419))) _ _ t415 t422 _ ?side1 ?side2 A11.out).mono ?_); (case side1 => exact HO417.out); (case side2 => exact G_below HG.out (by with_reducible repeat first | exact HB.out | apply below_alloc | apply pw_below_drewN | apply below_drew1 | refine below_set ?_ GE408.out | refine below_set ?_ GE409.out | refine below_set ?_ GE419.out)); rintro e w47 ⟨rfl, hb⟩; have n6_ := Aside0.mk (blk_below (blk_up BK408.out) hb); have n7_ := Aside0.mk (blk_below (blk_up BK409.out) hb); have n8_ := Aside0.mk (blk_below (blk_up BK419.out) hb); have n9_ := Aside0.mk (below_step (by with_reducible repeat first | exact HB.out | apply below_alloc | apply pw_below_drewN | apply below_drew1 | refine below_set ?_ GE408.out | refine below_set ?_ GE409.out | refine below_set ?_ GE419.out) hb); (try clear HO417); clear BK408 BK409 BK419 HB; have BK408 := n6_; have BK409 := n7_; have BK419 := n8_; have HB := n9_; clear n6_ n7_ n8_ n9_; (try clear hb); (try clear hb2); (try clear hk); (try clear hi)) | (go_at_call 15; (with_reducible refine (integer_From.calls k (-12) t423 t424 _ A14.out).mono ?_); rintro e w48 ⟨v425, rfl, ho0, hb⟩; have n6_ := Aside0.mk (Kd.V_lower (Kd.V_mono (ok' := fun k_ => k_ ≠ gb408 ∧ k_ ≠ gb409 ∧ k_ ≠ gb419) ho0 (fun k_ hk_ => ⟨(Kd.freshB (g := gb408) (o := .cells #[.bool t399, .slice Ao30 t400.length co30] 25 (0, 0)) (blk_up BK408.out) k_ hk_), (Kd.freshB (g := gb409) (o := .cells #[.bool t403, .slice Ao32 t404.length co32] 25 (0, 0)) (blk_up BK409.out) k_ hk_), (Kd.freshB (g := gb419) (o := .cells #[.bool t414, .slice Ao40 t415.length co40] 25 (0, 0)) (blk_up BK419.out) k_ hk_)⟩)) (below_size (by with_reducible repeat first | exact HB.out | apply below_alloc | apply pw_below_drewN | apply below_drew1 | refine below_set ?_ GE408.out | refine below_set ?_ GE409.out | refine below_set ?_ GE419.out))); have n7_ := Aside0.mk (blk_below (blk_up BK408.out) hb); have n8_ := Aside0.mk (blk_below (blk_up BK409.out) hb); have n9_ := Aside0.mk (blk_below (blk_up BK419.out) hb); have n10_ := Aside0.mk (below_step (by with_reducible repeat first | exact HB.out | apply below_alloc | apply pw_below_drewN | apply below_drew1 | refine below_set ?_ GE408.out | refine below_set ?_ GE409.out | refine below_set ?_ GE419.out) hb); clear BK408 BK409 BK419 HB; have HO426 := n6_; have BK408 := n7_; have BK409 := n8_; have BK419 := n9_; have HB := n10_; clear n6_ n7_ n8_ n9_ n10_; (try clear hb); (try clear hb2); (try clear hk); (try clear hi); (try clear ho0)) | (go_at_call 15; (with_reducible refine (integer_From.calls k 18 t427 t428 _ A15.out).mono ?_); rintro e w49 ⟨v429, rfl, ho0, hb⟩; have n6_ := Aside0.mk (Kd.V_below (Kd.V_up HO426.out) hb); have n7_ := Aside0.mk (Kd.V_lower (Kd.V_mono (ok' := fun k_ => k_ ≠ gb408 ∧ k_ ≠ gb409 ∧ k_ ≠ gb419) ho0 (fun k_ hk_ => ⟨(Kd.freshB (g := gb408) (o := .cells #[.bool t399, .slice Ao30 t400.length co30] 25 (0, 0)) (blk_up BK408.out) k_ hk_), (Kd.freshB (g := gb409) (o := .cells #[.bool t403, .slice Ao32 t404.length co32] 25 (0, 0)) (blk_up BK409.out) k_ hk_), (Kd.freshB (g := gb419) (o := .cells #[.bool t414, .slice Ao40 t415.length co40] 25 (0, 0)) (blk_up BK419.out) k_ hk_)⟩)) (below_size (by with_reducible repeat first | exact HB.out | apply below_alloc | apply pw_below_drewN | apply below_drew1 | refine below_set ?_ GE408.out | refine below_set ?_ GE409.out | refine below_set ?_ GE419.out))); have n8_ := Aside0.mk (blk_below (blk_up BK408.out) hb); have n9_ := Aside0.mk (blk_below (blk_up BK409.out) hb); have n10_ := Aside0.mk (blk_below (blk_up BK419.out) hb); have n11_ := Aside0.mk (below_step (by with_reducible repeat first | exact HB.out | apply below_alloc | apply pw_below_drewN | apply below_drew1 | refine below_set ?_ GE408.out | refine below_set ?_ GE409.out | refine below_set ?_ GE419.out) hb); clear HO426 BK408 BK409 BK419 HB; have HO426 := n6_; have HO430 := n7_; have BK408 := n8_; have BK409 := n9_; have BK419 := n10_; have HB := n11_; clear n6_ n7_ n8_ n9_ n10_ n11_; (try clear hb); (try clear hb2); (try clear hk); (try clear hi); (try clear ho0); obtain ⟨Ao50, co50, eo50⟩ := Kd.V_slice HO426.out; subst eo50; obtain ⟨Ao51, co51, eo51⟩ := Kd.V_slice HO430.out; subst eo51) | (go_at_call 29; (with_reducible refine (integer_Gcd.calls k t423 (fun k_ => (k_ ≠ gb408 ∧ (k_ ≠ gb409 ∧ k_ ≠ gb419))) _ _ t424 t427 (fun k_ => (k_ ≠ gb408 ∧ (k_ ≠ gb409 ∧ k_ ≠ gb419))) _ _ t428 t431 t432 _ ?side1 ?side2 A16.out).mono ?_); (case side1 => exact HO426.out); (case side2 => exact HO430.out); rintro e w52 ⟨v433, rfl, ho0, hb⟩; have n8_ := Aside0.mk (Kd.V_lower (Kd.V_mono (ok' := fun k_ => k_ ≠ gb408 ∧ k_ ≠ gb409 ∧ k_ ≠ gb419) ho0 (fun k_ hk_ => ⟨Or.elim hk_ (fun hs_ => Or.elim hs_ (fun hs_ => hs_.1) (fun hs_ => hs_.1)) (fun hn_ => (Kd.freshB (g := gb408) (o := .cells #[.bool t399, .slice Ao30 t400.length co30] 25 (0, 0)) (blk_up BK408.out) k_ hn_)), Or.elim hk_ (fun hs_ => Or.elim hs_ (fun hs_ => hs_.2.1) (fun hs_ => hs_.2.1)) (fun hn_ => (Kd.freshB (g := gb409) (o := .cells #[.bool t403, .slice Ao32 t404.length co32] 25 (0, 0)) (blk_up BK409.out) k_ hn_)), Or.elim hk_ (fun hs_ => Or.elim hs_ (fun hs_ => hs_.2.2) (fun hs_ => hs_.2.2)) (fun hn_ => (Kd.freshB (g := gb419) (o := .cells #[.bool t414, .slice Ao40 t415.length co40] 25 (0, 0)) (blk_up BK419.out) k_ hn_))⟩)) (below_size (by with_reducible repeat first | exact HB.out | apply below_alloc | apply pw_below_drewN | apply below_drew1 | refine below_set ?_ GE408.out | refine below_set ?_ GE409.out | refine below_set ?_ GE419.out))); have n9_ := Aside0.mk (blk_below (blk_up BK408.out) hb); have n10_ := Aside0.mk (blk_below (blk_up BK409.out) hb); have n11_ := Aside0.mk (blk_below (blk_up BK419.out) hb); have n12_ := Aside0.mk (below_step (by with_reducible repeat first | exact HB.out | apply below_alloc | apply pw_below_drewN | apply below_drew1 | refine below_set ?_ GE408.out | refine below_set ?_ GE409.out | refine below_set ?_ GE419.out) hb); (try clear HO426); (try clear HO430); clear BK408 BK409 BK419 HB; have HO434 := n8_; have BK408 := n9_; have BK409 := n10_; have BK419 := n11_; have HB := n12_; clear n8_ n9_ n10_ n11_ n12_; (try clear hb); (try clear hb2); (try clear hk); (try clear hi); (try clear ho0); obtain ⟨Ao53, co53, eo53⟩ := Kd.V_slice HO434.out; subst eo53) | (go_at_call 17; (with_reducible refine (integer_Int_Text.calls k t431 (fun k_ => (k_ ≠ gb408 ∧ (k_ ≠ gb409 ∧ k_ ≠ gb419))) _ _ t432 t435 _ ?side1 ?side2 A17.out).mono ?_); (case side1 => exact HO434.out); (case side2 => exact G_below HG.out (by with_reducible repeat first | exact HB.out | apply below_alloc | apply pw_below_drewN | apply below_drew1 | refine below_set ?_ GE408.out | refine below_set ?_ GE409.out | refine below_set ?_ GE419.out)); rintro e w54 ⟨rfl, hb⟩; have n9_ := Aside0.mk (blk_below (blk_up BK408.out) hb); have n10_ := Aside0.mk (blk_below (blk_up BK409.out) hb); have n11_ := Aside0.mk (blk_below (blk_up BK419.out) hb); have n12_ := Aside0.mk (below_step (by with_reducible repeat first | exact HB.out | apply below_alloc | apply pw_below_drewN | apply below_drew1 | refine below_set ?_ GE408.out | refine below_set ?_ GE409.out | refine below_set ?_ GE419.out) hb); (try clear HO434); clear BK408 BK409 BK419 HB; have BK408 := n9_; have BK409 := n10_; have BK419 := n11_; have HB := n12_; clear n9_ n10_ n11_ n12_; (try clear hb); (try clear hb2); (try clear hk); (try clear hi)) | (go_at_call 15; (with_reducible refine (integer_From.calls k 256 t436 t437 _ A19.out).mono ?_); rintro e w55 ⟨v438, rfl, ho0, hb⟩; have n9_ := Aside0.mk (Kd.V_lower (Kd.V_mono (ok' := fun k_ => k_ ≠ gb408 ∧ k_ ≠ gb409 ∧ k_ ≠ gb419) ho0 (fun k_ hk_ => ⟨(Kd.freshB (g := gb408) (o := .cells #[.bool t399, .slice Ao30 t400.length co30] 25 (0, 0)) (blk_up BK408.out) k_ hk_), (Kd.freshB (g := gb409) (o := .cells #[.bool t403, .slice Ao32 t404.length co32] 25 (0, 0)) (blk_up BK409.out) k_ hk_), (Kd.freshB (g := gb419) (o := .cells #[.bool t414, .slice Ao40 t415.length co40] 25 (0, 0)) (blk_up BK419.out) k_ hk_)⟩)) (below_size (by with_reducible repeat first | exact HB.out | apply below_alloc | apply pw_below_drewN | apply below_drew1 | refine below_set ?_ GE408.out | refine below_set ?_ GE409.out | refine below_set ?_ GE419.out))); have n13_ := Aside0.mk (below_step (by with_reducible repeat first | exact HB.out | apply below_alloc | apply pw_below_drewN | apply below_drew1 | refine below_set ?_ GE408.out | refine below_set ?_ GE409.out | refine below_set ?_ GE419.out) hb); (try clear BK408); (try clear BK409); (try clear BK419); clear HB; have HO439 := n9_; have HB := n13_; clear n9_ n13_; (try clear hb); (try clear hb2); (try clear hk); (try clear hi); (try clear ho0); obtain ⟨Ao56, co56, eo56⟩ := Kd.V_slice HO439.out; subst eo56) | (go_at_call 42; (with_reducible refine (integer_Int_Bits.calls t436 _ _ t437 t440 _ ?side1 ?side2 A20.out).mono ?_); (case side1 => repeat (first | exact (Kd.V_reads' HO439.out).2.2 | (with_reducible refine Kd.C_alloc ?_ _) | (with_reducible refine Kd.C_drewN ?_ _) | (with_reducible refine Kd.C_drew ?_))); (case side2 => exact (Kd.V_reads' HO439.out).2.1); rintro e w57 ⟨rfl, hb⟩; have n13_ := Aside0.mk (below_step (by with_reducible repeat first | exact HB.out | apply below_alloc | apply pw_below_drewN | apply below_drew1 | refine below_set ?_ GE408.out | refine below_set ?_ GE409.out | refine below_set ?_ GE419.out) hb); (try clear HO439); clear HB; have HB := n13_; clear n13_; (try clear hb); (try clear hb2); (try clear hk); (try clear hi)))
  go_ret
  exact ⟨by first | rfl | (simp [errW_none, errW_some] <;> rfl) | (simp [*, errW_none, errW_some] <;> rfl), by with_reducible repeat first | exact HB.out | apply below_alloc | apply pw_below_drewN | apply below_drew1 | refine below_set ?_ GE408.out | refine below_set ?_ GE409.out | refine below_set ?_ GE419.out⟩
 ·
  rw [if_neg c7] at H
  exact absurd H (by simp)
mutual
def dowelref01_Check.j0 : Nat → ByteArray → ByteArray → Bool → Option (Int)
 | 0, _, _, _ => none
 | k + 1, x0, x3, x16 => if x16 = true then (if 1 ≤ (x3.size : Int) then (dowelref01_Check.j1 k x0 (x3.extract 1 x3.size)) else (none)) else (dowelref01_Check.j1 k x0 x3)
def dowelref01_Check.j1 : Nat → ByteArray → ByteArray → Option (Int)
 | 0, _, _ => none
 | k + 1, x0, x3 => if (x3.size : Int) = 0 then (some 14) else (dowelref01_Check.l0 k x0 x3 0)
def dowelref01_Check.l0 : Nat → ByteArray → ByteArray → Int → Option (Int)
 | 0, _, _, _ => none
 | k + 1, x0, x3, x4 => if x4 < (x3.size : Int) then (if 0 ≤ x4 then (if (bt x3 x4) < 48 then (some 14) else (if (bt x3 x4) > 57 then (some 14) else (dowelref01_Check.l0 k x0 x3 (wrap64 (x4 + 1))))) else (none)) else (if 0 < (x3.size : Int) then (if (bt x3 0) = 48 then (if (x3.size : Int) > 1 then (some 3) else (if (x0.size : Int) > 1 then (some 3) else (some 0))) else (some 0)) else (none))
end
def dowelref01_Check.f (k : Nat) (a0 : ByteArray) : Option (Int) := if (a0.size : Int) > 65536 then (some 5) else (if (a0.size : Int) > 0 then (if 0 < (a0.size : Int) then (dowelref01_Check.j0 k a0 a0 ((bt a0 0) == 45)) else (none)) else (dowelref01_Check.j0 k a0 a0 false))
theorem dowelref01_Check.mono_l : ∀ k, (∀ y0 y1 y2, LeO (dowelref01_Check.j0 k y0 y1 y2) (dowelref01_Check.j0 (k + 1) y0 y1 y2)) ∧ (∀ y0 y1, LeO (dowelref01_Check.j1 k y0 y1) (dowelref01_Check.j1 (k + 1) y0 y1)) ∧ (∀ y0 y1 y2, LeO (dowelref01_Check.l0 k y0 y1 y2) (dowelref01_Check.l0 (k + 1) y0 y1 y2))
 | 0 => ⟨fun _ _ _ r h => by simp [dowelref01_Check.j0] at h, fun _ _ r h => by simp [dowelref01_Check.j1] at h, fun _ _ _ r h => by simp [dowelref01_Check.l0] at h⟩
 | k + 1 => by
  obtain ⟨ih0, ih1, ih2⟩ := dowelref01_Check.mono_l k
  refine ⟨?_, ?_, ?_⟩
  ·
   intro y0 y1 y2
   unfold dowelref01_Check.j0
   repeat' with_reducible first | exact ih0 _ _ _ | exact ih1 _ _ | exact ih2 _ _ _ | exact LeO.refl _ | exact LeO.none _ | refine LeO.ite ?_ ?_ | refine LeO.bind ?_ (fun _ => ?_)
  ·
   intro y0 y1
   unfold dowelref01_Check.j1
   repeat' with_reducible first | exact ih0 _ _ _ | exact ih1 _ _ | exact ih2 _ _ _ | exact LeO.refl _ | exact LeO.none _ | refine LeO.ite ?_ ?_ | refine LeO.bind ?_ (fun _ => ?_)
  ·
   intro y0 y1 y2
   unfold dowelref01_Check.l0
   repeat' with_reducible first | exact ih0 _ _ _ | exact ih1 _ _ | exact ih2 _ _ _ | exact LeO.refl _ | exact LeO.none _ | refine LeO.ite ?_ ?_ | refine LeO.bind ?_ (fun _ => ?_)
theorem dowelref01_Check.mono : ∀ a0 k, LeO (dowelref01_Check.f k a0) (dowelref01_Check.f (k + 1) a0) := by
 intro a0 k
 obtain ⟨ih0, ih1, ih2⟩ := dowelref01_Check.mono_l k
 unfold dowelref01_Check.f
 repeat' with_reducible first | exact ih0 _ _ _ | exact ih1 _ _ | exact ih2 _ _ _ | exact LeO.refl _ | exact LeO.none _ | refine LeO.ite ?_ ?_ | refine LeO.bind ?_ (fun _ => ?_)
set_option maxHeartbeats 8000000 in
set_option maxRecDepth 100000 in
theorem dowelref01_Check.calls (k : Nat) (a0 : ByteArray) (r : Int) (w : World) (h : dowelref01_Check.f k a0 = some r) :
  Calls Tryd.prog 22 #[.string a0] w fun e w' => e = .returned (.int .i64 r) ∧ Drawn0 w w' := by
 have H := h
 unfold dowelref01_Check.f at H
 clear h
 by_cases c2 : (a0.size : Int) > 65536
 ·
  rw [if_pos c2] at H
  have c2b0 := decide_eq_true c2
  have c2b1 : decide (65536 < a0.size) = true := decide_eq_true (by omega)
  clear c2
  obtain rfl := Option.some.inj H
  go_enter Tryd.func22, Tryd.ntmps22
  go_wp2
  go_ret
  exact ⟨by first | rfl | (simp; done) | (simp [*]; done) | (simp <;> omega), by repeat (first | exact Drawn0.refl _ | apply Drawn0.step)⟩
 ·
  rw [if_neg c2] at H
  have c2b0 := decide_eq_false c2
  have c2b1 : decide (65536 < a0.size) = false := decide_eq_false (by omega)
  clear c2
  have HC3 := Aside0.mk H
  clear H
  go_enter Tryd.func22, Tryd.ntmps22
  go_upto_region 4 with (fail)
  go_cut [16] (fun v16 wc => ∃ (kq : Nat) (x16_2 : Bool), v16 = .bool x16_2 ∧ Aside0 (dowelref01_Check.j0 kq a0 a0 x16_2 = some r) ∧ Aside0 (kq ≤ k) ∧ Drawn0 w wc)
  case first =>
   have H := HC3.out
   clear HC3
   by_cases c4 : (a0.size : Int) > 0
   ·
    rw [if_pos c4] at H
    have c4b0 := decide_eq_true c4
    have c4b1 : decide (0 < a0.size) = true := decide_eq_true (by omega)
    clear c4
    (first | rw [c4b0] | (simp only [i64_w, i32_w]; rw [c4b0]) | skip)
    obtain ⟨c5, H⟩ := ite_some H
    have c5b0 := decide_eq_true c5
    have c5b1 : decide (0 < a0.size) = true := decide_eq_true (by omega)
    clear c5
    have H' := Aside0.mk H
    clear H
    have p6 : 0 ≤ (0 : Int) := (by omega)
    have q6 : 0 < a0.size := (by have : (0 : Int) < (a0.size : Int) := of_decide_eq_true (by assumption); omega)
    have hx6 : ∀ h : 0 < a0.size, ((a0[0]'h).toNat : Int) = bt a0 0 := bt_at a0 0
    clear p6
    have qi6 : (0 < (a0.size : Int)) = True := eq_true (of_decide_eq_true (by assumption))
    replace q6 := eq_true q6
    go_wp2
    go_meet
    case rel => exact ⟨_, (((bt a0 0) == 45)), (by first | rfl | (simp; done) | (simp [*]; done) | (simp <;> omega)), H', ⟨by first | omega | exact Nat.le_refl _⟩, by repeat (first | exact Drawn0.refl _ | apply Drawn0.step)⟩
   ·
    rw [if_neg c4] at H
    have c4b0 := decide_eq_false c4
    have c4b1 : decide (0 < a0.size) = false := decide_eq_false (by omega)
    clear c4
    (first | rw [c4b0] | (simp only [i64_w, i32_w]; rw [c4b0]) | skip)
    have H' := Aside0.mk H
    clear H
    go_wp2
    go_meet
    case rel => exact ⟨_, (false), (by first | rfl | (simp; done) | (simp [*]; done) | (simp <;> omega)), H', ⟨by first | omega | exact Nat.le_refl _⟩, by repeat (first | exact Drawn0.refl _ | apply Drawn0.step)⟩
  case rest =>
   clear HC3
   obtain ⟨kq, x16_2, rfl, HA, HJ2, ⟨mc2, rfl⟩⟩ := hcut
   cases kq with
   | zero => exact absurd HA.out (by simp [dowelref01_Check.j0])
   | succ kj2 =>
    have H := HA.out
    clear HA
    simp only [dowelref01_Check.j0] at H
    have HC7 := Aside0.mk H
    clear H
    go_upto_if 16 with (fail)
    go_cut [3] (fun v3 wc => ∃ (kq : Nat) (x3_6 : ByteArray), v3 = .string x3_6 ∧ Aside0 (dowelref01_Check.j1 kq a0 x3_6 = some r) ∧ Aside0 (kq ≤ kj2) ∧ Drawn0 w wc)
    case first =>
     have H := HC7.out
     clear HC7
     by_cases c8 : x16_2 = true
     ·
      subst c8
      have H1 : (if 1 ≤ (a0.size : Int) then (dowelref01_Check.j1 kj2 a0 (a0.extract 1 a0.size)) else (none)) = some r := by rw [if_pos rfl] at H; exact H
      clear H
      have H := H1
      clear H1
      obtain ⟨c9, H⟩ := ite_some H
      have c9b0 := eq_true c9
      have c9b1 := decide_eq_true c9
      clear c9
      have H' := Aside0.mk H
      clear H
      go_wp2
      go_meet
      case rel => exact ⟨_, (a0.extract 1 a0.size), (by first | rfl | (simp; done) | (simp [*]; done) | (simp <;> omega)), H', ⟨by have := HJ2.out; first | omega | exact Nat.le_refl _⟩, by repeat (first | exact Drawn0.refl _ | apply Drawn0.step)⟩
     ·
      replace c8 := Bool.eq_false_iff.mpr c8
      subst c8
      have H1 : (dowelref01_Check.j1 kj2 a0 a0) = some r := by rw [if_neg (show ¬ (false = true) by decide)] at H; exact H
      clear H
      have H := H1
      clear H1
      have H' := Aside0.mk H
      clear H
      go_wp2
      go_meet
      case rel => exact ⟨_, (a0), (by first | rfl | (simp; done) | (simp [*]; done) | (simp <;> omega)), H', ⟨by have := HJ2.out; first | omega | exact Nat.le_refl _⟩, by repeat (first | exact Drawn0.refl _ | apply Drawn0.step)⟩
    case rest =>
     clear HC7
     obtain ⟨kq, x3_6, rfl, HA, HJ6, ⟨mc6, rfl⟩⟩ := hcut
     cases kq with
     | zero => exact absurd HA.out (by simp [dowelref01_Check.j1])
     | succ kj6 =>
      have H := HA.out
      clear HA
      simp only [dowelref01_Check.j1] at H
      by_cases c10 : (x3_6.size : Int) = 0
      ·
       rw [if_pos c10] at H
       have c10b0 : ((x3_6.size : Int) == 0) = true := beq_iff_eq.mpr c10
       have c10b1 : ((x3_6.size : Int) != 0) = false := bne_eq_false_iff_eq.mpr c10
       clear c10
       obtain rfl := Option.some.inj H
       go_wp2
       go_ret
       exact ⟨by first | rfl | (simp; done) | (simp [*]; done) | (simp <;> omega), by repeat (first | exact Drawn0.refl _ | apply Drawn0.step)⟩
      ·
       rw [if_neg c10] at H
       have c10b0 : ((x3_6.size : Int) == 0) = false := beq_eq_false_iff_ne.mpr c10
       have c10b1 : ((x3_6.size : Int) != 0) = true := bne_iff_ne.mpr c10
       have H' := Aside0.mk H
       clear H
       go_wp2
       go_loopg [4] kj6 (fun kq v4 w' => ∃ (x4_3 : Int), v4 = .int .i64 x4_3 ∧ Aside0 (dowelref01_Check.l0 kq a0 x3_6 x4_3 = some r) ∧ Aside0 (kq ≤ kj6) ∧ Drawn0 w w')
       case atStart => exact ⟨(0), (by first | rfl | (simp; done) | (simp [*]; done) | (simp <;> omega)), H', ⟨Nat.le_refl _⟩, by repeat (first | exact Drawn0.refl _ | apply Drawn0.step)⟩
       case round =>
        clear H'
        obtain ⟨x4_3, rfl, HA, HK3, ⟨m3, rfl⟩⟩ := hrel
        cases gk with
        | zero => exact absurd HA.out (by simp [dowelref01_Check.l0])
        | succ k3 =>
         have H := HA.out
         clear HA
         simp only [dowelref01_Check.l0] at H
         by_cases c11 : x4_3 < (x3_6.size : Int)
         ·
          rw [if_pos c11] at H
          have c11b0 := decide_eq_true c11
          clear c11
          obtain ⟨c12, H⟩ := ite_some H
          have c12b0 := decide_eq_true c12
          clear c12
          by_cases c14 : (bt x3_6 x4_3) < 48
          ·
           rw [if_pos c14] at H
           have c14b0 := decide_eq_true c14
           clear c14
           obtain rfl := Option.some.inj H
           have p13 : 0 ≤ (x4_3 : Int) := of_decide_eq_true (by assumption)
           have q13 : x4_3 < (x3_6.size : Int) := of_decide_eq_true (by assumption)
           have hx13 := bt_at x3_6 x4_3
           replace p13 := eq_true p13
           replace q13 := eq_true q13
           go_wp2
           go_ret
           exact ⟨by first | rfl | (simp; done) | (simp [*]; done) | (simp <;> omega), by repeat (first | exact Drawn0.refl _ | apply Drawn0.step)⟩
          ·
           rw [if_neg c14] at H
           have c14b0 := decide_eq_false c14
           clear c14
           by_cases c16 : (bt x3_6 x4_3) > 57
           ·
            rw [if_pos c16] at H
            have c16b0 := decide_eq_true c16
            clear c16
            obtain rfl := Option.some.inj H
            have p13 : 0 ≤ (x4_3 : Int) := of_decide_eq_true (by assumption)
            have q13 : x4_3 < (x3_6.size : Int) := of_decide_eq_true (by assumption)
            have hx13 := bt_at x3_6 x4_3
            replace p13 := eq_true p13
            replace q13 := eq_true q13
            have p15 : 0 ≤ (x4_3 : Int) := of_decide_eq_true (by assumption)
            have q15 : x4_3 < (x3_6.size : Int) := of_decide_eq_true (by assumption)
            have hx15 := bt_at x3_6 x4_3
            replace p15 := eq_true p15
            replace q15 := eq_true q15
            go_wp2
            go_ret
            exact ⟨by first | rfl | (simp; done) | (simp [*]; done) | (simp <;> omega), by repeat (first | exact Drawn0.refl _ | apply Drawn0.step)⟩
           ·
            rw [if_neg c16] at H
            have c16b0 := decide_eq_false c16
            clear c16
            have H' := Aside0.mk H
            clear H
            have p13 : 0 ≤ (x4_3 : Int) := of_decide_eq_true (by assumption)
            have q13 : x4_3 < (x3_6.size : Int) := of_decide_eq_true (by assumption)
            have hx13 := bt_at x3_6 x4_3
            replace p13 := eq_true p13
            replace q13 := eq_true q13
            have p15 : 0 ≤ (x4_3 : Int) := of_decide_eq_true (by assumption)
            have q15 : x4_3 < (x3_6.size : Int) := of_decide_eq_true (by assumption)
            have hx15 := bt_at x3_6 x4_3
            replace p15 := eq_true p15
            replace q15 := eq_true q15
            go_wp2
            go_roundg k3
            case measure => have := HJ2.out; have := HJ6.out; have := HK3.out; omega
            case rel => exact ⟨(wrap64 (x4_3 + 1)), (by first | rfl | (simp; done) | (simp [*]; done) | (simp <;> omega)), H', ⟨by have := HJ2.out; have := HJ6.out; have := HK3.out; omega⟩, by repeat (first | exact Drawn0.refl _ | apply Drawn0.step)⟩
         ·
          rw [if_neg c11] at H
          have c11b0 := decide_eq_false c11
          clear c11
          by_cases c17 : 0 < (x3_6.size : Int)
          ·
           rw [if_pos c17] at H
           have c17b0 := decide_eq_true c17
           have c17b1 : decide (0 < x3_6.size) = true := decide_eq_true (by omega)
           clear c17
           by_cases c19 : (bt x3_6 0) = 48
           ·
            rw [if_pos c19] at H
            have c19b0 : ((bt x3_6 0) == 48) = true := beq_iff_eq.mpr c19
            have c19b1 : ((bt x3_6 0) != 48) = false := bne_eq_false_iff_eq.mpr c19
            clear c19
            by_cases c20 : (x3_6.size : Int) > 1
            ·
             rw [if_pos c20] at H
             have c20b0 := decide_eq_true c20
             have c20b1 : decide (1 < x3_6.size) = true := decide_eq_true (by omega)
             clear c20
             obtain rfl := Option.some.inj H
             have p18 : 0 ≤ (0 : Int) := (by omega)
             have q18 : 0 < x3_6.size := (by have : (0 : Int) < (x3_6.size : Int) := of_decide_eq_true (by assumption); omega)
             have hx18 : ∀ h : 0 < x3_6.size, ((x3_6[0]'h).toNat : Int) = bt x3_6 0 := bt_at x3_6 0
             clear p18
             have qi18 : (0 < (x3_6.size : Int)) = True := eq_true (of_decide_eq_true (by assumption))
             replace q18 := eq_true q18
             go_wp2
             go_ret
             exact ⟨by first | rfl | (simp; done) | (simp [*]; done) | (simp <;> omega), by repeat (first | exact Drawn0.refl _ | apply Drawn0.step)⟩
            ·
             rw [if_neg c20] at H
             have c20b0 := decide_eq_false c20
             have c20b1 : decide (1 < x3_6.size) = false := decide_eq_false (by omega)
             clear c20
             by_cases c21 : (a0.size : Int) > 1
             ·
              rw [if_pos c21] at H
              have c21b0 := decide_eq_true c21
              have c21b1 : decide (1 < a0.size) = true := decide_eq_true (by omega)
              clear c21
              obtain rfl := Option.some.inj H
              have p18 : 0 ≤ (0 : Int) := (by omega)
              have q18 : 0 < x3_6.size := (by have : (0 : Int) < (x3_6.size : Int) := of_decide_eq_true (by assumption); omega)
              have hx18 : ∀ h : 0 < x3_6.size, ((x3_6[0]'h).toNat : Int) = bt x3_6 0 := bt_at x3_6 0
              clear p18
              have qi18 : (0 < (x3_6.size : Int)) = True := eq_true (of_decide_eq_true (by assumption))
              replace q18 := eq_true q18
              go_wp2
              go_ret
              exact ⟨by first | rfl | (simp; done) | (simp [*]; done) | (simp <;> omega), by repeat (first | exact Drawn0.refl _ | apply Drawn0.step)⟩
             ·
              rw [if_neg c21] at H
              have c21b0 := decide_eq_false c21
              have c21b1 : decide (1 < a0.size) = false := decide_eq_false (by omega)
              clear c21
              obtain rfl := Option.some.inj H
              have p18 : 0 ≤ (0 : Int) := (by omega)
              have q18 : 0 < x3_6.size := (by have : (0 : Int) < (x3_6.size : Int) := of_decide_eq_true (by assumption); omega)
              have hx18 : ∀ h : 0 < x3_6.size, ((x3_6[0]'h).toNat : Int) = bt x3_6 0 := bt_at x3_6 0
              clear p18
              have qi18 : (0 < (x3_6.size : Int)) = True := eq_true (of_decide_eq_true (by assumption))
              replace q18 := eq_true q18
              go_wp2
              go_ret
              exact ⟨by first | rfl | (simp; done) | (simp [*]; done) | (simp <;> omega), by repeat (first | exact Drawn0.refl _ | apply Drawn0.step)⟩
           ·
            rw [if_neg c19] at H
            have c19b0 : ((bt x3_6 0) == 48) = false := beq_eq_false_iff_ne.mpr c19
            have c19b1 : ((bt x3_6 0) != 48) = true := bne_iff_ne.mpr c19
            obtain rfl := Option.some.inj H
            have p18 : 0 ≤ (0 : Int) := (by omega)
            have q18 : 0 < x3_6.size := (by have : (0 : Int) < (x3_6.size : Int) := of_decide_eq_true (by assumption); omega)
            have hx18 : ∀ h : 0 < x3_6.size, ((x3_6[0]'h).toNat : Int) = bt x3_6 0 := bt_at x3_6 0
            clear p18
            have qi18 : (0 < (x3_6.size : Int)) = True := eq_true (of_decide_eq_true (by assumption))
            replace q18 := eq_true q18
            go_wp2
            go_ret
            exact ⟨by first | rfl | (simp; done) | (simp [*]; done) | (simp <;> omega), by repeat (first | exact Drawn0.refl _ | apply Drawn0.step)⟩
          ·
           rw [if_neg c17] at H
           exact absurd H (by simp)
def dowellaw01_right.f (k : Nat) (a0 : ByteArray) : Option (Bool) := if (a0.size : Int) ≤ 120 then ((dowelref01_Check.f k a0).bind fun t549 => (some (t549 == 0))) else (some false)
theorem dowellaw01_right.mono : ∀ a0 k, LeO (dowellaw01_right.f k a0) (dowellaw01_right.f (k + 1) a0) := by
 intro a0 k
 unfold dowellaw01_right.f
 repeat' with_reducible first | exact dowelref01_Check.mono _ _ | exact LeO.refl _ | exact LeO.none _ | refine LeO.ite ?_ ?_ | refine LeO.bind ?_ (fun _ => ?_)
set_option maxHeartbeats 8000000 in
set_option maxRecDepth 100000 in
theorem dowellaw01_right.calls (k : Nat) (a0 : ByteArray) (r : Bool) (w : World) (h : dowellaw01_right.f k a0 = some r) :
  Calls Tryd.prog 23 #[.string a0] w fun e w' => e = .returned (.bool r) ∧ Drawn0 w w' := by
 have H := h
 unfold dowellaw01_right.f at H
 clear h
 by_cases c2 : (a0.size : Int) ≤ 120
 ·
  rw [if_pos c2] at H
  have c2b0 := decide_eq_true c2
  have c2b1 : decide (a0.size ≤ 120) = true := decide_eq_true (by omega)
  clear c2
  replace H := Option.bind_eq_some_iff.mp H
  obtain ⟨t549, A30, H⟩ := H
  try dsimp only at H
  have A3 := Aside0.mk A30
  clear A30
  obtain rfl := Option.some.inj H
  go_enter Tryd.func23, Tryd.ntmps23
  go_wp2_with (first | (go_at_call 22; (with_reducible refine (dowelref01_Check.calls k a0 t549 _ A3.out).mono ?_); rintro e w' ⟨rfl, ⟨nd, rfl⟩⟩))
  go_ret
  exact ⟨by first | rfl | (simp; done) | (simp [*]; done) | (simp <;> omega), by repeat (first | exact Drawn0.refl _ | apply Drawn0.step)⟩
 ·
  rw [if_neg c2] at H
  have c2b0 := decide_eq_false c2
  have c2b1 : decide (a0.size ≤ 120) = false := decide_eq_false (by omega)
  clear c2
  obtain rfl := Option.some.inj H
  go_enter Tryd.func23, Tryd.ntmps23
  go_wp2
  go_ret
  exact ⟨by first | rfl | (simp; done) | (simp [*]; done) | (simp <;> omega), by repeat (first | exact Drawn0.refl _ | apply Drawn0.step)⟩
def stringslite_HasPrefix.f (a0 : ByteArray) (a1 : ByteArray) : Option (Bool) := if (a0.size : Int) ≥ (a1.size : Int) then (if 0 ≤ (a1.size : Int) then (if (a1.size : Int) ≤ (a0.size : Int) then (some ((a0.extract 0 ((a1.size : Int) : Int).toNat).toList == a1.toList)) else (none)) else (none)) else (some false)
set_option maxHeartbeats 8000000 in
set_option maxRecDepth 100000 in
theorem stringslite_HasPrefix.calls (a0 : ByteArray) (a1 : ByteArray) (r : Bool) (w : World) (h : stringslite_HasPrefix.f a0 a1 = some r) :
  Calls Tryd.prog 86 #[.string a0, .string a1] w fun e w' => e = .returned (.bool r) ∧ Drawn0 w w' := by
 have H := h
 unfold stringslite_HasPrefix.f at H
 clear h
 by_cases c3 : (a0.size : Int) ≥ (a1.size : Int)
 ·
  rw [if_pos c3] at H
  have c3b0 := decide_eq_true c3
  have c3b1 : decide (a1.size ≤ a0.size) = true := decide_eq_true (Int.ofNat_le.mp c3)
  clear c3
  obtain ⟨c4, H⟩ := ite_some H
  have c4b0 := eq_true c4
  have c4b1 := decide_eq_true c4
  clear c4
  obtain ⟨c5, H⟩ := ite_some H
  have c5b0 := eq_true c5
  have c5b1 := decide_eq_true c5
  clear c5
  obtain rfl := Option.some.inj H
  go_enter Tryd.func86, Tryd.ntmps86
  go_wp2
  go_ret
  exact ⟨by first | rfl | (simp; done) | (simp [*]; done) | (simp <;> omega), by repeat (first | exact Drawn0.refl _ | apply Drawn0.step)⟩
 ·
  rw [if_neg c3] at H
  have c3b0 := decide_eq_false c3
  have c3b1 : decide (a1.size ≤ a0.size) = false := decide_eq_false (fun h => c3 (Int.ofNat_le.mpr h))
  clear c3
  obtain rfl := Option.some.inj H
  go_enter Tryd.func86, Tryd.ntmps86
  go_wp2
  go_ret
  exact ⟨by first | rfl | (simp; done) | (simp [*]; done) | (simp <;> omega), by repeat (first | exact Drawn0.refl _ | apply Drawn0.step)⟩
def stringslite_CutPrefix.f (a0 : ByteArray) (a1 : ByteArray) : Option (ByteArray × Bool) := (stringslite_HasPrefix.f a0 a1).bind fun t489 => (if t489 = true then (if 0 ≤ (a1.size : Int) then (if (a1.size : Int) ≤ (a0.size : Int) then (some (a0.extract ((a1.size : Int) : Int).toNat a0.size, true)) else (none)) else (none)) else (some (a0, false)))
set_option maxHeartbeats 8000000 in
set_option maxRecDepth 100000 in
theorem stringslite_CutPrefix.calls (a0 : ByteArray) (a1 : ByteArray) (r1 : ByteArray) (r2 : Bool) (w : World) (h : stringslite_CutPrefix.f a0 a1 = some (r1, r2)) :
  Calls Tryd.prog 75 #[.string a0, .string a1] w fun e w' => e = .returned (.tuple #[.string r1, .bool r2]) ∧ Drawn0 w w' := by
 have H := h
 unfold stringslite_CutPrefix.f at H
 clear h
 replace H := Option.bind_eq_some_iff.mp H
 obtain ⟨t489, A30, H⟩ := H
 try dsimp only at H
 have A3 := Aside0.mk A30
 clear A30
 by_cases c4 : t489 = true
 ·
  subst c4
  have H1 : (if 0 ≤ (a1.size : Int) then (if (a1.size : Int) ≤ (a0.size : Int) then (some (a0.extract ((a1.size : Int) : Int).toNat a0.size, true)) else (none)) else (none)) = some (r1, r2) := by rw [if_pos rfl] at H; exact H
  clear H
  have H := H1
  clear H1
  obtain ⟨c5, H⟩ := ite_some H
  have c5b0 := eq_true c5
  have c5b1 := decide_eq_true c5
  clear c5
  obtain ⟨c6, H⟩ := ite_some H
  have c6b0 := eq_true c6
  have c6b1 := decide_eq_true c6
  clear c6
  simp only [Option.some.injEq, Prod.mk.injEq] at H
  obtain ⟨rfl, rfl⟩ := H
  go_enter Tryd.func75, Tryd.ntmps75
  go_wp2_with (first | ((with_reducible refine gate_callee (f := 86) rfl ?_); refine gl_ (some 8) Tryd.func86 #[.string a0, .string a1] ?_; (with_reducible refine (stringslite_HasPrefix.calls a0 a1 true _ A3.out).mono ?_); rintro e w' ⟨rfl, ⟨nd, rfl⟩⟩; refine ⟨_, rfl, ?_⟩))
  go_ret2
  exact ⟨by first | rfl | (simp; done) | (simp [*]; done) | (simp <;> omega), by repeat (first | exact Drawn0.refl _ | apply Drawn0.step)⟩
 ·
  replace c4 := Bool.eq_false_iff.mpr c4
  subst c4
  have H1 : (some (a0, false)) = some (r1, r2) := by rw [if_neg (show ¬ (false = true) by decide)] at H; exact H
  clear H
  have H := H1
  clear H1
  simp only [Option.some.injEq, Prod.mk.injEq] at H
  obtain ⟨rfl, rfl⟩ := H
  go_enter Tryd.func75, Tryd.ntmps75
  go_wp2_with (first | ((with_reducible refine gate_callee (f := 86) rfl ?_); refine gl_ (some 8) Tryd.func86 #[.string a0, .string a1] ?_; (with_reducible refine (stringslite_HasPrefix.calls a0 a1 false _ A3.out).mono ?_); rintro e w' ⟨rfl, ⟨nd, rfl⟩⟩; refine ⟨_, rfl, ?_⟩))
  go_ret2
  exact ⟨by first | rfl | (simp; done) | (simp [*]; done) | (simp <;> omega), by repeat (first | exact Drawn0.refl _ | apply Drawn0.step)⟩
def strings_CutPrefix.f (a0 : ByteArray) (a1 : ByteArray) : Option (ByteArray × Bool) := (stringslite_CutPrefix.f a0 a1).bind fun bt490 => (some (bt490.1, bt490.2))
set_option maxHeartbeats 8000000 in
set_option maxRecDepth 100000 in
theorem strings_CutPrefix.calls (a0 : ByteArray) (a1 : ByteArray) (r1 : ByteArray) (r2 : Bool) (w : World) (h : strings_CutPrefix.f a0 a1 = some (r1, r2)) :
  Calls Tryd.prog 53 #[.string a0, .string a1] w fun e w' => e = .returned (.tuple #[.string r1, .bool r2]) ∧ Drawn0 w w' := by
 have H := h
 unfold strings_CutPrefix.f at H
 clear h
 replace H := Option.bind_eq_some_iff.mp H
 obtain ⟨⟨t490, t491⟩, A30, H⟩ := H
 try dsimp only at H
 have A3 := Aside0.mk A30
 clear A30
 simp only [Option.some.injEq, Prod.mk.injEq] at H
 obtain ⟨rfl, rfl⟩ := H
 go_enter Tryd.func53, Tryd.ntmps53
 go_wp2_with (first | ((with_reducible refine gate_callee (f := 75) rfl ?_); refine gl_ (some 8) Tryd.func75 #[.string a0, .string a1] ?_; (with_reducible refine (stringslite_CutPrefix.calls a0 a1 t490 t491 _ A3.out).mono ?_); rintro e w' ⟨rfl, ⟨nd, rfl⟩⟩; refine ⟨_, rfl, ?_⟩))
 go_ret2
 exact ⟨by first | rfl | (simp; done) | (simp [*]; done) | (simp <;> omega), by repeat (first | exact Drawn0.refl _ | apply Drawn0.step)⟩
def integer_Parse_1.f (a0 : Int) : Option (Bool) := if a0 < 48 then (some true) else (some (decide (a0 > 57)))
set_option maxHeartbeats 8000000 in
set_option maxRecDepth 100000 in
theorem integer_Parse_1.calls (a0 : Int) (r : Bool) (w : World) (h : integer_Parse_1.f a0 = some r) :
  Calls Tryd.prog 55 #[.int .i32 a0] w fun e w' => e = .returned (.bool r) ∧ Drawn0 w w' := by
 have H := h
 unfold integer_Parse_1.f at H
 clear h
 by_cases c2 : a0 < 48
 ·
  rw [if_pos c2] at H
  have c2b0 := decide_eq_true c2
  clear c2
  obtain rfl := Option.some.inj H
  go_enter Tryd.func55, Tryd.ntmps55
  go_wp2
  go_ret
  exact ⟨by first | rfl | (simp; done) | (simp [*]; done) | (simp <;> omega), by repeat (first | exact Drawn0.refl _ | apply Drawn0.step)⟩
 ·
  rw [if_neg c2] at H
  have c2b0 := decide_eq_false c2
  clear c2
  obtain rfl := Option.some.inj H
  go_enter Tryd.func55, Tryd.ntmps55
  go_wp2
  go_ret
  exact ⟨by first | rfl | (simp; done) | (simp [*]; done) | (simp <;> omega), by repeat (first | exact Drawn0.refl _ | apply Drawn0.step)⟩
def strings_ContainsFunc_Parse1.f (a0 : ByteArray) : Option Bool := some (decide (0 ≤ Lib.idxFunc (fun x => decide (x < 48) || decide (57 < x)) true a0))
theorem strings_ContainsFunc_Parse1.pays (w : World) : PredAt Tryd.prog 55 #[] encR (fun x => decide (x < 48) || decide (57 < x)) w := fun W x _ => by
 refine (integer_Parse_1.calls (x : Int) (decide (x < 48) || decide (57 < x)) W ?_).mono ?_
 ·
  unfold integer_Parse_1.f
  by_cases h1 : x < 48
  ·
   rw [if_pos (by omega)]; simp [h1]
  ·
   rw [if_neg (by omega)]; simp [h1]
   omega
 ·
  rintro e w' ⟨rfl, hd⟩
  exact ⟨rfl, hd.out⟩
theorem strings_ContainsFunc_Parse1.calls (a0 : ByteArray) (r : Bool) (w : World) (h : strings_ContainsFunc_Parse1.f a0 = some r) :
  Calls Tryd.prog 54 #[.string a0, .func (.func 55) #[] #[]] w fun e w' => e = .returned (.bool r) ∧ Below w.heap.size w w' := by
 unfold strings_ContainsFunc_Parse1.f at h
 simp only [Option.some.injEq] at h
 subst h
 exact Tryd.strings_ContainsFunc 55 #[] (enters_of Tryd.func55 (by kernel_rfl) rfl) _ a0 w (strings_ContainsFunc_Parse1.pays w)
def strconv_ParseUint_56.f (a0 : ByteArray) (a1 a2 : Int) : Option (Int × Option Int) :=
 if a1 = 10 ∧ a2 = 32 ∧ a0.size ≤ 9223372036854775806 then (match Lib.parseUintB 32 a0.data.toList with | .ok u => some ((u : Int), none) | _ => none) else none
theorem strconv_ParseUint_56.calls (a0 : ByteArray) (a1 a2 : Int) (r1 : Int) (r2 : Option Int) (w : World) (h : strconv_ParseUint_56.f a0 a1 a2 = some (r1, r2)) :
  Calls Tryd.prog 56 #[.string a0, .int .i64 a1, .int .i64 a2] w fun e w' => e = .returned (.tuple #[.int .u64 r1, errW r2]) ∧ Below w.heap.size w w' := by
 unfold strconv_ParseUint_56.f at h
 split at h
 ·
  rename_i hb
  obtain ⟨rfl, rfl, hs⟩ := hb
  split at h
  ·
   rename_i u hu
   simp only [Option.some.injEq, Prod.mk.injEq] at h
   obtain ⟨rfl, rfl⟩ := h
   refine (Tryd.strconv_ParseUint_10_at32_ok a0 hs u hu w).mono ?_
   rintro e w' ⟨rfl, rfl | rfl⟩
   ·
    exact ⟨rfl, Below.refl _ _⟩
   ·
    exact ⟨rfl, Lib.bytesWorld_below _ _ _⟩
  ·
   cases h
 ·
  cases h
def integer_scale.l0 : Nat → List Int → Int → List Int → Int → List Int → Int → Int → Option (List Int)
 | 0, _, _, _, _, _, _, _ => none
 | k + 1, x0, x1, x7, x8, x17, x18, x19 => if x19 < x18 then (if 0 ≤ x19 then (if x19 < (x17.length : Int) then (if x19 < (x7.length : Int) then (integer_scale.l0 k x0 x1 (x7.set (x19 : Int).toNat ((IntKind.u64.wrap (x8 + (IntKind.u64.wrap ((IntKind.u64.wrap (rd x17 x19)) * (IntKind.u64.wrap (x1)))))) % 4294967296)) ((IntKind.u64.wrap (x8 + (IntKind.u64.wrap ((IntKind.u64.wrap (rd x17 x19)) * (IntKind.u64.wrap (x1)))))) / 4294967296) x17 x18 (wrap64 (x19 + 1))) else (none)) else (none)) else (none)) else (if 0 ≤ (x0.length : Int) then (if (x0.length : Int) < (x7.length : Int) then ((integer_trim.f k (x7.set ((x0.length : Int) : Int).toNat ((x8) % 4294967296))).bind fun t513 => (some t513)) else (none)) else (none))
def integer_scale.f (k : Nat) (l0 : List Int) (a1 : Int) (a2 : Int) : Option (List Int) := if 0 ≤ (wrap64 ((l0.length : Int) + 1)) then (if (wrap64 ((l0.length : Int) + 1) : Int).toNat ≤ 70368744177664 then (integer_scale.l0 k l0 a1 (List.replicate (wrap64 ((l0.length : Int) + 1) : Int).toNat 0) (IntKind.u64.wrap (a2)) l0 (l0.length : Int) 0) else (none)) else (none)
theorem integer_scale.mono_l : ∀ k, (∀ y0 y1 y2 y3 y4 y5 y6, LeO (integer_scale.l0 k y0 y1 y2 y3 y4 y5 y6) (integer_scale.l0 (k + 1) y0 y1 y2 y3 y4 y5 y6))
 | 0 => fun _ _ _ _ _ _ _ r h => by simp [integer_scale.l0] at h
 | k + 1 => by
  have ih0 := integer_scale.mono_l k
  ·
   intro y0 y1 y2 y3 y4 y5 y6
   unfold integer_scale.l0
   repeat' with_reducible first | exact ih0 _ _ _ _ _ _ _ | exact integer_trim.mono _ _ | exact LeO.refl _ | exact LeO.none _ | refine LeO.ite ?_ ?_ | refine LeO.bind ?_ (fun _ => ?_)
theorem integer_scale.mono : ∀ a0 a1 a2 k, LeO (integer_scale.f k a0 a1 a2) (integer_scale.f (k + 1) a0 a1 a2) := by
 intro a0 a1 a2 k
 have ih0 := integer_scale.mono_l k
 unfold integer_scale.f
 repeat' with_reducible first | exact ih0 _ _ _ _ _ _ _ | exact integer_trim.mono _ _ | exact LeO.refl _ | exact LeO.none _ | refine LeO.ite ?_ ?_ | refine LeO.bind ?_ (fun _ => ?_)
set_option maxHeartbeats 8000000 in
set_option maxRecDepth 100000 in
theorem integer_scale.calls (k : Nat) (A0 : Option Addr) (c0 : Nat) (l0 : List Int) (a1 : Int) (a2 : Int) (r : List Int) (w : World) (hr0 : Kd.C (Kd.int .u32) w A0 l0.length l0) (hc0 : l0.length ≤ c0) (h : integer_scale.f k l0 a1 a2 = some r) :
  Calls Tryd.prog 57 #[.slice A0 l0.length c0, .int .u32 a1, .int .u32 a2] w fun e w' => ∃ v0_ : Value, e = .returned (v0_) ∧ Kd.V (Kd.int .u32) 60 w' w.heap.size (fun k_ => (w.heap.size ≤ k_)) v0_ r ∧ Below w.heap.size w w' := by
 have HR0 := Aside0.mk hr0
 have HC0 := Aside0.mk hc0
 clear hr0 hc0
 have HB := Aside0.mk (Below.refl w.heap.size w)
 have H := h
 unfold integer_scale.f at H
 clear h
 obtain ⟨ji4, hji4⟩ : ∃ j_ : Int, (wrap64 ((l0.length : Int) + 1)) = j_ := ⟨_, rfl⟩
 replace H : (if 0 ≤ (ji4) then (if (ji4 : Int).toNat ≤ 70368744177664 then (integer_scale.l0 k l0 a1 (List.replicate (ji4 : Int).toNat 0) (IntKind.u64.wrap (a2)) l0 (l0.length : Int) 0) else (none)) else (none)) = some r := by first | (rw [hji4] at H; exact H) | (simp only [hji4] at H ⊢; exact H)
 have hji4w : (IntKind.i64.wrap ((l0.length : Int) + 1)) = ji4 := (i64_w _).trans hji4
 by_cases c5 : 0 ≤ (ji4)
 ·
  rw [if_pos c5] at H
  have c5b0 := eq_true c5
  have c5b1 := decide_eq_true c5
  clear c5
  obtain ⟨c6, H⟩ := ite_some H
  have c6b0 := eq_true c6
  have c6b1 := decide_eq_true c6
  clear c6
  obtain ⟨y507, hy507⟩ : ∃ y_ : List Int, y_ = (List.replicate (ji4 : Int).toNat 0) := ⟨_, rfl⟩
  replace H : (integer_scale.l0 k l0 a1 y507 (IntKind.u64.wrap (a2)) l0 (l0.length : Int) 0) = some r := by first | (rw [hy507]; exact H) | exact H
  have Ny507 := Aside0.mk hy507
  clear hy507
  have H' := Aside0.mk H
  clear H
  go_enter Tryd.func57, Tryd.ntmps57
  go_wp2_with (first | ((with_reducible refine gate_dst (N := 14) rfl ?_); refine Kd.R_make (Kd.int .u32) _ 60 rfl (N := 14) rfl 23 _ _ rfl ji4 rfl rfl Tryd.underlying23 (.int .u32 0) 4 info60 rfl (by decide) (by omega) 0 (ok := fun _ => True) (okp := fun _ => True) rfl (fun _ hk => hk) trivial (of_decide_eq_true (by assumption)) (Nat.le_trans (Nat.mul_le_mul_right _ (of_decide_eq_true (by assumption) : ji4.toNat ≤ 70368744177664)) (by omega)) (Below.refl _ _) (Nat.le_refl _) ?_; intro v508 w7 ho8 hb hg_ hnew_; clear hg_ hnew_; (first | rw [← Ny507.out] at ho8 | (simp only [Int.reduceToNat] at ho8; rw [← Ny507.out] at ho8)); have HO509 := Aside0.mk (Kd.R_lower (Kd.R_newM (M := fun k_ => (w.heap.size ≤ k_)) ho8 (below_size (below_up HB.out)) (fun k_ h_ => h_)) (below_size (below_up HB.out))); replace HB := Aside0.mk (below_step (below_up HB.out) hb); clear hb ho8))
  go_loopg [8, 19] k (fun kq v8 v19 w' => ∃ (x7_1 : List Int) (x8_1 : Int) (x19_1 : Int), v8 = .int .u64 x8_1 ∧ v19 = .int .i64 x19_1 ∧ Aside0 (integer_scale.l0 kq l0 a1 x7_1 x8_1 l0 (l0.length : Int) x19_1 = some r) ∧ Aside0 (kq ≤ k) ∧ Aside0 (Kd.R (Kd.int .u32) 60 w' w.heap.size (fun k_ => (w.heap.size ≤ k_)) v508 x7_1) ∧ Aside0 (Below w.heap.size w w'))
  case atStart => exact ⟨(y507), (IntKind.u64.wrap (a2)), (0), (by first | rfl | (simp; done) | (simp [*]; done) | (simp <;> omega)), (by first | rfl | (simp; done) | (simp [*]; done) | (simp <;> omega)), H', ⟨Nat.le_refl _⟩, ⟨Kd.R_up (Kd.R_mono HO509.out (fun _ hk => hk.1))⟩, ⟨below_up HB.out⟩⟩
  case round =>
   clear H'
   obtain ⟨x7_1, x8_1, x19_1, rfl, rfl, HA, HK1, HO_7, HB⟩ := hrel
   cases gk with
   | zero => exact absurd HA.out (by simp [integer_scale.l0])
   | succ k1 =>
    have H := HA.out
    clear HA
    simp only [integer_scale.l0] at H
    by_cases c9 : x19_1 < (l0.length : Int)
    ·
     rw [if_pos c9] at H
     have c9b0 := decide_eq_true c9
     clear c9
     obtain ⟨c10, H⟩ := ite_some H
     have c10b0 := decide_eq_true c10
     clear c10
     obtain ⟨c11, H⟩ := ite_some H
     have c11b0 := decide_eq_true c11
     clear c11
     obtain ⟨c12, H⟩ := ite_some H
     have c12b0 := decide_eq_true c12
     clear c12
     obtain ⟨y511, hy511⟩ : ∃ y_ : List Int, y_ = (x7_1.set (x19_1 : Int).toNat ((IntKind.u64.wrap (x8_1 + (IntKind.u64.wrap ((IntKind.u64.wrap (rd l0 x19_1)) * (IntKind.u64.wrap (a1)))))) % 4294967296)) := ⟨_, rfl⟩
     replace H : (integer_scale.l0 k1 l0 a1 y511 ((IntKind.u64.wrap (x8_1 + (IntKind.u64.wrap ((IntKind.u64.wrap (rd l0 x19_1)) * (IntKind.u64.wrap (a1)))))) / 4294967296) l0 (l0.length : Int) (wrap64 (x19_1 + 1))) = some r := by first | (rw [hy511]; exact H) | exact H
     have Ny511 := Aside0.mk hy511
     clear hy511
     have H' := Aside0.mk H
     clear H
     have p510 : 0 ≤ (x19_1 : Int) := of_decide_eq_true (by assumption)
     have q510 : x19_1 < (l0.length : Int) := of_decide_eq_true (by assumption)
     obtain ⟨ad510, e510, hx510_0⟩ := Kd.at_int HR0.out x19_1 p510 q510
     cases e510
     replace hx510_0 := (HB.out.cell (World.block_lt_of_cell? w _ hx510_0)).trans hx510_0
     replace p510 := eq_true p510
     replace q510 := eq_true q510
     have p13 : 0 ≤ (x19_1 : Int) := of_decide_eq_true (by assumption)
     have q13 : (x19_1 : Int) < ((x7_1.length : Int) : Int) := of_decide_eq_true (by assumption)
     obtain ⟨go13, co13, eo13, gb13, gl13, cl13, HG13⟩ := Kd.R_form HO_7.out (by omega)
     (first | cases eo13 | (injection eo13 with ea_ en_ ec_; (first | subst ea_ | (injection ea_ with ea_; subst ea_)); subst ec_; clear en_))
     have GB13 := Aside0.mk gb13
     have GG13 := Aside0.mk HG13
     clear gb13 gl13 HG13
     obtain ⟨hx13_0, hf13_0⟩ := Kd.R_celln 0 HO_7.out (x19_1 : Int) p13 q13
     replace p13 := eq_true p13
     replace q13 := eq_true q13
     have HP14 := Kd.R_putg HO_7.out (x19_1 : Int) ((IntKind.u64.wrap (x8_1 + (IntKind.u64.wrap ((IntKind.u64.wrap (rd l0 x19_1)) * (IntKind.u64.wrap (a1)))))) % 4294967296)
     go_wp2_with (first | ((with_reducible refine gate_store (t := 60) (p := 35) rfl ?_); refine store_event (t := 60) (p := 35) (v := ?vo_w15) (w1 := (wr.setCell ⟨go13, (x19_1 : Int).toNat, none⟩ (.int .u32 ((IntKind.u64.wrap (x8_1 + (IntKind.u64.wrap ((IntKind.u64.wrap (rd l0 x19_1)) * (IntKind.u64.wrap (a1)))))) % 4294967296)))) ?hg ?ho ?hn ?hr ?_; (case ho => rfl); (case hg => rfl); (case hn => rfl); (case hr => first | (go_simp; done) | (go_simp; rfl)); intro w15 hw; have hg : wr.grownBy w15 (some go13) := (by rw [hw]; exact HP14.2); have hp_ : Kd.R (Kd.int .u32) 60 w15 w.heap.size (fun k_ => (w.heap.size ≤ k_)) (.slice (some ⟨go13, 0, none⟩) x7_1.length co13) y511 := (by rw [hw, Ny511.out]; exact HP14.1); clear HP14; replace HO_7 := Aside0.mk (hp_); replace HB := Aside0.mk ((by rw [hw]; exact below_set (HB.out) GB13.out : Below w.heap.size w w15)); clear hg hw hp_))
     go_roundg k1
     case measure => have := HK1.out; omega
     case rel => exact ⟨(y511), ((IntKind.u64.wrap (x8_1 + (IntKind.u64.wrap ((IntKind.u64.wrap (rd l0 x19_1)) * (IntKind.u64.wrap (a1)))))) / 4294967296), (wrap64 (x19_1 + 1)), (by first | rfl | (simp; done) | (simp [*]; done) | (simp <;> omega)), (by first | rfl | (simp; done) | (simp [*]; done) | (simp <;> omega)), H', ⟨by have := HK1.out; omega⟩, ⟨Kd.R_up HO_7.out⟩, ⟨below_up HB.out⟩⟩
    ·
     rw [if_neg c9] at H
     have c9b0 := decide_eq_false c9
     clear c9
     obtain ⟨c16, H⟩ := ite_some H
     have c16b0 := decide_eq_true c16
     have c16b1 : decide (0 ≤ l0.length) = true := decide_eq_true (by omega)
     clear c16
     obtain ⟨c17, H⟩ := ite_some H
     have c17b0 := decide_eq_true c17
     have c17b1 : decide (l0.length < x7_1.length) = true := decide_eq_true (Int.ofNat_lt.mp c17)
     clear c17
     obtain ⟨y512, hy512⟩ : ∃ y_ : List Int, y_ = (x7_1.set ((l0.length : Int) : Int).toNat ((x8_1) % 4294967296)) := ⟨_, rfl⟩
     replace H : ((integer_trim.f k1 y512).bind fun t513 => (some t513)) = some r := by first | (rw [hy512]; exact H) | exact H
     have Ny512 := Aside0.mk hy512
     clear hy512
     replace H := Option.bind_eq_some_iff.mp H
     obtain ⟨t513, A190, H⟩ := H
     try dsimp only at H
     have A19 := Aside0.mk A190
     clear A190
     obtain rfl := Option.some.inj H
     have p18 : 0 ≤ ((l0.length : Int) : Int) := of_decide_eq_true (by assumption)
     have q18 : ((l0.length : Int) : Int) < ((x7_1.length : Int) : Int) := of_decide_eq_true (by assumption)
     obtain ⟨go18, co18, eo18, gb18, gl18, cl18, HG18⟩ := Kd.R_form HO_7.out (by omega)
     (first | cases eo18 | (injection eo18 with ea_ en_ ec_; (first | subst ea_ | (injection ea_ with ea_; subst ea_)); subst ec_; clear en_))
     have GB18 := Aside0.mk gb18
     have GG18 := Aside0.mk HG18
     clear gb18 gl18 HG18
     obtain ⟨hx18_0, hf18_0⟩ := Kd.R_celln 0 HO_7.out ((l0.length : Int) : Int) p18 q18
     (try simp only [Go.IntWalk.toNatUp] at hx18_0 hf18_0)
     replace p18 := eq_true p18
     replace q18 := eq_true q18
     have HP20 := Kd.R_putg HO_7.out ((l0.length : Int) : Int) ((x8_1) % 4294967296)
     go_wp2_with (first | ((with_reducible refine gate_store (t := 60) (p := 44) rfl ?_); refine store_event (t := 60) (p := 44) (v := ?vo_w21) (w1 := (wr.setCell ⟨go18, ((l0.length : Int) : Int).toNat, none⟩ (.int .u32 ((x8_1) % 4294967296)))) ?hg ?ho ?hn ?hr ?_; (case ho => rfl); (case hg => rfl); (case hn => rfl); (case hr => first | (go_simp; done) | (go_simp; rfl)); intro w21 hw; have hg : wr.grownBy w21 (some go18) := (by rw [hw]; exact HP20.2); have hp_ : Kd.R (Kd.int .u32) 60 w21 w.heap.size (fun k_ => (w.heap.size ≤ k_)) (.slice (some ⟨go18, 0, none⟩) x7_1.length co18) y512 := (by rw [hw, Ny512.out]; exact HP20.1); clear HP20; replace HO_7 := Aside0.mk (hp_); replace HB := Aside0.mk ((by rw [hw]; exact below_set (HB.out) GB18.out : Below w.heap.size w w21)); clear hg hw hp_) | ((with_reducible refine gate_callee (f := 67) rfl ?_); refine goesL_ (some 46) rfl rfl Tryd.func67 (by kernel_rfl) rfl #[.slice (some ⟨go18, 0, none⟩) y512.length co18] rfl (by (try simp only [List.map_toArray, List.map_cons, List.map_nil]); first | done | (rw [show y512.length = x7_1.length from (Kd.R_reads' HO_7.out).1.symm] <;> rfl) | rfl | (simp only [List.length_drop, List.length_take]; rfl)) ?_; (with_reducible refine (integer_trim.calls k1 (fun k_ => some k_ = (.slice (some ⟨go18, 0, none⟩) x7_1.length co18 : Value).ownBlock) _ _ y512 t513 _ ?side1 A19.out).mono ?_); (case side1 => rw [show y512.length = x7_1.length from (Kd.R_reads' HO_7.out).1.symm]; exact Kd.R_V (Kd.R_tight rfl (HO_7.out))); rintro e w22 ⟨v514, rfl, ho0, hb⟩; refine ⟨_, rfl, ?_⟩; have n1_ := Aside0.mk (Kd.V_lower (Kd.V_mono (ok' := fun k_ => (w.heap.size ≤ k_)) ho0 (fun k_ hk_ => Or.elim hk_ (fun hs_ => ((HO_7.out).1 k_ hs_.symm)) (fun hn_ => (Nat.le_trans (below_size (below_up HB.out)) hn_)))) (below_size (below_up HB.out))); have n2_ := Aside0.mk (below_step (below_up HB.out) hb); (try clear HO_7); clear HB; have HO515 := n1_; have HB := n2_; clear n1_ n2_; (try clear hb); (try clear hb2); (try clear hk); (try clear hi); (try clear ho0)))
     go_ret
     exact ⟨_, by first | rfl | (simp [errW_none, errW_some] <;> rfl) | (simp only [← hji4]; first | rfl | (simp [errW_none, errW_some] <;> rfl)) | (simp [*, errW_none, errW_some] <;> rfl), Kd.V_up HO515.out, below_up HB.out⟩
 ·
  rw [if_neg c5] at H
  exact absurd H (by simp)
mutual
def integer_Parse.j0 : Nat → ByteArray → Bool → Bool → Option (Bool × List Int × Int)
 | 0, _, _, _ => none
 | k + 1, x4, x5, x25 => if x25 = true then (some (false, ([] : List Int), 14)) else (if 0 < (x4.size : Int) then (if (bt x4 0) = 48 then (if (x4.size : Int) > 1 then (integer_Parse.j1 k x4 x5 true) else (integer_Parse.j1 k x4 x5 x5)) else (integer_Parse.j1 k x4 x5 false)) else (none))
def integer_Parse.j1 : Nat → ByteArray → Bool → Bool → Option (Bool × List Int × Int)
 | 0, _, _, _ => none
 | k + 1, x4, x5, x37 => if x37 = true then (some (false, ([] : List Int), 3)) else (integer_Parse.l0 k x4 x5 ([] : List Int))
def integer_Parse.l0 : Nat → ByteArray → Bool → List Int → Option (Bool × List Int × Int)
 | 0, _, _, _ => none
 | k + 1, x4, x5, x6 => if (x4.size : Int) > 0 then (integer_Parse.l1 k x4 x5 x6 (wrap64 ((Int.tmod (wrap64 ((x4.size : Int) - 1)) 9) + 1)) 1 (wrap64 ((Int.tmod (wrap64 ((x4.size : Int) - 1)) 9) + 1)) 0) else ((integer_signed.f k x5 x6).bind fun bt520 => (some (bt520.1, bt520.2, 0)))
def integer_Parse.l1 : Nat → ByteArray → Bool → List Int → Int → Int → Int → Int → Option (Bool × List Int × Int)
 | 0, _, _, _, _, _, _, _ => none
 | k + 1, x4, x5, x6, x7, x8, x47, x48 => if x48 < x47 then (integer_Parse.l1 k x4 x5 x6 x7 ((x8 * 10) % 4294967296) x47 (wrap64 (x48 + 1))) else (if 0 ≤ x7 then (if x7 ≤ (x4.size : Int) then ((strconv_ParseUint_56.f (x4.extract 0 (x7 : Int).toNat) 10 32).bind fun bt524 => ((integer_scale.f k x6 x8 ((bt524.1) % 4294967296)).bind fun t526 => (integer_Parse.l0 k (x4.extract (x7 : Int).toNat x4.size) x5 t526))) else (none)) else (none))
end
def integer_Parse.f (k : Nat) (a0 : ByteArray) : Option (Bool × List Int × Int) := if (a0.size : Int) > 65536 then (some (false, ([] : List Int), 5)) else ((strings_CutPrefix.f a0 (⟨#[45]⟩ : ByteArray)).bind fun bt517 => (if bt517.1.toList = ([] : List UInt8) then (integer_Parse.j0 k bt517.1 bt517.2 true) else ((strings_ContainsFunc_Parse1.f bt517.1).bind fun t519 => (integer_Parse.j0 k bt517.1 bt517.2 t519))))
theorem integer_Parse.mono_l : ∀ k, (∀ y0 y1 y2, LeO (integer_Parse.j0 k y0 y1 y2) (integer_Parse.j0 (k + 1) y0 y1 y2)) ∧ (∀ y0 y1 y2, LeO (integer_Parse.j1 k y0 y1 y2) (integer_Parse.j1 (k + 1) y0 y1 y2)) ∧ (∀ y0 y1 y2, LeO (integer_Parse.l0 k y0 y1 y2) (integer_Parse.l0 (k + 1) y0 y1 y2)) ∧ (∀ y0 y1 y2 y3 y4 y5 y6, LeO (integer_Parse.l1 k y0 y1 y2 y3 y4 y5 y6) (integer_Parse.l1 (k + 1) y0 y1 y2 y3 y4 y5 y6))
 | 0 => ⟨fun _ _ _ r h => by simp [integer_Parse.j0] at h, fun _ _ _ r h => by simp [integer_Parse.j1] at h, fun _ _ _ r h => by simp [integer_Parse.l0] at h, fun _ _ _ _ _ _ _ r h => by simp [integer_Parse.l1] at h⟩
 | k + 1 => by
  obtain ⟨ih0, ih1, ih2, ih3⟩ := integer_Parse.mono_l k
  refine ⟨?_, ?_, ?_, ?_⟩
  ·
   intro y0 y1 y2
   unfold integer_Parse.j0
   repeat' with_reducible first | exact ih0 _ _ _ | exact ih1 _ _ _ | exact ih2 _ _ _ | exact ih3 _ _ _ _ _ _ _ | exact integer_scale.mono _ _ _ _ | exact integer_signed.mono _ _ _ | exact LeO.refl _ | exact LeO.none _ | refine LeO.ite ?_ ?_ | refine LeO.bind ?_ (fun _ => ?_)
  ·
   intro y0 y1 y2
   unfold integer_Parse.j1
   repeat' with_reducible first | exact ih0 _ _ _ | exact ih1 _ _ _ | exact ih2 _ _ _ | exact ih3 _ _ _ _ _ _ _ | exact integer_scale.mono _ _ _ _ | exact integer_signed.mono _ _ _ | exact LeO.refl _ | exact LeO.none _ | refine LeO.ite ?_ ?_ | refine LeO.bind ?_ (fun _ => ?_)
  ·
   intro y0 y1 y2
   unfold integer_Parse.l0
   repeat' with_reducible first | exact ih0 _ _ _ | exact ih1 _ _ _ | exact ih2 _ _ _ | exact ih3 _ _ _ _ _ _ _ | exact integer_scale.mono _ _ _ _ | exact integer_signed.mono _ _ _ | exact LeO.refl _ | exact LeO.none _ | refine LeO.ite ?_ ?_ | refine LeO.bind ?_ (fun _ => ?_)
  ·
   intro y0 y1 y2 y3 y4 y5 y6
   unfold integer_Parse.l1
   repeat' with_reducible first | exact ih0 _ _ _ | exact ih1 _ _ _ | exact ih2 _ _ _ | exact ih3 _ _ _ _ _ _ _ | exact integer_scale.mono _ _ _ _ | exact integer_signed.mono _ _ _ | exact LeO.refl _ | exact LeO.none _ | refine LeO.ite ?_ ?_ | refine LeO.bind ?_ (fun _ => ?_)
theorem integer_Parse.mono : ∀ a0 k, LeO (integer_Parse.f k a0) (integer_Parse.f (k + 1) a0) := by
 intro a0 k
 obtain ⟨ih0, ih1, ih2, ih3⟩ := integer_Parse.mono_l k
 unfold integer_Parse.f
 repeat' with_reducible first | exact ih0 _ _ _ | exact ih1 _ _ _ | exact ih2 _ _ _ | exact ih3 _ _ _ _ _ _ _ | exact integer_scale.mono _ _ _ _ | exact integer_signed.mono _ _ _ | exact LeO.refl _ | exact LeO.none _ | refine LeO.ite ?_ ?_ | refine LeO.bind ?_ (fun _ => ?_)
set_option maxHeartbeats 8000000 in
set_option maxRecDepth 100000 in
theorem integer_Parse.calls (k : Nat) (a0 : ByteArray) (r1 : Bool) (r2 : List Int) (r3 : Int) (w : World) (h : integer_Parse.f k a0 = some (r1, r2, r3)) :
  Calls Tryd.prog 21 #[.string a0] w fun e w' => ∃ v1_ : Value, e = .returned (.tuple #[.agg #[.bool r1, v1_], .int .i64 r3]) ∧ Kd.V (Kd.int .u32) 60 w' w.heap.size (fun k_ => (w.heap.size ≤ k_)) v1_ r2 ∧ Below w.heap.size w w' := by
 have hu25 := Tryd.underlying25
 have HB := Aside0.mk (Below.refl w.heap.size w)
 have H := h
 unfold integer_Parse.f at H
 clear h
 by_cases c2 : (a0.size : Int) > 65536
 ·
  rw [if_pos c2] at H
  have c2b0 := decide_eq_true c2
  have c2b1 : decide (65536 < a0.size) = true := decide_eq_true (by omega)
  clear c2
  simp only [Option.some.injEq, Prod.mk.injEq] at H
  obtain ⟨rfl, rfl, rfl⟩ := H
  go_enter Tryd.func21, Tryd.ntmps21
  go_wp2_with (first | ((with_reducible refine gate_dst (N := 2) rfl ?_); (try (refine gate_guard (by rfl) ?_; dsimp only)); refine box_event ?hg (N := 2) ?hd (cs := #[.bool false, .slice none 0 0]) (t := 25) ?hr ?_; (case hd => rfl); (case hg => rfl); (case hr => first | (go_simp; done) | (go_simp; rfl)); intro gb516 hg w3 hbox hb; have BK516 := Aside0.mk (hbox); have GE516 := Aside0.mk ((size_up hg HB.out : w.heap.size ≤ gb516)); replace HB := Aside0.mk (below_step (below_up HB.out) hb); clear hb hbox hg; have hcz4_0 : w3.cell? ⟨gb516, 0, none⟩ = some (.bool false) := (blk_cell BK516.out 0).trans rfl; have hcz4_1 : w3.cell? ⟨gb516, 1, none⟩ = some (.slice none 0 0) := (blk_cell BK516.out 1).trans rfl; have hfz4_0 := blk_frozen BK516.out 0; have hfz4_1 := blk_frozen BK516.out 1))
  refine bodyPost_ret (results_ct rfl _ _ gb516 25 #[.bool false, .slice none 0 0] (0, 0) _ rfl (by refine blk_ups ?_; refine blk_put (cs := #[.bool false, .slice none 0 0]) ?_ 1 _ rfl; refine blk_ups ?_; refine blk_put (cs := #[.bool false, .slice none 0 0]) ?_ 0 _ rfl; exact blk_up BK516.out) Tryd.underlying25 rfl (by kernel_rfl)) rfl ?_
  exact ⟨_, by first | rfl | (simp [errW_none, errW_some] <;> rfl) | (simp [*, errW_none, errW_some] <;> rfl), by first | exact Kd.R_nil _ _ _ _ _ | exact Kd.N_nil _ _ _ _ _ | exact Kd.V_nil _ _ _ _ _ | exact Kd.Q_nil _ _ _ _ _ | exact Kd.S_nil _ _ _ _ _, by with_reducible repeat first | exact HB.out | apply below_alloc | apply pw_below_drewN | apply below_drew1 | refine below_set ?_ GE516.out⟩
 ·
  rw [if_neg c2] at H
  have c2b0 := decide_eq_false c2
  have c2b1 : decide (65536 < a0.size) = false := decide_eq_false (by omega)
  clear c2
  replace H := Option.bind_eq_some_iff.mp H
  obtain ⟨⟨t517, t518⟩, A50, H⟩ := H
  try dsimp only at H
  have A5 := Aside0.mk A50
  clear A50
  have HC6 := Aside0.mk H
  clear H
  go_enter Tryd.func21, Tryd.ntmps21
  go_upto_region 4 with (first | ((with_reducible refine gate_dst (N := 2) rfl ?_); (try (refine gate_guard (by rfl) ?_; dsimp only)); refine box_event ?hg (N := 2) ?hd (cs := #[.bool false, .slice none 0 0]) (t := 25) ?hr ?_; (case hd => rfl); (case hg => rfl); (case hr => first | (go_simp; done) | (go_simp; rfl)); intro gb516 hg w7 hbox hb; have BK516 := Aside0.mk (hbox); have GE516 := Aside0.mk ((size_up hg HB.out : w.heap.size ≤ gb516)); replace HB := Aside0.mk (below_step (below_up HB.out) hb); clear hb hbox hg) | ((with_reducible refine gate_callee (f := 53) rfl ?_); refine gl_ (some 17) Tryd.func53 #[.string a0, .string (⟨#[45]⟩ : ByteArray)] ?_; (with_reducible refine (strings_CutPrefix.calls a0 (⟨#[45]⟩ : ByteArray) t517 t518 _ A5.out).mono ?_); rintro e w' ⟨rfl, ⟨nd, rfl⟩⟩; refine ⟨_, rfl, ?_⟩))
  (try simp only [Act.put, List.setIfInBounds_toArray, List.set_cons_zero, List.set_cons_succ])
  go_cut [25] (fun v25 wc => ∃ (kq : Nat) (x25_5 : Bool), v25 = .bool x25_5 ∧ Aside0 (integer_Parse.j0 kq t517 t518 x25_5 = some (r1, r2, r3)) ∧ Aside0 (kq ≤ k) ∧ Aside0 (wc.heap[gb516]? = some (.cells #[.bool false, (.slice none 0 0)] 25 (0, 0))) ∧ Aside0 (Below w.heap.size w wc))
  case first =>
   have H := HC6.out
   clear HC6
   by_cases c8 : t517.toList = ([] : List UInt8)
   ·
    rw [if_pos c8] at H
    have c8b0 : (t517.toList == ([] : List UInt8)) = true := beq_iff_eq.mpr c8
    have c8b1 : (t517.toList != ([] : List UInt8)) = false := bne_eq_false_iff_eq.mpr c8
    clear c8
    (first | rw [c8b0] | (simp only [i64_w, i32_w]; rw [c8b0]) | skip)
    have H' := Aside0.mk H
    clear H
    go_wp2
    go_meet
    case rel => exact ⟨_, (true), (by first | rfl | (simp; done) | (simp [*]; done) | (simp <;> omega)), H', ⟨by first | omega | exact Nat.le_refl _⟩, ⟨by (with_reducible repeat (first | refine blk_drewN ?_ _ | refine blk_drew ?_ | refine blk_alloc ?_ _)); exact BK516.out⟩, ⟨by with_reducible repeat first | exact HB.out | apply below_alloc | apply pw_below_drewN | apply below_drew1 | refine below_set ?_ GE516.out⟩⟩
   ·
    rw [if_neg c8] at H
    have c8b0 : (t517.toList == ([] : List UInt8)) = false := beq_eq_false_iff_ne.mpr c8
    have c8b1 : (t517.toList != ([] : List UInt8)) = true := bne_iff_ne.mpr c8
    (first | rw [c8b0] | (simp only [i64_w, i32_w]; rw [c8b0]) | skip)
    replace H := Option.bind_eq_some_iff.mp H
    obtain ⟨t519, A90, H⟩ := H
    try dsimp only at H
    have A9 := Aside0.mk A90
    clear A90
    have H' := Aside0.mk H
    clear H
    go_wp2_with (first | (go_at_call 54; (with_reducible refine (strings_ContainsFunc_Parse1.calls t517 t519 _ A9.out).mono ?_); rintro e w10 ⟨rfl, hb⟩; replace BK516 := Aside0.mk (blk_below (blk_up BK516.out) hb); replace HB := Aside0.mk (below_step (by with_reducible repeat first | exact HB.out | apply below_alloc | apply pw_below_drewN | apply below_drew1 | refine below_set ?_ GE516.out) hb); (try clear hb); (try clear hb2); (try clear hk); (try clear hi)))
    go_meet
    case rel => exact ⟨_, (t519), (by first | rfl | (simp; done) | (simp [*]; done) | (simp <;> omega)), H', ⟨by first | omega | exact Nat.le_refl _⟩, ⟨by (with_reducible repeat (first | refine blk_drewN ?_ _ | refine blk_drew ?_ | refine blk_alloc ?_ _)); exact BK516.out⟩, ⟨by with_reducible repeat first | exact HB.out | apply below_alloc | apply pw_below_drewN | apply below_drew1 | refine below_set ?_ GE516.out⟩⟩
  case rest =>
   clear HC6
   obtain ⟨kq, x25_5, rfl, HA, HJ5, BK516, HB⟩ := hcut
   cases kq with
   | zero => exact absurd HA.out (by simp [integer_Parse.j0])
   | succ kj5 =>
    have H := HA.out
    clear HA
    simp only [integer_Parse.j0] at H
    by_cases c11 : x25_5 = true
    ·
     subst c11
     have H1 : (some (false, ([] : List Int), 14)) = some (r1, r2, r3) := by rw [if_pos rfl] at H; exact H
     clear H
     have H := H1
     clear H1
     simp only [Option.some.injEq, Prod.mk.injEq] at H
     obtain ⟨rfl, rfl, rfl⟩ := H
     have hcz12_0 : wc.cell? ⟨gb516, 0, none⟩ = some (.bool false) := (blk_cell BK516.out 0).trans rfl
     have hcz12_1 : wc.cell? ⟨gb516, 1, none⟩ = some (.slice none 0 0) := (blk_cell BK516.out 1).trans rfl
     have hfz12_0 := blk_frozen BK516.out 0
     have hfz12_1 := blk_frozen BK516.out 1
     go_wp2
     refine bodyPost_ret (results_ct rfl _ _ gb516 25 #[.bool false, .slice none 0 0] (0, 0) _ rfl (by refine blk_ups ?_; refine blk_put (cs := #[.bool false, .slice none 0 0]) ?_ 1 _ rfl; refine blk_ups ?_; refine blk_put (cs := #[.bool false, .slice none 0 0]) ?_ 0 _ rfl; exact blk_up BK516.out) Tryd.underlying25 rfl (by kernel_rfl)) rfl ?_
     exact ⟨_, by first | rfl | (simp [errW_none, errW_some] <;> rfl) | (simp [*, errW_none, errW_some] <;> rfl), by first | exact Kd.R_nil _ _ _ _ _ | exact Kd.N_nil _ _ _ _ _ | exact Kd.V_nil _ _ _ _ _ | exact Kd.Q_nil _ _ _ _ _ | exact Kd.S_nil _ _ _ _ _, by with_reducible repeat first | exact HB.out | apply below_alloc | apply pw_below_drewN | apply below_drew1 | refine below_set ?_ GE516.out⟩
    ·
     replace c11 := Bool.eq_false_iff.mpr c11
     subst c11
     have H1 : (if 0 < (t517.size : Int) then (if (bt t517 0) = 48 then (if (t517.size : Int) > 1 then (integer_Parse.j1 kj5 t517 t518 true) else (integer_Parse.j1 kj5 t517 t518 t518)) else (integer_Parse.j1 kj5 t517 t518 false)) else (none)) = some (r1, r2, r3) := by rw [if_neg (show ¬ (false = true) by decide)] at H; exact H
     clear H
     have H := H1
     clear H1
     have HC13 := Aside0.mk H
     clear H
     go_upto_region 6 with (fail)
     go_cut [37] (fun v37 wc => ∃ (kq : Nat) (x37_12 : Bool), v37 = .bool x37_12 ∧ Aside0 (integer_Parse.j1 kq t517 t518 x37_12 = some (r1, r2, r3)) ∧ Aside0 (kq ≤ kj5) ∧ Aside0 (wc.heap[gb516]? = some (.cells #[.bool false, (.slice none 0 0)] 25 (0, 0))) ∧ Aside0 (Below w.heap.size w wc))
     case first =>
      have H := HC13.out
      clear HC13
      obtain ⟨c14, H⟩ := ite_some H
      have c14b0 := decide_eq_true c14
      have c14b1 : decide (0 < t517.size) = true := decide_eq_true (by omega)
      clear c14
      (first | rw [c14b0] | (simp only [i64_w, i32_w]; rw [c14b0]) | skip)
      by_cases c16 : (bt t517 0) = 48
      ·
       rw [if_pos c16] at H
       have c16b0 : ((bt t517 0) == 48) = true := beq_iff_eq.mpr c16
       have c16b1 : ((bt t517 0) != 48) = false := bne_eq_false_iff_eq.mpr c16
       clear c16
       by_cases c17 : (t517.size : Int) > 1
       ·
        rw [if_pos c17] at H
        have c17b0 := decide_eq_true c17
        have c17b1 : decide (1 < t517.size) = true := decide_eq_true (by omega)
        clear c17
        have H' := Aside0.mk H
        clear H
        have p15 : 0 ≤ (0 : Int) := (by omega)
        have q15 : 0 < t517.size := (by have : (0 : Int) < (t517.size : Int) := of_decide_eq_true (by assumption); omega)
        have hx15 : ∀ h : 0 < t517.size, ((t517[0]'h).toNat : Int) = bt t517 0 := bt_at t517 0
        clear p15
        have qi15 : (0 < (t517.size : Int)) = True := eq_true (of_decide_eq_true (by assumption))
        replace q15 := eq_true q15
        go_wp2
        go_meet
        case rel => exact ⟨_, (true), (by first | rfl | (simp; done) | (simp [*]; done) | (simp <;> omega)), H', ⟨by have := HJ5.out; first | omega | exact Nat.le_refl _⟩, ⟨by (with_reducible repeat (first | refine blk_drewN ?_ _ | refine blk_drew ?_ | refine blk_alloc ?_ _)); exact BK516.out⟩, ⟨by with_reducible repeat first | exact HB.out | apply below_alloc | apply pw_below_drewN | apply below_drew1 | refine below_set ?_ GE516.out⟩⟩
       ·
        rw [if_neg c17] at H
        have c17b0 := decide_eq_false c17
        have c17b1 : decide (1 < t517.size) = false := decide_eq_false (by omega)
        clear c17
        have H' := Aside0.mk H
        clear H
        have p15 : 0 ≤ (0 : Int) := (by omega)
        have q15 : 0 < t517.size := (by have : (0 : Int) < (t517.size : Int) := of_decide_eq_true (by assumption); omega)
        have hx15 : ∀ h : 0 < t517.size, ((t517[0]'h).toNat : Int) = bt t517 0 := bt_at t517 0
        clear p15
        have qi15 : (0 < (t517.size : Int)) = True := eq_true (of_decide_eq_true (by assumption))
        replace q15 := eq_true q15
        go_wp2
        go_meet
        case rel => exact ⟨_, (t518), (by first | rfl | (simp; done) | (simp [*]; done) | (simp <;> omega)), H', ⟨by have := HJ5.out; first | omega | exact Nat.le_refl _⟩, ⟨by (with_reducible repeat (first | refine blk_drewN ?_ _ | refine blk_drew ?_ | refine blk_alloc ?_ _)); exact BK516.out⟩, ⟨by with_reducible repeat first | exact HB.out | apply below_alloc | apply pw_below_drewN | apply below_drew1 | refine below_set ?_ GE516.out⟩⟩
      ·
       rw [if_neg c16] at H
       have c16b0 : ((bt t517 0) == 48) = false := beq_eq_false_iff_ne.mpr c16
       have c16b1 : ((bt t517 0) != 48) = true := bne_iff_ne.mpr c16
       have H' := Aside0.mk H
       clear H
       have p15 : 0 ≤ (0 : Int) := (by omega)
       have q15 : 0 < t517.size := (by have : (0 : Int) < (t517.size : Int) := of_decide_eq_true (by assumption); omega)
       have hx15 : ∀ h : 0 < t517.size, ((t517[0]'h).toNat : Int) = bt t517 0 := bt_at t517 0
       clear p15
       have qi15 : (0 < (t517.size : Int)) = True := eq_true (of_decide_eq_true (by assumption))
       replace q15 := eq_true q15
       go_wp2
       go_meet
       case rel => exact ⟨_, (false), (by first | rfl | (simp; done) | (simp [*]; done) | (simp <;> omega)), H', ⟨by have := HJ5.out; first | omega | exact Nat.le_refl _⟩, ⟨by (with_reducible repeat (first | refine blk_drewN ?_ _ | refine blk_drew ?_ | refine blk_alloc ?_ _)); exact BK516.out⟩, ⟨by with_reducible repeat first | exact HB.out | apply below_alloc | apply pw_below_drewN | apply below_drew1 | refine below_set ?_ GE516.out⟩⟩
     case rest =>
      clear HC13
      obtain ⟨kq, x37_12, rfl, HA, HJ12, BK516, HB⟩ := hcut
      cases kq with
      | zero => exact absurd HA.out (by simp [integer_Parse.j1])
      | succ kj12 =>
       have H := HA.out
       clear HA
       simp only [integer_Parse.j1] at H
       by_cases c18 : x37_12 = true
       ·
        subst c18
        have H1 : (some (false, ([] : List Int), 3)) = some (r1, r2, r3) := by rw [if_pos rfl] at H; exact H
        clear H
        have H := H1
        clear H1
        simp only [Option.some.injEq, Prod.mk.injEq] at H
        obtain ⟨rfl, rfl, rfl⟩ := H
        have hcz19_0 : wc.cell? ⟨gb516, 0, none⟩ = some (.bool false) := (blk_cell BK516.out 0).trans rfl
        have hcz19_1 : wc.cell? ⟨gb516, 1, none⟩ = some (.slice none 0 0) := (blk_cell BK516.out 1).trans rfl
        have hfz19_0 := blk_frozen BK516.out 0
        have hfz19_1 := blk_frozen BK516.out 1
        go_wp2
        refine bodyPost_ret (results_ct rfl _ _ gb516 25 #[.bool false, .slice none 0 0] (0, 0) _ rfl (by refine blk_ups ?_; refine blk_put (cs := #[.bool false, .slice none 0 0]) ?_ 1 _ rfl; refine blk_ups ?_; refine blk_put (cs := #[.bool false, .slice none 0 0]) ?_ 0 _ rfl; exact blk_up BK516.out) Tryd.underlying25 rfl (by kernel_rfl)) rfl ?_
        exact ⟨_, by first | rfl | (simp [errW_none, errW_some] <;> rfl) | (simp [*, errW_none, errW_some] <;> rfl), by first | exact Kd.R_nil _ _ _ _ _ | exact Kd.N_nil _ _ _ _ _ | exact Kd.V_nil _ _ _ _ _ | exact Kd.Q_nil _ _ _ _ _ | exact Kd.S_nil _ _ _ _ _, by with_reducible repeat first | exact HB.out | apply below_alloc | apply pw_below_drewN | apply below_drew1 | refine below_set ?_ GE516.out⟩
       ·
        replace c18 := Bool.eq_false_iff.mpr c18
        subst c18
        have H1 : (integer_Parse.l0 kj12 t517 t518 ([] : List Int)) = some (r1, r2, r3) := by rw [if_neg (show ¬ (false = true) by decide)] at H; exact H
        clear H
        have H := H1
        clear H1
        have H' := Aside0.mk H
        clear H
        go_wp2
        go_loopg [4, 6] kj12 (fun kq v4 v6 w' => ∃ (x4_3 : ByteArray) (x6_3 : List Int), v4 = .string x4_3 ∧ Aside0 (integer_Parse.l0 kq x4_3 t518 x6_3 = some (r1, r2, r3)) ∧ Aside0 (kq ≤ kj12) ∧ Aside0 (Kd.V (Kd.int .u32) 60 w' w.heap.size (fun k_ => (w.heap.size ≤ k_) ∧ k_ ≠ gb516) v6 x6_3) ∧ Aside0 (w'.heap[gb516]? = some (.cells #[.bool false, (.slice none 0 0)] 25 (0, 0))) ∧ Aside0 (Below w.heap.size w w'))
        case atStart => exact ⟨(t517), (([] : List Int)), (by first | rfl | (simp; done) | (simp [*]; done) | (simp <;> omega)), H', ⟨Nat.le_refl _⟩, ⟨by first | exact Kd.R_nil _ _ _ _ _ | exact Kd.N_nil _ _ _ _ _ | exact Kd.V_nil _ _ _ _ _ | exact Kd.Q_nil _ _ _ _ _ | exact Kd.S_nil _ _ _ _ _⟩, ⟨by (with_reducible repeat (first | refine blk_drewN ?_ _ | refine blk_drew ?_ | refine blk_alloc ?_ _)); exact BK516.out⟩, ⟨by with_reducible repeat first | exact HB.out | apply below_alloc | apply pw_below_drewN | apply below_drew1 | refine below_set ?_ GE516.out⟩⟩
        case round =>
         clear H'
         obtain ⟨x4_3, x6_3, rfl, HA, HK3, HO_6, BK516, HB⟩ := hrel
         cases gk with
         | zero => exact absurd HA.out (by simp [integer_Parse.l0])
         | succ k3 =>
          have H := HA.out
          clear HA
          simp only [integer_Parse.l0] at H
          by_cases c20 : (x4_3.size : Int) > 0
          ·
           rw [if_pos c20] at H
           have c20b0 := decide_eq_true c20
           have c20b1 : decide (0 < x4_3.size) = true := decide_eq_true (by omega)
           clear c20
           have H' := Aside0.mk H
           clear H
           go_wp2
           go_loopg [8, 48] k3 (fun kq v8 v48 w' => ∃ (x8_4 : Int) (x48_4 : Int), v8 = .int .u32 x8_4 ∧ v48 = .int .i64 x48_4 ∧ Aside0 (integer_Parse.l1 kq x4_3 t518 x6_3 (wrap64 ((Int.tmod (wrap64 ((x4_3.size : Int) - 1)) 9) + 1)) x8_4 (wrap64 ((Int.tmod (wrap64 ((x4_3.size : Int) - 1)) 9) + 1)) x48_4 = some (r1, r2, r3)) ∧ Aside0 (kq ≤ k3) ∧ Aside0 (Kd.V (Kd.int .u32) 60 w' w.heap.size (fun k_ => (w.heap.size ≤ k_) ∧ k_ ≠ gb516) u6 x6_3) ∧ Aside0 (w'.heap[gb516]? = some (.cells #[.bool false, (.slice none 0 0)] 25 (0, 0))) ∧ Aside0 (Below w.heap.size w w'))
           case atStart => exact ⟨(1), (0), (by first | rfl | (simp; done) | (simp [*]; done) | (simp <;> omega)), (by first | rfl | (simp; done) | (simp [*]; done) | (simp <;> omega)), H', ⟨Nat.le_refl _⟩, ⟨Kd.V_up HO_6.out⟩, ⟨by (with_reducible repeat (first | refine blk_drewN ?_ _ | refine blk_drew ?_ | refine blk_alloc ?_ _)); exact BK516.out⟩, ⟨by with_reducible repeat first | exact HB.out | apply below_alloc | apply pw_below_drewN | apply below_drew1 | refine below_set ?_ GE516.out⟩⟩
           case round =>
            clear H'
            obtain ⟨x8_4, x48_4, rfl, rfl, HA, HK4, HO_6, BK516, HB⟩ := hrel
            cases gk with
            | zero => exact absurd HA.out (by simp [integer_Parse.l1])
            | succ k4 =>
             have H := HA.out
             clear HA
             simp only [integer_Parse.l1] at H
             by_cases c21 : x48_4 < (wrap64 ((Int.tmod (wrap64 ((x4_3.size : Int) - 1)) 9) + 1))
             ·
              rw [if_pos c21] at H
              have c21b0 := decide_eq_true c21
              clear c21
              have H' := Aside0.mk H
              clear H
              go_wp2
              go_roundg k4
              case measure => have := HJ5.out; have := HJ12.out; have := HK3.out; have := HK4.out; omega
              case rel => exact ⟨((x8_4 * 10) % 4294967296), (wrap64 (x48_4 + 1)), (by first | rfl | (simp; done) | (simp [*]; done) | (simp <;> omega)), (by first | rfl | (simp; done) | (simp [*]; done) | (simp <;> omega)), H', ⟨by have := HJ5.out; have := HJ12.out; have := HK3.out; have := HK4.out; omega⟩, ⟨Kd.V_up HO_6.out⟩, ⟨by (with_reducible repeat (first | refine blk_drewN ?_ _ | refine blk_drew ?_ | refine blk_alloc ?_ _)); exact BK516.out⟩, ⟨by with_reducible repeat first | exact HB.out | apply below_alloc | apply pw_below_drewN | apply below_drew1 | refine below_set ?_ GE516.out⟩⟩
             ·
              rw [if_neg c21] at H
              have c21b0 := decide_eq_false c21
              clear c21
              obtain ⟨ji22, hji22⟩ : ∃ j_ : Int, (wrap64 ((Int.tmod (wrap64 ((x4_3.size : Int) - 1)) 9) + 1)) = j_ := ⟨_, rfl⟩
              replace H : (if 0 ≤ (ji22) then (if (ji22) ≤ (x4_3.size : Int) then ((strconv_ParseUint_56.f (x4_3.extract 0 ((ji22) : Int).toNat) 10 32).bind fun bt524 => ((integer_scale.f k4 x6_3 x8_4 ((bt524.1) % 4294967296)).bind fun t526 => (integer_Parse.l0 k4 (x4_3.extract ((ji22) : Int).toNat x4_3.size) t518 t526))) else (none)) else (none)) = some (r1, r2, r3) := by first | (rw [hji22] at H; exact H) | (simp only [hji22] at H ⊢; exact H)
              (try rw [hji22] at c21b0)
              have hji22w : (IntKind.i64.wrap ((Int.tmod (wrap64 ((x4_3.size : Int) - 1)) 9) + 1)) = ji22 := (i64_w _).trans hji22
              obtain ⟨c23, H⟩ := ite_some H
              have c23b0 := eq_true c23
              have c23b1 := decide_eq_true c23
              clear c23
              obtain ⟨c24, H⟩ := ite_some H
              have c24b0 := eq_true c24
              have c24b1 := decide_eq_true c24
              clear c24
              replace H := Option.bind_eq_some_iff.mp H
              obtain ⟨⟨t524, t525⟩, A250, H⟩ := H
              try dsimp only at H
              have A25 := Aside0.mk A250
              clear A250
              replace H := Option.bind_eq_some_iff.mp H
              obtain ⟨t526, A260, H⟩ := H
              try dsimp only at H
              have A26 := Aside0.mk A260
              clear A260
              have c27b0 := eq_true (of_decide_eq_true (by assumption) : 0 ≤ (ji22))
              have c28b0 := eq_true (of_decide_eq_true (by assumption) : (ji22) ≤ (x4_3.size : Int))
              have H' := Aside0.mk H
              clear H
              go_wp2_with (first | ((with_reducible refine gate_callee (f := 56) rfl ?_); refine goesL_ (some 57) rfl rfl Tryd.func56 (by kernel_rfl) rfl #[.string (x4_3.extract 0 ((ji22) : Int).toNat), .int .i64 10, .int .i64 32] rfl (by (try simp only [List.map_toArray, List.map_cons, List.map_nil]); first | done | (simp only [hji22]; rfl) | rfl | (simp only [List.length_drop, List.length_take]; rfl)) ?_; (with_reducible refine (strconv_ParseUint_56.calls (x4_3.extract 0 ((ji22) : Int).toNat) 10 32 t524 t525 _ A25.out).mono ?_); rintro e w29 ⟨rfl, hb⟩; refine ⟨_, rfl, ?_⟩; replace HO_6 := Aside0.mk (Kd.V_below (Kd.V_up HO_6.out) hb); replace BK516 := Aside0.mk (blk_below (blk_up BK516.out) hb); replace HB := Aside0.mk (below_step (by with_reducible repeat first | exact HB.out | apply below_alloc | apply pw_below_drewN | apply below_drew1 | refine below_set ?_ GE516.out) hb); (try clear hb); (try clear hb2); (try clear hk); (try clear hi); (try simp only [errW_none, errW_some]); obtain ⟨Ao30, co30, eo30⟩ := Kd.V_slice HO_6.out; subst eo30) | ((with_reducible refine gate_callee (f := 57) rfl ?_); refine gl_ (some 64) Tryd.func57 #[.slice Ao30 x6_3.length co30, .int .u32 x8_4, .int .u32 ((t524) % 4294967296)] ?_; (with_reducible refine (integer_scale.calls k4 _ _ x6_3 x8_4 ((t524) % 4294967296) t526 _ ?side1 ?side2 A26.out).mono ?_); (case side1 => repeat (first | exact (Kd.V_reads' HO_6.out).2.2 | (with_reducible refine Kd.C_alloc ?_ _) | (with_reducible refine Kd.C_drewN ?_ _) | (with_reducible refine Kd.C_drew ?_))); (case side2 => exact (Kd.V_reads' HO_6.out).2.1); rintro e w31 ⟨v527, rfl, ho0, hb⟩; refine ⟨_, rfl, ?_⟩; replace HO_6 := Aside0.mk (Kd.V_below (Kd.V_up HO_6.out) hb); have HO528 := Aside0.mk (Kd.V_lower (Kd.V_mono (ok' := fun k_ => (w.heap.size ≤ k_) ∧ k_ ≠ gb516) ho0 (fun k_ hk_ => ⟨(Nat.le_trans (below_size (by with_reducible repeat first | exact HB.out | apply below_alloc | apply pw_below_drewN | apply below_drew1 | refine below_set ?_ GE516.out)) hk_), (Kd.freshB (g := gb516) (o := .cells #[.bool false, .slice none 0 0] 25 (0, 0)) (blk_up BK516.out) k_ hk_)⟩)) (below_size (by with_reducible repeat first | exact HB.out | apply below_alloc | apply pw_below_drewN | apply below_drew1 | refine below_set ?_ GE516.out))); replace BK516 := Aside0.mk (blk_below (blk_up BK516.out) hb); replace HB := Aside0.mk (below_step (by with_reducible repeat first | exact HB.out | apply below_alloc | apply pw_below_drewN | apply below_drew1 | refine below_set ?_ GE516.out) hb); (try clear hb); (try clear hb2); (try clear hk); (try clear hi); (try clear ho0)))
              go_roundg k4
              case measure => have := HJ5.out; have := HJ12.out; have := HK3.out; have := HK4.out; omega
              case rel => exact ⟨(x4_3.extract ((ji22) : Int).toNat x4_3.size), (t526), (by first | rfl | (simp; done) | (simp only [← hji22] <;> (first | rfl | simp)) | (simp [*]; done)), H', ⟨by have := HJ5.out; have := HJ12.out; have := HK3.out; have := HK4.out; omega⟩, ⟨Kd.V_up HO528.out⟩, ⟨by (with_reducible repeat (first | refine blk_drewN ?_ _ | refine blk_drew ?_ | refine blk_alloc ?_ _)); exact BK516.out⟩, ⟨by with_reducible repeat first | exact HB.out | apply below_alloc | apply pw_below_drewN | apply below_drew1 | refine below_set ?_ GE516.out⟩⟩
          ·
           rw [if_neg c20] at H
           have c20b0 := decide_eq_false c20
           have c20b1 : decide (0 < x4_3.size) = false := decide_eq_false (by omega)
           clear c20
           replace H := Option.bind_eq_some_iff.mp H
           obtain ⟨⟨t520, t521⟩, A320, H⟩ := H
           try dsimp only at H
           have A32 := Aside0.mk A320
           clear A320
           simp only [Option.some.injEq, Prod.mk.injEq] at H
           obtain ⟨rfl, rfl, rfl⟩ := H
           obtain ⟨Ao33, co33, eo33⟩ := Kd.V_slice HO_6.out
           subst eo33
           go_wp2_with (first | ((with_reducible refine gate_callee (f := 45) rfl ?_); refine gl_ (some 70) Tryd.func45 #[.bool t518, .slice Ao33 x6_3.length co33] ?_; (with_reducible refine (integer_signed.calls k3 t518 (fun k_ => ((w.heap.size ≤ k_) ∧ k_ ≠ gb516)) _ _ x6_3 t520 t521 _ ?side1 A32.out).mono ?_); (case side1 => exact HO_6.out); rintro e w34 ⟨v522, rfl, ho0, hb⟩; refine ⟨_, rfl, ?_⟩; have n1_ := Aside0.mk (Kd.V_lower (Kd.V_mono (ok' := fun k_ => (w.heap.size ≤ k_) ∧ k_ ≠ gb516) ho0 (fun k_ hk_ => ⟨Or.elim hk_ (fun hs_ => hs_.1) (fun hn_ => (Nat.le_trans (below_size (by with_reducible repeat first | exact HB.out | apply below_alloc | apply pw_below_drewN | apply below_drew1 | refine below_set ?_ GE516.out)) hn_)), Or.elim hk_ (fun hs_ => hs_.2) (fun hn_ => (Kd.freshB (g := gb516) (o := .cells #[.bool false, .slice none 0 0] 25 (0, 0)) (blk_up BK516.out) k_ hn_))⟩)) (below_size (by with_reducible repeat first | exact HB.out | apply below_alloc | apply pw_below_drewN | apply below_drew1 | refine below_set ?_ GE516.out))); have n2_ := Aside0.mk (blk_below (blk_up BK516.out) hb); have n3_ := Aside0.mk (below_step (by with_reducible repeat first | exact HB.out | apply below_alloc | apply pw_below_drewN | apply below_drew1 | refine below_set ?_ GE516.out) hb); (try clear HO_6); clear BK516 HB; have HO523 := n1_; have BK516 := n2_; have HB := n3_; clear n1_ n2_ n3_; (try clear hb); (try clear hb2); (try clear hk); (try clear hi); (try clear ho0); have hcz35_0 : w34.cell? ⟨gb516, 0, none⟩ = some (.bool false) := (blk_cell BK516.out 0).trans rfl; have hcz35_1 : w34.cell? ⟨gb516, 1, none⟩ = some (.slice none 0 0) := (blk_cell BK516.out 1).trans rfl; have hfz35_0 := blk_frozen BK516.out 0; have hfz35_1 := blk_frozen BK516.out 1; obtain ⟨Ao36, co36, eo36⟩ := Kd.V_slice HO523.out; subst eo36))
           refine bodyPost_ret (results_ct rfl _ _ gb516 25 #[.bool t520, .slice Ao36 t521.length co36] (0, 0) _ rfl (by refine blk_ups ?_; refine blk_put (cs := #[.bool t520, .slice none 0 0]) ?_ 1 _ rfl; refine blk_ups ?_; refine blk_put (cs := #[.bool false, .slice none 0 0]) ?_ 0 _ rfl; exact blk_up BK516.out) Tryd.underlying25 rfl (by kernel_rfl)) rfl ?_
           exact ⟨_, by first | rfl | (simp [errW_none, errW_some] <;> rfl) | (simp [*, errW_none, errW_some] <;> rfl), Kd.V_up (Kd.V_mono (Kd.V_far (p := ⟨gb516, 1, none⟩) (Kd.V_far (p := ⟨gb516, 0, none⟩) (Kd.V_mono HO523.out (fun k_ hk => (⟨hk, hk.2⟩ : _ ∧ k_ ≠ gb516))) (fun _ hk => hk.2) (.bool t520)) (fun _ hk => hk.2) (.slice Ao36 t521.length co36)) (fun _ hk => hk.1.1)), by with_reducible repeat first | exact HB.out | apply below_alloc | apply pw_below_drewN | apply below_drew1 | refine below_set ?_ GE516.out⟩
def dowellaw01_read.f (k : Nat) (a0 : ByteArray) : Option (Bool × List Int × Bool) := if (a0.size : Int) > 120 then (some (false, ([] : List Int), false)) else ((dowelref01_Check.f k a0).bind fun t551 => (if t551 = 0 then ((integer_Parse.f k a0).bind fun bt552 => (some (bt552.1, bt552.2.1, (bt552.2.2 == 0)))) else (some (false, ([] : List Int), false))))
theorem dowellaw01_read.mono : ∀ a0 k, LeO (dowellaw01_read.f k a0) (dowellaw01_read.f (k + 1) a0) := by
 intro a0 k
 unfold dowellaw01_read.f
 repeat' with_reducible first | exact dowelref01_Check.mono _ _ | exact integer_Parse.mono _ _ | exact LeO.refl _ | exact LeO.none _ | refine LeO.ite ?_ ?_ | refine LeO.bind ?_ (fun _ => ?_)
set_option maxHeartbeats 8000000 in
set_option maxRecDepth 100000 in
theorem dowellaw01_read.calls (k : Nat) (a0 : ByteArray) (r1 : Bool) (r2 : List Int) (r3 : Bool) (w : World) (h : dowellaw01_read.f k a0 = some (r1, r2, r3)) :
  Calls Tryd.prog 24 #[.string a0] w fun e w' => ∃ v1_ : Value, e = .returned (.tuple #[.agg #[.bool r1, v1_], .bool r3]) ∧ Kd.V (Kd.int .u32) 60 w' w.heap.size (fun k_ => (w.heap.size ≤ k_)) v1_ r2 ∧ Below w.heap.size w w' := by
 have hu25 := Tryd.underlying25
 have HB := Aside0.mk (Below.refl w.heap.size w)
 have H := h
 unfold dowellaw01_read.f at H
 clear h
 by_cases c2 : (a0.size : Int) > 120
 ·
  rw [if_pos c2] at H
  have c2b0 := decide_eq_true c2
  have c2b1 : decide (120 < a0.size) = true := decide_eq_true (by omega)
  clear c2
  simp only [Option.some.injEq, Prod.mk.injEq] at H
  obtain ⟨rfl, rfl, rfl⟩ := H
  go_enter Tryd.func24, Tryd.ntmps24
  go_wp2_with (first | ((with_reducible refine gate_dst (N := 2) rfl ?_); refine box_event ?hg (N := 2) ?hd (cs := #[.bool false, .slice none 0 0]) (t := 25) ?hr ?_; (case hd => rfl); (case hg => rfl); (case hr => first | (go_simp; done) | (go_simp; rfl)); intro gb550 hg w3 hbox hb; have BK550 := Aside0.mk (hbox); have GE550 := Aside0.mk ((size_up hg HB.out : w.heap.size ≤ gb550)); replace HB := Aside0.mk (below_step (below_up HB.out) hb); clear hb hbox hg; have hcz4_0 : w3.cell? ⟨gb550, 0, none⟩ = some (.bool false) := (blk_cell BK550.out 0).trans rfl; have hcz4_1 : w3.cell? ⟨gb550, 1, none⟩ = some (.slice none 0 0) := (blk_cell BK550.out 1).trans rfl; have hfz4_0 := blk_frozen BK550.out 0; have hfz4_1 := blk_frozen BK550.out 1))
  refine bodyPost_ret (results_ct rfl _ _ gb550 25 #[.bool false, .slice none 0 0] (0, 0) _ rfl (by refine blk_ups ?_; refine blk_put (cs := #[.bool false, .slice none 0 0]) ?_ 1 _ rfl; refine blk_ups ?_; refine blk_put (cs := #[.bool false, .slice none 0 0]) ?_ 0 _ rfl; exact blk_up BK550.out) Tryd.underlying25 rfl (by kernel_rfl)) rfl ?_
  exact ⟨_, by first | rfl | (simp [errW_none, errW_some] <;> rfl) | (simp [*, errW_none, errW_some] <;> rfl), by first | exact Kd.R_nil _ _ _ _ _ | exact Kd.N_nil _ _ _ _ _ | exact Kd.V_nil _ _ _ _ _ | exact Kd.Q_nil _ _ _ _ _ | exact Kd.S_nil _ _ _ _ _, by with_reducible repeat first | exact HB.out | apply below_alloc | apply pw_below_drewN | apply below_drew1 | refine below_set ?_ GE550.out⟩
 ·
  rw [if_neg c2] at H
  have c2b0 := decide_eq_false c2
  have c2b1 : decide (120 < a0.size) = false := decide_eq_false (by omega)
  clear c2
  replace H := Option.bind_eq_some_iff.mp H
  obtain ⟨t551, A50, H⟩ := H
  try dsimp only at H
  have A5 := Aside0.mk A50
  clear A50
  by_cases c6 : t551 = 0
  ·
   rw [if_pos c6] at H
   have c6b0 : (t551 == 0) = true := beq_iff_eq.mpr c6
   have c6b1 : (t551 != 0) = false := bne_eq_false_iff_eq.mpr c6
   clear c6
   replace H := Option.bind_eq_some_iff.mp H
   obtain ⟨⟨t552, t553, t556⟩, A70, H⟩ := H
   try dsimp only at H
   have A7 := Aside0.mk A70
   clear A70
   simp only [Option.some.injEq, Prod.mk.injEq] at H
   obtain ⟨rfl, rfl, rfl⟩ := H
   go_enter Tryd.func24, Tryd.ntmps24
   go_wp2_with (first | ((with_reducible refine gate_dst (N := 2) rfl ?_); refine box_event ?hg (N := 2) ?hd (cs := #[.bool false, .slice none 0 0]) (t := 25) ?hr ?_; (case hd => rfl); (case hg => rfl); (case hr => first | (go_simp; done) | (go_simp; rfl)); intro gb550 hg w8 hbox hb; have BK550 := Aside0.mk (hbox); have GE550 := Aside0.mk ((size_up hg HB.out : w.heap.size ≤ gb550)); replace HB := Aside0.mk (below_step (below_up HB.out) hb); clear hb hbox hg) | (go_at_call 22; (with_reducible refine (dowelref01_Check.calls k a0 t551 _ A5.out).mono ?_); rintro e w' ⟨rfl, ⟨nd, rfl⟩⟩; (try (rw [drewN_self w8]; generalize hq_ : World.drewN w8 _ = w8; have n0_ : Aside0 (w8.heap[gb550]? = some (.cells #[.bool false, .slice none 0 0] 25 (0, 0))) := ⟨by rw [← hq_]; exact (blk_up BK550.out)⟩; have n1_ : Aside0 (Below w.heap.size w w8) := ⟨by rw [← hq_]; exact (by with_reducible repeat first | exact HB.out | apply below_alloc | apply pw_below_drewN | apply below_drew1 | refine below_set ?_ GE550.out)⟩; clear BK550 HB hq_; have BK550 := n0_; have HB := n1_; clear n0_ n1_))) | ((with_reducible refine gate_callee (f := 21) rfl ?_); refine gl_ (some 17) Tryd.func21 #[.string a0] ?_; (with_reducible refine (integer_Parse.calls k a0 t552 t553 t556 _ A7.out).mono ?_); rintro e w9 ⟨v554, rfl, ho0, hb⟩; refine ⟨_, rfl, ?_⟩; have HO555 := Aside0.mk (Kd.V_lower (Kd.V_mono (ok' := fun k_ => (w.heap.size ≤ k_) ∧ k_ ≠ gb550) ho0 (fun k_ hk_ => ⟨(Nat.le_trans (below_size (by with_reducible repeat first | exact HB.out | apply below_alloc | apply pw_below_drewN | apply below_drew1 | refine below_set ?_ GE550.out)) hk_), (Kd.freshB (g := gb550) (o := .cells #[.bool false, .slice none 0 0] 25 (0, 0)) (blk_up BK550.out) k_ hk_)⟩)) (below_size (by with_reducible repeat first | exact HB.out | apply below_alloc | apply pw_below_drewN | apply below_drew1 | refine below_set ?_ GE550.out))); replace BK550 := Aside0.mk (blk_below (blk_up BK550.out) hb); replace HB := Aside0.mk (below_step (by with_reducible repeat first | exact HB.out | apply below_alloc | apply pw_below_drewN | apply below_drew1 | refine below_set ?_ GE550.out) hb); (try clear hb); (try clear hb2); (try clear hk); (try clear hi); (try clear ho0)) | ((with_reducible refine gate_dst (N := 4) rfl ?_); refine box_event ?hg (N := 4) ?hd (cs := #[.bool false, .slice none 0 0]) (t := 25) ?hr ?_; (case hd => rfl); (case hg => rfl); (case hr => first | (go_simp; done) | (go_simp; rfl)); intro gb557 hg w10 hbox hb; replace HO555 := Aside0.mk (Kd.V_below (Kd.V_elderB (Kd.V_up HO555.out) gb557 (Nat.le_of_eq hg.symm)) hb); have BK557 := Aside0.mk (hbox); have GE557 := Aside0.mk ((by rw [hg]; exact (below_size (by with_reducible repeat first | exact HB.out | apply below_alloc | apply pw_below_drewN | apply below_drew1 | refine below_set ?_ GE550.out)) : w.heap.size ≤ gb557)); replace HB := Aside0.mk (below_step (by with_reducible repeat first | exact HB.out | apply below_alloc | apply pw_below_drewN | apply below_drew1 | refine below_set ?_ GE550.out) hb); have NB550_557 := Aside0.mk ((blk_nw hg BK550.out : gb550 ≠ gb557)); have NB557_550 := Aside0.mk ((nw_blk hg BK550.out : gb557 ≠ gb550)); replace BK550 := Aside0.mk (blk_below (blk_up BK550.out) hb); clear hb hbox hg; have hnb11 := NB557_550.out; have hnc11 := NB550_557.out; have hcz12_0 : w10.cell? ⟨gb557, 0, none⟩ = some (.bool false) := (blk_cell BK557.out 0).trans rfl; have hcz12_1 : w10.cell? ⟨gb557, 1, none⟩ = some (.slice none 0 0) := (blk_cell BK557.out 1).trans rfl; have hfz12_0 := blk_frozen BK557.out 0; have hfz12_1 := blk_frozen BK557.out 1; obtain ⟨Ao13, co13, eo13⟩ := Kd.V_slice HO555.out; subst eo13; have hcz14_0 : w10.cell? ⟨gb550, 0, none⟩ = some (.bool false) := (blk_cell BK550.out 0).trans rfl; have hcz14_1 : w10.cell? ⟨gb550, 1, none⟩ = some (.slice none 0 0) := (blk_cell BK550.out 1).trans rfl; have hfz14_0 := blk_frozen BK550.out 0; have hfz14_1 := blk_frozen BK550.out 1))
   refine bodyPost_ret (results_ct rfl _ _ gb550 25 #[.bool t552, .slice Ao13 t553.length co13] (0, 0) _ rfl (by refine blk_ups ?_; refine blk_put (cs := #[.bool t552, .slice none 0 0]) ?_ 1 _ rfl; refine blk_ups ?_; refine blk_put (cs := #[.bool false, .slice none 0 0]) ?_ 0 _ rfl; refine blk_ups ?_; refine blk_far ?_ NB550_557.out _; refine blk_ups ?_; refine blk_far ?_ NB550_557.out _; exact blk_up BK550.out) Tryd.underlying25 rfl (by kernel_rfl)) rfl ?_
   exact ⟨_, by first | rfl | (simp [errW_none, errW_some] <;> rfl) | (simp [*, errW_none, errW_some] <;> rfl), Kd.V_up (Kd.V_mono (Kd.V_far (p := ⟨gb550, 1, none⟩) (Kd.V_far (p := ⟨gb550, 0, none⟩) (Kd.V_far (p := ⟨gb557, 1, none⟩) (Kd.V_far (p := ⟨gb557, 0, none⟩) (Kd.V_mono (Kd.V_mono HO555.out (fun k_ hk => (⟨hk, hk.2⟩ : _ ∧ k_ ≠ gb557))) (fun k_ hk => (⟨hk, hk.1.1.2⟩ : _ ∧ k_ ≠ gb550))) (fun _ hk => hk.1.2) (.bool t552)) (fun _ hk => hk.1.2) (.slice Ao13 t553.length co13)) (fun _ hk => hk.2) (.bool t552)) (fun _ hk => hk.2) (.slice Ao13 t553.length co13)) (fun _ hk => hk.1.1.1.1)), by with_reducible repeat first | exact HB.out | apply below_alloc | apply pw_below_drewN | apply below_drew1 | refine below_set ?_ GE550.out | refine below_set ?_ GE557.out⟩
  ·
   rw [if_neg c6] at H
   have c6b0 : (t551 == 0) = false := beq_eq_false_iff_ne.mpr c6
   have c6b1 : (t551 != 0) = true := bne_iff_ne.mpr c6
   simp only [Option.some.injEq, Prod.mk.injEq] at H
   obtain ⟨rfl, rfl, rfl⟩ := H
   go_enter Tryd.func24, Tryd.ntmps24
   go_wp2_with (first | ((with_reducible refine gate_dst (N := 2) rfl ?_); refine box_event ?hg (N := 2) ?hd (cs := #[.bool false, .slice none 0 0]) (t := 25) ?hr ?_; (case hd => rfl); (case hg => rfl); (case hr => first | (go_simp; done) | (go_simp; rfl)); intro gb550 hg w15 hbox hb; have BK550 := Aside0.mk (hbox); have GE550 := Aside0.mk ((size_up hg HB.out : w.heap.size ≤ gb550)); replace HB := Aside0.mk (below_step (below_up HB.out) hb); clear hb hbox hg) | (go_at_call 22; (with_reducible refine (dowelref01_Check.calls k a0 t551 _ A5.out).mono ?_); rintro e w' ⟨rfl, ⟨nd, rfl⟩⟩; (try (rw [drewN_self w15]; generalize hq_ : World.drewN w15 _ = w15; have n0_ : Aside0 (w15.heap[gb550]? = some (.cells #[.bool false, .slice none 0 0] 25 (0, 0))) := ⟨by rw [← hq_]; exact (blk_up BK550.out)⟩; have n1_ : Aside0 (Below w.heap.size w w15) := ⟨by rw [← hq_]; exact (by with_reducible repeat first | exact HB.out | apply below_alloc | apply pw_below_drewN | apply below_drew1 | refine below_set ?_ GE550.out)⟩; clear BK550 HB hq_; have BK550 := n0_; have HB := n1_; clear n0_ n1_)); have hcz16_0 : w15.cell? ⟨gb550, 0, none⟩ = some (.bool false) := (blk_cell BK550.out 0).trans rfl; have hcz16_1 : w15.cell? ⟨gb550, 1, none⟩ = some (.slice none 0 0) := (blk_cell BK550.out 1).trans rfl; have hfz16_0 := blk_frozen BK550.out 0; have hfz16_1 := blk_frozen BK550.out 1))
   refine bodyPost_ret (results_ct rfl _ _ gb550 25 #[.bool false, .slice none 0 0] (0, 0) _ rfl (by refine blk_ups ?_; refine blk_put (cs := #[.bool false, .slice none 0 0]) ?_ 1 _ rfl; refine blk_ups ?_; refine blk_put (cs := #[.bool false, .slice none 0 0]) ?_ 0 _ rfl; exact blk_up BK550.out) Tryd.underlying25 rfl (by kernel_rfl)) rfl ?_
   exact ⟨_, by first | rfl | (simp [errW_none, errW_some] <;> rfl) | (simp [*, errW_none, errW_some] <;> rfl), by first | exact Kd.R_nil _ _ _ _ _ | exact Kd.N_nil _ _ _ _ _ | exact Kd.V_nil _ _ _ _ _ | exact Kd.Q_nil _ _ _ _ _ | exact Kd.S_nil _ _ _ _ _, by with_reducible repeat first | exact HB.out | apply below_alloc | apply pw_below_drewN | apply below_drew1 | refine below_set ?_ GE550.out⟩
def dowelref01_trim.l0 : Nat → List Int → Int → Option (List Int)
 | 0, _, _ => none
 | k + 1, x0, x3 => if x3 > 0 then (if 0 ≤ (wrap64 (x3 - 1)) then (if (wrap64 (x3 - 1)) < (x0.length : Int) then (if (rd x0 (wrap64 (x3 - 1))) = 0 then (dowelref01_trim.l0 k x0 (wrap64 (x3 - 1))) else (if 0 ≤ x3 then (if x3 ≤ (x0.length : Int) then (some (x0.take (x3 : Int).toNat)) else (none)) else (none))) else (none)) else (none)) else (if 0 ≤ x3 then (if x3 ≤ (x0.length : Int) then (some (x0.take (x3 : Int).toNat)) else (none)) else (none))
def dowelref01_trim.f (k : Nat) (l0 : List Int) : Option (List Int) := dowelref01_trim.l0 k l0 (l0.length : Int)
theorem dowelref01_trim.mono_l : ∀ k, (∀ y0 y1, LeO (dowelref01_trim.l0 k y0 y1) (dowelref01_trim.l0 (k + 1) y0 y1))
 | 0 => fun _ _ r h => by simp [dowelref01_trim.l0] at h
 | k + 1 => by
  have ih0 := dowelref01_trim.mono_l k
  ·
   intro y0 y1
   unfold dowelref01_trim.l0
   repeat' with_reducible first | exact ih0 _ _ | exact LeO.refl _ | exact LeO.none _ | refine LeO.ite ?_ ?_ | refine LeO.bind ?_ (fun _ => ?_)
theorem dowelref01_trim.mono : ∀ a0 k, LeO (dowelref01_trim.f k a0) (dowelref01_trim.f (k + 1) a0) := by
 intro a0 k
 have ih0 := dowelref01_trim.mono_l k
 unfold dowelref01_trim.f
 repeat' with_reducible first | exact ih0 _ _ | exact LeO.refl _ | exact LeO.none _ | refine LeO.ite ?_ ?_ | refine LeO.bind ?_ (fun _ => ?_)
set_option maxHeartbeats 8000000 in
set_option maxRecDepth 100000 in
theorem dowelref01_trim.calls (k : Nat) (P0_ : Nat → Prop) (u9000_ : Value) (l0 : List Int) (r : List Int) (w0 w : World) (hB : Below w0.heap.size w0 w) (ho0 : Kd.R (Kd.int .i64) 3 w w0.heap.size P0_ u9000_ l0) (h : dowelref01_trim.f k l0 = some r) :
  Calls Tryd.prog 60 #[u9000_] w fun e w' => ∃ v0_ : Value, e = .returned (v0_) ∧ Kd.R (Kd.int .i64) 3 w' w0.heap.size (fun k_ => (P0_ k_ ∨ w.heap.size ≤ k_)) v0_ r ∧ Below w0.heap.size w0 w' ∧ Kept w w' (fun k_ => P0_ k_) := by
 have HO0 := Aside0.mk (show Kd.R (Kd.int .i64) 3 w w0.heap.size (fun k_ => (P0_ k_ ∨ w.heap.size ≤ k_)) u9000_ l0 from Kd.R_mono ho0 (fun k_ hk => (.inl hk)))
 have HK := Aside0.mk (Kept.refl w (fun k_ => P0_ k_))
 have HW0 := Aside0.mk hB.size
 have HB := Aside0.mk hB
 clear hB
 have H := h
 unfold dowelref01_trim.f at H
 clear h
 have H' := Aside0.mk H
 clear H
 obtain ⟨Ao2, co2, eo2⟩ := Kd.R_slice HO0.out
 subst eo2
 go_enter Tryd.func60, Tryd.ntmps60
 go_wp2
 go_loopg [3] k (fun kq v3 w' => ∃ (x3_1 : Int), v3 = .int .i64 x3_1 ∧ Aside0 (dowelref01_trim.l0 kq l0 x3_1 = some r) ∧ Aside0 (kq ≤ k) ∧ Aside0 (Kd.R (Kd.int .i64) 3 w' w0.heap.size (fun k_ => (P0_ k_ ∨ w.heap.size ≤ k_)) (.slice Ao2 l0.length co2) l0) ∧ Aside0 (Kept w w' (fun k_ => P0_ k_)) ∧ Aside0 (Below w0.heap.size w0 w'))
 case atStart => exact ⟨((l0.length : Int)), (by first | rfl | (simp; done) | (simp [*]; done) | (simp <;> omega)), H', ⟨Nat.le_refl _⟩, ⟨Kd.R_up HO0.out⟩, ⟨by repeat (first | (with_reducible first | exact HK.out | apply Kept.alloc | apply Kept.drewN | apply Kept.drew) | exact HK.out)⟩, ⟨below_up HB.out⟩⟩
 case round =>
  clear H'
  obtain ⟨x3_1, rfl, HA, HK1, HO_0, HK, HB⟩ := hrel
  cases gk with
  | zero => exact absurd HA.out (by simp [dowelref01_trim.l0])
  | succ k1 =>
   have H := HA.out
   clear HA
   simp only [dowelref01_trim.l0] at H
   by_cases c3 : x3_1 > 0
   ·
    rw [if_pos c3] at H
    have c3b0 := decide_eq_true c3
    clear c3
    obtain ⟨ji4, hji4⟩ : ∃ j_ : Int, (wrap64 (x3_1 - 1)) = j_ := ⟨_, rfl⟩
    replace H : (if 0 ≤ (ji4) then (if (ji4) < (l0.length : Int) then (if (rd l0 (ji4)) = 0 then (dowelref01_trim.l0 k1 l0 ji4) else (if 0 ≤ x3_1 then (if x3_1 ≤ (l0.length : Int) then (some (l0.take (x3_1 : Int).toNat)) else (none)) else (none))) else (none)) else (none)) = some r := by first | (rw [hji4] at H; exact H) | (simp only [hji4] at H ⊢; exact H)
    have hji4w : (IntKind.i64.wrap (x3_1 - 1)) = ji4 := (i64_w _).trans hji4
    obtain ⟨c5, H⟩ := ite_some H
    have c5b0 := decide_eq_true c5
    clear c5
    obtain ⟨c6, H⟩ := ite_some H
    have c6b0 := decide_eq_true c6
    clear c6
    by_cases c7 : (rd l0 (ji4)) = 0
    ·
     rw [if_pos c7] at H
     have c7b0 : ((rd l0 (ji4)) == 0) = true := beq_iff_eq.mpr c7
     have c7b1 : ((rd l0 (ji4)) != 0) = false := bne_eq_false_iff_eq.mpr c7
     clear c7
     have H' := Aside0.mk H
     clear H
     have p443 : 0 ≤ ((ji4) : Int) := of_decide_eq_true (by assumption)
     have q443 : (ji4) < (l0.length : Int) := of_decide_eq_true (by assumption)
     obtain ⟨ad443, e443, hx443_0⟩ := Kd.at_int (Kd.R_reads' HO_0.out).2.2 (ji4) p443 q443
     cases e443
     replace p443 := eq_true p443
     replace q443 := eq_true q443
     go_wp2
     go_roundg k1
     case measure => have := HK1.out; omega
     case rel => exact ⟨(ji4), (by first | rfl | (simp; done) | (simp only [← hji4] <;> (first | rfl | simp)) | (simp [*]; done)), H', ⟨by have := HK1.out; omega⟩, ⟨Kd.R_up HO_0.out⟩, ⟨by repeat (first | (with_reducible first | exact HK.out | apply Kept.alloc | apply Kept.drewN | apply Kept.drew) | exact HK.out)⟩, ⟨below_up HB.out⟩⟩
    ·
     rw [if_neg c7] at H
     have c7b0 : ((rd l0 (ji4)) == 0) = false := beq_eq_false_iff_ne.mpr c7
     have c7b1 : ((rd l0 (ji4)) != 0) = true := bne_iff_ne.mpr c7
     obtain ⟨c8, H⟩ := ite_some H
     have c8b0 := eq_true c8
     have c8b1 := decide_eq_true c8
     clear c8
     obtain ⟨c9, H⟩ := ite_some H
     have c9b0 := eq_true c9
     have c9b1 := decide_eq_true c9
     clear c9
     obtain ⟨y444, hy444⟩ : ∃ y_ : List Int, y_ = (l0.take (x3_1 : Int).toNat) := ⟨_, rfl⟩
     replace H : (some y444) = some r := by first | (rw [hy444]; exact H) | exact H
     have Ny444 := Aside0.mk hy444
     clear hy444
     obtain rfl := Option.some.inj H
     have p443 : 0 ≤ ((ji4) : Int) := of_decide_eq_true (by assumption)
     have q443 : (ji4) < (l0.length : Int) := of_decide_eq_true (by assumption)
     obtain ⟨ad443, e443, hx443_0⟩ := Kd.at_int (Kd.R_reads' HO_0.out).2.2 (ji4) p443 q443
     cases e443
     replace p443 := eq_true p443
     replace q443 := eq_true q443
     have q10 : (x3_1 : Int) ≤ ((l0.length : Int) : Int) := of_decide_eq_true (by assumption)
     obtain ⟨i010, hi010, _, hsz10, _⟩ := info_parts info3
     have hcut10 := cut_to (P := Tryd.prog) 67 3 .i64 Tryd.underlying67 hi010 (some ad443) l0.length co2 x3_1 (of_decide_eq_true (by assumption)) q10 (Kd.R_reads' HO_0.out).2.1
     have hr10 := Kd.R_take (m := (x3_1 : Int).toNat) HO_0.out (by omega)
     have hy10 : y444.length = (x3_1 : Int).toNat := (by rw [Ny444.out, List.length_take]; omega)
     rw [← Ny444.out] at hr10
     rw [← hy10] at hr10 hcut10
     clear hy10 hi010 hsz10 HO_0
     have HO446 := Aside0.mk hr10
     clear hr10
     replace q10 := eq_true q10
     go_wp2
     go_ret
     exact ⟨_, by first | rfl | (simp [errW_none, errW_some] <;> rfl) | (simp only [← hji4]; first | rfl | (simp [errW_none, errW_some] <;> rfl)) | (simp [*, errW_none, errW_some] <;> rfl), Kd.R_up HO446.out, by repeat (first | (with_reducible first | exact HB.out | apply below_alloc | apply pw_below_drewN | apply below_drew1) | exact HB.out), by repeat (first | (with_reducible first | exact HK.out | apply Kept.alloc | apply Kept.drewN | apply Kept.drew) | exact HK.out)⟩
   ·
    rw [if_neg c3] at H
    have c3b0 := decide_eq_false c3
    clear c3
    by_cases c11 : 0 ≤ x3_1
    ·
     rw [if_pos c11] at H
     have c11b0 := eq_true c11
     have c11b1 := decide_eq_true c11
     clear c11
     obtain ⟨c12, H⟩ := ite_some H
     have c12b0 := eq_true c12
     have c12b1 := decide_eq_true c12
     clear c12
     obtain ⟨y447, hy447⟩ : ∃ y_ : List Int, y_ = (l0.take (x3_1 : Int).toNat) := ⟨_, rfl⟩
     replace H : (some y447) = some r := by first | (rw [hy447]; exact H) | exact H
     have Ny447 := Aside0.mk hy447
     clear hy447
     obtain rfl := Option.some.inj H
     have q13 : (x3_1 : Int) ≤ ((l0.length : Int) : Int) := of_decide_eq_true (by assumption)
     obtain ⟨i013, hi013, _, hsz13, _⟩ := info_parts info3
     have hcut13 := cut_to (P := Tryd.prog) 67 3 .i64 Tryd.underlying67 hi013 Ao2 l0.length co2 x3_1 (of_decide_eq_true (by assumption)) q13 (Kd.R_reads' HO_0.out).2.1
     have hr13 := Kd.R_take (m := (x3_1 : Int).toNat) HO_0.out (by omega)
     have hy13 : y447.length = (x3_1 : Int).toNat := (by rw [Ny447.out, List.length_take]; omega)
     rw [← Ny447.out] at hr13
     rw [← hy13] at hr13 hcut13
     clear hy13 hi013 hsz13 HO_0
     have HO449 := Aside0.mk hr13
     clear hr13
     replace q13 := eq_true q13
     go_wp2
     go_ret
     exact ⟨_, by first | rfl | (simp [errW_none, errW_some] <;> rfl) | (simp [*, errW_none, errW_some] <;> rfl), Kd.R_up HO449.out, by repeat (first | (with_reducible first | exact HB.out | apply below_alloc | apply pw_below_drewN | apply below_drew1) | exact HB.out), by repeat (first | (with_reducible first | exact HK.out | apply Kept.alloc | apply Kept.drewN | apply Kept.drew) | exact HK.out)⟩
    ·
     rw [if_neg c11] at H
     exact absurd H (by simp)
mutual
def dowelref01_text.j0 : Nat → List Int → List Int → Option (ByteArray)
 | 0, _, _ => none
 | k + 1, x1, x5 => dowelref01_text.l0 k x1 x5 (wrap64 ((x1.length : Int) - 1))
def dowelref01_text.l0 : Nat → List Int → List Int → Int → Option (ByteArray)
 | 0, _, _, _ => none
 | k + 1, x1, x5, x6 => if x6 ≥ 0 then (if 0 ≤ x6 then (if x6 < (x1.length : Int) then (if x5.length < 140737488355328 then (dowelref01_text.l0 k x1 (x5 ++ [(wrap64 (48 + (rd x1 x6))) % 256]) (wrap64 (x6 - 1))) else (none)) else (none)) else (none)) else (some (strOfNums x5))
end
def dowelref01_text.f (k : Nat) (a0 : Bool) (l1 : List Int) : Option (ByteArray) := (dowelref01_trim.f k l1).bind fun t450 => (if (t450.length : Int) = 0 then (some (⟨#[48]⟩ : ByteArray)) else (if a0 = true then (if ([] : List Int).length < 140737488355328 then (dowelref01_text.j0 k t450 (([] : List Int) ++ [45])) else (none)) else (dowelref01_text.j0 k t450 ([] : List Int))))
theorem dowelref01_text.mono_l : ∀ k, (∀ y0 y1, LeO (dowelref01_text.j0 k y0 y1) (dowelref01_text.j0 (k + 1) y0 y1)) ∧ (∀ y0 y1 y2, LeO (dowelref01_text.l0 k y0 y1 y2) (dowelref01_text.l0 (k + 1) y0 y1 y2))
 | 0 => ⟨fun _ _ r h => by simp [dowelref01_text.j0] at h, fun _ _ _ r h => by simp [dowelref01_text.l0] at h⟩
 | k + 1 => by
  obtain ⟨ih0, ih1⟩ := dowelref01_text.mono_l k
  refine ⟨?_, ?_⟩
  ·
   intro y0 y1
   unfold dowelref01_text.j0
   repeat' with_reducible first | exact ih0 _ _ | exact ih1 _ _ _ | exact dowelref01_trim.mono _ _ | exact LeO.refl _ | exact LeO.none _ | refine LeO.ite ?_ ?_ | refine LeO.bind ?_ (fun _ => ?_)
  ·
   intro y0 y1 y2
   unfold dowelref01_text.l0
   repeat' with_reducible first | exact ih0 _ _ | exact ih1 _ _ _ | exact dowelref01_trim.mono _ _ | exact LeO.refl _ | exact LeO.none _ | refine LeO.ite ?_ ?_ | refine LeO.bind ?_ (fun _ => ?_)
theorem dowelref01_text.mono : ∀ a0 a1 k, LeO (dowelref01_text.f k a0 a1) (dowelref01_text.f (k + 1) a0 a1) := by
 intro a0 a1 k
 obtain ⟨ih0, ih1⟩ := dowelref01_text.mono_l k
 unfold dowelref01_text.f
 repeat' with_reducible first | exact ih0 _ _ | exact ih1 _ _ _ | exact dowelref01_trim.mono _ _ | exact LeO.refl _ | exact LeO.none _ | refine LeO.ite ?_ ?_ | refine LeO.bind ?_ (fun _ => ?_)
set_option maxHeartbeats 8000000 in
set_option maxRecDepth 100000 in
theorem dowelref01_text.calls (k : Nat) (a0 : Bool) (P1_ : Nat → Prop) (u9000_ : Value) (l1 : List Int) (r : ByteArray) (w0 w : World) (hB : Below w0.heap.size w0 w) (ho1 : Kd.R (Kd.int .i64) 3 w w0.heap.size P1_ u9000_ l1) (h : dowelref01_text.f k a0 l1 = some r) :
  Calls Tryd.prog 51 #[.bool a0, u9000_] w fun e w' => e = .returned (.string r) ∧ Below w0.heap.size w0 w' ∧ Kept w w' (fun k_ => P1_ k_) := by
 have HO1 := Aside0.mk (show Kd.R (Kd.int .i64) 3 w w0.heap.size (fun k_ => (P1_ k_ ∨ w.heap.size ≤ k_)) u9000_ l1 from Kd.R_mono ho1 (fun k_ hk => (.inl hk)))
 have HK := Aside0.mk (Kept.refl w (fun k_ => P1_ k_))
 have HW0 := Aside0.mk hB.size
 have HB := Aside0.mk hB
 clear hB
 have H := h
 unfold dowelref01_text.f at H
 clear h
 replace H := Option.bind_eq_some_iff.mp H
 obtain ⟨t450, A30, H⟩ := H
 try dsimp only at H
 have A3 := Aside0.mk A30
 clear A30
 by_cases c4 : (t450.length : Int) = 0
 ·
  rw [if_pos c4] at H
  have c4b0 : ((t450.length : Int) == 0) = true := beq_iff_eq.mpr c4
  have c4b1 : ((t450.length : Int) != 0) = false := bne_eq_false_iff_eq.mpr c4
  clear c4
  obtain rfl := Option.some.inj H
  obtain ⟨Ao5, co5, eo5⟩ := Kd.R_slice HO1.out
  subst eo5
  go_enter Tryd.func51, Tryd.ntmps51
  go_wp2_with (first | ((with_reducible refine gate_callee (f := 60) rfl ?_); refine gl_ (some 8) Tryd.func60 #[.slice Ao5 l1.length co5] ?_; (with_reducible refine (dowelref01_trim.calls k (fun k_ => some k_ = (.slice Ao5 l1.length co5 : Value).ownBlock) (.slice Ao5 l1.length co5) l1 t450 w0 _ ?side1 ?side2 A3.out).mono ?_); (case side1 => exact below_up HB.out); (case side2 => exact Kd.R_tight rfl HO1.out); rintro e w6 ⟨v451, rfl, ho0, hb, hkp⟩; refine ⟨_, rfl, ?_⟩; have HO452 := Aside0.mk (Kd.R_mono (ok' := fun k_ => (P1_ k_ ∨ w.heap.size ≤ k_)) ho0 (fun k_ hk_ => Or.elim hk_ (fun hs_ => (HO1.out.1 k_ (hs_).symm)) (fun hn_ => (.inr (Nat.le_trans (by first | exact HK.out.1 | exact (show Kept w _ (fun k_ => P1_ k_) from by repeat (first | (with_reducible first | exact HK.out | apply Kept.alloc | apply Kept.drewN | apply Kept.drew) | exact HK.out)).1) hn_))))); replace HK := Aside0.mk (Kept.then_ (S := (fun k_ => P1_ k_)) (kept_up HK.out) hkp (fun k_ hs_ => (fun e_ => (HO1.out.1 k_ e_.symm)) hs_)); replace HB := Aside0.mk (hb); clear HO1; (try clear hb); (try clear hkp); (try clear ho0); obtain ⟨Ao7, co7, eo7⟩ := Kd.R_slice HO452.out; subst eo7))
  go_ret
  exact ⟨by first | rfl | (simp [errW_none, errW_some] <;> rfl) | (simp [*, errW_none, errW_some] <;> rfl), by repeat (first | (with_reducible first | exact HB.out | apply below_alloc | apply pw_below_drewN | apply below_drew1) | exact HB.out), by repeat (first | (with_reducible first | exact HK.out | apply Kept.alloc | apply Kept.drewN | apply Kept.drew) | exact HK.out)⟩
 ·
  rw [if_neg c4] at H
  have c4b0 : ((t450.length : Int) == 0) = false := beq_eq_false_iff_ne.mpr c4
  have c4b1 : ((t450.length : Int) != 0) = true := bne_iff_ne.mpr c4
  have c4b2 : ¬ (t450 = []) := fun h_ => c4 (by rw [h_]; rfl)
  have HC8 := Aside0.mk H
  clear H
  obtain ⟨Ao9, co9, eo9⟩ := Kd.R_slice HO1.out
  subst eo9
  go_enter Tryd.func51, Tryd.ntmps51
  go_upto_if 12 with (first | ((with_reducible refine gate_callee (f := 60) rfl ?_); refine gl_ (some 8) Tryd.func60 #[.slice Ao9 l1.length co9] ?_; (with_reducible refine (dowelref01_trim.calls k (fun k_ => some k_ = (.slice Ao9 l1.length co9 : Value).ownBlock) (.slice Ao9 l1.length co9) l1 t450 w0 _ ?side1 ?side2 A3.out).mono ?_); (case side1 => exact below_up HB.out); (case side2 => exact Kd.R_tight rfl HO1.out); rintro e w10 ⟨v451, rfl, ho0, hb, hkp⟩; refine ⟨_, rfl, ?_⟩; have HO452 := Aside0.mk (Kd.R_mono (ok' := fun k_ => (P1_ k_ ∨ w.heap.size ≤ k_)) ho0 (fun k_ hk_ => Or.elim hk_ (fun hs_ => (HO1.out.1 k_ (hs_).symm)) (fun hn_ => (.inr (Nat.le_trans (by first | exact HK.out.1 | exact (show Kept w _ (fun k_ => P1_ k_) from by repeat (first | (with_reducible first | exact HK.out | apply Kept.alloc | apply Kept.drewN | apply Kept.drew) | exact HK.out)).1) hn_))))); replace HK := Aside0.mk (Kept.then_ (S := (fun k_ => P1_ k_)) (kept_up HK.out) hkp (fun k_ hs_ => (fun e_ => (HO1.out.1 k_ e_.symm)) hs_)); replace HB := Aside0.mk (hb); clear HO1; (try clear hb); (try clear hkp); (try clear ho0); obtain ⟨Ao11, co11, eo11⟩ := Kd.R_slice HO452.out; subst eo11))
  (try simp only [Act.put, List.setIfInBounds_toArray, List.set_cons_zero, List.set_cons_succ])
  go_cut [5] (fun v5 wc => ∃ (kq : Nat) (x5_7 : List Int), Aside0 (dowelref01_text.j0 kq t450 x5_7 = some r) ∧ Aside0 (kq ≤ k) ∧ Aside0 (Kd.R (Kd.int .i64) 3 wc w0.heap.size (fun k_ => (P1_ k_ ∨ w.heap.size ≤ k_)) (.slice Ao11 t450.length co11) t450) ∧ Aside0 (Kd.R (Kd.int .u8) 5 wc w0.heap.size (fun k_ => (P1_ k_ ∨ w.heap.size ≤ k_)) v5 x5_7) ∧ Aside0 (Kept w wc (fun k_ => P1_ k_)) ∧ Aside0 (Below w0.heap.size w0 wc))
  case first =>
   have H := HC8.out
   clear HC8
   by_cases c12 : a0 = true
   ·
    subst c12
    have H1 : (if ([] : List Int).length < 140737488355328 then (dowelref01_text.j0 k t450 (([] : List Int) ++ [45])) else (none)) = some r := by rw [if_pos rfl] at H; exact H
    clear H
    have H := H1
    clear H1
    obtain ⟨c13, H⟩ := ite_some H
    have LMc13 := Aside0.mk c13
    clear c13
    obtain ⟨y453, hy453⟩ : ∃ y_ : List Int, y_ = (([] : List Int) ++ [45]) := ⟨_, rfl⟩
    replace H : (dowelref01_text.j0 k t450 y453) = some r := by first | (rw [hy453]; exact H) | exact H
    have Ny453 := Aside0.mk hy453
    clear hy453
    have H' := Aside0.mk H
    clear H
    go_wp2_with (first | ((with_reducible refine gate_builtin (b := .append) (xs := #[.tmp 13, .tmp 14]) rfl ?_); at_builtin; refine Kd.R_append (Kd.int .u8) (w0 := w0) w0.heap.size rfl (.tmp 13) (.tmp 14) 37 5 (.int .u8 0) 1 rfl Tryd.underlying37 info5 rfl (by decide) (by omega) (.slice none 0 0) ([] : List Int) 45 [.int .u8 45] (fun k_ => (P1_ k_ ∨ w.heap.size ≤ k_)) (fun _ => False) rfl rfl ?aP (fun _ hk => hk.elim) ?aF ?aO ?aB ?aS ?aL ?_; (case aP => exact rfl); (case aB => exact (below_up HB.out)); (case aF => exact (fun k_ hk => (.inr (Nat.le_trans (by first | exact HK.out.1 | exact (show Kept w _ (fun k_ => P1_ k_) from by repeat (first | (with_reducible first | exact HK.out | apply Kept.alloc | apply Kept.drewN | apply Kept.drew) | exact HK.out)).1) hk)))); (case aO => exact ((Kd.R_nil _ _ _ _ (fun k_ => (P1_ k_ ∨ w.heap.size ≤ k_))))); (case aS => exact (below_size (below_up HB.out))); (case aL => have := LMc13.out; omega); intro v454 w14 ho hb hg hat; rw [← Ny453.out] at ho; replace HO452 := Aside0.mk (Kd.R_grown (Kd.R_up HO452.out) hg (fun _ _ => by simp [Value.ownBlock])); replace HB := Aside0.mk (hb); replace HK := Aside0.mk (Kept.of_grown (S := (fun k_ => P1_ k_)) hg (kept_up HK.out) (fun k_ e_ => by simp [Value.ownBlock] at e_)); have HO455 := Aside0.mk (ho); clear ho hb hg hat))
    go_meet
    case rel => exact ⟨_, (y453), H', ⟨by first | omega | exact Nat.le_refl _⟩, ⟨Kd.R_up HO452.out⟩, ⟨Kd.R_up HO455.out⟩, ⟨by repeat (first | (with_reducible first | exact HK.out | apply Kept.alloc | apply Kept.drewN | apply Kept.drew) | exact HK.out)⟩, ⟨below_up HB.out⟩⟩
   ·
    replace c12 := Bool.eq_false_iff.mpr c12
    subst c12
    have H1 : (dowelref01_text.j0 k t450 ([] : List Int)) = some r := by rw [if_neg (show ¬ (false = true) by decide)] at H; exact H
    clear H
    have H := H1
    clear H1
    have H' := Aside0.mk H
    clear H
    go_wp2
    go_meet
    case rel => exact ⟨_, (([] : List Int)), H', ⟨by first | omega | exact Nat.le_refl _⟩, ⟨Kd.R_up HO452.out⟩, ⟨by first | exact Kd.R_nil _ _ _ _ _ | exact Kd.N_nil _ _ _ _ _ | exact Kd.V_nil _ _ _ _ _ | exact Kd.Q_nil _ _ _ _ _ | exact Kd.S_nil _ _ _ _ _⟩, ⟨by repeat (first | (with_reducible first | exact HK.out | apply Kept.alloc | apply Kept.drewN | apply Kept.drew) | exact HK.out)⟩, ⟨below_up HB.out⟩⟩
  case rest =>
   clear HC8
   obtain ⟨kq, x5_7, HA, HJ7, HO_1, HO_5, HK, HB⟩ := hcut
   cases kq with
   | zero => exact absurd HA.out (by simp [dowelref01_text.j0])
   | succ kj7 =>
    have H := HA.out
    clear HA
    simp only [dowelref01_text.j0] at H
    have H' := Aside0.mk H
    clear H
    go_wp2
    go_loopg [5, 6] kj7 (fun kq v5 v6 w' => ∃ (x5_2 : List Int) (x6_2 : Int), v6 = .int .i64 x6_2 ∧ Aside0 (dowelref01_text.l0 kq t450 x5_2 x6_2 = some r) ∧ Aside0 (kq ≤ kj7) ∧ Aside0 (Kd.R (Kd.int .i64) 3 w' w0.heap.size (fun k_ => (P1_ k_ ∨ w.heap.size ≤ k_)) (.slice Ao11 t450.length co11) t450) ∧ Aside0 (Kd.R (Kd.int .u8) 5 w' w0.heap.size (fun k_ => (P1_ k_ ∨ w.heap.size ≤ k_)) v5 x5_2) ∧ Aside0 (Kept w w' (fun k_ => P1_ k_)) ∧ Aside0 (Below w0.heap.size w0 w'))
    case atStart => exact ⟨(x5_7), (wrap64 ((t450.length : Int) - 1)), (by first | rfl | (simp; done) | (simp [*]; done) | (simp <;> omega)), H', ⟨Nat.le_refl _⟩, ⟨Kd.R_up HO_1.out⟩, ⟨Kd.R_up HO_5.out⟩, ⟨by repeat (first | (with_reducible first | exact HK.out | apply Kept.alloc | apply Kept.drewN | apply Kept.drew) | exact HK.out)⟩, ⟨below_up HB.out⟩⟩
    case round =>
     clear H'
     obtain ⟨x5_2, x6_2, rfl, HA, HK2, HO_1, HO_5, HK, HB⟩ := hrel
     cases gk with
     | zero => exact absurd HA.out (by simp [dowelref01_text.l0])
     | succ k2 =>
      have H := HA.out
      clear HA
      simp only [dowelref01_text.l0] at H
      by_cases c15 : x6_2 ≥ 0
      ·
       rw [if_pos c15] at H
       have c15b0 := decide_eq_true c15
       clear c15
       obtain ⟨c16, H⟩ := ite_some H
       have c16b0 := decide_eq_true c16
       clear c16
       obtain ⟨c17, H⟩ := ite_some H
       have c17b0 := decide_eq_true c17
       clear c17
       obtain ⟨c18, H⟩ := ite_some H
       have LMc18 := Aside0.mk c18
       clear c18
       obtain ⟨y457, hy457⟩ : ∃ y_ : List Int, y_ = (x5_2 ++ [(wrap64 (48 + (rd t450 x6_2))) % 256]) := ⟨_, rfl⟩
       replace H : (dowelref01_text.l0 k2 t450 y457 (wrap64 (x6_2 - 1))) = some r := by first | (rw [hy457]; exact H) | exact H
       have Ny457 := Aside0.mk hy457
       clear hy457
       have H' := Aside0.mk H
       clear H
       have p456 : 0 ≤ (x6_2 : Int) := of_decide_eq_true (by assumption)
       have q456 : x6_2 < (t450.length : Int) := of_decide_eq_true (by assumption)
       obtain ⟨ad456, e456, hx456_0⟩ := Kd.at_int (Kd.R_reads' HO_1.out).2.2 x6_2 p456 q456
       cases e456
       replace p456 := eq_true p456
       replace q456 := eq_true q456
       go_wp2_with (first | ((with_reducible refine gate_builtin (b := .append) (xs := #[.tmp 23, .tmp 30]) rfl ?_); at_builtin; refine Kd.R_append (Kd.int .u8) (w0 := w0) w0.heap.size rfl (.tmp 23) (.tmp 30) 37 5 (.int .u8 0) 1 rfl Tryd.underlying37 info5 rfl (by decide) (by omega) u5 x5_2 ((wrap64 (48 + (rd t450 x6_2))) % 256) [.int .u8 ((wrap64 (48 + (rd t450 x6_2))) % 256)] (fun k_ => (P1_ k_ ∨ w.heap.size ≤ k_)) (fun _ => False) rfl rfl ?aP (fun _ hk => hk.elim) ?aF ?aO ?aB ?aS ?aL ?_; (case aP => exact rfl); (case aB => exact (below_up HB.out)); (case aF => exact (fun k_ hk => (.inr (Nat.le_trans (by first | exact HK.out.1 | exact (show Kept w _ (fun k_ => P1_ k_) from by repeat (first | (with_reducible first | exact HK.out | apply Kept.alloc | apply Kept.drewN | apply Kept.drew) | exact HK.out)).1) hk)))); (case aO => exact (Kd.R_up HO_5.out)); (case aS => exact (below_size (below_up HB.out))); (case aL => have := LMc18.out; omega); intro v458 w19 ho hb hg hat; rw [← Ny457.out] at ho; replace HO_1 := Aside0.mk (Kd.R_over' (Kd.R_up HO_1.out) (Kd.R_typed (Kd.R_up HO_5.out)) (by decide) hg); replace HB := Aside0.mk (hb); replace HK := Aside0.mk (Kept.of_grown (S := (fun k_ => P1_ k_)) hg (kept_up HK.out) (fun k_ e_ => (HO_5.out.1 k_ e_))); have HO459 := Aside0.mk (ho); clear HO_5 ho hb hg hat))
       go_roundg k2
       case measure => have := HJ7.out; have := HK2.out; omega
       case rel => exact ⟨(y457), (wrap64 (x6_2 - 1)), (by first | rfl | (simp; done) | (simp [*]; done) | (simp <;> omega)), H', ⟨by have := HJ7.out; have := HK2.out; omega⟩, ⟨Kd.R_up HO_1.out⟩, ⟨Kd.R_up HO459.out⟩, ⟨by repeat (first | (with_reducible first | exact HK.out | apply Kept.alloc | apply Kept.drewN | apply Kept.drew) | exact HK.out)⟩, ⟨below_up HB.out⟩⟩
      ·
       rw [if_neg c15] at H
       have c15b0 := decide_eq_false c15
       clear c15
       obtain rfl := Option.some.inj H
       have hcv20 := own_string (P := Tryd.prog) Tryd.underlying37 Tryd.underlying5 Tryd.underlying9 (Kd.own_of_R HO_5.out)
       go_wp2
       go_ret
       exact ⟨by first | rfl | (simp [errW_none, errW_some] <;> rfl) | (simp [*, errW_none, errW_some] <;> rfl), by repeat (first | (with_reducible first | exact HB.out | apply below_alloc | apply pw_below_drewN | apply below_drew1) | exact HB.out), by repeat (first | (with_reducible first | exact HK.out | apply Kept.alloc | apply Kept.drewN | apply Kept.drew) | exact HK.out)⟩
def dowelref01_digits.l0 : Nat → ByteArray → List Int → Int → Option (List Int)
 | 0, _, _, _ => none
 | k + 1, x0, x3, x4 => if x4 ≥ 0 then (if 0 ≤ x4 then (if x4 < (x0.size : Int) then (if (bt x0 x4) = 45 then (dowelref01_digits.l0 k x0 x3 (wrap64 (x4 - 1))) else (if x3.length < 17592186044416 then (dowelref01_digits.l0 k x0 (x3 ++ [wrap64 ((wrap64 (bt x0 x4)) - 48)]) (wrap64 (x4 - 1))) else (none))) else (none)) else (none)) else ((dowelref01_trim.f k x3).bind fun t561 => (some t561))
def dowelref01_digits.f (k : Nat) (a0 : ByteArray) : Option (List Int) := dowelref01_digits.l0 k a0 ([] : List Int) (wrap64 ((a0.size : Int) - 1))
theorem dowelref01_digits.mono_l : ∀ k, (∀ y0 y1 y2, LeO (dowelref01_digits.l0 k y0 y1 y2) (dowelref01_digits.l0 (k + 1) y0 y1 y2))
 | 0 => fun _ _ _ r h => by simp [dowelref01_digits.l0] at h
 | k + 1 => by
  have ih0 := dowelref01_digits.mono_l k
  ·
   intro y0 y1 y2
   unfold dowelref01_digits.l0
   repeat' with_reducible first | exact ih0 _ _ _ | exact dowelref01_trim.mono _ _ | exact LeO.refl _ | exact LeO.none _ | refine LeO.ite ?_ ?_ | refine LeO.bind ?_ (fun _ => ?_)
theorem dowelref01_digits.mono : ∀ a0 k, LeO (dowelref01_digits.f k a0) (dowelref01_digits.f (k + 1) a0) := by
 intro a0 k
 have ih0 := dowelref01_digits.mono_l k
 unfold dowelref01_digits.f
 repeat' with_reducible first | exact ih0 _ _ _ | exact dowelref01_trim.mono _ _ | exact LeO.refl _ | exact LeO.none _ | refine LeO.ite ?_ ?_ | refine LeO.bind ?_ (fun _ => ?_)
set_option maxHeartbeats 8000000 in
set_option maxRecDepth 100000 in
theorem dowelref01_digits.calls (k : Nat) (a0 : ByteArray) (r : List Int) (w : World) (h : dowelref01_digits.f k a0 = some r) :
  Calls Tryd.prog 58 #[.string a0] w fun e w' => ∃ v0_ : Value, e = .returned (v0_) ∧ Kd.R (Kd.int .i64) 3 w' w.heap.size (fun _ => True) v0_ r ∧ Below w.heap.size w w' := by
 have HB := Aside0.mk (Below.refl w.heap.size w)
 have H := h
 unfold dowelref01_digits.f at H
 clear h
 have H' := Aside0.mk H
 clear H
 go_enter Tryd.func58, Tryd.ntmps58
 go_wp2
 go_loopg [3, 4] k (fun kq v3 v4 w' => ∃ (x3_1 : List Int) (x4_1 : Int), v4 = .int .i64 x4_1 ∧ Aside0 (dowelref01_digits.l0 kq a0 x3_1 x4_1 = some r) ∧ Aside0 (kq ≤ k) ∧ Aside0 (Kd.R (Kd.int .i64) 3 w' w.heap.size (fun _ => True) v3 x3_1) ∧ Aside0 (Below w.heap.size w w'))
 case atStart => exact ⟨(([] : List Int)), (wrap64 ((a0.size : Int) - 1)), (by first | rfl | (simp; done) | (simp [*]; done) | (simp <;> omega)), H', ⟨Nat.le_refl _⟩, ⟨by first | exact Kd.R_nil _ _ _ _ _ | exact Kd.N_nil _ _ _ _ _ | exact Kd.V_nil _ _ _ _ _ | exact Kd.Q_nil _ _ _ _ _ | exact Kd.S_nil _ _ _ _ _⟩, ⟨below_up HB.out⟩⟩
 case round =>
  clear H'
  obtain ⟨x3_1, x4_1, rfl, HA, HK1, HO_3, HB⟩ := hrel
  cases gk with
  | zero => exact absurd HA.out (by simp [dowelref01_digits.l0])
  | succ k1 =>
   have H := HA.out
   clear HA
   simp only [dowelref01_digits.l0] at H
   by_cases c2 : x4_1 ≥ 0
   ·
    rw [if_pos c2] at H
    have c2b0 := decide_eq_true c2
    clear c2
    obtain ⟨c3, H⟩ := ite_some H
    have c3b0 := decide_eq_true c3
    clear c3
    obtain ⟨c4, H⟩ := ite_some H
    have c4b0 := decide_eq_true c4
    clear c4
    by_cases c6 : (bt a0 x4_1) = 45
    ·
     rw [if_pos c6] at H
     have c6b0 : ((bt a0 x4_1) == 45) = true := beq_iff_eq.mpr c6
     have c6b1 : ((bt a0 x4_1) != 45) = false := bne_eq_false_iff_eq.mpr c6
     clear c6
     have H' := Aside0.mk H
     clear H
     have p5 : 0 ≤ (x4_1 : Int) := of_decide_eq_true (by assumption)
     have q5 : x4_1 < (a0.size : Int) := of_decide_eq_true (by assumption)
     have hx5 := bt_at a0 x4_1
     replace p5 := eq_true p5
     replace q5 := eq_true q5
     go_wp2
     go_roundg k1
     case measure => have := HK1.out; omega
     case rel => exact ⟨(x3_1), (wrap64 (x4_1 - 1)), (by first | rfl | (simp; done) | (simp [*]; done) | (simp <;> omega)), H', ⟨by have := HK1.out; omega⟩, ⟨Kd.R_up HO_3.out⟩, ⟨below_up HB.out⟩⟩
    ·
     rw [if_neg c6] at H
     have c6b0 : ((bt a0 x4_1) == 45) = false := beq_eq_false_iff_ne.mpr c6
     have c6b1 : ((bt a0 x4_1) != 45) = true := bne_iff_ne.mpr c6
     obtain ⟨c8, H⟩ := ite_some H
     have LMc8 := Aside0.mk c8
     clear c8
     obtain ⟨y558, hy558⟩ : ∃ y_ : List Int, y_ = (x3_1 ++ [wrap64 ((wrap64 (bt a0 x4_1)) - 48)]) := ⟨_, rfl⟩
     replace H : (dowelref01_digits.l0 k1 a0 y558 (wrap64 (x4_1 - 1))) = some r := by first | (rw [hy558]; exact H) | exact H
     have Ny558 := Aside0.mk hy558
     clear hy558
     have H' := Aside0.mk H
     clear H
     have p5 : 0 ≤ (x4_1 : Int) := of_decide_eq_true (by assumption)
     have q5 : x4_1 < (a0.size : Int) := of_decide_eq_true (by assumption)
     have hx5 := bt_at a0 x4_1
     replace p5 := eq_true p5
     replace q5 := eq_true q5
     have p7 : 0 ≤ (x4_1 : Int) := of_decide_eq_true (by assumption)
     have q7 : x4_1 < (a0.size : Int) := of_decide_eq_true (by assumption)
     have hx7 := bt_at a0 x4_1
     replace p7 := eq_true p7
     replace q7 := eq_true q7
     go_wp2_with (first | ((with_reducible refine gate_builtin (b := .append) (xs := #[.tmp 16, .tmp 22]) rfl ?_); at_builtin; refine Kd.R_append (Kd.int .i64) (w0 := w) w.heap.size rfl (.tmp 16) (.tmp 22) 67 3 (.int .i64 0) 8 rfl Tryd.underlying67 info3 rfl (by decide) (by omega) u3 x3_1 (wrap64 ((wrap64 (bt a0 x4_1)) - 48)) [.int .i64 (wrap64 ((wrap64 (bt a0 x4_1)) - 48))] (fun _ => True) (fun _ => False) rfl rfl ?aP (fun _ hk => hk.elim) ?aF ?aO ?aB ?aS ?aL ?_; (case aP => exact rfl); (case aB => exact (below_up HB.out)); (case aF => exact (fun _ _ => trivial)); (case aO => exact (Kd.R_up HO_3.out)); (case aS => exact (below_size (below_up HB.out))); (case aL => have := LMc8.out; omega); intro v559 w9 ho hb hg hat; rw [← Ny558.out] at ho; replace HB := Aside0.mk (hb); have HO560 := Aside0.mk (ho); clear HO_3 ho hb hg hat))
     go_roundg k1
     case measure => have := HK1.out; omega
     case rel => exact ⟨(y558), (wrap64 (x4_1 - 1)), (by first | rfl | (simp; done) | (simp [*]; done) | (simp <;> omega)), H', ⟨by have := HK1.out; omega⟩, ⟨Kd.R_up HO560.out⟩, ⟨below_up HB.out⟩⟩
   ·
    rw [if_neg c2] at H
    have c2b0 := decide_eq_false c2
    clear c2
    replace H := Option.bind_eq_some_iff.mp H
    obtain ⟨t561, A100, H⟩ := H
    try dsimp only at H
    have A10 := Aside0.mk A100
    clear A100
    obtain rfl := Option.some.inj H
    obtain ⟨Ao11, co11, eo11⟩ := Kd.R_slice HO_3.out
    subst eo11
    go_wp2_with (first | ((with_reducible refine gate_callee (f := 60) rfl ?_); refine gl_ (some 25) Tryd.func60 #[.slice Ao11 x3_1.length co11] ?_; (with_reducible refine (dowelref01_trim.calls k1 (fun k_ => some k_ = (.slice Ao11 x3_1.length co11 : Value).ownBlock) (.slice Ao11 x3_1.length co11) x3_1 t561 w _ ?side1 ?side2 A10.out).mono ?_); (case side1 => exact below_up HB.out); (case side2 => exact Kd.R_tight rfl HO_3.out); rintro e w12 ⟨v562, rfl, ho0, hb, hkp⟩; refine ⟨_, rfl, ?_⟩; have HO563 := Aside0.mk (Kd.R_mono (ok' := fun k_ => True) ho0 (fun k_ hk_ => trivial)); replace HB := Aside0.mk (hb); clear HO_3; (try clear hb); (try clear hkp); (try clear ho0)))
    go_ret
    exact ⟨_, by first | rfl | (simp [errW_none, errW_some] <;> rfl) | (simp [*, errW_none, errW_some] <;> rfl), Kd.R_up HO563.out, below_up HB.out⟩
def dowelref01_Sign.f (a0 : ByteArray) : Option (Int) := if a0.toList = ([48] : List UInt8) then (some 0) else (if 0 < (a0.size : Int) then (if (bt a0 0) = 45 then (some (-1)) else (some 1)) else (none))
set_option maxHeartbeats 8000000 in
set_option maxRecDepth 100000 in
theorem dowelref01_Sign.calls (a0 : ByteArray) (r : Int) (w : World) (h : dowelref01_Sign.f a0 = some r) :
  Calls Tryd.prog 33 #[.string a0] w fun e w' => e = .returned (.int .i64 r) ∧ Drawn0 w w' := by
 have H := h
 unfold dowelref01_Sign.f at H
 clear h
 by_cases c2 : a0.toList = ([48] : List UInt8)
 ·
  rw [if_pos c2] at H
  have c2b0 : (a0.toList == ([48] : List UInt8)) = true := beq_iff_eq.mpr c2
  have c2b1 : (a0.toList != ([48] : List UInt8)) = false := bne_eq_false_iff_eq.mpr c2
  clear c2
  obtain rfl := Option.some.inj H
  go_enter Tryd.func33, Tryd.ntmps33
  go_wp2
  go_ret
  exact ⟨by first | rfl | (simp; done) | (simp [*]; done) | (simp <;> omega), by repeat (first | exact Drawn0.refl _ | apply Drawn0.step)⟩
 ·
  rw [if_neg c2] at H
  have c2b0 : (a0.toList == ([48] : List UInt8)) = false := beq_eq_false_iff_ne.mpr c2
  have c2b1 : (a0.toList != ([48] : List UInt8)) = true := bne_iff_ne.mpr c2
  by_cases c3 : 0 < (a0.size : Int)
  ·
   rw [if_pos c3] at H
   have c3b0 := decide_eq_true c3
   have c3b1 : decide (0 < a0.size) = true := decide_eq_true (by omega)
   clear c3
   by_cases c5 : (bt a0 0) = 45
   ·
    rw [if_pos c5] at H
    have c5b0 : ((bt a0 0) == 45) = true := beq_iff_eq.mpr c5
    have c5b1 : ((bt a0 0) != 45) = false := bne_eq_false_iff_eq.mpr c5
    clear c5
    obtain rfl := Option.some.inj H
    have p4 : 0 ≤ (0 : Int) := (by omega)
    have q4 : 0 < a0.size := (by have : (0 : Int) < (a0.size : Int) := of_decide_eq_true (by assumption); omega)
    have hx4 : ∀ h : 0 < a0.size, ((a0[0]'h).toNat : Int) = bt a0 0 := bt_at a0 0
    clear p4
    have qi4 : (0 < (a0.size : Int)) = True := eq_true (of_decide_eq_true (by assumption))
    replace q4 := eq_true q4
    go_enter Tryd.func33, Tryd.ntmps33
    go_wp2
    go_ret
    exact ⟨by first | rfl | (simp; done) | (simp [*]; done) | (simp <;> omega), by repeat (first | exact Drawn0.refl _ | apply Drawn0.step)⟩
   ·
    rw [if_neg c5] at H
    have c5b0 : ((bt a0 0) == 45) = false := beq_eq_false_iff_ne.mpr c5
    have c5b1 : ((bt a0 0) != 45) = true := bne_iff_ne.mpr c5
    obtain rfl := Option.some.inj H
    have p4 : 0 ≤ (0 : Int) := (by omega)
    have q4 : 0 < a0.size := (by have : (0 : Int) < (a0.size : Int) := of_decide_eq_true (by assumption); omega)
    have hx4 : ∀ h : 0 < a0.size, ((a0[0]'h).toNat : Int) = bt a0 0 := bt_at a0 0
    clear p4
    have qi4 : (0 < (a0.size : Int)) = True := eq_true (of_decide_eq_true (by assumption))
    replace q4 := eq_true q4
    go_enter Tryd.func33, Tryd.ntmps33
    go_wp2
    go_ret
    exact ⟨by first | rfl | (simp; done) | (simp [*]; done) | (simp <;> omega), by repeat (first | exact Drawn0.refl _ | apply Drawn0.step)⟩
  ·
   rw [if_neg c3] at H
   exact absurd H (by simp)
def dowelref01_order.l0 : Nat → List Int → List Int → Int → Option (Int)
 | 0, _, _, _ => none
 | k + 1, x0, x1, x5 => if x5 ≥ 0 then (if 0 ≤ x5 then (if x5 < (x0.length : Int) then (if x5 < (x1.length : Int) then (if (rd x0 x5) < (rd x1 x5) then (some (-1)) else (if (rd x0 x5) > (rd x1 x5) then (some 1) else (dowelref01_order.l0 k x0 x1 (wrap64 (x5 - 1))))) else (none)) else (none)) else (none)) else (some 0)
def dowelref01_order.f (k : Nat) (l0 : List Int) (l1 : List Int) : Option (Int) := if (l0.length : Int) = (l1.length : Int) then (dowelref01_order.l0 k l0 l1 (wrap64 ((l0.length : Int) - 1))) else (if (l0.length : Int) < (l1.length : Int) then (some (-1)) else (some 1))
theorem dowelref01_order.mono_l : ∀ k, (∀ y0 y1 y2, LeO (dowelref01_order.l0 k y0 y1 y2) (dowelref01_order.l0 (k + 1) y0 y1 y2))
 | 0 => fun _ _ _ r h => by simp [dowelref01_order.l0] at h
 | k + 1 => by
  have ih0 := dowelref01_order.mono_l k
  ·
   intro y0 y1 y2
   unfold dowelref01_order.l0
   repeat' with_reducible first | exact ih0 _ _ _ | exact LeO.refl _ | exact LeO.none _ | refine LeO.ite ?_ ?_ | refine LeO.bind ?_ (fun _ => ?_)
theorem dowelref01_order.mono : ∀ a0 a1 k, LeO (dowelref01_order.f k a0 a1) (dowelref01_order.f (k + 1) a0 a1) := by
 intro a0 a1 k
 have ih0 := dowelref01_order.mono_l k
 unfold dowelref01_order.f
 repeat' with_reducible first | exact ih0 _ _ _ | exact LeO.refl _ | exact LeO.none _ | refine LeO.ite ?_ ?_ | refine LeO.bind ?_ (fun _ => ?_)
set_option maxHeartbeats 8000000 in
set_option maxRecDepth 100000 in
theorem dowelref01_order.calls (k : Nat) (A0 : Option Addr) (c0 : Nat) (l0 : List Int) (A1 : Option Addr) (c1 : Nat) (l1 : List Int) (r : Int) (w : World) (hr0 : Kd.C (Kd.int .i64) w A0 l0.length l0) (hc0 : l0.length ≤ c0) (hr1 : Kd.C (Kd.int .i64) w A1 l1.length l1) (hc1 : l1.length ≤ c1) (h : dowelref01_order.f k l0 l1 = some r) :
  Calls Tryd.prog 61 #[.slice A0 l0.length c0, .slice A1 l1.length c1] w fun e w' => e = .returned (.int .i64 r) ∧ Drawn0 w w' := by
 have HR0 := Aside0.mk hr0
 have HC0 := Aside0.mk hc0
 clear hr0 hc0
 have HR1 := Aside0.mk hr1
 have HC1 := Aside0.mk hc1
 clear hr1 hc1
 have H := h
 unfold dowelref01_order.f at H
 clear h
 by_cases c3 : (l0.length : Int) = (l1.length : Int)
 ·
  rw [if_pos c3] at H
  have c3b0 : ((l0.length : Int) == (l1.length : Int)) = true := beq_iff_eq.mpr c3
  have c3b1 : ((l0.length : Int) != (l1.length : Int)) = false := bne_eq_false_iff_eq.mpr c3
  have c3b2 : (l0.length == l1.length) = true := by first | simpa using c3 | (simp at c3 ⊢; omega)
  clear c3
  have H' := Aside0.mk H
  clear H
  go_enter Tryd.func61, Tryd.ntmps61
  go_wp2
  repeat (go_quiet (fail); try go_wp2)
  go_loopg [5] k (fun kq v5 w' => ∃ (x5_1 : Int), v5 = .int .i64 x5_1 ∧ Aside0 (dowelref01_order.l0 kq l0 l1 x5_1 = some r) ∧ Aside0 (kq ≤ k) ∧ Drawn0 w w')
  case atStart => exact ⟨(wrap64 ((l0.length : Int) - 1)), (by first | rfl | (simp; done) | (simp [*]; done) | (simp <;> omega)), H', ⟨Nat.le_refl _⟩, by repeat (first | exact Drawn0.refl _ | apply Drawn0.step)⟩
  case round =>
   clear H'
   obtain ⟨x5_1, rfl, HA, HK1, ⟨m1, rfl⟩⟩ := hrel
   cases gk with
   | zero => exact absurd HA.out (by simp [dowelref01_order.l0])
   | succ k1 =>
    have H := HA.out
    clear HA
    simp only [dowelref01_order.l0] at H
    by_cases c4 : x5_1 ≥ 0
    ·
     rw [if_pos c4] at H
     have c4b0 := decide_eq_true c4
     clear c4
     obtain ⟨c5, H⟩ := ite_some H
     have c5b0 := decide_eq_true c5
     clear c5
     obtain ⟨c6, H⟩ := ite_some H
     have c6b0 := decide_eq_true c6
     clear c6
     obtain ⟨c7, H⟩ := ite_some H
     have c7b0 := decide_eq_true c7
     clear c7
     by_cases c8 : (rd l0 x5_1) < (rd l1 x5_1)
     ·
      rw [if_pos c8] at H
      have c8b0 := decide_eq_true c8
      clear c8
      obtain rfl := Option.some.inj H
      have p609 : 0 ≤ (x5_1 : Int) := of_decide_eq_true (by assumption)
      have q609 : x5_1 < (l0.length : Int) := of_decide_eq_true (by assumption)
      obtain ⟨ad609, e609, hx609_0⟩ := Kd.at_int HR0.out x5_1 p609 q609
      cases e609
      replace p609 := eq_true p609
      replace q609 := eq_true q609
      have p610 : 0 ≤ (x5_1 : Int) := of_decide_eq_true (by assumption)
      have q610 : x5_1 < (l1.length : Int) := of_decide_eq_true (by assumption)
      obtain ⟨ad610, e610, hx610_0⟩ := Kd.at_int HR1.out x5_1 p610 q610
      cases e610
      replace p610 := eq_true p610
      replace q610 := eq_true q610
      go_wp2
      repeat (go_quiet (fail); try go_wp2)
      go_ret
      exact ⟨by first | rfl | (simp; done) | (simp [*]; done) | (simp <;> omega), by repeat (first | exact Drawn0.refl _ | apply Drawn0.step)⟩
     ·
      rw [if_neg c8] at H
      have c8b0 := decide_eq_false c8
      clear c8
      by_cases c9 : (rd l0 x5_1) > (rd l1 x5_1)
      ·
       rw [if_pos c9] at H
       have c9b0 := decide_eq_true c9
       clear c9
       obtain rfl := Option.some.inj H
       have p609 : 0 ≤ (x5_1 : Int) := of_decide_eq_true (by assumption)
       have q609 : x5_1 < (l0.length : Int) := of_decide_eq_true (by assumption)
       obtain ⟨ad609, e609, hx609_0⟩ := Kd.at_int HR0.out x5_1 p609 q609
       cases e609
       replace p609 := eq_true p609
       replace q609 := eq_true q609
       have p610 : 0 ≤ (x5_1 : Int) := of_decide_eq_true (by assumption)
       have q610 : x5_1 < (l1.length : Int) := of_decide_eq_true (by assumption)
       obtain ⟨ad610, e610, hx610_0⟩ := Kd.at_int HR1.out x5_1 p610 q610
       cases e610
       replace p610 := eq_true p610
       replace q610 := eq_true q610
       have p611 : 0 ≤ (x5_1 : Int) := of_decide_eq_true (by assumption)
       have q611 : x5_1 < (l0.length : Int) := of_decide_eq_true (by assumption)
       obtain ⟨ad611, e611, hx611_0⟩ := Kd.at_int HR0.out x5_1 p611 q611
       obtain rfl : ad609 = ad611 := (by injection e611)
       replace p611 := eq_true p611
       replace q611 := eq_true q611
       have p612 : 0 ≤ (x5_1 : Int) := of_decide_eq_true (by assumption)
       have q612 : x5_1 < (l1.length : Int) := of_decide_eq_true (by assumption)
       obtain ⟨ad612, e612, hx612_0⟩ := Kd.at_int HR1.out x5_1 p612 q612
       obtain rfl : ad610 = ad612 := (by injection e612)
       replace p612 := eq_true p612
       replace q612 := eq_true q612
       go_wp2
       repeat (go_quiet (fail); try go_wp2)
       go_ret
       exact ⟨by first | rfl | (simp; done) | (simp [*]; done) | (simp <;> omega), by repeat (first | exact Drawn0.refl _ | apply Drawn0.step)⟩
      ·
       rw [if_neg c9] at H
       have c9b0 := decide_eq_false c9
       clear c9
       have H' := Aside0.mk H
       clear H
       have p609 : 0 ≤ (x5_1 : Int) := of_decide_eq_true (by assumption)
       have q609 : x5_1 < (l0.length : Int) := of_decide_eq_true (by assumption)
       obtain ⟨ad609, e609, hx609_0⟩ := Kd.at_int HR0.out x5_1 p609 q609
       cases e609
       replace p609 := eq_true p609
       replace q609 := eq_true q609
       have p610 : 0 ≤ (x5_1 : Int) := of_decide_eq_true (by assumption)
       have q610 : x5_1 < (l1.length : Int) := of_decide_eq_true (by assumption)
       obtain ⟨ad610, e610, hx610_0⟩ := Kd.at_int HR1.out x5_1 p610 q610
       cases e610
       replace p610 := eq_true p610
       replace q610 := eq_true q610
       have p611 : 0 ≤ (x5_1 : Int) := of_decide_eq_true (by assumption)
       have q611 : x5_1 < (l0.length : Int) := of_decide_eq_true (by assumption)
       obtain ⟨ad611, e611, hx611_0⟩ := Kd.at_int HR0.out x5_1 p611 q611
       obtain rfl : ad609 = ad611 := (by injection e611)
       replace p611 := eq_true p611
       replace q611 := eq_true q611
       have p612 : 0 ≤ (x5_1 : Int) := of_decide_eq_true (by assumption)
       have q612 : x5_1 < (l1.length : Int) := of_decide_eq_true (by assumption)
       obtain ⟨ad612, e612, hx612_0⟩ := Kd.at_int HR1.out x5_1 p612 q612
       obtain rfl : ad610 = ad612 := (by injection e612)
       replace p612 := eq_true p612
       replace q612 := eq_true q612
       go_wp2
       repeat (go_quiet (fail); try go_wp2)
       go_roundg k1
       case measure => have := HK1.out; omega
       case rel => exact ⟨(wrap64 (x5_1 - 1)), (by first | rfl | (simp; done) | (simp [*]; done) | (simp <;> omega)), H', ⟨by have := HK1.out; omega⟩, by repeat (first | exact Drawn0.refl _ | apply Drawn0.step)⟩
    ·
     rw [if_neg c4] at H
     have c4b0 := decide_eq_false c4
     clear c4
     obtain rfl := Option.some.inj H
     go_wp2
     repeat (go_quiet (fail); try go_wp2)
     go_ret
     exact ⟨by first | rfl | (simp; done) | (simp [*]; done) | (simp <;> omega), by repeat (first | exact Drawn0.refl _ | apply Drawn0.step)⟩
 ·
  rw [if_neg c3] at H
  have c3b0 : ((l0.length : Int) == (l1.length : Int)) = false := beq_eq_false_iff_ne.mpr c3
  have c3b1 : ((l0.length : Int) != (l1.length : Int)) = true := bne_iff_ne.mpr c3
  have c3b2 : (l0.length == l1.length) = false := by first | simpa using c3 | (simp at c3 ⊢; omega)
  by_cases c10 : (l0.length : Int) < (l1.length : Int)
  ·
   rw [if_pos c10] at H
   have c10b0 := decide_eq_true c10
   have c10b1 : decide (l0.length < l1.length) = true := decide_eq_true (Int.ofNat_lt.mp c10)
   clear c10
   obtain rfl := Option.some.inj H
   go_enter Tryd.func61, Tryd.ntmps61
   go_wp2
   repeat (go_quiet (fail); try go_wp2)
   go_ret
   exact ⟨by first | rfl | (simp; done) | (simp [*]; done) | (simp <;> omega), by repeat (first | exact Drawn0.refl _ | apply Drawn0.step)⟩
  ·
   rw [if_neg c10] at H
   have c10b0 := decide_eq_false c10
   have c10b1 : decide (l0.length < l1.length) = false := decide_eq_false (fun h => c10 (Int.ofNat_lt.mpr h))
   clear c10
   obtain rfl := Option.some.inj H
   go_enter Tryd.func61, Tryd.ntmps61
   go_wp2
   repeat (go_quiet (fail); try go_wp2)
   go_ret
   exact ⟨by first | rfl | (simp; done) | (simp [*]; done) | (simp <;> omega), by repeat (first | exact Drawn0.refl _ | apply Drawn0.step)⟩
def dowelref01_minus.l0 : Nat → List Int → List Int → List Int → Int → Int → Option (List Int)
 | 0, _, _, _, _, _ => none
 | k + 1, x0, x1, x5, x6, x7 => if x7 < (x0.length : Int) then (if 0 ≤ x7 then (if x7 < (x1.length : Int) then (if (wrap64 ((wrap64 ((rd x0 x7) - x6)) - (rd x1 x7))) < 0 then (if x5.length < 17592186044416 then (dowelref01_minus.l0 k x0 x1 (x5 ++ [wrap64 ((wrap64 ((wrap64 ((rd x0 x7) - x6)) - (rd x1 x7))) + 10)]) 1 (wrap64 (x7 + 1))) else (none)) else (if x5.length < 17592186044416 then (dowelref01_minus.l0 k x0 x1 (x5 ++ [wrap64 ((wrap64 ((rd x0 x7) - x6)) - (rd x1 x7))]) 0 (wrap64 (x7 + 1))) else (none))) else (if (wrap64 ((rd x0 x7) - x6)) < 0 then (if x5.length < 17592186044416 then (dowelref01_minus.l0 k x0 x1 (x5 ++ [wrap64 ((wrap64 ((rd x0 x7) - x6)) + 10)]) 1 (wrap64 (x7 + 1))) else (none)) else (if x5.length < 17592186044416 then (dowelref01_minus.l0 k x0 x1 (x5 ++ [wrap64 ((rd x0 x7) - x6)]) 0 (wrap64 (x7 + 1))) else (none)))) else (none)) else ((dowelref01_trim.f k x5).bind fun t613 => (some t613))
def dowelref01_minus.f (k : Nat) (l0 : List Int) (l1 : List Int) : Option (List Int) := dowelref01_minus.l0 k l0 l1 ([] : List Int) 0 0
theorem dowelref01_minus.mono_l : ∀ k, (∀ y0 y1 y2 y3 y4, LeO (dowelref01_minus.l0 k y0 y1 y2 y3 y4) (dowelref01_minus.l0 (k + 1) y0 y1 y2 y3 y4))
 | 0 => fun _ _ _ _ _ r h => by simp [dowelref01_minus.l0] at h
 | k + 1 => by
  have ih0 := dowelref01_minus.mono_l k
  ·
   intro y0 y1 y2 y3 y4
   unfold dowelref01_minus.l0
   repeat' with_reducible first | exact ih0 _ _ _ _ _ | exact dowelref01_trim.mono _ _ | exact LeO.refl _ | exact LeO.none _ | refine LeO.ite ?_ ?_ | refine LeO.bind ?_ (fun _ => ?_)
theorem dowelref01_minus.mono : ∀ a0 a1 k, LeO (dowelref01_minus.f k a0 a1) (dowelref01_minus.f (k + 1) a0 a1) := by
 intro a0 a1 k
 have ih0 := dowelref01_minus.mono_l k
 unfold dowelref01_minus.f
 repeat' with_reducible first | exact ih0 _ _ _ _ _ | exact dowelref01_trim.mono _ _ | exact LeO.refl _ | exact LeO.none _ | refine LeO.ite ?_ ?_ | refine LeO.bind ?_ (fun _ => ?_)
set_option maxHeartbeats 8000000 in
set_option maxRecDepth 100000 in
theorem dowelref01_minus.calls (k : Nat) (A0 : Option Addr) (c0 : Nat) (l0 : List Int) (A1 : Option Addr) (c1 : Nat) (l1 : List Int) (r : List Int) (w : World) (hr0 : Kd.C (Kd.int .i64) w A0 l0.length l0) (hc0 : l0.length ≤ c0) (hr1 : Kd.C (Kd.int .i64) w A1 l1.length l1) (hc1 : l1.length ≤ c1) (h : dowelref01_minus.f k l0 l1 = some r) :
  Calls Tryd.prog 62 #[.slice A0 l0.length c0, .slice A1 l1.length c1] w fun e w' => ∃ v0_ : Value, e = .returned (v0_) ∧ Kd.R (Kd.int .i64) 3 w' w.heap.size (fun _ => True) v0_ r ∧ Below w.heap.size w w' := by
 have HR0 := Aside0.mk hr0
 have HC0 := Aside0.mk hc0
 clear hr0 hc0
 have HR1 := Aside0.mk hr1
 have HC1 := Aside0.mk hc1
 clear hr1 hc1
 have HB := Aside0.mk (Below.refl w.heap.size w)
 have H := h
 unfold dowelref01_minus.f at H
 clear h
 have H' := Aside0.mk H
 clear H
 go_enter Tryd.func62, Tryd.ntmps62
 go_wp2
 go_loopg [5, 6, 7] k (fun kq v5 v6 v7 w' => ∃ (x5_1 : List Int) (x6_1 : Int) (x7_1 : Int), v6 = .int .i64 x6_1 ∧ v7 = .int .i64 x7_1 ∧ Aside0 (dowelref01_minus.l0 kq l0 l1 x5_1 x6_1 x7_1 = some r) ∧ Aside0 (kq ≤ k) ∧ Aside0 (Kd.R (Kd.int .i64) 3 w' w.heap.size (fun _ => True) v5 x5_1) ∧ Aside0 (Below w.heap.size w w'))
 case atStart => exact ⟨(([] : List Int)), (0), (0), (by first | rfl | (simp; done) | (simp [*]; done) | (simp <;> omega)), (by first | rfl | (simp; done) | (simp [*]; done) | (simp <;> omega)), H', ⟨Nat.le_refl _⟩, ⟨by first | exact Kd.R_nil _ _ _ _ _ | exact Kd.N_nil _ _ _ _ _ | exact Kd.V_nil _ _ _ _ _ | exact Kd.Q_nil _ _ _ _ _ | exact Kd.S_nil _ _ _ _ _⟩, ⟨below_up HB.out⟩⟩
 case round =>
  clear H'
  obtain ⟨x5_1, x6_1, x7_1, rfl, rfl, HA, HK1, HO_5, HB⟩ := hrel
  cases gk with
  | zero => exact absurd HA.out (by simp [dowelref01_minus.l0])
  | succ k1 =>
   have H := HA.out
   clear HA
   simp only [dowelref01_minus.l0] at H
   by_cases c3 : x7_1 < (l0.length : Int)
   ·
    rw [if_pos c3] at H
    have c3b0 := decide_eq_true c3
    clear c3
    obtain ⟨c4, H⟩ := ite_some H
    have c4b0 := decide_eq_true c4
    clear c4
    by_cases c5 : x7_1 < (l1.length : Int)
    ·
     rw [if_pos c5] at H
     have c5b0 := decide_eq_true c5
     clear c5
     by_cases c6 : (wrap64 ((wrap64 ((rd l0 x7_1) - x6_1)) - (rd l1 x7_1))) < 0
     ·
      rw [if_pos c6] at H
      have c6b0 := decide_eq_true c6
      clear c6
      obtain ⟨c7, H⟩ := ite_some H
      have LMc7 := Aside0.mk c7
      clear c7
      obtain ⟨y618, hy618⟩ : ∃ y_ : List Int, y_ = (x5_1 ++ [wrap64 ((wrap64 ((wrap64 ((rd l0 x7_1) - x6_1)) - (rd l1 x7_1))) + 10)]) := ⟨_, rfl⟩
      replace H : (dowelref01_minus.l0 k1 l0 l1 y618 1 (wrap64 (x7_1 + 1))) = some r := by first | (rw [hy618]; exact H) | exact H
      have Ny618 := Aside0.mk hy618
      clear hy618
      have H' := Aside0.mk H
      clear H
      have p616 : 0 ≤ (x7_1 : Int) := of_decide_eq_true (by assumption)
      have q616 : x7_1 < (l0.length : Int) := of_decide_eq_true (by assumption)
      obtain ⟨ad616, e616, hx616_0⟩ := Kd.at_int HR0.out x7_1 p616 q616
      cases e616
      replace hx616_0 := (HB.out.cell (World.block_lt_of_cell? w _ hx616_0)).trans hx616_0
      replace p616 := eq_true p616
      replace q616 := eq_true q616
      have p617 : 0 ≤ (x7_1 : Int) := of_decide_eq_true (by assumption)
      have q617 : x7_1 < (l1.length : Int) := of_decide_eq_true (by assumption)
      obtain ⟨ad617, e617, hx617_0⟩ := Kd.at_int HR1.out x7_1 p617 q617
      cases e617
      replace hx617_0 := (HB.out.cell (World.block_lt_of_cell? w _ hx617_0)).trans hx617_0
      replace p617 := eq_true p617
      replace q617 := eq_true q617
      go_wp2_with (first | ((with_reducible refine gate_builtin (b := .append) (xs := #[.tmp 35, .tmp 37]) rfl ?_); at_builtin; refine Kd.R_append (Kd.int .i64) (w0 := w) w.heap.size rfl (.tmp 35) (.tmp 37) 67 3 (.int .i64 0) 8 rfl Tryd.underlying67 info3 rfl (by decide) (by omega) u5 x5_1 (wrap64 ((wrap64 ((wrap64 ((rd l0 x7_1) - x6_1)) - (rd l1 x7_1))) + 10)) [.int .i64 (wrap64 ((wrap64 ((wrap64 ((rd l0 x7_1) - x6_1)) - (rd l1 x7_1))) + 10))] (fun _ => True) (fun _ => False) rfl rfl ?aP (fun _ hk => hk.elim) ?aF ?aO ?aB ?aS ?aL ?_; (case aP => exact rfl); (case aB => exact (below_up HB.out)); (case aF => exact (fun _ _ => trivial)); (case aO => exact (Kd.R_up HO_5.out)); (case aS => exact (below_size (below_up HB.out))); (case aL => have := LMc7.out; omega); intro v619 w8 ho hb hg hat; rw [← Ny618.out] at ho; replace HB := Aside0.mk (hb); have HO620 := Aside0.mk (ho); clear HO_5 ho hb hg hat))
      go_roundg k1
      case measure => have := HK1.out; omega
      case rel => exact ⟨(y618), (1), (wrap64 (x7_1 + 1)), (by first | rfl | (simp; done) | (simp [*]; done) | (simp <;> omega)), (by first | rfl | (simp; done) | (simp [*]; done) | (simp <;> omega)), H', ⟨by have := HK1.out; omega⟩, ⟨Kd.R_up HO620.out⟩, ⟨below_up HB.out⟩⟩
     ·
      rw [if_neg c6] at H
      have c6b0 := decide_eq_false c6
      clear c6
      obtain ⟨c9, H⟩ := ite_some H
      have LMc9 := Aside0.mk c9
      clear c9
      obtain ⟨y621, hy621⟩ : ∃ y_ : List Int, y_ = (x5_1 ++ [wrap64 ((wrap64 ((rd l0 x7_1) - x6_1)) - (rd l1 x7_1))]) := ⟨_, rfl⟩
      replace H : (dowelref01_minus.l0 k1 l0 l1 y621 0 (wrap64 (x7_1 + 1))) = some r := by first | (rw [hy621]; exact H) | exact H
      have Ny621 := Aside0.mk hy621
      clear hy621
      have H' := Aside0.mk H
      clear H
      have p616 : 0 ≤ (x7_1 : Int) := of_decide_eq_true (by assumption)
      have q616 : x7_1 < (l0.length : Int) := of_decide_eq_true (by assumption)
      obtain ⟨ad616, e616, hx616_0⟩ := Kd.at_int HR0.out x7_1 p616 q616
      cases e616
      replace hx616_0 := (HB.out.cell (World.block_lt_of_cell? w _ hx616_0)).trans hx616_0
      replace p616 := eq_true p616
      replace q616 := eq_true q616
      have p617 : 0 ≤ (x7_1 : Int) := of_decide_eq_true (by assumption)
      have q617 : x7_1 < (l1.length : Int) := of_decide_eq_true (by assumption)
      obtain ⟨ad617, e617, hx617_0⟩ := Kd.at_int HR1.out x7_1 p617 q617
      cases e617
      replace hx617_0 := (HB.out.cell (World.block_lt_of_cell? w _ hx617_0)).trans hx617_0
      replace p617 := eq_true p617
      replace q617 := eq_true q617
      go_wp2_with (first | ((with_reducible refine gate_builtin (b := .append) (xs := #[.tmp 35, .tmp 37]) rfl ?_); at_builtin; refine Kd.R_append (Kd.int .i64) (w0 := w) w.heap.size rfl (.tmp 35) (.tmp 37) 67 3 (.int .i64 0) 8 rfl Tryd.underlying67 info3 rfl (by decide) (by omega) u5 x5_1 (wrap64 ((wrap64 ((rd l0 x7_1) - x6_1)) - (rd l1 x7_1))) [.int .i64 (wrap64 ((wrap64 ((rd l0 x7_1) - x6_1)) - (rd l1 x7_1)))] (fun _ => True) (fun _ => False) rfl rfl ?aP (fun _ hk => hk.elim) ?aF ?aO ?aB ?aS ?aL ?_; (case aP => exact rfl); (case aB => exact (below_up HB.out)); (case aF => exact (fun _ _ => trivial)); (case aO => exact (Kd.R_up HO_5.out)); (case aS => exact (below_size (below_up HB.out))); (case aL => have := LMc9.out; omega); intro v622 w10 ho hb hg hat; rw [← Ny621.out] at ho; replace HB := Aside0.mk (hb); have HO623 := Aside0.mk (ho); clear HO_5 ho hb hg hat))
      go_roundg k1
      case measure => have := HK1.out; omega
      case rel => exact ⟨(y621), (0), (wrap64 (x7_1 + 1)), (by first | rfl | (simp; done) | (simp [*]; done) | (simp <;> omega)), (by first | rfl | (simp; done) | (simp [*]; done) | (simp <;> omega)), H', ⟨by have := HK1.out; omega⟩, ⟨Kd.R_up HO623.out⟩, ⟨below_up HB.out⟩⟩
    ·
     rw [if_neg c5] at H
     have c5b0 := decide_eq_false c5
     clear c5
     by_cases c11 : (wrap64 ((rd l0 x7_1) - x6_1)) < 0
     ·
      rw [if_pos c11] at H
      have c11b0 := decide_eq_true c11
      clear c11
      obtain ⟨c12, H⟩ := ite_some H
      have LMc12 := Aside0.mk c12
      clear c12
      obtain ⟨y624, hy624⟩ : ∃ y_ : List Int, y_ = (x5_1 ++ [wrap64 ((wrap64 ((rd l0 x7_1) - x6_1)) + 10)]) := ⟨_, rfl⟩
      replace H : (dowelref01_minus.l0 k1 l0 l1 y624 1 (wrap64 (x7_1 + 1))) = some r := by first | (rw [hy624]; exact H) | exact H
      have Ny624 := Aside0.mk hy624
      clear hy624
      have H' := Aside0.mk H
      clear H
      have p616 : 0 ≤ (x7_1 : Int) := of_decide_eq_true (by assumption)
      have q616 : x7_1 < (l0.length : Int) := of_decide_eq_true (by assumption)
      obtain ⟨ad616, e616, hx616_0⟩ := Kd.at_int HR0.out x7_1 p616 q616
      cases e616
      replace hx616_0 := (HB.out.cell (World.block_lt_of_cell? w _ hx616_0)).trans hx616_0
      replace p616 := eq_true p616
      replace q616 := eq_true q616
      go_wp2_with (first | ((with_reducible refine gate_builtin (b := .append) (xs := #[.tmp 35, .tmp 37]) rfl ?_); at_builtin; refine Kd.R_append (Kd.int .i64) (w0 := w) w.heap.size rfl (.tmp 35) (.tmp 37) 67 3 (.int .i64 0) 8 rfl Tryd.underlying67 info3 rfl (by decide) (by omega) u5 x5_1 (wrap64 ((wrap64 ((rd l0 x7_1) - x6_1)) + 10)) [.int .i64 (wrap64 ((wrap64 ((rd l0 x7_1) - x6_1)) + 10))] (fun _ => True) (fun _ => False) rfl rfl ?aP (fun _ hk => hk.elim) ?aF ?aO ?aB ?aS ?aL ?_; (case aP => exact rfl); (case aB => exact (below_up HB.out)); (case aF => exact (fun _ _ => trivial)); (case aO => exact (Kd.R_up HO_5.out)); (case aS => exact (below_size (below_up HB.out))); (case aL => have := LMc12.out; omega); intro v625 w13 ho hb hg hat; rw [← Ny624.out] at ho; replace HB := Aside0.mk (hb); have HO626 := Aside0.mk (ho); clear HO_5 ho hb hg hat))
      go_roundg k1
      case measure => have := HK1.out; omega
      case rel => exact ⟨(y624), (1), (wrap64 (x7_1 + 1)), (by first | rfl | (simp; done) | (simp [*]; done) | (simp <;> omega)), (by first | rfl | (simp; done) | (simp [*]; done) | (simp <;> omega)), H', ⟨by have := HK1.out; omega⟩, ⟨Kd.R_up HO626.out⟩, ⟨below_up HB.out⟩⟩
     ·
      rw [if_neg c11] at H
      have c11b0 := decide_eq_false c11
      clear c11
      obtain ⟨c14, H⟩ := ite_some H
      have LMc14 := Aside0.mk c14
      clear c14
      obtain ⟨y627, hy627⟩ : ∃ y_ : List Int, y_ = (x5_1 ++ [wrap64 ((rd l0 x7_1) - x6_1)]) := ⟨_, rfl⟩
      replace H : (dowelref01_minus.l0 k1 l0 l1 y627 0 (wrap64 (x7_1 + 1))) = some r := by first | (rw [hy627]; exact H) | exact H
      have Ny627 := Aside0.mk hy627
      clear hy627
      have H' := Aside0.mk H
      clear H
      have p616 : 0 ≤ (x7_1 : Int) := of_decide_eq_true (by assumption)
      have q616 : x7_1 < (l0.length : Int) := of_decide_eq_true (by assumption)
      obtain ⟨ad616, e616, hx616_0⟩ := Kd.at_int HR0.out x7_1 p616 q616
      cases e616
      replace hx616_0 := (HB.out.cell (World.block_lt_of_cell? w _ hx616_0)).trans hx616_0
      replace p616 := eq_true p616
      replace q616 := eq_true q616
      go_wp2_with (first | ((with_reducible refine gate_builtin (b := .append) (xs := #[.tmp 35, .tmp 37]) rfl ?_); at_builtin; refine Kd.R_append (Kd.int .i64) (w0 := w) w.heap.size rfl (.tmp 35) (.tmp 37) 67 3 (.int .i64 0) 8 rfl Tryd.underlying67 info3 rfl (by decide) (by omega) u5 x5_1 (wrap64 ((rd l0 x7_1) - x6_1)) [.int .i64 (wrap64 ((rd l0 x7_1) - x6_1))] (fun _ => True) (fun _ => False) rfl rfl ?aP (fun _ hk => hk.elim) ?aF ?aO ?aB ?aS ?aL ?_; (case aP => exact rfl); (case aB => exact (below_up HB.out)); (case aF => exact (fun _ _ => trivial)); (case aO => exact (Kd.R_up HO_5.out)); (case aS => exact (below_size (below_up HB.out))); (case aL => have := LMc14.out; omega); intro v628 w15 ho hb hg hat; rw [← Ny627.out] at ho; replace HB := Aside0.mk (hb); have HO629 := Aside0.mk (ho); clear HO_5 ho hb hg hat))
      go_roundg k1
      case measure => have := HK1.out; omega
      case rel => exact ⟨(y627), (0), (wrap64 (x7_1 + 1)), (by first | rfl | (simp; done) | (simp [*]; done) | (simp <;> omega)), (by first | rfl | (simp; done) | (simp [*]; done) | (simp <;> omega)), H', ⟨by have := HK1.out; omega⟩, ⟨Kd.R_up HO629.out⟩, ⟨below_up HB.out⟩⟩
   ·
    rw [if_neg c3] at H
    have c3b0 := decide_eq_false c3
    clear c3
    replace H := Option.bind_eq_some_iff.mp H
    obtain ⟨t613, A160, H⟩ := H
    try dsimp only at H
    have A16 := Aside0.mk A160
    clear A160
    obtain rfl := Option.some.inj H
    obtain ⟨Ao17, co17, eo17⟩ := Kd.R_slice HO_5.out
    subst eo17
    go_wp2_with (first | ((with_reducible refine gate_callee (f := 60) rfl ?_); refine gl_ (some 40) Tryd.func60 #[.slice Ao17 x5_1.length co17] ?_; (with_reducible refine (dowelref01_trim.calls k1 (fun k_ => some k_ = (.slice Ao17 x5_1.length co17 : Value).ownBlock) (.slice Ao17 x5_1.length co17) x5_1 t613 w _ ?side1 ?side2 A16.out).mono ?_); (case side1 => exact below_up HB.out); (case side2 => exact Kd.R_tight rfl HO_5.out); rintro e w18 ⟨v614, rfl, ho0, hb, hkp⟩; refine ⟨_, rfl, ?_⟩; have HO615 := Aside0.mk (Kd.R_mono (ok' := fun k_ => True) ho0 (fun k_ hk_ => trivial)); replace HB := Aside0.mk (hb); clear HO_5; (try clear hb); (try clear hkp); (try clear ho0)))
    go_ret
    exact ⟨_, by first | rfl | (simp [errW_none, errW_some] <;> rfl) | (simp [*, errW_none, errW_some] <;> rfl), Kd.R_up HO615.out, below_up HB.out⟩
end Go.Proofs.YtiikfhdmclmjmaaDoor.P
