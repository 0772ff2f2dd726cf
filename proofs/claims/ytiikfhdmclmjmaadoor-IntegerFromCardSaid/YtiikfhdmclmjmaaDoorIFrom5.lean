/- Part 5 of the proof of IntegerFrom: what the program's functions compute, told as plain functions, and what these answer. Conditions: none beside the statement's own. Gathered by the session's program merge.py out of its own and the printed texts; no declaration that the proof does not name is left in. -/
import Derived.Test.YtiikfhdmclmjmaaDoorIFrom4
namespace Go.Proofs.YtiikfhdmclmjmaaDoor.P
open Go.RowKit Go.Proofs.YtiikfhdmclmjmaaDoorW.PrintWords Go.Proofs.YtiikfhdmclmjmaaDoorW.PrintLast
set_option linter.unusedVariables false
set_option linter.unusedSimpArgs false
mutual
def integer_Power.j0 : Nat → Int → Bool → Bool → List Int → Option (Bool × List Int × Int)
  | 0, _, _, _, _ => none
  | k + 1, x1, x12, x348000, x348001 => if x12 = true then (some (false, ([] : List Int), 2)) else ((integer_From.f k 1).bind fun bt349 => (integer_Power.l0 k x1 0 x348000 x348001 bt349.1 bt349.2))
def integer_Power.l0 : Nat → Int → Int → Bool → List Int → Bool → List Int → Option (Bool × List Int × Int)
  | 0, _, _, _, _, _, _ => none
  | k + 1, x15, x16, x348000, x348001, x354000, x354001 => if x16 < x15 then ((integer_Mul.f k x354000 x354001 x348000 x348001).bind fun bt354 => (integer_Power.l0 k x15 (wrap64 (x16 + 1)) x348000 x348001 bt354.1 bt354.2)) else (some (x354000, x354001, 0))
end
def integer_Power.f (k : Nat) (a0_0 : Bool) (l0_1 : List Int) (a1 : Int) : Option (Bool × List Int × Int) := if a1 < 0 then (integer_Power.j0 k a1 true a0_0 l0_1) else (integer_Power.j0 k a1 (decide (a1 > 64)) a0_0 l0_1)
theorem integer_Power.mono_l : ∀ k, (∀ y0 y1 y2 y3, LeO (integer_Power.j0 k y0 y1 y2 y3) (integer_Power.j0 (k + 1) y0 y1 y2 y3)) ∧ (∀ y0 y1 y2 y3 y4 y5, LeO (integer_Power.l0 k y0 y1 y2 y3 y4 y5) (integer_Power.l0 (k + 1) y0 y1 y2 y3 y4 y5))
  | 0 => ⟨fun _ _ _ _ r h => by simp [integer_Power.j0] at h, fun _ _ _ _ _ _ r h => by simp [integer_Power.l0] at h⟩
  | k + 1 => by
    obtain ⟨ih0, ih1⟩ := integer_Power.mono_l k
    refine ⟨?_, ?_⟩
    · intro y0 y1 y2 y3
      unfold integer_Power.j0
      repeat' first
      | (with_reducible exact ih0 _ _ _ _)
      | (with_reducible exact ih1 _ _ _ _ _ _)
      | (with_reducible exact integer_From.mono _ _)
      | (with_reducible exact integer_Mul.mono _ _ _ _ _)
      | (with_reducible exact LeO.refl _)
      | (with_reducible exact LeO.none _)
      | (with_reducible refine LeO.ite ?_ ?_)
      | (with_reducible refine LeO.bind ?_ (fun _ => ?_))
      | exact ih0 _ _ _ _
      | exact ih1 _ _ _ _ _ _
      | exact integer_From.mono _ _
      | exact integer_Mul.mono _ _ _ _ _
      | exact LeO.none _
      | refine LeO.ite ?_ ?_
      | refine LeO.bind ?_ (fun _ => ?_)
    · intro y0 y1 y2 y3 y4 y5
      unfold integer_Power.l0
      repeat' first
      | (with_reducible exact ih0 _ _ _ _)
      | (with_reducible exact ih1 _ _ _ _ _ _)
      | (with_reducible exact integer_From.mono _ _)
      | (with_reducible exact integer_Mul.mono _ _ _ _ _)
      | (with_reducible exact LeO.refl _)
      | (with_reducible exact LeO.none _)
      | (with_reducible refine LeO.ite ?_ ?_)
      | (with_reducible refine LeO.bind ?_ (fun _ => ?_))
      | exact ih0 _ _ _ _
      | exact ih1 _ _ _ _ _ _
      | exact integer_From.mono _ _
      | exact integer_Mul.mono _ _ _ _ _
      | exact LeO.none _
      | refine LeO.ite ?_ ?_
      | refine LeO.bind ?_ (fun _ => ?_)
theorem integer_Power.mono : ∀ a0 a1 a2 k, LeO (integer_Power.f k a0 a1 a2) (integer_Power.f (k + 1) a0 a1 a2) := by
  intro a0 a1 a2 k
  obtain ⟨ih0, ih1⟩ := integer_Power.mono_l k
  unfold integer_Power.f
  repeat' first
      | (with_reducible exact ih0 _ _ _ _)
      | (with_reducible exact ih1 _ _ _ _ _ _)
      | (with_reducible exact integer_From.mono _ _)
      | (with_reducible exact integer_Mul.mono _ _ _ _ _)
      | (with_reducible exact LeO.refl _)
      | (with_reducible exact LeO.none _)
      | (with_reducible refine LeO.ite ?_ ?_)
      | (with_reducible refine LeO.bind ?_ (fun _ => ?_))
      | exact ih0 _ _ _ _
      | exact ih1 _ _ _ _ _ _
      | exact integer_From.mono _ _
      | exact integer_Mul.mono _ _ _ _ _
      | exact LeO.none _
      | refine LeO.ite ?_ ?_
      | refine LeO.bind ?_ (fun _ => ?_)
set_option maxHeartbeats 8000000 in
set_option maxRecDepth 100000 in
theorem integer_Power.calls (k : Nat) (a0_0 : Bool) (A0_1 : Option Addr) (c0_1 : Nat) (l0_1 : List Int) (a1 : Int) (r1 : Bool) (r2 : List Int) (r3 : Int) (w : World) (hr0_1 : Kd.C (Kd.int .u32) w A0_1 l0_1.length l0_1) (hc0_1 : l0_1.length ≤ c0_1) (h : integer_Power.f k a0_0 l0_1 a1 = some (r1, r2, r3)) :
    Calls Tryd.prog 31 #[.agg #[.bool a0_0, .slice A0_1 l0_1.length c0_1], .int .i64 a1] w fun e w' => ∃ v1_ : Value, e = .returned (.tuple #[.agg #[.bool r1, v1_], .int .i64 r3]) ∧ Kd.V (Kd.int .u32) 60 w' w.heap.size (fun k_ => (w.heap.size ≤ k_)) v1_ r2 ∧ Below w.heap.size w w' := by
  have hu25 := Tryd.underlying25
  have HR0_1 := Aside0.mk hr0_1
  have HC0_1 := Aside0.mk hc0_1
  clear hr0_1 hc0_1
  have HB := Aside0.mk (Below.refl w.heap.size w)
  have H : (if a1 < 0 then (integer_Power.j0 k a1 true a0_0 l0_1) else (integer_Power.j0 k a1 (decide (a1 > 64)) a0_0 l0_1)) = some (r1, r2, r3) := h
  clear h
  have HC3 := Aside0.mk H
  clear H
  go_enter Tryd.func31, Tryd.ntmps31
  go_upto_region 1 with (first | ((with_reducible refine gate_dst (N := 2) rfl ?_); refine box_event ?hg (N := 2) ?hd (cs := #[.bool a0_0, .slice A0_1 l0_1.length c0_1]) (t := 25) ?hr ?_; (case hd => rfl); (case hg => rfl); (case hr => first | (go_simp; done) | (go_simp; rfl)); intro gb347 hg w4 hbox hb; have n0_ := Aside0.mk (below_step (by repeat (first | (with_reducible first | exact HB.out | apply below_alloc | apply pw_below_drewN | apply below_drew1) | exact HB.out)) hb); have n1_ := Aside0.mk (hbox); have n2_ := Aside0.mk ((by rw [hg]; exact (below_size (by repeat (first | (with_reducible first | exact HB.out | apply below_alloc | apply pw_below_drewN | apply below_drew1) | exact HB.out))) : w.heap.size ≤ gb347)); have n3_ := Aside0.mk ((by rw [hg]; exact (below_size (by repeat (first | (with_reducible first | exact HB.out | apply below_alloc | apply pw_below_drewN | apply below_drew1) | exact HB.out))) : w.heap.size ≤ gb347)); clear HB; have HB := n0_; have BK347 := n1_; have GW347 := n2_; have GE347 := n3_; clear n0_ n1_ n2_ n3_; clear hb hbox hg) | ((with_reducible refine gate_dst (N := 4) rfl ?_); refine box_event ?hg (N := 4) ?hd (cs := #[.bool false, .slice none 0 0]) (t := 25) ?hr ?_; (case hd => rfl); (case hg => rfl); (case hr => first | (go_simp; done) | (go_simp; rfl)); intro gb348 hg w5 hbox hb; have n0_ := Aside0.mk (blk_below (g := gb347) (o := .cells #[.bool a0_0, .slice A0_1 l0_1.length c0_1] 25 (0, 0)) (by (with_reducible repeat (first | refine blk_drewN ?_ _ | refine blk_drew ?_ | refine blk_alloc ?_ _)); exact BK347.out) hb); have n1_ := Aside0.mk (below_step (by repeat (first | (with_reducible first | exact HB.out | apply below_alloc | apply pw_below_drewN | apply below_drew1 | refine below_set ?_ GE347.out) | exact HB.out)) hb); have n2_ := Aside0.mk (hbox); have n3_ := Aside0.mk ((by rw [hg]; exact (below_size (by repeat (first | (with_reducible first | exact HB.out | apply below_alloc | apply pw_below_drewN | apply below_drew1 | refine below_set ?_ GE347.out) | exact HB.out))) : w.heap.size ≤ gb348)); have n4_ := Aside0.mk ((by rw [hg]; exact (below_size (by repeat (first | (with_reducible first | exact HB.out | apply below_alloc | apply pw_below_drewN | apply below_drew1 | refine below_set ?_ GE347.out) | exact HB.out))) : w.heap.size ≤ gb348)); have n5_ := Aside0.mk ((by rw [hg]; exact Nat.ne_of_lt (blk_lt (g := gb347) (o := .cells #[.bool a0_0, .slice A0_1 l0_1.length c0_1] 25 (0, 0)) (by (with_reducible repeat (first | refine blk_drewN ?_ _ | refine blk_drew ?_ | refine blk_alloc ?_ _)); exact BK347.out)) : gb347 ≠ gb348)); have n6_ := Aside0.mk ((by rw [hg]; exact Nat.ne_of_gt (blk_lt (g := gb347) (o := .cells #[.bool a0_0, .slice A0_1 l0_1.length c0_1] 25 (0, 0)) (by (with_reducible repeat (first | refine blk_drewN ?_ _ | refine blk_drew ?_ | refine blk_alloc ?_ _)); exact BK347.out)) : gb348 ≠ gb347)); clear BK347; clear HB; have BK347 := n0_; have HB := n1_; have BK348 := n2_; have GW348 := n3_; have GE348 := n4_; have NB347_348 := n5_; have NB348_347 := n6_; clear n0_ n1_ n2_ n3_ n4_ n5_ n6_; clear hb hbox hg))
  (try simp only [Act.put, List.setIfInBounds_toArray, List.set_cons_zero, List.set_cons_succ])
  go_cut [12] (fun v12 wc => ∃ (kq : Nat) (x12_2 : Bool), v12 = .bool x12_2 ∧ Aside0 (integer_Power.j0 kq a1 x12_2 a0_0 l0_1 = some (r1, r2, r3)) ∧ Aside0 (kq ≤ k) ∧ Aside0 (wc.heap[gb347]? = some (.cells #[.bool a0_0, (.slice A0_1 l0_1.length c0_1)] 25 (0, 0))) ∧ Aside0 (wc.heap[gb348]? = some (.cells #[.bool false, (.slice none 0 0)] 25 (0, 0))) ∧ Aside0 (Below w.heap.size w wc))
  case first =>
    have H := HC3.out
    clear HC3
    by_cases c6 : a1 < 0
    · rw [if_pos c6] at H
      have c6b0 : decide (a1 < 0) = true := decide_eq_true c6
      clear c6
      (first | rw [c6b0] | (simp only [i64_w, i32_w]; rw [c6b0]) | skip)
      have H' := Aside0.mk H
      clear H
      go_wp2
      go_meet
      case rel => exact ⟨_, (true), (by first | rfl | (simp; done) | (simp [*]; done)), H', ⟨by first | omega | exact Nat.le_refl _⟩, ⟨by (with_reducible repeat (first | refine blk_drewN ?_ _ | refine blk_drew ?_ | refine blk_alloc ?_ _)); exact BK347.out⟩, ⟨by (with_reducible repeat (first | refine blk_drewN ?_ _ | refine blk_drew ?_ | refine blk_alloc ?_ _)); exact BK348.out⟩, ⟨by repeat (first | (with_reducible first | exact HB.out | apply below_alloc | apply pw_below_drewN | apply below_drew1 | refine below_set ?_ GE347.out | refine below_set ?_ GE348.out) | exact HB.out)⟩⟩
    · rw [if_neg c6] at H
      have c6b0 : decide (a1 < 0) = false := decide_eq_false c6
      clear c6
      (first | rw [c6b0] | (simp only [i64_w, i32_w]; rw [c6b0]) | skip)
      have H' := Aside0.mk H
      clear H
      go_wp2
      go_meet
      case rel => exact ⟨_, (decide (a1 > 64)), (by first | rfl | (simp; done) | (simp [*]; done)), H', ⟨by first | omega | exact Nat.le_refl _⟩, ⟨by (with_reducible repeat (first | refine blk_drewN ?_ _ | refine blk_drew ?_ | refine blk_alloc ?_ _)); exact BK347.out⟩, ⟨by (with_reducible repeat (first | refine blk_drewN ?_ _ | refine blk_drew ?_ | refine blk_alloc ?_ _)); exact BK348.out⟩, ⟨by repeat (first | (with_reducible first | exact HB.out | apply below_alloc | apply pw_below_drewN | apply below_drew1 | refine below_set ?_ GE347.out | refine below_set ?_ GE348.out) | exact HB.out)⟩⟩
  case rest =>
    clear HC3
    try clear p2
    try clear c3
    try clear c6
    try clear c6b0
    obtain ⟨kq, x12_2, rfl, HA, HJ2, BK347, BK348, HB⟩ := hcut
    cases kq with
    | zero => exact absurd HA.out (by simp [integer_Power.j0])
    | succ kj2 =>
      have H := HA.out
      clear HA
      simp only [integer_Power.j0] at H
      by_cases c7 : x12_2 = true
      · subst c7
        have H1 : (some (false, ([] : List Int), 2)) = some (r1, r2, r3) := by rw [if_pos rfl] at H; exact H
        clear H
        have H := H1
        clear H1
        simp only [Option.some.injEq, Prod.mk.injEq] at H
        obtain ⟨rfl, rfl, rfl⟩ := H
        have hnb8 := NB348_347.out
        have hnc8 := NB347_348.out
        have hcz9_0 : wc.cell? ⟨gb348, 0, none⟩ = some (.bool false) := (blk_cell BK348.out 0).trans rfl
        have hcz9_1 : wc.cell? ⟨gb348, 1, none⟩ = some (.slice none 0 0) := (blk_cell BK348.out 1).trans rfl
        have hfz9_0 := blk_frozen BK348.out 0
        have hfz9_1 := blk_frozen BK348.out 1
        go_wp2
        refine bodyPost_ret (results_ct rfl _ _ gb348 25 #[.bool false, .slice none 0 0] (0, 0) _ rfl (by (with_reducible repeat (first | refine blk_drewN ?_ _ | refine blk_drew ?_ | refine blk_alloc ?_ _)); refine blk_put (cs := #[.bool false, .slice none 0 0]) ?_ 1 _ rfl; (with_reducible repeat (first | refine blk_drewN ?_ _ | refine blk_drew ?_ | refine blk_alloc ?_ _)); refine blk_put (cs := #[.bool false, .slice none 0 0]) ?_ 0 _ rfl; (with_reducible repeat (first | refine blk_drewN ?_ _ | refine blk_drew ?_ | refine blk_alloc ?_ _)); exact BK348.out) Tryd.underlying25 rfl (by kernel_rfl)) rfl ?_
        exact ⟨_, by first | rfl | (simp [errW_none, errW_some] <;> rfl) | (simp [*, errW_none, errW_some] <;> rfl), by first | exact Kd.R_nil _ _ _ _ _ | exact Kd.N_nil _ _ _ _ _ | exact Kd.V_nil _ _ _ _ _ | exact Kd.Q_nil _ _ _ _ _ | exact Kd.S_nil _ _ _ _ _, by repeat (first | (with_reducible first | exact HB.out | apply below_alloc | apply pw_below_drewN | apply below_drew1 | refine below_set ?_ GE347.out | refine below_set ?_ GE348.out) | exact HB.out)⟩
      · replace c7 := Bool.eq_false_iff.mpr c7
        subst c7
        have H1 : ((integer_From.f kj2 1).bind fun bt349 => (integer_Power.l0 kj2 a1 0 a0_0 l0_1 bt349.1 bt349.2)) = some (r1, r2, r3) := by rw [if_neg (show ¬ (false = true) by decide)] at H; exact H
        clear H
        have H := H1
        clear H1
        replace H := Option.bind_eq_some_iff.mp H
        obtain ⟨⟨t349, t350⟩, A100, H⟩ := H
        replace H : (integer_Power.l0 kj2 a1 0 a0_0 l0_1 t349 t350) = some (r1, r2, r3) := H
        have A10 := Aside0.mk A100
        clear A100
        have H' := Aside0.mk H
        clear H
        go_wp2_with (first | ((with_reducible refine gate_callee (f := 15) rfl ?_); refine goesL_ (some 14) rfl rfl Tryd.func15 (by kernel_rfl) rfl #[.int .i64 1] rfl (by (try simp only [List.map_toArray, List.map_cons, List.map_nil]); first | done | rfl | (simp only [List.length_drop, List.length_take]; rfl)) ?_; (with_reducible refine (integer_From.calls kj2 1 t349 t350 _ A10.out).mono ?_); rintro e w11 ⟨v351, rfl, ho0, hb⟩; refine ⟨_, rfl, ?_⟩; have n0_ := Aside0.mk (Kd.V_lower (Kd.V_mono (ok' := fun k_ => (w.heap.size ≤ k_) ∧ k_ ≠ gb347 ∧ k_ ≠ gb348) ho0 (fun k_ hk_ => ⟨(Nat.le_trans (below_size (by repeat (first | (with_reducible first | exact HB.out | apply below_alloc | apply pw_below_drewN | apply below_drew1 | refine below_set ?_ GE347.out | refine below_set ?_ GE348.out) | exact HB.out))) hk_), (Kd.freshB (g := gb347) (o := .cells #[.bool a0_0, .slice A0_1 l0_1.length c0_1] 25 (0, 0)) (by (with_reducible repeat (first | refine blk_drewN ?_ _ | refine blk_drew ?_ | refine blk_alloc ?_ _)); exact BK347.out) k_ hk_), (Kd.freshB (g := gb348) (o := .cells #[.bool false, .slice none 0 0] 25 (0, 0)) (by (with_reducible repeat (first | refine blk_drewN ?_ _ | refine blk_drew ?_ | refine blk_alloc ?_ _)); exact BK348.out) k_ hk_)⟩)) (below_size (by repeat (first | (with_reducible first | exact HB.out | apply below_alloc | apply pw_below_drewN | apply below_drew1 | refine below_set ?_ GE347.out | refine below_set ?_ GE348.out) | exact HB.out)))); have n1_ := Aside0.mk (blk_below (g := gb347) (o := .cells #[.bool a0_0, .slice A0_1 l0_1.length c0_1] 25 (0, 0)) (by (with_reducible repeat (first | refine blk_drewN ?_ _ | refine blk_drew ?_ | refine blk_alloc ?_ _)); exact BK347.out) hb); have n2_ := Aside0.mk (blk_below (g := gb348) (o := .cells #[.bool false, .slice none 0 0] 25 (0, 0)) (by (with_reducible repeat (first | refine blk_drewN ?_ _ | refine blk_drew ?_ | refine blk_alloc ?_ _)); exact BK348.out) hb); have n3_ := Aside0.mk (below_step (by repeat (first | (with_reducible first | exact HB.out | apply below_alloc | apply pw_below_drewN | apply below_drew1 | refine below_set ?_ GE347.out | refine below_set ?_ GE348.out) | exact HB.out)) hb); clear BK347; clear BK348; clear HB; have HO352 := n0_; have BK347 := n1_; have BK348 := n2_; have HB := n3_; clear n0_ n1_ n2_ n3_; (try clear hb); (try clear hb2); (try clear hk); (try clear hi); (try clear ho0)) | ((with_reducible refine gate_dst (N := 6) rfl ?_); refine box_event ?hg (N := 6) ?hd (cs := #[.bool false, .slice none 0 0]) (t := 25) ?hr ?_; (case hd => rfl); (case hg => rfl); (case hr => first | (go_simp; done) | (go_simp; rfl)); intro gb353 hg w12 hbox hb; have n0_ := Aside0.mk (Kd.V_below (Kd.V_elderB (by (with_reducible repeat (first | apply Kd.V_alloc | apply Kd.V_drewN | apply Kd.V_drew)); exact HO352.out) gb353 (Nat.le_of_eq hg.symm)) hb); have n1_ := Aside0.mk (blk_below (g := gb347) (o := .cells #[.bool a0_0, .slice A0_1 l0_1.length c0_1] 25 (0, 0)) (by (with_reducible repeat (first | refine blk_drewN ?_ _ | refine blk_drew ?_ | refine blk_alloc ?_ _)); exact BK347.out) hb); have n2_ := Aside0.mk (blk_below (g := gb348) (o := .cells #[.bool false, .slice none 0 0] 25 (0, 0)) (by (with_reducible repeat (first | refine blk_drewN ?_ _ | refine blk_drew ?_ | refine blk_alloc ?_ _)); exact BK348.out) hb); have n3_ := Aside0.mk (below_step (by repeat (first | (with_reducible first | exact HB.out | apply below_alloc | apply pw_below_drewN | apply below_drew1 | refine below_set ?_ GE347.out | refine below_set ?_ GE348.out) | exact HB.out)) hb); have n4_ := Aside0.mk (hbox); have n5_ := Aside0.mk ((by rw [hg]; exact (below_size (by repeat (first | (with_reducible first | exact HB.out | apply below_alloc | apply pw_below_drewN | apply below_drew1 | refine below_set ?_ GE347.out | refine below_set ?_ GE348.out) | exact HB.out))) : w.heap.size ≤ gb353)); have n6_ := Aside0.mk ((by rw [hg]; exact (below_size (by repeat (first | (with_reducible first | exact HB.out | apply below_alloc | apply pw_below_drewN | apply below_drew1 | refine below_set ?_ GE347.out | refine below_set ?_ GE348.out) | exact HB.out))) : w.heap.size ≤ gb353)); have n7_ := Aside0.mk ((by rw [hg]; exact Nat.ne_of_lt (blk_lt (g := gb347) (o := .cells #[.bool a0_0, .slice A0_1 l0_1.length c0_1] 25 (0, 0)) (by (with_reducible repeat (first | refine blk_drewN ?_ _ | refine blk_drew ?_ | refine blk_alloc ?_ _)); exact BK347.out)) : gb347 ≠ gb353)); have n8_ := Aside0.mk ((by rw [hg]; exact Nat.ne_of_gt (blk_lt (g := gb347) (o := .cells #[.bool a0_0, .slice A0_1 l0_1.length c0_1] 25 (0, 0)) (by (with_reducible repeat (first | refine blk_drewN ?_ _ | refine blk_drew ?_ | refine blk_alloc ?_ _)); exact BK347.out)) : gb353 ≠ gb347)); have n9_ := Aside0.mk ((by rw [hg]; exact Nat.ne_of_lt (blk_lt (g := gb348) (o := .cells #[.bool false, .slice none 0 0] 25 (0, 0)) (by (with_reducible repeat (first | refine blk_drewN ?_ _ | refine blk_drew ?_ | refine blk_alloc ?_ _)); exact BK348.out)) : gb348 ≠ gb353)); have n10_ := Aside0.mk ((by rw [hg]; exact Nat.ne_of_gt (blk_lt (g := gb348) (o := .cells #[.bool false, .slice none 0 0] 25 (0, 0)) (by (with_reducible repeat (first | refine blk_drewN ?_ _ | refine blk_drew ?_ | refine blk_alloc ?_ _)); exact BK348.out)) : gb353 ≠ gb348)); clear HO352; clear BK347; clear BK348; clear HB; have HO352 := n0_; have BK347 := n1_; have BK348 := n2_; have HB := n3_; have BK353 := n4_; have GW353 := n5_; have GE353 := n6_; have NB347_353 := n7_; have NB353_347 := n8_; have NB348_353 := n9_; have NB353_348 := n10_; clear n0_ n1_ n2_ n3_ n4_ n5_ n6_ n7_ n8_ n9_ n10_; clear hb hbox hg; have hnb13 := NB353_347.out; have hnc13 := NB347_353.out; have hnb14 := NB353_348.out; have hnc14 := NB348_353.out; have hcz15_0 : w12.cell? ⟨gb353, 0, none⟩ = some (.bool false) := (blk_cell BK353.out 0).trans rfl; have hcz15_1 : w12.cell? ⟨gb353, 1, none⟩ = some (.slice none 0 0) := (blk_cell BK353.out 1).trans rfl; have hfz15_0 := blk_frozen BK353.out 0; have hfz15_1 := blk_frozen BK353.out 1; obtain ⟨Ao16, co16, eo16⟩ := Kd.V_slice HO352.out; subst eo16))
        go_loopg [16] kj2 (fun kq v16 w' => ∃ (x16_2 : Int) (x354000_2 : Bool) (x354001_2 : List Int) (u354001 : Value), v16 = .int .i64 x16_2 ∧ Aside0 (integer_Power.l0 kq a1 x16_2 a0_0 l0_1 x354000_2 x354001_2 = some (r1, r2, r3)) ∧ Aside0 (kq ≤ kj2) ∧ Aside0 (Kd.V (Kd.int .u32) 60 w' w.heap.size (fun k_ => (w.heap.size ≤ k_) ∧ k_ ≠ gb347 ∧ k_ ≠ gb348 ∧ k_ ≠ gb353) u354001 x354001_2) ∧ Aside0 (w'.heap[gb347]? = some (.cells #[.bool a0_0, (.slice A0_1 l0_1.length c0_1)] 25 (0, 0))) ∧ Aside0 (w'.heap[gb348]? = some (.cells #[.bool false, (.slice none 0 0)] 25 (0, 0))) ∧ Aside0 (w'.heap[gb353]? = some (.cells #[.bool x354000_2, u354001] 25 (0, 0))) ∧ Aside0 (Below w.heap.size w w'))
        case atStart => exact ⟨(0), (t349), (t350), (.slice Ao16 t350.length co16), (by first | rfl | (simp; done) | (simp [*]; done)), H', ⟨Nat.le_refl _⟩, ⟨by (with_reducible repeat (first | apply Kd.V_alloc | apply Kd.V_drewN | apply Kd.V_drew)); exact Kd.V_mono (Kd.V_far (p := ⟨gb353, 1, none⟩) (Kd.V_far (p := ⟨gb353, 0, none⟩) (Kd.V_mono HO352.out (fun k_ hk => (⟨hk, hk.2⟩ : _ ∧ k_ ≠ gb353))) (fun _ hk => hk.2) (.bool t349)) (fun _ hk => hk.2) (.slice Ao16 t350.length co16)) (fun _ hk => ⟨hk.1.1.1, ⟨hk.1.1.2.1, ⟨hk.1.1.2.2, hk.1.2⟩⟩⟩)⟩, ⟨by (with_reducible repeat (first | refine blk_drewN ?_ _ | refine blk_drew ?_ | refine blk_alloc ?_ _)); refine blk_far ?_ NB347_353.out _; (with_reducible repeat (first | refine blk_drewN ?_ _ | refine blk_drew ?_ | refine blk_alloc ?_ _)); refine blk_far ?_ NB347_353.out _; (with_reducible repeat (first | refine blk_drewN ?_ _ | refine blk_drew ?_ | refine blk_alloc ?_ _)); exact BK347.out⟩, ⟨by (with_reducible repeat (first | refine blk_drewN ?_ _ | refine blk_drew ?_ | refine blk_alloc ?_ _)); refine blk_far ?_ NB348_353.out _; (with_reducible repeat (first | refine blk_drewN ?_ _ | refine blk_drew ?_ | refine blk_alloc ?_ _)); refine blk_far ?_ NB348_353.out _; (with_reducible repeat (first | refine blk_drewN ?_ _ | refine blk_drew ?_ | refine blk_alloc ?_ _)); exact BK348.out⟩, ⟨by (with_reducible repeat (first | refine blk_drewN ?_ _ | refine blk_drew ?_ | refine blk_alloc ?_ _)); refine blk_put (cs := #[.bool t349, .slice none 0 0]) ?_ 1 _ rfl; (with_reducible repeat (first | refine blk_drewN ?_ _ | refine blk_drew ?_ | refine blk_alloc ?_ _)); refine blk_put (cs := #[.bool false, .slice none 0 0]) ?_ 0 _ rfl; (with_reducible repeat (first | refine blk_drewN ?_ _ | refine blk_drew ?_ | refine blk_alloc ?_ _)); exact BK353.out⟩, ⟨by repeat (first | (with_reducible first | exact HB.out | apply below_alloc | apply pw_below_drewN | apply below_drew1 | refine below_set ?_ GE347.out | refine below_set ?_ GE348.out | refine below_set ?_ GE353.out) | exact HB.out)⟩⟩
        case round =>
          clear H'
          try clear c1
          try clear p2
          try clear c3
          try clear c6
          try clear c6b0
          try clear c7
          try clear c8
          try clear c13
          try clear c14
          try clear c15
          try clear hcz15_0
          try clear hcz15_1
          try clear hcz9_0
          try clear hcz9_1
          try clear hfz15_0
          try clear hfz15_1
          try clear hfz9_0
          try clear hfz9_1
          try clear p2
          obtain ⟨x16_2, x354000_2, x354001_2, u354001, rfl, HA, HK2, HO_354001, BK347, BK348, BK353, HB⟩ := hrel
          cases gk with
          | zero => exact absurd HA.out (by simp [integer_Power.l0])
          | succ k2 =>
            have H := HA.out
            clear HA
            simp only [integer_Power.l0] at H
            by_cases c17 : x16_2 < a1
            · rw [if_pos c17] at H
              have c17b0 : decide (x16_2 < a1) = true := decide_eq_true c17
              clear c17
              replace H := Option.bind_eq_some_iff.mp H
              obtain ⟨⟨t354, t355⟩, A180, H⟩ := H
              replace H : (integer_Power.l0 k2 a1 (wrap64 (x16_2 + 1)) a0_0 l0_1 t354 t355) = some (r1, r2, r3) := H
              have A18 := Aside0.mk A180
              clear A180
              have H' := Aside0.mk H
              clear H
              have hnb19 := NB353_347.out
              have hnc19 := NB347_353.out
              have hnb20 := NB353_348.out
              have hnc20 := NB348_353.out
              have hcz21_0 : wr.cell? ⟨gb353, 0, none⟩ = some (.bool x354000_2) := (blk_cell BK353.out 0).trans rfl
              have hcz21_1 : wr.cell? ⟨gb353, 1, none⟩ = some (u354001) := (blk_cell BK353.out 1).trans rfl
              have hfz21_0 := blk_frozen BK353.out 0
              have hfz21_1 := blk_frozen BK353.out 1
              have hnb22 := NB347_348.out
              have hnc22 := NB348_347.out
              have hcz23_0 : wr.cell? ⟨gb347, 0, none⟩ = some (.bool a0_0) := (blk_cell BK347.out 0).trans rfl
              have hcz23_1 : wr.cell? ⟨gb347, 1, none⟩ = some (.slice A0_1 l0_1.length c0_1) := (blk_cell BK347.out 1).trans rfl
              have hfz23_0 := blk_frozen BK347.out 0
              have hfz23_1 := blk_frozen BK347.out 1
              obtain ⟨Ao24, co24, eo24⟩ := Kd.V_slice HO_354001.out
              subst eo24
              go_wp2_with (first | ((with_reducible refine gate_callee (f := 25) rfl ?_); refine goesL_ (some 20) rfl rfl Tryd.func25 (by kernel_rfl) rfl #[.agg #[.bool x354000_2, .slice Ao24 x354001_2.length co24], .agg #[.bool a0_0, .slice A0_1 l0_1.length c0_1]] rfl (by (try simp only [List.map_toArray, List.map_cons, List.map_nil]); first | done | rfl | (simp only [List.length_drop, List.length_take]; rfl)) ?_; (with_reducible refine (integer_Mul.calls k2 x354000_2 _ _ x354001_2 a0_0 _ _ l0_1 t354 t355 _ ?side1 ?side2 ?side3 ?side4 A18.out).mono ?_); (case side1 => repeat (first | exact (Kd.V_reads' HO_354001.out).2.2 | (with_reducible refine Kd.C_alloc ?_ _) | (with_reducible refine Kd.C_drewN ?_ _) | (with_reducible refine Kd.C_drew ?_))); (case side2 => exact (Kd.V_reads' HO_354001.out).2.1); (case side3 => repeat (first | exact (Kd.C_below HR0_1.out HB.out) | (with_reducible refine Kd.C_alloc ?_ _) | (with_reducible refine Kd.C_drewN ?_ _) | (with_reducible refine Kd.C_drew ?_))); (case side4 => exact HC0_1.out); rintro e w25 ⟨v356, rfl, ho0, hb⟩; refine ⟨_, rfl, ?_⟩; have n0_ := Aside0.mk (Kd.V_below (by (with_reducible repeat (first | apply Kd.V_alloc | apply Kd.V_drewN | apply Kd.V_drew)); exact HO_354001.out) hb); have n1_ := Aside0.mk (Kd.V_lower (Kd.V_mono (ok' := fun k_ => (w.heap.size ≤ k_) ∧ k_ ≠ gb347 ∧ k_ ≠ gb348 ∧ k_ ≠ gb353) ho0 (fun k_ hk_ => ⟨(Nat.le_trans (below_size (by repeat (first | (with_reducible first | exact HB.out | apply below_alloc | apply pw_below_drewN | apply below_drew1 | refine below_set ?_ GE347.out | refine below_set ?_ GE348.out | refine below_set ?_ GE353.out) | exact HB.out))) hk_), (Kd.freshB (g := gb347) (o := .cells #[.bool a0_0, .slice A0_1 l0_1.length c0_1] 25 (0, 0)) (by (with_reducible repeat (first | refine blk_drewN ?_ _ | refine blk_drew ?_ | refine blk_alloc ?_ _)); exact BK347.out) k_ hk_), (Kd.freshB (g := gb348) (o := .cells #[.bool false, .slice none 0 0] 25 (0, 0)) (by (with_reducible repeat (first | refine blk_drewN ?_ _ | refine blk_drew ?_ | refine blk_alloc ?_ _)); exact BK348.out) k_ hk_), (Kd.freshB (g := gb353) (o := .cells #[.bool x354000_2, .slice Ao24 x354001_2.length co24] 25 (0, 0)) (by (with_reducible repeat (first | refine blk_drewN ?_ _ | refine blk_drew ?_ | refine blk_alloc ?_ _)); exact BK353.out) k_ hk_)⟩)) (below_size (by repeat (first | (with_reducible first | exact HB.out | apply below_alloc | apply pw_below_drewN | apply below_drew1 | refine below_set ?_ GE347.out | refine below_set ?_ GE348.out | refine below_set ?_ GE353.out) | exact HB.out)))); have n2_ := Aside0.mk (blk_below (g := gb347) (o := .cells #[.bool a0_0, .slice A0_1 l0_1.length c0_1] 25 (0, 0)) (by (with_reducible repeat (first | refine blk_drewN ?_ _ | refine blk_drew ?_ | refine blk_alloc ?_ _)); exact BK347.out) hb); have n3_ := Aside0.mk (blk_below (g := gb348) (o := .cells #[.bool false, .slice none 0 0] 25 (0, 0)) (by (with_reducible repeat (first | refine blk_drewN ?_ _ | refine blk_drew ?_ | refine blk_alloc ?_ _)); exact BK348.out) hb); have n4_ := Aside0.mk (blk_below (g := gb353) (o := .cells #[.bool x354000_2, .slice Ao24 x354001_2.length co24] 25 (0, 0)) (by (with_reducible repeat (first | refine blk_drewN ?_ _ | refine blk_drew ?_ | refine blk_alloc ?_ _)); exact BK353.out) hb); have n5_ := Aside0.mk (below_step (by repeat (first | (with_reducible first | exact HB.out | apply below_alloc | apply pw_below_drewN | apply below_drew1 | refine below_set ?_ GE347.out | refine below_set ?_ GE348.out | refine below_set ?_ GE353.out) | exact HB.out)) hb); clear HO_354001; clear BK347; clear BK348; clear BK353; clear HB; have HO_354001 := n0_; have HO357 := n1_; have BK347 := n2_; have BK348 := n3_; have BK353 := n4_; have HB := n5_; clear n0_ n1_ n2_ n3_ n4_ n5_; (try clear hb); (try clear hb2); (try clear hk); (try clear hi); (try clear ho0); have hcz26_0 : w25.cell? ⟨gb353, 0, none⟩ = some (.bool x354000_2) := (blk_cell BK353.out 0).trans rfl; have hcz26_1 : w25.cell? ⟨gb353, 1, none⟩ = some (.slice Ao24 x354001_2.length co24) := (blk_cell BK353.out 1).trans rfl; have hfz26_0 := blk_frozen BK353.out 0; have hfz26_1 := blk_frozen BK353.out 1; obtain ⟨Ao27, co27, eo27⟩ := Kd.V_slice HO357.out; subst eo27))
              go_roundg k2
              case measure => have := HJ2.out; have := HK2.out; omega
              case rel => exact ⟨(wrap64 (x16_2 + 1)), (t354), (t355), (.slice Ao27 t355.length co27), (by first | rfl | (simp; done) | (simp [*]; done)), H', ⟨by have := HJ2.out; have := HK2.out; omega⟩, ⟨by (with_reducible repeat (first | apply Kd.V_alloc | apply Kd.V_drewN | apply Kd.V_drew)); exact Kd.V_mono (Kd.V_far (p := ⟨gb353, 1, none⟩) (Kd.V_far (p := ⟨gb353, 0, none⟩) (Kd.V_mono HO357.out (fun k_ hk => (⟨hk, hk.2.2.2⟩ : _ ∧ k_ ≠ gb353))) (fun _ hk => hk.2) (.bool t354)) (fun _ hk => hk.2) (.slice Ao27 t355.length co27)) (fun _ hk => ⟨hk.1.1, ⟨hk.1.2.1, ⟨hk.1.2.2.1, hk.1.2.2.2⟩⟩⟩)⟩, ⟨by (with_reducible repeat (first | refine blk_drewN ?_ _ | refine blk_drew ?_ | refine blk_alloc ?_ _)); refine blk_far ?_ NB347_353.out _; (with_reducible repeat (first | refine blk_drewN ?_ _ | refine blk_drew ?_ | refine blk_alloc ?_ _)); refine blk_far ?_ NB347_353.out _; (with_reducible repeat (first | refine blk_drewN ?_ _ | refine blk_drew ?_ | refine blk_alloc ?_ _)); exact BK347.out⟩, ⟨by (with_reducible repeat (first | refine blk_drewN ?_ _ | refine blk_drew ?_ | refine blk_alloc ?_ _)); refine blk_far ?_ NB348_353.out _; (with_reducible repeat (first | refine blk_drewN ?_ _ | refine blk_drew ?_ | refine blk_alloc ?_ _)); refine blk_far ?_ NB348_353.out _; (with_reducible repeat (first | refine blk_drewN ?_ _ | refine blk_drew ?_ | refine blk_alloc ?_ _)); exact BK348.out⟩, ⟨by (with_reducible repeat (first | refine blk_drewN ?_ _ | refine blk_drew ?_ | refine blk_alloc ?_ _)); refine blk_put (cs := #[.bool t354, .slice Ao24 x354001_2.length co24]) ?_ 1 _ rfl; (with_reducible repeat (first | refine blk_drewN ?_ _ | refine blk_drew ?_ | refine blk_alloc ?_ _)); refine blk_put (cs := #[.bool x354000_2, .slice Ao24 x354001_2.length co24]) ?_ 0 _ rfl; (with_reducible repeat (first | refine blk_drewN ?_ _ | refine blk_drew ?_ | refine blk_alloc ?_ _)); exact BK353.out⟩, ⟨by repeat (first | (with_reducible first | exact HB.out | apply below_alloc | apply pw_below_drewN | apply below_drew1 | refine below_set ?_ GE347.out | refine below_set ?_ GE348.out | refine below_set ?_ GE353.out) | exact HB.out)⟩⟩
            · rw [if_neg c17] at H
              have c17b0 : decide (x16_2 < a1) = false := decide_eq_false c17
              clear c17
              simp only [Option.some.injEq, Prod.mk.injEq] at H
              obtain ⟨rfl, rfl, rfl⟩ := H
              have hnb28 := NB353_347.out
              have hnc28 := NB347_353.out
              have hnb29 := NB353_348.out
              have hnc29 := NB348_353.out
              have hcz30_0 : wr.cell? ⟨gb353, 0, none⟩ = some (.bool x354000_2) := (blk_cell BK353.out 0).trans rfl
              have hcz30_1 : wr.cell? ⟨gb353, 1, none⟩ = some (u354001) := (blk_cell BK353.out 1).trans rfl
              have hfz30_0 := blk_frozen BK353.out 0
              have hfz30_1 := blk_frozen BK353.out 1
              have hnb31 := NB348_347.out
              have hnc31 := NB347_348.out
              have hcz32_0 : wr.cell? ⟨gb348, 0, none⟩ = some (.bool false) := (blk_cell BK348.out 0).trans rfl
              have hcz32_1 : wr.cell? ⟨gb348, 1, none⟩ = some (.slice none 0 0) := (blk_cell BK348.out 1).trans rfl
              have hfz32_0 := blk_frozen BK348.out 0
              have hfz32_1 := blk_frozen BK348.out 1
              obtain ⟨Ao33, co33, eo33⟩ := Kd.V_slice HO_354001.out
              subst eo33
              go_wp2
              refine bodyPost_ret (results_ct rfl _ _ gb348 25 #[.bool x354000_2, .slice Ao33 x354001_2.length co33] (0, 0) _ rfl (by (with_reducible repeat (first | refine blk_drewN ?_ _ | refine blk_drew ?_ | refine blk_alloc ?_ _)); refine blk_put (cs := #[.bool x354000_2, .slice none 0 0]) ?_ 1 _ rfl; (with_reducible repeat (first | refine blk_drewN ?_ _ | refine blk_drew ?_ | refine blk_alloc ?_ _)); refine blk_put (cs := #[.bool false, .slice none 0 0]) ?_ 0 _ rfl; (with_reducible repeat (first | refine blk_drewN ?_ _ | refine blk_drew ?_ | refine blk_alloc ?_ _)); exact BK348.out) Tryd.underlying25 rfl (by kernel_rfl)) rfl ?_
              exact ⟨_, by first | rfl | (simp [errW_none, errW_some] <;> rfl) | (simp [*, errW_none, errW_some] <;> rfl), by (with_reducible repeat (first | apply Kd.V_alloc | apply Kd.V_drewN | apply Kd.V_drew)); exact Kd.V_mono (Kd.V_far (p := ⟨gb348, 1, none⟩) (Kd.V_far (p := ⟨gb348, 0, none⟩) (Kd.V_mono HO_354001.out (fun k_ hk => (⟨hk, hk.2.2.1⟩ : _ ∧ k_ ≠ gb348))) (fun _ hk => hk.2) (.bool x354000_2)) (fun _ hk => hk.2) (.slice Ao33 x354001_2.length co33)) (fun _ hk => hk.1.1), by repeat (first | (with_reducible first | exact HB.out | apply below_alloc | apply pw_below_drewN | apply below_drew1 | refine below_set ?_ GE347.out | refine below_set ?_ GE348.out | refine below_set ?_ GE353.out) | exact HB.out)⟩
end Go.Proofs.YtiikfhdmclmjmaaDoor.P
namespace Go.Proofs.YtiikfhdmclmjmaaDoor.P
open Go.RowKit Go.Proofs.YtiikfhdmclmjmaaDoorW.PrintWords Go.Proofs.YtiikfhdmclmjmaaDoorW.PrintLast
set_option linter.unusedVariables false
set_option linter.unusedSimpArgs false
def bits_Len32.f (a0 : Int) : Option Int := if 0 ≤ a0 ∧ a0 ≤ 4294967295 then some (Lib.bitLen a0.toNat) else none
theorem bits_Len32.calls (a0 : Int) (r : Int) (w : World) (h : bits_Len32.f a0 = some r) :
    Calls Tryd.prog 66 #[.int .u32 a0] w fun e w' => e = .returned (.int .i64 r) ∧ Drawn0 w w' := by
  unfold bits_Len32.f at h
  split at h
  · rename_i hb
    simp only [Option.some.injEq] at h
    subst h
    refine (Tryd.bits_Len32 a0 w hb.1 hb.2).mono ?_
    rintro e w' ⟨rfl, rfl⟩
    exact ⟨rfl, Drawn0.refl _⟩
  · cases h
end Go.Proofs.YtiikfhdmclmjmaaDoor.P
namespace Go.Proofs.YtiikfhdmclmjmaaDoor.P
open Go.RowKit Go.Proofs.YtiikfhdmclmjmaaDoorW.PrintWords Go.Proofs.YtiikfhdmclmjmaaDoorW.PrintLast
set_option linter.unusedVariables false
set_option linter.unusedSimpArgs false
def integer_Int_Bits.f (a0_0 : Bool) (l0_1 : List Int) : Option (Int) := if (l0_1.length : Int) = 0 then (some 0) else (if 0 ≤ (wrap64 ((l0_1.length : Int) - 1)) then (if (wrap64 ((l0_1.length : Int) - 1)) < (l0_1.length : Int) then ((bits_Len32.f (rd l0_1 (wrap64 ((l0_1.length : Int) - 1)))).bind fun t360 => (some (wrap64 ((wrap64 (32 * (wrap64 ((l0_1.length : Int) - 1)))) + t360)))) else (none)) else (none))
set_option maxHeartbeats 8000000 in
set_option maxRecDepth 100000 in
theorem integer_Int_Bits.calls (a0_0 : Bool) (A0_1 : Option Addr) (c0_1 : Nat) (l0_1 : List Int) (r : Int) (w : World) (hr0_1 : Kd.C (Kd.int .u32) w A0_1 l0_1.length l0_1) (hc0_1 : l0_1.length ≤ c0_1) (h : integer_Int_Bits.f a0_0 l0_1 = some r) :
    Calls Tryd.prog 42 #[.agg #[.bool a0_0, .slice A0_1 l0_1.length c0_1]] w fun e w' => e = .returned (.int .i64 r) ∧ Below w.heap.size w w' := by
  have hu25 := Tryd.underlying25
  have HR0_1 := Aside0.mk hr0_1
  have HC0_1 := Aside0.mk hc0_1
  clear hr0_1 hc0_1
  have HB := Aside0.mk (Below.refl w.heap.size w)
  have H : (if (l0_1.length : Int) = 0 then (some 0) else (if 0 ≤ (wrap64 ((l0_1.length : Int) - 1)) then (if (wrap64 ((l0_1.length : Int) - 1)) < (l0_1.length : Int) then ((bits_Len32.f (rd l0_1 (wrap64 ((l0_1.length : Int) - 1)))).bind fun t360 => (some (wrap64 ((wrap64 (32 * (wrap64 ((l0_1.length : Int) - 1)))) + t360)))) else (none)) else (none))) = some r := h
  clear h
  by_cases c2 : (l0_1.length : Int) = 0
  · rw [if_pos c2] at H
    have c2b0 : ((l0_1.length : Int) == 0) = true := beq_iff_eq.mpr c2
    have c2b1 : ((l0_1.length : Int) != 0) = false := bne_eq_false_iff_eq.mpr c2
    clear c2
    obtain rfl := Option.some.inj H
    go_enter Tryd.func42, Tryd.ntmps42
    go_wp2_with (first | ((with_reducible refine gate_dst (N := 1) rfl ?_); refine box_event ?hg (N := 1) ?hd (cs := #[.bool a0_0, .slice A0_1 l0_1.length c0_1]) (t := 25) ?hr ?_; (case hd => rfl); (case hg => rfl); (case hr => first | (go_simp; done) | (go_simp; rfl)); intro gb358 hg w3 hbox hb; have n0_ := Aside0.mk (below_step (by repeat (first | (with_reducible first | exact HB.out | apply below_alloc | apply pw_below_drewN | apply below_drew1) | exact HB.out)) hb); have n1_ := Aside0.mk (hbox); have n2_ := Aside0.mk ((by rw [hg]; exact (below_size (by repeat (first | (with_reducible first | exact HB.out | apply below_alloc | apply pw_below_drewN | apply below_drew1) | exact HB.out))) : w.heap.size ≤ gb358)); have n3_ := Aside0.mk ((by rw [hg]; exact (below_size (by repeat (first | (with_reducible first | exact HB.out | apply below_alloc | apply pw_below_drewN | apply below_drew1) | exact HB.out))) : w.heap.size ≤ gb358)); clear HB; have HB := n0_; have BK358 := n1_; have GW358 := n2_; have GE358 := n3_; clear n0_ n1_ n2_ n3_; clear hb hbox hg; have hcz4_0 : w3.cell? ⟨gb358, 0, none⟩ = some (.bool a0_0) := (blk_cell BK358.out 0).trans rfl; have hcz4_1 : w3.cell? ⟨gb358, 1, none⟩ = some (.slice A0_1 l0_1.length c0_1) := (blk_cell BK358.out 1).trans rfl; have hfz4_0 := blk_frozen BK358.out 0; have hfz4_1 := blk_frozen BK358.out 1))
    repeat (go_quiet (first | ((with_reducible refine gate_dst (N := 1) rfl ?_); refine box_event ?hg (N := 1) ?hd (cs := #[.bool a0_0, .slice A0_1 l0_1.length c0_1]) (t := 25) ?hr ?_; (case hd => rfl); (case hg => rfl); (case hr => first | (go_simp; done) | (go_simp; rfl)); intro gb358 hg w3 hbox hb; have n0_ := Aside0.mk (below_step (by repeat (first | (with_reducible first | exact HB.out | apply below_alloc | apply pw_below_drewN | apply below_drew1) | exact HB.out)) hb); have n1_ := Aside0.mk (hbox); have n2_ := Aside0.mk ((by rw [hg]; exact (below_size (by repeat (first | (with_reducible first | exact HB.out | apply below_alloc | apply pw_below_drewN | apply below_drew1) | exact HB.out))) : w.heap.size ≤ gb358)); have n3_ := Aside0.mk ((by rw [hg]; exact (below_size (by repeat (first | (with_reducible first | exact HB.out | apply below_alloc | apply pw_below_drewN | apply below_drew1) | exact HB.out))) : w.heap.size ≤ gb358)); clear HB; have HB := n0_; have BK358 := n1_; have GW358 := n2_; have GE358 := n3_; clear n0_ n1_ n2_ n3_; clear hb hbox hg; have hcz4_0 : w3.cell? ⟨gb358, 0, none⟩ = some (.bool a0_0) := (blk_cell BK358.out 0).trans rfl; have hcz4_1 : w3.cell? ⟨gb358, 1, none⟩ = some (.slice A0_1 l0_1.length c0_1) := (blk_cell BK358.out 1).trans rfl; have hfz4_0 := blk_frozen BK358.out 0; have hfz4_1 := blk_frozen BK358.out 1)); try go_wp2_with (first | ((with_reducible refine gate_dst (N := 1) rfl ?_); refine box_event ?hg (N := 1) ?hd (cs := #[.bool a0_0, .slice A0_1 l0_1.length c0_1]) (t := 25) ?hr ?_; (case hd => rfl); (case hg => rfl); (case hr => first | (go_simp; done) | (go_simp; rfl)); intro gb358 hg w3 hbox hb; have n0_ := Aside0.mk (below_step (by repeat (first | (with_reducible first | exact HB.out | apply below_alloc | apply pw_below_drewN | apply below_drew1) | exact HB.out)) hb); have n1_ := Aside0.mk (hbox); have n2_ := Aside0.mk ((by rw [hg]; exact (below_size (by repeat (first | (with_reducible first | exact HB.out | apply below_alloc | apply pw_below_drewN | apply below_drew1) | exact HB.out))) : w.heap.size ≤ gb358)); have n3_ := Aside0.mk ((by rw [hg]; exact (below_size (by repeat (first | (with_reducible first | exact HB.out | apply below_alloc | apply pw_below_drewN | apply below_drew1) | exact HB.out))) : w.heap.size ≤ gb358)); clear HB; have HB := n0_; have BK358 := n1_; have GW358 := n2_; have GE358 := n3_; clear n0_ n1_ n2_ n3_; clear hb hbox hg; have hcz4_0 : w3.cell? ⟨gb358, 0, none⟩ = some (.bool a0_0) := (blk_cell BK358.out 0).trans rfl; have hcz4_1 : w3.cell? ⟨gb358, 1, none⟩ = some (.slice A0_1 l0_1.length c0_1) := (blk_cell BK358.out 1).trans rfl; have hfz4_0 := blk_frozen BK358.out 0; have hfz4_1 := blk_frozen BK358.out 1)))
    go_ret
    exact ⟨by first | rfl | (simp [errW_none, errW_some] <;> rfl) | (simp [*, errW_none, errW_some] <;> rfl), by repeat (first | (with_reducible first | exact HB.out | apply below_alloc | apply pw_below_drewN | apply below_drew1 | refine below_set ?_ GE358.out) | exact HB.out)⟩
  · rw [if_neg c2] at H
    have c2b0 : ((l0_1.length : Int) == 0) = false := beq_eq_false_iff_ne.mpr c2
    have c2b1 : ((l0_1.length : Int) != 0) = true := bne_iff_ne.mpr c2
    have c2b2 : ¬ (l0_1 = []) := fun h_ => c2 (by rw [h_]; rfl)
    obtain ⟨ji5, hji5⟩ : ∃ j_ : Int, (wrap64 ((l0_1.length : Int) - 1)) = j_ := ⟨_, rfl⟩
    replace H : (if 0 ≤ (ji5) then (if (ji5) < (l0_1.length : Int) then ((bits_Len32.f (rd l0_1 (ji5))).bind fun t360 => (some (wrap64 ((wrap64 (32 * (ji5))) + t360)))) else (none)) else (none)) = some r := by first | (rw [hji5] at H; exact H) | (simp only [hji5] at H ⊢; exact H)
    have hji5w : (IntKind.i64.wrap ((l0_1.length : Int) - 1)) = ji5 := (i64_w _).trans hji5
    by_cases c6 : 0 ≤ (ji5)
    · rw [if_pos c6] at H
      have c6b0 : decide (0 ≤ (ji5)) = true := decide_eq_true c6
      clear c6
      by_cases c7 : (ji5) < (l0_1.length : Int)
      · rw [if_pos c7] at H
        have c7b0 : decide ((ji5) < (l0_1.length : Int)) = true := decide_eq_true c7
        clear c7
        replace H := Option.bind_eq_some_iff.mp H
        obtain ⟨t360, A80, H⟩ := H
        replace H : (some (wrap64 ((wrap64 (32 * (ji5))) + t360))) = some r := H
        have A8 := Aside0.mk A80
        clear A80
        obtain rfl := Option.some.inj H
        go_enter Tryd.func42, Tryd.ntmps42
        go_wp2_with (first | ((with_reducible refine gate_dst (N := 1) rfl ?_); refine box_event ?hg (N := 1) ?hd (cs := #[.bool a0_0, .slice A0_1 l0_1.length c0_1]) (t := 25) ?hr ?_; (case hd => rfl); (case hg => rfl); (case hr => first | (go_simp; done) | (go_simp; rfl)); intro gb358 hg w9 hbox hb; have n0_ := Aside0.mk (below_step (by repeat (first | (with_reducible first | exact HB.out | apply below_alloc | apply pw_below_drewN | apply below_drew1) | exact HB.out)) hb); have n1_ := Aside0.mk (hbox); have n2_ := Aside0.mk ((by rw [hg]; exact (below_size (by repeat (first | (with_reducible first | exact HB.out | apply below_alloc | apply pw_below_drewN | apply below_drew1) | exact HB.out))) : w.heap.size ≤ gb358)); have n3_ := Aside0.mk ((by rw [hg]; exact (below_size (by repeat (first | (with_reducible first | exact HB.out | apply below_alloc | apply pw_below_drewN | apply below_drew1) | exact HB.out))) : w.heap.size ≤ gb358)); clear HB; have HB := n0_; have BK358 := n1_; have GW358 := n2_; have GE358 := n3_; clear n0_ n1_ n2_ n3_; clear hb hbox hg; have hcz10_0 : w9.cell? ⟨gb358, 0, none⟩ = some (.bool a0_0) := (blk_cell BK358.out 0).trans rfl; have hcz10_1 : w9.cell? ⟨gb358, 1, none⟩ = some (.slice A0_1 l0_1.length c0_1) := (blk_cell BK358.out 1).trans rfl; have hfz10_0 := blk_frozen BK358.out 0; have hfz10_1 := blk_frozen BK358.out 1; have p359 : 0 ≤ ((ji5) : Int) := of_decide_eq_true (by first | (with_reducible assumption) | assumption); have q359 : (ji5) < (l0_1.length : Int) := of_decide_eq_true (by first | (with_reducible assumption) | assumption); obtain ⟨ad359, e359, hx359_0⟩ := Kd.at_int HR0_1.out (ji5) p359 q359; cases e359; replace hx359_0 := (HB.out.cell (World.block_lt_of_cell? w _ hx359_0)).trans hx359_0; replace p359 := eq_true p359; replace q359 := eq_true q359) | (go_at_call 66; (with_reducible refine (bits_Len32.calls (rd l0_1 (ji5)) t360 _ A8.out).mono ?_); rintro e w' ⟨rfl, ⟨nd, rfl⟩⟩; (try first | exact ⟨rfl, _, World.drewN_drewN _ _ _⟩ | exact ⟨rfl, _, Eq.trans (World.drewN_drewN _ _ _) (congrArg (World.drewN _) (Nat.add_assoc _ _ _))⟩)))
        repeat (go_quiet (first | ((with_reducible refine gate_dst (N := 1) rfl ?_); refine box_event ?hg (N := 1) ?hd (cs := #[.bool a0_0, .slice A0_1 l0_1.length c0_1]) (t := 25) ?hr ?_; (case hd => rfl); (case hg => rfl); (case hr => first | (go_simp; done) | (go_simp; rfl)); intro gb358 hg w9 hbox hb; have n0_ := Aside0.mk (below_step (by repeat (first | (with_reducible first | exact HB.out | apply below_alloc | apply pw_below_drewN | apply below_drew1) | exact HB.out)) hb); have n1_ := Aside0.mk (hbox); have n2_ := Aside0.mk ((by rw [hg]; exact (below_size (by repeat (first | (with_reducible first | exact HB.out | apply below_alloc | apply pw_below_drewN | apply below_drew1) | exact HB.out))) : w.heap.size ≤ gb358)); have n3_ := Aside0.mk ((by rw [hg]; exact (below_size (by repeat (first | (with_reducible first | exact HB.out | apply below_alloc | apply pw_below_drewN | apply below_drew1) | exact HB.out))) : w.heap.size ≤ gb358)); clear HB; have HB := n0_; have BK358 := n1_; have GW358 := n2_; have GE358 := n3_; clear n0_ n1_ n2_ n3_; clear hb hbox hg; have hcz10_0 : w9.cell? ⟨gb358, 0, none⟩ = some (.bool a0_0) := (blk_cell BK358.out 0).trans rfl; have hcz10_1 : w9.cell? ⟨gb358, 1, none⟩ = some (.slice A0_1 l0_1.length c0_1) := (blk_cell BK358.out 1).trans rfl; have hfz10_0 := blk_frozen BK358.out 0; have hfz10_1 := blk_frozen BK358.out 1; have p359 : 0 ≤ ((ji5) : Int) := of_decide_eq_true (by first | (with_reducible assumption) | assumption); have q359 : (ji5) < (l0_1.length : Int) := of_decide_eq_true (by first | (with_reducible assumption) | assumption); obtain ⟨ad359, e359, hx359_0⟩ := Kd.at_int HR0_1.out (ji5) p359 q359; cases e359; replace hx359_0 := (HB.out.cell (World.block_lt_of_cell? w _ hx359_0)).trans hx359_0; replace p359 := eq_true p359; replace q359 := eq_true q359) | (go_at_call 66; (with_reducible refine (bits_Len32.calls (rd l0_1 (ji5)) t360 _ A8.out).mono ?_); rintro e w' ⟨rfl, ⟨nd, rfl⟩⟩; (try first | exact ⟨rfl, _, World.drewN_drewN _ _ _⟩ | exact ⟨rfl, _, Eq.trans (World.drewN_drewN _ _ _) (congrArg (World.drewN _) (Nat.add_assoc _ _ _))⟩))); try go_wp2_with (first | ((with_reducible refine gate_dst (N := 1) rfl ?_); refine box_event ?hg (N := 1) ?hd (cs := #[.bool a0_0, .slice A0_1 l0_1.length c0_1]) (t := 25) ?hr ?_; (case hd => rfl); (case hg => rfl); (case hr => first | (go_simp; done) | (go_simp; rfl)); intro gb358 hg w9 hbox hb; have n0_ := Aside0.mk (below_step (by repeat (first | (with_reducible first | exact HB.out | apply below_alloc | apply pw_below_drewN | apply below_drew1) | exact HB.out)) hb); have n1_ := Aside0.mk (hbox); have n2_ := Aside0.mk ((by rw [hg]; exact (below_size (by repeat (first | (with_reducible first | exact HB.out | apply below_alloc | apply pw_below_drewN | apply below_drew1) | exact HB.out))) : w.heap.size ≤ gb358)); have n3_ := Aside0.mk ((by rw [hg]; exact (below_size (by repeat (first | (with_reducible first | exact HB.out | apply below_alloc | apply pw_below_drewN | apply below_drew1) | exact HB.out))) : w.heap.size ≤ gb358)); clear HB; have HB := n0_; have BK358 := n1_; have GW358 := n2_; have GE358 := n3_; clear n0_ n1_ n2_ n3_; clear hb hbox hg; have hcz10_0 : w9.cell? ⟨gb358, 0, none⟩ = some (.bool a0_0) := (blk_cell BK358.out 0).trans rfl; have hcz10_1 : w9.cell? ⟨gb358, 1, none⟩ = some (.slice A0_1 l0_1.length c0_1) := (blk_cell BK358.out 1).trans rfl; have hfz10_0 := blk_frozen BK358.out 0; have hfz10_1 := blk_frozen BK358.out 1; have p359 : 0 ≤ ((ji5) : Int) := of_decide_eq_true (by first | (with_reducible assumption) | assumption); have q359 : (ji5) < (l0_1.length : Int) := of_decide_eq_true (by first | (with_reducible assumption) | assumption); obtain ⟨ad359, e359, hx359_0⟩ := Kd.at_int HR0_1.out (ji5) p359 q359; cases e359; replace hx359_0 := (HB.out.cell (World.block_lt_of_cell? w _ hx359_0)).trans hx359_0; replace p359 := eq_true p359; replace q359 := eq_true q359) | (go_at_call 66; (with_reducible refine (bits_Len32.calls (rd l0_1 (ji5)) t360 _ A8.out).mono ?_); rintro e w' ⟨rfl, ⟨nd, rfl⟩⟩; (try first | exact ⟨rfl, _, World.drewN_drewN _ _ _⟩ | exact ⟨rfl, _, Eq.trans (World.drewN_drewN _ _ _) (congrArg (World.drewN _) (Nat.add_assoc _ _ _))⟩))))
        go_ret
        exact ⟨by first | rfl | (simp [errW_none, errW_some] <;> rfl) | (simp only [← hji5]; first | rfl | (simp [errW_none, errW_some] <;> rfl)) | (simp [*, errW_none, errW_some] <;> rfl), by repeat (first | (with_reducible first | exact HB.out | apply below_alloc | apply pw_below_drewN | apply below_drew1 | refine below_set ?_ GE358.out) | exact HB.out)⟩
      · rw [if_neg c7] at H
        exact absurd H (by simp)
    · rw [if_neg c6] at H
      exact absurd H (by simp)
end Go.Proofs.YtiikfhdmclmjmaaDoor.P
namespace Go.Proofs.YtiikfhdmclmjmaaDoor.P
open Go.RowKit Go.Proofs.YtiikfhdmclmjmaaDoorW.PrintWords Go.Proofs.YtiikfhdmclmjmaaDoorW.PrintLast
set_option linter.unusedVariables false
set_option linter.unusedSimpArgs false
def dowellaw01_known.f (k : Nat)  : Option (Bool) := (integer_From.f k (-7)).bind fun bt361 => ((integer_From.f k 2).bind fun bt365 => ((integer_DivMod.f k bt361.1 bt361.2 bt365.1 bt365.2).bind fun bt369 => ((integer_From.f k (-10)).bind fun bt380 => ((integer_Power.f k bt380.1 bt380.2 3).bind fun bt384 => ((integer_Int_Text.f k bt369.1 bt369.2.1).bind fun t390 => (if t390.toList = ([45, 52] : List UInt8) then ((integer_Int_Text.f k bt369.2.2.1 bt369.2.2.2.1).bind fun t391 => (if t391.toList = ([49] : List UInt8) then (if bt369.2.2.2.2 = 0 then ((integer_Int_Text.f k bt384.1 bt384.2.1).bind fun t392 => (if t392.toList = ([45, 49, 48, 48, 48] : List UInt8) then (if bt384.2.2 = 0 then ((integer_From.f k (-12)).bind fun bt393 => ((integer_From.f k 18).bind fun bt397 => ((integer_Gcd.f k bt393.1 bt393.2 bt397.1 bt397.2).bind fun bt401 => ((integer_Int_Text.f k bt401.1 bt401.2).bind fun t405 => (if t405.toList = ([54] : List UInt8) then ((integer_From.f k 256).bind fun bt406 => ((integer_Int_Bits.f bt406.1 bt406.2).bind fun t410 => (some (t410 == 9)))) else (none)))))) else (none)) else (none))) else (none)) else (none))) else (none)))))))
theorem dowellaw01_known.mono : ∀ k, LeO (dowellaw01_known.f k ) (dowellaw01_known.f (k + 1) ) := by
  intro  k
  unfold dowellaw01_known.f
  repeat' first
      | (with_reducible exact integer_DivMod.mono _ _ _ _ _)
      | (with_reducible exact integer_From.mono _ _)
      | (with_reducible exact integer_Gcd.mono _ _ _ _ _)
      | (with_reducible exact integer_Int_Text.mono _ _ _)
      | (with_reducible exact integer_Power.mono _ _ _ _)
      | (with_reducible exact LeO.refl _)
      | (with_reducible exact LeO.none _)
      | (with_reducible refine LeO.ite ?_ ?_)
      | (with_reducible refine LeO.bind ?_ (fun _ => ?_))
      | exact integer_DivMod.mono _ _ _ _ _
      | exact integer_From.mono _ _
      | exact integer_Gcd.mono _ _ _ _ _
      | exact integer_Int_Text.mono _ _ _
      | exact integer_Power.mono _ _ _ _
      | exact LeO.none _
      | refine LeO.ite ?_ ?_
      | refine LeO.bind ?_ (fun _ => ?_)
set_option maxHeartbeats 8000000 in
set_option maxRecDepth 100000 in
theorem dowellaw01_known.calls (k : Nat)  (r : Bool) (w : World) (hG : G w) (h : dowellaw01_known.f k  = some r) :
    Calls Tryd.prog 14 #[] w fun e w' => e = .returned (.bool r) ∧ Below w.heap.size w w' := by
  have hu25 := Tryd.underlying25
  have HB := Aside0.mk (Below.refl w.heap.size w)
  have HG := Aside0.mk hG
  clear hG
  have H : ((integer_From.f k (-7)).bind fun bt361 => ((integer_From.f k 2).bind fun bt365 => ((integer_DivMod.f k bt361.1 bt361.2 bt365.1 bt365.2).bind fun bt369 => ((integer_From.f k (-10)).bind fun bt380 => ((integer_Power.f k bt380.1 bt380.2 3).bind fun bt384 => ((integer_Int_Text.f k bt369.1 bt369.2.1).bind fun t390 => (if t390.toList = ([45, 52] : List UInt8) then ((integer_Int_Text.f k bt369.2.2.1 bt369.2.2.2.1).bind fun t391 => (if t391.toList = ([49] : List UInt8) then (if bt369.2.2.2.2 = 0 then ((integer_Int_Text.f k bt384.1 bt384.2.1).bind fun t392 => (if t392.toList = ([45, 49, 48, 48, 48] : List UInt8) then (if bt384.2.2 = 0 then ((integer_From.f k (-12)).bind fun bt393 => ((integer_From.f k 18).bind fun bt397 => ((integer_Gcd.f k bt393.1 bt393.2 bt397.1 bt397.2).bind fun bt401 => ((integer_Int_Text.f k bt401.1 bt401.2).bind fun t405 => (if t405.toList = ([54] : List UInt8) then ((integer_From.f k 256).bind fun bt406 => ((integer_Int_Bits.f bt406.1 bt406.2).bind fun t410 => (some (t410 == 9)))) else (none)))))) else (none)) else (none))) else (none)) else (none))) else (none)))))))) = some r := h
  clear h
  replace H := Option.bind_eq_some_iff.mp H
  obtain ⟨⟨t361, t362⟩, A10, H⟩ := H
  replace H : ((integer_From.f k 2).bind fun bt365 => ((integer_DivMod.f k t361 t362 bt365.1 bt365.2).bind fun bt369 => ((integer_From.f k (-10)).bind fun bt380 => ((integer_Power.f k bt380.1 bt380.2 3).bind fun bt384 => ((integer_Int_Text.f k bt369.1 bt369.2.1).bind fun t390 => (if t390.toList = ([45, 52] : List UInt8) then ((integer_Int_Text.f k bt369.2.2.1 bt369.2.2.2.1).bind fun t391 => (if t391.toList = ([49] : List UInt8) then (if bt369.2.2.2.2 = 0 then ((integer_Int_Text.f k bt384.1 bt384.2.1).bind fun t392 => (if t392.toList = ([45, 49, 48, 48, 48] : List UInt8) then (if bt384.2.2 = 0 then ((integer_From.f k (-12)).bind fun bt393 => ((integer_From.f k 18).bind fun bt397 => ((integer_Gcd.f k bt393.1 bt393.2 bt397.1 bt397.2).bind fun bt401 => ((integer_Int_Text.f k bt401.1 bt401.2).bind fun t405 => (if t405.toList = ([54] : List UInt8) then ((integer_From.f k 256).bind fun bt406 => ((integer_Int_Bits.f bt406.1 bt406.2).bind fun t410 => (some (t410 == 9)))) else (none)))))) else (none)) else (none))) else (none)) else (none))) else (none))))))) = some r := H
  have A1 := Aside0.mk A10
  clear A10
  replace H := Option.bind_eq_some_iff.mp H
  obtain ⟨⟨t365, t366⟩, A20, H⟩ := H
  replace H : ((integer_DivMod.f k t361 t362 t365 t366).bind fun bt369 => ((integer_From.f k (-10)).bind fun bt380 => ((integer_Power.f k bt380.1 bt380.2 3).bind fun bt384 => ((integer_Int_Text.f k bt369.1 bt369.2.1).bind fun t390 => (if t390.toList = ([45, 52] : List UInt8) then ((integer_Int_Text.f k bt369.2.2.1 bt369.2.2.2.1).bind fun t391 => (if t391.toList = ([49] : List UInt8) then (if bt369.2.2.2.2 = 0 then ((integer_Int_Text.f k bt384.1 bt384.2.1).bind fun t392 => (if t392.toList = ([45, 49, 48, 48, 48] : List UInt8) then (if bt384.2.2 = 0 then ((integer_From.f k (-12)).bind fun bt393 => ((integer_From.f k 18).bind fun bt397 => ((integer_Gcd.f k bt393.1 bt393.2 bt397.1 bt397.2).bind fun bt401 => ((integer_Int_Text.f k bt401.1 bt401.2).bind fun t405 => (if t405.toList = ([54] : List UInt8) then ((integer_From.f k 256).bind fun bt406 => ((integer_Int_Bits.f bt406.1 bt406.2).bind fun t410 => (some (t410 == 9)))) else (none)))))) else (none)) else (none))) else (none)) else (none))) else (none)))))) = some r := H
  have A2 := Aside0.mk A20
  clear A20
  replace H := Option.bind_eq_some_iff.mp H
  obtain ⟨⟨t369, t370, t373, t374, t377⟩, A30, H⟩ := H
  replace H : ((integer_From.f k (-10)).bind fun bt380 => ((integer_Power.f k bt380.1 bt380.2 3).bind fun bt384 => ((integer_Int_Text.f k t369 t370).bind fun t390 => (if t390.toList = ([45, 52] : List UInt8) then ((integer_Int_Text.f k t373 t374).bind fun t391 => (if t391.toList = ([49] : List UInt8) then (if t377 = 0 then ((integer_Int_Text.f k bt384.1 bt384.2.1).bind fun t392 => (if t392.toList = ([45, 49, 48, 48, 48] : List UInt8) then (if bt384.2.2 = 0 then ((integer_From.f k (-12)).bind fun bt393 => ((integer_From.f k 18).bind fun bt397 => ((integer_Gcd.f k bt393.1 bt393.2 bt397.1 bt397.2).bind fun bt401 => ((integer_Int_Text.f k bt401.1 bt401.2).bind fun t405 => (if t405.toList = ([54] : List UInt8) then ((integer_From.f k 256).bind fun bt406 => ((integer_Int_Bits.f bt406.1 bt406.2).bind fun t410 => (some (t410 == 9)))) else (none)))))) else (none)) else (none))) else (none)) else (none))) else (none))))) = some r := H
  have A3 := Aside0.mk A30
  clear A30
  replace H := Option.bind_eq_some_iff.mp H
  obtain ⟨⟨t380, t381⟩, A40, H⟩ := H
  replace H : ((integer_Power.f k t380 t381 3).bind fun bt384 => ((integer_Int_Text.f k t369 t370).bind fun t390 => (if t390.toList = ([45, 52] : List UInt8) then ((integer_Int_Text.f k t373 t374).bind fun t391 => (if t391.toList = ([49] : List UInt8) then (if t377 = 0 then ((integer_Int_Text.f k bt384.1 bt384.2.1).bind fun t392 => (if t392.toList = ([45, 49, 48, 48, 48] : List UInt8) then (if bt384.2.2 = 0 then ((integer_From.f k (-12)).bind fun bt393 => ((integer_From.f k 18).bind fun bt397 => ((integer_Gcd.f k bt393.1 bt393.2 bt397.1 bt397.2).bind fun bt401 => ((integer_Int_Text.f k bt401.1 bt401.2).bind fun t405 => (if t405.toList = ([54] : List UInt8) then ((integer_From.f k 256).bind fun bt406 => ((integer_Int_Bits.f bt406.1 bt406.2).bind fun t410 => (some (t410 == 9)))) else (none)))))) else (none)) else (none))) else (none)) else (none))) else (none)))) = some r := H
  have A4 := Aside0.mk A40
  clear A40
  replace H := Option.bind_eq_some_iff.mp H
  obtain ⟨⟨t384, t385, t388⟩, A50, H⟩ := H
  replace H : ((integer_Int_Text.f k t369 t370).bind fun t390 => (if t390.toList = ([45, 52] : List UInt8) then ((integer_Int_Text.f k t373 t374).bind fun t391 => (if t391.toList = ([49] : List UInt8) then (if t377 = 0 then ((integer_Int_Text.f k t384 t385).bind fun t392 => (if t392.toList = ([45, 49, 48, 48, 48] : List UInt8) then (if t388 = 0 then ((integer_From.f k (-12)).bind fun bt393 => ((integer_From.f k 18).bind fun bt397 => ((integer_Gcd.f k bt393.1 bt393.2 bt397.1 bt397.2).bind fun bt401 => ((integer_Int_Text.f k bt401.1 bt401.2).bind fun t405 => (if t405.toList = ([54] : List UInt8) then ((integer_From.f k 256).bind fun bt406 => ((integer_Int_Bits.f bt406.1 bt406.2).bind fun t410 => (some (t410 == 9)))) else (none)))))) else (none)) else (none))) else (none)) else (none))) else (none))) = some r := H
  have A5 := Aside0.mk A50
  clear A50
  replace H := Option.bind_eq_some_iff.mp H
  obtain ⟨t390, A60, H⟩ := H
  replace H : (if t390.toList = ([45, 52] : List UInt8) then ((integer_Int_Text.f k t373 t374).bind fun t391 => (if t391.toList = ([49] : List UInt8) then (if t377 = 0 then ((integer_Int_Text.f k t384 t385).bind fun t392 => (if t392.toList = ([45, 49, 48, 48, 48] : List UInt8) then (if t388 = 0 then ((integer_From.f k (-12)).bind fun bt393 => ((integer_From.f k 18).bind fun bt397 => ((integer_Gcd.f k bt393.1 bt393.2 bt397.1 bt397.2).bind fun bt401 => ((integer_Int_Text.f k bt401.1 bt401.2).bind fun t405 => (if t405.toList = ([54] : List UInt8) then ((integer_From.f k 256).bind fun bt406 => ((integer_Int_Bits.f bt406.1 bt406.2).bind fun t410 => (some (t410 == 9)))) else (none)))))) else (none)) else (none))) else (none)) else (none))) else (none)) = some r := H
  have A6 := Aside0.mk A60
  clear A60
  by_cases c7 : t390.toList = ([45, 52] : List UInt8)
  · rw [if_pos c7] at H
    have c7b0 : (t390.toList == ([45, 52] : List UInt8)) = true := beq_iff_eq.mpr c7
    have c7b1 : (t390.toList != ([45, 52] : List UInt8)) = false := bne_eq_false_iff_eq.mpr c7
    clear c7
    replace H := Option.bind_eq_some_iff.mp H
    obtain ⟨t391, A80, H⟩ := H
    replace H : (if t391.toList = ([49] : List UInt8) then (if t377 = 0 then ((integer_Int_Text.f k t384 t385).bind fun t392 => (if t392.toList = ([45, 49, 48, 48, 48] : List UInt8) then (if t388 = 0 then ((integer_From.f k (-12)).bind fun bt393 => ((integer_From.f k 18).bind fun bt397 => ((integer_Gcd.f k bt393.1 bt393.2 bt397.1 bt397.2).bind fun bt401 => ((integer_Int_Text.f k bt401.1 bt401.2).bind fun t405 => (if t405.toList = ([54] : List UInt8) then ((integer_From.f k 256).bind fun bt406 => ((integer_Int_Bits.f bt406.1 bt406.2).bind fun t410 => (some (t410 == 9)))) else (none)))))) else (none)) else (none))) else (none)) else (none)) = some r := H
    have A8 := Aside0.mk A80
    clear A80
    by_cases c9 : t391.toList = ([49] : List UInt8)
    · rw [if_pos c9] at H
      have c9b0 : (t391.toList == ([49] : List UInt8)) = true := beq_iff_eq.mpr c9
      have c9b1 : (t391.toList != ([49] : List UInt8)) = false := bne_eq_false_iff_eq.mpr c9
      clear c9
      by_cases c10 : t377 = 0
      · rw [if_pos c10] at H
        have c10b0 : (t377 == 0) = true := beq_iff_eq.mpr c10
        have c10b1 : (t377 != 0) = false := bne_eq_false_iff_eq.mpr c10
        clear c10
        replace H := Option.bind_eq_some_iff.mp H
        obtain ⟨t392, A110, H⟩ := H
        replace H : (if t392.toList = ([45, 49, 48, 48, 48] : List UInt8) then (if t388 = 0 then ((integer_From.f k (-12)).bind fun bt393 => ((integer_From.f k 18).bind fun bt397 => ((integer_Gcd.f k bt393.1 bt393.2 bt397.1 bt397.2).bind fun bt401 => ((integer_Int_Text.f k bt401.1 bt401.2).bind fun t405 => (if t405.toList = ([54] : List UInt8) then ((integer_From.f k 256).bind fun bt406 => ((integer_Int_Bits.f bt406.1 bt406.2).bind fun t410 => (some (t410 == 9)))) else (none)))))) else (none)) else (none)) = some r := H
        have A11 := Aside0.mk A110
        clear A110
        by_cases c12 : t392.toList = ([45, 49, 48, 48, 48] : List UInt8)
        · rw [if_pos c12] at H
          have c12b0 : (t392.toList == ([45, 49, 48, 48, 48] : List UInt8)) = true := beq_iff_eq.mpr c12
          have c12b1 : (t392.toList != ([45, 49, 48, 48, 48] : List UInt8)) = false := bne_eq_false_iff_eq.mpr c12
          clear c12
          by_cases c13 : t388 = 0
          · rw [if_pos c13] at H
            have c13b0 : (t388 == 0) = true := beq_iff_eq.mpr c13
            have c13b1 : (t388 != 0) = false := bne_eq_false_iff_eq.mpr c13
            clear c13
            replace H := Option.bind_eq_some_iff.mp H
            obtain ⟨⟨t393, t394⟩, A140, H⟩ := H
            replace H : ((integer_From.f k 18).bind fun bt397 => ((integer_Gcd.f k t393 t394 bt397.1 bt397.2).bind fun bt401 => ((integer_Int_Text.f k bt401.1 bt401.2).bind fun t405 => (if t405.toList = ([54] : List UInt8) then ((integer_From.f k 256).bind fun bt406 => ((integer_Int_Bits.f bt406.1 bt406.2).bind fun t410 => (some (t410 == 9)))) else (none))))) = some r := H
            have A14 := Aside0.mk A140
            clear A140
            replace H := Option.bind_eq_some_iff.mp H
            obtain ⟨⟨t397, t398⟩, A150, H⟩ := H
            replace H : ((integer_Gcd.f k t393 t394 t397 t398).bind fun bt401 => ((integer_Int_Text.f k bt401.1 bt401.2).bind fun t405 => (if t405.toList = ([54] : List UInt8) then ((integer_From.f k 256).bind fun bt406 => ((integer_Int_Bits.f bt406.1 bt406.2).bind fun t410 => (some (t410 == 9)))) else (none)))) = some r := H
            have A15 := Aside0.mk A150
            clear A150
            replace H := Option.bind_eq_some_iff.mp H
            obtain ⟨⟨t401, t402⟩, A160, H⟩ := H
            replace H : ((integer_Int_Text.f k t401 t402).bind fun t405 => (if t405.toList = ([54] : List UInt8) then ((integer_From.f k 256).bind fun bt406 => ((integer_Int_Bits.f bt406.1 bt406.2).bind fun t410 => (some (t410 == 9)))) else (none))) = some r := H
            have A16 := Aside0.mk A160
            clear A160
            replace H := Option.bind_eq_some_iff.mp H
            obtain ⟨t405, A170, H⟩ := H
            replace H : (if t405.toList = ([54] : List UInt8) then ((integer_From.f k 256).bind fun bt406 => ((integer_Int_Bits.f bt406.1 bt406.2).bind fun t410 => (some (t410 == 9)))) else (none)) = some r := H
            have A17 := Aside0.mk A170
            clear A170
            by_cases c18 : t405.toList = ([54] : List UInt8)
            · rw [if_pos c18] at H
              have c18b0 : (t405.toList == ([54] : List UInt8)) = true := beq_iff_eq.mpr c18
              have c18b1 : (t405.toList != ([54] : List UInt8)) = false := bne_eq_false_iff_eq.mpr c18
              clear c18
              replace H := Option.bind_eq_some_iff.mp H
              obtain ⟨⟨t406, t407⟩, A190, H⟩ := H
              replace H : ((integer_Int_Bits.f t406 t407).bind fun t410 => (some (t410 == 9))) = some r := H
              have A19 := Aside0.mk A190
              clear A190
              replace H := Option.bind_eq_some_iff.mp H
              obtain ⟨t410, A200, H⟩ := H
              replace H : (some (t410 == 9)) = some r := H
              have A20 := Aside0.mk A200
              clear A200
              obtain rfl := Option.some.inj H
              go_enter Tryd.func14, Tryd.ntmps14
              go_wp2_with (first | ((with_reducible refine gate_callee (f := 15) rfl ?_); refine goesL_ (some 7) rfl rfl Tryd.func15 (by kernel_rfl) rfl #[.int .i64 (-7)] rfl (by (try simp only [List.map_toArray, List.map_cons, List.map_nil]); first | done | rfl | (simp only [List.length_drop, List.length_take]; rfl)) ?_; (with_reducible refine (integer_From.calls k (-7) t361 t362 _ A1.out).mono ?_); rintro e w21 ⟨v363, rfl, ho0, hb⟩; refine ⟨_, rfl, ?_⟩; have n0_ := Aside0.mk (Kd.V_lower (Kd.V_mono (ok' := fun k_ => True) ho0 (fun k_ hk_ => trivial)) (below_size (by repeat (first | (with_reducible first | exact HB.out | apply below_alloc | apply pw_below_drewN | apply below_drew1) | exact HB.out)))); have n1_ := Aside0.mk (below_step (by repeat (first | (with_reducible first | exact HB.out | apply below_alloc | apply pw_below_drewN | apply below_drew1) | exact HB.out)) hb); clear HB; have HO364 := n0_; have HB := n1_; clear n0_ n1_; (try clear hb); (try clear hb2); (try clear hk); (try clear hi); (try clear ho0)) | ((with_reducible refine gate_callee (f := 15) rfl ?_); refine goesL_ (some 8) rfl rfl Tryd.func15 (by kernel_rfl) rfl #[.int .i64 2] rfl (by (try simp only [List.map_toArray, List.map_cons, List.map_nil]); first | done | rfl | (simp only [List.length_drop, List.length_take]; rfl)) ?_; (with_reducible refine (integer_From.calls k 2 t365 t366 _ A2.out).mono ?_); rintro e w22 ⟨v367, rfl, ho0, hb⟩; refine ⟨_, rfl, ?_⟩; have n0_ := Aside0.mk (Kd.V_below (by (with_reducible repeat (first | apply Kd.V_alloc | apply Kd.V_drewN | apply Kd.V_drew)); exact HO364.out) hb); have n1_ := Aside0.mk (Kd.V_lower (Kd.V_mono (ok' := fun k_ => True) ho0 (fun k_ hk_ => trivial)) (below_size (by repeat (first | (with_reducible first | exact HB.out | apply below_alloc | apply pw_below_drewN | apply below_drew1) | exact HB.out)))); have n2_ := Aside0.mk (below_step (by repeat (first | (with_reducible first | exact HB.out | apply below_alloc | apply pw_below_drewN | apply below_drew1) | exact HB.out)) hb); clear HO364; clear HB; have HO364 := n0_; have HO368 := n1_; have HB := n2_; clear n0_ n1_ n2_; (try clear hb); (try clear hb2); (try clear hk); (try clear hi); (try clear ho0); obtain ⟨Ao23, co23, eo23⟩ := Kd.V_slice HO364.out; subst eo23; obtain ⟨Ao24, co24, eo24⟩ := Kd.V_slice HO368.out; subst eo24) | ((with_reducible refine gate_callee (f := 27) rfl ?_); refine goesL_ (some 9) rfl rfl Tryd.func27 (by kernel_rfl) rfl #[.agg #[.bool t361, .slice Ao23 t362.length co23], .agg #[.bool t365, .slice Ao24 t366.length co24]] rfl (by (try simp only [List.map_toArray, List.map_cons, List.map_nil]); first | done | rfl | (simp only [List.length_drop, List.length_take]; rfl)) ?_; (with_reducible refine (integer_DivMod.calls k t361 (fun k_ => True) _ _ t362 t365 _ _ t366 t369 t370 t373 t374 t377 _ ?side1 ?side2 ?side3 A3.out).mono ?_); (case side1 => exact HO364.out); (case side2 => repeat (first | exact (Kd.V_reads' HO368.out).2.2 | (with_reducible refine Kd.C_alloc ?_ _) | (with_reducible refine Kd.C_drewN ?_ _) | (with_reducible refine Kd.C_drew ?_))); (case side3 => exact (Kd.V_reads' HO368.out).2.1); rintro e w25 ⟨v371, v375, rfl, ho0, ho1, hb⟩; refine ⟨_, rfl, ?_⟩; have n0_ := Aside0.mk (Kd.V_below (by (with_reducible repeat (first | apply Kd.V_alloc | apply Kd.V_drewN | apply Kd.V_drew)); exact HO364.out) hb); have n1_ := Aside0.mk (Kd.V_below (by (with_reducible repeat (first | apply Kd.V_alloc | apply Kd.V_drewN | apply Kd.V_drew)); exact HO368.out) hb); have n2_ := Aside0.mk (Kd.V_lower (Kd.V_mono (ok' := fun k_ => True) ho0 (fun k_ hk_ => trivial)) (below_size (by repeat (first | (with_reducible first | exact HB.out | apply below_alloc | apply pw_below_drewN | apply below_drew1) | exact HB.out)))); have n3_ := Aside0.mk (Kd.V_lower (Kd.V_mono (ok' := fun k_ => True) ho1 (fun k_ hk_ => trivial)) (below_size (by repeat (first | (with_reducible first | exact HB.out | apply below_alloc | apply pw_below_drewN | apply below_drew1) | exact HB.out)))); have n4_ := Aside0.mk (below_step (by repeat (first | (with_reducible first | exact HB.out | apply below_alloc | apply pw_below_drewN | apply below_drew1) | exact HB.out)) hb); clear HO364; clear HO368; clear HB; have HO364 := n0_; have HO368 := n1_; have HO372 := n2_; have HO376 := n3_; have HB := n4_; clear n0_ n1_ n2_ n3_ n4_; (try clear hb); (try clear hb2); (try clear hk); (try clear hi); (try clear ho0); (try clear ho1)) | ((with_reducible refine gate_dst (N := 1) rfl ?_); refine box_event ?hg (N := 1) ?hd (cs := #[.bool false, .slice none 0 0]) (t := 25) ?hr ?_; (case hd => rfl); (case hg => rfl); (case hr => first | (go_simp; done) | (go_simp; rfl)); intro gb378 hg w26 hbox hb; have n0_ := Aside0.mk (Kd.V_below (Kd.V_elderB (by (with_reducible repeat (first | apply Kd.V_alloc | apply Kd.V_drewN | apply Kd.V_drew)); exact HO364.out) gb378 (Nat.le_of_eq hg.symm)) hb); have n1_ := Aside0.mk (Kd.V_below (Kd.V_elderB (by (with_reducible repeat (first | apply Kd.V_alloc | apply Kd.V_drewN | apply Kd.V_drew)); exact HO368.out) gb378 (Nat.le_of_eq hg.symm)) hb); have n2_ := Aside0.mk (Kd.V_below (Kd.V_elderB (by (with_reducible repeat (first | apply Kd.V_alloc | apply Kd.V_drewN | apply Kd.V_drew)); exact HO372.out) gb378 (Nat.le_of_eq hg.symm)) hb); have n3_ := Aside0.mk (Kd.V_below (Kd.V_elderB (by (with_reducible repeat (first | apply Kd.V_alloc | apply Kd.V_drewN | apply Kd.V_drew)); exact HO376.out) gb378 (Nat.le_of_eq hg.symm)) hb); have n4_ := Aside0.mk (below_step (by repeat (first | (with_reducible first | exact HB.out | apply below_alloc | apply pw_below_drewN | apply below_drew1) | exact HB.out)) hb); have n5_ := Aside0.mk (hbox); have n6_ := Aside0.mk ((by rw [hg]; exact (below_size (by repeat (first | (with_reducible first | exact HB.out | apply below_alloc | apply pw_below_drewN | apply below_drew1) | exact HB.out))) : w.heap.size ≤ gb378)); have n7_ := Aside0.mk ((by rw [hg]; exact (below_size (by repeat (first | (with_reducible first | exact HB.out | apply below_alloc | apply pw_below_drewN | apply below_drew1) | exact HB.out))) : w.heap.size ≤ gb378)); clear HO364; clear HO368; clear HO372; clear HO376; clear HB; have HO364 := n0_; have HO368 := n1_; have HO372 := n2_; have HO376 := n3_; have HB := n4_; have BK378 := n5_; have GW378 := n6_; have GE378 := n7_; clear n0_ n1_ n2_ n3_ n4_ n5_ n6_ n7_; clear hb hbox hg) | ((with_reducible refine gate_dst (N := 2) rfl ?_); refine box_event ?hg (N := 2) ?hd (cs := #[.bool false, .slice none 0 0]) (t := 25) ?hr ?_; (case hd => rfl); (case hg => rfl); (case hr => first | (go_simp; done) | (go_simp; rfl)); intro gb379 hg w27 hbox hb; have n0_ := Aside0.mk (Kd.V_below (Kd.V_elderB (by (with_reducible repeat (first | apply Kd.V_alloc | apply Kd.V_drewN | apply Kd.V_drew)); exact HO364.out) gb379 (Nat.le_of_eq hg.symm)) hb); have n1_ := Aside0.mk (Kd.V_below (Kd.V_elderB (by (with_reducible repeat (first | apply Kd.V_alloc | apply Kd.V_drewN | apply Kd.V_drew)); exact HO368.out) gb379 (Nat.le_of_eq hg.symm)) hb); have n2_ := Aside0.mk (Kd.V_below (Kd.V_elderB (by (with_reducible repeat (first | apply Kd.V_alloc | apply Kd.V_drewN | apply Kd.V_drew)); exact HO372.out) gb379 (Nat.le_of_eq hg.symm)) hb); have n3_ := Aside0.mk (Kd.V_below (Kd.V_elderB (by (with_reducible repeat (first | apply Kd.V_alloc | apply Kd.V_drewN | apply Kd.V_drew)); exact HO376.out) gb379 (Nat.le_of_eq hg.symm)) hb); have n4_ := Aside0.mk (blk_below (g := gb378) (o := .cells #[.bool false, .slice none 0 0] 25 (0, 0)) (by (with_reducible repeat (first | refine blk_drewN ?_ _ | refine blk_drew ?_ | refine blk_alloc ?_ _)); exact BK378.out) hb); have n5_ := Aside0.mk (below_step (by repeat (first | (with_reducible first | exact HB.out | apply below_alloc | apply pw_below_drewN | apply below_drew1 | refine below_set ?_ GE378.out) | exact HB.out)) hb); have n6_ := Aside0.mk (hbox); have n7_ := Aside0.mk ((by rw [hg]; exact (below_size (by repeat (first | (with_reducible first | exact HB.out | apply below_alloc | apply pw_below_drewN | apply below_drew1 | refine below_set ?_ GE378.out) | exact HB.out))) : w.heap.size ≤ gb379)); have n8_ := Aside0.mk ((by rw [hg]; exact (below_size (by repeat (first | (with_reducible first | exact HB.out | apply below_alloc | apply pw_below_drewN | apply below_drew1 | refine below_set ?_ GE378.out) | exact HB.out))) : w.heap.size ≤ gb379)); have n9_ := Aside0.mk ((by rw [hg]; exact Nat.ne_of_lt (blk_lt (g := gb378) (o := .cells #[.bool false, .slice none 0 0] 25 (0, 0)) (by (with_reducible repeat (first | refine blk_drewN ?_ _ | refine blk_drew ?_ | refine blk_alloc ?_ _)); exact BK378.out)) : gb378 ≠ gb379)); have n10_ := Aside0.mk ((by rw [hg]; exact Nat.ne_of_gt (blk_lt (g := gb378) (o := .cells #[.bool false, .slice none 0 0] 25 (0, 0)) (by (with_reducible repeat (first | refine blk_drewN ?_ _ | refine blk_drew ?_ | refine blk_alloc ?_ _)); exact BK378.out)) : gb379 ≠ gb378)); clear HO364; clear HO368; clear HO372; clear HO376; clear BK378; clear HB; have HO364 := n0_; have HO368 := n1_; have HO372 := n2_; have HO376 := n3_; have BK378 := n4_; have HB := n5_; have BK379 := n6_; have GW379 := n7_; have GE379 := n8_; have NB378_379 := n9_; have NB379_378 := n10_; clear n0_ n1_ n2_ n3_ n4_ n5_ n6_ n7_ n8_ n9_ n10_; clear hb hbox hg; have hnb28 := NB378_379.out; have hnc28 := NB379_378.out; have hcz29_0 : w27.cell? ⟨gb378, 0, none⟩ = some (.bool false) := (blk_cell BK378.out 0).trans rfl; have hcz29_1 : w27.cell? ⟨gb378, 1, none⟩ = some (.slice none 0 0) := (blk_cell BK378.out 1).trans rfl; have hfz29_0 := blk_frozen BK378.out 0; have hfz29_1 := blk_frozen BK378.out 1; obtain ⟨Ao30, co30, eo30⟩ := Kd.V_slice HO372.out; subst eo30; have hcz31_0 : w27.cell? ⟨gb379, 0, none⟩ = some (.bool false) := (blk_cell BK379.out 0).trans rfl; have hcz31_1 : w27.cell? ⟨gb379, 1, none⟩ = some (.slice none 0 0) := (blk_cell BK379.out 1).trans rfl; have hfz31_0 := blk_frozen BK379.out 0; have hfz31_1 := blk_frozen BK379.out 1; obtain ⟨Ao32, co32, eo32⟩ := Kd.V_slice HO376.out; subst eo32) | ((with_reducible refine gate_callee (f := 15) rfl ?_); refine goesL_ (some 14) rfl rfl Tryd.func15 (by kernel_rfl) rfl #[.int .i64 (-10)] rfl (by (try simp only [List.map_toArray, List.map_cons, List.map_nil]); first | done | rfl | (simp only [List.length_drop, List.length_take]; rfl)) ?_; (with_reducible refine (integer_From.calls k (-10) t380 t381 _ A4.out).mono ?_); rintro e w33 ⟨v382, rfl, ho0, hb⟩; refine ⟨_, rfl, ?_⟩; have n0_ := Aside0.mk (Kd.V_below (by (with_reducible repeat (first | apply Kd.V_alloc | apply Kd.V_drewN | apply Kd.V_drew)); exact (Kd.V_mono (Kd.V_mono (Kd.V_far (p := ⟨gb379, 1, none⟩) (Kd.V_far (p := ⟨gb379, 0, none⟩) (Kd.V_far (p := ⟨gb378, 1, none⟩) (Kd.V_far (p := ⟨gb378, 0, none⟩) (Kd.V_mono (Kd.V_mono HO364.out (fun k_ hk => (⟨hk, hk.1.2⟩ : _ ∧ k_ ≠ gb378))) (fun k_ hk => (⟨hk, hk.1.2⟩ : _ ∧ k_ ≠ gb379))) (fun _ hk => hk.1.2) (.bool t369)) (fun _ hk => hk.1.2) (.slice Ao30 t370.length co30)) (fun _ hk => hk.2) (.bool t373)) (fun _ hk => hk.2) (.slice Ao32 t374.length co32)) (fun _ h_ => h_.1)) (fun _ h_ => h_.1))) hb); have n1_ := Aside0.mk (Kd.V_below (by (with_reducible repeat (first | apply Kd.V_alloc | apply Kd.V_drewN | apply Kd.V_drew)); exact (Kd.V_mono (Kd.V_mono (Kd.V_far (p := ⟨gb379, 1, none⟩) (Kd.V_far (p := ⟨gb379, 0, none⟩) (Kd.V_far (p := ⟨gb378, 1, none⟩) (Kd.V_far (p := ⟨gb378, 0, none⟩) (Kd.V_mono (Kd.V_mono HO368.out (fun k_ hk => (⟨hk, hk.1.2⟩ : _ ∧ k_ ≠ gb378))) (fun k_ hk => (⟨hk, hk.1.2⟩ : _ ∧ k_ ≠ gb379))) (fun _ hk => hk.1.2) (.bool t369)) (fun _ hk => hk.1.2) (.slice Ao30 t370.length co30)) (fun _ hk => hk.2) (.bool t373)) (fun _ hk => hk.2) (.slice Ao32 t374.length co32)) (fun _ h_ => h_.1)) (fun _ h_ => h_.1))) hb); have n2_ := Aside0.mk (Kd.V_below (by (with_reducible repeat (first | apply Kd.V_alloc | apply Kd.V_drewN | apply Kd.V_drew)); exact (Kd.V_mono (Kd.V_mono (Kd.V_far (p := ⟨gb379, 1, none⟩) (Kd.V_far (p := ⟨gb379, 0, none⟩) (Kd.V_far (p := ⟨gb378, 1, none⟩) (Kd.V_far (p := ⟨gb378, 0, none⟩) (Kd.V_mono (Kd.V_mono HO372.out (fun k_ hk => (⟨hk, hk.1.2⟩ : _ ∧ k_ ≠ gb378))) (fun k_ hk => (⟨hk, hk.1.2⟩ : _ ∧ k_ ≠ gb379))) (fun _ hk => hk.1.2) (.bool t369)) (fun _ hk => hk.1.2) (.slice Ao30 t370.length co30)) (fun _ hk => hk.2) (.bool t373)) (fun _ hk => hk.2) (.slice Ao32 t374.length co32)) (fun _ h_ => h_.1)) (fun _ h_ => h_.1))) hb); have n3_ := Aside0.mk (Kd.V_below (by (with_reducible repeat (first | apply Kd.V_alloc | apply Kd.V_drewN | apply Kd.V_drew)); exact (Kd.V_mono (Kd.V_mono (Kd.V_far (p := ⟨gb379, 1, none⟩) (Kd.V_far (p := ⟨gb379, 0, none⟩) (Kd.V_far (p := ⟨gb378, 1, none⟩) (Kd.V_far (p := ⟨gb378, 0, none⟩) (Kd.V_mono (Kd.V_mono HO376.out (fun k_ hk => (⟨hk, hk.1.2⟩ : _ ∧ k_ ≠ gb378))) (fun k_ hk => (⟨hk, hk.1.2⟩ : _ ∧ k_ ≠ gb379))) (fun _ hk => hk.1.2) (.bool t369)) (fun _ hk => hk.1.2) (.slice Ao30 t370.length co30)) (fun _ hk => hk.2) (.bool t373)) (fun _ hk => hk.2) (.slice Ao32 t374.length co32)) (fun _ h_ => h_.1)) (fun _ h_ => h_.1))) hb); have n4_ := Aside0.mk (Kd.V_lower (Kd.V_mono (ok' := fun k_ => k_ ≠ gb378 ∧ k_ ≠ gb379) ho0 (fun k_ hk_ => ⟨(Kd.freshB (g := gb378) (o := .cells #[.bool t369, .slice Ao30 t370.length co30] 25 (0, 0)) (by (with_reducible repeat (first | refine blk_drewN ?_ _ | refine blk_drew ?_ | refine blk_alloc ?_ _)); refine blk_far ?_ NB378_379.out _; (with_reducible repeat (first | refine blk_drewN ?_ _ | refine blk_drew ?_ | refine blk_alloc ?_ _)); refine blk_far ?_ NB378_379.out _; (with_reducible repeat (first | refine blk_drewN ?_ _ | refine blk_drew ?_ | refine blk_alloc ?_ _)); refine blk_put (cs := #[.bool t369, .slice none 0 0]) ?_ 1 _ rfl; (with_reducible repeat (first | refine blk_drewN ?_ _ | refine blk_drew ?_ | refine blk_alloc ?_ _)); refine blk_put (cs := #[.bool false, .slice none 0 0]) ?_ 0 _ rfl; (with_reducible repeat (first | refine blk_drewN ?_ _ | refine blk_drew ?_ | refine blk_alloc ?_ _)); exact BK378.out) k_ hk_), (Kd.freshB (g := gb379) (o := .cells #[.bool t373, .slice Ao32 t374.length co32] 25 (0, 0)) (by (with_reducible repeat (first | refine blk_drewN ?_ _ | refine blk_drew ?_ | refine blk_alloc ?_ _)); refine blk_put (cs := #[.bool t373, .slice none 0 0]) ?_ 1 _ rfl; (with_reducible repeat (first | refine blk_drewN ?_ _ | refine blk_drew ?_ | refine blk_alloc ?_ _)); refine blk_put (cs := #[.bool false, .slice none 0 0]) ?_ 0 _ rfl; (with_reducible repeat (first | refine blk_drewN ?_ _ | refine blk_drew ?_ | refine blk_alloc ?_ _)); refine blk_far ?_ NB379_378.out _; (with_reducible repeat (first | refine blk_drewN ?_ _ | refine blk_drew ?_ | refine blk_alloc ?_ _)); refine blk_far ?_ NB379_378.out _; (with_reducible repeat (first | refine blk_drewN ?_ _ | refine blk_drew ?_ | refine blk_alloc ?_ _)); exact BK379.out) k_ hk_)⟩)) (below_size (by repeat (first | (with_reducible first | exact HB.out | apply below_alloc | apply pw_below_drewN | apply below_drew1 | refine below_set ?_ GE378.out | refine below_set ?_ GE379.out) | exact HB.out)))); have n5_ := Aside0.mk (blk_below (g := gb378) (o := .cells #[.bool t369, .slice Ao30 t370.length co30] 25 (0, 0)) (by (with_reducible repeat (first | refine blk_drewN ?_ _ | refine blk_drew ?_ | refine blk_alloc ?_ _)); refine blk_far ?_ NB378_379.out _; (with_reducible repeat (first | refine blk_drewN ?_ _ | refine blk_drew ?_ | refine blk_alloc ?_ _)); refine blk_far ?_ NB378_379.out _; (with_reducible repeat (first | refine blk_drewN ?_ _ | refine blk_drew ?_ | refine blk_alloc ?_ _)); refine blk_put (cs := #[.bool t369, .slice none 0 0]) ?_ 1 _ rfl; (with_reducible repeat (first | refine blk_drewN ?_ _ | refine blk_drew ?_ | refine blk_alloc ?_ _)); refine blk_put (cs := #[.bool false, .slice none 0 0]) ?_ 0 _ rfl; (with_reducible repeat (first | refine blk_drewN ?_ _ | refine blk_drew ?_ | refine blk_alloc ?_ _)); exact BK378.out) hb); have n6_ := Aside0.mk (blk_below (g := gb379) (o := .cells #[.bool t373, .slice Ao32 t374.length co32] 25 (0, 0)) (by (with_reducible repeat (first | refine blk_drewN ?_ _ | refine blk_drew ?_ | refine blk_alloc ?_ _)); refine blk_put (cs := #[.bool t373, .slice none 0 0]) ?_ 1 _ rfl; (with_reducible repeat (first | refine blk_drewN ?_ _ | refine blk_drew ?_ | refine blk_alloc ?_ _)); refine blk_put (cs := #[.bool false, .slice none 0 0]) ?_ 0 _ rfl; (with_reducible repeat (first | refine blk_drewN ?_ _ | refine blk_drew ?_ | refine blk_alloc ?_ _)); refine blk_far ?_ NB379_378.out _; (with_reducible repeat (first | refine blk_drewN ?_ _ | refine blk_drew ?_ | refine blk_alloc ?_ _)); refine blk_far ?_ NB379_378.out _; (with_reducible repeat (first | refine blk_drewN ?_ _ | refine blk_drew ?_ | refine blk_alloc ?_ _)); exact BK379.out) hb); have n7_ := Aside0.mk (below_step (by repeat (first | (with_reducible first | exact HB.out | apply below_alloc | apply pw_below_drewN | apply below_drew1 | refine below_set ?_ GE378.out | refine below_set ?_ GE379.out) | exact HB.out)) hb); clear HO364; clear HO368; clear HO372; clear HO376; clear BK378; clear BK379; clear HB; have HO364 := n0_; have HO368 := n1_; have HO372 := n2_; have HO376 := n3_; have HO383 := n4_; have BK378 := n5_; have BK379 := n6_; have HB := n7_; clear n0_ n1_ n2_ n3_ n4_ n5_ n6_ n7_; (try clear hb); (try clear hb2); (try clear hk); (try clear hi); (try clear ho0); obtain ⟨Ao34, co34, eo34⟩ := Kd.V_slice HO383.out; subst eo34) | ((with_reducible refine gate_callee (f := 31) rfl ?_); refine goesL_ (some 15) rfl rfl Tryd.func31 (by kernel_rfl) rfl #[.agg #[.bool t380, .slice Ao34 t381.length co34], .int .i64 3] rfl (by (try simp only [List.map_toArray, List.map_cons, List.map_nil]); first | done | rfl | (simp only [List.length_drop, List.length_take]; rfl)) ?_; (with_reducible refine (integer_Power.calls k t380 _ _ t381 3 t384 t385 t388 _ ?side1 ?side2 A5.out).mono ?_); (case side1 => repeat (first | exact (Kd.V_reads' HO383.out).2.2 | (with_reducible refine Kd.C_alloc ?_ _) | (with_reducible refine Kd.C_drewN ?_ _) | (with_reducible refine Kd.C_drew ?_))); (case side2 => exact (Kd.V_reads' HO383.out).2.1); rintro e w35 ⟨v386, rfl, ho0, hb⟩; refine ⟨_, rfl, ?_⟩; have n0_ := Aside0.mk (Kd.V_below (by (with_reducible repeat (first | apply Kd.V_alloc | apply Kd.V_drewN | apply Kd.V_drew)); exact HO364.out) hb); have n1_ := Aside0.mk (Kd.V_below (by (with_reducible repeat (first | apply Kd.V_alloc | apply Kd.V_drewN | apply Kd.V_drew)); exact HO368.out) hb); have n2_ := Aside0.mk (Kd.V_below (by (with_reducible repeat (first | apply Kd.V_alloc | apply Kd.V_drewN | apply Kd.V_drew)); exact HO372.out) hb); have n3_ := Aside0.mk (Kd.V_below (by (with_reducible repeat (first | apply Kd.V_alloc | apply Kd.V_drewN | apply Kd.V_drew)); exact HO376.out) hb); have n4_ := Aside0.mk (Kd.V_below (by (with_reducible repeat (first | apply Kd.V_alloc | apply Kd.V_drewN | apply Kd.V_drew)); exact HO383.out) hb); have n5_ := Aside0.mk (Kd.V_lower (Kd.V_mono (ok' := fun k_ => k_ ≠ gb378 ∧ k_ ≠ gb379) ho0 (fun k_ hk_ => ⟨(Kd.freshB (g := gb378) (o := .cells #[.bool t369, .slice Ao30 t370.length co30] 25 (0, 0)) (by (with_reducible repeat (first | refine blk_drewN ?_ _ | refine blk_drew ?_ | refine blk_alloc ?_ _)); exact BK378.out) k_ hk_), (Kd.freshB (g := gb379) (o := .cells #[.bool t373, .slice Ao32 t374.length co32] 25 (0, 0)) (by (with_reducible repeat (first | refine blk_drewN ?_ _ | refine blk_drew ?_ | refine blk_alloc ?_ _)); exact BK379.out) k_ hk_)⟩)) (below_size (by repeat (first | (with_reducible first | exact HB.out | apply below_alloc | apply pw_below_drewN | apply below_drew1 | refine below_set ?_ GE378.out | refine below_set ?_ GE379.out) | exact HB.out)))); have n6_ := Aside0.mk (blk_below (g := gb378) (o := .cells #[.bool t369, .slice Ao30 t370.length co30] 25 (0, 0)) (by (with_reducible repeat (first | refine blk_drewN ?_ _ | refine blk_drew ?_ | refine blk_alloc ?_ _)); exact BK378.out) hb); have n7_ := Aside0.mk (blk_below (g := gb379) (o := .cells #[.bool t373, .slice Ao32 t374.length co32] 25 (0, 0)) (by (with_reducible repeat (first | refine blk_drewN ?_ _ | refine blk_drew ?_ | refine blk_alloc ?_ _)); exact BK379.out) hb); have n8_ := Aside0.mk (below_step (by repeat (first | (with_reducible first | exact HB.out | apply below_alloc | apply pw_below_drewN | apply below_drew1 | refine below_set ?_ GE378.out | refine below_set ?_ GE379.out) | exact HB.out)) hb); clear HO364; clear HO368; clear HO372; clear HO376; clear HO383; clear BK378; clear BK379; clear HB; have HO364 := n0_; have HO368 := n1_; have HO372 := n2_; have HO376 := n3_; have HO383 := n4_; have HO387 := n5_; have BK378 := n6_; have BK379 := n7_; have HB := n8_; clear n0_ n1_ n2_ n3_ n4_ n5_ n6_ n7_ n8_; (try clear hb); (try clear hb2); (try clear hk); (try clear hi); (try clear ho0)) | ((with_reducible refine gate_dst (N := 4) rfl ?_); refine box_event ?hg (N := 4) ?hd (cs := #[.bool false, .slice none 0 0]) (t := 25) ?hr ?_; (case hd => rfl); (case hg => rfl); (case hr => first | (go_simp; done) | (go_simp; rfl)); intro gb389 hg w36 hbox hb; have n0_ := Aside0.mk (Kd.V_below (Kd.V_elderB (by (with_reducible repeat (first | apply Kd.V_alloc | apply Kd.V_drewN | apply Kd.V_drew)); exact HO364.out) gb389 (Nat.le_of_eq hg.symm)) hb); have n1_ := Aside0.mk (Kd.V_below (Kd.V_elderB (by (with_reducible repeat (first | apply Kd.V_alloc | apply Kd.V_drewN | apply Kd.V_drew)); exact HO368.out) gb389 (Nat.le_of_eq hg.symm)) hb); have n2_ := Aside0.mk (Kd.V_below (Kd.V_elderB (by (with_reducible repeat (first | apply Kd.V_alloc | apply Kd.V_drewN | apply Kd.V_drew)); exact HO372.out) gb389 (Nat.le_of_eq hg.symm)) hb); have n3_ := Aside0.mk (Kd.V_below (Kd.V_elderB (by (with_reducible repeat (first | apply Kd.V_alloc | apply Kd.V_drewN | apply Kd.V_drew)); exact HO376.out) gb389 (Nat.le_of_eq hg.symm)) hb); have n4_ := Aside0.mk (Kd.V_below (Kd.V_elderB (by (with_reducible repeat (first | apply Kd.V_alloc | apply Kd.V_drewN | apply Kd.V_drew)); exact HO383.out) gb389 (Nat.le_of_eq hg.symm)) hb); have n5_ := Aside0.mk (Kd.V_below (Kd.V_elderB (by (with_reducible repeat (first | apply Kd.V_alloc | apply Kd.V_drewN | apply Kd.V_drew)); exact HO387.out) gb389 (Nat.le_of_eq hg.symm)) hb); have n6_ := Aside0.mk (blk_below (g := gb378) (o := .cells #[.bool t369, .slice Ao30 t370.length co30] 25 (0, 0)) (by (with_reducible repeat (first | refine blk_drewN ?_ _ | refine blk_drew ?_ | refine blk_alloc ?_ _)); exact BK378.out) hb); have n7_ := Aside0.mk (blk_below (g := gb379) (o := .cells #[.bool t373, .slice Ao32 t374.length co32] 25 (0, 0)) (by (with_reducible repeat (first | refine blk_drewN ?_ _ | refine blk_drew ?_ | refine blk_alloc ?_ _)); exact BK379.out) hb); have n8_ := Aside0.mk (below_step (by repeat (first | (with_reducible first | exact HB.out | apply below_alloc | apply pw_below_drewN | apply below_drew1 | refine below_set ?_ GE378.out | refine below_set ?_ GE379.out) | exact HB.out)) hb); have n9_ := Aside0.mk (hbox); have n10_ := Aside0.mk ((by rw [hg]; exact (below_size (by repeat (first | (with_reducible first | exact HB.out | apply below_alloc | apply pw_below_drewN | apply below_drew1 | refine below_set ?_ GE378.out | refine below_set ?_ GE379.out) | exact HB.out))) : w.heap.size ≤ gb389)); have n11_ := Aside0.mk ((by rw [hg]; exact (below_size (by repeat (first | (with_reducible first | exact HB.out | apply below_alloc | apply pw_below_drewN | apply below_drew1 | refine below_set ?_ GE378.out | refine below_set ?_ GE379.out) | exact HB.out))) : w.heap.size ≤ gb389)); have n12_ := Aside0.mk ((by rw [hg]; exact Nat.ne_of_lt (blk_lt (g := gb378) (o := .cells #[.bool t369, .slice Ao30 t370.length co30] 25 (0, 0)) (by (with_reducible repeat (first | refine blk_drewN ?_ _ | refine blk_drew ?_ | refine blk_alloc ?_ _)); exact BK378.out)) : gb378 ≠ gb389)); have n13_ := Aside0.mk ((by rw [hg]; exact Nat.ne_of_gt (blk_lt (g := gb378) (o := .cells #[.bool t369, .slice Ao30 t370.length co30] 25 (0, 0)) (by (with_reducible repeat (first | refine blk_drewN ?_ _ | refine blk_drew ?_ | refine blk_alloc ?_ _)); exact BK378.out)) : gb389 ≠ gb378)); have n14_ := Aside0.mk ((by rw [hg]; exact Nat.ne_of_lt (blk_lt (g := gb379) (o := .cells #[.bool t373, .slice Ao32 t374.length co32] 25 (0, 0)) (by (with_reducible repeat (first | refine blk_drewN ?_ _ | refine blk_drew ?_ | refine blk_alloc ?_ _)); exact BK379.out)) : gb379 ≠ gb389)); have n15_ := Aside0.mk ((by rw [hg]; exact Nat.ne_of_gt (blk_lt (g := gb379) (o := .cells #[.bool t373, .slice Ao32 t374.length co32] 25 (0, 0)) (by (with_reducible repeat (first | refine blk_drewN ?_ _ | refine blk_drew ?_ | refine blk_alloc ?_ _)); exact BK379.out)) : gb389 ≠ gb379)); clear HO364; clear HO368; clear HO372; clear HO376; clear HO383; clear HO387; clear BK378; clear BK379; clear HB; have HO364 := n0_; have HO368 := n1_; have HO372 := n2_; have HO376 := n3_; have HO383 := n4_; have HO387 := n5_; have BK378 := n6_; have BK379 := n7_; have HB := n8_; have BK389 := n9_; have GW389 := n10_; have GE389 := n11_; have NB378_389 := n12_; have NB389_378 := n13_; have NB379_389 := n14_; have NB389_379 := n15_; clear n0_ n1_ n2_ n3_ n4_ n5_ n6_ n7_ n8_ n9_ n10_ n11_ n12_ n13_ n14_ n15_; clear hb hbox hg; have hnb37 := NB389_378.out; have hnc37 := NB378_389.out; have hnb38 := NB389_379.out; have hnc38 := NB379_389.out; have hcz39_0 : w36.cell? ⟨gb389, 0, none⟩ = some (.bool false) := (blk_cell BK389.out 0).trans rfl; have hcz39_1 : w36.cell? ⟨gb389, 1, none⟩ = some (.slice none 0 0) := (blk_cell BK389.out 1).trans rfl; have hfz39_0 := blk_frozen BK389.out 0; have hfz39_1 := blk_frozen BK389.out 1; obtain ⟨Ao40, co40, eo40⟩ := Kd.V_slice HO387.out; subst eo40) | ((with_reducible refine gate_store (t := 25) (p := 4) rfl ?_); refine store_event (t := 25) (p := 4) (v := ?vo_w41) (w1 := ((w36.setCell ⟨gb389, 0, none⟩ (.bool t384)).setCell ⟨gb389, 1, none⟩ (.slice Ao40 t385.length co40))) ?hg ?ho ?hn ?hr ?_; (case ho => rfl); (case hg => rfl); (case hn => rfl); (case hr => first | (go_simp; done) | (go_simp; rfl)); intro w41 hw; have n0_ : Aside0 (Kd.V (Kd.int .u32) 60 w41 w.heap.size (fun k_ => k_ ≠ gb378 ∧ k_ ≠ gb379 ∧ k_ ≠ gb389) (.slice Ao23 t362.length co23) t362) := ⟨(by rw [hw]; exact (by (with_reducible repeat (first | apply Kd.V_alloc | apply Kd.V_drewN | apply Kd.V_drew)); exact Kd.V_mono (Kd.V_far (p := ⟨gb389, 1, none⟩) (Kd.V_far (p := ⟨gb389, 0, none⟩) (Kd.V_mono HO364.out (fun k_ hk => (⟨hk, hk.2⟩ : _ ∧ k_ ≠ gb389))) (fun _ hk => hk.2) (.bool t384)) (fun _ hk => hk.2) (.slice Ao40 t385.length co40)) (fun _ hk => ⟨hk.1.1.1.2, ⟨hk.1.1.2, hk.1.2⟩⟩)))⟩; have n1_ : Aside0 (Kd.V (Kd.int .u32) 60 w41 w.heap.size (fun k_ => k_ ≠ gb378 ∧ k_ ≠ gb379 ∧ k_ ≠ gb389) (.slice Ao24 t366.length co24) t366) := ⟨(by rw [hw]; exact (by (with_reducible repeat (first | apply Kd.V_alloc | apply Kd.V_drewN | apply Kd.V_drew)); exact Kd.V_mono (Kd.V_far (p := ⟨gb389, 1, none⟩) (Kd.V_far (p := ⟨gb389, 0, none⟩) (Kd.V_mono HO368.out (fun k_ hk => (⟨hk, hk.2⟩ : _ ∧ k_ ≠ gb389))) (fun _ hk => hk.2) (.bool t384)) (fun _ hk => hk.2) (.slice Ao40 t385.length co40)) (fun _ hk => ⟨hk.1.1.1.2, ⟨hk.1.1.2, hk.1.2⟩⟩)))⟩; have n2_ : Aside0 (Kd.V (Kd.int .u32) 60 w41 w.heap.size (fun k_ => k_ ≠ gb378 ∧ k_ ≠ gb379 ∧ k_ ≠ gb389) (.slice Ao30 t370.length co30) t370) := ⟨(by rw [hw]; exact (by (with_reducible repeat (first | apply Kd.V_alloc | apply Kd.V_drewN | apply Kd.V_drew)); exact Kd.V_mono (Kd.V_far (p := ⟨gb389, 1, none⟩) (Kd.V_far (p := ⟨gb389, 0, none⟩) (Kd.V_mono HO372.out (fun k_ hk => (⟨hk, hk.2⟩ : _ ∧ k_ ≠ gb389))) (fun _ hk => hk.2) (.bool t384)) (fun _ hk => hk.2) (.slice Ao40 t385.length co40)) (fun _ hk => ⟨hk.1.1.1.2, ⟨hk.1.1.2, hk.1.2⟩⟩)))⟩; have n3_ : Aside0 (Kd.V (Kd.int .u32) 60 w41 w.heap.size (fun k_ => k_ ≠ gb378 ∧ k_ ≠ gb379 ∧ k_ ≠ gb389) (.slice Ao32 t374.length co32) t374) := ⟨(by rw [hw]; exact (by (with_reducible repeat (first | apply Kd.V_alloc | apply Kd.V_drewN | apply Kd.V_drew)); exact Kd.V_mono (Kd.V_far (p := ⟨gb389, 1, none⟩) (Kd.V_far (p := ⟨gb389, 0, none⟩) (Kd.V_mono HO376.out (fun k_ hk => (⟨hk, hk.2⟩ : _ ∧ k_ ≠ gb389))) (fun _ hk => hk.2) (.bool t384)) (fun _ hk => hk.2) (.slice Ao40 t385.length co40)) (fun _ hk => ⟨hk.1.1.1.2, ⟨hk.1.1.2, hk.1.2⟩⟩)))⟩; have n4_ : Aside0 (Kd.V (Kd.int .u32) 60 w41 w.heap.size (fun k_ => k_ ≠ gb378 ∧ k_ ≠ gb379 ∧ k_ ≠ gb389) (.slice Ao34 t381.length co34) t381) := ⟨(by rw [hw]; exact (by (with_reducible repeat (first | apply Kd.V_alloc | apply Kd.V_drewN | apply Kd.V_drew)); exact Kd.V_mono (Kd.V_far (p := ⟨gb389, 1, none⟩) (Kd.V_far (p := ⟨gb389, 0, none⟩) (Kd.V_mono HO383.out (fun k_ hk => (⟨hk, hk.2⟩ : _ ∧ k_ ≠ gb389))) (fun _ hk => hk.2) (.bool t384)) (fun _ hk => hk.2) (.slice Ao40 t385.length co40)) (fun _ hk => ⟨hk.1.1.1, ⟨hk.1.1.2, hk.1.2⟩⟩)))⟩; have n5_ : Aside0 (Kd.V (Kd.int .u32) 60 w41 w.heap.size (fun k_ => k_ ≠ gb378 ∧ k_ ≠ gb379 ∧ k_ ≠ gb389) (.slice Ao40 t385.length co40) t385) := ⟨(by rw [hw]; exact (by (with_reducible repeat (first | apply Kd.V_alloc | apply Kd.V_drewN | apply Kd.V_drew)); exact Kd.V_mono (Kd.V_far (p := ⟨gb389, 1, none⟩) (Kd.V_far (p := ⟨gb389, 0, none⟩) (Kd.V_mono HO387.out (fun k_ hk => (⟨hk, hk.2⟩ : _ ∧ k_ ≠ gb389))) (fun _ hk => hk.2) (.bool t384)) (fun _ hk => hk.2) (.slice Ao40 t385.length co40)) (fun _ hk => ⟨hk.1.1.1, ⟨hk.1.1.2, hk.1.2⟩⟩)))⟩; have n6_ : Aside0 (w41.heap[gb378]? = some (.cells #[.bool t369, .slice Ao30 t370.length co30] 25 (0, 0))) := ⟨(by rw [hw]; exact (by (with_reducible repeat (first | refine blk_drewN ?_ _ | refine blk_drew ?_ | refine blk_alloc ?_ _)); refine blk_far ?_ NB378_389.out _; (with_reducible repeat (first | refine blk_drewN ?_ _ | refine blk_drew ?_ | refine blk_alloc ?_ _)); refine blk_far ?_ NB378_389.out _; (with_reducible repeat (first | refine blk_drewN ?_ _ | refine blk_drew ?_ | refine blk_alloc ?_ _)); exact BK378.out))⟩; have n7_ : Aside0 (w41.heap[gb379]? = some (.cells #[.bool t373, .slice Ao32 t374.length co32] 25 (0, 0))) := ⟨(by rw [hw]; exact (by (with_reducible repeat (first | refine blk_drewN ?_ _ | refine blk_drew ?_ | refine blk_alloc ?_ _)); refine blk_far ?_ NB379_389.out _; (with_reducible repeat (first | refine blk_drewN ?_ _ | refine blk_drew ?_ | refine blk_alloc ?_ _)); refine blk_far ?_ NB379_389.out _; (with_reducible repeat (first | refine blk_drewN ?_ _ | refine blk_drew ?_ | refine blk_alloc ?_ _)); exact BK379.out))⟩; have n8_ : Aside0 (w41.heap[gb389]? = some (.cells #[.bool t384, .slice Ao40 t385.length co40] 25 (0, 0))) := ⟨(by rw [hw]; exact (by (with_reducible repeat (first | refine blk_drewN ?_ _ | refine blk_drew ?_ | refine blk_alloc ?_ _)); refine blk_put (cs := #[.bool t384, .slice none 0 0]) ?_ 1 _ rfl; (with_reducible repeat (first | refine blk_drewN ?_ _ | refine blk_drew ?_ | refine blk_alloc ?_ _)); refine blk_put (cs := #[.bool false, .slice none 0 0]) ?_ 0 _ rfl; (with_reducible repeat (first | refine blk_drewN ?_ _ | refine blk_drew ?_ | refine blk_alloc ?_ _)); exact BK389.out))⟩; have n9_ : Aside0 (Below w.heap.size w w41) := ⟨(by rw [hw]; exact (by repeat (first | (with_reducible first | exact HB.out | apply below_alloc | apply pw_below_drewN | apply below_drew1 | refine below_set ?_ GE378.out | refine below_set ?_ GE379.out | refine below_set ?_ GE389.out) | exact HB.out)))⟩; clear hw; clear HO364; clear HO368; clear HO372; clear HO376; clear HO383; clear HO387; clear BK378; clear BK379; clear BK389; clear HB; have HO364 := n0_; have HO368 := n1_; have HO372 := n2_; have HO376 := n3_; have HO383 := n4_; have HO387 := n5_; have BK378 := n6_; have BK379 := n7_; have BK389 := n8_; have HB := n9_; clear n0_ n1_ n2_ n3_ n4_ n5_ n6_ n7_ n8_ n9_; have hcz42_0 : w41.cell? ⟨gb378, 0, none⟩ = some (.bool t369) := (blk_cell BK378.out 0).trans rfl; have hcz42_1 : w41.cell? ⟨gb378, 1, none⟩ = some (.slice Ao30 t370.length co30) := (blk_cell BK378.out 1).trans rfl; have hfz42_0 := blk_frozen BK378.out 0; have hfz42_1 := blk_frozen BK378.out 1) | ((with_reducible refine gate_callee (f := 17) rfl ?_); refine goesL_ (some 19) rfl rfl Tryd.func17 (by kernel_rfl) rfl #[.agg #[.bool t369, .slice Ao30 t370.length co30]] rfl (by (try simp only [List.map_toArray, List.map_cons, List.map_nil]); first | done | rfl | (simp only [List.length_drop, List.length_take]; rfl)) ?_; (with_reducible refine (integer_Int_Text.calls k t369 (fun k_ => (k_ ≠ gb378 ∧ (k_ ≠ gb379 ∧ k_ ≠ gb389))) _ _ t370 t390 _ ?side1 ?side2 A6.out).mono ?_); (case side1 => exact HO372.out); (case side2 => exact G_below HG.out (by repeat (first | (with_reducible first | exact HB.out | apply below_alloc | apply pw_below_drewN | apply below_drew1 | refine below_set ?_ GE378.out | refine below_set ?_ GE379.out | refine below_set ?_ GE389.out) | exact HB.out))); rintro e w43 ⟨rfl, hb⟩; refine ⟨_, rfl, ?_⟩; have n0_ := Aside0.mk (Kd.V_below (by (with_reducible repeat (first | apply Kd.V_alloc | apply Kd.V_drewN | apply Kd.V_drew)); exact HO364.out) hb); have n1_ := Aside0.mk (Kd.V_below (by (with_reducible repeat (first | apply Kd.V_alloc | apply Kd.V_drewN | apply Kd.V_drew)); exact HO368.out) hb); have n2_ := Aside0.mk (Kd.V_below (by (with_reducible repeat (first | apply Kd.V_alloc | apply Kd.V_drewN | apply Kd.V_drew)); exact HO372.out) hb); have n3_ := Aside0.mk (Kd.V_below (by (with_reducible repeat (first | apply Kd.V_alloc | apply Kd.V_drewN | apply Kd.V_drew)); exact HO376.out) hb); have n4_ := Aside0.mk (Kd.V_below (by (with_reducible repeat (first | apply Kd.V_alloc | apply Kd.V_drewN | apply Kd.V_drew)); exact HO383.out) hb); have n5_ := Aside0.mk (Kd.V_below (by (with_reducible repeat (first | apply Kd.V_alloc | apply Kd.V_drewN | apply Kd.V_drew)); exact HO387.out) hb); have n6_ := Aside0.mk (blk_below (g := gb378) (o := .cells #[.bool t369, .slice Ao30 t370.length co30] 25 (0, 0)) (by (with_reducible repeat (first | refine blk_drewN ?_ _ | refine blk_drew ?_ | refine blk_alloc ?_ _)); exact BK378.out) hb); have n7_ := Aside0.mk (blk_below (g := gb379) (o := .cells #[.bool t373, .slice Ao32 t374.length co32] 25 (0, 0)) (by (with_reducible repeat (first | refine blk_drewN ?_ _ | refine blk_drew ?_ | refine blk_alloc ?_ _)); exact BK379.out) hb); have n8_ := Aside0.mk (blk_below (g := gb389) (o := .cells #[.bool t384, .slice Ao40 t385.length co40] 25 (0, 0)) (by (with_reducible repeat (first | refine blk_drewN ?_ _ | refine blk_drew ?_ | refine blk_alloc ?_ _)); exact BK389.out) hb); have n9_ := Aside0.mk (below_step (by repeat (first | (with_reducible first | exact HB.out | apply below_alloc | apply pw_below_drewN | apply below_drew1 | refine below_set ?_ GE378.out | refine below_set ?_ GE379.out | refine below_set ?_ GE389.out) | exact HB.out)) hb); clear HO364; clear HO368; clear HO372; clear HO376; clear HO383; clear HO387; clear BK378; clear BK379; clear BK389; clear HB; have HO364 := n0_; have HO368 := n1_; have HO372 := n2_; have HO376 := n3_; have HO383 := n4_; have HO387 := n5_; have BK378 := n6_; have BK379 := n7_; have BK389 := n8_; have HB := n9_; clear n0_ n1_ n2_ n3_ n4_ n5_ n6_ n7_ n8_ n9_; (try clear hb); (try clear hb2); (try clear hk); (try clear hi); have hcz44_0 : w43.cell? ⟨gb379, 0, none⟩ = some (.bool t373) := (blk_cell BK379.out 0).trans rfl; have hcz44_1 : w43.cell? ⟨gb379, 1, none⟩ = some (.slice Ao32 t374.length co32) := (blk_cell BK379.out 1).trans rfl; have hfz44_0 := blk_frozen BK379.out 0; have hfz44_1 := blk_frozen BK379.out 1) | (go_at_call 17; (with_reducible refine (integer_Int_Text.calls k t373 (fun k_ => (k_ ≠ gb378 ∧ (k_ ≠ gb379 ∧ k_ ≠ gb389))) _ _ t374 t391 _ ?side1 ?side2 A8.out).mono ?_); (case side1 => exact HO376.out); (case side2 => exact G_below HG.out (by repeat (first | (with_reducible first | exact HB.out | apply below_alloc | apply pw_below_drewN | apply below_drew1 | refine below_set ?_ GE378.out | refine below_set ?_ GE379.out | refine below_set ?_ GE389.out) | exact HB.out))); rintro e w45 ⟨rfl, hb⟩; have n0_ := Aside0.mk (Kd.V_below (by (with_reducible repeat (first | apply Kd.V_alloc | apply Kd.V_drewN | apply Kd.V_drew)); exact HO364.out) hb); have n1_ := Aside0.mk (Kd.V_below (by (with_reducible repeat (first | apply Kd.V_alloc | apply Kd.V_drewN | apply Kd.V_drew)); exact HO368.out) hb); have n2_ := Aside0.mk (Kd.V_below (by (with_reducible repeat (first | apply Kd.V_alloc | apply Kd.V_drewN | apply Kd.V_drew)); exact HO372.out) hb); have n3_ := Aside0.mk (Kd.V_below (by (with_reducible repeat (first | apply Kd.V_alloc | apply Kd.V_drewN | apply Kd.V_drew)); exact HO376.out) hb); have n4_ := Aside0.mk (Kd.V_below (by (with_reducible repeat (first | apply Kd.V_alloc | apply Kd.V_drewN | apply Kd.V_drew)); exact HO383.out) hb); have n5_ := Aside0.mk (Kd.V_below (by (with_reducible repeat (first | apply Kd.V_alloc | apply Kd.V_drewN | apply Kd.V_drew)); exact HO387.out) hb); have n6_ := Aside0.mk (blk_below (g := gb378) (o := .cells #[.bool t369, .slice Ao30 t370.length co30] 25 (0, 0)) (by (with_reducible repeat (first | refine blk_drewN ?_ _ | refine blk_drew ?_ | refine blk_alloc ?_ _)); exact BK378.out) hb); have n7_ := Aside0.mk (blk_below (g := gb379) (o := .cells #[.bool t373, .slice Ao32 t374.length co32] 25 (0, 0)) (by (with_reducible repeat (first | refine blk_drewN ?_ _ | refine blk_drew ?_ | refine blk_alloc ?_ _)); exact BK379.out) hb); have n8_ := Aside0.mk (blk_below (g := gb389) (o := .cells #[.bool t384, .slice Ao40 t385.length co40] 25 (0, 0)) (by (with_reducible repeat (first | refine blk_drewN ?_ _ | refine blk_drew ?_ | refine blk_alloc ?_ _)); exact BK389.out) hb); have n9_ := Aside0.mk (below_step (by repeat (first | (with_reducible first | exact HB.out | apply below_alloc | apply pw_below_drewN | apply below_drew1 | refine below_set ?_ GE378.out | refine below_set ?_ GE379.out | refine below_set ?_ GE389.out) | exact HB.out)) hb); clear HO364; clear HO368; clear HO372; clear HO376; clear HO383; clear HO387; clear BK378; clear BK379; clear BK389; clear HB; have HO364 := n0_; have HO368 := n1_; have HO372 := n2_; have HO376 := n3_; have HO383 := n4_; have HO387 := n5_; have BK378 := n6_; have BK379 := n7_; have BK389 := n8_; have HB := n9_; clear n0_ n1_ n2_ n3_ n4_ n5_ n6_ n7_ n8_ n9_; (try clear hb); (try clear hb2); (try clear hk); (try clear hi); have hcz46_0 : w45.cell? ⟨gb389, 0, none⟩ = some (.bool t384) := (blk_cell BK389.out 0).trans rfl; have hcz46_1 : w45.cell? ⟨gb389, 1, none⟩ = some (.slice Ao40 t385.length co40) := (blk_cell BK389.out 1).trans rfl; have hfz46_0 := blk_frozen BK389.out 0; have hfz46_1 := blk_frozen BK389.out 1) | (go_at_call 17; (with_reducible refine (integer_Int_Text.calls k t384 (fun k_ => (k_ ≠ gb378 ∧ (k_ ≠ gb379 ∧ k_ ≠ gb389))) _ _ t385 t392 _ ?side1 ?side2 A11.out).mono ?_); (case side1 => exact HO387.out); (case side2 => exact G_below HG.out (by repeat (first | (with_reducible first | exact HB.out | apply below_alloc | apply pw_below_drewN | apply below_drew1 | refine below_set ?_ GE378.out | refine below_set ?_ GE379.out | refine below_set ?_ GE389.out) | exact HB.out))); rintro e w47 ⟨rfl, hb⟩; have n0_ := Aside0.mk (Kd.V_below (by (with_reducible repeat (first | apply Kd.V_alloc | apply Kd.V_drewN | apply Kd.V_drew)); exact HO364.out) hb); have n1_ := Aside0.mk (Kd.V_below (by (with_reducible repeat (first | apply Kd.V_alloc | apply Kd.V_drewN | apply Kd.V_drew)); exact HO368.out) hb); have n2_ := Aside0.mk (Kd.V_below (by (with_reducible repeat (first | apply Kd.V_alloc | apply Kd.V_drewN | apply Kd.V_drew)); exact HO372.out) hb); have n3_ := Aside0.mk (Kd.V_below (by (with_reducible repeat (first | apply Kd.V_alloc | apply Kd.V_drewN | apply Kd.V_drew)); exact HO376.out) hb); have n4_ := Aside0.mk (Kd.V_below (by (with_reducible repeat (first | apply Kd.V_alloc | apply Kd.V_drewN | apply Kd.V_drew)); exact HO383.out) hb); have n5_ := Aside0.mk (Kd.V_below (by (with_reducible repeat (first | apply Kd.V_alloc | apply Kd.V_drewN | apply Kd.V_drew)); exact HO387.out) hb); have n6_ := Aside0.mk (blk_below (g := gb378) (o := .cells #[.bool t369, .slice Ao30 t370.length co30] 25 (0, 0)) (by (with_reducible repeat (first | refine blk_drewN ?_ _ | refine blk_drew ?_ | refine blk_alloc ?_ _)); exact BK378.out) hb); have n7_ := Aside0.mk (blk_below (g := gb379) (o := .cells #[.bool t373, .slice Ao32 t374.length co32] 25 (0, 0)) (by (with_reducible repeat (first | refine blk_drewN ?_ _ | refine blk_drew ?_ | refine blk_alloc ?_ _)); exact BK379.out) hb); have n8_ := Aside0.mk (blk_below (g := gb389) (o := .cells #[.bool t384, .slice Ao40 t385.length co40] 25 (0, 0)) (by (with_reducible repeat (first | refine blk_drewN ?_ _ | refine blk_drew ?_ | refine blk_alloc ?_ _)); exact BK389.out) hb); have n9_ := Aside0.mk (below_step (by repeat (first | (with_reducible first | exact HB.out | apply below_alloc | apply pw_below_drewN | apply below_drew1 | refine below_set ?_ GE378.out | refine below_set ?_ GE379.out | refine below_set ?_ GE389.out) | exact HB.out)) hb); clear HO364; clear HO368; clear HO372; clear HO376; clear HO383; clear HO387; clear BK378; clear BK379; clear BK389; clear HB; have HO364 := n0_; have HO368 := n1_; have HO372 := n2_; have HO376 := n3_; have HO383 := n4_; have HO387 := n5_; have BK378 := n6_; have BK379 := n7_; have BK389 := n8_; have HB := n9_; clear n0_ n1_ n2_ n3_ n4_ n5_ n6_ n7_ n8_ n9_; (try clear hb); (try clear hb2); (try clear hk); (try clear hi)) | (go_at_call 15; (with_reducible refine (integer_From.calls k (-12) t393 t394 _ A14.out).mono ?_); rintro e w48 ⟨v395, rfl, ho0, hb⟩; have n0_ := Aside0.mk (Kd.V_below (by (with_reducible repeat (first | apply Kd.V_alloc | apply Kd.V_drewN | apply Kd.V_drew)); exact HO364.out) hb); have n1_ := Aside0.mk (Kd.V_below (by (with_reducible repeat (first | apply Kd.V_alloc | apply Kd.V_drewN | apply Kd.V_drew)); exact HO368.out) hb); have n2_ := Aside0.mk (Kd.V_below (by (with_reducible repeat (first | apply Kd.V_alloc | apply Kd.V_drewN | apply Kd.V_drew)); exact HO372.out) hb); have n3_ := Aside0.mk (Kd.V_below (by (with_reducible repeat (first | apply Kd.V_alloc | apply Kd.V_drewN | apply Kd.V_drew)); exact HO376.out) hb); have n4_ := Aside0.mk (Kd.V_below (by (with_reducible repeat (first | apply Kd.V_alloc | apply Kd.V_drewN | apply Kd.V_drew)); exact HO383.out) hb); have n5_ := Aside0.mk (Kd.V_below (by (with_reducible repeat (first | apply Kd.V_alloc | apply Kd.V_drewN | apply Kd.V_drew)); exact HO387.out) hb); have n6_ := Aside0.mk (Kd.V_lower (Kd.V_mono (ok' := fun k_ => k_ ≠ gb378 ∧ k_ ≠ gb379 ∧ k_ ≠ gb389) ho0 (fun k_ hk_ => ⟨(Kd.freshB (g := gb378) (o := .cells #[.bool t369, .slice Ao30 t370.length co30] 25 (0, 0)) (by (with_reducible repeat (first | refine blk_drewN ?_ _ | refine blk_drew ?_ | refine blk_alloc ?_ _)); exact BK378.out) k_ hk_), (Kd.freshB (g := gb379) (o := .cells #[.bool t373, .slice Ao32 t374.length co32] 25 (0, 0)) (by (with_reducible repeat (first | refine blk_drewN ?_ _ | refine blk_drew ?_ | refine blk_alloc ?_ _)); exact BK379.out) k_ hk_), (Kd.freshB (g := gb389) (o := .cells #[.bool t384, .slice Ao40 t385.length co40] 25 (0, 0)) (by (with_reducible repeat (first | refine blk_drewN ?_ _ | refine blk_drew ?_ | refine blk_alloc ?_ _)); exact BK389.out) k_ hk_)⟩)) (below_size (by repeat (first | (with_reducible first | exact HB.out | apply below_alloc | apply pw_below_drewN | apply below_drew1 | refine below_set ?_ GE378.out | refine below_set ?_ GE379.out | refine below_set ?_ GE389.out) | exact HB.out)))); have n7_ := Aside0.mk (blk_below (g := gb378) (o := .cells #[.bool t369, .slice Ao30 t370.length co30] 25 (0, 0)) (by (with_reducible repeat (first | refine blk_drewN ?_ _ | refine blk_drew ?_ | refine blk_alloc ?_ _)); exact BK378.out) hb); have n8_ := Aside0.mk (blk_below (g := gb379) (o := .cells #[.bool t373, .slice Ao32 t374.length co32] 25 (0, 0)) (by (with_reducible repeat (first | refine blk_drewN ?_ _ | refine blk_drew ?_ | refine blk_alloc ?_ _)); exact BK379.out) hb); have n9_ := Aside0.mk (blk_below (g := gb389) (o := .cells #[.bool t384, .slice Ao40 t385.length co40] 25 (0, 0)) (by (with_reducible repeat (first | refine blk_drewN ?_ _ | refine blk_drew ?_ | refine blk_alloc ?_ _)); exact BK389.out) hb); have n10_ := Aside0.mk (below_step (by repeat (first | (with_reducible first | exact HB.out | apply below_alloc | apply pw_below_drewN | apply below_drew1 | refine below_set ?_ GE378.out | refine below_set ?_ GE379.out | refine below_set ?_ GE389.out) | exact HB.out)) hb); clear HO364; clear HO368; clear HO372; clear HO376; clear HO383; clear HO387; clear BK378; clear BK379; clear BK389; clear HB; have HO364 := n0_; have HO368 := n1_; have HO372 := n2_; have HO376 := n3_; have HO383 := n4_; have HO387 := n5_; have HO396 := n6_; have BK378 := n7_; have BK379 := n8_; have BK389 := n9_; have HB := n10_; clear n0_ n1_ n2_ n3_ n4_ n5_ n6_ n7_ n8_ n9_ n10_; (try clear hb); (try clear hb2); (try clear hk); (try clear hi); (try clear ho0)) | (go_at_call 15; (with_reducible refine (integer_From.calls k 18 t397 t398 _ A15.out).mono ?_); rintro e w49 ⟨v399, rfl, ho0, hb⟩; have n0_ := Aside0.mk (Kd.V_below (by (with_reducible repeat (first | apply Kd.V_alloc | apply Kd.V_drewN | apply Kd.V_drew)); exact HO364.out) hb); have n1_ := Aside0.mk (Kd.V_below (by (with_reducible repeat (first | apply Kd.V_alloc | apply Kd.V_drewN | apply Kd.V_drew)); exact HO368.out) hb); have n2_ := Aside0.mk (Kd.V_below (by (with_reducible repeat (first | apply Kd.V_alloc | apply Kd.V_drewN | apply Kd.V_drew)); exact HO372.out) hb); have n3_ := Aside0.mk (Kd.V_below (by (with_reducible repeat (first | apply Kd.V_alloc | apply Kd.V_drewN | apply Kd.V_drew)); exact HO376.out) hb); have n4_ := Aside0.mk (Kd.V_below (by (with_reducible repeat (first | apply Kd.V_alloc | apply Kd.V_drewN | apply Kd.V_drew)); exact HO383.out) hb); have n5_ := Aside0.mk (Kd.V_below (by (with_reducible repeat (first | apply Kd.V_alloc | apply Kd.V_drewN | apply Kd.V_drew)); exact HO387.out) hb); have n6_ := Aside0.mk (Kd.V_below (by (with_reducible repeat (first | apply Kd.V_alloc | apply Kd.V_drewN | apply Kd.V_drew)); exact HO396.out) hb); have n7_ := Aside0.mk (Kd.V_lower (Kd.V_mono (ok' := fun k_ => k_ ≠ gb378 ∧ k_ ≠ gb379 ∧ k_ ≠ gb389) ho0 (fun k_ hk_ => ⟨(Kd.freshB (g := gb378) (o := .cells #[.bool t369, .slice Ao30 t370.length co30] 25 (0, 0)) (by (with_reducible repeat (first | refine blk_drewN ?_ _ | refine blk_drew ?_ | refine blk_alloc ?_ _)); exact BK378.out) k_ hk_), (Kd.freshB (g := gb379) (o := .cells #[.bool t373, .slice Ao32 t374.length co32] 25 (0, 0)) (by (with_reducible repeat (first | refine blk_drewN ?_ _ | refine blk_drew ?_ | refine blk_alloc ?_ _)); exact BK379.out) k_ hk_), (Kd.freshB (g := gb389) (o := .cells #[.bool t384, .slice Ao40 t385.length co40] 25 (0, 0)) (by (with_reducible repeat (first | refine blk_drewN ?_ _ | refine blk_drew ?_ | refine blk_alloc ?_ _)); exact BK389.out) k_ hk_)⟩)) (below_size (by repeat (first | (with_reducible first | exact HB.out | apply below_alloc | apply pw_below_drewN | apply below_drew1 | refine below_set ?_ GE378.out | refine below_set ?_ GE379.out | refine below_set ?_ GE389.out) | exact HB.out)))); have n8_ := Aside0.mk (blk_below (g := gb378) (o := .cells #[.bool t369, .slice Ao30 t370.length co30] 25 (0, 0)) (by (with_reducible repeat (first | refine blk_drewN ?_ _ | refine blk_drew ?_ | refine blk_alloc ?_ _)); exact BK378.out) hb); have n9_ := Aside0.mk (blk_below (g := gb379) (o := .cells #[.bool t373, .slice Ao32 t374.length co32] 25 (0, 0)) (by (with_reducible repeat (first | refine blk_drewN ?_ _ | refine blk_drew ?_ | refine blk_alloc ?_ _)); exact BK379.out) hb); have n10_ := Aside0.mk (blk_below (g := gb389) (o := .cells #[.bool t384, .slice Ao40 t385.length co40] 25 (0, 0)) (by (with_reducible repeat (first | refine blk_drewN ?_ _ | refine blk_drew ?_ | refine blk_alloc ?_ _)); exact BK389.out) hb); have n11_ := Aside0.mk (below_step (by repeat (first | (with_reducible first | exact HB.out | apply below_alloc | apply pw_below_drewN | apply below_drew1 | refine below_set ?_ GE378.out | refine below_set ?_ GE379.out | refine below_set ?_ GE389.out) | exact HB.out)) hb); clear HO364; clear HO368; clear HO372; clear HO376; clear HO383; clear HO387; clear HO396; clear BK378; clear BK379; clear BK389; clear HB; have HO364 := n0_; have HO368 := n1_; have HO372 := n2_; have HO376 := n3_; have HO383 := n4_; have HO387 := n5_; have HO396 := n6_; have HO400 := n7_; have BK378 := n8_; have BK379 := n9_; have BK389 := n10_; have HB := n11_; clear n0_ n1_ n2_ n3_ n4_ n5_ n6_ n7_ n8_ n9_ n10_ n11_; (try clear hb); (try clear hb2); (try clear hk); (try clear hi); (try clear ho0); obtain ⟨Ao50, co50, eo50⟩ := Kd.V_slice HO396.out; subst eo50; obtain ⟨Ao51, co51, eo51⟩ := Kd.V_slice HO400.out; subst eo51) | (go_at_call 29; (with_reducible refine (integer_Gcd.calls k t393 (fun k_ => (k_ ≠ gb378 ∧ (k_ ≠ gb379 ∧ k_ ≠ gb389))) _ _ t394 t397 (fun k_ => (k_ ≠ gb378 ∧ (k_ ≠ gb379 ∧ k_ ≠ gb389))) _ _ t398 t401 t402 _ ?side1 ?side2 A16.out).mono ?_); (case side1 => exact HO396.out); (case side2 => exact HO400.out); rintro e w52 ⟨v403, rfl, ho0, hb⟩; have n0_ := Aside0.mk (Kd.V_below (by (with_reducible repeat (first | apply Kd.V_alloc | apply Kd.V_drewN | apply Kd.V_drew)); exact HO364.out) hb); have n1_ := Aside0.mk (Kd.V_below (by (with_reducible repeat (first | apply Kd.V_alloc | apply Kd.V_drewN | apply Kd.V_drew)); exact HO368.out) hb); have n2_ := Aside0.mk (Kd.V_below (by (with_reducible repeat (first | apply Kd.V_alloc | apply Kd.V_drewN | apply Kd.V_drew)); exact HO372.out) hb); have n3_ := Aside0.mk (Kd.V_below (by (with_reducible repeat (first | apply Kd.V_alloc | apply Kd.V_drewN | apply Kd.V_drew)); exact HO376.out) hb); have n4_ := Aside0.mk (Kd.V_below (by (with_reducible repeat (first | apply Kd.V_alloc | apply Kd.V_drewN | apply Kd.V_drew)); exact HO383.out) hb); have n5_ := Aside0.mk (Kd.V_below (by (with_reducible repeat (first | apply Kd.V_alloc | apply Kd.V_drewN | apply Kd.V_drew)); exact HO387.out) hb); have n6_ := Aside0.mk (Kd.V_below (by (with_reducible repeat (first | apply Kd.V_alloc | apply Kd.V_drewN | apply Kd.V_drew)); exact HO396.out) hb); have n7_ := Aside0.mk (Kd.V_below (by (with_reducible repeat (first | apply Kd.V_alloc | apply Kd.V_drewN | apply Kd.V_drew)); exact HO400.out) hb); have n8_ := Aside0.mk (Kd.V_lower (Kd.V_mono (ok' := fun k_ => k_ ≠ gb378 ∧ k_ ≠ gb379 ∧ k_ ≠ gb389) ho0 (fun k_ hk_ => ⟨Or.elim hk_ (fun hs_ => Or.elim hs_ (fun hs_ => hs_.1) (fun hs_ => hs_.1)) (fun hn_ => (Kd.freshB (g := gb378) (o := .cells #[.bool t369, .slice Ao30 t370.length co30] 25 (0, 0)) (by (with_reducible repeat (first | refine blk_drewN ?_ _ | refine blk_drew ?_ | refine blk_alloc ?_ _)); exact BK378.out) k_ hn_)), Or.elim hk_ (fun hs_ => Or.elim hs_ (fun hs_ => hs_.2.1) (fun hs_ => hs_.2.1)) (fun hn_ => (Kd.freshB (g := gb379) (o := .cells #[.bool t373, .slice Ao32 t374.length co32] 25 (0, 0)) (by (with_reducible repeat (first | refine blk_drewN ?_ _ | refine blk_drew ?_ | refine blk_alloc ?_ _)); exact BK379.out) k_ hn_)), Or.elim hk_ (fun hs_ => Or.elim hs_ (fun hs_ => hs_.2.2) (fun hs_ => hs_.2.2)) (fun hn_ => (Kd.freshB (g := gb389) (o := .cells #[.bool t384, .slice Ao40 t385.length co40] 25 (0, 0)) (by (with_reducible repeat (first | refine blk_drewN ?_ _ | refine blk_drew ?_ | refine blk_alloc ?_ _)); exact BK389.out) k_ hn_))⟩)) (below_size (by repeat (first | (with_reducible first | exact HB.out | apply below_alloc | apply pw_below_drewN | apply below_drew1 | refine below_set ?_ GE378.out | refine below_set ?_ GE379.out | refine below_set ?_ GE389.out) | exact HB.out)))); have n9_ := Aside0.mk (blk_below (g := gb378) (o := .cells #[.bool t369, .slice Ao30 t370.length co30] 25 (0, 0)) (by (with_reducible repeat (first | refine blk_drewN ?_ _ | refine blk_drew ?_ | refine blk_alloc ?_ _)); exact BK378.out) hb); have n10_ := Aside0.mk (blk_below (g := gb379) (o := .cells #[.bool t373, .slice Ao32 t374.length co32] 25 (0, 0)) (by (with_reducible repeat (first | refine blk_drewN ?_ _ | refine blk_drew ?_ | refine blk_alloc ?_ _)); exact BK379.out) hb); have n11_ := Aside0.mk (blk_below (g := gb389) (o := .cells #[.bool t384, .slice Ao40 t385.length co40] 25 (0, 0)) (by (with_reducible repeat (first | refine blk_drewN ?_ _ | refine blk_drew ?_ | refine blk_alloc ?_ _)); exact BK389.out) hb); have n12_ := Aside0.mk (below_step (by repeat (first | (with_reducible first | exact HB.out | apply below_alloc | apply pw_below_drewN | apply below_drew1 | refine below_set ?_ GE378.out | refine below_set ?_ GE379.out | refine below_set ?_ GE389.out) | exact HB.out)) hb); clear HO364; clear HO368; clear HO372; clear HO376; clear HO383; clear HO387; clear HO396; clear HO400; clear BK378; clear BK379; clear BK389; clear HB; have HO364 := n0_; have HO368 := n1_; have HO372 := n2_; have HO376 := n3_; have HO383 := n4_; have HO387 := n5_; have HO396 := n6_; have HO400 := n7_; have HO404 := n8_; have BK378 := n9_; have BK379 := n10_; have BK389 := n11_; have HB := n12_; clear n0_ n1_ n2_ n3_ n4_ n5_ n6_ n7_ n8_ n9_ n10_ n11_ n12_; (try clear hb); (try clear hb2); (try clear hk); (try clear hi); (try clear ho0); obtain ⟨Ao53, co53, eo53⟩ := Kd.V_slice HO404.out; subst eo53) | (go_at_call 17; (with_reducible refine (integer_Int_Text.calls k t401 (fun k_ => (k_ ≠ gb378 ∧ (k_ ≠ gb379 ∧ k_ ≠ gb389))) _ _ t402 t405 _ ?side1 ?side2 A17.out).mono ?_); (case side1 => exact HO404.out); (case side2 => exact G_below HG.out (by repeat (first | (with_reducible first | exact HB.out | apply below_alloc | apply pw_below_drewN | apply below_drew1 | refine below_set ?_ GE378.out | refine below_set ?_ GE379.out | refine below_set ?_ GE389.out) | exact HB.out))); rintro e w54 ⟨rfl, hb⟩; have n0_ := Aside0.mk (Kd.V_below (by (with_reducible repeat (first | apply Kd.V_alloc | apply Kd.V_drewN | apply Kd.V_drew)); exact HO364.out) hb); have n1_ := Aside0.mk (Kd.V_below (by (with_reducible repeat (first | apply Kd.V_alloc | apply Kd.V_drewN | apply Kd.V_drew)); exact HO368.out) hb); have n2_ := Aside0.mk (Kd.V_below (by (with_reducible repeat (first | apply Kd.V_alloc | apply Kd.V_drewN | apply Kd.V_drew)); exact HO372.out) hb); have n3_ := Aside0.mk (Kd.V_below (by (with_reducible repeat (first | apply Kd.V_alloc | apply Kd.V_drewN | apply Kd.V_drew)); exact HO376.out) hb); have n4_ := Aside0.mk (Kd.V_below (by (with_reducible repeat (first | apply Kd.V_alloc | apply Kd.V_drewN | apply Kd.V_drew)); exact HO383.out) hb); have n5_ := Aside0.mk (Kd.V_below (by (with_reducible repeat (first | apply Kd.V_alloc | apply Kd.V_drewN | apply Kd.V_drew)); exact HO387.out) hb); have n6_ := Aside0.mk (Kd.V_below (by (with_reducible repeat (first | apply Kd.V_alloc | apply Kd.V_drewN | apply Kd.V_drew)); exact HO396.out) hb); have n7_ := Aside0.mk (Kd.V_below (by (with_reducible repeat (first | apply Kd.V_alloc | apply Kd.V_drewN | apply Kd.V_drew)); exact HO400.out) hb); have n8_ := Aside0.mk (Kd.V_below (by (with_reducible repeat (first | apply Kd.V_alloc | apply Kd.V_drewN | apply Kd.V_drew)); exact HO404.out) hb); have n9_ := Aside0.mk (blk_below (g := gb378) (o := .cells #[.bool t369, .slice Ao30 t370.length co30] 25 (0, 0)) (by (with_reducible repeat (first | refine blk_drewN ?_ _ | refine blk_drew ?_ | refine blk_alloc ?_ _)); exact BK378.out) hb); have n10_ := Aside0.mk (blk_below (g := gb379) (o := .cells #[.bool t373, .slice Ao32 t374.length co32] 25 (0, 0)) (by (with_reducible repeat (first | refine blk_drewN ?_ _ | refine blk_drew ?_ | refine blk_alloc ?_ _)); exact BK379.out) hb); have n11_ := Aside0.mk (blk_below (g := gb389) (o := .cells #[.bool t384, .slice Ao40 t385.length co40] 25 (0, 0)) (by (with_reducible repeat (first | refine blk_drewN ?_ _ | refine blk_drew ?_ | refine blk_alloc ?_ _)); exact BK389.out) hb); have n12_ := Aside0.mk (below_step (by repeat (first | (with_reducible first | exact HB.out | apply below_alloc | apply pw_below_drewN | apply below_drew1 | refine below_set ?_ GE378.out | refine below_set ?_ GE379.out | refine below_set ?_ GE389.out) | exact HB.out)) hb); clear HO364; clear HO368; clear HO372; clear HO376; clear HO383; clear HO387; clear HO396; clear HO400; clear HO404; clear BK378; clear BK379; clear BK389; clear HB; have HO364 := n0_; have HO368 := n1_; have HO372 := n2_; have HO376 := n3_; have HO383 := n4_; have HO387 := n5_; have HO396 := n6_; have HO400 := n7_; have HO404 := n8_; have BK378 := n9_; have BK379 := n10_; have BK389 := n11_; have HB := n12_; clear n0_ n1_ n2_ n3_ n4_ n5_ n6_ n7_ n8_ n9_ n10_ n11_ n12_; (try clear hb); (try clear hb2); (try clear hk); (try clear hi)) | (go_at_call 15; (with_reducible refine (integer_From.calls k 256 t406 t407 _ A19.out).mono ?_); rintro e w55 ⟨v408, rfl, ho0, hb⟩; have n0_ := Aside0.mk (Kd.V_below (by (with_reducible repeat (first | apply Kd.V_alloc | apply Kd.V_drewN | apply Kd.V_drew)); exact HO364.out) hb); have n1_ := Aside0.mk (Kd.V_below (by (with_reducible repeat (first | apply Kd.V_alloc | apply Kd.V_drewN | apply Kd.V_drew)); exact HO368.out) hb); have n2_ := Aside0.mk (Kd.V_below (by (with_reducible repeat (first | apply Kd.V_alloc | apply Kd.V_drewN | apply Kd.V_drew)); exact HO372.out) hb); have n3_ := Aside0.mk (Kd.V_below (by (with_reducible repeat (first | apply Kd.V_alloc | apply Kd.V_drewN | apply Kd.V_drew)); exact HO376.out) hb); have n4_ := Aside0.mk (Kd.V_below (by (with_reducible repeat (first | apply Kd.V_alloc | apply Kd.V_drewN | apply Kd.V_drew)); exact HO383.out) hb); have n5_ := Aside0.mk (Kd.V_below (by (with_reducible repeat (first | apply Kd.V_alloc | apply Kd.V_drewN | apply Kd.V_drew)); exact HO387.out) hb); have n6_ := Aside0.mk (Kd.V_below (by (with_reducible repeat (first | apply Kd.V_alloc | apply Kd.V_drewN | apply Kd.V_drew)); exact HO396.out) hb); have n7_ := Aside0.mk (Kd.V_below (by (with_reducible repeat (first | apply Kd.V_alloc | apply Kd.V_drewN | apply Kd.V_drew)); exact HO400.out) hb); have n8_ := Aside0.mk (Kd.V_below (by (with_reducible repeat (first | apply Kd.V_alloc | apply Kd.V_drewN | apply Kd.V_drew)); exact HO404.out) hb); have n9_ := Aside0.mk (Kd.V_lower (Kd.V_mono (ok' := fun k_ => k_ ≠ gb378 ∧ k_ ≠ gb379 ∧ k_ ≠ gb389) ho0 (fun k_ hk_ => ⟨(Kd.freshB (g := gb378) (o := .cells #[.bool t369, .slice Ao30 t370.length co30] 25 (0, 0)) (by (with_reducible repeat (first | refine blk_drewN ?_ _ | refine blk_drew ?_ | refine blk_alloc ?_ _)); exact BK378.out) k_ hk_), (Kd.freshB (g := gb379) (o := .cells #[.bool t373, .slice Ao32 t374.length co32] 25 (0, 0)) (by (with_reducible repeat (first | refine blk_drewN ?_ _ | refine blk_drew ?_ | refine blk_alloc ?_ _)); exact BK379.out) k_ hk_), (Kd.freshB (g := gb389) (o := .cells #[.bool t384, .slice Ao40 t385.length co40] 25 (0, 0)) (by (with_reducible repeat (first | refine blk_drewN ?_ _ | refine blk_drew ?_ | refine blk_alloc ?_ _)); exact BK389.out) k_ hk_)⟩)) (below_size (by repeat (first | (with_reducible first | exact HB.out | apply below_alloc | apply pw_below_drewN | apply below_drew1 | refine below_set ?_ GE378.out | refine below_set ?_ GE379.out | refine below_set ?_ GE389.out) | exact HB.out)))); have n10_ := Aside0.mk (blk_below (g := gb378) (o := .cells #[.bool t369, .slice Ao30 t370.length co30] 25 (0, 0)) (by (with_reducible repeat (first | refine blk_drewN ?_ _ | refine blk_drew ?_ | refine blk_alloc ?_ _)); exact BK378.out) hb); have n11_ := Aside0.mk (blk_below (g := gb379) (o := .cells #[.bool t373, .slice Ao32 t374.length co32] 25 (0, 0)) (by (with_reducible repeat (first | refine blk_drewN ?_ _ | refine blk_drew ?_ | refine blk_alloc ?_ _)); exact BK379.out) hb); have n12_ := Aside0.mk (blk_below (g := gb389) (o := .cells #[.bool t384, .slice Ao40 t385.length co40] 25 (0, 0)) (by (with_reducible repeat (first | refine blk_drewN ?_ _ | refine blk_drew ?_ | refine blk_alloc ?_ _)); exact BK389.out) hb); have n13_ := Aside0.mk (below_step (by repeat (first | (with_reducible first | exact HB.out | apply below_alloc | apply pw_below_drewN | apply below_drew1 | refine below_set ?_ GE378.out | refine below_set ?_ GE379.out | refine below_set ?_ GE389.out) | exact HB.out)) hb); clear HO364; clear HO368; clear HO372; clear HO376; clear HO383; clear HO387; clear HO396; clear HO400; clear HO404; clear BK378; clear BK379; clear BK389; clear HB; have HO364 := n0_; have HO368 := n1_; have HO372 := n2_; have HO376 := n3_; have HO383 := n4_; have HO387 := n5_; have HO396 := n6_; have HO400 := n7_; have HO404 := n8_; have HO409 := n9_; have BK378 := n10_; have BK379 := n11_; have BK389 := n12_; have HB := n13_; clear n0_ n1_ n2_ n3_ n4_ n5_ n6_ n7_ n8_ n9_ n10_ n11_ n12_ n13_; (try clear hb); (try clear hb2); (try clear hk); (try clear hi); (try clear ho0); obtain ⟨Ao56, co56, eo56⟩ := Kd.V_slice HO409.out; subst eo56) | (go_at_call 42; (with_reducible refine (integer_Int_Bits.calls t406 _ _ t407 t410 _ ?side1 ?side2 A20.out).mono ?_); (case side1 => repeat (first | exact (Kd.V_reads' HO409.out).2.2 | (with_reducible refine Kd.C_alloc ?_ _) | (with_reducible refine Kd.C_drewN ?_ _) | (with_reducible refine Kd.C_drew ?_))); (case side2 => exact (Kd.V_reads' HO409.out).2.1); rintro e w57 ⟨rfl, hb⟩; have n0_ := Aside0.mk (Kd.V_below (by (with_reducible repeat (first | apply Kd.V_alloc | apply Kd.V_drewN | apply Kd.V_drew)); exact HO364.out) hb); have n1_ := Aside0.mk (Kd.V_below (by (with_reducible repeat (first | apply Kd.V_alloc | apply Kd.V_drewN | apply Kd.V_drew)); exact HO368.out) hb); have n2_ := Aside0.mk (Kd.V_below (by (with_reducible repeat (first | apply Kd.V_alloc | apply Kd.V_drewN | apply Kd.V_drew)); exact HO372.out) hb); have n3_ := Aside0.mk (Kd.V_below (by (with_reducible repeat (first | apply Kd.V_alloc | apply Kd.V_drewN | apply Kd.V_drew)); exact HO376.out) hb); have n4_ := Aside0.mk (Kd.V_below (by (with_reducible repeat (first | apply Kd.V_alloc | apply Kd.V_drewN | apply Kd.V_drew)); exact HO383.out) hb); have n5_ := Aside0.mk (Kd.V_below (by (with_reducible repeat (first | apply Kd.V_alloc | apply Kd.V_drewN | apply Kd.V_drew)); exact HO387.out) hb); have n6_ := Aside0.mk (Kd.V_below (by (with_reducible repeat (first | apply Kd.V_alloc | apply Kd.V_drewN | apply Kd.V_drew)); exact HO396.out) hb); have n7_ := Aside0.mk (Kd.V_below (by (with_reducible repeat (first | apply Kd.V_alloc | apply Kd.V_drewN | apply Kd.V_drew)); exact HO400.out) hb); have n8_ := Aside0.mk (Kd.V_below (by (with_reducible repeat (first | apply Kd.V_alloc | apply Kd.V_drewN | apply Kd.V_drew)); exact HO404.out) hb); have n9_ := Aside0.mk (Kd.V_below (by (with_reducible repeat (first | apply Kd.V_alloc | apply Kd.V_drewN | apply Kd.V_drew)); exact HO409.out) hb); have n10_ := Aside0.mk (blk_below (g := gb378) (o := .cells #[.bool t369, .slice Ao30 t370.length co30] 25 (0, 0)) (by (with_reducible repeat (first | refine blk_drewN ?_ _ | refine blk_drew ?_ | refine blk_alloc ?_ _)); exact BK378.out) hb); have n11_ := Aside0.mk (blk_below (g := gb379) (o := .cells #[.bool t373, .slice Ao32 t374.length co32] 25 (0, 0)) (by (with_reducible repeat (first | refine blk_drewN ?_ _ | refine blk_drew ?_ | refine blk_alloc ?_ _)); exact BK379.out) hb); have n12_ := Aside0.mk (blk_below (g := gb389) (o := .cells #[.bool t384, .slice Ao40 t385.length co40] 25 (0, 0)) (by (with_reducible repeat (first | refine blk_drewN ?_ _ | refine blk_drew ?_ | refine blk_alloc ?_ _)); exact BK389.out) hb); have n13_ := Aside0.mk (below_step (by repeat (first | (with_reducible first | exact HB.out | apply below_alloc | apply pw_below_drewN | apply below_drew1 | refine below_set ?_ GE378.out | refine below_set ?_ GE379.out | refine below_set ?_ GE389.out) | exact HB.out)) hb); clear HO364; clear HO368; clear HO372; clear HO376; clear HO383; clear HO387; clear HO396; clear HO400; clear HO404; clear HO409; clear BK378; clear BK379; clear BK389; clear HB; have HO364 := n0_; have HO368 := n1_; have HO372 := n2_; have HO376 := n3_; have HO383 := n4_; have HO387 := n5_; have HO396 := n6_; have HO400 := n7_; have HO404 := n8_; have HO409 := n9_; have BK378 := n10_; have BK379 := n11_; have BK389 := n12_; have HB := n13_; clear n0_ n1_ n2_ n3_ n4_ n5_ n6_ n7_ n8_ n9_ n10_ n11_ n12_ n13_; (try clear hb); (try clear hb2); (try clear hk); (try clear hi)))
              go_ret
              exact ⟨by first | rfl | (simp [errW_none, errW_some] <;> rfl) | (simp [*, errW_none, errW_some] <;> rfl), by repeat (first | (with_reducible first | exact HB.out | apply below_alloc | apply pw_below_drewN | apply below_drew1 | refine below_set ?_ GE378.out | refine below_set ?_ GE379.out | refine below_set ?_ GE389.out) | exact HB.out)⟩
            · rw [if_neg c18] at H
              exact absurd H (by simp)
          · rw [if_neg c13] at H
            exact absurd H (by simp)
        · rw [if_neg c12] at H
          exact absurd H (by simp)
      · rw [if_neg c10] at H
        exact absurd H (by simp)
    · rw [if_neg c9] at H
      exact absurd H (by simp)
  · rw [if_neg c7] at H
    exact absurd H (by simp)
end Go.Proofs.YtiikfhdmclmjmaaDoor.P
namespace Go.Proofs.YtiikfhdmclmjmaaDoor.P
open Go.RowKit Go.Proofs.YtiikfhdmclmjmaaDoorW.PrintWords Go.Proofs.YtiikfhdmclmjmaaDoorW.PrintLast
set_option linter.unusedVariables false
set_option linter.unusedSimpArgs false
mutual
def integer_Int_Int.l0 : Nat → Int → List Int → Int → Int → Bool → List Int → Option (Int × Bool)
  | 0, _, _, _, _, _, _ => none
  | k + 1, x4, x12, x13, x14, x412000, x412001 => if x14 < x13 then (if 0 ≤ x14 then (if x14 < (x12.length : Int) then (if 0 ≤ (wrap64 (32 * x14)) then (integer_Int_Int.l0 k (Go.bits .or .u64 x4 (shl .u64 (IntKind.u64.wrap (rd x12 x14)) (wrap64 (32 * x14)))) x12 x13 (wrap64 (x14 + 1)) x412000 x412001) else (none)) else (none)) else (none)) else (if x412000 = true then (integer_Int_Int.j1 k x4 false x412000 x412001) else (integer_Int_Int.j1 k x4 (decide (x4 < 9223372036854775808)) x412000 x412001))
def integer_Int_Int.j1 : Nat → Int → Bool → Bool → List Int → Option (Int × Bool)
  | 0, _, _, _, _ => none
  | k + 1, x4, x27, x412000, x412001 => if x27 = true then (some (wrap64 (x4), true)) else (if x412000 = true then (if x4 ≤ 9223372036854775808 then (some (wrap64 (IntKind.u64.wrap (-x4)), true)) else (some (0, false))) else (some (0, false)))
end
def integer_Int_Int.f (k : Nat) (a0_0 : Bool) (l0_1 : List Int) : Option (Int × Bool) := if (l0_1.length : Int) > 2 then (some (0, false)) else (integer_Int_Int.l0 k 0 l0_1 (l0_1.length : Int) 0 a0_0 l0_1)
theorem integer_Int_Int.mono_l : ∀ k, (∀ y0 y1 y2 y3 y4 y5, LeO (integer_Int_Int.l0 k y0 y1 y2 y3 y4 y5) (integer_Int_Int.l0 (k + 1) y0 y1 y2 y3 y4 y5)) ∧ (∀ y0 y1 y2 y3, LeO (integer_Int_Int.j1 k y0 y1 y2 y3) (integer_Int_Int.j1 (k + 1) y0 y1 y2 y3))
  | 0 => ⟨fun _ _ _ _ _ _ r h => by simp [integer_Int_Int.l0] at h, fun _ _ _ _ r h => by simp [integer_Int_Int.j1] at h⟩
  | k + 1 => by
    obtain ⟨ih0, ih1⟩ := integer_Int_Int.mono_l k
    refine ⟨?_, ?_⟩
    · intro y0 y1 y2 y3 y4 y5
      unfold integer_Int_Int.l0
      repeat' first
      | (with_reducible exact ih0 _ _ _ _ _ _)
      | (with_reducible exact ih1 _ _ _ _)
      | (with_reducible exact LeO.refl _)
      | (with_reducible exact LeO.none _)
      | (with_reducible refine LeO.ite ?_ ?_)
      | (with_reducible refine LeO.bind ?_ (fun _ => ?_))
      | exact ih0 _ _ _ _ _ _
      | exact ih1 _ _ _ _
      | exact LeO.none _
      | refine LeO.ite ?_ ?_
      | refine LeO.bind ?_ (fun _ => ?_)
    · intro y0 y1 y2 y3
      unfold integer_Int_Int.j1
      repeat' first
      | (with_reducible exact ih0 _ _ _ _ _ _)
      | (with_reducible exact ih1 _ _ _ _)
      | (with_reducible exact LeO.refl _)
      | (with_reducible exact LeO.none _)
      | (with_reducible refine LeO.ite ?_ ?_)
      | (with_reducible refine LeO.bind ?_ (fun _ => ?_))
      | exact ih0 _ _ _ _ _ _
      | exact ih1 _ _ _ _
      | exact LeO.none _
      | refine LeO.ite ?_ ?_
      | refine LeO.bind ?_ (fun _ => ?_)
theorem integer_Int_Int.mono : ∀ a0 a1 k, LeO (integer_Int_Int.f k a0 a1) (integer_Int_Int.f (k + 1) a0 a1) := by
  intro a0 a1 k
  obtain ⟨ih0, ih1⟩ := integer_Int_Int.mono_l k
  unfold integer_Int_Int.f
  repeat' first
      | (with_reducible exact ih0 _ _ _ _ _ _)
      | (with_reducible exact ih1 _ _ _ _)
      | (with_reducible exact LeO.refl _)
      | (with_reducible exact LeO.none _)
      | (with_reducible refine LeO.ite ?_ ?_)
      | (with_reducible refine LeO.bind ?_ (fun _ => ?_))
      | exact ih0 _ _ _ _ _ _
      | exact ih1 _ _ _ _
      | exact LeO.none _
      | refine LeO.ite ?_ ?_
      | refine LeO.bind ?_ (fun _ => ?_)
set_option maxHeartbeats 8000000 in
set_option maxRecDepth 100000 in
theorem integer_Int_Int.calls (k : Nat) (a0_0 : Bool) (A0_1 : Option Addr) (c0_1 : Nat) (l0_1 : List Int) (r1 : Int) (r2 : Bool) (w : World) (hr0_1 : Kd.C (Kd.int .u32) w A0_1 l0_1.length l0_1) (hc0_1 : l0_1.length ≤ c0_1) (h : integer_Int_Int.f k a0_0 l0_1 = some (r1, r2)) :
    Calls Tryd.prog 16 #[.agg #[.bool a0_0, .slice A0_1 l0_1.length c0_1]] w fun e w' => e = .returned (.tuple #[.int .i64 r1, .bool r2]) ∧ Below w.heap.size w w' := by
  have hu25 := Tryd.underlying25
  have HR0_1 := Aside0.mk hr0_1
  have HC0_1 := Aside0.mk hc0_1
  clear hr0_1 hc0_1
  have HB := Aside0.mk (Below.refl w.heap.size w)
  have H : (if (l0_1.length : Int) > 2 then (some (0, false)) else (integer_Int_Int.l0 k 0 l0_1 (l0_1.length : Int) 0 a0_0 l0_1)) = some (r1, r2) := h
  clear h
  by_cases c2 : (l0_1.length : Int) > 2
  · rw [if_pos c2] at H
    have c2b0 : decide (2 < (l0_1.length : Int)) = true := decide_eq_true c2
    have c2b1 : decide (2 < l0_1.length) = true := decide_eq_true (by omega)
    clear c2
    simp only [Option.some.injEq, Prod.mk.injEq] at H
    obtain ⟨rfl, rfl⟩ := H
    go_enter Tryd.func16, Tryd.ntmps16
    go_wp2_with (first | ((with_reducible refine gate_dst (N := 1) rfl ?_); refine box_event ?hg (N := 1) ?hd (cs := #[.bool a0_0, .slice A0_1 l0_1.length c0_1]) (t := 25) ?hr ?_; (case hd => rfl); (case hg => rfl); (case hr => first | (go_simp; done) | (go_simp; rfl)); intro gb411 hg w3 hbox hb; have n0_ := Aside0.mk (below_step (by repeat (first | (with_reducible first | exact HB.out | apply below_alloc | apply pw_below_drewN | apply below_drew1) | exact HB.out)) hb); have n1_ := Aside0.mk (hbox); have n2_ := Aside0.mk ((by rw [hg]; exact (below_size (by repeat (first | (with_reducible first | exact HB.out | apply below_alloc | apply pw_below_drewN | apply below_drew1) | exact HB.out))) : w.heap.size ≤ gb411)); have n3_ := Aside0.mk ((by rw [hg]; exact (below_size (by repeat (first | (with_reducible first | exact HB.out | apply below_alloc | apply pw_below_drewN | apply below_drew1) | exact HB.out))) : w.heap.size ≤ gb411)); clear HB; have HB := n0_; have BK411 := n1_; have GW411 := n2_; have GE411 := n3_; clear n0_ n1_ n2_ n3_; clear hb hbox hg; have hcz4_0 : w3.cell? ⟨gb411, 0, none⟩ = some (.bool a0_0) := (blk_cell BK411.out 0).trans rfl; have hcz4_1 : w3.cell? ⟨gb411, 1, none⟩ = some (.slice A0_1 l0_1.length c0_1) := (blk_cell BK411.out 1).trans rfl; have hfz4_0 := blk_frozen BK411.out 0; have hfz4_1 := blk_frozen BK411.out 1))
    go_ret2
    exact ⟨by first | rfl | (simp [errW_none, errW_some] <;> rfl) | (simp [*, errW_none, errW_some] <;> rfl), by repeat (first | (with_reducible first | exact HB.out | apply below_alloc | apply pw_below_drewN | apply below_drew1 | refine below_set ?_ GE411.out) | exact HB.out)⟩
  · rw [if_neg c2] at H
    have c2b0 : decide (2 < (l0_1.length : Int)) = false := decide_eq_false c2
    have c2b1 : decide (2 < l0_1.length) = false := decide_eq_false (by omega)
    clear c2
    have H' := Aside0.mk H
    clear H
    go_enter Tryd.func16, Tryd.ntmps16
    go_wp2_with (first | ((with_reducible refine gate_dst (N := 1) rfl ?_); refine box_event ?hg (N := 1) ?hd (cs := #[.bool a0_0, .slice A0_1 l0_1.length c0_1]) (t := 25) ?hr ?_; (case hd => rfl); (case hg => rfl); (case hr => first | (go_simp; done) | (go_simp; rfl)); intro gb411 hg w5 hbox hb; have n0_ := Aside0.mk (below_step (by repeat (first | (with_reducible first | exact HB.out | apply below_alloc | apply pw_below_drewN | apply below_drew1) | exact HB.out)) hb); have n1_ := Aside0.mk (hbox); have n2_ := Aside0.mk ((by rw [hg]; exact (below_size (by repeat (first | (with_reducible first | exact HB.out | apply below_alloc | apply pw_below_drewN | apply below_drew1) | exact HB.out))) : w.heap.size ≤ gb411)); have n3_ := Aside0.mk ((by rw [hg]; exact (below_size (by repeat (first | (with_reducible first | exact HB.out | apply below_alloc | apply pw_below_drewN | apply below_drew1) | exact HB.out))) : w.heap.size ≤ gb411)); clear HB; have HB := n0_; have BK411 := n1_; have GW411 := n2_; have GE411 := n3_; clear n0_ n1_ n2_ n3_; clear hb hbox hg; have hcz6_0 : w5.cell? ⟨gb411, 0, none⟩ = some (.bool a0_0) := (blk_cell BK411.out 0).trans rfl; have hcz6_1 : w5.cell? ⟨gb411, 1, none⟩ = some (.slice A0_1 l0_1.length c0_1) := (blk_cell BK411.out 1).trans rfl; have hfz6_0 := blk_frozen BK411.out 0; have hfz6_1 := blk_frozen BK411.out 1))
    go_loopg [4, 14] k (fun kq v4 v14 w' => ∃ (x4_1 : Int) (x14_1 : Int), v4 = .int .u64 x4_1 ∧ v14 = .int .i64 x14_1 ∧ Aside0 (integer_Int_Int.l0 kq x4_1 l0_1 (l0_1.length : Int) x14_1 a0_0 l0_1 = some (r1, r2)) ∧ Aside0 (kq ≤ k) ∧ Aside0 (w'.heap[gb411]? = some (.cells #[.bool a0_0, (.slice A0_1 l0_1.length c0_1)] 25 (0, 0))) ∧ Aside0 (Below w.heap.size w w'))
    case atStart => exact ⟨(0), (0), (by first | rfl | (simp; done) | (simp [*]; done)), (by first | rfl | (simp; done) | (simp [*]; done)), H', ⟨Nat.le_refl _⟩, ⟨by (with_reducible repeat (first | refine blk_drewN ?_ _ | refine blk_drew ?_ | refine blk_alloc ?_ _)); exact BK411.out⟩, ⟨by repeat (first | (with_reducible first | exact HB.out | apply below_alloc | apply pw_below_drewN | apply below_drew1 | refine below_set ?_ GE411.out) | exact HB.out)⟩⟩
    case round =>
      clear H'
      try clear c1
      try clear c2
      try clear c2b0
      try clear c2b1
      try clear p2
      try clear hcz4_0
      try clear hcz4_1
      try clear hcz6_0
      try clear hcz6_1
      try clear hfz4_0
      try clear hfz4_1
      try clear hfz6_0
      try clear hfz6_1
      obtain ⟨x4_1, x14_1, rfl, rfl, HA, HK1, BK411, HB⟩ := hrel
      cases gk with
      | zero => exact absurd HA.out (by simp [integer_Int_Int.l0])
      | succ k1 =>
        have H := HA.out
        clear HA
        simp only [integer_Int_Int.l0] at H
        by_cases c7 : x14_1 < (l0_1.length : Int)
        · rw [if_pos c7] at H
          have c7b0 : decide (x14_1 < (l0_1.length : Int)) = true := decide_eq_true c7
          clear c7
          by_cases c8 : 0 ≤ x14_1
          · rw [if_pos c8] at H
            have c8b0 : decide (0 ≤ x14_1) = true := decide_eq_true c8
            clear c8
            by_cases c9 : x14_1 < (l0_1.length : Int)
            · rw [if_pos c9] at H
              have c9b0 : decide (x14_1 < (l0_1.length : Int)) = true := decide_eq_true c9
              clear c9
              obtain ⟨ji10, hji10⟩ : ∃ j_ : Int, (wrap64 (32 * x14_1)) = j_ := ⟨_, rfl⟩
              replace H : (if 0 ≤ (ji10) then (integer_Int_Int.l0 k1 (Go.bits .or .u64 x4_1 (shl .u64 (IntKind.u64.wrap (rd l0_1 x14_1)) (ji10))) l0_1 (l0_1.length : Int) (wrap64 (x14_1 + 1)) a0_0 l0_1) else (none)) = some (r1, r2) := by first | (rw [hji10] at H; exact H) | (simp only [hji10] at H ⊢; exact H)
              have hji10w : (IntKind.i64.wrap (32 * x14_1)) = ji10 := (i64_w _).trans hji10
              by_cases c11 : 0 ≤ (ji10)
              · rw [if_pos c11] at H
                have c11b0 := eq_true c11
                have c11b1 : decide (0 ≤ (ji10)) = true := decide_eq_true c11
                clear c11
                obtain ⟨ji12, hji12⟩ : ∃ j_ : Int, (shl .u64 (IntKind.u64.wrap (rd l0_1 x14_1)) (ji10)) = j_ := ⟨_, rfl⟩
                replace H : (integer_Int_Int.l0 k1 (Go.bits .or .u64 x4_1 (ji12)) l0_1 (l0_1.length : Int) (wrap64 (x14_1 + 1)) a0_0 l0_1) = some (r1, r2) := by first | (rw [hji12] at H; exact H) | (simp only [hji12] at H ⊢; exact H)
                have hji12_ : (IntKind.u64.wrap ((IntKind.u64.wrap (rd l0_1 x14_1)) * 2 ^ min (ji10).toNat 64)) = ji12 := hji12
                have hji12z : (ji10) ≤ 64 → (IntKind.u64.wrap ((IntKind.u64.wrap (rd l0_1 x14_1)) * 2 ^ (ji10).toNat)) = ji12 := shl_small hji12
                have H' := Aside0.mk H
                clear H
                have p412 : 0 ≤ (x14_1 : Int) := of_decide_eq_true (by first | (with_reducible assumption) | assumption)
                have q412 : x14_1 < (l0_1.length : Int) := of_decide_eq_true (by first | (with_reducible assumption) | assumption)
                obtain ⟨ad412, e412, hx412_0⟩ := Kd.at_int HR0_1.out x14_1 p412 q412
                cases e412
                replace hx412_0 := (HB.out.cell (World.block_lt_of_cell? w _ hx412_0)).trans hx412_0
                replace p412 := eq_true p412
                replace q412 := eq_true q412
                go_wp2
                go_roundg k1
                case measure => have := HK1.out; omega
                case rel => exact ⟨(Go.bits .or .u64 x4_1 (ji12)), (wrap64 (x14_1 + 1)), (by first | rfl | (simp; done) | (simp only [← hji12] <;> (first | rfl | simp)) | (simp [*]; done)), (by first | rfl | (simp; done) | (simp [*]; done)), H', ⟨by have := HK1.out; omega⟩, ⟨by (with_reducible repeat (first | refine blk_drewN ?_ _ | refine blk_drew ?_ | refine blk_alloc ?_ _)); exact BK411.out⟩, ⟨by repeat (first | (with_reducible first | exact HB.out | apply below_alloc | apply pw_below_drewN | apply below_drew1 | refine below_set ?_ GE411.out) | exact HB.out)⟩⟩
              · rw [if_neg c11] at H
                exact absurd H (by simp)
            · rw [if_neg c9] at H
              exact absurd H (by simp)
          · rw [if_neg c8] at H
            exact absurd H (by simp)
        · rw [if_neg c7] at H
          have c7b0 : decide (x14_1 < (l0_1.length : Int)) = false := decide_eq_false c7
          clear c7
          have HC13 := Aside0.mk H
          clear H
          go_upto_region 9 with (fail)
          go_cut [27] (fun v27 wc => ∃ (kq : Nat) (x27_12 : Bool), v27 = .bool x27_12 ∧ Aside0 (integer_Int_Int.j1 kq x4_1 x27_12 a0_0 l0_1 = some (r1, r2)) ∧ Aside0 (kq ≤ k1) ∧ Aside0 (wc.heap[gb411]? = some (.cells #[.bool a0_0, (.slice A0_1 l0_1.length c0_1)] 25 (0, 0))) ∧ Aside0 (Below w.heap.size w wc))
          case first =>
            have H := HC13.out
            clear HC13
            by_cases c14 : a0_0 = true
            · subst c14
              have H1 : (integer_Int_Int.j1 k1 x4_1 false true l0_1) = some (r1, r2) := by rw [if_pos rfl] at H; exact H
              clear H
              have H := H1
              clear H1
              have H' := Aside0.mk H
              clear H
              have hcz15_0 : wr.cell? ⟨gb411, 0, none⟩ = some (.bool true) := (blk_cell BK411.out 0).trans rfl
              have hcz15_1 : wr.cell? ⟨gb411, 1, none⟩ = some (.slice A0_1 l0_1.length c0_1) := (blk_cell BK411.out 1).trans rfl
              have hfz15_0 := blk_frozen BK411.out 0
              have hfz15_1 := blk_frozen BK411.out 1
              go_wp2
              go_meet
              case rel => exact ⟨_, (false), (by first | rfl | (simp; done) | (simp [*]; done)), H', ⟨by have := HK1.out; first | omega | exact Nat.le_refl _⟩, ⟨by (with_reducible repeat (first | refine blk_drewN ?_ _ | refine blk_drew ?_ | refine blk_alloc ?_ _)); exact BK411.out⟩, ⟨by repeat (first | (with_reducible first | exact HB.out | apply below_alloc | apply pw_below_drewN | apply below_drew1 | refine below_set ?_ GE411.out) | exact HB.out)⟩⟩
            · replace c14 := Bool.eq_false_iff.mpr c14
              subst c14
              have H1 : (integer_Int_Int.j1 k1 x4_1 (decide (x4_1 < 9223372036854775808)) false l0_1) = some (r1, r2) := by rw [if_neg (show ¬ (false = true) by decide)] at H; exact H
              clear H
              have H := H1
              clear H1
              have H' := Aside0.mk H
              clear H
              have hcz16_0 : wr.cell? ⟨gb411, 0, none⟩ = some (.bool false) := (blk_cell BK411.out 0).trans rfl
              have hcz16_1 : wr.cell? ⟨gb411, 1, none⟩ = some (.slice A0_1 l0_1.length c0_1) := (blk_cell BK411.out 1).trans rfl
              have hfz16_0 := blk_frozen BK411.out 0
              have hfz16_1 := blk_frozen BK411.out 1
              go_wp2
              go_meet
              case rel => exact ⟨_, (decide (x4_1 < 9223372036854775808)), (by first | rfl | (simp; done) | (simp [*]; done)), H', ⟨by have := HK1.out; first | omega | exact Nat.le_refl _⟩, ⟨by (with_reducible repeat (first | refine blk_drewN ?_ _ | refine blk_drew ?_ | refine blk_alloc ?_ _)); exact BK411.out⟩, ⟨by repeat (first | (with_reducible first | exact HB.out | apply below_alloc | apply pw_below_drewN | apply below_drew1 | refine below_set ?_ GE411.out) | exact HB.out)⟩⟩
          case rest =>
            clear HC13
            try clear c1
            try clear c2
            try clear c2b0
            try clear c2b1
            try clear p2
            try clear p4
            try clear q4
            try clear hx4
            try clear p6
            try clear c7
            try clear c7b0
            try clear c8
            try clear c8b0
            try clear c9
            try clear c9b0
            try clear c11
            try clear c11b0
            try clear c11b1
            try clear c14
            try clear c16
            try clear hcz15_0
            try clear hcz15_1
            try clear hcz16_0
            try clear hcz16_1
            try clear hcz4_0
            try clear hcz4_1
            try clear hcz6_0
            try clear hcz6_1
            try clear hfz15_0
            try clear hfz15_1
            try clear hfz16_0
            try clear hfz16_1
            try clear hfz4_0
            try clear hfz4_1
            try clear hfz6_0
            try clear hfz6_1
            try clear hx412_0
            try clear p2
            try clear p412
            try clear q412
            obtain ⟨kq, x27_12, rfl, HA, HJ12, BK411, HB⟩ := hcut
            cases kq with
            | zero => exact absurd HA.out (by simp [integer_Int_Int.j1])
            | succ kj12 =>
              have H := HA.out
              clear HA
              simp only [integer_Int_Int.j1] at H
              by_cases c17 : x27_12 = true
              · subst c17
                have H1 : (some (wrap64 (x4_1), true)) = some (r1, r2) := by rw [if_pos rfl] at H; exact H
                clear H
                have H := H1
                clear H1
                simp only [Option.some.injEq, Prod.mk.injEq] at H
                obtain ⟨rfl, rfl⟩ := H
                go_wp2
                go_ret2
                exact ⟨by first | rfl | (simp [errW_none, errW_some] <;> rfl) | (simp [*, errW_none, errW_some] <;> rfl), by repeat (first | (with_reducible first | exact HB.out | apply below_alloc | apply pw_below_drewN | apply below_drew1 | refine below_set ?_ GE411.out) | exact HB.out)⟩
              · replace c17 := Bool.eq_false_iff.mpr c17
                subst c17
                have H1 : (if a0_0 = true then (if x4_1 ≤ 9223372036854775808 then (some (wrap64 (IntKind.u64.wrap (-x4_1)), true)) else (some (0, false))) else (some (0, false))) = some (r1, r2) := by rw [if_neg (show ¬ (false = true) by decide)] at H; exact H
                clear H
                have H := H1
                clear H1
                by_cases c18 : a0_0 = true
                · subst c18
                  have H1 : (if x4_1 ≤ 9223372036854775808 then (some (wrap64 (IntKind.u64.wrap (-x4_1)), true)) else (some (0, false))) = some (r1, r2) := by rw [if_pos rfl] at H; exact H
                  clear H
                  have H := H1
                  clear H1
                  by_cases c19 : x4_1 ≤ 9223372036854775808
                  · rw [if_pos c19] at H
                    have c19b0 : decide (x4_1 ≤ 9223372036854775808) = true := decide_eq_true c19
                    clear c19
                    simp only [Option.some.injEq, Prod.mk.injEq] at H
                    obtain ⟨rfl, rfl⟩ := H
                    have hcz20_0 : wc.cell? ⟨gb411, 0, none⟩ = some (.bool true) := (blk_cell BK411.out 0).trans rfl
                    have hcz20_1 : wc.cell? ⟨gb411, 1, none⟩ = some (.slice A0_1 l0_1.length c0_1) := (blk_cell BK411.out 1).trans rfl
                    have hfz20_0 := blk_frozen BK411.out 0
                    have hfz20_1 := blk_frozen BK411.out 1
                    go_wp2
                    go_ret2
                    exact ⟨by first | rfl | (simp [errW_none, errW_some] <;> rfl) | (simp [*, errW_none, errW_some] <;> rfl), by repeat (first | (with_reducible first | exact HB.out | apply below_alloc | apply pw_below_drewN | apply below_drew1 | refine below_set ?_ GE411.out) | exact HB.out)⟩
                  · rw [if_neg c19] at H
                    have c19b0 : decide (x4_1 ≤ 9223372036854775808) = false := decide_eq_false c19
                    clear c19
                    simp only [Option.some.injEq, Prod.mk.injEq] at H
                    obtain ⟨rfl, rfl⟩ := H
                    have hcz21_0 : wc.cell? ⟨gb411, 0, none⟩ = some (.bool true) := (blk_cell BK411.out 0).trans rfl
                    have hcz21_1 : wc.cell? ⟨gb411, 1, none⟩ = some (.slice A0_1 l0_1.length c0_1) := (blk_cell BK411.out 1).trans rfl
                    have hfz21_0 := blk_frozen BK411.out 0
                    have hfz21_1 := blk_frozen BK411.out 1
                    go_wp2
                    go_ret2
                    exact ⟨by first | rfl | (simp [errW_none, errW_some] <;> rfl) | (simp [*, errW_none, errW_some] <;> rfl), by repeat (first | (with_reducible first | exact HB.out | apply below_alloc | apply pw_below_drewN | apply below_drew1 | refine below_set ?_ GE411.out) | exact HB.out)⟩
                · replace c18 := Bool.eq_false_iff.mpr c18
                  subst c18
                  have H1 : (some (0, false)) = some (r1, r2) := by rw [if_neg (show ¬ (false = true) by decide)] at H; exact H
                  clear H
                  have H := H1
                  clear H1
                  simp only [Option.some.injEq, Prod.mk.injEq] at H
                  obtain ⟨rfl, rfl⟩ := H
                  have hcz22_0 : wc.cell? ⟨gb411, 0, none⟩ = some (.bool false) := (blk_cell BK411.out 0).trans rfl
                  have hcz22_1 : wc.cell? ⟨gb411, 1, none⟩ = some (.slice A0_1 l0_1.length c0_1) := (blk_cell BK411.out 1).trans rfl
                  have hfz22_0 := blk_frozen BK411.out 0
                  have hfz22_1 := blk_frozen BK411.out 1
                  go_wp2
                  go_ret2
                  exact ⟨by first | rfl | (simp [errW_none, errW_some] <;> rfl) | (simp [*, errW_none, errW_some] <;> rfl), by repeat (first | (with_reducible first | exact HB.out | apply below_alloc | apply pw_below_drewN | apply below_drew1 | refine below_set ?_ GE411.out) | exact HB.out)⟩
end Go.Proofs.YtiikfhdmclmjmaaDoor.P
namespace Go.Proofs.YtiikfhdmclmjmaaDoor.P
open Go.RowKit Go.Proofs.YtiikfhdmclmjmaaDoorW.PrintWords Go.Proofs.YtiikfhdmclmjmaaDoorW.PrintLast
set_option linter.unusedVariables false
set_option linter.unusedSimpArgs false
def dowelref01_trim.l0 : Nat → List Int → Int → Option (List Int)
  | 0, _, _ => none
  | k + 1, x0, x3 => if x3 > 0 then (if 0 ≤ (wrap64 (x3 - 1)) then (if (wrap64 (x3 - 1)) < (x0.length : Int) then (if (rd x0 (wrap64 (x3 - 1))) = 0 then (dowelref01_trim.l0 k x0 (wrap64 (x3 - 1))) else (if 0 ≤ x3 then (if x3 ≤ (x0.length : Int) then (some (x0.take (x3 : Int).toNat)) else (none)) else (none))) else (none)) else (none)) else (if 0 ≤ x3 then (if x3 ≤ (x0.length : Int) then (some (x0.take (x3 : Int).toNat)) else (none)) else (none))
def dowelref01_trim.f (k : Nat) (l0 : List Int) : Option (List Int) := dowelref01_trim.l0 k l0 (l0.length : Int)
theorem dowelref01_trim.mono_l : ∀ k, (∀ y0 y1, LeO (dowelref01_trim.l0 k y0 y1) (dowelref01_trim.l0 (k + 1) y0 y1))
  | 0 => fun _ _ r h => by simp [dowelref01_trim.l0] at h
  | k + 1 => by
    have ih0 := dowelref01_trim.mono_l k
    · intro y0 y1
      unfold dowelref01_trim.l0
      repeat' first
      | (with_reducible exact ih0 _ _)
      | (with_reducible exact LeO.refl _)
      | (with_reducible exact LeO.none _)
      | (with_reducible refine LeO.ite ?_ ?_)
      | (with_reducible refine LeO.bind ?_ (fun _ => ?_))
      | exact ih0 _ _
      | exact LeO.none _
      | refine LeO.ite ?_ ?_
      | refine LeO.bind ?_ (fun _ => ?_)
theorem dowelref01_trim.mono : ∀ a0 k, LeO (dowelref01_trim.f k a0) (dowelref01_trim.f (k + 1) a0) := by
  intro a0 k
  have ih0 := dowelref01_trim.mono_l k
  unfold dowelref01_trim.f
  repeat' first
      | (with_reducible exact ih0 _ _)
      | (with_reducible exact LeO.refl _)
      | (with_reducible exact LeO.none _)
      | (with_reducible refine LeO.ite ?_ ?_)
      | (with_reducible refine LeO.bind ?_ (fun _ => ?_))
      | exact ih0 _ _
      | exact LeO.none _
      | refine LeO.ite ?_ ?_
      | refine LeO.bind ?_ (fun _ => ?_)
set_option maxHeartbeats 8000000 in
set_option maxRecDepth 100000 in
theorem dowelref01_trim.calls (k : Nat) (P0_ : Nat → Prop) (u9000_ : Value) (l0 : List Int) (r : List Int) (w0 w : World) (hB : Below w0.heap.size w0 w) (ho0 : Kd.R (Kd.int .i64) 3 w w0.heap.size P0_ u9000_ l0) (h : dowelref01_trim.f k l0 = some r) :
    Calls Tryd.prog 60 #[u9000_] w fun e w' => ∃ v0_ : Value, e = .returned (v0_) ∧ Kd.R (Kd.int .i64) 3 w' w0.heap.size (fun k_ => (P0_ k_ ∨ w.heap.size ≤ k_)) v0_ r ∧ Below w0.heap.size w0 w' ∧ Kept w w' (fun k_ => P0_ k_) := by
  have HO0 := Aside0.mk (show Kd.R (Kd.int .i64) 3 w w0.heap.size (fun k_ => (P0_ k_ ∨ w.heap.size ≤ k_)) u9000_ l0 from Kd.R_mono ho0 (fun k_ hk => (.inl hk)))
  have HK := Aside0.mk (Kept.refl w (fun k_ => P0_ k_))
  have HW0 := Aside0.mk hB.size
  have HB := Aside0.mk hB
  clear hB
  have H : (dowelref01_trim.l0 k l0 (l0.length : Int)) = some r := h
  clear h
  have H' := Aside0.mk H
  clear H
  obtain ⟨Ao2, co2, eo2⟩ := Kd.R_slice HO0.out
  subst eo2
  go_enter Tryd.func60, Tryd.ntmps60
  go_wp2
  go_loopg [3] k (fun kq v3 w' => ∃ (x3_1 : Int), v3 = .int .i64 x3_1 ∧ Aside0 (dowelref01_trim.l0 kq l0 x3_1 = some r) ∧ Aside0 (kq ≤ k) ∧ Aside0 (Kd.R (Kd.int .i64) 3 w' w0.heap.size (fun k_ => (P0_ k_ ∨ w.heap.size ≤ k_)) (.slice Ao2 l0.length co2) l0) ∧ Aside0 (Kept w w' (fun k_ => P0_ k_)) ∧ Aside0 (Below w0.heap.size w0 w'))
  case atStart => exact ⟨((l0.length : Int)), (by first | rfl | (simp; done) | (simp [*]; done)), H', ⟨Nat.le_refl _⟩, ⟨by (with_reducible repeat (first | apply Kd.R_alloc | apply Kd.R_drewN | apply Kd.R_drew)); exact HO0.out⟩, ⟨by repeat (first | (with_reducible first | exact HK.out | apply Kept.alloc | apply Kept.drewN | apply Kept.drew) | exact HK.out)⟩, ⟨by repeat (first | (with_reducible first | exact HB.out | apply below_alloc | apply pw_below_drewN | apply below_drew1) | exact HB.out)⟩⟩
  case round =>
    clear H'
    try clear p2
    obtain ⟨x3_1, rfl, HA, HK1, HO_0, HK, HB⟩ := hrel
    cases gk with
    | zero => exact absurd HA.out (by simp [dowelref01_trim.l0])
    | succ k1 =>
      have H := HA.out
      clear HA
      simp only [dowelref01_trim.l0] at H
      by_cases c3 : x3_1 > 0
      · rw [if_pos c3] at H
        have c3b0 : decide (0 < x3_1) = true := decide_eq_true c3
        clear c3
        obtain ⟨ji4, hji4⟩ : ∃ j_ : Int, (wrap64 (x3_1 - 1)) = j_ := ⟨_, rfl⟩
        replace H : (if 0 ≤ (ji4) then (if (ji4) < (l0.length : Int) then (if (rd l0 (ji4)) = 0 then (dowelref01_trim.l0 k1 l0 ji4) else (if 0 ≤ x3_1 then (if x3_1 ≤ (l0.length : Int) then (some (l0.take (x3_1 : Int).toNat)) else (none)) else (none))) else (none)) else (none)) = some r := by first | (rw [hji4] at H; exact H) | (simp only [hji4] at H ⊢; exact H)
        have hji4w : (IntKind.i64.wrap (x3_1 - 1)) = ji4 := (i64_w _).trans hji4
        by_cases c5 : 0 ≤ (ji4)
        · rw [if_pos c5] at H
          have c5b0 : decide (0 ≤ (ji4)) = true := decide_eq_true c5
          clear c5
          by_cases c6 : (ji4) < (l0.length : Int)
          · rw [if_pos c6] at H
            have c6b0 : decide ((ji4) < (l0.length : Int)) = true := decide_eq_true c6
            clear c6
            by_cases c7 : (rd l0 (ji4)) = 0
            · rw [if_pos c7] at H
              have c7b0 : ((rd l0 (ji4)) == 0) = true := beq_iff_eq.mpr c7
              have c7b1 : ((rd l0 (ji4)) != 0) = false := bne_eq_false_iff_eq.mpr c7
              clear c7
              have H' := Aside0.mk H
              clear H
              have p413 : 0 ≤ ((ji4) : Int) := of_decide_eq_true (by first | (with_reducible assumption) | assumption)
              have q413 : (ji4) < (l0.length : Int) := of_decide_eq_true (by first | (with_reducible assumption) | assumption)
              obtain ⟨ad413, e413, hx413_0⟩ := Kd.at_int (Kd.R_reads' HO_0.out).2.2 (ji4) p413 q413
              cases e413
              replace p413 := eq_true p413
              replace q413 := eq_true q413
              go_wp2
              go_roundg k1
              case measure => have := HK1.out; omega
              case rel => exact ⟨(ji4), (by first | rfl | (simp; done) | (simp only [← hji4] <;> (first | rfl | simp)) | (simp [*]; done)), H', ⟨by have := HK1.out; omega⟩, ⟨by (with_reducible repeat (first | apply Kd.R_alloc | apply Kd.R_drewN | apply Kd.R_drew)); exact HO_0.out⟩, ⟨by repeat (first | (with_reducible first | exact HK.out | apply Kept.alloc | apply Kept.drewN | apply Kept.drew) | exact HK.out)⟩, ⟨by repeat (first | (with_reducible first | exact HB.out | apply below_alloc | apply pw_below_drewN | apply below_drew1) | exact HB.out)⟩⟩
            · rw [if_neg c7] at H
              have c7b0 : ((rd l0 (ji4)) == 0) = false := beq_eq_false_iff_ne.mpr c7
              have c7b1 : ((rd l0 (ji4)) != 0) = true := bne_iff_ne.mpr c7
              by_cases c8 : 0 ≤ x3_1
              · rw [if_pos c8] at H
                have c8b0 := eq_true c8
                have c8b1 : decide (0 ≤ x3_1) = true := decide_eq_true c8
                clear c8
                by_cases c9 : x3_1 ≤ (l0.length : Int)
                · rw [if_pos c9] at H
                  have c9b0 := eq_true c9
                  have c9b1 : decide (x3_1 ≤ (l0.length : Int)) = true := decide_eq_true c9
                  clear c9
                  obtain ⟨y414, hy414⟩ : ∃ y_ : List Int, y_ = (l0.take (x3_1 : Int).toNat) := ⟨_, rfl⟩
                  replace H : (some y414) = some r := by first | (rw [hy414]; with_reducible exact H) | (have H2_ := (Option.bind_some _ _).symm.trans H; rw [hy414]; with_reducible exact H2_) | (have H2_ := (Option.bind_some _ _).symm.trans H; with_reducible exact H2_) | with_reducible exact H | (rw [hy414]; exact H) | exact H
                  have Ny414 := Aside0.mk hy414
                  clear hy414
                  obtain rfl := Option.some.inj H
                  have p413 : 0 ≤ ((ji4) : Int) := of_decide_eq_true (by first | (with_reducible assumption) | assumption)
                  have q413 : (ji4) < (l0.length : Int) := of_decide_eq_true (by first | (with_reducible assumption) | assumption)
                  obtain ⟨ad413, e413, hx413_0⟩ := Kd.at_int (Kd.R_reads' HO_0.out).2.2 (ji4) p413 q413
                  cases e413
                  replace p413 := eq_true p413
                  replace q413 := eq_true q413
                  have q10 : (x3_1 : Int) ≤ ((l0.length : Int) : Int) := of_decide_eq_true (by first | (with_reducible assumption) | assumption)
                  obtain ⟨i010, hi010, _, hsz10, _⟩ := info_parts info3
                  have hcut10 := cut_to (P := Tryd.prog) 67 3 .i64 Tryd.underlying67 hi010 (some ad413) l0.length co2 x3_1 (of_decide_eq_true (by first | (with_reducible assumption) | assumption)) q10 (Kd.R_reads' HO_0.out).2.1
                  have hr10 := Kd.R_take (m := (x3_1 : Int).toNat) HO_0.out (by omega)
                  have hy10 : y414.length = (x3_1 : Int).toNat := (by rw [Ny414.out, List.length_take]; omega)
                  rw [← Ny414.out] at hr10
                  rw [← hy10] at hr10 hcut10
                  clear hy10 hi010 hsz10 HO_0
                  have HO416 := Aside0.mk hr10
                  clear hr10
                  replace q10 := eq_true q10
                  go_wp2
                  go_ret
                  exact ⟨_, by first | rfl | (simp [errW_none, errW_some] <;> rfl) | (simp only [← hji4]; first | rfl | (simp [errW_none, errW_some] <;> rfl)) | (simp [*, errW_none, errW_some] <;> rfl), by (with_reducible repeat (first | apply Kd.R_alloc | apply Kd.R_drewN | apply Kd.R_drew)); exact HO416.out, by repeat (first | (with_reducible first | exact HB.out | apply below_alloc | apply pw_below_drewN | apply below_drew1) | exact HB.out), by repeat (first | (with_reducible first | exact HK.out | apply Kept.alloc | apply Kept.drewN | apply Kept.drew) | exact HK.out)⟩
                · rw [if_neg c9] at H
                  exact absurd H (by simp)
              · rw [if_neg c8] at H
                exact absurd H (by simp)
          · rw [if_neg c6] at H
            exact absurd H (by simp)
        · rw [if_neg c5] at H
          exact absurd H (by simp)
      · rw [if_neg c3] at H
        have c3b0 : decide (0 < x3_1) = false := decide_eq_false c3
        clear c3
        by_cases c11 : 0 ≤ x3_1
        · rw [if_pos c11] at H
          have c11b0 := eq_true c11
          have c11b1 : decide (0 ≤ x3_1) = true := decide_eq_true c11
          clear c11
          by_cases c12 : x3_1 ≤ (l0.length : Int)
          · rw [if_pos c12] at H
            have c12b0 := eq_true c12
            have c12b1 : decide (x3_1 ≤ (l0.length : Int)) = true := decide_eq_true c12
            clear c12
            obtain ⟨y417, hy417⟩ : ∃ y_ : List Int, y_ = (l0.take (x3_1 : Int).toNat) := ⟨_, rfl⟩
            replace H : (some y417) = some r := by first | (rw [hy417]; with_reducible exact H) | (have H2_ := (Option.bind_some _ _).symm.trans H; rw [hy417]; with_reducible exact H2_) | (have H2_ := (Option.bind_some _ _).symm.trans H; with_reducible exact H2_) | with_reducible exact H | (rw [hy417]; exact H) | exact H
            have Ny417 := Aside0.mk hy417
            clear hy417
            obtain rfl := Option.some.inj H
            have q13 : (x3_1 : Int) ≤ ((l0.length : Int) : Int) := of_decide_eq_true (by first | (with_reducible assumption) | assumption)
            obtain ⟨i013, hi013, _, hsz13, _⟩ := info_parts info3
            have hcut13 := cut_to (P := Tryd.prog) 67 3 .i64 Tryd.underlying67 hi013 Ao2 l0.length co2 x3_1 (of_decide_eq_true (by first | (with_reducible assumption) | assumption)) q13 (Kd.R_reads' HO_0.out).2.1
            have hr13 := Kd.R_take (m := (x3_1 : Int).toNat) HO_0.out (by omega)
            have hy13 : y417.length = (x3_1 : Int).toNat := (by rw [Ny417.out, List.length_take]; omega)
            rw [← Ny417.out] at hr13
            rw [← hy13] at hr13 hcut13
            clear hy13 hi013 hsz13 HO_0
            have HO419 := Aside0.mk hr13
            clear hr13
            replace q13 := eq_true q13
            go_wp2
            go_ret
            exact ⟨_, by first | rfl | (simp [errW_none, errW_some] <;> rfl) | (simp [*, errW_none, errW_some] <;> rfl), by (with_reducible repeat (first | apply Kd.R_alloc | apply Kd.R_drewN | apply Kd.R_drew)); exact HO419.out, by repeat (first | (with_reducible first | exact HB.out | apply below_alloc | apply pw_below_drewN | apply below_drew1) | exact HB.out), by repeat (first | (with_reducible first | exact HK.out | apply Kept.alloc | apply Kept.drewN | apply Kept.drew) | exact HK.out)⟩
          · rw [if_neg c12] at H
            exact absurd H (by simp)
        · rw [if_neg c11] at H
          exact absurd H (by simp)
end Go.Proofs.YtiikfhdmclmjmaaDoor.P
namespace Go.Proofs.YtiikfhdmclmjmaaDoor.P
open Go.RowKit Go.Proofs.YtiikfhdmclmjmaaDoorW.PrintWords Go.Proofs.YtiikfhdmclmjmaaDoorW.PrintLast
set_option linter.unusedVariables false
set_option linter.unusedSimpArgs false
mutual
def dowelref01_text.j0 : Nat → List Int → List Int → Option (ByteArray)
  | 0, _, _ => none
  | k + 1, x1, x5 => dowelref01_text.l0 k x1 x5 (wrap64 ((x1.length : Int) - 1))
def dowelref01_text.l0 : Nat → List Int → List Int → Int → Option (ByteArray)
  | 0, _, _, _ => none
  | k + 1, x1, x5, x6 => if x6 ≥ 0 then (if 0 ≤ x6 then (if x6 < (x1.length : Int) then (if x5.length < 140737488355328 then (dowelref01_text.l0 k x1 (x5 ++ [(wrap64 (48 + (rd x1 x6))) % 256]) (wrap64 (x6 - 1))) else (none)) else (none)) else (none)) else (some (strOfNums x5))
end
def dowelref01_text.f (k : Nat) (a0 : Bool) (l1 : List Int) : Option (ByteArray) := (dowelref01_trim.f k l1).bind fun t420 => (if (t420.length : Int) = 0 then (some (⟨#[48]⟩ : ByteArray)) else (if a0 = true then (if ([] : List Int).length < 140737488355328 then (dowelref01_text.j0 k t420 (([] : List Int) ++ [45])) else (none)) else (dowelref01_text.j0 k t420 ([] : List Int))))
theorem dowelref01_text.mono_l : ∀ k, (∀ y0 y1, LeO (dowelref01_text.j0 k y0 y1) (dowelref01_text.j0 (k + 1) y0 y1)) ∧ (∀ y0 y1 y2, LeO (dowelref01_text.l0 k y0 y1 y2) (dowelref01_text.l0 (k + 1) y0 y1 y2))
  | 0 => ⟨fun _ _ r h => by simp [dowelref01_text.j0] at h, fun _ _ _ r h => by simp [dowelref01_text.l0] at h⟩
  | k + 1 => by
    obtain ⟨ih0, ih1⟩ := dowelref01_text.mono_l k
    refine ⟨?_, ?_⟩
    · intro y0 y1
      unfold dowelref01_text.j0
      repeat' first
      | (with_reducible exact ih0 _ _)
      | (with_reducible exact ih1 _ _ _)
      | (with_reducible exact dowelref01_trim.mono _ _)
      | (with_reducible exact LeO.refl _)
      | (with_reducible exact LeO.none _)
      | (with_reducible refine LeO.ite ?_ ?_)
      | (with_reducible refine LeO.bind ?_ (fun _ => ?_))
      | exact ih0 _ _
      | exact ih1 _ _ _
      | exact dowelref01_trim.mono _ _
      | exact LeO.none _
      | refine LeO.ite ?_ ?_
      | refine LeO.bind ?_ (fun _ => ?_)
    · intro y0 y1 y2
      unfold dowelref01_text.l0
      repeat' first
      | (with_reducible exact ih0 _ _)
      | (with_reducible exact ih1 _ _ _)
      | (with_reducible exact dowelref01_trim.mono _ _)
      | (with_reducible exact LeO.refl _)
      | (with_reducible exact LeO.none _)
      | (with_reducible refine LeO.ite ?_ ?_)
      | (with_reducible refine LeO.bind ?_ (fun _ => ?_))
      | exact ih0 _ _
      | exact ih1 _ _ _
      | exact dowelref01_trim.mono _ _
      | exact LeO.none _
      | refine LeO.ite ?_ ?_
      | refine LeO.bind ?_ (fun _ => ?_)
theorem dowelref01_text.mono : ∀ a0 a1 k, LeO (dowelref01_text.f k a0 a1) (dowelref01_text.f (k + 1) a0 a1) := by
  intro a0 a1 k
  obtain ⟨ih0, ih1⟩ := dowelref01_text.mono_l k
  unfold dowelref01_text.f
  repeat' first
      | (with_reducible exact ih0 _ _)
      | (with_reducible exact ih1 _ _ _)
      | (with_reducible exact dowelref01_trim.mono _ _)
      | (with_reducible exact LeO.refl _)
      | (with_reducible exact LeO.none _)
      | (with_reducible refine LeO.ite ?_ ?_)
      | (with_reducible refine LeO.bind ?_ (fun _ => ?_))
      | exact ih0 _ _
      | exact ih1 _ _ _
      | exact dowelref01_trim.mono _ _
      | exact LeO.none _
      | refine LeO.ite ?_ ?_
      | refine LeO.bind ?_ (fun _ => ?_)
set_option maxHeartbeats 8000000 in
set_option maxRecDepth 100000 in
theorem dowelref01_text.calls (k : Nat) (a0 : Bool) (P1_ : Nat → Prop) (u9000_ : Value) (l1 : List Int) (r : ByteArray) (w0 w : World) (hB : Below w0.heap.size w0 w) (ho1 : Kd.R (Kd.int .i64) 3 w w0.heap.size P1_ u9000_ l1) (h : dowelref01_text.f k a0 l1 = some r) :
    Calls Tryd.prog 51 #[.bool a0, u9000_] w fun e w' => e = .returned (.string r) ∧ Below w0.heap.size w0 w' ∧ Kept w w' (fun k_ => P1_ k_) := by
  have HO1 := Aside0.mk (show Kd.R (Kd.int .i64) 3 w w0.heap.size (fun k_ => (P1_ k_ ∨ w.heap.size ≤ k_)) u9000_ l1 from Kd.R_mono ho1 (fun k_ hk => (.inl hk)))
  have HK := Aside0.mk (Kept.refl w (fun k_ => P1_ k_))
  have HW0 := Aside0.mk hB.size
  have HB := Aside0.mk hB
  clear hB
  have H : ((dowelref01_trim.f k l1).bind fun t420 => (if (t420.length : Int) = 0 then (some (⟨#[48]⟩ : ByteArray)) else (if a0 = true then (if ([] : List Int).length < 140737488355328 then (dowelref01_text.j0 k t420 (([] : List Int) ++ [45])) else (none)) else (dowelref01_text.j0 k t420 ([] : List Int))))) = some r := h
  clear h
  replace H := Option.bind_eq_some_iff.mp H
  obtain ⟨t420, A30, H⟩ := H
  replace H : (if (t420.length : Int) = 0 then (some (⟨#[48]⟩ : ByteArray)) else (if a0 = true then (if ([] : List Int).length < 140737488355328 then (dowelref01_text.j0 k t420 (([] : List Int) ++ [45])) else (none)) else (dowelref01_text.j0 k t420 ([] : List Int)))) = some r := H
  have A3 := Aside0.mk A30
  clear A30
  by_cases c4 : (t420.length : Int) = 0
  · rw [if_pos c4] at H
    have c4b0 : ((t420.length : Int) == 0) = true := beq_iff_eq.mpr c4
    have c4b1 : ((t420.length : Int) != 0) = false := bne_eq_false_iff_eq.mpr c4
    clear c4
    obtain rfl := Option.some.inj H
    obtain ⟨Ao5, co5, eo5⟩ := Kd.R_slice HO1.out
    subst eo5
    go_enter Tryd.func51, Tryd.ntmps51
    go_wp2_with (first | ((with_reducible refine gate_callee (f := 60) rfl ?_); refine goesL_ (some 8) rfl rfl Tryd.func60 (by kernel_rfl) rfl #[.slice Ao5 l1.length co5] rfl (by (try simp only [List.map_toArray, List.map_cons, List.map_nil]); first | done | rfl | (simp only [List.length_drop, List.length_take]; rfl)) ?_; (with_reducible refine (dowelref01_trim.calls k (fun k_ => some k_ = (.slice Ao5 l1.length co5 : Value).ownBlock) (.slice Ao5 l1.length co5) l1 t420 w0 _ ?side1 ?side2 A3.out).mono ?_); (case side1 => repeat (first | (with_reducible first | exact HB.out | apply below_alloc | apply pw_below_drewN | apply below_drew1) | exact HB.out)); (case side2 => exact Kd.R_tight rfl HO1.out); rintro e w6 ⟨v421, rfl, ho0, hb, hkp⟩; refine ⟨_, rfl, ?_⟩; have n0_ := Aside0.mk (Kd.R_mono (ok' := fun k_ => (P1_ k_ ∨ w.heap.size ≤ k_)) ho0 (fun k_ hk_ => Or.elim hk_ (fun hs_ => (HO1.out.1 k_ (hs_).symm)) (fun hn_ => (.inr (Nat.le_trans (by first | exact HK.out.1 | exact (show Kept w _ (fun k_ => P1_ k_) from by repeat (first | (with_reducible first | exact HK.out | apply Kept.alloc | apply Kept.drewN | apply Kept.drew) | exact HK.out)).1) hn_))))); have n1_ := Aside0.mk (Kept.then_ (S := (fun k_ => P1_ k_)) (by repeat (first | (with_reducible first | exact HK.out | apply Kept.alloc | apply Kept.drewN | apply Kept.drew) | exact HK.out)) hkp (fun k_ hs_ => (fun e_ => (HO1.out.1 k_ e_.symm)) hs_)); have n2_ := Aside0.mk (hb); clear HK; clear HB; clear HO1; have HO422 := n0_; have HK := n1_; have HB := n2_; clear n0_ n1_ n2_; (try clear hb); (try clear hkp); (try clear ho0); obtain ⟨Ao7, co7, eo7⟩ := Kd.R_slice HO422.out; subst eo7))
    go_ret
    exact ⟨by first | rfl | (simp [errW_none, errW_some] <;> rfl) | (simp [*, errW_none, errW_some] <;> rfl), by repeat (first | (with_reducible first | exact HB.out | apply below_alloc | apply pw_below_drewN | apply below_drew1) | exact HB.out), by repeat (first | (with_reducible first | exact HK.out | apply Kept.alloc | apply Kept.drewN | apply Kept.drew) | exact HK.out)⟩
  · rw [if_neg c4] at H
    have c4b0 : ((t420.length : Int) == 0) = false := beq_eq_false_iff_ne.mpr c4
    have c4b1 : ((t420.length : Int) != 0) = true := bne_iff_ne.mpr c4
    have c4b2 : ¬ (t420 = []) := fun h_ => c4 (by rw [h_]; rfl)
    have HC8 := Aside0.mk H
    clear H
    obtain ⟨Ao9, co9, eo9⟩ := Kd.R_slice HO1.out
    subst eo9
    go_enter Tryd.func51, Tryd.ntmps51
    go_upto_if 12 with (first | ((with_reducible refine gate_callee (f := 60) rfl ?_); refine goesL_ (some 8) rfl rfl Tryd.func60 (by kernel_rfl) rfl #[.slice Ao9 l1.length co9] rfl (by (try simp only [List.map_toArray, List.map_cons, List.map_nil]); first | done | rfl | (simp only [List.length_drop, List.length_take]; rfl)) ?_; (with_reducible refine (dowelref01_trim.calls k (fun k_ => some k_ = (.slice Ao9 l1.length co9 : Value).ownBlock) (.slice Ao9 l1.length co9) l1 t420 w0 _ ?side1 ?side2 A3.out).mono ?_); (case side1 => repeat (first | (with_reducible first | exact HB.out | apply below_alloc | apply pw_below_drewN | apply below_drew1) | exact HB.out)); (case side2 => exact Kd.R_tight rfl HO1.out); rintro e w10 ⟨v421, rfl, ho0, hb, hkp⟩; refine ⟨_, rfl, ?_⟩; have n0_ := Aside0.mk (Kd.R_mono (ok' := fun k_ => (P1_ k_ ∨ w.heap.size ≤ k_)) ho0 (fun k_ hk_ => Or.elim hk_ (fun hs_ => (HO1.out.1 k_ (hs_).symm)) (fun hn_ => (.inr (Nat.le_trans (by first | exact HK.out.1 | exact (show Kept w _ (fun k_ => P1_ k_) from by repeat (first | (with_reducible first | exact HK.out | apply Kept.alloc | apply Kept.drewN | apply Kept.drew) | exact HK.out)).1) hn_))))); have n1_ := Aside0.mk (Kept.then_ (S := (fun k_ => P1_ k_)) (by repeat (first | (with_reducible first | exact HK.out | apply Kept.alloc | apply Kept.drewN | apply Kept.drew) | exact HK.out)) hkp (fun k_ hs_ => (fun e_ => (HO1.out.1 k_ e_.symm)) hs_)); have n2_ := Aside0.mk (hb); clear HK; clear HB; clear HO1; have HO422 := n0_; have HK := n1_; have HB := n2_; clear n0_ n1_ n2_; (try clear hb); (try clear hkp); (try clear ho0); obtain ⟨Ao11, co11, eo11⟩ := Kd.R_slice HO422.out; subst eo11))
    (try simp only [Act.put, List.setIfInBounds_toArray, List.set_cons_zero, List.set_cons_succ])
    go_cut [5] (fun v5 wc => ∃ (kq : Nat) (x5_7 : List Int), Aside0 (dowelref01_text.j0 kq t420 x5_7 = some r) ∧ Aside0 (kq ≤ k) ∧ Aside0 (Kd.R (Kd.int .i64) 3 wc w0.heap.size (fun k_ => (P1_ k_ ∨ w.heap.size ≤ k_)) (.slice Ao11 t420.length co11) t420) ∧ Aside0 (Kd.R (Kd.int .u8) 5 wc w0.heap.size (fun k_ => (P1_ k_ ∨ w.heap.size ≤ k_)) v5 x5_7) ∧ Aside0 (Kept w wc (fun k_ => P1_ k_)) ∧ Aside0 (Below w0.heap.size w0 wc))
    case first =>
      have H := HC8.out
      clear HC8
      by_cases c12 : a0 = true
      · subst c12
        have H1 : (if ([] : List Int).length < 140737488355328 then (dowelref01_text.j0 k t420 (([] : List Int) ++ [45])) else (none)) = some r := by rw [if_pos rfl] at H; exact H
        clear H
        have H := H1
        clear H1
        by_cases c13 : ([] : List Int).length < 140737488355328
        · rw [if_pos c13] at H
          have LMc13 := Aside0.mk c13
          clear c13
          obtain ⟨y423, hy423⟩ : ∃ y_ : List Int, y_ = (([] : List Int) ++ [45]) := ⟨_, rfl⟩
          replace H : (dowelref01_text.j0 k t420 y423) = some r := by first | (rw [hy423]; with_reducible exact H) | (have H2_ := (Option.bind_some _ _).symm.trans H; rw [hy423]; with_reducible exact H2_) | (have H2_ := (Option.bind_some _ _).symm.trans H; with_reducible exact H2_) | with_reducible exact H | (rw [hy423]; exact H) | exact H
          have Ny423 := Aside0.mk hy423
          clear hy423
          have H' := Aside0.mk H
          clear H
          go_wp2_with (first | ((with_reducible refine gate_builtin (b := .append) (xs := #[.tmp 13, .tmp 14]) rfl ?_); at_builtin; refine Kd.R_append (Kd.int .u8) (w0 := w0) w0.heap.size rfl (.tmp 13) (.tmp 14) 37 5 (.int .u8 0) 1 rfl Tryd.underlying37 info5 rfl (by decide) (by omega) (.slice none 0 0) ([] : List Int) 45 [.int .u8 45] (fun k_ => (P1_ k_ ∨ w.heap.size ≤ k_)) (fun _ => False) rfl rfl ?aP (fun _ hk => hk.elim) ?aF ?aO ?aB ?aS ?aL ?_; (case aP => exact rfl); (case aB => exact (by repeat (first | (with_reducible first | exact HB.out | apply below_alloc | apply pw_below_drewN | apply below_drew1) | exact HB.out))); (case aF => exact (fun k_ hk => (.inr (Nat.le_trans (by first | exact HK.out.1 | exact (show Kept w _ (fun k_ => P1_ k_) from by repeat (first | (with_reducible first | exact HK.out | apply Kept.alloc | apply Kept.drewN | apply Kept.drew) | exact HK.out)).1) hk)))); (case aO => exact ((Kd.R_nil _ _ _ _ (fun k_ => (P1_ k_ ∨ w.heap.size ≤ k_))))); (case aS => exact (below_size (by repeat (first | (with_reducible first | exact HB.out | apply below_alloc | apply pw_below_drewN | apply below_drew1) | exact HB.out)))); (case aL => have := LMc13.out; omega); intro v424 w14 ho hb hg hat; rw [← Ny423.out] at ho; have n0_ := Aside0.mk (Kd.R_grown (by (with_reducible repeat (first | apply Kd.R_alloc | apply Kd.R_drewN | apply Kd.R_drew)); exact HO422.out) hg (fun _ _ => by simp [Value.ownBlock])); have n1_ := Aside0.mk (hb); have n2_ := Aside0.mk (Kept.of_grown (S := (fun k_ => P1_ k_)) hg (by repeat (first | (with_reducible first | exact HK.out | apply Kept.alloc | apply Kept.drewN | apply Kept.drew) | exact HK.out)) (fun k_ e_ => by simp [Value.ownBlock] at e_)); have n3_ := Aside0.mk (ho); clear HO422; clear HB; clear HK; have HO422 := n0_; have HB := n1_; have HK := n2_; have HO425 := n3_; clear n0_ n1_ n2_ n3_; clear ho hb hg hat))
          go_meet
          case rel => exact ⟨_, (y423), H', ⟨by first | omega | exact Nat.le_refl _⟩, ⟨by (with_reducible repeat (first | apply Kd.R_alloc | apply Kd.R_drewN | apply Kd.R_drew)); exact HO422.out⟩, ⟨by (with_reducible repeat (first | apply Kd.R_alloc | apply Kd.R_drewN | apply Kd.R_drew)); exact HO425.out⟩, ⟨by repeat (first | (with_reducible first | exact HK.out | apply Kept.alloc | apply Kept.drewN | apply Kept.drew) | exact HK.out)⟩, ⟨by repeat (first | (with_reducible first | exact HB.out | apply below_alloc | apply pw_below_drewN | apply below_drew1) | exact HB.out)⟩⟩
        · rw [if_neg c13] at H
          exact absurd H (by simp)
      · replace c12 := Bool.eq_false_iff.mpr c12
        subst c12
        have H1 : (dowelref01_text.j0 k t420 ([] : List Int)) = some r := by rw [if_neg (show ¬ (false = true) by decide)] at H; exact H
        clear H
        have H := H1
        clear H1
        have H' := Aside0.mk H
        clear H
        go_wp2
        go_meet
        case rel => exact ⟨_, (([] : List Int)), H', ⟨by first | omega | exact Nat.le_refl _⟩, ⟨by (with_reducible repeat (first | apply Kd.R_alloc | apply Kd.R_drewN | apply Kd.R_drew)); exact HO422.out⟩, ⟨by first | exact Kd.R_nil _ _ _ _ _ | exact Kd.N_nil _ _ _ _ _ | exact Kd.V_nil _ _ _ _ _ | exact Kd.Q_nil _ _ _ _ _ | exact Kd.S_nil _ _ _ _ _⟩, ⟨by repeat (first | (with_reducible first | exact HK.out | apply Kept.alloc | apply Kept.drewN | apply Kept.drew) | exact HK.out)⟩, ⟨by repeat (first | (with_reducible first | exact HB.out | apply below_alloc | apply pw_below_drewN | apply below_drew1) | exact HB.out)⟩⟩
    case rest =>
      clear HC8
      try clear c1
      try clear p2
      try clear c4
      try clear c4b0
      try clear c4b1
      try clear c4b2
      try clear c5
      try clear c6
      try clear c12
      try clear c13
      obtain ⟨kq, x5_7, HA, HJ7, HO_1, HO_5, HK, HB⟩ := hcut
      cases kq with
      | zero => exact absurd HA.out (by simp [dowelref01_text.j0])
      | succ kj7 =>
        have H := HA.out
        clear HA
        simp only [dowelref01_text.j0] at H
        have H' := Aside0.mk H
        clear H
        go_wp2
        go_loopg [5, 6] kj7 (fun kq v5 v6 w' => ∃ (x5_2 : List Int) (x6_2 : Int), v6 = .int .i64 x6_2 ∧ Aside0 (dowelref01_text.l0 kq t420 x5_2 x6_2 = some r) ∧ Aside0 (kq ≤ kj7) ∧ Aside0 (Kd.R (Kd.int .i64) 3 w' w0.heap.size (fun k_ => (P1_ k_ ∨ w.heap.size ≤ k_)) (.slice Ao11 t420.length co11) t420) ∧ Aside0 (Kd.R (Kd.int .u8) 5 w' w0.heap.size (fun k_ => (P1_ k_ ∨ w.heap.size ≤ k_)) v5 x5_2) ∧ Aside0 (Kept w w' (fun k_ => P1_ k_)) ∧ Aside0 (Below w0.heap.size w0 w'))
        case atStart => exact ⟨(x5_7), (wrap64 ((t420.length : Int) - 1)), (by first | rfl | (simp; done) | (simp [*]; done)), H', ⟨Nat.le_refl _⟩, ⟨by (with_reducible repeat (first | apply Kd.R_alloc | apply Kd.R_drewN | apply Kd.R_drew)); exact HO_1.out⟩, ⟨by (with_reducible repeat (first | apply Kd.R_alloc | apply Kd.R_drewN | apply Kd.R_drew)); exact HO_5.out⟩, ⟨by repeat (first | (with_reducible first | exact HK.out | apply Kept.alloc | apply Kept.drewN | apply Kept.drew) | exact HK.out)⟩, ⟨by repeat (first | (with_reducible first | exact HB.out | apply below_alloc | apply pw_below_drewN | apply below_drew1) | exact HB.out)⟩⟩
        case round =>
          clear H'
          try clear c1
          try clear p2
          try clear c4
          try clear c4b0
          try clear c4b1
          try clear c4b2
          try clear c5
          try clear c6
          try clear p6
          try clear c12
          try clear c13
          try clear p2
          obtain ⟨x5_2, x6_2, rfl, HA, HK2, HO_1, HO_5, HK, HB⟩ := hrel
          cases gk with
          | zero => exact absurd HA.out (by simp [dowelref01_text.l0])
          | succ k2 =>
            have H := HA.out
            clear HA
            simp only [dowelref01_text.l0] at H
            by_cases c15 : x6_2 ≥ 0
            · rw [if_pos c15] at H
              have c15b0 : decide (0 ≤ x6_2) = true := decide_eq_true c15
              clear c15
              by_cases c16 : 0 ≤ x6_2
              · rw [if_pos c16] at H
                have c16b0 : decide (0 ≤ x6_2) = true := decide_eq_true c16
                clear c16
                by_cases c17 : x6_2 < (t420.length : Int)
                · rw [if_pos c17] at H
                  have c17b0 : decide (x6_2 < (t420.length : Int)) = true := decide_eq_true c17
                  clear c17
                  by_cases c18 : x5_2.length < 140737488355328
                  · rw [if_pos c18] at H
                    have LMc18 := Aside0.mk c18
                    clear c18
                    obtain ⟨y427, hy427⟩ : ∃ y_ : List Int, y_ = (x5_2 ++ [(wrap64 (48 + (rd t420 x6_2))) % 256]) := ⟨_, rfl⟩
                    replace H : (dowelref01_text.l0 k2 t420 y427 (wrap64 (x6_2 - 1))) = some r := by first | (rw [hy427]; with_reducible exact H) | (have H2_ := (Option.bind_some _ _).symm.trans H; rw [hy427]; with_reducible exact H2_) | (have H2_ := (Option.bind_some _ _).symm.trans H; with_reducible exact H2_) | with_reducible exact H | (rw [hy427]; exact H) | exact H
                    have Ny427 := Aside0.mk hy427
                    clear hy427
                    have H' := Aside0.mk H
                    clear H
                    have p426 : 0 ≤ (x6_2 : Int) := of_decide_eq_true (by first | (with_reducible assumption) | assumption)
                    have q426 : x6_2 < (t420.length : Int) := of_decide_eq_true (by first | (with_reducible assumption) | assumption)
                    obtain ⟨ad426, e426, hx426_0⟩ := Kd.at_int (Kd.R_reads' HO_1.out).2.2 x6_2 p426 q426
                    cases e426
                    replace p426 := eq_true p426
                    replace q426 := eq_true q426
                    go_wp2_with (first | ((with_reducible refine gate_builtin (b := .append) (xs := #[.tmp 23, .tmp 30]) rfl ?_); at_builtin; refine Kd.R_append (Kd.int .u8) (w0 := w0) w0.heap.size rfl (.tmp 23) (.tmp 30) 37 5 (.int .u8 0) 1 rfl Tryd.underlying37 info5 rfl (by decide) (by omega) u5 x5_2 ((wrap64 (48 + (rd t420 x6_2))) % 256) [.int .u8 ((wrap64 (48 + (rd t420 x6_2))) % 256)] (fun k_ => (P1_ k_ ∨ w.heap.size ≤ k_)) (fun _ => False) rfl rfl ?aP (fun _ hk => hk.elim) ?aF ?aO ?aB ?aS ?aL ?_; (case aP => exact rfl); (case aB => exact (by repeat (first | (with_reducible first | exact HB.out | apply below_alloc | apply pw_below_drewN | apply below_drew1) | exact HB.out))); (case aF => exact (fun k_ hk => (.inr (Nat.le_trans (by first | exact HK.out.1 | exact (show Kept w _ (fun k_ => P1_ k_) from by repeat (first | (with_reducible first | exact HK.out | apply Kept.alloc | apply Kept.drewN | apply Kept.drew) | exact HK.out)).1) hk)))); (case aO => exact (by (with_reducible repeat (first | apply Kd.R_alloc | apply Kd.R_drewN | apply Kd.R_drew)); exact HO_5.out)); (case aS => exact (below_size (by repeat (first | (with_reducible first | exact HB.out | apply below_alloc | apply pw_below_drewN | apply below_drew1) | exact HB.out)))); (case aL => have := LMc18.out; omega); intro v428 w19 ho hb hg hat; rw [← Ny427.out] at ho; have n0_ := Aside0.mk (Kd.R_over' (by (with_reducible repeat (first | apply Kd.R_alloc | apply Kd.R_drewN | apply Kd.R_drew)); exact HO_1.out) (Kd.R_typed (by (with_reducible repeat (first | apply Kd.R_alloc | apply Kd.R_drewN | apply Kd.R_drew)); exact HO_5.out)) (by decide) hg); have n1_ := Aside0.mk (hb); have n2_ := Aside0.mk (Kept.of_grown (S := (fun k_ => P1_ k_)) hg (by repeat (first | (with_reducible first | exact HK.out | apply Kept.alloc | apply Kept.drewN | apply Kept.drew) | exact HK.out)) (fun k_ e_ => (HO_5.out.1 k_ e_))); have n3_ := Aside0.mk (ho); clear HO_1; clear HB; clear HK; clear HO_5; have HO_1 := n0_; have HB := n1_; have HK := n2_; have HO429 := n3_; clear n0_ n1_ n2_ n3_; clear ho hb hg hat))
                    go_roundg k2
                    case measure => have := HJ7.out; have := HK2.out; omega
                    case rel => exact ⟨(y427), (wrap64 (x6_2 - 1)), (by first | rfl | (simp; done) | (simp [*]; done)), H', ⟨by have := HJ7.out; have := HK2.out; omega⟩, ⟨by (with_reducible repeat (first | apply Kd.R_alloc | apply Kd.R_drewN | apply Kd.R_drew)); exact HO_1.out⟩, ⟨by (with_reducible repeat (first | apply Kd.R_alloc | apply Kd.R_drewN | apply Kd.R_drew)); exact HO429.out⟩, ⟨by repeat (first | (with_reducible first | exact HK.out | apply Kept.alloc | apply Kept.drewN | apply Kept.drew) | exact HK.out)⟩, ⟨by repeat (first | (with_reducible first | exact HB.out | apply below_alloc | apply pw_below_drewN | apply below_drew1) | exact HB.out)⟩⟩
                  · rw [if_neg c18] at H
                    exact absurd H (by simp)
                · rw [if_neg c17] at H
                  exact absurd H (by simp)
              · rw [if_neg c16] at H
                exact absurd H (by simp)
            · rw [if_neg c15] at H
              have c15b0 : decide (0 ≤ x6_2) = false := decide_eq_false c15
              clear c15
              obtain rfl := Option.some.inj H
              have hcv20 := own_string (P := Tryd.prog) Tryd.underlying37 Tryd.underlying5 Tryd.underlying9 (Kd.own_of_R HO_5.out)
              go_wp2
              go_ret
              exact ⟨by first | rfl | (simp [errW_none, errW_some] <;> rfl) | (simp [*, errW_none, errW_some] <;> rfl), by repeat (first | (with_reducible first | exact HB.out | apply below_alloc | apply pw_below_drewN | apply below_drew1) | exact HB.out), by repeat (first | (with_reducible first | exact HK.out | apply Kept.alloc | apply Kept.drewN | apply Kept.drew) | exact HK.out)⟩
end Go.Proofs.YtiikfhdmclmjmaaDoor.P
namespace Go.Proofs.YtiikfhdmclmjmaaDoor.P
open Go.RowKit Go.Proofs.YtiikfhdmclmjmaaDoorW.PrintWords Go.Proofs.YtiikfhdmclmjmaaDoorW.PrintLast
set_option linter.unusedVariables false
set_option linter.unusedSimpArgs false
def dowelref01_From.l0 : Nat → Int → List Int → Int → Option (ByteArray)
  | 0, _, _, _ => none
  | k + 1, x0, x3, x4 => if x4 = 0 then ((dowelref01_text.f k (decide (x0 < 0)) x3).bind fun t430 => (some t430)) else (if (Int.tmod x4 10) < 0 then (if x3.length < 17592186044416 then (dowelref01_From.l0 k x0 (x3 ++ [wrap64 (-(Int.tmod x4 10))]) (wrap64 (Int.tdiv x4 10))) else (none)) else (if x3.length < 17592186044416 then (dowelref01_From.l0 k x0 (x3 ++ [Int.tmod x4 10]) (wrap64 (Int.tdiv x4 10))) else (none)))
def dowelref01_From.f (k : Nat) (a0 : Int) : Option (ByteArray) := dowelref01_From.l0 k a0 ([] : List Int) a0
theorem dowelref01_From.mono_l : ∀ k, (∀ y0 y1 y2, LeO (dowelref01_From.l0 k y0 y1 y2) (dowelref01_From.l0 (k + 1) y0 y1 y2))
  | 0 => fun _ _ _ r h => by simp [dowelref01_From.l0] at h
  | k + 1 => by
    have ih0 := dowelref01_From.mono_l k
    · intro y0 y1 y2
      unfold dowelref01_From.l0
      repeat' first
      | (with_reducible exact ih0 _ _ _)
      | (with_reducible exact dowelref01_text.mono _ _ _)
      | (with_reducible exact LeO.refl _)
      | (with_reducible exact LeO.none _)
      | (with_reducible refine LeO.ite ?_ ?_)
      | (with_reducible refine LeO.bind ?_ (fun _ => ?_))
      | exact ih0 _ _ _
      | exact dowelref01_text.mono _ _ _
      | exact LeO.none _
      | refine LeO.ite ?_ ?_
      | refine LeO.bind ?_ (fun _ => ?_)
theorem dowelref01_From.mono : ∀ a0 k, LeO (dowelref01_From.f k a0) (dowelref01_From.f (k + 1) a0) := by
  intro a0 k
  have ih0 := dowelref01_From.mono_l k
  unfold dowelref01_From.f
  repeat' first
      | (with_reducible exact ih0 _ _ _)
      | (with_reducible exact dowelref01_text.mono _ _ _)
      | (with_reducible exact LeO.refl _)
      | (with_reducible exact LeO.none _)
      | (with_reducible refine LeO.ite ?_ ?_)
      | (with_reducible refine LeO.bind ?_ (fun _ => ?_))
      | exact ih0 _ _ _
      | exact dowelref01_text.mono _ _ _
      | exact LeO.none _
      | refine LeO.ite ?_ ?_
      | refine LeO.bind ?_ (fun _ => ?_)
set_option maxHeartbeats 8000000 in
set_option maxRecDepth 100000 in
theorem dowelref01_From.calls (k : Nat) (a0 : Int) (r : ByteArray) (w : World) (h : dowelref01_From.f k a0 = some r) :
    Calls Tryd.prog 18 #[.int .i64 a0] w fun e w' => e = .returned (.string r) ∧ Below w.heap.size w w' := by
  have HB := Aside0.mk (Below.refl w.heap.size w)
  have H : (dowelref01_From.l0 k a0 ([] : List Int) a0) = some r := h
  clear h
  have H' := Aside0.mk H
  clear H
  go_enter Tryd.func18, Tryd.ntmps18
  go_wp2
  go_loopg [3, 4] k (fun kq v3 v4 w' => ∃ (x3_1 : List Int) (x4_1 : Int), v4 = .int .i64 x4_1 ∧ Aside0 (dowelref01_From.l0 kq a0 x3_1 x4_1 = some r) ∧ Aside0 (kq ≤ k) ∧ Aside0 (Kd.R (Kd.int .i64) 3 w' w.heap.size (fun _ => True) v3 x3_1) ∧ Aside0 (Below w.heap.size w w'))
  case atStart => exact ⟨(([] : List Int)), (a0), (by first | rfl | (simp; done) | (simp [*]; done)), H', ⟨Nat.le_refl _⟩, ⟨by first | exact Kd.R_nil _ _ _ _ _ | exact Kd.N_nil _ _ _ _ _ | exact Kd.V_nil _ _ _ _ _ | exact Kd.Q_nil _ _ _ _ _ | exact Kd.S_nil _ _ _ _ _⟩, ⟨by repeat (first | (with_reducible first | exact HB.out | apply below_alloc | apply pw_below_drewN | apply below_drew1) | exact HB.out)⟩⟩
  case round =>
    clear H'
    try clear c1
    obtain ⟨x3_1, x4_1, rfl, HA, HK1, HO_3, HB⟩ := hrel
    cases gk with
    | zero => exact absurd HA.out (by simp [dowelref01_From.l0])
    | succ k1 =>
      have H := HA.out
      clear HA
      simp only [dowelref01_From.l0] at H
      by_cases c2 : x4_1 = 0
      · rw [if_pos c2] at H
        have c2b0 : (x4_1 == 0) = true := beq_iff_eq.mpr c2
        have c2b1 : (x4_1 != 0) = false := bne_eq_false_iff_eq.mpr c2
        clear c2
        replace H := Option.bind_eq_some_iff.mp H
        obtain ⟨t430, A30, H⟩ := H
        replace H : (some t430) = some r := H
        have A3 := Aside0.mk A30
        clear A30
        obtain rfl := Option.some.inj H
        obtain ⟨Ao4, co4, eo4⟩ := Kd.R_slice HO_3.out
        subst eo4
        go_wp2_with (first | ((with_reducible refine gate_callee (f := 51) rfl ?_); refine goesL_ (some 24) rfl rfl Tryd.func51 (by kernel_rfl) rfl #[.bool (decide (a0 < 0)), .slice Ao4 x3_1.length co4] rfl (by (try simp only [List.map_toArray, List.map_cons, List.map_nil]); first | done | rfl | (simp only [List.length_drop, List.length_take]; rfl)) ?_; (with_reducible refine (dowelref01_text.calls k1 (decide (a0 < 0)) (fun k_ => some k_ = (.slice Ao4 x3_1.length co4 : Value).ownBlock) (.slice Ao4 x3_1.length co4) x3_1 t430 w _ ?side1 ?side2 A3.out).mono ?_); (case side1 => repeat (first | (with_reducible first | exact HB.out | apply below_alloc | apply pw_below_drewN | apply below_drew1) | exact HB.out)); (case side2 => exact Kd.R_tight rfl HO_3.out); rintro e w5 ⟨rfl, hb, hkp⟩; refine ⟨_, rfl, ?_⟩; have n0_ := Aside0.mk (hb); clear HB; clear HO_3; have HB := n0_; clear n0_; (try clear hb); (try clear hkp)))
        go_ret
        exact ⟨by first | rfl | (simp [errW_none, errW_some] <;> rfl) | (simp [*, errW_none, errW_some] <;> rfl), by repeat (first | (with_reducible first | exact HB.out | apply below_alloc | apply pw_below_drewN | apply below_drew1) | exact HB.out)⟩
      · rw [if_neg c2] at H
        have c2b0 : (x4_1 == 0) = false := beq_eq_false_iff_ne.mpr c2
        have c2b1 : (x4_1 != 0) = true := bne_iff_ne.mpr c2
        by_cases c6 : (Int.tmod x4_1 10) < 0
        · rw [if_pos c6] at H
          have c6b0 : decide ((Int.tmod x4_1 10) < 0) = true := decide_eq_true c6
          clear c6
          by_cases c7 : x3_1.length < 17592186044416
          · rw [if_pos c7] at H
            have LMc7 := Aside0.mk c7
            clear c7
            obtain ⟨y431, hy431⟩ : ∃ y_ : List Int, y_ = (x3_1 ++ [wrap64 (-(Int.tmod x4_1 10))]) := ⟨_, rfl⟩
            replace H : (dowelref01_From.l0 k1 a0 y431 (wrap64 (Int.tdiv x4_1 10))) = some r := by first | (rw [hy431]; with_reducible exact H) | (have H2_ := (Option.bind_some _ _).symm.trans H; rw [hy431]; with_reducible exact H2_) | (have H2_ := (Option.bind_some _ _).symm.trans H; with_reducible exact H2_) | with_reducible exact H | (rw [hy431]; exact H) | exact H
            have Ny431 := Aside0.mk hy431
            clear hy431
            have H' := Aside0.mk H
            clear H
            go_wp2_with (first | ((with_reducible refine gate_builtin (b := .append) (xs := #[.tmp 17, .tmp 19]) rfl ?_); at_builtin; refine Kd.R_append (Kd.int .i64) (w0 := w) w.heap.size rfl (.tmp 17) (.tmp 19) 67 3 (.int .i64 0) 8 rfl Tryd.underlying67 info3 rfl (by decide) (by omega) u3 x3_1 (wrap64 (-(Int.tmod x4_1 10))) [.int .i64 (wrap64 (-(Int.tmod x4_1 10)))] (fun _ => True) (fun _ => False) rfl rfl ?aP (fun _ hk => hk.elim) ?aF ?aO ?aB ?aS ?aL ?_; (case aP => exact rfl); (case aB => exact (by repeat (first | (with_reducible first | exact HB.out | apply below_alloc | apply pw_below_drewN | apply below_drew1) | exact HB.out))); (case aF => exact (fun _ _ => trivial)); (case aO => exact (by (with_reducible repeat (first | apply Kd.R_alloc | apply Kd.R_drewN | apply Kd.R_drew)); exact HO_3.out)); (case aS => exact (below_size (by repeat (first | (with_reducible first | exact HB.out | apply below_alloc | apply pw_below_drewN | apply below_drew1) | exact HB.out)))); (case aL => have := LMc7.out; omega); intro v432 w8 ho hb hg hat; rw [← Ny431.out] at ho; have n0_ := Aside0.mk (hb); have n1_ := Aside0.mk (ho); clear HB; clear HO_3; have HB := n0_; have HO433 := n1_; clear n0_ n1_; clear ho hb hg hat))
            go_roundg k1
            case measure => have := HK1.out; omega
            case rel => exact ⟨(y431), (wrap64 (Int.tdiv x4_1 10)), (by first | rfl | (simp; done) | (simp [*]; done)), H', ⟨by have := HK1.out; omega⟩, ⟨by (with_reducible repeat (first | apply Kd.R_alloc | apply Kd.R_drewN | apply Kd.R_drew)); exact HO433.out⟩, ⟨by repeat (first | (with_reducible first | exact HB.out | apply below_alloc | apply pw_below_drewN | apply below_drew1) | exact HB.out)⟩⟩
          · rw [if_neg c7] at H
            exact absurd H (by simp)
        · rw [if_neg c6] at H
          have c6b0 : decide ((Int.tmod x4_1 10) < 0) = false := decide_eq_false c6
          clear c6
          by_cases c9 : x3_1.length < 17592186044416
          · rw [if_pos c9] at H
            have LMc9 := Aside0.mk c9
            clear c9
            obtain ⟨y434, hy434⟩ : ∃ y_ : List Int, y_ = (x3_1 ++ [Int.tmod x4_1 10]) := ⟨_, rfl⟩
            replace H : (dowelref01_From.l0 k1 a0 y434 (wrap64 (Int.tdiv x4_1 10))) = some r := by first | (rw [hy434]; with_reducible exact H) | (have H2_ := (Option.bind_some _ _).symm.trans H; rw [hy434]; with_reducible exact H2_) | (have H2_ := (Option.bind_some _ _).symm.trans H; with_reducible exact H2_) | with_reducible exact H | (rw [hy434]; exact H) | exact H
            have Ny434 := Aside0.mk hy434
            clear hy434
            have H' := Aside0.mk H
            clear H
            go_wp2_with (first | ((with_reducible refine gate_builtin (b := .append) (xs := #[.tmp 17, .tmp 19]) rfl ?_); at_builtin; refine Kd.R_append (Kd.int .i64) (w0 := w) w.heap.size rfl (.tmp 17) (.tmp 19) 67 3 (.int .i64 0) 8 rfl Tryd.underlying67 info3 rfl (by decide) (by omega) u3 x3_1 (Int.tmod x4_1 10) [.int .i64 (Int.tmod x4_1 10)] (fun _ => True) (fun _ => False) rfl rfl ?aP (fun _ hk => hk.elim) ?aF ?aO ?aB ?aS ?aL ?_; (case aP => exact rfl); (case aB => exact (by repeat (first | (with_reducible first | exact HB.out | apply below_alloc | apply pw_below_drewN | apply below_drew1) | exact HB.out))); (case aF => exact (fun _ _ => trivial)); (case aO => exact (by (with_reducible repeat (first | apply Kd.R_alloc | apply Kd.R_drewN | apply Kd.R_drew)); exact HO_3.out)); (case aS => exact (below_size (by repeat (first | (with_reducible first | exact HB.out | apply below_alloc | apply pw_below_drewN | apply below_drew1) | exact HB.out)))); (case aL => have := LMc9.out; omega); intro v435 w10 ho hb hg hat; rw [← Ny434.out] at ho; have n0_ := Aside0.mk (hb); have n1_ := Aside0.mk (ho); clear HB; clear HO_3; have HB := n0_; have HO436 := n1_; clear n0_ n1_; clear ho hb hg hat))
            go_roundg k1
            case measure => have := HK1.out; omega
            case rel => exact ⟨(y434), (wrap64 (Int.tdiv x4_1 10)), (by first | rfl | (simp; done) | (simp [*]; done)), H', ⟨by have := HK1.out; omega⟩, ⟨by (with_reducible repeat (first | apply Kd.R_alloc | apply Kd.R_drewN | apply Kd.R_drew)); exact HO436.out⟩, ⟨by repeat (first | (with_reducible first | exact HB.out | apply below_alloc | apply pw_below_drewN | apply below_drew1) | exact HB.out)⟩⟩
          · rw [if_neg c9] at H
            exact absurd H (by simp)
end Go.Proofs.YtiikfhdmclmjmaaDoor.P
namespace Go.Proofs.YtiikfhdmclmjmaaDoor.P
open Go.RowKit Go.Proofs.YtiikfhdmclmjmaaDoorW.PrintWords Go.Proofs.YtiikfhdmclmjmaaDoorW.PrintLast
set_option linter.unusedVariables false
set_option linter.unusedSimpArgs false
def integer_Compare.f (k : Nat) (a0_0 : Bool) (l0_1 : List Int) (a1_0 : Bool) (l1_1 : List Int) : Option (Int) := if (a0_0 != a1_0) = true then (if a0_0 = true then (some (-1)) else (some 1)) else (if a0_0 = true then ((integer_order.f k l1_1 l0_1).bind fun t439 => (some t439)) else ((integer_order.f k l0_1 l1_1).bind fun t440 => (some t440)))
theorem integer_Compare.mono : ∀ a0 a1 a2 a3 k, LeO (integer_Compare.f k a0 a1 a2 a3) (integer_Compare.f (k + 1) a0 a1 a2 a3) := by
  intro a0 a1 a2 a3 k
  unfold integer_Compare.f
  repeat' first
      | (with_reducible exact integer_order.mono _ _ _)
      | (with_reducible exact LeO.refl _)
      | (with_reducible exact LeO.none _)
      | (with_reducible refine LeO.ite ?_ ?_)
      | (with_reducible refine LeO.bind ?_ (fun _ => ?_))
      | exact integer_order.mono _ _ _
      | exact LeO.none _
      | refine LeO.ite ?_ ?_
      | refine LeO.bind ?_ (fun _ => ?_)
set_option maxHeartbeats 8000000 in
set_option maxRecDepth 100000 in
theorem integer_Compare.calls (k : Nat) (a0_0 : Bool) (A0_1 : Option Addr) (c0_1 : Nat) (l0_1 : List Int) (a1_0 : Bool) (A1_1 : Option Addr) (c1_1 : Nat) (l1_1 : List Int) (r : Int) (w : World) (hr0_1 : Kd.C (Kd.int .u32) w A0_1 l0_1.length l0_1) (hc0_1 : l0_1.length ≤ c0_1) (hr1_1 : Kd.C (Kd.int .u32) w A1_1 l1_1.length l1_1) (hc1_1 : l1_1.length ≤ c1_1) (h : integer_Compare.f k a0_0 l0_1 a1_0 l1_1 = some r) :
    Calls Tryd.prog 20 #[.agg #[.bool a0_0, .slice A0_1 l0_1.length c0_1], .agg #[.bool a1_0, .slice A1_1 l1_1.length c1_1]] w fun e w' => e = .returned (.int .i64 r) ∧ Below w.heap.size w w' := by
  have hu25 := Tryd.underlying25
  have HR0_1 := Aside0.mk hr0_1
  have HC0_1 := Aside0.mk hc0_1
  clear hr0_1 hc0_1
  have HR1_1 := Aside0.mk hr1_1
  have HC1_1 := Aside0.mk hc1_1
  clear hr1_1 hc1_1
  have HB := Aside0.mk (Below.refl w.heap.size w)
  have H : (if (a0_0 != a1_0) = true then (if a0_0 = true then (some (-1)) else (some 1)) else (if a0_0 = true then ((integer_order.f k l1_1 l0_1).bind fun t439 => (some t439)) else ((integer_order.f k l0_1 l1_1).bind fun t440 => (some t440)))) = some r := h
  clear h
  by_cases c3 : (a0_0 != a1_0) = true
  · rw [if_pos c3] at H
    have c3b0 : (a0_0 != a1_0) = true := c3
    (try (have c3b1 : decide (a0_0 = a1_0) = false := by simpa using c3))
    (try (have c3b2 : (a0_0 == a1_0) = false := by simpa using c3))
    (try (have c3b3 : ¬ (a0_0 = a1_0) := by simpa using c3))
    clear c3
    by_cases c4 : a0_0 = true
    · subst c4
      have H1 : (some (-1)) = some r := by rw [if_pos rfl] at H; exact H
      clear H
      have H := H1
      clear H1
      obtain rfl := Option.some.inj H
      go_enter Tryd.func20, Tryd.ntmps20
      go_wp2_with (first | ((with_reducible refine gate_dst (N := 2) rfl ?_); refine box_event ?hg (N := 2) ?hd (cs := #[.bool true, .slice A0_1 l0_1.length c0_1]) (t := 25) ?hr ?_; (case hd => rfl); (case hg => rfl); (case hr => first | (go_simp; done) | (go_simp; rfl)); intro gb437 hg w5 hbox hb; have n0_ := Aside0.mk (below_step (by repeat (first | (with_reducible first | exact HB.out | apply below_alloc | apply pw_below_drewN | apply below_drew1) | exact HB.out)) hb); have n1_ := Aside0.mk (hbox); have n2_ := Aside0.mk ((by rw [hg]; exact (below_size (by repeat (first | (with_reducible first | exact HB.out | apply below_alloc | apply pw_below_drewN | apply below_drew1) | exact HB.out))) : w.heap.size ≤ gb437)); have n3_ := Aside0.mk ((by rw [hg]; exact (below_size (by repeat (first | (with_reducible first | exact HB.out | apply below_alloc | apply pw_below_drewN | apply below_drew1) | exact HB.out))) : w.heap.size ≤ gb437)); clear HB; have HB := n0_; have BK437 := n1_; have GW437 := n2_; have GE437 := n3_; clear n0_ n1_ n2_ n3_; clear hb hbox hg) | ((with_reducible refine gate_dst (N := 3) rfl ?_); refine box_event ?hg (N := 3) ?hd (cs := #[.bool a1_0, .slice A1_1 l1_1.length c1_1]) (t := 25) ?hr ?_; (case hd => rfl); (case hg => rfl); (case hr => first | (go_simp; done) | (go_simp; rfl)); intro gb438 hg w6 hbox hb; have n0_ := Aside0.mk (blk_below (g := gb437) (o := .cells #[.bool true, .slice A0_1 l0_1.length c0_1] 25 (0, 0)) (by (with_reducible repeat (first | refine blk_drewN ?_ _ | refine blk_drew ?_ | refine blk_alloc ?_ _)); exact BK437.out) hb); have n1_ := Aside0.mk (below_step (by repeat (first | (with_reducible first | exact HB.out | apply below_alloc | apply pw_below_drewN | apply below_drew1 | refine below_set ?_ GE437.out) | exact HB.out)) hb); have n2_ := Aside0.mk (hbox); have n3_ := Aside0.mk ((by rw [hg]; exact (below_size (by repeat (first | (with_reducible first | exact HB.out | apply below_alloc | apply pw_below_drewN | apply below_drew1 | refine below_set ?_ GE437.out) | exact HB.out))) : w.heap.size ≤ gb438)); have n4_ := Aside0.mk ((by rw [hg]; exact (below_size (by repeat (first | (with_reducible first | exact HB.out | apply below_alloc | apply pw_below_drewN | apply below_drew1 | refine below_set ?_ GE437.out) | exact HB.out))) : w.heap.size ≤ gb438)); have n5_ := Aside0.mk ((by rw [hg]; exact Nat.ne_of_lt (blk_lt (g := gb437) (o := .cells #[.bool true, .slice A0_1 l0_1.length c0_1] 25 (0, 0)) (by (with_reducible repeat (first | refine blk_drewN ?_ _ | refine blk_drew ?_ | refine blk_alloc ?_ _)); exact BK437.out)) : gb437 ≠ gb438)); have n6_ := Aside0.mk ((by rw [hg]; exact Nat.ne_of_gt (blk_lt (g := gb437) (o := .cells #[.bool true, .slice A0_1 l0_1.length c0_1] 25 (0, 0)) (by (with_reducible repeat (first | refine blk_drewN ?_ _ | refine blk_drew ?_ | refine blk_alloc ?_ _)); exact BK437.out)) : gb438 ≠ gb437)); clear BK437; clear HB; have BK437 := n0_; have HB := n1_; have BK438 := n2_; have GW438 := n3_; have GE438 := n4_; have NB437_438 := n5_; have NB438_437 := n6_; clear n0_ n1_ n2_ n3_ n4_ n5_ n6_; clear hb hbox hg; have hnb7 := NB437_438.out; have hnc7 := NB438_437.out; have hcz8_0 : w6.cell? ⟨gb437, 0, none⟩ = some (.bool true) := (blk_cell BK437.out 0).trans rfl; have hcz8_1 : w6.cell? ⟨gb437, 1, none⟩ = some (.slice A0_1 l0_1.length c0_1) := (blk_cell BK437.out 1).trans rfl; have hfz8_0 := blk_frozen BK437.out 0; have hfz8_1 := blk_frozen BK437.out 1; have hcz9_0 : w6.cell? ⟨gb438, 0, none⟩ = some (.bool a1_0) := (blk_cell BK438.out 0).trans rfl; have hcz9_1 : w6.cell? ⟨gb438, 1, none⟩ = some (.slice A1_1 l1_1.length c1_1) := (blk_cell BK438.out 1).trans rfl; have hfz9_0 := blk_frozen BK438.out 0; have hfz9_1 := blk_frozen BK438.out 1))
      go_ret
      exact ⟨by first | rfl | (simp [errW_none, errW_some] <;> rfl) | (simp [*, errW_none, errW_some] <;> rfl), by repeat (first | (with_reducible first | exact HB.out | apply below_alloc | apply pw_below_drewN | apply below_drew1 | refine below_set ?_ GE437.out | refine below_set ?_ GE438.out) | exact HB.out)⟩
    · replace c4 := Bool.eq_false_iff.mpr c4
      subst c4
      have H1 : (some 1) = some r := by rw [if_neg (show ¬ (false = true) by decide)] at H; exact H
      clear H
      have H := H1
      clear H1
      obtain rfl := Option.some.inj H
      go_enter Tryd.func20, Tryd.ntmps20
      go_wp2_with (first | ((with_reducible refine gate_dst (N := 2) rfl ?_); refine box_event ?hg (N := 2) ?hd (cs := #[.bool false, .slice A0_1 l0_1.length c0_1]) (t := 25) ?hr ?_; (case hd => rfl); (case hg => rfl); (case hr => first | (go_simp; done) | (go_simp; rfl)); intro gb437 hg w10 hbox hb; have n0_ := Aside0.mk (below_step (by repeat (first | (with_reducible first | exact HB.out | apply below_alloc | apply pw_below_drewN | apply below_drew1) | exact HB.out)) hb); have n1_ := Aside0.mk (hbox); have n2_ := Aside0.mk ((by rw [hg]; exact (below_size (by repeat (first | (with_reducible first | exact HB.out | apply below_alloc | apply pw_below_drewN | apply below_drew1) | exact HB.out))) : w.heap.size ≤ gb437)); have n3_ := Aside0.mk ((by rw [hg]; exact (below_size (by repeat (first | (with_reducible first | exact HB.out | apply below_alloc | apply pw_below_drewN | apply below_drew1) | exact HB.out))) : w.heap.size ≤ gb437)); clear HB; have HB := n0_; have BK437 := n1_; have GW437 := n2_; have GE437 := n3_; clear n0_ n1_ n2_ n3_; clear hb hbox hg) | ((with_reducible refine gate_dst (N := 3) rfl ?_); refine box_event ?hg (N := 3) ?hd (cs := #[.bool a1_0, .slice A1_1 l1_1.length c1_1]) (t := 25) ?hr ?_; (case hd => rfl); (case hg => rfl); (case hr => first | (go_simp; done) | (go_simp; rfl)); intro gb438 hg w11 hbox hb; have n0_ := Aside0.mk (blk_below (g := gb437) (o := .cells #[.bool false, .slice A0_1 l0_1.length c0_1] 25 (0, 0)) (by (with_reducible repeat (first | refine blk_drewN ?_ _ | refine blk_drew ?_ | refine blk_alloc ?_ _)); exact BK437.out) hb); have n1_ := Aside0.mk (below_step (by repeat (first | (with_reducible first | exact HB.out | apply below_alloc | apply pw_below_drewN | apply below_drew1 | refine below_set ?_ GE437.out) | exact HB.out)) hb); have n2_ := Aside0.mk (hbox); have n3_ := Aside0.mk ((by rw [hg]; exact (below_size (by repeat (first | (with_reducible first | exact HB.out | apply below_alloc | apply pw_below_drewN | apply below_drew1 | refine below_set ?_ GE437.out) | exact HB.out))) : w.heap.size ≤ gb438)); have n4_ := Aside0.mk ((by rw [hg]; exact (below_size (by repeat (first | (with_reducible first | exact HB.out | apply below_alloc | apply pw_below_drewN | apply below_drew1 | refine below_set ?_ GE437.out) | exact HB.out))) : w.heap.size ≤ gb438)); have n5_ := Aside0.mk ((by rw [hg]; exact Nat.ne_of_lt (blk_lt (g := gb437) (o := .cells #[.bool false, .slice A0_1 l0_1.length c0_1] 25 (0, 0)) (by (with_reducible repeat (first | refine blk_drewN ?_ _ | refine blk_drew ?_ | refine blk_alloc ?_ _)); exact BK437.out)) : gb437 ≠ gb438)); have n6_ := Aside0.mk ((by rw [hg]; exact Nat.ne_of_gt (blk_lt (g := gb437) (o := .cells #[.bool false, .slice A0_1 l0_1.length c0_1] 25 (0, 0)) (by (with_reducible repeat (first | refine blk_drewN ?_ _ | refine blk_drew ?_ | refine blk_alloc ?_ _)); exact BK437.out)) : gb438 ≠ gb437)); clear BK437; clear HB; have BK437 := n0_; have HB := n1_; have BK438 := n2_; have GW438 := n3_; have GE438 := n4_; have NB437_438 := n5_; have NB438_437 := n6_; clear n0_ n1_ n2_ n3_ n4_ n5_ n6_; clear hb hbox hg; have hnb12 := NB437_438.out; have hnc12 := NB438_437.out; have hcz13_0 : w11.cell? ⟨gb437, 0, none⟩ = some (.bool false) := (blk_cell BK437.out 0).trans rfl; have hcz13_1 : w11.cell? ⟨gb437, 1, none⟩ = some (.slice A0_1 l0_1.length c0_1) := (blk_cell BK437.out 1).trans rfl; have hfz13_0 := blk_frozen BK437.out 0; have hfz13_1 := blk_frozen BK437.out 1; have hcz14_0 : w11.cell? ⟨gb438, 0, none⟩ = some (.bool a1_0) := (blk_cell BK438.out 0).trans rfl; have hcz14_1 : w11.cell? ⟨gb438, 1, none⟩ = some (.slice A1_1 l1_1.length c1_1) := (blk_cell BK438.out 1).trans rfl; have hfz14_0 := blk_frozen BK438.out 0; have hfz14_1 := blk_frozen BK438.out 1))
      go_ret
      exact ⟨by first | rfl | (simp [errW_none, errW_some] <;> rfl) | (simp [*, errW_none, errW_some] <;> rfl), by repeat (first | (with_reducible first | exact HB.out | apply below_alloc | apply pw_below_drewN | apply below_drew1 | refine below_set ?_ GE437.out | refine below_set ?_ GE438.out) | exact HB.out)⟩
  · rw [if_neg c3] at H
    have c3b0 : (a0_0 != a1_0) = false := by simpa using c3
    (try (have c3b1 : decide (a0_0 = a1_0) = true := by simpa using c3))
    (try (have c3b2 : (a0_0 == a1_0) = true := by simpa using c3))
    clear c3
    by_cases c15 : a0_0 = true
    · subst c15
      have H1 : ((integer_order.f k l1_1 l0_1).bind fun t439 => (some t439)) = some r := by rw [if_pos rfl] at H; exact H
      clear H
      have H := H1
      clear H1
      replace H := Option.bind_eq_some_iff.mp H
      obtain ⟨t439, A160, H⟩ := H
      replace H : (some t439) = some r := H
      have A16 := Aside0.mk A160
      clear A160
      obtain rfl := Option.some.inj H
      go_enter Tryd.func20, Tryd.ntmps20
      go_wp2_with (first | ((with_reducible refine gate_dst (N := 2) rfl ?_); refine box_event ?hg (N := 2) ?hd (cs := #[.bool true, .slice A0_1 l0_1.length c0_1]) (t := 25) ?hr ?_; (case hd => rfl); (case hg => rfl); (case hr => first | (go_simp; done) | (go_simp; rfl)); intro gb437 hg w17 hbox hb; have n0_ := Aside0.mk (below_step (by repeat (first | (with_reducible first | exact HB.out | apply below_alloc | apply pw_below_drewN | apply below_drew1) | exact HB.out)) hb); have n1_ := Aside0.mk (hbox); have n2_ := Aside0.mk ((by rw [hg]; exact (below_size (by repeat (first | (with_reducible first | exact HB.out | apply below_alloc | apply pw_below_drewN | apply below_drew1) | exact HB.out))) : w.heap.size ≤ gb437)); have n3_ := Aside0.mk ((by rw [hg]; exact (below_size (by repeat (first | (with_reducible first | exact HB.out | apply below_alloc | apply pw_below_drewN | apply below_drew1) | exact HB.out))) : w.heap.size ≤ gb437)); clear HB; have HB := n0_; have BK437 := n1_; have GW437 := n2_; have GE437 := n3_; clear n0_ n1_ n2_ n3_; clear hb hbox hg) | ((with_reducible refine gate_dst (N := 3) rfl ?_); refine box_event ?hg (N := 3) ?hd (cs := #[.bool a1_0, .slice A1_1 l1_1.length c1_1]) (t := 25) ?hr ?_; (case hd => rfl); (case hg => rfl); (case hr => first | (go_simp; done) | (go_simp; rfl)); intro gb438 hg w18 hbox hb; have n0_ := Aside0.mk (blk_below (g := gb437) (o := .cells #[.bool true, .slice A0_1 l0_1.length c0_1] 25 (0, 0)) (by (with_reducible repeat (first | refine blk_drewN ?_ _ | refine blk_drew ?_ | refine blk_alloc ?_ _)); exact BK437.out) hb); have n1_ := Aside0.mk (below_step (by repeat (first | (with_reducible first | exact HB.out | apply below_alloc | apply pw_below_drewN | apply below_drew1 | refine below_set ?_ GE437.out) | exact HB.out)) hb); have n2_ := Aside0.mk (hbox); have n3_ := Aside0.mk ((by rw [hg]; exact (below_size (by repeat (first | (with_reducible first | exact HB.out | apply below_alloc | apply pw_below_drewN | apply below_drew1 | refine below_set ?_ GE437.out) | exact HB.out))) : w.heap.size ≤ gb438)); have n4_ := Aside0.mk ((by rw [hg]; exact (below_size (by repeat (first | (with_reducible first | exact HB.out | apply below_alloc | apply pw_below_drewN | apply below_drew1 | refine below_set ?_ GE437.out) | exact HB.out))) : w.heap.size ≤ gb438)); have n5_ := Aside0.mk ((by rw [hg]; exact Nat.ne_of_lt (blk_lt (g := gb437) (o := .cells #[.bool true, .slice A0_1 l0_1.length c0_1] 25 (0, 0)) (by (with_reducible repeat (first | refine blk_drewN ?_ _ | refine blk_drew ?_ | refine blk_alloc ?_ _)); exact BK437.out)) : gb437 ≠ gb438)); have n6_ := Aside0.mk ((by rw [hg]; exact Nat.ne_of_gt (blk_lt (g := gb437) (o := .cells #[.bool true, .slice A0_1 l0_1.length c0_1] 25 (0, 0)) (by (with_reducible repeat (first | refine blk_drewN ?_ _ | refine blk_drew ?_ | refine blk_alloc ?_ _)); exact BK437.out)) : gb438 ≠ gb437)); clear BK437; clear HB; have BK437 := n0_; have HB := n1_; have BK438 := n2_; have GW438 := n3_; have GE438 := n4_; have NB437_438 := n5_; have NB438_437 := n6_; clear n0_ n1_ n2_ n3_ n4_ n5_ n6_; clear hb hbox hg; have hnb19 := NB437_438.out; have hnc19 := NB438_437.out; have hcz20_0 : w18.cell? ⟨gb437, 0, none⟩ = some (.bool true) := (blk_cell BK437.out 0).trans rfl; have hcz20_1 : w18.cell? ⟨gb437, 1, none⟩ = some (.slice A0_1 l0_1.length c0_1) := (blk_cell BK437.out 1).trans rfl; have hfz20_0 := blk_frozen BK437.out 0; have hfz20_1 := blk_frozen BK437.out 1; have hcz21_0 : w18.cell? ⟨gb438, 0, none⟩ = some (.bool a1_0) := (blk_cell BK438.out 0).trans rfl; have hcz21_1 : w18.cell? ⟨gb438, 1, none⟩ = some (.slice A1_1 l1_1.length c1_1) := (blk_cell BK438.out 1).trans rfl; have hfz21_0 := blk_frozen BK438.out 0; have hfz21_1 := blk_frozen BK438.out 1) | ((with_reducible refine gate_callee (f := 52) rfl ?_); refine goesL_ (some 20) rfl rfl Tryd.func52 (by kernel_rfl) rfl #[.slice A1_1 l1_1.length c1_1, .slice A0_1 l0_1.length c0_1] rfl (by (try simp only [List.map_toArray, List.map_cons, List.map_nil]); first | done | rfl | (simp only [List.length_drop, List.length_take]; rfl)) ?_; (with_reducible refine (integer_order.calls k _ _ l1_1 _ _ l0_1 t439 _ ?side1 ?side2 ?side3 ?side4 A16.out).mono ?_); (case side1 => repeat (first | exact (Kd.C_below HR1_1.out HB.out) | (with_reducible refine Kd.C_alloc ?_ _) | (with_reducible refine Kd.C_drewN ?_ _) | (with_reducible refine Kd.C_drew ?_))); (case side2 => exact HC1_1.out); (case side3 => repeat (first | exact (Kd.C_below HR0_1.out HB.out) | (with_reducible refine Kd.C_alloc ?_ _) | (with_reducible refine Kd.C_drewN ?_ _) | (with_reducible refine Kd.C_drew ?_))); (case side4 => exact HC0_1.out); rintro e w' ⟨rfl, ⟨nd, rfl⟩⟩; refine ⟨_, rfl, ?_⟩))
      go_ret
      exact ⟨by first | rfl | (simp [errW_none, errW_some] <;> rfl) | (simp [*, errW_none, errW_some] <;> rfl), by repeat (first | (with_reducible first | exact HB.out | apply below_alloc | apply pw_below_drewN | apply below_drew1 | refine below_set ?_ GE437.out | refine below_set ?_ GE438.out) | exact HB.out)⟩
    · replace c15 := Bool.eq_false_iff.mpr c15
      subst c15
      have H1 : ((integer_order.f k l0_1 l1_1).bind fun t440 => (some t440)) = some r := by rw [if_neg (show ¬ (false = true) by decide)] at H; exact H
      clear H
      have H := H1
      clear H1
      replace H := Option.bind_eq_some_iff.mp H
      obtain ⟨t440, A220, H⟩ := H
      replace H : (some t440) = some r := H
      have A22 := Aside0.mk A220
      clear A220
      obtain rfl := Option.some.inj H
      go_enter Tryd.func20, Tryd.ntmps20
      go_wp2_with (first | ((with_reducible refine gate_dst (N := 2) rfl ?_); refine box_event ?hg (N := 2) ?hd (cs := #[.bool false, .slice A0_1 l0_1.length c0_1]) (t := 25) ?hr ?_; (case hd => rfl); (case hg => rfl); (case hr => first | (go_simp; done) | (go_simp; rfl)); intro gb437 hg w23 hbox hb; have n0_ := Aside0.mk (below_step (by repeat (first | (with_reducible first | exact HB.out | apply below_alloc | apply pw_below_drewN | apply below_drew1) | exact HB.out)) hb); have n1_ := Aside0.mk (hbox); have n2_ := Aside0.mk ((by rw [hg]; exact (below_size (by repeat (first | (with_reducible first | exact HB.out | apply below_alloc | apply pw_below_drewN | apply below_drew1) | exact HB.out))) : w.heap.size ≤ gb437)); have n3_ := Aside0.mk ((by rw [hg]; exact (below_size (by repeat (first | (with_reducible first | exact HB.out | apply below_alloc | apply pw_below_drewN | apply below_drew1) | exact HB.out))) : w.heap.size ≤ gb437)); clear HB; have HB := n0_; have BK437 := n1_; have GW437 := n2_; have GE437 := n3_; clear n0_ n1_ n2_ n3_; clear hb hbox hg) | ((with_reducible refine gate_dst (N := 3) rfl ?_); refine box_event ?hg (N := 3) ?hd (cs := #[.bool a1_0, .slice A1_1 l1_1.length c1_1]) (t := 25) ?hr ?_; (case hd => rfl); (case hg => rfl); (case hr => first | (go_simp; done) | (go_simp; rfl)); intro gb438 hg w24 hbox hb; have n0_ := Aside0.mk (blk_below (g := gb437) (o := .cells #[.bool false, .slice A0_1 l0_1.length c0_1] 25 (0, 0)) (by (with_reducible repeat (first | refine blk_drewN ?_ _ | refine blk_drew ?_ | refine blk_alloc ?_ _)); exact BK437.out) hb); have n1_ := Aside0.mk (below_step (by repeat (first | (with_reducible first | exact HB.out | apply below_alloc | apply pw_below_drewN | apply below_drew1 | refine below_set ?_ GE437.out) | exact HB.out)) hb); have n2_ := Aside0.mk (hbox); have n3_ := Aside0.mk ((by rw [hg]; exact (below_size (by repeat (first | (with_reducible first | exact HB.out | apply below_alloc | apply pw_below_drewN | apply below_drew1 | refine below_set ?_ GE437.out) | exact HB.out))) : w.heap.size ≤ gb438)); have n4_ := Aside0.mk ((by rw [hg]; exact (below_size (by repeat (first | (with_reducible first | exact HB.out | apply below_alloc | apply pw_below_drewN | apply below_drew1 | refine below_set ?_ GE437.out) | exact HB.out))) : w.heap.size ≤ gb438)); have n5_ := Aside0.mk ((by rw [hg]; exact Nat.ne_of_lt (blk_lt (g := gb437) (o := .cells #[.bool false, .slice A0_1 l0_1.length c0_1] 25 (0, 0)) (by (with_reducible repeat (first | refine blk_drewN ?_ _ | refine blk_drew ?_ | refine blk_alloc ?_ _)); exact BK437.out)) : gb437 ≠ gb438)); have n6_ := Aside0.mk ((by rw [hg]; exact Nat.ne_of_gt (blk_lt (g := gb437) (o := .cells #[.bool false, .slice A0_1 l0_1.length c0_1] 25 (0, 0)) (by (with_reducible repeat (first | refine blk_drewN ?_ _ | refine blk_drew ?_ | refine blk_alloc ?_ _)); exact BK437.out)) : gb438 ≠ gb437)); clear BK437; clear HB; have BK437 := n0_; have HB := n1_; have BK438 := n2_; have GW438 := n3_; have GE438 := n4_; have NB437_438 := n5_; have NB438_437 := n6_; clear n0_ n1_ n2_ n3_ n4_ n5_ n6_; clear hb hbox hg; have hnb25 := NB437_438.out; have hnc25 := NB438_437.out; have hcz26_0 : w24.cell? ⟨gb437, 0, none⟩ = some (.bool false) := (blk_cell BK437.out 0).trans rfl; have hcz26_1 : w24.cell? ⟨gb437, 1, none⟩ = some (.slice A0_1 l0_1.length c0_1) := (blk_cell BK437.out 1).trans rfl; have hfz26_0 := blk_frozen BK437.out 0; have hfz26_1 := blk_frozen BK437.out 1; have hcz27_0 : w24.cell? ⟨gb438, 0, none⟩ = some (.bool a1_0) := (blk_cell BK438.out 0).trans rfl; have hcz27_1 : w24.cell? ⟨gb438, 1, none⟩ = some (.slice A1_1 l1_1.length c1_1) := (blk_cell BK438.out 1).trans rfl; have hfz27_0 := blk_frozen BK438.out 0; have hfz27_1 := blk_frozen BK438.out 1) | ((with_reducible refine gate_callee (f := 52) rfl ?_); refine goesL_ (some 25) rfl rfl Tryd.func52 (by kernel_rfl) rfl #[.slice A0_1 l0_1.length c0_1, .slice A1_1 l1_1.length c1_1] rfl (by (try simp only [List.map_toArray, List.map_cons, List.map_nil]); first | done | rfl | (simp only [List.length_drop, List.length_take]; rfl)) ?_; (with_reducible refine (integer_order.calls k _ _ l0_1 _ _ l1_1 t440 _ ?side1 ?side2 ?side3 ?side4 A22.out).mono ?_); (case side1 => repeat (first | exact (Kd.C_below HR0_1.out HB.out) | (with_reducible refine Kd.C_alloc ?_ _) | (with_reducible refine Kd.C_drewN ?_ _) | (with_reducible refine Kd.C_drew ?_))); (case side2 => exact HC0_1.out); (case side3 => repeat (first | exact (Kd.C_below HR1_1.out HB.out) | (with_reducible refine Kd.C_alloc ?_ _) | (with_reducible refine Kd.C_drewN ?_ _) | (with_reducible refine Kd.C_drew ?_))); (case side4 => exact HC1_1.out); rintro e w' ⟨rfl, ⟨nd, rfl⟩⟩; refine ⟨_, rfl, ?_⟩))
      go_ret
      exact ⟨by first | rfl | (simp [errW_none, errW_some] <;> rfl) | (simp [*, errW_none, errW_some] <;> rfl), by repeat (first | (with_reducible first | exact HB.out | apply below_alloc | apply pw_below_drewN | apply below_drew1 | refine below_set ?_ GE437.out | refine below_set ?_ GE438.out) | exact HB.out)⟩
end Go.Proofs.YtiikfhdmclmjmaaDoor.P
namespace Go.Proofs.YtiikfhdmclmjmaaDoor.P
open Go.RowKit Go.Proofs.YtiikfhdmclmjmaaDoorW.PrintWords Go.Proofs.YtiikfhdmclmjmaaDoorW.PrintLast
set_option linter.unusedVariables false
set_option linter.unusedSimpArgs false
def dowellaw01_IntegerFrom.f (k : Nat) (a0 : Int) : Option (Bool) := (dowellaw01_known.f k).bind fun t441 => (if t441 = true then ((integer_From.f k a0).bind fun bt442 => ((integer_Int_Int.f k bt442.1 bt442.2).bind fun bt447 => ((integer_Int_Text.f k bt442.1 bt442.2).bind fun t450 => ((dowelref01_From.f k a0).bind fun t451 => (if t450.toList = t451.toList then (if bt447.1 = a0 then (if bt447.2 = true then ((integer_Int_Text.f k false ([] : List Int)).bind fun t452 => (if t452.toList = ([48] : List UInt8) then ((integer_Int_Sign.f false ([] : List Int)).bind fun t453 => (if t453 = 0 then ((integer_From.f k 0).bind fun bt454 => ((integer_Compare.f k false ([] : List Int) bt454.1 bt454.2).bind fun t458 => (some (t458 == 0)))) else (none))) else (none))) else (none)) else (none)) else (none)))))) else (none))
theorem dowellaw01_IntegerFrom.mono : ∀ a0 k, LeO (dowellaw01_IntegerFrom.f k a0) (dowellaw01_IntegerFrom.f (k + 1) a0) := by
  intro a0 k
  unfold dowellaw01_IntegerFrom.f
  repeat' first
      | (with_reducible exact dowellaw01_known.mono _)
      | (with_reducible exact dowelref01_From.mono _ _)
      | (with_reducible exact integer_Compare.mono _ _ _ _ _)
      | (with_reducible exact integer_From.mono _ _)
      | (with_reducible exact integer_Int_Int.mono _ _ _)
      | (with_reducible exact integer_Int_Text.mono _ _ _)
      | (with_reducible exact LeO.refl _)
      | (with_reducible exact LeO.none _)
      | (with_reducible refine LeO.ite ?_ ?_)
      | (with_reducible refine LeO.bind ?_ (fun _ => ?_))
      | exact dowellaw01_known.mono _
      | exact dowelref01_From.mono _ _
      | exact integer_Compare.mono _ _ _ _ _
      | exact integer_From.mono _ _
      | exact integer_Int_Int.mono _ _ _
      | exact integer_Int_Text.mono _ _ _
      | exact LeO.none _
      | refine LeO.ite ?_ ?_
      | refine LeO.bind ?_ (fun _ => ?_)
def dowellaw01_IntegerFrom.T6 : Bool × List (List Nat × List Nat) := (true, [([], []), ([0], [0]), ([], []), ([2, 1], [2]), ([1, 3], [1, 3]), ([4, 3], [4]), ([5], [5]), ([5], [5]), ([6, 7, 5], [5, 6, 7]), ([5, 8], [5, 8]), ([9, 5], [9]), ([10], [10]), ([10, 11], [10, 11]), ([12, 10], [12]), ([13], [13]), ([14, 13, 13], [13, 14]), ([15, 13], [13, 15]), ([13, 16], [13, 16]), ([17, 15], [17]), ([18], [18]), ([19, 18, 18], [18, 19]), ([20, 18], [18, 20]), ([18, 21], [18, 21]), ([22, 20], [22]), ([23], [23]), ([23, 23], [23]), ([24, 25, 25, 23], [23, 24, 25]), ([26, 23], [23, 26]), ([23, 27], [23, 27]), ([28, 26, 0, 1, 2, 3, 4, 5, 6, 7, 8, 9, 10, 11, 12, 13, 14, 15, 16, 17, 18, 19, 20, 21, 22, 23, 24, 25, 26, 27, 28], [28])])
def dowellaw01_IntegerFrom.B6 : List Nat := [0, 1, 0, 7, 15, 31, 63, 63, 255, 511, 1023, 2047, 4095, 8191, 16383, 32767, 65535, 131071, 262143, 524287, 1048575, 2097151, 4194303, 8388607, 16777215, 16777215, 67108863, 134217727, 268435455, 536870911]
theorem dowellaw01_IntegerFrom.tab6 : rtab .any (opsOf Tryd.f3 6) = dowellaw01_IntegerFrom.T6 := by kernel_rfl
theorem dowellaw01_IntegerFrom.bits6 : waitsOk dowellaw01_IntegerFrom.T6.2 dowellaw01_IntegerFrom.B6 = true := by kernel_rfl
set_option maxHeartbeats 8000000 in
set_option maxRecDepth 100000 in
theorem dowellaw01_IntegerFrom.calls (k : Nat) (a0 : Int) (r : Bool) (w : World) (hG : G w) (h : dowellaw01_IntegerFrom.f k a0 = some r) :
    Calls Tryd.prog 3 #[.int .i64 a0] w fun e w' => e = .returned (.bool r) ∧ Below w.heap.size w w' := by
  have hu25 := Tryd.underlying25
  have HB := Aside0.mk (Below.refl w.heap.size w)
  have HG := Aside0.mk hG
  clear hG
  have H : ((dowellaw01_known.f k).bind fun t441 => (if t441 = true then ((integer_From.f k a0).bind fun bt442 => ((integer_Int_Int.f k bt442.1 bt442.2).bind fun bt447 => ((integer_Int_Text.f k bt442.1 bt442.2).bind fun t450 => ((dowelref01_From.f k a0).bind fun t451 => (if t450.toList = t451.toList then (if bt447.1 = a0 then (if bt447.2 = true then ((integer_Int_Text.f k false ([] : List Int)).bind fun t452 => (if t452.toList = ([48] : List UInt8) then ((integer_Int_Sign.f false ([] : List Int)).bind fun t453 => (if t453 = 0 then ((integer_From.f k 0).bind fun bt454 => ((integer_Compare.f k false ([] : List Int) bt454.1 bt454.2).bind fun t458 => (some (t458 == 0)))) else (none))) else (none))) else (none)) else (none)) else (none)))))) else (none))) = some r := h
  clear h
  replace H := Option.bind_eq_some_iff.mp H
  obtain ⟨t441, A20, H⟩ := H
  replace H : (if t441 = true then ((integer_From.f k a0).bind fun bt442 => ((integer_Int_Int.f k bt442.1 bt442.2).bind fun bt447 => ((integer_Int_Text.f k bt442.1 bt442.2).bind fun t450 => ((dowelref01_From.f k a0).bind fun t451 => (if t450.toList = t451.toList then (if bt447.1 = a0 then (if bt447.2 = true then ((integer_Int_Text.f k false ([] : List Int)).bind fun t452 => (if t452.toList = ([48] : List UInt8) then ((integer_Int_Sign.f false ([] : List Int)).bind fun t453 => (if t453 = 0 then ((integer_From.f k 0).bind fun bt454 => ((integer_Compare.f k false ([] : List Int) bt454.1 bt454.2).bind fun t458 => (some (t458 == 0)))) else (none))) else (none))) else (none)) else (none)) else (none)))))) else (none)) = some r := H
  have A2 := Aside0.mk A20
  clear A20
  by_cases c3 : t441 = true
  · subst c3
    have H1 : ((integer_From.f k a0).bind fun bt442 => ((integer_Int_Int.f k bt442.1 bt442.2).bind fun bt447 => ((integer_Int_Text.f k bt442.1 bt442.2).bind fun t450 => ((dowelref01_From.f k a0).bind fun t451 => (if t450.toList = t451.toList then (if bt447.1 = a0 then (if bt447.2 = true then ((integer_Int_Text.f k false ([] : List Int)).bind fun t452 => (if t452.toList = ([48] : List UInt8) then ((integer_Int_Sign.f false ([] : List Int)).bind fun t453 => (if t453 = 0 then ((integer_From.f k 0).bind fun bt454 => ((integer_Compare.f k false ([] : List Int) bt454.1 bt454.2).bind fun t458 => (some (t458 == 0)))) else (none))) else (none))) else (none)) else (none)) else (none)))))) = some r := by rw [if_pos rfl] at H; exact H
    clear H
    have H := H1
    clear H1
    replace H := Option.bind_eq_some_iff.mp H
    obtain ⟨⟨t442, t443⟩, A40, H⟩ := H
    replace H : ((integer_Int_Int.f k t442 t443).bind fun bt447 => ((integer_Int_Text.f k t442 t443).bind fun t450 => ((dowelref01_From.f k a0).bind fun t451 => (if t450.toList = t451.toList then (if bt447.1 = a0 then (if bt447.2 = true then ((integer_Int_Text.f k false ([] : List Int)).bind fun t452 => (if t452.toList = ([48] : List UInt8) then ((integer_Int_Sign.f false ([] : List Int)).bind fun t453 => (if t453 = 0 then ((integer_From.f k 0).bind fun bt454 => ((integer_Compare.f k false ([] : List Int) bt454.1 bt454.2).bind fun t458 => (some (t458 == 0)))) else (none))) else (none))) else (none)) else (none)) else (none))))) = some r := H
    have A4 := Aside0.mk A40
    clear A40
    replace H := Option.bind_eq_some_iff.mp H
    obtain ⟨⟨t447, t448⟩, A50, H⟩ := H
    replace H : ((integer_Int_Text.f k t442 t443).bind fun t450 => ((dowelref01_From.f k a0).bind fun t451 => (if t450.toList = t451.toList then (if t447 = a0 then (if t448 = true then ((integer_Int_Text.f k false ([] : List Int)).bind fun t452 => (if t452.toList = ([48] : List UInt8) then ((integer_Int_Sign.f false ([] : List Int)).bind fun t453 => (if t453 = 0 then ((integer_From.f k 0).bind fun bt454 => ((integer_Compare.f k false ([] : List Int) bt454.1 bt454.2).bind fun t458 => (some (t458 == 0)))) else (none))) else (none))) else (none)) else (none)) else (none)))) = some r := H
    have A5 := Aside0.mk A50
    clear A50
    replace H := Option.bind_eq_some_iff.mp H
    obtain ⟨t450, A60, H⟩ := H
    replace H : ((dowelref01_From.f k a0).bind fun t451 => (if t450.toList = t451.toList then (if t447 = a0 then (if t448 = true then ((integer_Int_Text.f k false ([] : List Int)).bind fun t452 => (if t452.toList = ([48] : List UInt8) then ((integer_Int_Sign.f false ([] : List Int)).bind fun t453 => (if t453 = 0 then ((integer_From.f k 0).bind fun bt454 => ((integer_Compare.f k false ([] : List Int) bt454.1 bt454.2).bind fun t458 => (some (t458 == 0)))) else (none))) else (none))) else (none)) else (none)) else (none))) = some r := H
    have A6 := Aside0.mk A60
    clear A60
    replace H := Option.bind_eq_some_iff.mp H
    obtain ⟨t451, A70, H⟩ := H
    replace H : (if t450.toList = t451.toList then (if t447 = a0 then (if t448 = true then ((integer_Int_Text.f k false ([] : List Int)).bind fun t452 => (if t452.toList = ([48] : List UInt8) then ((integer_Int_Sign.f false ([] : List Int)).bind fun t453 => (if t453 = 0 then ((integer_From.f k 0).bind fun bt454 => ((integer_Compare.f k false ([] : List Int) bt454.1 bt454.2).bind fun t458 => (some (t458 == 0)))) else (none))) else (none))) else (none)) else (none)) else (none)) = some r := H
    have A7 := Aside0.mk A70
    clear A70
    by_cases c8 : t450.toList = t451.toList
    · rw [if_pos c8] at H
      have c8b0 : (t450.toList == t451.toList) = true := beq_iff_eq.mpr c8
      have c8b1 : (t450.toList != t451.toList) = false := bne_eq_false_iff_eq.mpr c8
      clear c8
      by_cases c9 : t447 = a0
      · rw [if_pos c9] at H
        have c9b0 : (t447 == a0) = true := beq_iff_eq.mpr c9
        have c9b1 : (t447 != a0) = false := bne_eq_false_iff_eq.mpr c9
        clear c9
        by_cases c10 : t448 = true
        · subst c10
          have H1 : ((integer_Int_Text.f k false ([] : List Int)).bind fun t452 => (if t452.toList = ([48] : List UInt8) then ((integer_Int_Sign.f false ([] : List Int)).bind fun t453 => (if t453 = 0 then ((integer_From.f k 0).bind fun bt454 => ((integer_Compare.f k false ([] : List Int) bt454.1 bt454.2).bind fun t458 => (some (t458 == 0)))) else (none))) else (none))) = some r := by rw [if_pos rfl] at H; exact H
          clear H
          have H := H1
          clear H1
          replace H := Option.bind_eq_some_iff.mp H
          obtain ⟨t452, A110, H⟩ := H
          replace H : (if t452.toList = ([48] : List UInt8) then ((integer_Int_Sign.f false ([] : List Int)).bind fun t453 => (if t453 = 0 then ((integer_From.f k 0).bind fun bt454 => ((integer_Compare.f k false ([] : List Int) bt454.1 bt454.2).bind fun t458 => (some (t458 == 0)))) else (none))) else (none)) = some r := H
          have A11 := Aside0.mk A110
          clear A110
          by_cases c12 : t452.toList = ([48] : List UInt8)
          · rw [if_pos c12] at H
            have c12b0 : (t452.toList == ([48] : List UInt8)) = true := beq_iff_eq.mpr c12
            have c12b1 : (t452.toList != ([48] : List UInt8)) = false := bne_eq_false_iff_eq.mpr c12
            clear c12
            replace H := Option.bind_eq_some_iff.mp H
            obtain ⟨t453, A130, H⟩ := H
            replace H : (if t453 = 0 then ((integer_From.f k 0).bind fun bt454 => ((integer_Compare.f k false ([] : List Int) bt454.1 bt454.2).bind fun t458 => (some (t458 == 0)))) else (none)) = some r := H
            have A13 := Aside0.mk A130
            clear A130
            by_cases c14 : t453 = 0
            · rw [if_pos c14] at H
              have c14b0 : (t453 == 0) = true := beq_iff_eq.mpr c14
              have c14b1 : (t453 != 0) = false := bne_eq_false_iff_eq.mpr c14
              clear c14
              replace H := Option.bind_eq_some_iff.mp H
              obtain ⟨⟨t454, t455⟩, A150, H⟩ := H
              replace H : ((integer_Compare.f k false ([] : List Int) t454 t455).bind fun t458 => (some (t458 == 0))) = some r := H
              have A15 := Aside0.mk A150
              clear A150
              replace H := Option.bind_eq_some_iff.mp H
              obtain ⟨t458, A160, H⟩ := H
              replace H : (some (t458 == 0)) = some r := H
              have A16 := Aside0.mk A160
              clear A160
              obtain rfl := Option.some.inj H
              go_enter Tryd.func3, Tryd.ntmps3
              try go_wp2_with (first | ((with_reducible refine gate_callee (f := 14) rfl ?_); refine goesL_ (some 7) rfl rfl Tryd.func14 (by kernel_rfl) rfl #[] rfl (by (try simp only [List.map_toArray, List.map_cons, List.map_nil]); first | done | rfl | (simp only [List.length_drop, List.length_take]; rfl)) ?_; (with_reducible refine (dowellaw01_known.calls k  true _ ?side1 A2.out).mono ?_); (case side1 => exact G_below HG.out (by repeat (first | (with_reducible first | exact HB.out | apply below_alloc | apply pw_below_drewN | apply below_drew1) | exact HB.out))); rintro e w17 ⟨rfl, hb⟩; refine ⟨_, rfl, ?_⟩; have n0_ := Aside0.mk (below_step (by repeat (first | (with_reducible first | exact HB.out | apply below_alloc | apply pw_below_drewN | apply below_drew1) | exact HB.out)) hb); clear HB; have HB := n0_; clear n0_; (try clear hb); (try clear hb2); (try clear hk); (try clear hi)) | ((with_reducible refine gate_callee (f := 15) rfl ?_); refine goesL_ (some 10) rfl rfl Tryd.func15 (by kernel_rfl) rfl #[.int .i64 a0] rfl (by (try simp only [List.map_toArray, List.map_cons, List.map_nil]); first | done | rfl | (simp only [List.length_drop, List.length_take]; rfl)) ?_; (with_reducible refine (integer_From.calls k a0 t442 t443 _ A4.out).mono ?_); rintro e w18 ⟨v444, rfl, ho0, hb⟩; refine ⟨_, rfl, ?_⟩; have n0_ := Aside0.mk (Kd.V_lower (Kd.V_mono (ok' := fun k_ => True) ho0 (fun k_ hk_ => trivial)) (below_size (by repeat (first | (with_reducible first | exact HB.out | apply below_alloc | apply pw_below_drewN | apply below_drew1) | exact HB.out)))); have n1_ := Aside0.mk (below_step (by repeat (first | (with_reducible first | exact HB.out | apply below_alloc | apply pw_below_drewN | apply below_drew1) | exact HB.out)) hb); clear HB; have HO445 := n0_; have HB := n1_; clear n0_ n1_; (try clear hb); (try clear hb2); (try clear hk); (try clear hi); (try clear ho0)) | ((with_reducible refine gate_dst (N := 3) rfl ?_); refine box_event ?hg (N := 3) ?hd (cs := #[.bool false, .slice none 0 0]) (t := 25) ?hr ?_; (case hd => rfl); (case hg => rfl); (case hr => first | (go_simp; done) | (go_simp; rfl)); intro gb446 hg w19 hbox hb; have n0_ := Aside0.mk (Kd.V_below (Kd.V_elderB (by (with_reducible repeat (first | apply Kd.V_alloc | apply Kd.V_drewN | apply Kd.V_drew)); exact HO445.out) gb446 (Nat.le_of_eq hg.symm)) hb); have n1_ := Aside0.mk (below_step (by repeat (first | (with_reducible first | exact HB.out | apply below_alloc | apply pw_below_drewN | apply below_drew1) | exact HB.out)) hb); have n2_ := Aside0.mk (hbox); have n3_ := Aside0.mk ((by rw [hg]; exact (below_size (by repeat (first | (with_reducible first | exact HB.out | apply below_alloc | apply pw_below_drewN | apply below_drew1) | exact HB.out))) : w.heap.size ≤ gb446)); have n4_ := Aside0.mk ((by rw [hg]; exact (below_size (by repeat (first | (with_reducible first | exact HB.out | apply below_alloc | apply pw_below_drewN | apply below_drew1) | exact HB.out))) : w.heap.size ≤ gb446)); clear HO445; clear HB; have HO445 := n0_; have HB := n1_; have BK446 := n2_; have GW446 := n3_; have GE446 := n4_; clear n0_ n1_ n2_ n3_ n4_; clear hb hbox hg; have hcz20_0 : w19.cell? ⟨gb446, 0, none⟩ = some (.bool false) := (blk_cell BK446.out 0).trans rfl; have hcz20_1 : w19.cell? ⟨gb446, 1, none⟩ = some (.slice none 0 0) := (blk_cell BK446.out 1).trans rfl; have hfz20_0 := blk_frozen BK446.out 0; have hfz20_1 := blk_frozen BK446.out 1; obtain ⟨Ao21, co21, eo21⟩ := Kd.V_slice HO445.out; subst eo21) | ((with_reducible refine gate_callee (f := 16) rfl ?_); refine goesL_ (some 13) rfl rfl Tryd.func16 (by kernel_rfl) rfl #[.agg #[.bool t442, .slice Ao21 t443.length co21]] rfl (by (try simp only [List.map_toArray, List.map_cons, List.map_nil]); first | done | rfl | (simp only [List.length_drop, List.length_take]; rfl)) ?_; (with_reducible refine (integer_Int_Int.calls k t442 _ _ t443 t447 true _ ?side1 ?side2 A5.out).mono ?_); (case side1 => refine (Kd.V_reads' (e := 60) (base := w.heap.size) (ok := fun k_ => (True ∧ k_ ≠ gb446)) (n := t443.length) (c := co21) ?_).2.2; exact (by (with_reducible repeat (first | apply Kd.V_alloc | apply Kd.V_drewN | apply Kd.V_drew)); exact (Kd.V_mono (Kd.V_far (p := ⟨gb446, 1, none⟩) (Kd.V_far (p := ⟨gb446, 0, none⟩) (Kd.V_mono HO445.out (fun k_ hk => (⟨hk, hk.2⟩ : _ ∧ k_ ≠ gb446))) (fun _ hk => hk.2) (.bool t442)) (fun _ hk => hk.2) (.slice Ao21 t443.length co21)) (fun _ h_ => h_.1)))); (case side2 => exact (Kd.V_reads' HO445.out).2.1); rintro e w22 ⟨rfl, hb⟩; refine ⟨_, rfl, ?_⟩; have n0_ := Aside0.mk (Kd.V_below (by (with_reducible repeat (first | apply Kd.V_alloc | apply Kd.V_drewN | apply Kd.V_drew)); exact (Kd.V_mono (Kd.V_far (p := ⟨gb446, 1, none⟩) (Kd.V_far (p := ⟨gb446, 0, none⟩) (Kd.V_mono HO445.out (fun k_ hk => (⟨hk, hk.2⟩ : _ ∧ k_ ≠ gb446))) (fun _ hk => hk.2) (.bool t442)) (fun _ hk => hk.2) (.slice Ao21 t443.length co21)) (fun _ h_ => h_.1))) hb); have n1_ := Aside0.mk (blk_below (g := gb446) (o := .cells #[.bool t442, .slice Ao21 t443.length co21] 25 (0, 0)) (by (with_reducible repeat (first | refine blk_drewN ?_ _ | refine blk_drew ?_ | refine blk_alloc ?_ _)); refine blk_put (cs := #[.bool t442, .slice none 0 0]) ?_ 1 _ rfl; (with_reducible repeat (first | refine blk_drewN ?_ _ | refine blk_drew ?_ | refine blk_alloc ?_ _)); refine blk_put (cs := #[.bool false, .slice none 0 0]) ?_ 0 _ rfl; (with_reducible repeat (first | refine blk_drewN ?_ _ | refine blk_drew ?_ | refine blk_alloc ?_ _)); exact BK446.out) hb); have n2_ := Aside0.mk (below_step (by repeat (first | (with_reducible first | exact HB.out | apply below_alloc | apply pw_below_drewN | apply below_drew1 | refine below_set ?_ GE446.out) | exact HB.out)) hb); clear HO445; clear BK446; clear HB; have HO445 := n0_; have BK446 := n1_; have HB := n2_; clear n0_ n1_ n2_; (try clear hb); (try clear hb2); (try clear hk); (try clear hi)) | ((with_reducible refine gate_dst (N := 6) rfl ?_); refine box_event ?hg (N := 6) ?hd (cs := #[.bool false, .slice none 0 0]) (t := 25) ?hr ?_; (case hd => rfl); (case hg => rfl); (case hr => first | (go_simp; done) | (go_simp; rfl)); intro gb449 hg w23 hbox hb; have n0_ := Aside0.mk (Kd.V_below (Kd.V_elderB (by (with_reducible repeat (first | apply Kd.V_alloc | apply Kd.V_drewN | apply Kd.V_drew)); exact HO445.out) gb449 (Nat.le_of_eq hg.symm)) hb); have n1_ := Aside0.mk (blk_below (g := gb446) (o := .cells #[.bool t442, .slice Ao21 t443.length co21] 25 (0, 0)) (by (with_reducible repeat (first | refine blk_drewN ?_ _ | refine blk_drew ?_ | refine blk_alloc ?_ _)); exact BK446.out) hb); have n2_ := Aside0.mk (below_step (by repeat (first | (with_reducible first | exact HB.out | apply below_alloc | apply pw_below_drewN | apply below_drew1 | refine below_set ?_ GE446.out) | exact HB.out)) hb); have n3_ := Aside0.mk (hbox); have n4_ := Aside0.mk ((by rw [hg]; exact (below_size (by repeat (first | (with_reducible first | exact HB.out | apply below_alloc | apply pw_below_drewN | apply below_drew1 | refine below_set ?_ GE446.out) | exact HB.out))) : w.heap.size ≤ gb449)); have n5_ := Aside0.mk ((by rw [hg]; exact (below_size (by repeat (first | (with_reducible first | exact HB.out | apply below_alloc | apply pw_below_drewN | apply below_drew1 | refine below_set ?_ GE446.out) | exact HB.out))) : w.heap.size ≤ gb449)); have n6_ := Aside0.mk ((by rw [hg]; exact Nat.ne_of_lt (blk_lt (g := gb446) (o := .cells #[.bool t442, .slice Ao21 t443.length co21] 25 (0, 0)) (by (with_reducible repeat (first | refine blk_drewN ?_ _ | refine blk_drew ?_ | refine blk_alloc ?_ _)); exact BK446.out)) : gb446 ≠ gb449)); have n7_ := Aside0.mk ((by rw [hg]; exact Nat.ne_of_gt (blk_lt (g := gb446) (o := .cells #[.bool t442, .slice Ao21 t443.length co21] 25 (0, 0)) (by (with_reducible repeat (first | refine blk_drewN ?_ _ | refine blk_drew ?_ | refine blk_alloc ?_ _)); exact BK446.out)) : gb449 ≠ gb446)); clear HO445; clear BK446; clear HB; have HO445 := n0_; have BK446 := n1_; have HB := n2_; have BK449 := n3_; have GW449 := n4_; have GE449 := n5_; have NB446_449 := n6_; have NB449_446 := n7_; clear n0_ n1_ n2_ n3_ n4_ n5_ n6_ n7_; clear hb hbox hg))
              have n0_ := Aside0.mk (Kd.V_drew HO445.out)
              have n1_ := Aside0.mk (blk_drew BK446.out)
              have n2_ := Aside0.mk (blk_drew BK449.out)
              have n3_ := Aside0.mk (below_drew1 HB.out)
              clear HO445
              clear BK446
              clear BK449
              clear HB
              have HO445 := n0_
              have BK446 := n1_
              have BK449 := n2_
              have HB := n3_
              clear n0_ n1_ n2_ n3_
              refine start_ (n := 30) (S := fun w' => w'.cell? ⟨gb446, 0, none⟩ = some (.bool t442) ∧ w'.cell? ⟨gb446, 1, none⟩ = some (.slice Ao21 t443.length co21) ∧ w'.cell? ⟨gb449, 0, none⟩ = some (.bool false) ∧ w'.cell? ⟨gb449, 1, none⟩ = some (.slice none 0 0)) (ds := []) #[false, false, false, false, false, false, false, false, false, false, false, false, false, false, false, false, false, false, false, false, false, false, false, false, false, false, false, false, false, false] (by kernel_rfl) rfl rfl ⟨(blk_cell BK446.out 0).trans rfl, (blk_cell BK446.out 1).trans rfl, (blk_cell BK449.out 0).trans rfl, (blk_cell BK449.out 1).trans rfl⟩ (fun hHeld => ?_); refine with_tabW dowellaw01_IntegerFrom.tab6 dowellaw01_IntegerFrom.bits6 (fun HT_ HW_ => ?_)
              generalize w23.drew = w24 at HO445 BK446 BK449 HB hHeld ⊢
              refine pure_ (i := 2) (N := some 18) (v := ?_) (a' := ?_) #[false, false, true, false, false, false, false, false, false, false, false, false, false, false, false, false, false, false, false, false, false, false, false, false, false, false, false, false, false, false] rfl rfl (any_of HT_.out (by kernel_rfl)) (fun _ _ _ h => h) (Or.inl ⟨by rfl, ?_⟩) ?_ ?_
              rotate_left
              · intro w'
                go_simp
                with_reducible rfl
              rotate_left
              · simp only [Act.put, List.setIfInBounds_toArray, List.set_cons_zero, List.set_cons_succ, i64_w, i32_w]
                rfl
              refine take_ (i := 0) (N := some 16) (v := ?_) (a' := ?_) #[true, false, true, false, false, false, false, false, false, false, false, false, false, false, false, false, false, false, false, false, false, false, false, false, false, false, false, false, false, false] rfl rfl (take_ofW HT_.out HW_.out (by kernel_rfl)) (fun _ _ _ h => h) (Or.inl ⟨by rfl, ?_⟩) hHeld ?_ ?_
              rotate_left
              · rintro w' ⟨s0, s1, s2, s3⟩
                go_simp
                with_reducible rfl
              rotate_left
              · simp only [Act.put, List.setIfInBounds_toArray, List.set_cons_zero, List.set_cons_succ, i64_w, i32_w]
                rfl
              refine one_ (i := 1) (N := some 17) #[true, true, true, false, false, false, false, false, false, false, false, false, false, false, false, false, false, false, false, false, false, false, false, false, false, false, false, false, false, false] rfl rfl (one_of HT_.out (by kernel_rfl)) (by decide) (fun K hK => ?_)
              refine goes_ Tryd.func17 (by kernel_rfl) rfl #[.agg #[.bool t442, .slice Ao21 t443.length co21]] (by rfl) rfl rfl (by (try simp only [List.map_toArray, List.map_cons, List.map_nil]); first | done | rfl | (simp only [List.length_drop, List.length_take]; rfl)) ?_
              with_reducible refine (integer_Int_Text.calls k t442 (fun k_ => ((True ∧ k_ ≠ gb446) ∧ k_ ≠ gb449)) _ _ t443 t450 _ ?side1 ?side2 A6.out).mono ?_
              (case side1 => exact HO445.out)
              (case side2 => exact G_below HG.out (by repeat (first | (with_reducible first | exact HB.out | apply below_alloc | apply pw_below_drewN | apply below_drew1 | refine below_set ?_ GE446.out | refine below_set ?_ GE449.out) | exact HB.out)))
              rintro e w25 ⟨rfl, hb⟩
              refine ⟨_, rfl, ?_⟩
              have n0_ := Aside0.mk (Kd.V_below (by (with_reducible repeat (first | apply Kd.V_alloc | apply Kd.V_drewN | apply Kd.V_drew)); exact HO445.out) hb)
              have n1_ := Aside0.mk (blk_below (g := gb446) (o := .cells #[.bool t442, .slice Ao21 t443.length co21] 25 (0, 0)) (by (with_reducible repeat (first | refine blk_drewN ?_ _ | refine blk_drew ?_ | refine blk_alloc ?_ _)); exact BK446.out) hb)
              have n2_ := Aside0.mk (blk_below (g := gb449) (o := .cells #[.bool false, .slice none 0 0] 25 (0, 0)) (by (with_reducible repeat (first | refine blk_drewN ?_ _ | refine blk_drew ?_ | refine blk_alloc ?_ _)); exact BK449.out) hb)
              have n3_ := Aside0.mk (below_step (by repeat (first | (with_reducible first | exact HB.out | apply below_alloc | apply pw_below_drewN | apply below_drew1 | refine below_set ?_ GE446.out | refine below_set ?_ GE449.out) | exact HB.out)) hb)
              clear HO445
              clear BK446
              clear BK449
              clear HB
              have HO445 := n0_
              have BK446 := n1_
              have BK449 := n2_
              have HB := n3_
              clear n0_ n1_ n2_ n3_
              (try clear hb)
              (try clear hb2)
              (try clear hk)
              (try clear hi)
              refine hK.out _ _ ⟨(blk_cell BK446.out 0).trans rfl, (blk_cell BK446.out 1).trans rfl, (blk_cell BK449.out 0).trans rfl, (blk_cell BK449.out 1).trans rfl⟩ (fun hHeld => ?_)
              clear hK K
              refine norm_ (a' := ?_) ?_ ?_
              rotate_left
              · show Act.put _ (some 17) _ = _
                simp only [Act.put, List.setIfInBounds_toArray, List.set_cons_zero, List.set_cons_succ, i64_w, i32_w]
                rfl
              refine one_ (i := 3) (N := some 19) #[true, true, true, true, false, false, false, false, false, false, false, false, false, false, false, false, false, false, false, false, false, false, false, false, false, false, false, false, false, false] rfl rfl (one_of HT_.out (by kernel_rfl)) (by decide) (fun K hK => ?_)
              refine goes_ Tryd.func18 (by kernel_rfl) rfl #[.int .i64 a0] (by rfl) rfl rfl (by (try simp only [List.map_toArray, List.map_cons, List.map_nil]); first | done | rfl | (simp only [List.length_drop, List.length_take]; rfl)) ?_
              with_reducible refine (dowelref01_From.calls k a0 t451 _ A7.out).mono ?_
              rintro e w26 ⟨rfl, hb⟩
              refine ⟨_, rfl, ?_⟩
              have n0_ := Aside0.mk (Kd.V_below (by (with_reducible repeat (first | apply Kd.V_alloc | apply Kd.V_drewN | apply Kd.V_drew)); exact HO445.out) hb)
              have n1_ := Aside0.mk (blk_below (g := gb446) (o := .cells #[.bool t442, .slice Ao21 t443.length co21] 25 (0, 0)) (by (with_reducible repeat (first | refine blk_drewN ?_ _ | refine blk_drew ?_ | refine blk_alloc ?_ _)); exact BK446.out) hb)
              have n2_ := Aside0.mk (blk_below (g := gb449) (o := .cells #[.bool false, .slice none 0 0] 25 (0, 0)) (by (with_reducible repeat (first | refine blk_drewN ?_ _ | refine blk_drew ?_ | refine blk_alloc ?_ _)); exact BK449.out) hb)
              have n3_ := Aside0.mk (below_step (by repeat (first | (with_reducible first | exact HB.out | apply below_alloc | apply pw_below_drewN | apply below_drew1 | refine below_set ?_ GE446.out | refine below_set ?_ GE449.out) | exact HB.out)) hb)
              clear HO445
              clear BK446
              clear BK449
              clear HB
              have HO445 := n0_
              have BK446 := n1_
              have BK449 := n2_
              have HB := n3_
              clear n0_ n1_ n2_ n3_
              (try clear hb)
              (try clear hb2)
              (try clear hk)
              (try clear hi)
              refine hK.out _ _ ⟨(blk_cell BK446.out 0).trans rfl, (blk_cell BK446.out 1).trans rfl, (blk_cell BK449.out 0).trans rfl, (blk_cell BK449.out 1).trans rfl⟩ (fun hHeld => ?_)
              clear hK K
              refine norm_ (a' := ?_) ?_ ?_
              rotate_left
              · show Act.put _ (some 19) _ = _
                simp only [Act.put, List.setIfInBounds_toArray, List.set_cons_zero, List.set_cons_succ, i64_w, i32_w]
                rfl
              refine pure_ (i := 4) (N := some 20) (v := ?_) (a' := ?_) #[true, true, true, true, true, false, false, false, false, false, false, false, false, false, false, false, false, false, false, false, false, false, false, false, false, false, false, false, false, false] rfl rfl (any_of HT_.out (by kernel_rfl)) (fun _ _ _ h => h) (Or.inl ⟨by rfl, ?_⟩) ?_ ?_
              rotate_left
              · intro w'
                go_simp
                with_reducible rfl
              rotate_left
              · simp only [Act.put, List.setIfInBounds_toArray, List.set_cons_zero, List.set_cons_succ, i64_w, i32_w]
                rfl
              refine pure_ (i := 5) (N := some 21) (v := ?_) (a' := ?_) #[true, true, true, true, true, true, false, false, false, false, false, false, false, false, false, false, false, false, false, false, false, false, false, false, false, false, false, false, false, false] rfl rfl (any_of HT_.out (by kernel_rfl)) (fun _ _ _ h => h) (Or.inl ⟨by rfl, ?_⟩) ?_ ?_
              rotate_left
              · intro w'
                go_simp
                with_reducible rfl
              rotate_left
              · simp only [Act.put, List.setIfInBounds_toArray, List.set_cons_zero, List.set_cons_succ, i64_w, i32_w]
                rfl
              refine pure_ (i := 6) (N := some 22) (v := ?_) (a' := ?_) #[true, true, true, true, true, true, true, false, false, false, false, false, false, false, false, false, false, false, false, false, false, false, false, false, false, false, false, false, false, false] rfl rfl (any_of HT_.out (by kernel_rfl)) (fun _ _ _ h => h) (Or.inl ⟨by rfl, ?_⟩) ?_ ?_
              rotate_left
              · intro w'
                go_simp
                with_reducible rfl
              rotate_left
              · simp only [Act.put, List.setIfInBounds_toArray, List.set_cons_zero, List.set_cons_succ, i64_w, i32_w]
                rfl
              refine pure_ (i := 7) (N := some 23) (v := ?_) (a' := ?_) #[true, true, true, true, true, true, true, true, false, false, false, false, false, false, false, false, false, false, false, false, false, false, false, false, false, false, false, false, false, false] rfl rfl (any_of HT_.out (by kernel_rfl)) (fun _ _ _ h => h) (Or.inl ⟨by rfl, ?_⟩) ?_ ?_
              rotate_left
              · intro w'
                go_simp
                with_reducible rfl
              rotate_left
              · simp only [Act.put, List.setIfInBounds_toArray, List.set_cons_zero, List.set_cons_succ, i64_w, i32_w]
                rfl
              refine pure_ (i := 8) (N := some 24) (v := ?_) (a' := ?_) #[true, true, true, true, true, true, true, true, true, false, false, false, false, false, false, false, false, false, false, false, false, false, false, false, false, false, false, false, false, false] rfl rfl (any_of HT_.out (by kernel_rfl)) (fun _ _ _ h => h) (Or.inl ⟨by rfl, ?_⟩) ?_ ?_
              rotate_left
              · intro w'
                go_simp
                with_reducible rfl
              rotate_left
              · simp only [Act.put, List.setIfInBounds_toArray, List.set_cons_zero, List.set_cons_succ, i64_w, i32_w]
                rfl
              refine pure_ (i := 9) (N := some 25) (v := ?_) (a' := ?_) #[true, true, true, true, true, true, true, true, true, true, false, false, false, false, false, false, false, false, false, false, false, false, false, false, false, false, false, false, false, false] rfl rfl (any_of HT_.out (by kernel_rfl)) (fun _ _ _ h => h) (Or.inl ⟨by rfl, ?_⟩) ?_ ?_
              rotate_left
              · intro w'
                go_simp
                with_reducible rfl
              rotate_left
              · simp only [Act.put, List.setIfInBounds_toArray, List.set_cons_zero, List.set_cons_succ, i64_w, i32_w]
                rfl
              refine pure_ (i := 10) (N := some 26) (v := ?_) (a' := ?_) #[true, true, true, true, true, true, true, true, true, true, true, false, false, false, false, false, false, false, false, false, false, false, false, false, false, false, false, false, false, false] rfl rfl (any_of HT_.out (by kernel_rfl)) (fun _ _ _ h => h) (Or.inl ⟨by rfl, ?_⟩) ?_ ?_
              rotate_left
              · intro w'
                go_simp
                with_reducible rfl
              rotate_left
              · simp only [Act.put, List.setIfInBounds_toArray, List.set_cons_zero, List.set_cons_succ, i64_w, i32_w]
                rfl
              refine pure_ (i := 11) (N := some 27) (v := ?_) (a' := ?_) #[true, true, true, true, true, true, true, true, true, true, true, true, false, false, false, false, false, false, false, false, false, false, false, false, false, false, false, false, false, false] rfl rfl (any_of HT_.out (by kernel_rfl)) (fun _ _ _ h => h) (Or.inl ⟨by rfl, ?_⟩) ?_ ?_
              rotate_left
              · intro w'
                go_simp
                with_reducible rfl
              rotate_left
              · simp only [Act.put, List.setIfInBounds_toArray, List.set_cons_zero, List.set_cons_succ, i64_w, i32_w]
                rfl
              refine pure_ (i := 12) (N := some 28) (v := ?_) (a' := ?_) #[true, true, true, true, true, true, true, true, true, true, true, true, true, false, false, false, false, false, false, false, false, false, false, false, false, false, false, false, false, false] rfl rfl (any_of HT_.out (by kernel_rfl)) (fun _ _ _ h => h) (Or.inl ⟨by rfl, ?_⟩) ?_ ?_
              rotate_left
              · intro w'
                go_simp
                with_reducible rfl
              rotate_left
              · simp only [Act.put, List.setIfInBounds_toArray, List.set_cons_zero, List.set_cons_succ, i64_w, i32_w]
                rfl
              refine pure_ (i := 13) (N := some 29) (v := ?_) (a' := ?_) #[true, true, true, true, true, true, true, true, true, true, true, true, true, true, false, false, false, false, false, false, false, false, false, false, false, false, false, false, false, false] rfl rfl (any_of HT_.out (by kernel_rfl)) (fun _ _ _ h => h) (Or.inl ⟨by rfl, ?_⟩) ?_ ?_
              rotate_left
              · intro w'
                go_simp
                with_reducible rfl
              rotate_left
              · simp only [Act.put, List.setIfInBounds_toArray, List.set_cons_zero, List.set_cons_succ, i64_w, i32_w]
                rfl
              refine take_ (i := 14) (N := some 30) (v := ?_) (a' := ?_) #[true, true, true, true, true, true, true, true, true, true, true, true, true, true, true, false, false, false, false, false, false, false, false, false, false, false, false, false, false, false] rfl rfl (take_ofW HT_.out HW_.out (by kernel_rfl)) (fun _ _ _ h => h) (Or.inl ⟨by rfl, ?_⟩) hHeld ?_ ?_
              rotate_left
              · rintro w' ⟨s0, s1, s2, s3⟩
                go_simp
                with_reducible rfl
              rotate_left
              · simp only [Act.put, List.setIfInBounds_toArray, List.set_cons_zero, List.set_cons_succ, i64_w, i32_w]
                rfl
              refine one_ (i := 15) (N := some 31) #[true, true, true, true, true, true, true, true, true, true, true, true, true, true, true, true, false, false, false, false, false, false, false, false, false, false, false, false, false, false] rfl rfl (one_of HT_.out (by kernel_rfl)) (by decide) (fun K hK => ?_)
              refine goes_ Tryd.func17 (by kernel_rfl) rfl #[.agg #[.bool false, .slice none 0 0]] (by rfl) rfl rfl (by (try simp only [List.map_toArray, List.map_cons, List.map_nil]); first | done | rfl | (simp only [List.length_drop, List.length_take]; rfl)) ?_
              refine (integer_Int_Text.calls k false (fun k_ => False) _ _ ([] : List Int) t452 _ ?side1 ?side2 A11.out).mono ?_
              (case side1 => exact Kd.V_nil _ _ _ _ _)
              (case side2 => exact G_below HG.out (by repeat (first | (with_reducible first | exact HB.out | apply below_alloc | apply pw_below_drewN | apply below_drew1 | refine below_set ?_ GE446.out | refine below_set ?_ GE449.out) | exact HB.out)))
              rintro e w27 ⟨rfl, hb⟩
              refine ⟨_, rfl, ?_⟩
              have n0_ := Aside0.mk (Kd.V_below (by (with_reducible repeat (first | apply Kd.V_alloc | apply Kd.V_drewN | apply Kd.V_drew)); exact HO445.out) hb)
              have n1_ := Aside0.mk (blk_below (g := gb446) (o := .cells #[.bool t442, .slice Ao21 t443.length co21] 25 (0, 0)) (by (with_reducible repeat (first | refine blk_drewN ?_ _ | refine blk_drew ?_ | refine blk_alloc ?_ _)); exact BK446.out) hb)
              have n2_ := Aside0.mk (blk_below (g := gb449) (o := .cells #[.bool false, .slice none 0 0] 25 (0, 0)) (by (with_reducible repeat (first | refine blk_drewN ?_ _ | refine blk_drew ?_ | refine blk_alloc ?_ _)); exact BK449.out) hb)
              have n3_ := Aside0.mk (below_step (by repeat (first | (with_reducible first | exact HB.out | apply below_alloc | apply pw_below_drewN | apply below_drew1 | refine below_set ?_ GE446.out | refine below_set ?_ GE449.out) | exact HB.out)) hb)
              clear HO445
              clear BK446
              clear BK449
              clear HB
              have HO445 := n0_
              have BK446 := n1_
              have BK449 := n2_
              have HB := n3_
              clear n0_ n1_ n2_ n3_
              (try clear hb)
              (try clear hb2)
              (try clear hk)
              (try clear hi)
              refine hK.out _ _ ⟨(blk_cell BK446.out 0).trans rfl, (blk_cell BK446.out 1).trans rfl, (blk_cell BK449.out 0).trans rfl, (blk_cell BK449.out 1).trans rfl⟩ (fun hHeld => ?_)
              clear hK K
              refine norm_ (a' := ?_) ?_ ?_
              rotate_left
              · show Act.put _ (some 31) _ = _
                simp only [Act.put, List.setIfInBounds_toArray, List.set_cons_zero, List.set_cons_succ, i64_w, i32_w]
                rfl
              refine pure_ (i := 16) (N := some 32) (v := ?_) (a' := ?_) #[true, true, true, true, true, true, true, true, true, true, true, true, true, true, true, true, true, false, false, false, false, false, false, false, false, false, false, false, false, false] rfl rfl (any_of HT_.out (by kernel_rfl)) (fun _ _ _ h => h) (Or.inl ⟨by rfl, ?_⟩) ?_ ?_
              rotate_left
              · intro w'
                go_simp
                with_reducible rfl
              rotate_left
              · simp only [Act.put, List.setIfInBounds_toArray, List.set_cons_zero, List.set_cons_succ, i64_w, i32_w]
                rfl
              refine pure_ (i := 17) (N := some 33) (v := ?_) (a' := ?_) #[true, true, true, true, true, true, true, true, true, true, true, true, true, true, true, true, true, true, false, false, false, false, false, false, false, false, false, false, false, false] rfl rfl (any_of HT_.out (by kernel_rfl)) (fun _ _ _ h => h) (Or.inl ⟨by rfl, ?_⟩) ?_ ?_
              rotate_left
              · intro w'
                go_simp
                with_reducible rfl
              rotate_left
              · simp only [Act.put, List.setIfInBounds_toArray, List.set_cons_zero, List.set_cons_succ, i64_w, i32_w]
                rfl
              refine pure_ (i := 18) (N := some 34) (v := ?_) (a' := ?_) #[true, true, true, true, true, true, true, true, true, true, true, true, true, true, true, true, true, true, true, false, false, false, false, false, false, false, false, false, false, false] rfl rfl (any_of HT_.out (by kernel_rfl)) (fun _ _ _ h => h) (Or.inl ⟨by rfl, ?_⟩) ?_ ?_
              rotate_left
              · intro w'
                go_simp
                with_reducible rfl
              rotate_left
              · simp only [Act.put, List.setIfInBounds_toArray, List.set_cons_zero, List.set_cons_succ, i64_w, i32_w]
                rfl
              refine take_ (i := 19) (N := some 35) (v := ?_) (a' := ?_) #[true, true, true, true, true, true, true, true, true, true, true, true, true, true, true, true, true, true, true, true, false, false, false, false, false, false, false, false, false, false] rfl rfl (take_ofW HT_.out HW_.out (by kernel_rfl)) (fun _ _ _ h => h) (Or.inl ⟨by rfl, ?_⟩) hHeld ?_ ?_
              rotate_left
              · rintro w' ⟨s0, s1, s2, s3⟩
                go_simp
                with_reducible rfl
              rotate_left
              · simp only [Act.put, List.setIfInBounds_toArray, List.set_cons_zero, List.set_cons_succ, i64_w, i32_w]
                rfl
              refine one_ (i := 20) (N := some 36) #[true, true, true, true, true, true, true, true, true, true, true, true, true, true, true, true, true, true, true, true, true, false, false, false, false, false, false, false, false, false] rfl rfl (one_of HT_.out (by kernel_rfl)) (by decide) (fun K hK => ?_)
              refine goes_ Tryd.func19 (by kernel_rfl) rfl #[.agg #[.bool false, .slice none 0 0]] (by rfl) rfl rfl (by (try simp only [List.map_toArray, List.map_cons, List.map_nil]); first | done | rfl | (simp only [List.length_drop, List.length_take]; rfl)) ?_
              refine (integer_Int_Sign.calls false _ _ ([] : List Int) t453 _ ?side1 ?side2 A13.out).mono ?_
              (case side1 => exact Kd.C_nil _ _)
              (case side2 => exact Nat.le_refl _)
              rintro e w28 ⟨rfl, hb⟩
              refine ⟨_, rfl, ?_⟩
              have n0_ := Aside0.mk (Kd.V_below (by (with_reducible repeat (first | apply Kd.V_alloc | apply Kd.V_drewN | apply Kd.V_drew)); exact HO445.out) hb)
              have n1_ := Aside0.mk (blk_below (g := gb446) (o := .cells #[.bool t442, .slice Ao21 t443.length co21] 25 (0, 0)) (by (with_reducible repeat (first | refine blk_drewN ?_ _ | refine blk_drew ?_ | refine blk_alloc ?_ _)); exact BK446.out) hb)
              have n2_ := Aside0.mk (blk_below (g := gb449) (o := .cells #[.bool false, .slice none 0 0] 25 (0, 0)) (by (with_reducible repeat (first | refine blk_drewN ?_ _ | refine blk_drew ?_ | refine blk_alloc ?_ _)); exact BK449.out) hb)
              have n3_ := Aside0.mk (below_step (by repeat (first | (with_reducible first | exact HB.out | apply below_alloc | apply pw_below_drewN | apply below_drew1 | refine below_set ?_ GE446.out | refine below_set ?_ GE449.out) | exact HB.out)) hb)
              clear HO445
              clear BK446
              clear BK449
              clear HB
              have HO445 := n0_
              have BK446 := n1_
              have BK449 := n2_
              have HB := n3_
              clear n0_ n1_ n2_ n3_
              (try clear hb)
              (try clear hb2)
              (try clear hk)
              (try clear hi)
              refine hK.out _ _ ⟨(blk_cell BK446.out 0).trans rfl, (blk_cell BK446.out 1).trans rfl, (blk_cell BK449.out 0).trans rfl, (blk_cell BK449.out 1).trans rfl⟩ (fun hHeld => ?_)
              clear hK K
              refine norm_ (a' := ?_) ?_ ?_
              rotate_left
              · show Act.put _ (some 36) _ = _
                simp only [Act.put, List.setIfInBounds_toArray, List.set_cons_zero, List.set_cons_succ, i64_w, i32_w]
                rfl
              refine pure_ (i := 21) (N := some 37) (v := ?_) (a' := ?_) #[true, true, true, true, true, true, true, true, true, true, true, true, true, true, true, true, true, true, true, true, true, true, false, false, false, false, false, false, false, false] rfl rfl (any_of HT_.out (by kernel_rfl)) (fun _ _ _ h => h) (Or.inl ⟨by rfl, ?_⟩) ?_ ?_
              rotate_left
              · intro w'
                go_simp
                with_reducible rfl
              rotate_left
              · simp only [Act.put, List.setIfInBounds_toArray, List.set_cons_zero, List.set_cons_succ, i64_w, i32_w]
                rfl
              refine pure_ (i := 22) (N := some 38) (v := ?_) (a' := ?_) #[true, true, true, true, true, true, true, true, true, true, true, true, true, true, true, true, true, true, true, true, true, true, true, false, false, false, false, false, false, false] rfl rfl (any_of HT_.out (by kernel_rfl)) (fun _ _ _ h => h) (Or.inl ⟨by rfl, ?_⟩) ?_ ?_
              rotate_left
              · intro w'
                go_simp
                with_reducible rfl
              rotate_left
              · simp only [Act.put, List.setIfInBounds_toArray, List.set_cons_zero, List.set_cons_succ, i64_w, i32_w]
                rfl
              refine pure_ (i := 23) (N := some 39) (v := ?_) (a' := ?_) #[true, true, true, true, true, true, true, true, true, true, true, true, true, true, true, true, true, true, true, true, true, true, true, true, false, false, false, false, false, false] rfl rfl (any_of HT_.out (by kernel_rfl)) (fun _ _ _ h => h) (Or.inl ⟨by rfl, ?_⟩) ?_ ?_
              rotate_left
              · intro w'
                go_simp
                with_reducible rfl
              rotate_left
              · simp only [Act.put, List.setIfInBounds_toArray, List.set_cons_zero, List.set_cons_succ, i64_w, i32_w]
                rfl
              refine take_ (i := 24) (N := some 40) (v := ?_) (a' := ?_) #[true, true, true, true, true, true, true, true, true, true, true, true, true, true, true, true, true, true, true, true, true, true, true, true, true, false, false, false, false, false] rfl rfl (take_ofW HT_.out HW_.out (by kernel_rfl)) (fun _ _ _ h => h) (Or.inl ⟨by rfl, ?_⟩) hHeld ?_ ?_
              rotate_left
              · rintro w' ⟨s0, s1, s2, s3⟩
                go_simp
                with_reducible rfl
              rotate_left
              · simp only [Act.put, List.setIfInBounds_toArray, List.set_cons_zero, List.set_cons_succ, i64_w, i32_w]
                rfl
              refine one_ (i := 25) (N := some 41) #[true, true, true, true, true, true, true, true, true, true, true, true, true, true, true, true, true, true, true, true, true, true, true, true, true, true, false, false, false, false] rfl rfl (one_of HT_.out (by kernel_rfl)) (by decide) (fun K hK => ?_)
              refine goes_ Tryd.func15 (by kernel_rfl) rfl #[.int .i64 0] (by rfl) rfl rfl (by (try simp only [List.map_toArray, List.map_cons, List.map_nil]); first | done | rfl | (simp only [List.length_drop, List.length_take]; rfl)) ?_
              with_reducible refine (integer_From.calls k 0 t454 t455 _ A15.out).mono ?_
              rintro e w29 ⟨v456, rfl, ho0, hb⟩
              refine ⟨_, rfl, ?_⟩
              have n0_ := Aside0.mk (Kd.V_below (by (with_reducible repeat (first | apply Kd.V_alloc | apply Kd.V_drewN | apply Kd.V_drew)); exact HO445.out) hb)
              have n1_ := Aside0.mk (Kd.V_lower (Kd.V_mono (ok' := fun k_ => k_ ≠ gb446 ∧ k_ ≠ gb449) ho0 (fun k_ hk_ => ⟨(Kd.freshB (g := gb446) (o := .cells #[.bool t442, .slice Ao21 t443.length co21] 25 (0, 0)) (by (with_reducible repeat (first | refine blk_drewN ?_ _ | refine blk_drew ?_ | refine blk_alloc ?_ _)); exact BK446.out) k_ hk_), (Kd.freshB (g := gb449) (o := .cells #[.bool false, .slice none 0 0] 25 (0, 0)) (by (with_reducible repeat (first | refine blk_drewN ?_ _ | refine blk_drew ?_ | refine blk_alloc ?_ _)); exact BK449.out) k_ hk_)⟩)) (below_size (by repeat (first | (with_reducible first | exact HB.out | apply below_alloc | apply pw_below_drewN | apply below_drew1 | refine below_set ?_ GE446.out | refine below_set ?_ GE449.out) | exact HB.out))))
              have n2_ := Aside0.mk (blk_below (g := gb446) (o := .cells #[.bool t442, .slice Ao21 t443.length co21] 25 (0, 0)) (by (with_reducible repeat (first | refine blk_drewN ?_ _ | refine blk_drew ?_ | refine blk_alloc ?_ _)); exact BK446.out) hb)
              have n3_ := Aside0.mk (blk_below (g := gb449) (o := .cells #[.bool false, .slice none 0 0] 25 (0, 0)) (by (with_reducible repeat (first | refine blk_drewN ?_ _ | refine blk_drew ?_ | refine blk_alloc ?_ _)); exact BK449.out) hb)
              have n4_ := Aside0.mk (below_step (by repeat (first | (with_reducible first | exact HB.out | apply below_alloc | apply pw_below_drewN | apply below_drew1 | refine below_set ?_ GE446.out | refine below_set ?_ GE449.out) | exact HB.out)) hb)
              clear HO445
              clear BK446
              clear BK449
              clear HB
              have HO445 := n0_
              have HO457 := n1_
              have BK446 := n2_
              have BK449 := n3_
              have HB := n4_
              clear n0_ n1_ n2_ n3_ n4_
              (try clear hb)
              (try clear hb2)
              (try clear hk)
              (try clear hi)
              (try clear ho0)
              obtain ⟨Ao30, co30, eo30⟩ := Kd.V_slice HO457.out
              (first | subst eo30 | (injection eo30 with f1_ f2_ f3_; have f4_ := f1_.symm; have f5_ := f3_.symm; clear f1_ f2_ f3_; subst f4_; subst f5_))
              refine hK.out _ _ ⟨(blk_cell BK446.out 0).trans rfl, (blk_cell BK446.out 1).trans rfl, (blk_cell BK449.out 0).trans rfl, (blk_cell BK449.out 1).trans rfl⟩ (fun hHeld => ?_)
              clear hK K
              refine norm_ (a' := ?_) ?_ ?_
              rotate_left
              · show Act.put _ (some 41) _ = _
                simp only [Act.put, List.setIfInBounds_toArray, List.set_cons_zero, List.set_cons_succ, i64_w, i32_w]
                rfl
              refine one_ (i := 26) (N := some 42) #[true, true, true, true, true, true, true, true, true, true, true, true, true, true, true, true, true, true, true, true, true, true, true, true, true, true, true, false, false, false] rfl rfl (one_of HT_.out (by kernel_rfl)) (by decide) (fun K hK => ?_)
              refine goes_ Tryd.func20 (by kernel_rfl) rfl #[.agg #[.bool false, .slice none 0 0], .agg #[.bool t454, .slice Ao30 t455.length co30]] (by rfl) rfl rfl (by (try simp only [List.map_toArray, List.map_cons, List.map_nil]); first | done | rfl | (simp only [List.length_drop, List.length_take]; rfl)) ?_
              refine (integer_Compare.calls k false _ _ ([] : List Int) t454 _ _ t455 t458 _ ?side1 ?side2 ?side3 ?side4 A16.out).mono ?_
              (case side1 => exact Kd.C_nil _ _)
              (case side2 => exact Nat.le_refl _)
              (case side3 => repeat (first | exact (Kd.V_reads' HO457.out).2.2 | (with_reducible refine Kd.C_alloc ?_ _) | (with_reducible refine Kd.C_drewN ?_ _) | (with_reducible refine Kd.C_drew ?_)))
              (case side4 => exact (Kd.V_reads' HO457.out).2.1)
              rintro e w31 ⟨rfl, hb⟩
              refine ⟨_, rfl, ?_⟩
              have n0_ := Aside0.mk (Kd.V_below (by (with_reducible repeat (first | apply Kd.V_alloc | apply Kd.V_drewN | apply Kd.V_drew)); exact HO445.out) hb)
              have n1_ := Aside0.mk (Kd.V_below (by (with_reducible repeat (first | apply Kd.V_alloc | apply Kd.V_drewN | apply Kd.V_drew)); exact HO457.out) hb)
              have n2_ := Aside0.mk (blk_below (g := gb446) (o := .cells #[.bool t442, .slice Ao21 t443.length co21] 25 (0, 0)) (by (with_reducible repeat (first | refine blk_drewN ?_ _ | refine blk_drew ?_ | refine blk_alloc ?_ _)); exact BK446.out) hb)
              have n3_ := Aside0.mk (blk_below (g := gb449) (o := .cells #[.bool false, .slice none 0 0] 25 (0, 0)) (by (with_reducible repeat (first | refine blk_drewN ?_ _ | refine blk_drew ?_ | refine blk_alloc ?_ _)); exact BK449.out) hb)
              have n4_ := Aside0.mk (below_step (by repeat (first | (with_reducible first | exact HB.out | apply below_alloc | apply pw_below_drewN | apply below_drew1 | refine below_set ?_ GE446.out | refine below_set ?_ GE449.out) | exact HB.out)) hb)
              clear HO445
              clear HO457
              clear BK446
              clear BK449
              clear HB
              have HO445 := n0_
              have HO457 := n1_
              have BK446 := n2_
              have BK449 := n3_
              have HB := n4_
              clear n0_ n1_ n2_ n3_ n4_
              (try clear hb)
              (try clear hb2)
              (try clear hk)
              (try clear hi)
              refine hK.out _ _ ⟨(blk_cell BK446.out 0).trans rfl, (blk_cell BK446.out 1).trans rfl, (blk_cell BK449.out 0).trans rfl, (blk_cell BK449.out 1).trans rfl⟩ (fun hHeld => ?_)
              clear hK K
              refine norm_ (a' := ?_) ?_ ?_
              rotate_left
              · show Act.put _ (some 42) _ = _
                simp only [Act.put, List.setIfInBounds_toArray, List.set_cons_zero, List.set_cons_succ, i64_w, i32_w]
                rfl
              refine pure_ (i := 27) (N := some 43) (v := ?_) (a' := ?_) #[true, true, true, true, true, true, true, true, true, true, true, true, true, true, true, true, true, true, true, true, true, true, true, true, true, true, true, true, false, false] rfl rfl (any_of HT_.out (by kernel_rfl)) (fun _ _ _ h => h) (Or.inl ⟨by rfl, ?_⟩) ?_ ?_
              rotate_left
              · intro w'
                go_simp
                with_reducible rfl
              rotate_left
              · simp only [Act.put, List.setIfInBounds_toArray, List.set_cons_zero, List.set_cons_succ, i64_w, i32_w]
                rfl
              refine pure_ (i := 28) (N := some 44) (v := ?_) (a' := ?_) #[true, true, true, true, true, true, true, true, true, true, true, true, true, true, true, true, true, true, true, true, true, true, true, true, true, true, true, true, true, false] rfl rfl (any_of HT_.out (by kernel_rfl)) (fun _ _ _ h => h) (Or.inl ⟨by rfl, ?_⟩) ?_ ?_
              rotate_left
              · intro w'
                go_simp
                with_reducible rfl
              rotate_left
              · simp only [Act.put, List.setIfInBounds_toArray, List.set_cons_zero, List.set_cons_succ, i64_w, i32_w]
                rfl
              refine pure_ (i := 29) (N := some 2) (v := ?_) (a' := ?_) #[true, true, true, true, true, true, true, true, true, true, true, true, true, true, true, true, true, true, true, true, true, true, true, true, true, true, true, true, true, true] rfl rfl (any_of HT_.out (by kernel_rfl)) (fun _ _ _ h => h) (Or.inl ⟨by rfl, ?_⟩) ?_ ?_
              rotate_left
              · intro w'
                go_simp
                with_reducible rfl
              rotate_left
              · simp only [Act.put, List.setIfInBounds_toArray, List.set_cons_zero, List.set_cons_succ, i64_w, i32_w]
                rfl
              refine done_ (done_of HT_.out (by kernel_rfl)) ?_
              try go_wp2
              go_ret
              exact ⟨by first | rfl | (simp [errW_none, errW_some] <;> rfl) | (simp [*, errW_none, errW_some] <;> rfl), by repeat (first | (with_reducible first | exact HB.out | apply below_alloc | apply pw_below_drewN | apply below_drew1 | refine below_set ?_ GE446.out | refine below_set ?_ GE449.out) | exact HB.out)⟩
            · rw [if_neg c14] at H
              exact absurd H (by simp)
          · rw [if_neg c12] at H
            exact absurd H (by simp)
        · replace c10 := Bool.eq_false_iff.mpr c10
          subst c10
          have H1 : (none) = some r := by rw [if_neg (show ¬ (false = true) by decide)] at H; exact H
          clear H
          have H := H1
          clear H1
          exact absurd H (by simp)
      · rw [if_neg c9] at H
        exact absurd H (by simp)
    · rw [if_neg c8] at H
      exact absurd H (by simp)
  · replace c3 := Bool.eq_false_iff.mpr c3
    subst c3
    have H1 : (none) = some r := by rw [if_neg (show ¬ (false = true) by decide)] at H; exact H
    clear H
    have H := H1
    clear H1
    exact absurd H (by simp)
def dowellaw01_IntegerFrom.Pure : Prop := ∀ (a0 : Int), (Lit.int .i64 a0).wf = true → ∃ k, dowellaw01_IntegerFrom.f k a0 = some true
theorem dowellaw01_IntegerFrom.walk (P : dowellaw01_IntegerFrom.Pure) (a0 : Int) (w : World) (hG : G w) (w0 : (Lit.int .i64 a0).wf = true) :
    Calls Tryd.prog 3 #[.int .i64 a0] w fun e w' => e = .returned (.bool true) ∧ Below w.heap.size w w' := by
  obtain ⟨k, h⟩ := P a0 w0
  refine (dowellaw01_IntegerFrom.calls k a0 true w hG h).mono ?_
  rintro e w' ⟨rfl, hd⟩
  exact ⟨rfl, hd⟩
end Go.Proofs.YtiikfhdmclmjmaaDoor.P
