/- Part 5 of the proof of IntegerParses: what the program's functions compute, told as plain functions, and what these answer. Conditions: none beside the statement's own. Gathered by the session's program merge.py out of its own and the printed texts; no declaration that the proof does not name is left in. -/
import Derived.Test.YtiikfhdmclmjmaaDoorIPar4
import Derived.Lib.ItoaNum
import Derived.Laws.BitsLemmas
import Derived.Lib.Repeat
import Derived.Lib.Join
import Derived.Laws.BytesArg
import Derived.Laws.Bits64b
import Derived.Laws.RangeAny
import Derived.KernelRfl
import Derived.Test.YtiikfhdmclmjmaaDoorRows
import Derived.Test.YtiikfhdmclmjmaaDoorTie
import Derived.Test.YtiikfhdmclmjmaaDoorCards
import Derived.WalkKit
import Derived.ProofKit
import Derived.LaidMore
import Derived.LaidLaws
import Derived.OpenShut
import Derived.ShutString
import Derived.ChangeOld
import Derived.Below
import Derived.SizedLaws
import Derived.Stop.Joined
import Derived.Stop.LaidErr
import Derived.Lib.LaidTab
import Derived.MakeChecks
import Derived.Handed
import Derived.SevenTiedAt
namespace Go.Proofs.YtiikfhdmclmjmaaDoor.P
open Go.RowKit Go.Proofs.YtiikfhdmclmjmaaDoorW.PrintWords Go.Proofs.YtiikfhdmclmjmaaDoorW.PrintLast
set_option linter.unusedVariables false
set_option linter.unusedSimpArgs false
mutual
def integer_Parse.j0 : Nat → ByteArray → Bool → Bool → Option (Bool × List Int × Int)
 | 0, _, _, _ => none
 | k + 1, x4, x5, x25 => if x25 = true then (some (false, ([] : List Int), 14)) else (if 0 < (x4.size : Int) then (if (bt x4 0) = 48 then (if (x4.size : Int) > 1 then (integer_Parse.j1 k x4 x5 true) else (integer_Parse.j1 k x4 x5 x5)) else (integer_Parse.j1 k x4 x5 false)) else (none))
def integer_Parse.j1 : Nat → ByteArray → Bool → Bool → Option (Bool × List Int × Int)
 | 0, _, _, _ => none
 | k + 1, x4, x5, x37 => if x37 = true then (some (false, ([] : List Int), 3)) else (integer_Parse.l0 k x4 x5 ([] : List Int))
def integer_Parse.l0 : Nat → ByteArray → Bool → List Int → Option (Bool × List Int × Int)
 | 0, _, _, _ => none
 | k + 1, x4, x5, x6 => if (x4.size : Int) > 0 then (integer_Parse.l1 k x4 x5 x6 (wrap64 ((Int.tmod (wrap64 ((x4.size : Int) - 1)) 9) + 1)) 1 (wrap64 ((Int.tmod (wrap64 ((x4.size : Int) - 1)) 9) + 1)) 0) else ((integer_signed.f k x5 x6).bind fun bt490 => (some (bt490.1, bt490.2, 0)))
def integer_Parse.l1 : Nat → ByteArray → Bool → List Int → Int → Int → Int → Int → Option (Bool × List Int × Int)
 | 0, _, _, _, _, _, _, _ => none
 | k + 1, x4, x5, x6, x7, x8, x47, x48 => if x48 < x47 then (integer_Parse.l1 k x4 x5 x6 x7 ((x8 * 10) % 4294967296) x47 (wrap64 (x48 + 1))) else (if 0 ≤ x7 then (if x7 ≤ (x4.size : Int) then ((strconv_ParseUint_56.f (x4.extract 0 (x7 : Int).toNat) 10 32).bind fun bt494 => ((integer_scale.f k x6 x8 ((bt494.1) % 4294967296)).bind fun t496 => (integer_Parse.l0 k (x4.extract (x7 : Int).toNat x4.size) x5 t496))) else (none)) else (none))
end
def integer_Parse.f (k : Nat) (a0 : ByteArray) : Option (Bool × List Int × Int) := if (a0.size : Int) > 65536 then (some (false, ([] : List Int), 5)) else ((strings_CutPrefix.f a0 (⟨#[45]⟩ : ByteArray)).bind fun bt487 => (if bt487.1.toList = ([] : List UInt8) then (integer_Parse.j0 k bt487.1 bt487.2 true) else ((strings_ContainsFunc_Parse1.f bt487.1).bind fun t489 => (integer_Parse.j0 k bt487.1 bt487.2 t489))))
theorem integer_Parse.mono_l : ∀ k, (∀ y0 y1 y2, LeO (integer_Parse.j0 k y0 y1 y2) (integer_Parse.j0 (k + 1) y0 y1 y2)) ∧ (∀ y0 y1 y2, LeO (integer_Parse.j1 k y0 y1 y2) (integer_Parse.j1 (k + 1) y0 y1 y2)) ∧ (∀ y0 y1 y2, LeO (integer_Parse.l0 k y0 y1 y2) (integer_Parse.l0 (k + 1) y0 y1 y2)) ∧ (∀ y0 y1 y2 y3 y4 y5 y6, LeO (integer_Parse.l1 k y0 y1 y2 y3 y4 y5 y6) (integer_Parse.l1 (k + 1) y0 y1 y2 y3 y4 y5 y6))
 | 0 => ⟨fun _ _ _ r h => by simp [integer_Parse.j0] at h, fun _ _ _ r h => by simp [integer_Parse.j1] at h, fun _ _ _ r h => by simp [integer_Parse.l0] at h, fun _ _ _ _ _ _ _ r h => by simp [integer_Parse.l1] at h⟩
 | k + 1 => by
  obtain ⟨ih0, ih1, ih2, ih3⟩ := integer_Parse.mono_l k
  refine ⟨?_, ?_, ?_, ?_⟩
  ·
   intro y0 y1 y2
   unfold integer_Parse.j0
   repeat' first
   | (with_reducible exact ih0 _ _ _)
   | (with_reducible exact ih1 _ _ _)
   | (with_reducible exact ih2 _ _ _)
   | (with_reducible exact ih3 _ _ _ _ _ _ _)
   | (with_reducible exact integer_scale.mono _ _ _ _)
   | (with_reducible exact integer_signed.mono _ _ _)
   | (with_reducible exact LeO.refl _)
   | (with_reducible exact LeO.none _)
   | (with_reducible refine LeO.ite ?_ ?_)
   | (with_reducible refine LeO.bind ?_ (fun _ => ?_))
   | exact ih0 _ _ _
   | exact ih1 _ _ _
   | exact ih2 _ _ _
   | exact ih3 _ _ _ _ _ _ _
   | exact integer_scale.mono _ _ _ _
   | exact integer_signed.mono _ _ _
   | exact LeO.none _
   | refine LeO.ite ?_ ?_
   | refine LeO.bind ?_ (fun _ => ?_)
  ·
   intro y0 y1 y2
   unfold integer_Parse.j1
   repeat' first
   | (with_reducible exact ih0 _ _ _)
   | (with_reducible exact ih1 _ _ _)
   | (with_reducible exact ih2 _ _ _)
   | (with_reducible exact ih3 _ _ _ _ _ _ _)
   | (with_reducible exact integer_scale.mono _ _ _ _)
   | (with_reducible exact integer_signed.mono _ _ _)
   | (with_reducible exact LeO.refl _)
   | (with_reducible exact LeO.none _)
   | (with_reducible refine LeO.ite ?_ ?_)
   | (with_reducible refine LeO.bind ?_ (fun _ => ?_))
   | exact ih0 _ _ _
   | exact ih1 _ _ _
   | exact ih2 _ _ _
   | exact ih3 _ _ _ _ _ _ _
   | exact integer_scale.mono _ _ _ _
   | exact integer_signed.mono _ _ _
   | exact LeO.none _
   | refine LeO.ite ?_ ?_
   | refine LeO.bind ?_ (fun _ => ?_)
  ·
   intro y0 y1 y2
   unfold integer_Parse.l0
   repeat' first
   | (with_reducible exact ih0 _ _ _)
   | (with_reducible exact ih1 _ _ _)
   | (with_reducible exact ih2 _ _ _)
   | (with_reducible exact ih3 _ _ _ _ _ _ _)
   | (with_reducible exact integer_scale.mono _ _ _ _)
   | (with_reducible exact integer_signed.mono _ _ _)
   | (with_reducible exact LeO.refl _)
   | (with_reducible exact LeO.none _)
   | (with_reducible refine LeO.ite ?_ ?_)
   | (with_reducible refine LeO.bind ?_ (fun _ => ?_))
   | exact ih0 _ _ _
   | exact ih1 _ _ _
   | exact ih2 _ _ _
   | exact ih3 _ _ _ _ _ _ _
   | exact integer_scale.mono _ _ _ _
   | exact integer_signed.mono _ _ _
   | exact LeO.none _
   | refine LeO.ite ?_ ?_
   | refine LeO.bind ?_ (fun _ => ?_)
  ·
   intro y0 y1 y2 y3 y4 y5 y6
   unfold integer_Parse.l1
   repeat' first
   | (with_reducible exact ih0 _ _ _)
   | (with_reducible exact ih1 _ _ _)
   | (with_reducible exact ih2 _ _ _)
   | (with_reducible exact ih3 _ _ _ _ _ _ _)
   | (with_reducible exact integer_scale.mono _ _ _ _)
   | (with_reducible exact integer_signed.mono _ _ _)
   | (with_reducible exact LeO.refl _)
   | (with_reducible exact LeO.none _)
   | (with_reducible refine LeO.ite ?_ ?_)
   | (with_reducible refine LeO.bind ?_ (fun _ => ?_))
   | exact ih0 _ _ _
   | exact ih1 _ _ _
   | exact ih2 _ _ _
   | exact ih3 _ _ _ _ _ _ _
   | exact integer_scale.mono _ _ _ _
   | exact integer_signed.mono _ _ _
   | exact LeO.none _
   | refine LeO.ite ?_ ?_
   | refine LeO.bind ?_ (fun _ => ?_)
theorem integer_Parse.mono : ∀ a0 k, LeO (integer_Parse.f k a0) (integer_Parse.f (k + 1) a0) := by
 intro a0 k
 obtain ⟨ih0, ih1, ih2, ih3⟩ := integer_Parse.mono_l k
 unfold integer_Parse.f
 repeat' first
   | (with_reducible exact ih0 _ _ _)
   | (with_reducible exact ih1 _ _ _)
   | (with_reducible exact ih2 _ _ _)
   | (with_reducible exact ih3 _ _ _ _ _ _ _)
   | (with_reducible exact integer_scale.mono _ _ _ _)
   | (with_reducible exact integer_signed.mono _ _ _)
   | (with_reducible exact LeO.refl _)
   | (with_reducible exact LeO.none _)
   | (with_reducible refine LeO.ite ?_ ?_)
   | (with_reducible refine LeO.bind ?_ (fun _ => ?_))
   | exact ih0 _ _ _
   | exact ih1 _ _ _
   | exact ih2 _ _ _
   | exact ih3 _ _ _ _ _ _ _
   | exact integer_scale.mono _ _ _ _
   | exact integer_signed.mono _ _ _
   | exact LeO.none _
   | refine LeO.ite ?_ ?_
   | refine LeO.bind ?_ (fun _ => ?_)
set_option maxHeartbeats 8000000 in
set_option maxRecDepth 100000 in
theorem integer_Parse.calls (k : Nat) (a0 : ByteArray) (r1 : Bool) (r2 : List Int) (r3 : Int) (w : World) (h : integer_Parse.f k a0 = some (r1, r2, r3)) :
  Calls Tryd.prog 21 #[.string a0] w fun e w' => ∃ v1_ : Value, e = .returned (.tuple #[.agg #[.bool r1, v1_], .int .i64 r3]) ∧ Kd.V (Kd.int .u32) 60 w' w.heap.size (fun k_ => (w.heap.size ≤ k_)) v1_ r2 ∧ Below w.heap.size w w' := by
 have hu25 := Tryd.underlying25
 have HB := Aside0.mk (Below.refl w.heap.size w)
 have H : (if (a0.size : Int) > 65536 then (some (false, ([] : List Int), 5)) else ((strings_CutPrefix.f a0 (⟨#[45]⟩ : ByteArray)).bind fun bt487 => (if bt487.1.toList = ([] : List UInt8) then (integer_Parse.j0 k bt487.1 bt487.2 true) else ((strings_ContainsFunc_Parse1.f bt487.1).bind fun t489 => (integer_Parse.j0 k bt487.1 bt487.2 t489))))) = some (r1, r2, r3) := h
 clear h
 by_cases c2 : (a0.size : Int) > 65536
 ·
  rw [if_pos c2] at H
  have c2b0 : decide (65536 < (a0.size : Int)) = true := decide_eq_true c2
  have c2b1 : decide (65536 < a0.size) = true := decide_eq_true (by omega)
  clear c2
  simp only [Option.some.injEq, Prod.mk.injEq] at H
  obtain ⟨rfl, rfl, rfl⟩ := H
  go_enter Tryd.func21, Tryd.ntmps21
  go_wp2_with (first | ((with_reducible refine gate_dst (N := 2) rfl ?_); (try (refine gate_guard (by rfl) ?_; dsimp only)); refine box_event ?hg (N := 2) ?hd (cs := #[.bool false, .slice none 0 0]) (t := 25) ?hr ?_; (case hd => rfl); (case hg => rfl); (case hr => first | (go_simp; done) | (go_simp; rfl)); intro gb486 hg w3 hbox hb; have n0_ := Aside0.mk (below_step (by repeat (first | (with_reducible first | exact HB.out | apply below_alloc | apply pw_below_drewN | apply below_drew1) | exact HB.out)) hb); have n1_ := Aside0.mk (hbox); have n2_ := Aside0.mk ((by rw [hg]; exact (below_size (by repeat (first | (with_reducible first | exact HB.out | apply below_alloc | apply pw_below_drewN | apply below_drew1) | exact HB.out))) : w.heap.size ≤ gb486)); have n3_ := Aside0.mk ((by rw [hg]; exact (below_size (by repeat (first | (with_reducible first | exact HB.out | apply below_alloc | apply pw_below_drewN | apply below_drew1) | exact HB.out))) : w.heap.size ≤ gb486)); clear HB; have HB := n0_; have BK486 := n1_; have GW486 := n2_; have GE486 := n3_; clear n0_ n1_ n2_ n3_; clear hb hbox hg; have hcz4_0 : w3.cell? ⟨gb486, 0, none⟩ = some (.bool false) := (blk_cell BK486.out 0).trans rfl; have hcz4_1 : w3.cell? ⟨gb486, 1, none⟩ = some (.slice none 0 0) := (blk_cell BK486.out 1).trans rfl; have hfz4_0 := blk_frozen BK486.out 0; have hfz4_1 := blk_frozen BK486.out 1))
  refine bodyPost_ret (results_ct rfl _ _ gb486 25 #[.bool false, .slice none 0 0] (0, 0) _ rfl (by (with_reducible repeat (first | refine blk_drewN ?_ _ | refine blk_drew ?_ | refine blk_alloc ?_ _)); refine blk_put (cs := #[.bool false, .slice none 0 0]) ?_ 1 _ rfl; (with_reducible repeat (first | refine blk_drewN ?_ _ | refine blk_drew ?_ | refine blk_alloc ?_ _)); refine blk_put (cs := #[.bool false, .slice none 0 0]) ?_ 0 _ rfl; (with_reducible repeat (first | refine blk_drewN ?_ _ | refine blk_drew ?_ | refine blk_alloc ?_ _)); exact BK486.out) Tryd.underlying25 rfl (by kernel_rfl)) rfl ?_
  exact ⟨_, by first | rfl | (simp [errW_none, errW_some] <;> rfl) | (simp [*, errW_none, errW_some] <;> rfl), by first | exact Kd.R_nil _ _ _ _ _ | exact Kd.N_nil _ _ _ _ _ | exact Kd.V_nil _ _ _ _ _ | exact Kd.Q_nil _ _ _ _ _ | exact Kd.S_nil _ _ _ _ _, by repeat (first | (with_reducible first | exact HB.out | apply below_alloc | apply pw_below_drewN | apply below_drew1 | refine below_set ?_ GE486.out) | exact HB.out)⟩
 ·
  rw [if_neg c2] at H
  have c2b0 : decide (65536 < (a0.size : Int)) = false := decide_eq_false c2
  have c2b1 : decide (65536 < a0.size) = false := decide_eq_false (by omega)
  clear c2
  replace H := Option.bind_eq_some_iff.mp H
  obtain ⟨⟨t487, t488⟩, A50, H⟩ := H
  replace H : (if t487.toList = ([] : List UInt8) then (integer_Parse.j0 k t487 t488 true) else ((strings_ContainsFunc_Parse1.f t487).bind fun t489 => (integer_Parse.j0 k t487 t488 t489))) = some (r1, r2, r3) := H
  have A5 := Aside0.mk A50
  clear A50
  have HC6 := Aside0.mk H
  clear H
  go_enter Tryd.func21, Tryd.ntmps21
  go_upto_region 4 with (first | ((with_reducible refine gate_dst (N := 2) rfl ?_); (try (refine gate_guard (by rfl) ?_; dsimp only)); refine box_event ?hg (N := 2) ?hd (cs := #[.bool false, .slice none 0 0]) (t := 25) ?hr ?_; (case hd => rfl); (case hg => rfl); (case hr => first | (go_simp; done) | (go_simp; rfl)); intro gb486 hg w7 hbox hb; have n0_ := Aside0.mk (below_step (by repeat (first | (with_reducible first | exact HB.out | apply below_alloc | apply pw_below_drewN | apply below_drew1) | exact HB.out)) hb); have n1_ := Aside0.mk (hbox); have n2_ := Aside0.mk ((by rw [hg]; exact (below_size (by repeat (first | (with_reducible first | exact HB.out | apply below_alloc | apply pw_below_drewN | apply below_drew1) | exact HB.out))) : w.heap.size ≤ gb486)); have n3_ := Aside0.mk ((by rw [hg]; exact (below_size (by repeat (first | (with_reducible first | exact HB.out | apply below_alloc | apply pw_below_drewN | apply below_drew1) | exact HB.out))) : w.heap.size ≤ gb486)); clear HB; have HB := n0_; have BK486 := n1_; have GW486 := n2_; have GE486 := n3_; clear n0_ n1_ n2_ n3_; clear hb hbox hg) | ((with_reducible refine gate_callee (f := 53) rfl ?_); refine goesL_ (some 17) rfl rfl Tryd.func53 (by kernel_rfl) rfl #[.string a0, .string (⟨#[45]⟩ : ByteArray)] rfl (by (try simp only [List.map_toArray, List.map_cons, List.map_nil]); first | done | rfl | (simp only [List.length_drop, List.length_take]; rfl)) ?_; (with_reducible refine (strings_CutPrefix.calls a0 (⟨#[45]⟩ : ByteArray) t487 t488 _ A5.out).mono ?_); rintro e w' ⟨rfl, ⟨nd, rfl⟩⟩; refine ⟨_, rfl, ?_⟩))
  (try simp only [Act.put, List.setIfInBounds_toArray, List.set_cons_zero, List.set_cons_succ])
  go_cut [25] (fun v25 wc => ∃ (kq : Nat) (x25_5 : Bool), v25 = .bool x25_5 ∧ Aside0 (integer_Parse.j0 kq t487 t488 x25_5 = some (r1, r2, r3)) ∧ Aside0 (kq ≤ k) ∧ Aside0 (wc.heap[gb486]? = some (.cells #[.bool false, (.slice none 0 0)] 25 (0, 0))) ∧ Aside0 (Below w.heap.size w wc))
  case first =>
   have H := HC6.out
   clear HC6
   by_cases c8 : t487.toList = ([] : List UInt8)
   ·
    rw [if_pos c8] at H
    have c8b0 : (t487.toList == ([] : List UInt8)) = true := beq_iff_eq.mpr c8
    have c8b1 : (t487.toList != ([] : List UInt8)) = false := bne_eq_false_iff_eq.mpr c8
    clear c8
    (first | rw [c8b0] | (simp only [i64_w, i32_w]; rw [c8b0]) | skip)
    have H' := Aside0.mk H
    clear H
    go_wp2
    go_meet
    case rel => exact ⟨_, (true), (by first | rfl | (simp; done) | (simp [*]; done) | (simp <;> omega)), H', ⟨by first | omega | exact Nat.le_refl _⟩, ⟨by (with_reducible repeat (first | refine blk_drewN ?_ _ | refine blk_drew ?_ | refine blk_alloc ?_ _)); exact BK486.out⟩, ⟨by repeat (first | (with_reducible first | exact HB.out | apply below_alloc | apply pw_below_drewN | apply below_drew1 | refine below_set ?_ GE486.out) | exact HB.out)⟩⟩
   ·
    rw [if_neg c8] at H
    have c8b0 : (t487.toList == ([] : List UInt8)) = false := beq_eq_false_iff_ne.mpr c8
    have c8b1 : (t487.toList != ([] : List UInt8)) = true := bne_iff_ne.mpr c8
    (first | rw [c8b0] | (simp only [i64_w, i32_w]; rw [c8b0]) | skip)
    replace H := Option.bind_eq_some_iff.mp H
    obtain ⟨t489, A90, H⟩ := H
    replace H : (integer_Parse.j0 k t487 t488 t489) = some (r1, r2, r3) := H
    have A9 := Aside0.mk A90
    clear A90
    have H' := Aside0.mk H
    clear H
    go_wp2_with (first | (go_at_call 54; (with_reducible refine (strings_ContainsFunc_Parse1.calls t487 t489 _ A9.out).mono ?_); rintro e w10 ⟨rfl, hb⟩; have n0_ := Aside0.mk (blk_below (g := gb486) (o := .cells #[.bool false, .slice none 0 0] 25 (0, 0)) (by (with_reducible repeat (first | refine blk_drewN ?_ _ | refine blk_drew ?_ | refine blk_alloc ?_ _)); exact BK486.out) hb); have n1_ := Aside0.mk (below_step (by repeat (first | (with_reducible first | exact HB.out | apply below_alloc | apply pw_below_drewN | apply below_drew1 | refine below_set ?_ GE486.out) | exact HB.out)) hb); clear BK486; clear HB; have BK486 := n0_; have HB := n1_; clear n0_ n1_; (try clear hb); (try clear hb2); (try clear hk); (try clear hi)))
    go_meet
    case rel => exact ⟨_, (t489), (by first | rfl | (simp; done) | (simp [*]; done) | (simp <;> omega)), H', ⟨by first | omega | exact Nat.le_refl _⟩, ⟨by (with_reducible repeat (first | refine blk_drewN ?_ _ | refine blk_drew ?_ | refine blk_alloc ?_ _)); exact BK486.out⟩, ⟨by repeat (first | (with_reducible first | exact HB.out | apply below_alloc | apply pw_below_drewN | apply below_drew1 | refine below_set ?_ GE486.out) | exact HB.out)⟩⟩
  case rest =>
   clear HC6
   try clear c2
   try clear c2b0
   try clear c2b1
   try clear p2
   try clear c5
   try clear c8
   try clear c8b0
   try clear c8b1
   try clear hcz4_0
   try clear hcz4_1
   try clear hfz4_0
   try clear hfz4_1
   obtain ⟨kq, x25_5, rfl, HA, HJ5, BK486, HB⟩ := hcut
   cases kq with
   | zero => exact absurd HA.out (by simp [integer_Parse.j0])
   | succ kj5 =>
    have H := HA.out
    clear HA
    simp only [integer_Parse.j0] at H
    by_cases c11 : x25_5 = true
    ·
     subst c11
     have H1 : (some (false, ([] : List Int), 14)) = some (r1, r2, r3) := by rw [if_pos rfl] at H; exact H
     clear H
     have H := H1
     clear H1
     simp only [Option.some.injEq, Prod.mk.injEq] at H
     obtain ⟨rfl, rfl, rfl⟩ := H
     have hcz12_0 : wc.cell? ⟨gb486, 0, none⟩ = some (.bool false) := (blk_cell BK486.out 0).trans rfl
     have hcz12_1 : wc.cell? ⟨gb486, 1, none⟩ = some (.slice none 0 0) := (blk_cell BK486.out 1).trans rfl
     have hfz12_0 := blk_frozen BK486.out 0
     have hfz12_1 := blk_frozen BK486.out 1
     go_wp2
     refine bodyPost_ret (results_ct rfl _ _ gb486 25 #[.bool false, .slice none 0 0] (0, 0) _ rfl (by (with_reducible repeat (first | refine blk_drewN ?_ _ | refine blk_drew ?_ | refine blk_alloc ?_ _)); refine blk_put (cs := #[.bool false, .slice none 0 0]) ?_ 1 _ rfl; (with_reducible repeat (first | refine blk_drewN ?_ _ | refine blk_drew ?_ | refine blk_alloc ?_ _)); refine blk_put (cs := #[.bool false, .slice none 0 0]) ?_ 0 _ rfl; (with_reducible repeat (first | refine blk_drewN ?_ _ | refine blk_drew ?_ | refine blk_alloc ?_ _)); exact BK486.out) Tryd.underlying25 rfl (by kernel_rfl)) rfl ?_
     exact ⟨_, by first | rfl | (simp [errW_none, errW_some] <;> rfl) | (simp [*, errW_none, errW_some] <;> rfl), by first | exact Kd.R_nil _ _ _ _ _ | exact Kd.N_nil _ _ _ _ _ | exact Kd.V_nil _ _ _ _ _ | exact Kd.Q_nil _ _ _ _ _ | exact Kd.S_nil _ _ _ _ _, by repeat (first | (with_reducible first | exact HB.out | apply below_alloc | apply pw_below_drewN | apply below_drew1 | refine below_set ?_ GE486.out) | exact HB.out)⟩
    ·
     replace c11 := Bool.eq_false_iff.mpr c11
     subst c11
     have H1 : (if 0 < (t487.size : Int) then (if (bt t487 0) = 48 then (if (t487.size : Int) > 1 then (integer_Parse.j1 kj5 t487 t488 true) else (integer_Parse.j1 kj5 t487 t488 t488)) else (integer_Parse.j1 kj5 t487 t488 false)) else (none)) = some (r1, r2, r3) := by rw [if_neg (show ¬ (false = true) by decide)] at H; exact H
     clear H
     have H := H1
     clear H1
     have HC13 := Aside0.mk H
     clear H
     go_upto_region 6 with (fail)
     go_cut [37] (fun v37 wc => ∃ (kq : Nat) (x37_12 : Bool), v37 = .bool x37_12 ∧ Aside0 (integer_Parse.j1 kq t487 t488 x37_12 = some (r1, r2, r3)) ∧ Aside0 (kq ≤ kj5) ∧ Aside0 (wc.heap[gb486]? = some (.cells #[.bool false, (.slice none 0 0)] 25 (0, 0))) ∧ Aside0 (Below w.heap.size w wc))
     case first =>
      have H := HC13.out
      clear HC13
      by_cases c14 : 0 < (t487.size : Int)
      ·
       rw [if_pos c14] at H
       have c14b0 : decide (0 < (t487.size : Int)) = true := decide_eq_true c14
       have c14b1 : decide (0 < t487.size) = true := decide_eq_true (by omega)
       clear c14
       (first | rw [c14b0] | (simp only [i64_w, i32_w]; rw [c14b0]) | skip)
       by_cases c16 : (bt t487 0) = 48
       ·
        rw [if_pos c16] at H
        have c16b0 : ((bt t487 0) == 48) = true := beq_iff_eq.mpr c16
        have c16b1 : ((bt t487 0) != 48) = false := bne_eq_false_iff_eq.mpr c16
        clear c16
        by_cases c17 : (t487.size : Int) > 1
        ·
         rw [if_pos c17] at H
         have c17b0 : decide (1 < (t487.size : Int)) = true := decide_eq_true c17
         have c17b1 : decide (1 < t487.size) = true := decide_eq_true (by omega)
         clear c17
         have H' := Aside0.mk H
         clear H
         have p15 : 0 ≤ (0 : Int) := (by omega)
         have q15 : 0 < t487.size := (by have : (0 : Int) < (t487.size : Int) := of_decide_eq_true (by assumption); omega)
         have hx15 : ∀ h : 0 < t487.size, ((t487[0]'h).toNat : Int) = bt t487 0 := bt_at t487 0
         clear p15
         have qi15 : (0 < (t487.size : Int)) = True := eq_true (of_decide_eq_true (by assumption))
         replace q15 := eq_true q15
         go_wp2
         go_meet
         case rel => exact ⟨_, (true), (by first | rfl | (simp; done) | (simp [*]; done) | (simp <;> omega)), H', ⟨by have := HJ5.out; first | omega | exact Nat.le_refl _⟩, ⟨by (with_reducible repeat (first | refine blk_drewN ?_ _ | refine blk_drew ?_ | refine blk_alloc ?_ _)); exact BK486.out⟩, ⟨by repeat (first | (with_reducible first | exact HB.out | apply below_alloc | apply pw_below_drewN | apply below_drew1 | refine below_set ?_ GE486.out) | exact HB.out)⟩⟩
        ·
         rw [if_neg c17] at H
         have c17b0 : decide (1 < (t487.size : Int)) = false := decide_eq_false c17
         have c17b1 : decide (1 < t487.size) = false := decide_eq_false (by omega)
         clear c17
         have H' := Aside0.mk H
         clear H
         have p15 : 0 ≤ (0 : Int) := (by omega)
         have q15 : 0 < t487.size := (by have : (0 : Int) < (t487.size : Int) := of_decide_eq_true (by assumption); omega)
         have hx15 : ∀ h : 0 < t487.size, ((t487[0]'h).toNat : Int) = bt t487 0 := bt_at t487 0
         clear p15
         have qi15 : (0 < (t487.size : Int)) = True := eq_true (of_decide_eq_true (by assumption))
         replace q15 := eq_true q15
         go_wp2
         go_meet
         case rel => exact ⟨_, (t488), (by first | rfl | (simp; done) | (simp [*]; done) | (simp <;> omega)), H', ⟨by have := HJ5.out; first | omega | exact Nat.le_refl _⟩, ⟨by (with_reducible repeat (first | refine blk_drewN ?_ _ | refine blk_drew ?_ | refine blk_alloc ?_ _)); exact BK486.out⟩, ⟨by repeat (first | (with_reducible first | exact HB.out | apply below_alloc | apply pw_below_drewN | apply below_drew1 | refine below_set ?_ GE486.out) | exact HB.out)⟩⟩
       ·
        rw [if_neg c16] at H
        have c16b0 : ((bt t487 0) == 48) = false := beq_eq_false_iff_ne.mpr c16
        have c16b1 : ((bt t487 0) != 48) = true := bne_iff_ne.mpr c16
        have H' := Aside0.mk H
        clear H
        have p15 : 0 ≤ (0 : Int) := (by omega)
        have q15 : 0 < t487.size := (by have : (0 : Int) < (t487.size : Int) := of_decide_eq_true (by assumption); omega)
        have hx15 : ∀ h : 0 < t487.size, ((t487[0]'h).toNat : Int) = bt t487 0 := bt_at t487 0
        clear p15
        have qi15 : (0 < (t487.size : Int)) = True := eq_true (of_decide_eq_true (by assumption))
        replace q15 := eq_true q15
        go_wp2
        go_meet
        case rel => exact ⟨_, (false), (by first | rfl | (simp; done) | (simp [*]; done) | (simp <;> omega)), H', ⟨by have := HJ5.out; first | omega | exact Nat.le_refl _⟩, ⟨by (with_reducible repeat (first | refine blk_drewN ?_ _ | refine blk_drew ?_ | refine blk_alloc ?_ _)); exact BK486.out⟩, ⟨by repeat (first | (with_reducible first | exact HB.out | apply below_alloc | apply pw_below_drewN | apply below_drew1 | refine below_set ?_ GE486.out) | exact HB.out)⟩⟩
      ·
       rw [if_neg c14] at H
       exact absurd H (by simp)
     case rest =>
      clear HC13
      try clear c1
      try clear p1
      try clear q1
      try clear hx1
      try clear qi1
      try clear c2
      try clear c2b0
      try clear c2b1
      try clear p2
      try clear c5
      try clear c8
      try clear c8b0
      try clear c8b1
      try clear c11
      try clear c14
      try clear c14b0
      try clear c14b1
      try clear p15
      try clear q15
      try clear hx15
      try clear qi15
      try clear c16
      try clear c16b0
      try clear c16b1
      try clear c17
      try clear c17b0
      try clear c17b1
      try clear hcz12_0
      try clear hcz12_1
      try clear hcz4_0
      try clear hcz4_1
      try clear hfz12_0
      try clear hfz12_1
      try clear hfz4_0
      try clear hfz4_1
      try clear p15
      try clear p2
      try clear q15
      obtain ⟨kq, x37_12, rfl, HA, HJ12, BK486, HB⟩ := hcut
      cases kq with
      | zero => exact absurd HA.out (by simp [integer_Parse.j1])
      | succ kj12 =>
       have H := HA.out
       clear HA
       simp only [integer_Parse.j1] at H
       by_cases c18 : x37_12 = true
       ·
        subst c18
        have H1 : (some (false, ([] : List Int), 3)) = some (r1, r2, r3) := by rw [if_pos rfl] at H; exact H
        clear H
        have H := H1
        clear H1
        simp only [Option.some.injEq, Prod.mk.injEq] at H
        obtain ⟨rfl, rfl, rfl⟩ := H
        have hcz19_0 : wc.cell? ⟨gb486, 0, none⟩ = some (.bool false) := (blk_cell BK486.out 0).trans rfl
        have hcz19_1 : wc.cell? ⟨gb486, 1, none⟩ = some (.slice none 0 0) := (blk_cell BK486.out 1).trans rfl
        have hfz19_0 := blk_frozen BK486.out 0
        have hfz19_1 := blk_frozen BK486.out 1
        go_wp2
        refine bodyPost_ret (results_ct rfl _ _ gb486 25 #[.bool false, .slice none 0 0] (0, 0) _ rfl (by (with_reducible repeat (first | refine blk_drewN ?_ _ | refine blk_drew ?_ | refine blk_alloc ?_ _)); refine blk_put (cs := #[.bool false, .slice none 0 0]) ?_ 1 _ rfl; (with_reducible repeat (first | refine blk_drewN ?_ _ | refine blk_drew ?_ | refine blk_alloc ?_ _)); refine blk_put (cs := #[.bool false, .slice none 0 0]) ?_ 0 _ rfl; (with_reducible repeat (first | refine blk_drewN ?_ _ | refine blk_drew ?_ | refine blk_alloc ?_ _)); exact BK486.out) Tryd.underlying25 rfl (by kernel_rfl)) rfl ?_
        exact ⟨_, by first | rfl | (simp [errW_none, errW_some] <;> rfl) | (simp [*, errW_none, errW_some] <;> rfl), by first | exact Kd.R_nil _ _ _ _ _ | exact Kd.N_nil _ _ _ _ _ | exact Kd.V_nil _ _ _ _ _ | exact Kd.Q_nil _ _ _ _ _ | exact Kd.S_nil _ _ _ _ _, by repeat (first | (with_reducible first | exact HB.out | apply below_alloc | apply pw_below_drewN | apply below_drew1 | refine below_set ?_ GE486.out) | exact HB.out)⟩
       ·
        replace c18 := Bool.eq_false_iff.mpr c18
        subst c18
        have H1 : (integer_Parse.l0 kj12 t487 t488 ([] : List Int)) = some (r1, r2, r3) := by rw [if_neg (show ¬ (false = true) by decide)] at H; exact H
        clear H
        have H := H1
        clear H1
        have H' := Aside0.mk H
        clear H
        go_wp2
        go_loopg [4, 6] kj12 (fun kq v4 v6 w' => ∃ (x4_3 : ByteArray) (x6_3 : List Int), v4 = .string x4_3 ∧ Aside0 (integer_Parse.l0 kq x4_3 t488 x6_3 = some (r1, r2, r3)) ∧ Aside0 (kq ≤ kj12) ∧ Aside0 (Kd.V (Kd.int .u32) 60 w' w.heap.size (fun k_ => (w.heap.size ≤ k_) ∧ k_ ≠ gb486) v6 x6_3) ∧ Aside0 (w'.heap[gb486]? = some (.cells #[.bool false, (.slice none 0 0)] 25 (0, 0))) ∧ Aside0 (Below w.heap.size w w'))
        case atStart => exact ⟨(t487), (([] : List Int)), (by first | rfl | (simp; done) | (simp [*]; done) | (simp <;> omega)), H', ⟨Nat.le_refl _⟩, ⟨by first | exact Kd.R_nil _ _ _ _ _ | exact Kd.N_nil _ _ _ _ _ | exact Kd.V_nil _ _ _ _ _ | exact Kd.Q_nil _ _ _ _ _ | exact Kd.S_nil _ _ _ _ _⟩, ⟨by (with_reducible repeat (first | refine blk_drewN ?_ _ | refine blk_drew ?_ | refine blk_alloc ?_ _)); exact BK486.out⟩, ⟨by repeat (first | (with_reducible first | exact HB.out | apply below_alloc | apply pw_below_drewN | apply below_drew1 | refine below_set ?_ GE486.out) | exact HB.out)⟩⟩
        case round =>
         clear H'
         try clear c1
         try clear p1
         try clear q1
         try clear hx1
         try clear qi1
         try clear c2
         try clear c2b0
         try clear c2b1
         try clear p2
         try clear c5
         try clear c8
         try clear c8b0
         try clear c8b1
         try clear c11
         try clear c14
         try clear c14b0
         try clear c14b1
         try clear p15
         try clear q15
         try clear hx15
         try clear qi15
         try clear c16
         try clear c16b0
         try clear c16b1
         try clear c17
         try clear c17b0
         try clear c17b1
         try clear c18
         try clear hcz12_0
         try clear hcz12_1
         try clear hcz19_0
         try clear hcz19_1
         try clear hcz4_0
         try clear hcz4_1
         try clear hfz12_0
         try clear hfz12_1
         try clear hfz19_0
         try clear hfz19_1
         try clear hfz4_0
         try clear hfz4_1
         try clear p1
         try clear p15
         try clear p2
         try clear q1
         try clear q15
         obtain ⟨x4_3, x6_3, rfl, HA, HK3, HO_6, BK486, HB⟩ := hrel
         cases gk with
         | zero => exact absurd HA.out (by simp [integer_Parse.l0])
         | succ k3 =>
          have H := HA.out
          clear HA
          simp only [integer_Parse.l0] at H
          by_cases c20 : (x4_3.size : Int) > 0
          ·
           rw [if_pos c20] at H
           have c20b0 : decide (0 < (x4_3.size : Int)) = true := decide_eq_true c20
           have c20b1 : decide (0 < x4_3.size) = true := decide_eq_true (by omega)
           clear c20
           have H' := Aside0.mk H
           clear H
           go_wp2
           go_loopg [8, 48] k3 (fun kq v8 v48 w' => ∃ (x8_4 : Int) (x48_4 : Int), v8 = .int .u32 x8_4 ∧ v48 = .int .i64 x48_4 ∧ Aside0 (integer_Parse.l1 kq x4_3 t488 x6_3 (wrap64 ((Int.tmod (wrap64 ((x4_3.size : Int) - 1)) 9) + 1)) x8_4 (wrap64 ((Int.tmod (wrap64 ((x4_3.size : Int) - 1)) 9) + 1)) x48_4 = some (r1, r2, r3)) ∧ Aside0 (kq ≤ k3) ∧ Aside0 (Kd.V (Kd.int .u32) 60 w' w.heap.size (fun k_ => (w.heap.size ≤ k_) ∧ k_ ≠ gb486) u6 x6_3) ∧ Aside0 (w'.heap[gb486]? = some (.cells #[.bool false, (.slice none 0 0)] 25 (0, 0))) ∧ Aside0 (Below w.heap.size w w'))
           case atStart => exact ⟨(1), (0), (by first | rfl | (simp; done) | (simp [*]; done) | (simp <;> omega)), (by first | rfl | (simp; done) | (simp [*]; done) | (simp <;> omega)), H', ⟨Nat.le_refl _⟩, ⟨by (with_reducible repeat (first | apply Kd.V_alloc | apply Kd.V_drewN | apply Kd.V_drew)); exact HO_6.out⟩, ⟨by (with_reducible repeat (first | refine blk_drewN ?_ _ | refine blk_drew ?_ | refine blk_alloc ?_ _)); exact BK486.out⟩, ⟨by repeat (first | (with_reducible first | exact HB.out | apply below_alloc | apply pw_below_drewN | apply below_drew1 | refine below_set ?_ GE486.out) | exact HB.out)⟩⟩
           case round =>
            clear H'
            try clear c1
            try clear p1
            try clear q1
            try clear hx1
            try clear qi1
            try clear c2
            try clear c2b0
            try clear c2b1
            try clear p2
            try clear c5
            try clear p6
            try clear c8
            try clear c8b0
            try clear c8b1
            try clear c11
            try clear c14
            try clear c14b0
            try clear c14b1
            try clear p15
            try clear q15
            try clear hx15
            try clear qi15
            try clear c16
            try clear c16b0
            try clear c16b1
            try clear c17
            try clear c17b0
            try clear c17b1
            try clear c18
            try clear c20
            try clear c20b0
            try clear c20b1
            try clear hcz12_0
            try clear hcz12_1
            try clear hcz19_0
            try clear hcz19_1
            try clear hcz4_0
            try clear hcz4_1
            try clear hfz12_0
            try clear hfz12_1
            try clear hfz19_0
            try clear hfz19_1
            try clear hfz4_0
            try clear hfz4_1
            try clear p1
            try clear p15
            try clear p2
            try clear q1
            try clear q15
            obtain ⟨x8_4, x48_4, rfl, rfl, HA, HK4, HO_6, BK486, HB⟩ := hrel
            cases gk with
            | zero => exact absurd HA.out (by simp [integer_Parse.l1])
            | succ k4 =>
             have H := HA.out
             clear HA
             simp only [integer_Parse.l1] at H
             by_cases c21 : x48_4 < (wrap64 ((Int.tmod (wrap64 ((x4_3.size : Int) - 1)) 9) + 1))
             ·
              rw [if_pos c21] at H
              have c21b0 : decide (x48_4 < (wrap64 ((Int.tmod (wrap64 ((x4_3.size : Int) - 1)) 9) + 1))) = true := decide_eq_true c21
              clear c21
              have H' := Aside0.mk H
              clear H
              go_wp2
              go_roundg k4
              case measure => have := HJ5.out; have := HJ12.out; have := HK3.out; have := HK4.out; omega
              case rel => exact ⟨((x8_4 * 10) % 4294967296), (wrap64 (x48_4 + 1)), (by first | rfl | (simp; done) | (simp [*]; done) | (simp <;> omega)), (by first | rfl | (simp; done) | (simp [*]; done) | (simp <;> omega)), H', ⟨by have := HJ5.out; have := HJ12.out; have := HK3.out; have := HK4.out; omega⟩, ⟨by (with_reducible repeat (first | apply Kd.V_alloc | apply Kd.V_drewN | apply Kd.V_drew)); exact HO_6.out⟩, ⟨by (with_reducible repeat (first | refine blk_drewN ?_ _ | refine blk_drew ?_ | refine blk_alloc ?_ _)); exact BK486.out⟩, ⟨by repeat (first | (with_reducible first | exact HB.out | apply below_alloc | apply pw_below_drewN | apply below_drew1 | refine below_set ?_ GE486.out) | exact HB.out)⟩⟩
             ·
              rw [if_neg c21] at H
              have c21b0 : decide (x48_4 < (wrap64 ((Int.tmod (wrap64 ((x4_3.size : Int) - 1)) 9) + 1))) = false := decide_eq_false c21
              clear c21
              obtain ⟨ji22, hji22⟩ : ∃ j_ : Int, (wrap64 ((Int.tmod (wrap64 ((x4_3.size : Int) - 1)) 9) + 1)) = j_ := ⟨_, rfl⟩
              replace H : (if 0 ≤ (ji22) then (if (ji22) ≤ (x4_3.size : Int) then ((strconv_ParseUint_56.f (x4_3.extract 0 ((ji22) : Int).toNat) 10 32).bind fun bt494 => ((integer_scale.f k4 x6_3 x8_4 ((bt494.1) % 4294967296)).bind fun t496 => (integer_Parse.l0 k4 (x4_3.extract ((ji22) : Int).toNat x4_3.size) t488 t496))) else (none)) else (none)) = some (r1, r2, r3) := by first | (rw [hji22] at H; exact H) | (simp only [hji22] at H ⊢; exact H)
              (try rw [hji22] at c21b0)
              have hji22w : (IntKind.i64.wrap ((Int.tmod (wrap64 ((x4_3.size : Int) - 1)) 9) + 1)) = ji22 := (i64_w _).trans hji22
              by_cases c23 : 0 ≤ (ji22)
              ·
               rw [if_pos c23] at H
               have c23b0 := eq_true c23
               have c23b1 : decide (0 ≤ (ji22)) = true := decide_eq_true c23
               clear c23
               by_cases c24 : (ji22) ≤ (x4_3.size : Int)
               ·
                rw [if_pos c24] at H
                have c24b0 := eq_true c24
                have c24b1 : decide ((ji22) ≤ (x4_3.size : Int)) = true := decide_eq_true c24
                clear c24
                replace H := Option.bind_eq_some_iff.mp H
                obtain ⟨⟨t494, t495⟩, A250, H⟩ := H
                replace H : ((integer_scale.f k4 x6_3 x8_4 ((t494) % 4294967296)).bind fun t496 => (integer_Parse.l0 k4 (x4_3.extract ((ji22) : Int).toNat x4_3.size) t488 t496)) = some (r1, r2, r3) := H
                have A25 := Aside0.mk A250
                clear A250
                replace H := Option.bind_eq_some_iff.mp H
                obtain ⟨t496, A260, H⟩ := H
                replace H : (integer_Parse.l0 k4 (x4_3.extract ((ji22) : Int).toNat x4_3.size) t488 t496) = some (r1, r2, r3) := H
                have A26 := Aside0.mk A260
                clear A260
                have c27b0 := eq_true (of_decide_eq_true (by assumption) : 0 ≤ (ji22))
                have c28b0 := eq_true (of_decide_eq_true (by assumption) : (ji22) ≤ (x4_3.size : Int))
                have H' := Aside0.mk H
                clear H
                go_wp2_with (first | ((with_reducible refine gate_callee (f := 56) rfl ?_); refine goesL_ (some 57) rfl rfl Tryd.func56 (by kernel_rfl) rfl #[.string (x4_3.extract 0 ((ji22) : Int).toNat), .int .i64 10, .int .i64 32] rfl (by (try simp only [List.map_toArray, List.map_cons, List.map_nil]); first | done | (simp only [hji22]; rfl) | rfl | (simp only [List.length_drop, List.length_take]; rfl)) ?_; (with_reducible refine (strconv_ParseUint_56.calls (x4_3.extract 0 ((ji22) : Int).toNat) 10 32 t494 t495 _ A25.out).mono ?_); rintro e w29 ⟨rfl, hb⟩; refine ⟨_, rfl, ?_⟩; have n0_ := Aside0.mk (Kd.V_below (by (with_reducible repeat (first | apply Kd.V_alloc | apply Kd.V_drewN | apply Kd.V_drew)); exact HO_6.out) hb); have n1_ := Aside0.mk (blk_below (g := gb486) (o := .cells #[.bool false, .slice none 0 0] 25 (0, 0)) (by (with_reducible repeat (first | refine blk_drewN ?_ _ | refine blk_drew ?_ | refine blk_alloc ?_ _)); exact BK486.out) hb); have n2_ := Aside0.mk (below_step (by repeat (first | (with_reducible first | exact HB.out | apply below_alloc | apply pw_below_drewN | apply below_drew1 | refine below_set ?_ GE486.out) | exact HB.out)) hb); clear HO_6; clear BK486; clear HB; have HO_6 := n0_; have BK486 := n1_; have HB := n2_; clear n0_ n1_ n2_; (try clear hb); (try clear hb2); (try clear hk); (try clear hi); (try simp only [errW_none, errW_some]); obtain ⟨Ao30, co30, eo30⟩ := Kd.V_slice HO_6.out; subst eo30) | ((with_reducible refine gate_callee (f := 57) rfl ?_); refine goesL_ (some 64) rfl rfl Tryd.func57 (by kernel_rfl) rfl #[.slice Ao30 x6_3.length co30, .int .u32 x8_4, .int .u32 ((t494) % 4294967296)] rfl (by (try simp only [List.map_toArray, List.map_cons, List.map_nil]); first | done | rfl | (simp only [List.length_drop, List.length_take]; rfl)) ?_; (with_reducible refine (integer_scale.calls k4 _ _ x6_3 x8_4 ((t494) % 4294967296) t496 _ ?side1 ?side2 A26.out).mono ?_); (case side1 => repeat (first | exact (Kd.V_reads' HO_6.out).2.2 | (with_reducible refine Kd.C_alloc ?_ _) | (with_reducible refine Kd.C_drewN ?_ _) | (with_reducible refine Kd.C_drew ?_))); (case side2 => exact (Kd.V_reads' HO_6.out).2.1); rintro e w31 ⟨v497, rfl, ho0, hb⟩; refine ⟨_, rfl, ?_⟩; have n0_ := Aside0.mk (Kd.V_below (by (with_reducible repeat (first | apply Kd.V_alloc | apply Kd.V_drewN | apply Kd.V_drew)); exact HO_6.out) hb); have n1_ := Aside0.mk (Kd.V_lower (Kd.V_mono (ok' := fun k_ => (w.heap.size ≤ k_) ∧ k_ ≠ gb486) ho0 (fun k_ hk_ => ⟨(Nat.le_trans (below_size (by repeat (first | (with_reducible first | exact HB.out | apply below_alloc | apply pw_below_drewN | apply below_drew1 | refine below_set ?_ GE486.out) | exact HB.out))) hk_), (Kd.freshB (g := gb486) (o := .cells #[.bool false, .slice none 0 0] 25 (0, 0)) (by (with_reducible repeat (first | refine blk_drewN ?_ _ | refine blk_drew ?_ | refine blk_alloc ?_ _)); exact BK486.out) k_ hk_)⟩)) (below_size (by repeat (first | (with_reducible first | exact HB.out | apply below_alloc | apply pw_below_drewN | apply below_drew1 | refine below_set ?_ GE486.out) | exact HB.out)))); have n2_ := Aside0.mk (blk_below (g := gb486) (o := .cells #[.bool false, .slice none 0 0] 25 (0, 0)) (by (with_reducible repeat (first | refine blk_drewN ?_ _ | refine blk_drew ?_ | refine blk_alloc ?_ _)); exact BK486.out) hb); have n3_ := Aside0.mk (below_step (by repeat (first | (with_reducible first | exact HB.out | apply below_alloc | apply pw_below_drewN | apply below_drew1 | refine below_set ?_ GE486.out) | exact HB.out)) hb); clear HO_6; clear BK486; clear HB; have HO_6 := n0_; have HO498 := n1_; have BK486 := n2_; have HB := n3_; clear n0_ n1_ n2_ n3_; (try clear hb); (try clear hb2); (try clear hk); (try clear hi); (try clear ho0)))
                go_roundg k4
                case measure => have := HJ5.out; have := HJ12.out; have := HK3.out; have := HK4.out; omega
                case rel => exact ⟨(x4_3.extract ((ji22) : Int).toNat x4_3.size), (t496), (by first | rfl | (simp; done) | (simp only [← hji22] <;> (first | rfl | simp)) | (simp [*]; done)), H', ⟨by have := HJ5.out; have := HJ12.out; have := HK3.out; have := HK4.out; omega⟩, ⟨by (with_reducible repeat (first | apply Kd.V_alloc | apply Kd.V_drewN | apply Kd.V_drew)); exact HO498.out⟩, ⟨by (with_reducible repeat (first | refine blk_drewN ?_ _ | refine blk_drew ?_ | refine blk_alloc ?_ _)); exact BK486.out⟩, ⟨by repeat (first | (with_reducible first | exact HB.out | apply below_alloc | apply pw_below_drewN | apply below_drew1 | refine below_set ?_ GE486.out) | exact HB.out)⟩⟩
               ·
                rw [if_neg c24] at H
                exact absurd H (by simp)
              ·
               rw [if_neg c23] at H
               exact absurd H (by simp)
          ·
           rw [if_neg c20] at H
           have c20b0 : decide (0 < (x4_3.size : Int)) = false := decide_eq_false c20
           have c20b1 : decide (0 < x4_3.size) = false := decide_eq_false (by omega)
           clear c20
           replace H := Option.bind_eq_some_iff.mp H
           obtain ⟨⟨t490, t491⟩, A320, H⟩ := H
           replace H : (some (t490, t491, 0)) = some (r1, r2, r3) := H
           have A32 := Aside0.mk A320
           clear A320
           simp only [Option.some.injEq, Prod.mk.injEq] at H
           obtain ⟨rfl, rfl, rfl⟩ := H
           obtain ⟨Ao33, co33, eo33⟩ := Kd.V_slice HO_6.out
           subst eo33
           go_wp2_with (first | ((with_reducible refine gate_callee (f := 45) rfl ?_); refine goesL_ (some 70) rfl rfl Tryd.func45 (by kernel_rfl) rfl #[.bool t488, .slice Ao33 x6_3.length co33] rfl (by (try simp only [List.map_toArray, List.map_cons, List.map_nil]); first | done | rfl | (simp only [List.length_drop, List.length_take]; rfl)) ?_; (with_reducible refine (integer_signed.calls k3 t488 (fun k_ => ((w.heap.size ≤ k_) ∧ k_ ≠ gb486)) _ _ x6_3 t490 t491 _ ?side1 A32.out).mono ?_); (case side1 => exact HO_6.out); rintro e w34 ⟨v492, rfl, ho0, hb⟩; refine ⟨_, rfl, ?_⟩; have n0_ := Aside0.mk (Kd.V_below (by (with_reducible repeat (first | apply Kd.V_alloc | apply Kd.V_drewN | apply Kd.V_drew)); exact HO_6.out) hb); have n1_ := Aside0.mk (Kd.V_lower (Kd.V_mono (ok' := fun k_ => (w.heap.size ≤ k_) ∧ k_ ≠ gb486) ho0 (fun k_ hk_ => ⟨Or.elim hk_ (fun hs_ => hs_.1) (fun hn_ => (Nat.le_trans (below_size (by repeat (first | (with_reducible first | exact HB.out | apply below_alloc | apply pw_below_drewN | apply below_drew1 | refine below_set ?_ GE486.out) | exact HB.out))) hn_)), Or.elim hk_ (fun hs_ => hs_.2) (fun hn_ => (Kd.freshB (g := gb486) (o := .cells #[.bool false, .slice none 0 0] 25 (0, 0)) (by (with_reducible repeat (first | refine blk_drewN ?_ _ | refine blk_drew ?_ | refine blk_alloc ?_ _)); exact BK486.out) k_ hn_))⟩)) (below_size (by repeat (first | (with_reducible first | exact HB.out | apply below_alloc | apply pw_below_drewN | apply below_drew1 | refine below_set ?_ GE486.out) | exact HB.out)))); have n2_ := Aside0.mk (blk_below (g := gb486) (o := .cells #[.bool false, .slice none 0 0] 25 (0, 0)) (by (with_reducible repeat (first | refine blk_drewN ?_ _ | refine blk_drew ?_ | refine blk_alloc ?_ _)); exact BK486.out) hb); have n3_ := Aside0.mk (below_step (by repeat (first | (with_reducible first | exact HB.out | apply below_alloc | apply pw_below_drewN | apply below_drew1 | refine below_set ?_ GE486.out) | exact HB.out)) hb); clear HO_6; clear BK486; clear HB; have HO_6 := n0_; have HO493 := n1_; have BK486 := n2_; have HB := n3_; clear n0_ n1_ n2_ n3_; (try clear hb); (try clear hb2); (try clear hk); (try clear hi); (try clear ho0); have hcz35_0 : w34.cell? ⟨gb486, 0, none⟩ = some (.bool false) := (blk_cell BK486.out 0).trans rfl; have hcz35_1 : w34.cell? ⟨gb486, 1, none⟩ = some (.slice none 0 0) := (blk_cell BK486.out 1).trans rfl; have hfz35_0 := blk_frozen BK486.out 0; have hfz35_1 := blk_frozen BK486.out 1; obtain ⟨Ao36, co36, eo36⟩ := Kd.V_slice HO493.out; subst eo36))
           refine bodyPost_ret (results_ct rfl _ _ gb486 25 #[.bool t490, .slice Ao36 t491.length co36] (0, 0) _ rfl (by (with_reducible repeat (first | refine blk_drewN ?_ _ | refine blk_drew ?_ | refine blk_alloc ?_ _)); refine blk_put (cs := #[.bool t490, .slice none 0 0]) ?_ 1 _ rfl; (with_reducible repeat (first | refine blk_drewN ?_ _ | refine blk_drew ?_ | refine blk_alloc ?_ _)); refine blk_put (cs := #[.bool false, .slice none 0 0]) ?_ 0 _ rfl; (with_reducible repeat (first | refine blk_drewN ?_ _ | refine blk_drew ?_ | refine blk_alloc ?_ _)); exact BK486.out) Tryd.underlying25 rfl (by kernel_rfl)) rfl ?_
           exact ⟨_, by first | rfl | (simp [errW_none, errW_some] <;> rfl) | (simp [*, errW_none, errW_some] <;> rfl), by (with_reducible repeat (first | apply Kd.V_alloc | apply Kd.V_drewN | apply Kd.V_drew)); exact Kd.V_mono (Kd.V_far (p := ⟨gb486, 1, none⟩) (Kd.V_far (p := ⟨gb486, 0, none⟩) (Kd.V_mono HO493.out (fun k_ hk => (⟨hk, hk.2⟩ : _ ∧ k_ ≠ gb486))) (fun _ hk => hk.2) (.bool t490)) (fun _ hk => hk.2) (.slice Ao36 t491.length co36)) (fun _ hk => hk.1.1), by repeat (first | (with_reducible first | exact HB.out | apply below_alloc | apply pw_below_drewN | apply below_drew1 | refine below_set ?_ GE486.out) | exact HB.out)⟩
mutual
def dowelref01_Check.j0 : Nat → ByteArray → ByteArray → Bool → Option (Int)
 | 0, _, _, _ => none
 | k + 1, x0, x3, x16 => if x16 = true then (if 1 ≤ (x3.size : Int) then (dowelref01_Check.j1 k x0 (x3.extract 1 x3.size)) else (none)) else (dowelref01_Check.j1 k x0 x3)
def dowelref01_Check.j1 : Nat → ByteArray → ByteArray → Option (Int)
 | 0, _, _ => none
 | k + 1, x0, x3 => if (x3.size : Int) = 0 then (some 14) else (dowelref01_Check.l0 k x0 x3 0)
def dowelref01_Check.l0 : Nat → ByteArray → ByteArray → Int → Option (Int)
 | 0, _, _, _ => none
 | k + 1, x0, x3, x4 => if x4 < (x3.size : Int) then (if 0 ≤ x4 then (if (bt x3 x4) < 48 then (some 14) else (if (bt x3 x4) > 57 then (some 14) else (dowelref01_Check.l0 k x0 x3 (wrap64 (x4 + 1))))) else (none)) else (if 0 < (x3.size : Int) then (if (bt x3 0) = 48 then (if (x3.size : Int) > 1 then (some 3) else (if (x0.size : Int) > 1 then (some 3) else (some 0))) else (some 0)) else (none))
end
def dowelref01_Check.f (k : Nat) (a0 : ByteArray) : Option (Int) := if (a0.size : Int) > 65536 then (some 5) else (if (a0.size : Int) > 0 then (if 0 < (a0.size : Int) then (dowelref01_Check.j0 k a0 a0 ((bt a0 0) == 45)) else (none)) else (dowelref01_Check.j0 k a0 a0 false))
theorem dowelref01_Check.mono_l : ∀ k, (∀ y0 y1 y2, LeO (dowelref01_Check.j0 k y0 y1 y2) (dowelref01_Check.j0 (k + 1) y0 y1 y2)) ∧ (∀ y0 y1, LeO (dowelref01_Check.j1 k y0 y1) (dowelref01_Check.j1 (k + 1) y0 y1)) ∧ (∀ y0 y1 y2, LeO (dowelref01_Check.l0 k y0 y1 y2) (dowelref01_Check.l0 (k + 1) y0 y1 y2))
 | 0 => ⟨fun _ _ _ r h => by simp [dowelref01_Check.j0] at h, fun _ _ r h => by simp [dowelref01_Check.j1] at h, fun _ _ _ r h => by simp [dowelref01_Check.l0] at h⟩
 | k + 1 => by
  obtain ⟨ih0, ih1, ih2⟩ := dowelref01_Check.mono_l k
  refine ⟨?_, ?_, ?_⟩
  ·
   intro y0 y1 y2
   unfold dowelref01_Check.j0
   repeat' first
   | (with_reducible exact ih0 _ _ _)
   | (with_reducible exact ih1 _ _)
   | (with_reducible exact ih2 _ _ _)
   | (with_reducible exact LeO.refl _)
   | (with_reducible exact LeO.none _)
   | (with_reducible refine LeO.ite ?_ ?_)
   | (with_reducible refine LeO.bind ?_ (fun _ => ?_))
   | exact ih0 _ _ _
   | exact ih1 _ _
   | exact ih2 _ _ _
   | exact LeO.none _
   | refine LeO.ite ?_ ?_
   | refine LeO.bind ?_ (fun _ => ?_)
  ·
   intro y0 y1
   unfold dowelref01_Check.j1
   repeat' first
   | (with_reducible exact ih0 _ _ _)
   | (with_reducible exact ih1 _ _)
   | (with_reducible exact ih2 _ _ _)
   | (with_reducible exact LeO.refl _)
   | (with_reducible exact LeO.none _)
   | (with_reducible refine LeO.ite ?_ ?_)
   | (with_reducible refine LeO.bind ?_ (fun _ => ?_))
   | exact ih0 _ _ _
   | exact ih1 _ _
   | exact ih2 _ _ _
   | exact LeO.none _
   | refine LeO.ite ?_ ?_
   | refine LeO.bind ?_ (fun _ => ?_)
  ·
   intro y0 y1 y2
   unfold dowelref01_Check.l0
   repeat' first
   | (with_reducible exact ih0 _ _ _)
   | (with_reducible exact ih1 _ _)
   | (with_reducible exact ih2 _ _ _)
   | (with_reducible exact LeO.refl _)
   | (with_reducible exact LeO.none _)
   | (with_reducible refine LeO.ite ?_ ?_)
   | (with_reducible refine LeO.bind ?_ (fun _ => ?_))
   | exact ih0 _ _ _
   | exact ih1 _ _
   | exact ih2 _ _ _
   | exact LeO.none _
   | refine LeO.ite ?_ ?_
   | refine LeO.bind ?_ (fun _ => ?_)
theorem dowelref01_Check.mono : ∀ a0 k, LeO (dowelref01_Check.f k a0) (dowelref01_Check.f (k + 1) a0) := by
 intro a0 k
 obtain ⟨ih0, ih1, ih2⟩ := dowelref01_Check.mono_l k
 unfold dowelref01_Check.f
 repeat' first
   | (with_reducible exact ih0 _ _ _)
   | (with_reducible exact ih1 _ _)
   | (with_reducible exact ih2 _ _ _)
   | (with_reducible exact LeO.refl _)
   | (with_reducible exact LeO.none _)
   | (with_reducible refine LeO.ite ?_ ?_)
   | (with_reducible refine LeO.bind ?_ (fun _ => ?_))
   | exact ih0 _ _ _
   | exact ih1 _ _
   | exact ih2 _ _ _
   | exact LeO.none _
   | refine LeO.ite ?_ ?_
   | refine LeO.bind ?_ (fun _ => ?_)
set_option maxHeartbeats 8000000 in
set_option maxRecDepth 100000 in
theorem dowelref01_Check.calls (k : Nat) (a0 : ByteArray) (r : Int) (w : World) (h : dowelref01_Check.f k a0 = some r) :
  Calls Tryd.prog 22 #[.string a0] w fun e w' => e = .returned (.int .i64 r) ∧ Drawn0 w w' := by
 have H : (if (a0.size : Int) > 65536 then (some 5) else (if (a0.size : Int) > 0 then (if 0 < (a0.size : Int) then (dowelref01_Check.j0 k a0 a0 ((bt a0 0) == 45)) else (none)) else (dowelref01_Check.j0 k a0 a0 false))) = some r := h
 clear h
 by_cases c2 : (a0.size : Int) > 65536
 ·
  rw [if_pos c2] at H
  have c2b0 : decide (65536 < (a0.size : Int)) = true := decide_eq_true c2
  have c2b1 : decide (65536 < a0.size) = true := decide_eq_true (by omega)
  clear c2
  obtain rfl := Option.some.inj H
  go_enter Tryd.func22, Tryd.ntmps22
  go_wp2
  go_ret
  exact ⟨by first | rfl | (simp; done) | (simp [*]; done) | (simp <;> omega), by repeat (first | exact Drawn0.refl _ | apply Drawn0.step)⟩
 ·
  rw [if_neg c2] at H
  have c2b0 : decide (65536 < (a0.size : Int)) = false := decide_eq_false c2
  have c2b1 : decide (65536 < a0.size) = false := decide_eq_false (by omega)
  clear c2
  have HC3 := Aside0.mk H
  clear H
  go_enter Tryd.func22, Tryd.ntmps22
  go_upto_region 4 with (fail)
  go_cut [16] (fun v16 wc => ∃ (kq : Nat) (x16_2 : Bool), v16 = .bool x16_2 ∧ Aside0 (dowelref01_Check.j0 kq a0 a0 x16_2 = some r) ∧ Aside0 (kq ≤ k) ∧ Drawn0 w wc)
  case first =>
   have H := HC3.out
   clear HC3
   by_cases c4 : (a0.size : Int) > 0
   ·
    rw [if_pos c4] at H
    have c4b0 : decide (0 < (a0.size : Int)) = true := decide_eq_true c4
    have c4b1 : decide (0 < a0.size) = true := decide_eq_true (by omega)
    clear c4
    (first | rw [c4b0] | (simp only [i64_w, i32_w]; rw [c4b0]) | skip)
    by_cases c5 : 0 < (a0.size : Int)
    ·
     rw [if_pos c5] at H
     have c5b0 : decide (0 < (a0.size : Int)) = true := decide_eq_true c5
     have c5b1 : decide (0 < a0.size) = true := decide_eq_true (by omega)
     clear c5
     have H' := Aside0.mk H
     clear H
     have p6 : 0 ≤ (0 : Int) := (by omega)
     have q6 : 0 < a0.size := (by have : (0 : Int) < (a0.size : Int) := of_decide_eq_true (by assumption); omega)
     have hx6 : ∀ h : 0 < a0.size, ((a0[0]'h).toNat : Int) = bt a0 0 := bt_at a0 0
     clear p6
     have qi6 : (0 < (a0.size : Int)) = True := eq_true (of_decide_eq_true (by assumption))
     replace q6 := eq_true q6
     go_wp2
     go_meet
     case rel => exact ⟨_, (((bt a0 0) == 45)), (by first | rfl | (simp; done) | (simp [*]; done) | (simp <;> omega)), H', ⟨by first | omega | exact Nat.le_refl _⟩, by repeat (first | exact Drawn0.refl _ | apply Drawn0.step)⟩
    ·
     rw [if_neg c5] at H
     exact absurd H (by simp)
   ·
    rw [if_neg c4] at H
    have c4b0 : decide (0 < (a0.size : Int)) = false := decide_eq_false c4
    have c4b1 : decide (0 < a0.size) = false := decide_eq_false (by omega)
    clear c4
    (first | rw [c4b0] | (simp only [i64_w, i32_w]; rw [c4b0]) | skip)
    have H' := Aside0.mk H
    clear H
    go_wp2
    go_meet
    case rel => exact ⟨_, (false), (by first | rfl | (simp; done) | (simp [*]; done) | (simp <;> omega)), H', ⟨by first | omega | exact Nat.le_refl _⟩, by repeat (first | exact Drawn0.refl _ | apply Drawn0.step)⟩
  case rest =>
   clear HC3
   try clear c2
   try clear c2b0
   try clear c2b1
   try clear p2
   try clear c4
   try clear c4b0
   try clear c4b1
   try clear c5
   try clear c5b0
   try clear c5b1
   try clear p6
   try clear q6
   try clear hx6
   try clear qi6
   try clear p6
   try clear q6
   obtain ⟨kq, x16_2, rfl, HA, HJ2, ⟨mc2, rfl⟩⟩ := hcut
   cases kq with
   | zero => exact absurd HA.out (by simp [dowelref01_Check.j0])
   | succ kj2 =>
    have H := HA.out
    clear HA
    simp only [dowelref01_Check.j0] at H
    have HC7 := Aside0.mk H
    clear H
    go_upto_if 16 with (fail)
    go_cut [3] (fun v3 wc => ∃ (kq : Nat) (x3_6 : ByteArray), v3 = .string x3_6 ∧ Aside0 (dowelref01_Check.j1 kq a0 x3_6 = some r) ∧ Aside0 (kq ≤ kj2) ∧ Drawn0 w wc)
    case first =>
     have H := HC7.out
     clear HC7
     by_cases c8 : x16_2 = true
     ·
      subst c8
      have H1 : (if 1 ≤ (a0.size : Int) then (dowelref01_Check.j1 kj2 a0 (a0.extract 1 a0.size)) else (none)) = some r := by rw [if_pos rfl] at H; exact H
      clear H
      have H := H1
      clear H1
      by_cases c9 : 1 ≤ (a0.size : Int)
      ·
       rw [if_pos c9] at H
       have c9b0 := eq_true c9
       have c9b1 : decide (1 ≤ (a0.size : Int)) = true := decide_eq_true c9
       clear c9
       have H' := Aside0.mk H
       clear H
       go_wp2
       go_meet
       case rel => exact ⟨_, (a0.extract 1 a0.size), (by first | rfl | (simp; done) | (simp [*]; done) | (simp <;> omega)), H', ⟨by have := HJ2.out; first | omega | exact Nat.le_refl _⟩, by repeat (first | exact Drawn0.refl _ | apply Drawn0.step)⟩
      ·
       rw [if_neg c9] at H
       exact absurd H (by simp)
     ·
      replace c8 := Bool.eq_false_iff.mpr c8
      subst c8
      have H1 : (dowelref01_Check.j1 kj2 a0 a0) = some r := by rw [if_neg (show ¬ (false = true) by decide)] at H; exact H
      clear H
      have H := H1
      clear H1
      have H' := Aside0.mk H
      clear H
      go_wp2
      go_meet
      case rel => exact ⟨_, (a0), (by first | rfl | (simp; done) | (simp [*]; done) | (simp <;> omega)), H', ⟨by have := HJ2.out; first | omega | exact Nat.le_refl _⟩, by repeat (first | exact Drawn0.refl _ | apply Drawn0.step)⟩
    case rest =>
     clear HC7
     try clear c2
     try clear c2b0
     try clear c2b1
     try clear p2
     try clear c4
     try clear c4b0
     try clear c4b1
     try clear c5
     try clear c5b0
     try clear c5b1
     try clear p6
     try clear q6
     try clear hx6
     try clear qi6
     try clear c8
     try clear c9
     try clear c9b0
     try clear c9b1
     try clear p2
     try clear p6
     try clear q6
     obtain ⟨kq, x3_6, rfl, HA, HJ6, ⟨mc6, rfl⟩⟩ := hcut
     cases kq with
     | zero => exact absurd HA.out (by simp [dowelref01_Check.j1])
     | succ kj6 =>
      have H := HA.out
      clear HA
      simp only [dowelref01_Check.j1] at H
      by_cases c10 : (x3_6.size : Int) = 0
      ·
       rw [if_pos c10] at H
       have c10b0 : ((x3_6.size : Int) == 0) = true := beq_iff_eq.mpr c10
       have c10b1 : ((x3_6.size : Int) != 0) = false := bne_eq_false_iff_eq.mpr c10
       clear c10
       obtain rfl := Option.some.inj H
       go_wp2
       go_ret
       exact ⟨by first | rfl | (simp; done) | (simp [*]; done) | (simp <;> omega), by repeat (first | exact Drawn0.refl _ | apply Drawn0.step)⟩
      ·
       rw [if_neg c10] at H
       have c10b0 : ((x3_6.size : Int) == 0) = false := beq_eq_false_iff_ne.mpr c10
       have c10b1 : ((x3_6.size : Int) != 0) = true := bne_iff_ne.mpr c10
       have H' := Aside0.mk H
       clear H
       go_wp2
       go_loopg [4] kj6 (fun kq v4 w' => ∃ (x4_3 : Int), v4 = .int .i64 x4_3 ∧ Aside0 (dowelref01_Check.l0 kq a0 x3_6 x4_3 = some r) ∧ Aside0 (kq ≤ kj6) ∧ Drawn0 w w')
       case atStart => exact ⟨(0), (by first | rfl | (simp; done) | (simp [*]; done) | (simp <;> omega)), H', ⟨Nat.le_refl _⟩, by repeat (first | exact Drawn0.refl _ | apply Drawn0.step)⟩
       case round =>
        clear H'
        try clear c1
        try clear c2
        try clear c2b0
        try clear c2b1
        try clear p2
        try clear c4
        try clear c4b0
        try clear c4b1
        try clear c5
        try clear c5b0
        try clear c5b1
        try clear c6
        try clear p6
        try clear q6
        try clear hx6
        try clear qi6
        try clear c8
        try clear c9
        try clear c9b0
        try clear c9b1
        try clear c10
        try clear c10b0
        try clear c10b1
        try clear p2
        try clear p6
        try clear q6
        obtain ⟨x4_3, rfl, HA, HK3, ⟨m3, rfl⟩⟩ := hrel
        cases gk with
        | zero => exact absurd HA.out (by simp [dowelref01_Check.l0])
        | succ k3 =>
         have H := HA.out
         clear HA
         simp only [dowelref01_Check.l0] at H
         by_cases c11 : x4_3 < (x3_6.size : Int)
         ·
          rw [if_pos c11] at H
          have c11b0 : decide (x4_3 < (x3_6.size : Int)) = true := decide_eq_true c11
          clear c11
          by_cases c12 : 0 ≤ x4_3
          ·
           rw [if_pos c12] at H
           have c12b0 : decide (0 ≤ x4_3) = true := decide_eq_true c12
           clear c12
           by_cases c14 : (bt x3_6 x4_3) < 48
           ·
            rw [if_pos c14] at H
            have c14b0 : decide ((bt x3_6 x4_3) < 48) = true := decide_eq_true c14
            clear c14
            obtain rfl := Option.some.inj H
            have p13 : 0 ≤ (x4_3 : Int) := of_decide_eq_true (by assumption)
            have q13 : x4_3 < (x3_6.size : Int) := of_decide_eq_true (by assumption)
            have hx13 := bt_at x3_6 x4_3
            replace p13 := eq_true p13
            replace q13 := eq_true q13
            go_wp2
            go_ret
            exact ⟨by first | rfl | (simp; done) | (simp [*]; done) | (simp <;> omega), by repeat (first | exact Drawn0.refl _ | apply Drawn0.step)⟩
           ·
            rw [if_neg c14] at H
            have c14b0 : decide ((bt x3_6 x4_3) < 48) = false := decide_eq_false c14
            clear c14
            by_cases c16 : (bt x3_6 x4_3) > 57
            ·
             rw [if_pos c16] at H
             have c16b0 : decide (57 < (bt x3_6 x4_3)) = true := decide_eq_true c16
             clear c16
             obtain rfl := Option.some.inj H
             have p13 : 0 ≤ (x4_3 : Int) := of_decide_eq_true (by assumption)
             have q13 : x4_3 < (x3_6.size : Int) := of_decide_eq_true (by assumption)
             have hx13 := bt_at x3_6 x4_3
             replace p13 := eq_true p13
             replace q13 := eq_true q13
             have p15 : 0 ≤ (x4_3 : Int) := of_decide_eq_true (by assumption)
             have q15 : x4_3 < (x3_6.size : Int) := of_decide_eq_true (by assumption)
             have hx15 := bt_at x3_6 x4_3
             replace p15 := eq_true p15
             replace q15 := eq_true q15
             go_wp2
             go_ret
             exact ⟨by first | rfl | (simp; done) | (simp [*]; done) | (simp <;> omega), by repeat (first | exact Drawn0.refl _ | apply Drawn0.step)⟩
            ·
             rw [if_neg c16] at H
             have c16b0 : decide (57 < (bt x3_6 x4_3)) = false := decide_eq_false c16
             clear c16
             have H' := Aside0.mk H
             clear H
             have p13 : 0 ≤ (x4_3 : Int) := of_decide_eq_true (by assumption)
             have q13 : x4_3 < (x3_6.size : Int) := of_decide_eq_true (by assumption)
             have hx13 := bt_at x3_6 x4_3
             replace p13 := eq_true p13
             replace q13 := eq_true q13
             have p15 : 0 ≤ (x4_3 : Int) := of_decide_eq_true (by assumption)
             have q15 : x4_3 < (x3_6.size : Int) := of_decide_eq_true (by assumption)
             have hx15 := bt_at x3_6 x4_3
             replace p15 := eq_true p15
             replace q15 := eq_true q15
             go_wp2
             go_roundg k3
             case measure => have := HJ2.out; have := HJ6.out; have := HK3.out; omega
             case rel => exact ⟨(wrap64 (x4_3 + 1)), (by first | rfl | (simp; done) | (simp [*]; done) | (simp <;> omega)), H', ⟨by have := HJ2.out; have := HJ6.out; have := HK3.out; omega⟩, by repeat (first | exact Drawn0.refl _ | apply Drawn0.step)⟩
          ·
           rw [if_neg c12] at H
           exact absurd H (by simp)
         ·
          rw [if_neg c11] at H
          have c11b0 : decide (x4_3 < (x3_6.size : Int)) = false := decide_eq_false c11
          clear c11
          by_cases c17 : 0 < (x3_6.size : Int)
          ·
           rw [if_pos c17] at H
           have c17b0 : decide (0 < (x3_6.size : Int)) = true := decide_eq_true c17
           have c17b1 : decide (0 < x3_6.size) = true := decide_eq_true (by omega)
           clear c17
           by_cases c19 : (bt x3_6 0) = 48
           ·
            rw [if_pos c19] at H
            have c19b0 : ((bt x3_6 0) == 48) = true := beq_iff_eq.mpr c19
            have c19b1 : ((bt x3_6 0) != 48) = false := bne_eq_false_iff_eq.mpr c19
            clear c19
            by_cases c20 : (x3_6.size : Int) > 1
            ·
             rw [if_pos c20] at H
             have c20b0 : decide (1 < (x3_6.size : Int)) = true := decide_eq_true c20
             have c20b1 : decide (1 < x3_6.size) = true := decide_eq_true (by omega)
             clear c20
             obtain rfl := Option.some.inj H
             have p18 : 0 ≤ (0 : Int) := (by omega)
             have q18 : 0 < x3_6.size := (by have : (0 : Int) < (x3_6.size : Int) := of_decide_eq_true (by assumption); omega)
             have hx18 : ∀ h : 0 < x3_6.size, ((x3_6[0]'h).toNat : Int) = bt x3_6 0 := bt_at x3_6 0
             clear p18
             have qi18 : (0 < (x3_6.size : Int)) = True := eq_true (of_decide_eq_true (by assumption))
             replace q18 := eq_true q18
             go_wp2
             go_ret
             exact ⟨by first | rfl | (simp; done) | (simp [*]; done) | (simp <;> omega), by repeat (first | exact Drawn0.refl _ | apply Drawn0.step)⟩
            ·
             rw [if_neg c20] at H
             have c20b0 : decide (1 < (x3_6.size : Int)) = false := decide_eq_false c20
             have c20b1 : decide (1 < x3_6.size) = false := decide_eq_false (by omega)
             clear c20
             by_cases c21 : (a0.size : Int) > 1
             ·
              rw [if_pos c21] at H
              have c21b0 : decide (1 < (a0.size : Int)) = true := decide_eq_true c21
              have c21b1 : decide (1 < a0.size) = true := decide_eq_true (by omega)
              clear c21
              obtain rfl := Option.some.inj H
              have p18 : 0 ≤ (0 : Int) := (by omega)
              have q18 : 0 < x3_6.size := (by have : (0 : Int) < (x3_6.size : Int) := of_decide_eq_true (by assumption); omega)
              have hx18 : ∀ h : 0 < x3_6.size, ((x3_6[0]'h).toNat : Int) = bt x3_6 0 := bt_at x3_6 0
              clear p18
              have qi18 : (0 < (x3_6.size : Int)) = True := eq_true (of_decide_eq_true (by assumption))
              replace q18 := eq_true q18
              go_wp2
              go_ret
              exact ⟨by first | rfl | (simp; done) | (simp [*]; done) | (simp <;> omega), by repeat (first | exact Drawn0.refl _ | apply Drawn0.step)⟩
             ·
              rw [if_neg c21] at H
              have c21b0 : decide (1 < (a0.size : Int)) = false := decide_eq_false c21
              have c21b1 : decide (1 < a0.size) = false := decide_eq_false (by omega)
              clear c21
              obtain rfl := Option.some.inj H
              have p18 : 0 ≤ (0 : Int) := (by omega)
              have q18 : 0 < x3_6.size := (by have : (0 : Int) < (x3_6.size : Int) := of_decide_eq_true (by assumption); omega)
              have hx18 : ∀ h : 0 < x3_6.size, ((x3_6[0]'h).toNat : Int) = bt x3_6 0 := bt_at x3_6 0
              clear p18
              have qi18 : (0 < (x3_6.size : Int)) = True := eq_true (of_decide_eq_true (by assumption))
              replace q18 := eq_true q18
              go_wp2
              go_ret
              exact ⟨by first | rfl | (simp; done) | (simp [*]; done) | (simp <;> omega), by repeat (first | exact Drawn0.refl _ | apply Drawn0.step)⟩
           ·
            rw [if_neg c19] at H
            have c19b0 : ((bt x3_6 0) == 48) = false := beq_eq_false_iff_ne.mpr c19
            have c19b1 : ((bt x3_6 0) != 48) = true := bne_iff_ne.mpr c19
            obtain rfl := Option.some.inj H
            have p18 : 0 ≤ (0 : Int) := (by omega)
            have q18 : 0 < x3_6.size := (by have : (0 : Int) < (x3_6.size : Int) := of_decide_eq_true (by assumption); omega)
            have hx18 : ∀ h : 0 < x3_6.size, ((x3_6[0]'h).toNat : Int) = bt x3_6 0 := bt_at x3_6 0
            clear p18
            have qi18 : (0 < (x3_6.size : Int)) = True := eq_true (of_decide_eq_true (by assumption))
            replace q18 := eq_true q18
            go_wp2
            go_ret
            exact ⟨by first | rfl | (simp; done) | (simp [*]; done) | (simp <;> omega), by repeat (first | exact Drawn0.refl _ | apply Drawn0.step)⟩
          ·
           rw [if_neg c17] at H
           exact absurd H (by simp)
mutual
def dowellaw01_IntegerParses.j0 : Nat → ByteArray → Bool → Option (Bool)
 | 0, _, _ => none
 | k + 1, x0, x14 => if x14 = true then ((dowellaw01_known.f k).bind fun t500 => (some t500)) else ((integer_Parse.f k x0).bind fun bt501 => (if 65537 ≤ 281474976710656 then ((integer_Parse.f k (strOfNums (List.replicate 65537 0))).bind fun bt510 => ((dowelref01_Check.f k x0).bind fun t516 => (if bt501.2.2 = t516 then (dowellaw01_IntegerParses.j1 k x0 bt501.2.2 (bt510.2.2 != 5) bt501.1 bt501.2.1) else (dowellaw01_IntegerParses.j1 k x0 bt501.2.2 true bt501.1 bt501.2.1)))) else (none)))
def dowellaw01_IntegerParses.j1 : Nat → ByteArray → Int → Bool → Bool → List Int → Option (Bool)
 | 0, _, _, _, _, _ => none
 | k + 1, x0, x4, x35, x507000, x507001 => if x35 = true then (none) else (if x4 = 0 then ((integer_Int_Text.f k x507000 x507001).bind fun t517 => (some (t517.toList == x0.toList))) else ((integer_Int_Text.f k x507000 x507001).bind fun t518 => (some (t518.toList == ([48] : List UInt8)))))
end
def dowellaw01_IntegerParses.f (k : Nat) (a0 : ByteArray) : Option (Bool) := (dowellaw01_known.f k).bind fun t499 => (if t499 = true then (dowellaw01_IntegerParses.j0 k a0 (decide (200 < a0.size))) else (dowellaw01_IntegerParses.j0 k a0 true))
theorem dowellaw01_IntegerParses.mono_l : ∀ k, (∀ y0 y1, LeO (dowellaw01_IntegerParses.j0 k y0 y1) (dowellaw01_IntegerParses.j0 (k + 1) y0 y1)) ∧ (∀ y0 y1 y2 y3 y4, LeO (dowellaw01_IntegerParses.j1 k y0 y1 y2 y3 y4) (dowellaw01_IntegerParses.j1 (k + 1) y0 y1 y2 y3 y4))
 | 0 => ⟨fun _ _ r h => by simp [dowellaw01_IntegerParses.j0] at h, fun _ _ _ _ _ r h => by simp [dowellaw01_IntegerParses.j1] at h⟩
 | k + 1 => by
  obtain ⟨ih0, ih1⟩ := dowellaw01_IntegerParses.mono_l k
  refine ⟨?_, ?_⟩
  ·
   intro y0 y1
   unfold dowellaw01_IntegerParses.j0
   repeat' first
   | (with_reducible exact ih0 _ _)
   | (with_reducible exact ih1 _ _ _ _ _)
   | (with_reducible exact dowellaw01_known.mono _)
   | (with_reducible exact dowelref01_Check.mono _ _)
   | (with_reducible exact integer_Int_Text.mono _ _ _)
   | (with_reducible exact integer_Parse.mono _ _)
   | (with_reducible exact LeO.refl _)
   | (with_reducible exact LeO.none _)
   | (with_reducible refine LeO.ite ?_ ?_)
   | (with_reducible refine LeO.bind ?_ (fun _ => ?_))
   | exact ih0 _ _
   | exact ih1 _ _ _ _ _
   | exact dowellaw01_known.mono _
   | exact dowelref01_Check.mono _ _
   | exact integer_Int_Text.mono _ _ _
   | exact integer_Parse.mono _ _
   | exact LeO.none _
   | refine LeO.ite ?_ ?_
   | refine LeO.bind ?_ (fun _ => ?_)
  ·
   intro y0 y1 y2 y3 y4
   unfold dowellaw01_IntegerParses.j1
   repeat' first
   | (with_reducible exact ih0 _ _)
   | (with_reducible exact ih1 _ _ _ _ _)
   | (with_reducible exact dowellaw01_known.mono _)
   | (with_reducible exact dowelref01_Check.mono _ _)
   | (with_reducible exact integer_Int_Text.mono _ _ _)
   | (with_reducible exact integer_Parse.mono _ _)
   | (with_reducible exact LeO.refl _)
   | (with_reducible exact LeO.none _)
   | (with_reducible refine LeO.ite ?_ ?_)
   | (with_reducible refine LeO.bind ?_ (fun _ => ?_))
   | exact ih0 _ _
   | exact ih1 _ _ _ _ _
   | exact dowellaw01_known.mono _
   | exact dowelref01_Check.mono _ _
   | exact integer_Int_Text.mono _ _ _
   | exact integer_Parse.mono _ _
   | exact LeO.none _
   | refine LeO.ite ?_ ?_
   | refine LeO.bind ?_ (fun _ => ?_)
theorem dowellaw01_IntegerParses.mono : ∀ a0 k, LeO (dowellaw01_IntegerParses.f k a0) (dowellaw01_IntegerParses.f (k + 1) a0) := by
 intro a0 k
 obtain ⟨ih0, ih1⟩ := dowellaw01_IntegerParses.mono_l k
 unfold dowellaw01_IntegerParses.f
 repeat' first
   | (with_reducible exact ih0 _ _)
   | (with_reducible exact ih1 _ _ _ _ _)
   | (with_reducible exact dowellaw01_known.mono _)
   | (with_reducible exact dowelref01_Check.mono _ _)
   | (with_reducible exact integer_Int_Text.mono _ _ _)
   | (with_reducible exact integer_Parse.mono _ _)
   | (with_reducible exact LeO.refl _)
   | (with_reducible exact LeO.none _)
   | (with_reducible refine LeO.ite ?_ ?_)
   | (with_reducible refine LeO.bind ?_ (fun _ => ?_))
   | exact ih0 _ _
   | exact ih1 _ _ _ _ _
   | exact dowellaw01_known.mono _
   | exact dowelref01_Check.mono _ _
   | exact integer_Int_Text.mono _ _ _
   | exact integer_Parse.mono _ _
   | exact LeO.none _
   | refine LeO.ite ?_ ?_
   | refine LeO.bind ?_ (fun _ => ?_)
set_option maxHeartbeats 8000000 in
set_option maxRecDepth 100000 in
theorem dowellaw01_IntegerParses.calls (k : Nat) (a0 : ByteArray) (r : Bool) (w : World) (hG : G w) (h : dowellaw01_IntegerParses.f k a0 = some r) :
  Calls Tryd.prog 4 #[.string a0] w fun e w' => e = .returned (.bool r) ∧ Below w.heap.size w w' := by
 have hu25 := Tryd.underlying25
 have HB := Aside0.mk (Below.refl w.heap.size w)
 have HG := Aside0.mk hG
 clear hG
 have H : ((dowellaw01_known.f k).bind fun t499 => (if t499 = true then (dowellaw01_IntegerParses.j0 k a0 (decide (200 < a0.size))) else (dowellaw01_IntegerParses.j0 k a0 true))) = some r := h
 clear h
 have HC2 := Aside0.mk H
 clear H
 go_enter Tryd.func4, Tryd.ntmps4
 go_upto_region 1 with (fail)
 go_cut [14] (fun v14 wc => ∃ (kq : Nat) (x14_1 : Bool), v14 = .bool x14_1 ∧ Aside0 (dowellaw01_IntegerParses.j0 kq a0 x14_1 = some r) ∧ Aside0 (kq ≤ k) ∧ Aside0 (Below w.heap.size w wc))
 case first =>
  have H := HC2.out
  clear HC2
  replace H := Option.bind_eq_some_iff.mp H
  obtain ⟨t499, A30, H⟩ := H
  replace H : (if t499 = true then (dowellaw01_IntegerParses.j0 k a0 (decide (200 < a0.size))) else (dowellaw01_IntegerParses.j0 k a0 true)) = some r := H
  have A3 := Aside0.mk A30
  clear A30
  by_cases c4 : t499 = true
  ·
   subst c4
   have H1 : (dowellaw01_IntegerParses.j0 k a0 (decide (200 < a0.size))) = some r := by rw [if_pos rfl] at H; exact H
   clear H
   have H := H1
   clear H1
   have H' := Aside0.mk H
   clear H
   go_wp2_with (first | ((with_reducible refine gate_callee (f := 14) rfl ?_); refine goesL_ (some 8) rfl rfl Tryd.func14 (by kernel_rfl) rfl #[] rfl (by (try simp only [List.map_toArray, List.map_cons, List.map_nil]); first | done | rfl | (simp only [List.length_drop, List.length_take]; rfl)) ?_; (with_reducible refine (dowellaw01_known.calls k  true _ ?side1 A3.out).mono ?_); (case side1 => exact G_below HG.out (by repeat (first | (with_reducible first | exact HB.out | apply below_alloc | apply pw_below_drewN | apply below_drew1) | exact HB.out))); rintro e w5 ⟨rfl, hb⟩; refine ⟨_, rfl, ?_⟩; have n0_ := Aside0.mk (below_step (by repeat (first | (with_reducible first | exact HB.out | apply below_alloc | apply pw_below_drewN | apply below_drew1) | exact HB.out)) hb); clear HB; have HB := n0_; clear n0_; (try clear hb); (try clear hb2); (try clear hk); (try clear hi)))
   go_meet
   case rel => exact ⟨_, (decide (200 < a0.size)), (by first | rfl | (simp; done) | (simp [*]; done) | (simp <;> omega)), H', ⟨by first | omega | exact Nat.le_refl _⟩, ⟨by repeat (first | (with_reducible first | exact HB.out | apply below_alloc | apply pw_below_drewN | apply below_drew1) | exact HB.out)⟩⟩
  ·
   replace c4 := Bool.eq_false_iff.mpr c4
   subst c4
   have H1 : (dowellaw01_IntegerParses.j0 k a0 true) = some r := by rw [if_neg (show ¬ (false = true) by decide)] at H; exact H
   clear H
   have H := H1
   clear H1
   have H' := Aside0.mk H
   clear H
   go_wp2_with (first | ((with_reducible refine gate_callee (f := 14) rfl ?_); refine goesL_ (some 8) rfl rfl Tryd.func14 (by kernel_rfl) rfl #[] rfl (by (try simp only [List.map_toArray, List.map_cons, List.map_nil]); first | done | rfl | (simp only [List.length_drop, List.length_take]; rfl)) ?_; (with_reducible refine (dowellaw01_known.calls k  false _ ?side1 A3.out).mono ?_); (case side1 => exact G_below HG.out (by repeat (first | (with_reducible first | exact HB.out | apply below_alloc | apply pw_below_drewN | apply below_drew1) | exact HB.out))); rintro e w6 ⟨rfl, hb⟩; refine ⟨_, rfl, ?_⟩; have n0_ := Aside0.mk (below_step (by repeat (first | (with_reducible first | exact HB.out | apply below_alloc | apply pw_below_drewN | apply below_drew1) | exact HB.out)) hb); clear HB; have HB := n0_; clear n0_; (try clear hb); (try clear hb2); (try clear hk); (try clear hi)))
   go_meet
   case rel => exact ⟨_, (true), (by first | rfl | (simp; done) | (simp [*]; done) | (simp <;> omega)), H', ⟨by first | omega | exact Nat.le_refl _⟩, ⟨by repeat (first | (with_reducible first | exact HB.out | apply below_alloc | apply pw_below_drewN | apply below_drew1) | exact HB.out)⟩⟩
 case rest =>
  clear HC2
  try clear c1
  try clear p2
  try clear c4
  obtain ⟨kq, x14_1, rfl, HA, HJ1, HB⟩ := hcut
  cases kq with
  | zero => exact absurd HA.out (by simp [dowellaw01_IntegerParses.j0])
  | succ kj1 =>
   have H := HA.out
   clear HA
   simp only [dowellaw01_IntegerParses.j0] at H
   by_cases c7 : x14_1 = true
   ·
    subst c7
    have H1 : ((dowellaw01_known.f kj1).bind fun t500 => (some t500)) = some r := by rw [if_pos rfl] at H; exact H
    clear H
    have H := H1
    clear H1
    replace H := Option.bind_eq_some_iff.mp H
    obtain ⟨t500, A80, H⟩ := H
    replace H : (some t500) = some r := H
    have A8 := Aside0.mk A80
    clear A80
    obtain rfl := Option.some.inj H
    go_wp2_with (first | ((with_reducible refine gate_callee (f := 14) rfl ?_); refine goesL_ (some 15) rfl rfl Tryd.func14 (by kernel_rfl) rfl #[] rfl (by (try simp only [List.map_toArray, List.map_cons, List.map_nil]); first | done | rfl | (simp only [List.length_drop, List.length_take]; rfl)) ?_; (with_reducible refine (dowellaw01_known.calls kj1  t500 _ ?side1 A8.out).mono ?_); (case side1 => exact G_below HG.out (by repeat (first | (with_reducible first | exact HB.out | apply below_alloc | apply pw_below_drewN | apply below_drew1) | exact HB.out))); rintro e w9 ⟨rfl, hb⟩; refine ⟨_, rfl, ?_⟩; have n0_ := Aside0.mk (below_step (by repeat (first | (with_reducible first | exact HB.out | apply below_alloc | apply pw_below_drewN | apply below_drew1) | exact HB.out)) hb); clear HB; have HB := n0_; clear n0_; (try clear hb); (try clear hb2); (try clear hk); (try clear hi)))
    go_ret
    exact ⟨by first | rfl | (simp [errW_none, errW_some] <;> rfl) | (simp [*, errW_none, errW_some] <;> rfl), by repeat (first | (with_reducible first | exact HB.out | apply below_alloc | apply pw_below_drewN | apply below_drew1) | exact HB.out)⟩
   ·
    replace c7 := Bool.eq_false_iff.mpr c7
    subst c7
    have H1 : ((integer_Parse.f kj1 a0).bind fun bt501 => (if 65537 ≤ 281474976710656 then ((integer_Parse.f kj1 (strOfNums (List.replicate 65537 0))).bind fun bt510 => ((dowelref01_Check.f kj1 a0).bind fun t516 => (if bt501.2.2 = t516 then (dowellaw01_IntegerParses.j1 kj1 a0 bt501.2.2 (bt510.2.2 != 5) bt501.1 bt501.2.1) else (dowellaw01_IntegerParses.j1 kj1 a0 bt501.2.2 true bt501.1 bt501.2.1)))) else (none))) = some r := by rw [if_neg (show ¬ (false = true) by decide)] at H; exact H
    clear H
    have H := H1
    clear H1
    replace H := Option.bind_eq_some_iff.mp H
    obtain ⟨⟨t501, t502, t505⟩, A100, H⟩ := H
    replace H : (if 65537 ≤ 281474976710656 then ((integer_Parse.f kj1 (strOfNums (List.replicate 65537 0))).bind fun bt510 => ((dowelref01_Check.f kj1 a0).bind fun t516 => (if t505 = t516 then (dowellaw01_IntegerParses.j1 kj1 a0 t505 (bt510.2.2 != 5) t501 t502) else (dowellaw01_IntegerParses.j1 kj1 a0 t505 true t501 t502)))) else (none)) = some r := H
    have A10 := Aside0.mk A100
    clear A100
    by_cases c11 : 65537 ≤ 281474976710656
    ·
     rw [if_pos c11] at H
     have c11b0 := eq_true c11
     have c11b1 : decide (65537 ≤ 281474976710656) = true := decide_eq_true c11
     clear c11
     obtain ⟨y507, hy507⟩ : ∃ y_ : List Int, y_ = (List.replicate 65537 0) := ⟨_, rfl⟩
     replace H : ((integer_Parse.f kj1 (strOfNums y507)).bind fun bt510 => ((dowelref01_Check.f kj1 a0).bind fun t516 => (if t505 = t516 then (dowellaw01_IntegerParses.j1 kj1 a0 t505 (bt510.2.2 != 5) t501 t502) else (dowellaw01_IntegerParses.j1 kj1 a0 t505 true t501 t502)))) = some r := by first | (rw [hy507]; with_reducible exact H) | (have H2_ := (Option.bind_some _ _).symm.trans H; rw [hy507]; with_reducible exact H2_) | (have H2_ := (Option.bind_some _ _).symm.trans H; with_reducible exact H2_) | with_reducible exact H | (rw [hy507]; exact H) | exact H
     have Ny507 := Aside0.mk hy507
     clear hy507
     replace H := Option.bind_eq_some_iff.mp H
     obtain ⟨⟨t510, t511, t514⟩, A120, H⟩ := H
     replace H : ((dowelref01_Check.f kj1 a0).bind fun t516 => (if t505 = t516 then (dowellaw01_IntegerParses.j1 kj1 a0 t505 (t514 != 5) t501 t502) else (dowellaw01_IntegerParses.j1 kj1 a0 t505 true t501 t502))) = some r := H
     have A12 := Aside0.mk A120
     clear A120
     replace H := Option.bind_eq_some_iff.mp H
     obtain ⟨t516, A130, H⟩ := H
     replace H : (if t505 = t516 then (dowellaw01_IntegerParses.j1 kj1 a0 t505 (t514 != 5) t501 t502) else (dowellaw01_IntegerParses.j1 kj1 a0 t505 true t501 t502)) = some r := H
     have A13 := Aside0.mk A130
     clear A130
     have HC14 := Aside0.mk H
     clear H
     go_upto_region 6 with (first | ((with_reducible refine gate_callee (f := 21) rfl ?_); refine goesL_ (some 18) rfl rfl Tryd.func21 (by kernel_rfl) rfl #[.string a0] rfl (by (try simp only [List.map_toArray, List.map_cons, List.map_nil]); first | done | rfl | (simp only [List.length_drop, List.length_take]; rfl)) ?_; (with_reducible refine (integer_Parse.calls kj1 a0 t501 t502 t505 _ A10.out).mono ?_); rintro e w15 ⟨v503, rfl, ho0, hb⟩; refine ⟨_, rfl, ?_⟩; have n0_ := Aside0.mk (Kd.V_lower (Kd.V_mono (ok' := fun k_ => True) ho0 (fun k_ hk_ => trivial)) (below_size (by repeat (first | (with_reducible first | exact HB.out | apply below_alloc | apply pw_below_drewN | apply below_drew1) | exact HB.out)))); have n1_ := Aside0.mk (below_step (by repeat (first | (with_reducible first | exact HB.out | apply below_alloc | apply pw_below_drewN | apply below_drew1) | exact HB.out)) hb); clear HB; have HO504 := n0_; have HB := n1_; clear n0_ n1_; (try clear hb); (try clear hb2); (try clear hk); (try clear hi); (try clear ho0)) | ((with_reducible refine gate_dst (N := 3) rfl ?_); (try (refine gate_guard (by rfl) ?_; dsimp only)); refine box_event ?hg (N := 3) ?hd (cs := #[.bool false, .slice none 0 0]) (t := 25) ?hr ?_; (case hd => rfl); (case hg => rfl); (case hr => first | (go_simp; done) | (go_simp; rfl)); intro gb506 hg w16 hbox hb; have n0_ := Aside0.mk (Kd.V_below (Kd.V_elderB (by (with_reducible repeat (first | apply Kd.V_alloc | apply Kd.V_drewN | apply Kd.V_drew)); exact HO504.out) gb506 (Nat.le_of_eq hg.symm)) hb); have n1_ := Aside0.mk (below_step (by repeat (first | (with_reducible first | exact HB.out | apply below_alloc | apply pw_below_drewN | apply below_drew1) | exact HB.out)) hb); have n2_ := Aside0.mk (hbox); have n3_ := Aside0.mk ((by rw [hg]; exact (below_size (by repeat (first | (with_reducible first | exact HB.out | apply below_alloc | apply pw_below_drewN | apply below_drew1) | exact HB.out))) : w.heap.size ≤ gb506)); have n4_ := Aside0.mk ((by rw [hg]; exact (below_size (by repeat (first | (with_reducible first | exact HB.out | apply below_alloc | apply pw_below_drewN | apply below_drew1) | exact HB.out))) : w.heap.size ≤ gb506)); clear HO504; clear HB; have HO504 := n0_; have HB := n1_; have BK506 := n2_; have GW506 := n3_; have GE506 := n4_; clear n0_ n1_ n2_ n3_ n4_; clear hb hbox hg; have hcz17_0 : w16.cell? ⟨gb506, 0, none⟩ = some (.bool false) := (blk_cell BK506.out 0).trans rfl; have hcz17_1 : w16.cell? ⟨gb506, 1, none⟩ = some (.slice none 0 0) := (blk_cell BK506.out 1).trans rfl; have hfz17_0 := blk_frozen BK506.out 0; have hfz17_1 := blk_frozen BK506.out 1; obtain ⟨Ao18, co18, eo18⟩ := Kd.V_slice HO504.out; subst eo18) | ((with_reducible refine gate_dst (N := 22) rfl ?_); (try (refine gate_guard (by rfl) ?_; dsimp only)); refine Kd.R_make (Kd.int .u8) _ 5 rfl (N := 22) rfl 37 _ _ rfl 65537 rfl rfl Tryd.underlying37 (.int .u8 0) 1 info5 rfl (by decide) (by omega) 0 (ok := fun _ => True) (okp := fun _ => True) rfl (fun _ hk => hk) trivial (by omega) (by omega) (Below.refl _ _) (Nat.le_refl _) ?_; intro v508 w19 ho20 hb hg_ hnew_; clear hg_ hnew_; (first | rw [← Ny507.out] at ho20 | (simp only [Int.reduceToNat] at ho20; rw [← Ny507.out] at ho20)); have n0_ := Aside0.mk (Kd.V_elder' (by (with_reducible repeat (first | apply Kd.V_alloc | apply Kd.V_drewN | apply Kd.V_drew)); exact (Kd.V_mono (Kd.V_far (p := ⟨gb506, 1, none⟩) (Kd.V_far (p := ⟨gb506, 0, none⟩) (Kd.V_mono HO504.out (fun k_ hk => (⟨hk, hk.2⟩ : _ ∧ k_ ≠ gb506))) (fun _ hk => hk.2) (.bool t501)) (fun _ hk => hk.2) (.slice Ao18 t502.length co18)) (fun _ h_ => h_.1))) (Kd.R_base ho20) hb); have n1_ := Aside0.mk (Kd.R_lower ho20 (below_size (by repeat (first | (with_reducible first | exact HB.out | apply below_alloc | apply pw_below_drewN | apply below_drew1 | refine below_set ?_ GE506.out) | exact HB.out)))); have n2_ := Aside0.mk (blk_below (g := gb506) (o := .cells #[.bool t501, .slice Ao18 t502.length co18] 25 (0, 0)) (by (with_reducible repeat (first | refine blk_drewN ?_ _ | refine blk_drew ?_ | refine blk_alloc ?_ _)); refine blk_put (cs := #[.bool t501, .slice none 0 0]) ?_ 1 _ rfl; (with_reducible repeat (first | refine blk_drewN ?_ _ | refine blk_drew ?_ | refine blk_alloc ?_ _)); refine blk_put (cs := #[.bool false, .slice none 0 0]) ?_ 0 _ rfl; (with_reducible repeat (first | refine blk_drewN ?_ _ | refine blk_drew ?_ | refine blk_alloc ?_ _)); exact BK506.out) hb); have n3_ := Aside0.mk (below_step (by repeat (first | (with_reducible first | exact HB.out | apply below_alloc | apply pw_below_drewN | apply below_drew1 | refine below_set ?_ GE506.out) | exact HB.out)) hb); clear HO504; clear BK506; clear HB; have HO504 := n0_; have HO509 := n1_; have BK506 := n2_; have HB := n3_; clear n0_ n1_ n2_ n3_; clear hb ho20; have hcv21 := own_string (P := Tryd.prog) Tryd.underlying37 Tryd.underlying5 Tryd.underlying9 (Kd.own_of_R HO509.out)) | ((with_reducible refine gate_callee (f := 21) rfl ?_); refine goesL_ (some 24) rfl rfl Tryd.func21 (by kernel_rfl) rfl #[.string (strOfNums y507)] rfl (by (try simp only [List.map_toArray, List.map_cons, List.map_nil]); first | done | rfl | (simp only [List.length_drop, List.length_take]; rfl)) ?_; (with_reducible refine (integer_Parse.calls kj1 (strOfNums y507) t510 t511 t514 _ A12.out).mono ?_); rintro e w22 ⟨v512, rfl, ho0, hb⟩; refine ⟨_, rfl, ?_⟩; have n0_ := Aside0.mk (Kd.V_below (by (with_reducible repeat (first | apply Kd.V_alloc | apply Kd.V_drewN | apply Kd.V_drew)); exact HO504.out) hb); have n1_ := Aside0.mk (Kd.R_below (by (with_reducible repeat (first | apply Kd.R_alloc | apply Kd.R_drewN | apply Kd.R_drew)); exact HO509.out) hb); have n2_ := Aside0.mk (Kd.V_lower (Kd.V_mono (ok' := fun k_ => some k_ ≠ (v508 : Value).ownBlock ∧ k_ ≠ gb506) ho0 (fun k_ hk_ => ⟨(Kd.fresh' (Kd.R_lt (by (with_reducible repeat (first | apply Kd.R_alloc | apply Kd.R_drewN | apply Kd.R_drew)); exact HO509.out)) k_ hk_), (Kd.freshB (g := gb506) (o := .cells #[.bool t501, .slice Ao18 t502.length co18] 25 (0, 0)) (by (with_reducible repeat (first | refine blk_drewN ?_ _ | refine blk_drew ?_ | refine blk_alloc ?_ _)); exact BK506.out) k_ hk_)⟩)) (below_size (by repeat (first | (with_reducible first | exact HB.out | apply below_alloc | apply pw_below_drewN | apply below_drew1 | refine below_set ?_ GE506.out) | exact HB.out)))); have n3_ := Aside0.mk (blk_below (g := gb506) (o := .cells #[.bool t501, .slice Ao18 t502.length co18] 25 (0, 0)) (by (with_reducible repeat (first | refine blk_drewN ?_ _ | refine blk_drew ?_ | refine blk_alloc ?_ _)); exact BK506.out) hb); have n4_ := Aside0.mk (below_step (by repeat (first | (with_reducible first | exact HB.out | apply below_alloc | apply pw_below_drewN | apply below_drew1 | refine below_set ?_ GE506.out) | exact HB.out)) hb); clear HO504; clear HO509; clear BK506; clear HB; have HO504 := n0_; have HO509 := n1_; have HO513 := n2_; have BK506 := n3_; have HB := n4_; clear n0_ n1_ n2_ n3_ n4_; (try clear hb); (try clear hb2); (try clear hk); (try clear hi); (try clear ho0)) | ((with_reducible refine gate_dst (N := 5) rfl ?_); (try (refine gate_guard (by rfl) ?_; dsimp only)); refine box_event ?hg (N := 5) ?hd (cs := #[.bool false, .slice none 0 0]) (t := 25) ?hr ?_; (case hd => rfl); (case hg => rfl); (case hr => first | (go_simp; done) | (go_simp; rfl)); intro gb515 hg w23 hbox hb; have n0_ := Aside0.mk (Kd.V_below (Kd.V_elderB (by (with_reducible repeat (first | apply Kd.V_alloc | apply Kd.V_drewN | apply Kd.V_drew)); exact HO504.out) gb515 (Nat.le_of_eq hg.symm)) hb); have n1_ := Aside0.mk (Kd.R_below (by (with_reducible repeat (first | apply Kd.R_alloc | apply Kd.R_drewN | apply Kd.R_drew)); exact HO509.out) hb); have n2_ := Aside0.mk (Kd.V_below (Kd.V_elderB (by (with_reducible repeat (first | apply Kd.V_alloc | apply Kd.V_drewN | apply Kd.V_drew)); exact HO513.out) gb515 (Nat.le_of_eq hg.symm)) hb); have n3_ := Aside0.mk (blk_below (g := gb506) (o := .cells #[.bool t501, .slice Ao18 t502.length co18] 25 (0, 0)) (by (with_reducible repeat (first | refine blk_drewN ?_ _ | refine blk_drew ?_ | refine blk_alloc ?_ _)); exact BK506.out) hb); have n4_ := Aside0.mk (below_step (by repeat (first | (with_reducible first | exact HB.out | apply below_alloc | apply pw_below_drewN | apply below_drew1 | refine below_set ?_ GE506.out) | exact HB.out)) hb); have n5_ := Aside0.mk (hbox); have n6_ := Aside0.mk ((by rw [hg]; exact (below_size (by repeat (first | (with_reducible first | exact HB.out | apply below_alloc | apply pw_below_drewN | apply below_drew1 | refine below_set ?_ GE506.out) | exact HB.out))) : w.heap.size ≤ gb515)); have n7_ := Aside0.mk ((by rw [hg]; exact (below_size (by repeat (first | (with_reducible first | exact HB.out | apply below_alloc | apply pw_below_drewN | apply below_drew1 | refine below_set ?_ GE506.out) | exact HB.out))) : w.heap.size ≤ gb515)); have n8_ := Aside0.mk ((by rw [hg]; exact Nat.ne_of_lt (blk_lt (g := gb506) (o := .cells #[.bool t501, .slice Ao18 t502.length co18] 25 (0, 0)) (by (with_reducible repeat (first | refine blk_drewN ?_ _ | refine blk_drew ?_ | refine blk_alloc ?_ _)); exact BK506.out)) : gb506 ≠ gb515)); have n9_ := Aside0.mk ((by rw [hg]; exact Nat.ne_of_gt (blk_lt (g := gb506) (o := .cells #[.bool t501, .slice Ao18 t502.length co18] 25 (0, 0)) (by (with_reducible repeat (first | refine blk_drewN ?_ _ | refine blk_drew ?_ | refine blk_alloc ?_ _)); exact BK506.out)) : gb515 ≠ gb506)); clear HO504; clear HO509; clear HO513; clear BK506; clear HB; have HO504 := n0_; have HO509 := n1_; have HO513 := n2_; have BK506 := n3_; have HB := n4_; have BK515 := n5_; have GW515 := n6_; have GE515 := n7_; have NB506_515 := n8_; have NB515_506 := n9_; clear n0_ n1_ n2_ n3_ n4_ n5_ n6_ n7_ n8_ n9_; clear hb hbox hg; have hnb24 := NB515_506.out; have hnc24 := NB506_515.out; have hcz25_0 : w23.cell? ⟨gb515, 0, none⟩ = some (.bool false) := (blk_cell BK515.out 0).trans rfl; have hcz25_1 : w23.cell? ⟨gb515, 1, none⟩ = some (.slice none 0 0) := (blk_cell BK515.out 1).trans rfl; have hfz25_0 := blk_frozen BK515.out 0; have hfz25_1 := blk_frozen BK515.out 1; obtain ⟨Ao26, co26, eo26⟩ := Kd.V_slice HO513.out; subst eo26) | ((with_reducible refine gate_callee (f := 22) rfl ?_); refine goesL_ (some 28) rfl rfl Tryd.func22 (by kernel_rfl) rfl #[.string a0] rfl (by (try simp only [List.map_toArray, List.map_cons, List.map_nil]); first | done | rfl | (simp only [List.length_drop, List.length_take]; rfl)) ?_; (with_reducible refine (dowelref01_Check.calls kj1 a0 t516 _ A13.out).mono ?_); rintro e w' ⟨rfl, ⟨nd, rfl⟩⟩; refine ⟨_, rfl, ?_⟩))
     (try simp only [Act.put, List.setIfInBounds_toArray, List.set_cons_zero, List.set_cons_succ])
     go_cut [35] (fun v35 wc => ∃ (kq : Nat) (x35_13 : Bool), v35 = .bool x35_13 ∧ Aside0 (dowellaw01_IntegerParses.j1 kq a0 t505 x35_13 t501 t502 = some r) ∧ Aside0 (kq ≤ kj1) ∧ Aside0 (Kd.V (Kd.int .u32) 60 wc w.heap.size (fun k_ => k_ ≠ gb506 ∧ k_ ≠ gb515) (.slice Ao18 t502.length co18) t502) ∧ Aside0 (Kd.V (Kd.int .u32) 60 wc w.heap.size (fun k_ => k_ ≠ gb506 ∧ k_ ≠ gb515) (.slice Ao26 t511.length co26) t511) ∧ Aside0 (wc.heap[gb506]? = some (.cells #[.bool t501, (.slice Ao18 t502.length co18)] 25 (0, 0))) ∧ Aside0 (wc.heap[gb515]? = some (.cells #[.bool t510, (.slice Ao26 t511.length co26)] 25 (0, 0))) ∧ Aside0 (Below w.heap.size w wc))
     case first =>
      have H := HC14.out
      clear HC14
      by_cases c27 : t505 = t516
      ·
       rw [if_pos c27] at H
       have c27b0 : (t505 == t516) = true := beq_iff_eq.mpr c27
       have c27b1 : (t505 != t516) = false := bne_eq_false_iff_eq.mpr c27
       clear c27
       (first | rw [c27b0] | (simp only [i64_w, i32_w]; rw [c27b0]) | skip)
       have H' := Aside0.mk H
       clear H
       go_wp2
       go_meet
       case rel => exact ⟨_, ((t514 != 5)), (by first | rfl | (simp; done) | (simp [*]; done) | (simp <;> omega)), H', ⟨by have := HJ1.out; first | omega | exact Nat.le_refl _⟩, ⟨by (with_reducible repeat (first | apply Kd.V_alloc | apply Kd.V_drewN | apply Kd.V_drew)); exact Kd.V_mono (Kd.V_far (p := ⟨gb515, 1, none⟩) (Kd.V_far (p := ⟨gb515, 0, none⟩) (Kd.V_mono HO504.out (fun k_ hk => (⟨hk, hk.2⟩ : _ ∧ k_ ≠ gb515))) (fun _ hk => hk.2) (.bool t510)) (fun _ hk => hk.2) (.slice Ao26 t511.length co26)) (fun _ hk => ⟨hk.1.1.1.2, hk.1.2⟩)⟩, ⟨by (with_reducible repeat (first | apply Kd.V_alloc | apply Kd.V_drewN | apply Kd.V_drew)); exact Kd.V_mono (Kd.V_far (p := ⟨gb515, 1, none⟩) (Kd.V_far (p := ⟨gb515, 0, none⟩) (Kd.V_mono HO513.out (fun k_ hk => (⟨hk, hk.2⟩ : _ ∧ k_ ≠ gb515))) (fun _ hk => hk.2) (.bool t510)) (fun _ hk => hk.2) (.slice Ao26 t511.length co26)) (fun _ hk => ⟨hk.1.1.2, hk.1.2⟩)⟩, ⟨by (with_reducible repeat (first | refine blk_drewN ?_ _ | refine blk_drew ?_ | refine blk_alloc ?_ _)); refine blk_far ?_ NB506_515.out _; (with_reducible repeat (first | refine blk_drewN ?_ _ | refine blk_drew ?_ | refine blk_alloc ?_ _)); refine blk_far ?_ NB506_515.out _; (with_reducible repeat (first | refine blk_drewN ?_ _ | refine blk_drew ?_ | refine blk_alloc ?_ _)); exact BK506.out⟩, ⟨by (with_reducible repeat (first | refine blk_drewN ?_ _ | refine blk_drew ?_ | refine blk_alloc ?_ _)); refine blk_put (cs := #[.bool t510, .slice none 0 0]) ?_ 1 _ rfl; (with_reducible repeat (first | refine blk_drewN ?_ _ | refine blk_drew ?_ | refine blk_alloc ?_ _)); refine blk_put (cs := #[.bool false, .slice none 0 0]) ?_ 0 _ rfl; (with_reducible repeat (first | refine blk_drewN ?_ _ | refine blk_drew ?_ | refine blk_alloc ?_ _)); exact BK515.out⟩, ⟨by repeat (first | (with_reducible first | exact HB.out | apply below_alloc | apply pw_below_drewN | apply below_drew1 | refine below_set ?_ GE506.out | refine below_set ?_ GE515.out) | exact HB.out)⟩⟩
      ·
       rw [if_neg c27] at H
       have c27b0 : (t505 == t516) = false := beq_eq_false_iff_ne.mpr c27
       have c27b1 : (t505 != t516) = true := bne_iff_ne.mpr c27
       (first | rw [c27b0] | (simp only [i64_w, i32_w]; rw [c27b0]) | skip)
       have H' := Aside0.mk H
       clear H
       go_wp2
       go_meet
       case rel => exact ⟨_, (true), (by first | rfl | (simp; done) | (simp [*]; done) | (simp <;> omega)), H', ⟨by have := HJ1.out; first | omega | exact Nat.le_refl _⟩, ⟨by (with_reducible repeat (first | apply Kd.V_alloc | apply Kd.V_drewN | apply Kd.V_drew)); exact Kd.V_mono (Kd.V_far (p := ⟨gb515, 1, none⟩) (Kd.V_far (p := ⟨gb515, 0, none⟩) (Kd.V_mono HO504.out (fun k_ hk => (⟨hk, hk.2⟩ : _ ∧ k_ ≠ gb515))) (fun _ hk => hk.2) (.bool t510)) (fun _ hk => hk.2) (.slice Ao26 t511.length co26)) (fun _ hk => ⟨hk.1.1.1.2, hk.1.2⟩)⟩, ⟨by (with_reducible repeat (first | apply Kd.V_alloc | apply Kd.V_drewN | apply Kd.V_drew)); exact Kd.V_mono (Kd.V_far (p := ⟨gb515, 1, none⟩) (Kd.V_far (p := ⟨gb515, 0, none⟩) (Kd.V_mono HO513.out (fun k_ hk => (⟨hk, hk.2⟩ : _ ∧ k_ ≠ gb515))) (fun _ hk => hk.2) (.bool t510)) (fun _ hk => hk.2) (.slice Ao26 t511.length co26)) (fun _ hk => ⟨hk.1.1.2, hk.1.2⟩)⟩, ⟨by (with_reducible repeat (first | refine blk_drewN ?_ _ | refine blk_drew ?_ | refine blk_alloc ?_ _)); refine blk_far ?_ NB506_515.out _; (with_reducible repeat (first | refine blk_drewN ?_ _ | refine blk_drew ?_ | refine blk_alloc ?_ _)); refine blk_far ?_ NB506_515.out _; (with_reducible repeat (first | refine blk_drewN ?_ _ | refine blk_drew ?_ | refine blk_alloc ?_ _)); exact BK506.out⟩, ⟨by (with_reducible repeat (first | refine blk_drewN ?_ _ | refine blk_drew ?_ | refine blk_alloc ?_ _)); refine blk_put (cs := #[.bool t510, .slice none 0 0]) ?_ 1 _ rfl; (with_reducible repeat (first | refine blk_drewN ?_ _ | refine blk_drew ?_ | refine blk_alloc ?_ _)); refine blk_put (cs := #[.bool false, .slice none 0 0]) ?_ 0 _ rfl; (with_reducible repeat (first | refine blk_drewN ?_ _ | refine blk_drew ?_ | refine blk_alloc ?_ _)); exact BK515.out⟩, ⟨by repeat (first | (with_reducible first | exact HB.out | apply below_alloc | apply pw_below_drewN | apply below_drew1 | refine below_set ?_ GE506.out | refine below_set ?_ GE515.out) | exact HB.out)⟩⟩
     case rest =>
      clear HC14
      try clear c1
      try clear c2
      try clear p2
      try clear hcv2
      try clear c4
      try clear c7
      try clear c11
      try clear c11b0
      try clear c11b1
      try clear c14
      try clear c21
      try clear hcv21
      try clear c22
      try clear c24
      try clear c27
      try clear c27b0
      try clear c27b1
      try clear hcz17_0
      try clear hcz17_1
      try clear hcz25_0
      try clear hcz25_1
      try clear hfz17_0
      try clear hfz17_1
      try clear hfz25_0
      try clear hfz25_1
      try clear p2
      obtain ⟨kq, x35_13, rfl, HA, HJ13, HO_507001, HO_516001, BK506, BK515, HB⟩ := hcut
      cases kq with
      | zero => exact absurd HA.out (by simp [dowellaw01_IntegerParses.j1])
      | succ kj13 =>
       have H := HA.out
       clear HA
       simp only [dowellaw01_IntegerParses.j1] at H
       by_cases c28 : x35_13 = true
       ·
        subst c28
        have H1 : (none) = some r := by rw [if_pos rfl] at H; exact H
        clear H
        have H := H1
        clear H1
        exact absurd H (by simp)
       ·
        replace c28 := Bool.eq_false_iff.mpr c28
        subst c28
        have H1 : (if t505 = 0 then ((integer_Int_Text.f kj13 t501 t502).bind fun t517 => (some (t517.toList == a0.toList))) else ((integer_Int_Text.f kj13 t501 t502).bind fun t518 => (some (t518.toList == ([48] : List UInt8))))) = some r := by rw [if_neg (show ¬ (false = true) by decide)] at H; exact H
        clear H
        have H := H1
        clear H1
        by_cases c29 : t505 = 0
        ·
         rw [if_pos c29] at H
         have c29b0 : (t505 == 0) = true := beq_iff_eq.mpr c29
         have c29b1 : (t505 != 0) = false := bne_eq_false_iff_eq.mpr c29
         clear c29
         replace H := Option.bind_eq_some_iff.mp H
         obtain ⟨t517, A300, H⟩ := H
         replace H : (some (t517.toList == a0.toList)) = some r := H
         have A30 := Aside0.mk A300
         clear A300
         obtain rfl := Option.some.inj H
         have hnb31 := NB506_515.out
         have hnc31 := NB515_506.out
         have hcz32_0 : wc.cell? ⟨gb506, 0, none⟩ = some (.bool t501) := (blk_cell BK506.out 0).trans rfl
         have hcz32_1 : wc.cell? ⟨gb506, 1, none⟩ = some (.slice Ao18 t502.length co18) := (blk_cell BK506.out 1).trans rfl
         have hfz32_0 := blk_frozen BK506.out 0
         have hfz32_1 := blk_frozen BK506.out 1
         go_wp2_with (first | ((with_reducible refine gate_callee (f := 17) rfl ?_); refine goesL_ (some 42) rfl rfl Tryd.func17 (by kernel_rfl) rfl #[.agg #[.bool t501, .slice Ao18 t502.length co18]] rfl (by (try simp only [List.map_toArray, List.map_cons, List.map_nil]); first | done | rfl | (simp only [List.length_drop, List.length_take]; rfl)) ?_; (with_reducible refine (integer_Int_Text.calls kj13 t501 (fun k_ => (k_ ≠ gb506 ∧ k_ ≠ gb515)) _ _ t502 t517 _ ?side1 ?side2 A30.out).mono ?_); (case side1 => exact HO_507001.out); (case side2 => exact G_below HG.out (by repeat (first | (with_reducible first | exact HB.out | apply below_alloc | apply pw_below_drewN | apply below_drew1 | refine below_set ?_ GE506.out | refine below_set ?_ GE515.out) | exact HB.out))); rintro e w33 ⟨rfl, hb⟩; refine ⟨_, rfl, ?_⟩; have n0_ := Aside0.mk (Kd.V_below (by (with_reducible repeat (first | apply Kd.V_alloc | apply Kd.V_drewN | apply Kd.V_drew)); exact HO_507001.out) hb); have n1_ := Aside0.mk (Kd.V_below (by (with_reducible repeat (first | apply Kd.V_alloc | apply Kd.V_drewN | apply Kd.V_drew)); exact HO_516001.out) hb); have n2_ := Aside0.mk (blk_below (g := gb506) (o := .cells #[.bool t501, .slice Ao18 t502.length co18] 25 (0, 0)) (by (with_reducible repeat (first | refine blk_drewN ?_ _ | refine blk_drew ?_ | refine blk_alloc ?_ _)); exact BK506.out) hb); have n3_ := Aside0.mk (blk_below (g := gb515) (o := .cells #[.bool t510, .slice Ao26 t511.length co26] 25 (0, 0)) (by (with_reducible repeat (first | refine blk_drewN ?_ _ | refine blk_drew ?_ | refine blk_alloc ?_ _)); exact BK515.out) hb); have n4_ := Aside0.mk (below_step (by repeat (first | (with_reducible first | exact HB.out | apply below_alloc | apply pw_below_drewN | apply below_drew1 | refine below_set ?_ GE506.out | refine below_set ?_ GE515.out) | exact HB.out)) hb); clear HO_507001; clear HO_516001; clear BK506; clear BK515; clear HB; have HO_507001 := n0_; have HO_516001 := n1_; have BK506 := n2_; have BK515 := n3_; have HB := n4_; clear n0_ n1_ n2_ n3_ n4_; (try clear hb); (try clear hb2); (try clear hk); (try clear hi)))
         go_ret
         exact ⟨by first | rfl | (simp [errW_none, errW_some] <;> rfl) | (simp [*, errW_none, errW_some] <;> rfl), by repeat (first | (with_reducible first | exact HB.out | apply below_alloc | apply pw_below_drewN | apply below_drew1 | refine below_set ?_ GE506.out | refine below_set ?_ GE515.out) | exact HB.out)⟩
        ·
         rw [if_neg c29] at H
         have c29b0 : (t505 == 0) = false := beq_eq_false_iff_ne.mpr c29
         have c29b1 : (t505 != 0) = true := bne_iff_ne.mpr c29
         replace H := Option.bind_eq_some_iff.mp H
         obtain ⟨t518, A340, H⟩ := H
         replace H : (some (t518.toList == ([48] : List UInt8))) = some r := H
         have A34 := Aside0.mk A340
         clear A340
         obtain rfl := Option.some.inj H
         have hnb35 := NB506_515.out
         have hnc35 := NB515_506.out
         have hcz36_0 : wc.cell? ⟨gb506, 0, none⟩ = some (.bool t501) := (blk_cell BK506.out 0).trans rfl
         have hcz36_1 : wc.cell? ⟨gb506, 1, none⟩ = some (.slice Ao18 t502.length co18) := (blk_cell BK506.out 1).trans rfl
         have hfz36_0 := blk_frozen BK506.out 0
         have hfz36_1 := blk_frozen BK506.out 1
         go_wp2_with (first | ((with_reducible refine gate_callee (f := 17) rfl ?_); refine goesL_ (some 39) rfl rfl Tryd.func17 (by kernel_rfl) rfl #[.agg #[.bool t501, .slice Ao18 t502.length co18]] rfl (by (try simp only [List.map_toArray, List.map_cons, List.map_nil]); first | done | rfl | (simp only [List.length_drop, List.length_take]; rfl)) ?_; (with_reducible refine (integer_Int_Text.calls kj13 t501 (fun k_ => (k_ ≠ gb506 ∧ k_ ≠ gb515)) _ _ t502 t518 _ ?side1 ?side2 A34.out).mono ?_); (case side1 => exact HO_507001.out); (case side2 => exact G_below HG.out (by repeat (first | (with_reducible first | exact HB.out | apply below_alloc | apply pw_below_drewN | apply below_drew1 | refine below_set ?_ GE506.out | refine below_set ?_ GE515.out) | exact HB.out))); rintro e w37 ⟨rfl, hb⟩; refine ⟨_, rfl, ?_⟩; have n0_ := Aside0.mk (Kd.V_below (by (with_reducible repeat (first | apply Kd.V_alloc | apply Kd.V_drewN | apply Kd.V_drew)); exact HO_507001.out) hb); have n1_ := Aside0.mk (Kd.V_below (by (with_reducible repeat (first | apply Kd.V_alloc | apply Kd.V_drewN | apply Kd.V_drew)); exact HO_516001.out) hb); have n2_ := Aside0.mk (blk_below (g := gb506) (o := .cells #[.bool t501, .slice Ao18 t502.length co18] 25 (0, 0)) (by (with_reducible repeat (first | refine blk_drewN ?_ _ | refine blk_drew ?_ | refine blk_alloc ?_ _)); exact BK506.out) hb); have n3_ := Aside0.mk (blk_below (g := gb515) (o := .cells #[.bool t510, .slice Ao26 t511.length co26] 25 (0, 0)) (by (with_reducible repeat (first | refine blk_drewN ?_ _ | refine blk_drew ?_ | refine blk_alloc ?_ _)); exact BK515.out) hb); have n4_ := Aside0.mk (below_step (by repeat (first | (with_reducible first | exact HB.out | apply below_alloc | apply pw_below_drewN | apply below_drew1 | refine below_set ?_ GE506.out | refine below_set ?_ GE515.out) | exact HB.out)) hb); clear HO_507001; clear HO_516001; clear BK506; clear BK515; clear HB; have HO_507001 := n0_; have HO_516001 := n1_; have BK506 := n2_; have BK515 := n3_; have HB := n4_; clear n0_ n1_ n2_ n3_ n4_; (try clear hb); (try clear hb2); (try clear hk); (try clear hi)))
         go_ret
         exact ⟨by first | rfl | (simp [errW_none, errW_some] <;> rfl) | (simp [*, errW_none, errW_some] <;> rfl), by repeat (first | (with_reducible first | exact HB.out | apply below_alloc | apply pw_below_drewN | apply below_drew1 | refine below_set ?_ GE506.out | refine below_set ?_ GE515.out) | exact HB.out)⟩
    ·
     rw [if_neg c11] at H
     exact absurd H (by simp)
def dowellaw01_IntegerParses.Pure : Prop := ∀ (a0 : ByteArray), a0.size ≤ 140737488351232 → ∃ k, dowellaw01_IntegerParses.f k a0 = some true
theorem dowellaw01_IntegerParses.walk (P : dowellaw01_IntegerParses.Pure) (a0 : ByteArray) (w : World) (hG : G w) (w0 : a0.size ≤ 140737488351232) :
  Calls Tryd.prog 4 #[.string a0] w fun e w' => e = .returned (.bool true) ∧ Below w.heap.size w w' := by
 obtain ⟨k, h⟩ := P a0 w0
 refine (dowellaw01_IntegerParses.calls k a0 true w hG h).mono ?_
 rintro e w' ⟨rfl, hd⟩
 exact ⟨rfl, hd⟩
end Go.Proofs.YtiikfhdmclmjmaaDoor.P
namespace Go.Proofs.YtiikfhdmclmjmaaDoor.Pure
open Go.RowKit Go.Proofs.YtiikfhdmclmjmaaDoorW.PrintWords
set_option linter.unusedVariables false
set_option linter.unusedSimpArgs false
theorem Ev.pos {α : Type} {c : Prop} [Decidable c] {A B : Nat → Option α} {r : α} (h : c) (k : Ev A r) : Ev (fun n => if c then A n else B n) r := by
  obtain ⟨K, k⟩ := k
  exact ⟨K, fun n hn => by show (if c then A n else B n) = some r; rw [if_pos h]; exact k n hn⟩
theorem Ev.neg {α : Type} {c : Prop} [Decidable c] {A B : Nat → Option α} {r : α} (h : ¬ c) (k : Ev B r) : Ev (fun n => if c then A n else B n) r := by
  obtain ⟨K, k⟩ := k
  exact ⟨K, fun n hn => by show (if c then A n else B n) = some r; rw [if_neg h]; exact k n hn⟩
theorem Ev.bind0 {α β : Type} {o : Option α} {f : Nat → α → Option β} {a : α} {r : β} (h : o = some a) (k : Ev (fun n => f n a) r) : Ev (fun n => o.bind (f n)) r := by
  subst h
  exact k
theorem Ev.some_ {α : Type} {a r : α} (h : a = r) : Ev (fun _ => some a) r := h ▸ Ev.now a
theorem Ev.bindS {α β : Type} {f : Nat → α → Option β} {a : α} {r : β} (k : Ev (fun n => f n a) r) : Ev (fun n => (some a).bind (f n)) r := k
theorem w64 (z : Int) (h0 : -9223372036854775808 ≤ z) (h1 : z ≤ 9223372036854775807) : wrap64 z = z := by unfold wrap64; omega
theorem wsucc {j n : Nat} (h : j < n) (hn : n ≤ 9223372036854775807) : wrap64 ((j : Int) + 1) = ((j + 1 : Nat) : Int) := by rw [w64 _ (by omega) (by omega)]; omega
theorem u64 (z : Int) : IntKind.u64.wrap z = z % 18446744073709551616 := rfl
theorem u64s (z : Int) (h0 : 0 ≤ z) (h1 : z < 18446744073709551616) : IntKind.u64.wrap z = z := by rw [u64]; omega
def val (B : Int) : List Int → Int
  | [] => 0
  | d :: l => d + B * val B l
def Digs (B : Int) (l : List Int) : Prop := ∀ d ∈ l, 0 ≤ d ∧ d < B
def Norm (l : List Int) : Prop := ∀ d, l.getLast? = some d → d ≠ 0
theorem Digs.cons {B d : Int} {l : List Int} (h : Digs B (d :: l)) : (0 ≤ d ∧ d < B) ∧ Digs B l := ⟨h d (by simp), fun x hx => h x (by simp [hx])⟩
theorem Digs.mk {B d : Int} {l : List Int} (h0 : 0 ≤ d) (h1 : d < B) (h : Digs B l) : Digs B (d :: l) := by
  intro x hx
  rcases List.mem_cons.1 hx with rfl | hx
  · exact ⟨h0, h1⟩
  · exact h x hx
theorem Digs.nil (B : Int) : Digs B [] := fun d h => by cases h
theorem Digs.left {B : Int} {l m : List Int} (h : Digs B (l ++ m)) : Digs B l := fun x hx => h x (List.mem_append_left _ hx)
theorem Digs.take {B : Int} {l : List Int} (h : Digs B l) (n : Nat) : Digs B (l.take n) := fun x hx => h x (List.mem_of_mem_take hx)
theorem Digs.drop {B : Int} {l : List Int} (h : Digs B l) (n : Nat) : Digs B (l.drop n) := fun x hx => h x (List.mem_of_mem_drop hx)
theorem val_nonneg {B : Int} (hB : 0 < B) : ∀ {l : List Int}, Digs B l → 0 ≤ val B l
  | [], _ => Int.le_refl _
  | d :: l, h => by
    have := val_nonneg hB h.cons.2
    have h1 := h.cons.1.1
    have := Int.mul_nonneg (Int.le_of_lt hB) this
    simp only [val]
    omega
theorem val_app (B : Int) : ∀ (l m : List Int), val B (l ++ m) = val B l + B ^ l.length * val B m
  | [], m => by simp [val]
  | d :: l, m => by
    simp only [List.cons_append, val, List.length_cons]
    rw [val_app B l m, Int.pow_succ, Int.mul_add, Int.mul_comm (B ^ l.length) B, Int.mul_assoc]
    omega
theorem val_lt {B : Int} (hB : 0 < B) : ∀ {l : List Int}, Digs B l → val B l < B ^ l.length
  | [], _ => by simp [val]
  | d :: l, h => by
    have h1 := val_lt hB h.cons.2
    have h2 := h.cons.1.2
    simp only [val, List.length_cons]
    rw [Int.pow_succ, Int.mul_comm (B ^ l.length) B]
    have : B * (val B l + 1) ≤ B * B ^ l.length := Int.mul_le_mul_of_nonneg_left (by omega) (Int.le_of_lt hB)
    rw [Int.mul_add, Int.mul_one] at this
    omega
theorem getLast?_tail {d : Int} {l : List Int} (h : l ≠ []) : (d :: l).getLast? = l.getLast? := by
  cases l with
  | nil => exact absurd rfl h
  | cons a l => rfl
theorem Norm.tail {d : Int} {l : List Int} (h : Norm (d :: l)) : Norm l := by
  intro x hx
  cases l with
  | nil => simp at hx
  | cons a l => exact h x (by rw [getLast?_tail (by simp)]; exact hx)
theorem Norm.nil : Norm [] := fun d h => by simp at h
theorem norm_pos {B : Int} (hB : 0 < B) : ∀ {l : List Int}, Digs B l → Norm l → l ≠ [] → 0 < val B l
  | [], _, _, h => absurd rfl h
  | [d], hd, hn, _ => by
    have h1 := hd.cons.1.1
    have h2 := hn d rfl
    simp only [val]
    omega
  | d :: e :: l, hd, hn, _ => by
    have := norm_pos hB hd.cons.2 hn.tail (by simp)
    have h1 := hd.cons.1.1
    have h2 := Int.mul_pos hB this
    simp only [val] at *
    omega
theorem val_uniq {B : Int} (hB : 0 < B) : ∀ {l m : List Int}, Digs B l → Digs B m → Norm l → Norm m → val B l = val B m → l = m
  | [], [], _, _, _, _, _ => rfl
  | [], b :: m, _, hm, _, nm, h => by
    have := norm_pos hB hm nm (by simp)
    rw [← h] at this
    exact absurd this (by simp [val])
  | a :: l, [], hl, _, nl, _, h => by
    have := norm_pos hB hl nl (by simp)
    rw [h] at this
    exact absurd this (by simp [val])
  | a :: l, b :: m, hl, hm, nl, nm, h => by
    simp only [val] at h
    have ha := hl.cons.1
    have hb := hm.cons.1
    have e1 : a = b := by
      have h1 : (a + B * val B l) % B = a := by rw [Int.add_mul_emod_self_left]; exact Int.emod_eq_of_lt ha.1 ha.2
      have h2 : (b + B * val B m) % B = b := by rw [Int.add_mul_emod_self_left]; exact Int.emod_eq_of_lt hb.1 hb.2
      rw [← h1, ← h2, h]
    subst e1
    have e2 : val B l = val B m := by
      have : B * val B l = B * val B m := by omega
      exact Int.eq_of_mul_eq_mul_left (by omega) this
    rw [val_uniq hB hl.cons.2 hm.cons.2 nl.tail nm.tail e2]
def dgs (B : Nat) (n : Nat) : List Int := if h : n = 0 ∨ B < 2 then [] else ((n % B : Nat) : Int) :: dgs B (n / B)
termination_by n
decreasing_by exact Nat.div_lt_self (by omega) (by omega)
theorem dgs_zero (B : Nat) : dgs B 0 = [] := by rw [dgs]; simp
theorem dgs_pos {B n : Nat} (hB : 2 ≤ B) (hn : 0 < n) : dgs B n = ((n % B : Nat) : Int) :: dgs B (n / B) := by rw [dgs, dif_neg (by omega)]
theorem dgs_all {B : Nat} (hB : 2 ≤ B) (n : Nat) : Digs B (dgs B n) ∧ Norm (dgs B n) ∧ val B (dgs B n) = n := by
  induction n using Nat.strongRecOn with
  | _ n ih =>
    rcases Nat.eq_zero_or_pos n with rfl | h
    · rw [dgs_zero]
      exact ⟨Digs.nil _, Norm.nil, rfl⟩
    · obtain ⟨h1, h2, h3⟩ := ih (n / B) (Nat.div_lt_self h (by omega))
      rw [dgs_pos hB h]
      have hm : n % B < B := Nat.mod_lt _ (by omega)
      refine ⟨Digs.mk (by omega) (by omega) h1, ?_, ?_⟩
      · intro d hd
        by_cases hz : n / B = 0
        · rw [hz, dgs_zero] at hd
          simp at hd
          have := Nat.div_add_mod n B
          rw [hz] at this
          omega
        · have hne : dgs B (n / B) ≠ [] := by rw [dgs_pos hB (Nat.pos_of_ne_zero hz)]; simp
          rw [getLast?_tail hne] at hd
          exact h2 d hd
      · simp only [val]
        rw [h3]
        have := Nat.mod_add_div n B
        exact_mod_cast this
theorem dgs_digs {B : Nat} (hB : 2 ≤ B) (n : Nat) : Digs B (dgs B n) := (dgs_all hB n).1
theorem dgs_norm {B : Nat} (hB : 2 ≤ B) (n : Nat) : Norm (dgs B n) := (dgs_all hB n).2.1
theorem dgs_val {B : Nat} (hB : 2 ≤ B) (n : Nat) : val B (dgs B n) = n := (dgs_all hB n).2.2
theorem dgs_of {B : Nat} (hB : 2 ≤ B) {l : List Int} {n : Nat} (h1 : Digs B l) (h2 : Norm l) (h3 : val B l = n) : l = dgs B n :=
  val_uniq (by omega) h1 (dgs_digs hB n) h2 (dgs_norm hB n) (by rw [h3, dgs_val hB])
theorem dgs_nil {B : Nat} (hB : 2 ≤ B) {n : Nat} : dgs B n = [] ↔ n = 0 := by
  constructor
  · intro h
    rcases Nat.eq_zero_or_pos n with h0 | h0
    · exact h0
    · rw [dgs_pos hB h0] at h
      cases h
  · rintro rfl
    exact dgs_zero B
def trimL (l : List Int) : List Int := (l.reverse.dropWhile (· == 0)).reverse
theorem trimL_snoc0 (l : List Int) : trimL (l ++ [0]) = trimL l := by simp [trimL]
theorem trimL_snoc {d : Int} (l : List Int) (h : d ≠ 0) : trimL (l ++ [d]) = l ++ [d] := by simp [trimL, h]
theorem trimL_ind {P : List Int → List Int → Prop} (h0 : P [] []) (h1 : ∀ l r, P l r → P (l ++ [0]) r) (h2 : ∀ l d, d ≠ 0 → P (l ++ [d]) (l ++ [d])) (l : List Int) : P l (trimL l) := by
  induction hn : l.length generalizing l with
  | zero =>
    obtain rfl := List.length_eq_zero_iff.1 hn
    exact h0
  | succ n ih =>
    obtain ⟨m, d, rfl⟩ : ∃ m d, l = m ++ [d] := ⟨l.dropLast, l.getLast (by intro h; simp [h] at hn), (List.dropLast_concat_getLast _).symm⟩
    by_cases hd : d = 0
    · subst hd
      rw [trimL_snoc0]
      exact h1 m _ (ih m (by simp at hn; omega))
    · rw [trimL_snoc m hd]
      exact h2 m d hd
theorem trimL_val (B : Int) (l : List Int) : val B (trimL l) = val B l :=
  trimL_ind (P := fun l r => val B r = val B l) rfl (fun l r h => by rw [h, val_app]; simp [val]) (fun _ _ _ => rfl) l
theorem trimL_digs {B : Int} {l : List Int} (h : Digs B l) : Digs B (trimL l) :=
  trimL_ind (P := fun l r => Digs B l → Digs B r) (fun h => h) (fun l r k h => k h.left) (fun _ _ _ h => h) l h
theorem trimL_norm (l : List Int) : Norm (trimL l) :=
  trimL_ind (P := fun _ r => Norm r) Norm.nil (fun _ _ h => h) (fun l d hd x hx => by simp at hx; omega) l
theorem trimL_of_norm {l : List Int} (h : Norm l) : trimL l = l := by
  rcases List.eq_nil_or_concat l with rfl | ⟨m, d, rfl⟩
  · rfl
  · rw [List.concat_eq_append] at *
    exact trimL_snoc m (h d (by simp))
theorem trimL_dgs {B : Nat} (hB : 2 ≤ B) {l : List Int} {n : Nat} (h1 : Digs B l) (h3 : val B l = n) : trimL l = dgs B n :=
  dgs_of hB (trimL_digs h1) (trimL_norm l) (by rw [trimL_val, h3])
theorem dgs_len {B : Nat} (hB : 2 ≤ B) : ∀ (m n : Nat), n < B ^ m → (dgs B n).length ≤ m
  | 0, n, h => by
    have : n = 0 := by simpa using h
    subst this
    simp [dgs_zero]
  | m + 1, n, h => by
    rcases Nat.eq_zero_or_pos n with rfl | hn
    · simp [dgs_zero]
    · rw [dgs_pos hB hn, List.length_cons]
      have : n / B < B ^ m := by
        rw [Nat.pow_succ, Nat.mul_comm] at h
        exact Nat.div_lt_of_lt_mul h
      have := dgs_len hB m (n / B) this
      omega
theorem rd_at {l : List Int} {i : Nat} (h : i < l.length) : rd l (i : Int) = l[i] := by
  unfold rd
  simp [List.getD_eq_getElem?_getD, h]
theorem rd_digs {B : Int} {l : List Int} (hl : Digs B l) {i : Nat} (h : i < l.length) : 0 ≤ rd l (i : Int) ∧ rd l (i : Int) < B := by
  rw [rd_at h]
  exact hl _ (List.getElem_mem h)
theorem drop_at {l : List Int} {i : Nat} (h : i < l.length) : l.drop i = rd l (i : Int) :: l.drop (i + 1) := by
  rw [rd_at h]
  exact List.drop_eq_getElem_cons h
theorem set_at (l : List Int) (z x : Int) (n : Nat) : (l ++ List.replicate (n + 1) z).set l.length x = (l ++ [x]) ++ List.replicate n z := by
  rw [List.set_append_right _ _ (Nat.le_refl _), Nat.sub_self, List.replicate_succ, List.set_cons_zero, List.append_assoc]
  rfl
end Go.Proofs.YtiikfhdmclmjmaaDoor.Pure
namespace Go.Proofs.YtiikfhdmclmjmaaDoor.P
open Go.RowKit Go.Proofs.YtiikfhdmclmjmaaDoorW.PrintWords Go.Proofs.YtiikfhdmclmjmaaDoorW.PrintLast
set_option linter.unusedVariables false
set_option linter.unusedSimpArgs false
def integer_Abs.f (a0_0 : Bool) (l0_1 : List Int) : Option (Bool × List Int) := some (false, l0_1)
def integer_Compare.f (k : Nat) (a0_0 : Bool) (l0_1 : List Int) (a1_0 : Bool) (l1_1 : List Int) : Option (Int) := if (a0_0 != a1_0) = true then (if a0_0 = true then (some (-1)) else (some 1)) else (if a0_0 = true then ((integer_order.f k l1_1 l0_1).bind fun t439 => (some t439)) else ((integer_order.f k l0_1 l1_1).bind fun t440 => (some t440)))
theorem integer_Compare.mono : ∀ a0 a1 a2 a3 k, LeO (integer_Compare.f k a0 a1 a2 a3) (integer_Compare.f (k + 1) a0 a1 a2 a3) := by
 intro a0 a1 a2 a3 k
 unfold integer_Compare.f
 repeat' first
   | (with_reducible exact integer_order.mono _ _ _)
   | (with_reducible exact LeO.refl _)
   | (with_reducible exact LeO.none _)
   | (with_reducible refine LeO.ite ?_ ?_)
   | (with_reducible refine LeO.bind ?_ (fun _ => ?_))
   | exact integer_order.mono _ _ _
   | exact LeO.none _
   | refine LeO.ite ?_ ?_
   | refine LeO.bind ?_ (fun _ => ?_)
end Go.Proofs.YtiikfhdmclmjmaaDoor.P
namespace Go.Proofs.YtiikfhdmclmjmaaDoor.Pure
open Go.RowKit Go.Proofs.YtiikfhdmclmjmaaDoorW.PrintWords Go.Proofs.YtiikfhdmclmjmaaDoor.P
set_option linter.unusedVariables false
set_option linter.unusedSimpArgs false
abbrev BB : Nat := 4294967296
theorem BB2 : 2 ≤ BB := by decide
abbrev lm (z : Int) : List Int := dgs BB z.natAbs
theorem lm_nil {z : Int} : lm z = [] ↔ z = 0 := by rw [lm, dgs_nil BB2]; omega
theorem lm_len0 {z : Int} : (lm z).length = 0 ↔ z = 0 := by rw [List.length_eq_zero_iff, lm_nil]
theorem trim_ev (l : List Int) (h : l.length ≤ 4611686018427387904) : Ev (fun k => integer_trim.f k l) (trimL l) := by
  show Ev (fun k => integer_trim.l0 k l) (trimL l)
  revert h
  refine trimL_ind (P := fun l r => l.length ≤ 4611686018427387904 → Ev (fun k => integer_trim.l0 k l) r) ?_ ?_ ?_ l
  · intro _
    exact Ev.step (fun k => integer_trim.l0.eq_2 ..) (Ev.neg (by simp) (Ev.now _))
  · intro l r ih h
    have hq : (l ++ [0]).length = l.length + 1 := by simp
    have e : wrap64 (((l ++ [0]).length : Int) - 1) = (l.length : Int) := by
      rw [w64 _ (by omega) (by omega)]
      omega
    refine Ev.step (fun k => integer_trim.l0.eq_2 ..) ?_
    rw [e]
    refine Ev.pos (by omega) (Ev.pos (by omega) (Ev.pos (by omega) (Ev.pos ?_ (Ev.pos (by omega) ?_))))
    · rw [rd_at (by simp)]; simp
    · have : (l ++ [0]).take ((l.length : Int) : Int).toNat = l := by simp
      rw [this]
      exact ih (by simp at h; omega)
  · intro l d hd h
    have hq : (l ++ [d]).length = l.length + 1 := by simp
    have e : wrap64 (((l ++ [d]).length : Int) - 1) = (l.length : Int) := by
      rw [w64 _ (by omega) (by omega)]
      omega
    refine Ev.step (fun k => integer_trim.l0.eq_2 ..) ?_
    rw [e]
    refine Ev.pos (by omega) (Ev.pos (by omega) (Ev.pos (by omega) (Ev.neg ?_ (Ev.now _))))
    rw [rd_at (by simp)]; simpa using hd
theorem signed_ev (neg : Bool) (l : List Int) (n : Nat) (hl : l.length ≤ 4611686018427387904) (hd : Digs 4294967296 l) (hv : val 4294967296 l = n) :
    Ev (fun k => integer_signed.f k neg l) (decide (neg = true ∧ n ≠ 0), dgs BB n) := by
  have ht : trimL l = dgs BB n := trimL_dgs BB2 hd hv
  refine Ev.bind (trim_ev l hl) ?_
  rw [ht]
  by_cases hn : neg = true
  · refine Ev.pos hn (Ev.some_ ?_)
    have : (0 < (dgs BB n).length) = (neg = true ∧ n ≠ 0) := by
      apply propext
      rw [Nat.pos_iff_ne_zero, Ne, List.length_eq_zero_iff, dgs_nil BB2]
      simp [hn]
    simp only [this]
  · refine Ev.neg hn (Ev.some_ ?_)
    simp [hn]
theorem signed_mk {neg : Bool} {n : Nat} {z : Int} (h : z = if neg = true then -(n : Int) else n) : ((decide (neg = true ∧ n ≠ 0), dgs BB n) : Bool × List Int) = (decide (z < 0), lm z) := by
  have h1 : z.natAbs = n := by split at h <;> omega
  have h2 : (neg = true ∧ n ≠ 0) = (z < 0) := by
    apply propext
    split at h
    · rename_i hn
      simp only [hn, true_and]
      omega
    · rename_i hn
      exact ⟨fun hh => absurd hh.1 hn, fun hh => by omega⟩
  rw [lm, h1]
  simp only [h2]
theorem signed_to (neg : Bool) (l : List Int) (n : Nat) (z : Int) (hl : l.length ≤ 4611686018427387904) (hd : Digs 4294967296 l) (hv : val 4294967296 l = n) (hz : z = if neg = true then -(n : Int) else n) :
    Ev (fun k => integer_signed.f k neg l) (decide (z < 0), lm z) := signed_mk hz ▸ signed_ev neg l n hl hd hv
theorem from_ev (z : Int) (h0 : -9223372036854775808 ≤ z) (h1 : z ≤ 9223372036854775807) : Ev (fun k => integer_From.f k z) (decide (z < 0), lm z) := by
  unfold integer_From.f
  by_cases hz : z < 0
  · refine Ev.pos hz ?_
    have e : IntKind.u64.wrap (-(IntKind.u64.wrap z)) = (z.natAbs : Int) := by simp only [u64]; omega
    rw [e]
    refine Ev.bind (signed_to true _ z.natAbs z (by simp) ?_ ?_ (by simp; omega)) (Ev.some_ (by simp [hz]))
    · exact Digs.mk (by omega) (by omega) (Digs.mk (by omega) (by omega) (Digs.nil _))
    · simp only [val]; omega
  · refine Ev.neg hz ?_
    have e : IntKind.u64.wrap z = (z.natAbs : Int) := by simp only [u64]; omega
    rw [e]
    refine Ev.bind (signed_to false _ z.natAbs z (by simp) ?_ ?_ (by simp; omega)) (Ev.some_ (by simp [hz]))
    · exact Digs.mk (by omega) (by omega) (Digs.mk (by omega) (by omega) (Digs.nil _))
    · simp only [val]; omega
theorem or_high (x d : Int) (hx : 0 ≤ x) (hx1 : x < 4294967296) (hd : 0 ≤ d) (hd1 : d < 4294967296) : Go.bits .or .u64 (x * 4294967296) d = x * 4294967296 + d :=
  bits_join .u64 64 (by decide) (fun n h0 h1 => u64s n h0 h1) 32 _ d (by omega) (by omega) (by omega) hd hd1 (by omega)
theorem set_mid {l : List Int} {i n : Nat} {z x j : Int} (hi : l.length = i) (hj : j = (i : Int)) (h : 0 < n) : (l ++ List.replicate n z).set j.toNat x = (l ++ [x]) ++ List.replicate (n - 1) z := by
  obtain ⟨m, rfl⟩ : ∃ m, n = m + 1 := ⟨n - 1, by omega⟩
  rw [hj, Int.toNat_natCast, ← hi, set_at]
  rfl
theorem app_cons (p : List Int) (x : Int) (q : List Int) : p ++ x :: q = p ++ [x] ++ q := by simp
theorem mul_bd {x y : Int} (h0 : 0 ≤ x) (h1 : x < 4294967296) (k0 : 0 ≤ y) (k1 : y < 4294967296) : 0 ≤ x * y ∧ x * y ≤ 18446744065119617025 := by
  refine ⟨Int.mul_nonneg h0 k0, ?_⟩
  have : x * y ≤ 4294967295 * 4294967295 := Int.mul_le_mul (by omega) (by omega) k0 (by omega)
  omega
def scaleR (B : Int) : List Int → Int → Int → List Int
  | [], _, c => [c % B]
  | a :: l, b, c => ((c + a * b) % B) :: scaleR B l b ((c + a * b) / B)
theorem scaleR_all : ∀ (l : List Int) (b c : Int), Digs 4294967296 l → 0 ≤ b → b < 4294967296 → 0 ≤ c → c < 4294967296 → Digs 4294967296 (scaleR 4294967296 l b c) ∧ val 4294967296 (scaleR 4294967296 l b c) = val 4294967296 l * b + c
  | [], b, c, _, b0, b1, h0, h1 => by
    refine ⟨Digs.mk (by omega) (by omega) (Digs.nil _), ?_⟩
    simp only [scaleR, val]
    omega
  | a :: l, b, c, hl, b0, b1, h0, h1 => by
    have ha := hl.cons.1
    have hp := mul_bd ha.1 ha.2 b0 b1
    have ih := scaleR_all l b ((c + a * b) / 4294967296) hl.cons.2 b0 b1 (by omega) (by omega)
    refine ⟨Digs.mk (by omega) (by omega) ih.1, ?_⟩
    simp only [scaleR, val, ih.2]
    rw [Int.add_mul, Int.mul_assoc]
    omega
theorem scale_l0 (l : List Int) (b : Int) (hl : Digs 4294967296 l) (b0 : 0 ≤ b) (b1 : b < 4294967296) (hmax : l.length ≤ 70368744177663) :
    ∀ (n i : Nat) (p : List Int) (c : Int), l.length - i = n → i ≤ l.length → p.length = i → 0 ≤ c → c < 4294967296 →
      Ev (fun k => integer_scale.l0 k l b (p ++ List.replicate (l.length + 1 - i) 0) c l (l.length : Int) (i : Int)) (trimL (p ++ scaleR 4294967296 (l.drop i) b c))
  | 0, i, p, c, hn, hi, hp, h0, h1 => by
    obtain rfl : i = l.length := by omega
    have e : l.length + 1 - l.length = 1 := by omega
    rw [e]
    refine Ev.step (fun k => integer_scale.l0.eq_2 ..) (Ev.neg (by omega) (Ev.pos (by omega) (Ev.pos (by rw [List.length_append, List.length_replicate, hp]; omega) ?_)))
    rw [set_mid hp rfl (by omega), List.drop_of_length_le (Nat.le_refl _)]
    simp only [scaleR, Nat.sub_self, List.replicate_zero, List.append_nil]
    exact Ev.bind (trim_ev _ (by simp [hp]; omega)) (Ev.now _)
  | n + 1, i, p, c, hn, hi, hp, h0, h1 => by
    have ha := rd_digs hl (show i < l.length by omega)
    have hb := mul_bd ha.1 ha.2 b0 b1
    have ew : wrap64 ((i : Int) + 1) = ((i + 1 : Nat) : Int) := by rw [w64 _ (by omega) (by omega)]; omega
    have hlen2 : (p ++ List.replicate (l.length + 1 - i) (0 : Int)).length = l.length + 1 := by simp [hp]; omega
    have es : scaleR 4294967296 (l.drop i) b c = ((c + rd l (i : Int) * b) % 4294967296) :: scaleR 4294967296 (l.drop (i + 1)) b ((c + rd l (i : Int) * b) / 4294967296) := by
      rw [drop_at (l := l) (by omega)]
      simp only [scaleR]
    have hr : l.length + 1 - i - 1 = l.length + 1 - (i + 1) := by omega
    have ih := scale_l0 l b hl b0 b1 hmax n (i + 1) (p ++ [(c + rd l (i : Int) * b) % 4294967296]) ((c + rd l (i : Int) * b) / 4294967296) (by omega) (by omega) (by simp [hp]) (by omega) (by omega)
    rw [es, app_cons]
    refine Ev.step (fun k => integer_scale.l0.eq_2 ..) (Ev.pos (by omega) (Ev.pos (by omega) (Ev.pos (by omega) (Ev.pos (by omega) ?_))))
    have e1 : IntKind.u64.wrap (c + (IntKind.u64.wrap ((IntKind.u64.wrap (rd l (i : Int))) * (IntKind.u64.wrap b)))) = c + rd l (i : Int) * b := by
      rw [u64s (rd l (i : Int)) (by omega) (by omega), u64s b (by omega) (by omega), u64s _ hb.1 (by omega), u64s _ (by omega) (by omega)]
    rw [ew, e1, set_mid hp rfl (by omega), hr]
    exact ih
theorem scale_ev (l : List Int) (b c : Int) (hl : Digs 4294967296 l) (b0 : 0 ≤ b) (b1 : b < 4294967296) (c0 : 0 ≤ c) (c1 : c < 4294967296) (hmax : l.length ≤ 70368744177663) (n : Nat) (hn : val 4294967296 l * b + c = n) :
    Ev (fun k => integer_scale.f k l b c) (dgs BB n) := by
  unfold integer_scale.f
  have hr := scaleR_all l b c hl b0 b1 c0 c1
  rw [w64 _ (by omega) (by omega)]
  refine Ev.pos (by omega) (Ev.pos (by omega) ?_)
  have := scale_l0 l b hl b0 b1 hmax l.length 0 [] c (by omega) (by omega) rfl c0 c1
  rw [show ((l.length : Int) + 1).toNat = l.length + 1 - 0 by omega, u64s c c0 (by omega)]
  rw [List.drop_zero, List.nil_append, List.nil_append, trimL_dgs BB2 hr.1 (hr.2.trans hn)] at this
  exact this
def shortR (b : Int) : List Int → List Int × Int
  | [] => ([], 0)
  | d :: l => (((shortR b l).2 * 4294967296 + d) / b :: (shortR b l).1, ((shortR b l).2 * 4294967296 + d) % b)
theorem shortR_all (b : Int) (b0 : 0 < b) (b1 : b < 4294967296) : ∀ (l : List Int), Digs 4294967296 l →
    Digs 4294967296 (shortR b l).1 ∧ val 4294967296 l = val 4294967296 (shortR b l).1 * b + (shortR b l).2 ∧ 0 ≤ (shortR b l).2 ∧ (shortR b l).2 < b ∧ (shortR b l).1.length = l.length
  | [], _ => ⟨Digs.nil _, by simp [shortR, val], by simp [shortR], by simpa [shortR] using b0, rfl⟩
  | d :: l, h => by
    obtain ⟨h1, h2, h3, h4, h5⟩ := shortR_all b b0 b1 l h.cons.2
    have hd := h.cons.1
    have hm := Int.emod_nonneg ((shortR b l).2 * 4294967296 + d) (show b ≠ 0 by omega)
    have hm2 := Int.emod_lt_of_pos ((shortR b l).2 * 4294967296 + d) b0
    have hq0 : 0 ≤ ((shortR b l).2 * 4294967296 + d) / b := Int.ediv_nonneg (by omega) (by omega)
    have hq1 : ((shortR b l).2 * 4294967296 + d) / b < 4294967296 := Int.ediv_lt_of_lt_mul b0 (by omega)
    have hdm := Int.mul_ediv_add_emod ((shortR b l).2 * 4294967296 + d) b
    rw [Int.mul_comm b] at hdm
    simp only [shortR]
    refine ⟨Digs.mk hq0 hq1 h1, ?_, hm, hm2, by simp [h5]⟩
    simp only [val]
    rw [h2, Int.add_mul, Int.mul_assoc]
    omega
theorem short_l0 (l : List Int) (b : Int) (hl : Digs 4294967296 l) (b0 : 0 < b) (b1 : b < 4294967296) (hmax : l.length ≤ 70368744177663) :
    ∀ (i : Nat), i ≤ l.length →
      Ev (fun k => integer_short.l0 k l b (List.replicate i 0 ++ (shortR b (l.drop i)).1) (shortR b (l.drop i)).2 ((i : Int) - 1)) (trimL (shortR b l).1, (shortR b l).2)
  | 0, hi => by
    have hs := shortR_all b b0 b1 l hl
    refine Ev.step (fun k => integer_short.l0.eq_2 ..) (Ev.neg (by omega) ?_)
    simp only [List.drop_zero, List.replicate_zero, List.nil_append]
    refine Ev.bind (trim_ev _ (by omega)) (Ev.some_ ?_)
    rw [Int.emod_eq_of_lt hs.2.2.1 (by omega)]
  | i + 1, hi => by
    have ha := rd_digs hl (show i < l.length by omega)
    have hs := shortR_all b b0 b1 (l.drop (i + 1)) (hl.drop _)
    have e : (((i + 1 : Nat) : Int) - 1) = (i : Int) := by omega
    have ew : wrap64 ((i : Int) - 1) = (i : Int) - 1 := w64 _ (by omega) (by omega)
    have hlen2 : (List.replicate (i + 1) (0 : Int) ++ (shortR b (l.drop (i + 1))).1).length = l.length := by simp [hs.2.2.2.2]; omega
    have ih := short_l0 l b hl b0 b1 hmax i (by omega)
    rw [e]
    refine Ev.step (fun k => integer_short.l0.eq_2 ..) (Ev.pos (by omega) (Ev.pos (by omega) (Ev.pos (by omega) (Ev.neg ?_ (Ev.pos (by omega) ?_)))))
    · rw [u64s b (by omega) (by omega)]; omega
    · rw [u64s b (by omega) (by omega), u64s (rd l (i : Int)) (by omega) (by omega), u64s (_ * 4294967296) (by omega) (by omega), or_high _ _ hs.2.2.1 (by omega) ha.1 ha.2, ew]
      have hq0 : 0 ≤ ((shortR b (l.drop (i + 1))).2 * 4294967296 + rd l (i : Int)) / b := Int.ediv_nonneg (by omega) (by omega)
      have hq1 : ((shortR b (l.drop (i + 1))).2 * 4294967296 + rd l (i : Int)) / b < 4294967296 := Int.ediv_lt_of_lt_mul b0 (by omega)
      have et : Int.tdiv ((shortR b (l.drop (i + 1))).2 * 4294967296 + rd l (i : Int)) b = ((shortR b (l.drop (i + 1))).2 * 4294967296 + rd l (i : Int)) / b := Int.tdiv_eq_ediv_of_nonneg (by omega)
      have em : Int.tmod ((shortR b (l.drop (i + 1))).2 * 4294967296 + rd l (i : Int)) b = ((shortR b (l.drop (i + 1))).2 * 4294967296 + rd l (i : Int)) % b := Int.tmod_eq_emod_of_nonneg (by omega)
      rw [et, em, u64s _ hq0 (by omega), Int.emod_eq_of_lt hq0 hq1]
      have hx : (List.replicate (i + 1) (0 : Int) ++ (shortR b (l.drop (i + 1))).1).set ((i : Int) : Int).toNat (((shortR b (l.drop (i + 1))).2 * 4294967296 + rd l (i : Int)) / b) = List.replicate i 0 ++ (shortR b (l.drop i)).1 := by
        rw [List.replicate_succ', List.append_assoc, Int.toNat_natCast]
        have : i = (List.replicate i (0 : Int)).length := by simp
        conv => lhs; arg 2; rw [this]
        rw [List.set_append_right _ _ (Nat.le_refl _), Nat.sub_self, drop_at (l := l) (i := i) (by omega)]
        rfl
      have hy : ((shortR b (l.drop (i + 1))).2 * 4294967296 + rd l (i : Int)) % b = (shortR b (l.drop i)).2 := by
        rw [drop_at (l := l) (i := i) (by omega)]; rfl
      rw [hx, hy]
      exact ih
theorem short_ev (l : List Int) (b : Int) (hl : Digs 4294967296 l) (b0 : 0 < b) (b1 : b < 4294967296) (hmax : l.length ≤ 70368744177663) :
    Ev (fun k => integer_short.f k l b) (dgs BB ((val 4294967296 l).toNat / b.toNat), ((val 4294967296 l).toNat % b.toNat : Nat)) := by
  unfold integer_short.f
  obtain ⟨h1, h2, h3, h4, h5⟩ := shortR_all b b0 b1 l hl
  have hv := val_nonneg (B := 4294967296) (by decide) h1
  have hv2 := val_nonneg (B := 4294967296) (by decide) hl
  have hp := Int.mul_nonneg hv (Int.le_of_lt b0)
  rw [w64 _ (by omega) (by omega)]
  refine Ev.pos (by omega) (Ev.pos (by omega) ?_)
  have := short_l0 l b hl b0 b1 hmax l.length (Nat.le_refl _)
  rw [List.drop_of_length_le (Nat.le_refl _)] at this
  simp only [shortR, List.append_nil] at this
  rw [show ((l.length : Int) : Int).toNat = l.length by omega]
  obtain ⟨q, hq⟩ : ∃ q : Nat, val 4294967296 (shortR b l).1 = q := ⟨_, (Int.toNat_of_nonneg hv).symm⟩
  obtain ⟨r, hr⟩ : ∃ r : Nat, (shortR b l).2 = r := ⟨_, (Int.toNat_of_nonneg h3).symm⟩
  obtain ⟨c, rfl⟩ : ∃ c : Nat, b = c := ⟨_, (Int.toNat_of_nonneg (by omega)).symm⟩
  have hn : (val 4294967296 l).toNat = q * c + r := by
    rw [h2, hq, hr]
    have : ((q : Int) * c + r) = ((q * c + r : Nat) : Int) := by push_cast; rfl
    rw [this, Int.toNat_natCast]
  have e1 : (q * c + r) / c = q := by
    rw [Nat.mul_comm, Nat.mul_add_div (by omega), Nat.div_eq_of_lt (by omega)]; omega
  have e2 : (q * c + r) % c = r := by
    rw [Nat.mul_comm, Nat.mul_add_mod, Nat.mod_eq_of_lt (by omega)]
  rw [trimL_dgs BB2 h1 hq, hr] at this
  rw [hn, Int.toNat_natCast, e1, e2]
  exact this
def pd : Nat → Nat → List UInt8
  | 0, _ => []
  | k + 1, r => pd k (r / 10) ++ [UInt8.ofNat (48 + r % 10)]
theorem pd_len : ∀ k r, (pd k r).length = k
  | 0, _ => rfl
  | k + 1, r => by simp [pd, pd_len k]
theorem dec_small {n : Nat} (h : n < 10) : Lib.decDigits n = [UInt8.ofNat (48 + n)] := by rw [Lib.decDigits, dif_pos h]
theorem dec_big {n : Nat} (h : ¬ n < 10) : Lib.decDigits n = Lib.decDigits (n / 10) ++ [UInt8.ofNat (48 + n % 10)] := by rw [Lib.decDigits, dif_neg h]
theorem dec_len_pos (n : Nat) : 1 ≤ (Lib.decDigits n).length := by
  by_cases h : n < 10
  · rw [dec_small h]; simp
  · rw [dec_big h]; simp
theorem dec_split : ∀ (k n : Nat), 10 ^ k ≤ n → Lib.decDigits n = Lib.decDigits (n / 10 ^ k) ++ pd k (n % 10 ^ k)
  | 0, n, h => by simp [pd]
  | k + 1, n, h => by
    have hp : 1 ≤ 10 ^ k := Nat.one_le_pow _ _ (by decide)
    rw [Nat.pow_succ] at h
    have h1 : 10 ^ k ≤ n / 10 := (Nat.le_div_iff_mul_le (by decide)).2 h
    rw [dec_big (by omega), dec_split k (n / 10) h1, Nat.div_div_eq_div_mul, Nat.mul_comm 10 (10 ^ k), ← Nat.pow_succ]
    simp only [pd]
    have e1 : n % 10 ^ (k + 1) / 10 = n / 10 % 10 ^ k := by
      rw [Nat.pow_succ, Nat.mul_comm, Nat.mod_mul_right_div_self]
    have e2 : n % 10 ^ (k + 1) % 10 = n % 10 := Nat.mod_mod_of_dvd n ⟨10 ^ k, by rw [Nat.pow_succ, Nat.mul_comm]⟩
    rw [e1, e2, List.append_assoc]
theorem pd_zero : ∀ k, pd k 0 = List.replicate k 48
  | 0 => rfl
  | k + 1 => by rw [pd, Nat.zero_div, pd_zero k, List.replicate_succ']; rfl
theorem pd_pad : ∀ (k r : Nat), r < 10 ^ (k + 1) → (Lib.decDigits r).length ≤ k + 1 ∧ pd (k + 1) r = List.replicate (k + 1 - (Lib.decDigits r).length) 48 ++ Lib.decDigits r
  | k, r, h => by
    by_cases hr : r < 10
    · rw [dec_small hr, pd, Nat.div_eq_of_lt hr, Nat.mod_eq_of_lt hr, pd_zero]
      exact ⟨by simp, by simp⟩
    · cases k with
      | zero => simp at h; omega
      | succ k =>
        have h1 : r / 10 < 10 ^ (k + 1) := by
          rw [Nat.pow_succ, Nat.mul_comm] at h
          exact Nat.div_lt_of_lt_mul h
        obtain ⟨i1, i2⟩ := pd_pad k (r / 10) h1
        rw [dec_big hr]
        refine ⟨by simp; omega, ?_⟩
        rw [pd, i2]
        have e : k + 1 + 1 - (Lib.decDigits (r / 10) ++ [UInt8.ofNat (48 + r % 10)]).length = k + 1 - (Lib.decDigits (r / 10)).length := by simp
        rw [e, List.append_assoc]
theorem dec_len_split {k n : Nat} (h : 10 ^ k ≤ n) : (Lib.decDigits n).length = (Lib.decDigits (n / 10 ^ k)).length + k := by
  rw [dec_split k n h]
  simp [pd_len]
theorem dgs_lt_pow {B : Nat} (hB : 2 ≤ B) (n : Nat) : n < B ^ (dgs B n).length := by
  have := val_lt (B := (B : Int)) (by omega) (dgs_digs hB n)
  rw [dgs_val hB n] at this
  exact_mod_cast this
theorem dgs_len_mono {m n : Nat} (h : m ≤ n) : (dgs BB m).length ≤ (dgs BB n).length :=
  dgs_len BB2 _ m (Nat.lt_of_le_of_lt h (dgs_lt_pow BB2 n))
theorem rev_l0 : ∀ (n : Nat) (m a b : List ByteArray), m.length = n → a.length + m.length + b.length ≤ 4611686018427387904 → Ev (fun k => slices_Reverse_string_string.l0 k (a ++ m ++ b) (a.length : Int) ((a.length : Int) + (m.length : Int) - 1)) (a ++ m.reverse ++ b)
  | n, m, a, b, hn, hmax => by
    by_cases h : m.length < 2
    · refine Ev.step (fun k => slices_Reverse_string_string.l0.eq_2 ..) (Ev.neg (by omega) (Ev.some_ ?_))
      have : m.reverse = m := by
        match m, h with
        | [], _ => rfl
        | [x], _ => rfl
      rw [this]
    · obtain ⟨x, m1, rfl⟩ : ∃ x m1, m = x :: m1 := by
        cases m with
        | nil => simp at h
        | cons x m1 => exact ⟨x, m1, rfl⟩
      obtain ⟨m2, y, rfl⟩ : ∃ m2 y, m1 = m2 ++ [y] := ⟨m1.dropLast, m1.getLast (fun e => by rw [e] at h; simp at h), (List.dropLast_concat_getLast _).symm⟩
      have hl : (x :: (m2 ++ [y])).length = m2.length + 2 := by simp
      have hL : (a ++ x :: (m2 ++ [y]) ++ b).length = a.length + (m2.length + 2) + b.length := by simp; omega
      have ej : ((a.length : Int) + ((x :: (m2 ++ [y])).length : Int) - 1) = ((a.length + m2.length + 1 : Nat) : Int) := by rw [hl]; omega
      have q1 : (a.length : Int) < ((a.length + m2.length + 1 : Nat) : Int) := by omega
      have q2 : (0 : Int) ≤ ((a.length + m2.length + 1 : Nat) : Int) := by omega
      have q3 : ((a.length + m2.length + 1 : Nat) : Int) < ((a ++ x :: (m2 ++ [y]) ++ b).length : Int) := by rw [hL]; omega
      have q4 : (a.length : Int) < ((a ++ x :: (m2 ++ [y]) ++ b).length : Int) := by rw [hL]; omega
      have q5 : (0 : Int) ≤ (a.length : Int) := by omega
      have w1 : a.length < a.length + 1 := by omega
      have w2 : a.length + 1 ≤ 9223372036854775807 := by omega
      have w3 : wrap64 (((a.length + m2.length + 1 : Nat) : Int) - 1) = ((a ++ [y]).length : Int) + (m2.length : Int) - 1 := by
        rw [w64 _ (by omega) (by omega)]; simp; omega
      have e1 : rdOf ByteArray.empty (a ++ x :: (m2 ++ [y]) ++ b) ((a.length + m2.length + 1 : Nat) : Int) = y := by
        unfold rdOf
        rw [Int.toNat_natCast, List.getD_eq_getElem?_getD]
        have : a ++ x :: (m2 ++ [y]) ++ b = (a ++ x :: m2) ++ y :: b := by simp
        rw [this, show a.length + m2.length + 1 = (a ++ x :: m2).length by simp; omega, List.getElem?_append_right (Nat.le_refl _), Nat.sub_self]
        rfl
      have e2 : rdOf ByteArray.empty (a ++ x :: (m2 ++ [y]) ++ b) (a.length : Int) = x := by
        unfold rdOf
        rw [Int.toNat_natCast, List.getD_eq_getElem?_getD, List.append_assoc, List.getElem?_append_right (Nat.le_refl _), Nat.sub_self]
        rfl
      have e3 : ((a ++ x :: (m2 ++ [y]) ++ b).set ((a.length : Int)).toNat y).set (((a.length + m2.length + 1 : Nat) : Int)).toNat x = (a ++ [y]) ++ m2 ++ (x :: b) := by
        rw [Int.toNat_natCast, Int.toNat_natCast]
        have t1 : (a ++ x :: (m2 ++ [y]) ++ b).set a.length y = (a ++ y :: m2) ++ y :: b := by
          rw [List.append_assoc, List.set_append_right _ _ (Nat.le_refl _), Nat.sub_self]
          simp
        rw [t1, show a.length + m2.length + 1 = (a ++ y :: m2).length by simp; omega, List.set_append_right _ _ (Nat.le_refl _), Nat.sub_self]
        simp
      rw [ej]
      have ih := rev_l0 m2.length m2 (a ++ [y]) (x :: b) rfl (by simp at hmax ⊢; omega)
      have e4 : a ++ (x :: (m2 ++ [y])).reverse ++ b = (a ++ [y]) ++ m2.reverse ++ (x :: b) := by simp
      rw [e4]
      refine Ev.step (fun k => slices_Reverse_string_string.l0.eq_2 ..) (Ev.pos q1 (Ev.pos q2 (Ev.pos q3 (Ev.pos q5 (Ev.pos q4 ?_)))))
      rw [e1, e2, e3, w3, wsucc w1 w2]
      have e5 : ((a.length + 1 : Nat) : Int) = ((a ++ [y]).length : Int) := by simp
      rw [e5]
      exact ih
termination_by n => n
decreasing_by simp at hn; omega
theorem rev_ev (m : List ByteArray) (h : m.length ≤ 4611686018427387904) : Ev (fun k => slices_Reverse_string_string.f k m) m.reverse := by
  unfold slices_Reverse_string_string.f
  have := rev_l0 m.length m [] [] rfl (by simpa using h)
  rw [w64 _ (by omega) (by omega)]
  simpa using this
def flat (xs : List ByteArray) : List UInt8 := (xs.reverse.map (·.data.toList)).flatten
theorem flat_snoc (xs : List ByteArray) (s : ByteArray) : flat (xs ++ [s]) = s.data.toList ++ flat xs := by simp [flat]
def sgn (neg : Bool) (l : List UInt8) : ByteArray := ⟨(if neg = true then 45 :: l else l).toArray⟩
theorem join_flat (xs : List (List UInt8)) : Lib.join xs [] = xs.flatten := by
  induction xs with
  | nil => rfl
  | cons x r ih =>
    rw [Lib.join_cons]
    simp [Lib.joinTail]
theorem sgn_app (l : List UInt8) : (⟨#[45]⟩ : ByteArray) ++ ⟨l.toArray⟩ = ⟨(45 :: l).toArray⟩ := by
  apply ByteArray.ext
  simp [ByteArray.data_append]
theorem bsize (l : List UInt8) : (⟨l.toArray⟩ : ByteArray).size = l.length := by simp [ByteArray.size]
theorem fin_ev (xs : List ByteArray) (neg : Bool) (h1 : xs.length ≤ 140737488355327) (h2 : (flat xs).length ≤ 140737488355327) :
    Ev (fun k => (slices_Reverse_string_string.f k xs).bind fun t173 => ((strings_Join.f t173 (⟨#[]⟩ : ByteArray)).bind fun t174 => (if neg = true then (if 1 + t174.size ≤ 9223372036854775807 then (some ((⟨#[45]⟩ : ByteArray) ++ t174)) else (none)) else (some t174)))) (sgn neg (flat xs)) := by
  refine Ev.bind (rev_ev xs (by omega)) (Ev.bind0 (a := ⟨(flat xs).toArray⟩) ?_ ?_)
  · unfold strings_Join.f
    have e : Lib.join (xs.reverse.map (·.data.toList)) (ByteArray.mk #[]).data.toList = flat xs := join_flat _
    rw [e, if_pos ⟨by simp; omega, by omega⟩]
  · by_cases hn : neg = true
    · refine Ev.pos hn (Ev.pos (by rw [bsize]; omega) (Ev.some_ ?_))
      rw [sgn_app, sgn, if_pos hn]
    · refine Ev.neg hn (Ev.some_ ?_)
      rw [sgn, if_neg hn]
theorem itoa_nat (n : Nat) : Lib.itoa (n : Int) = Lib.decDigits n := by
  unfold Lib.itoa
  rw [if_neg (by omega), Int.toNat_natCast]
theorem text_l0 (mg : List Int) (neg : Bool) : ∀ (n : Nat) (xs : List ByteArray), (dgs BB n).length ≤ 70368744177663 → xs.length + (if n = 0 then 0 else 2 * (Lib.decDigits n).length) + (flat xs).length ≤ 1099511627776 →
    Ev (fun k => integer_Int_Text.l0 k xs (dgs BB n) neg mg) (sgn neg ((if n = 0 then [] else Lib.decDigits n) ++ flat xs)) := by
  intro n
  induction n using Nat.strongRecOn with
  | _ n ih =>
    intro xs hlen htot
    rcases Nat.eq_zero_or_pos n with rfl | hn
    · rw [dgs_zero, if_pos rfl]
      rw [if_pos rfl] at htot
      refine Ev.step (fun k => integer_Int_Text.l0.eq_2 ..) (Ev.neg (by simp) ?_)
      exact fin_ev xs neg (by omega) (by omega)
    · rw [if_neg (by omega)] at htot ⊢
      have hne : 0 < (dgs BB n).length := by
        have := mt (dgs_nil BB2 (n := n)).1 (by omega)
        exact Nat.pos_of_ne_zero (fun e => this (List.length_eq_zero_iff.1 e))
      have hs := short_ev (dgs BB n) 1000000000 (dgs_digs BB2 n) (by decide) (by decide) hlen
      have hv : (val 4294967296 (dgs BB n)).toNat = n := by
        have := dgs_val BB2 n
        have h2 : val 4294967296 (dgs BB n) = n := this
        rw [h2, Int.toNat_natCast]
      rw [hv, show (1000000000 : Int).toNat = 1000000000 from rfl] at hs
      have hr : n % 1000000000 < 10 ^ (8 + 1) := Nat.mod_lt _ (by decide)
      obtain ⟨p1, p2⟩ := pd_pad 8 (n % 1000000000) hr
      refine Ev.step (fun k => integer_Int_Text.l0.eq_2 ..) (Ev.pos (by omega) (Ev.bind hs ?_))
      refine Ev.bind0 (a := ⟨(Lib.decDigits (n % 1000000000)).toArray⟩) ?_ ?_
      · have w : wrap64 ((n % 1000000000 : Nat) : Int) = ((n % 1000000000 : Nat) : Int) := w64 _ (by omega) (by omega)
        show strconv_Itoa_47.f (wrap64 ((n % 1000000000 : Nat) : Int)) = _
        rw [w]
        unfold strconv_Itoa_47.f
        rw [if_pos ⟨by omega, by omega⟩, itoa_nat]
      · have hq := dgs_nil BB2 (n := n / 1000000000)
        by_cases hb : n < 1000000000
        · have hz : n / 1000000000 = 0 := by omega
          have hm : n % 1000000000 = n := by omega
          rw [hz, hm, dgs_zero]
          refine Ev.neg (by simp) (Ev.pos (by omega) ?_)
          have := ih 0 hn (xs ++ [⟨(Lib.decDigits n).toArray⟩]) (by simp [dgs_zero]) (by
            rw [flat_snoc, if_pos rfl]
            have := dec_len_pos n
            simp
            omega)
          rw [dgs_zero, if_pos rfl, flat_snoc] at this
          exact this
        · have hz : n / 1000000000 ≠ 0 := by omega
          have hql : 0 < (dgs BB (n / 1000000000)).length := Nat.pos_of_ne_zero (fun e => hz (hq.1 (List.length_eq_zero_iff.1 e)))
          have hsplit := dec_split 9 n (by omega)
          have hls := dec_len_split (k := 9) (n := n) (by omega)
          have e9 : (10 : Nat) ^ 9 = 1000000000 := rfl
          rw [e9] at hsplit hls
          refine Ev.pos (by show ((dgs BB (n / 1000000000)).length : Int) > 0; omega) ?_
          have hsz : (⟨(Lib.decDigits (n % 1000000000)).toArray⟩ : ByteArray).size = (Lib.decDigits (n % 1000000000)).length := bsize _
          refine Ev.bind0 (a := ⟨(List.replicate (9 - (Lib.decDigits (n % 1000000000)).length) 48).toArray⟩) ?_ ?_
          · rw [hsz, w64 _ (by omega) (by omega)]
            unfold strings_Repeat.f
            have c1 : (9 - ((Lib.decDigits (n % 1000000000)).length : Int)).toNat = 9 - (Lib.decDigits (n % 1000000000)).length := by omega
            rw [if_pos ⟨by omega, by omega, by rw [c1]; show 1 * _ ≤ _; omega⟩, c1]
            have := Lib.repeatL_replicate 48 1 (9 - (Lib.decDigits (n % 1000000000)).length)
            rw [Nat.mul_one] at this
            exact congrArg (fun l => some (ByteArray.mk (List.toArray l))) this
          · have happ : (⟨(List.replicate (9 - (Lib.decDigits (n % 1000000000)).length) 48).toArray⟩ : ByteArray) ++ ⟨(Lib.decDigits (n % 1000000000)).toArray⟩ = ⟨(pd 9 (n % 1000000000)).toArray⟩ := by
              apply ByteArray.ext
              rw [p2]
              simp [ByteArray.data_append]
            refine Ev.pos (by rw [bsize, bsize]; simp; omega) (Ev.pos (by omega) ?_)
            rw [happ]
            have := ih (n / 1000000000) (by omega) (xs ++ [⟨(pd 9 (n % 1000000000)).toArray⟩]) (Nat.le_trans (dgs_len_mono (Nat.div_le_self _ _)) hlen) (by
              rw [flat_snoc, if_neg hz]
              simp [pd_len]
              omega)
            rw [if_neg hz, flat_snoc, ← List.append_assoc] at this
            rw [hsplit]
            exact this
theorem text_ev (z : Int) (h1 : (lm z).length ≤ 70368744177663) (h2 : (Lib.decDigits z.natAbs).length ≤ 274877906944) :
    Ev (fun k => integer_Int_Text.f k (decide (z < 0)) (lm z)) ⟨(Lib.itoa z).toArray⟩ := by
  unfold integer_Int_Text.f
  by_cases hz : z = 0
  · refine Ev.pos (by have := lm_len0.2 hz; omega) (Ev.some_ ?_)
    subst hz
    show _ = (⟨(Lib.itoa ((0 : Nat) : Int)).toArray⟩ : ByteArray)
    rw [itoa_nat, dec_small (by decide)]
    rfl
  · refine Ev.neg (by have := mt lm_len0.1 hz; omega) ?_
    have := text_l0 (lm z) (decide (z < 0)) z.natAbs [] h1 (by rw [if_neg (by omega)]; simp [flat]; omega)
    rw [if_neg (by omega)] at this
    have e : sgn (decide (z < 0)) (Lib.decDigits z.natAbs ++ flat []) = ⟨(Lib.itoa z).toArray⟩ := by
      unfold sgn Lib.itoa flat
      by_cases hn : z < 0
      · rw [if_pos (by simpa using hn), if_pos hn]; simp
      · rw [if_neg (by simpa using hn), if_neg hn, show z.toNat = z.natAbs by omega]; simp
    rw [e] at this
    exact this
end Go.Proofs.YtiikfhdmclmjmaaDoor.Pure
namespace Go.Proofs.YtiikfhdmclmjmaaDoor.P
open Go.RowKit Go.Proofs.YtiikfhdmclmjmaaDoorW.PrintWords Go.Proofs.YtiikfhdmclmjmaaDoorW.PrintLast
set_option linter.unusedVariables false
set_option linter.unusedSimpArgs false
def dowelref01_trim.l0 : Nat → List Int → Int → Option (List Int)
 | 0, _, _ => none
 | k + 1, x0, x3 => if x3 > 0 then (if 0 ≤ (wrap64 (x3 - 1)) then (if (wrap64 (x3 - 1)) < (x0.length : Int) then (if (rd x0 (wrap64 (x3 - 1))) = 0 then (dowelref01_trim.l0 k x0 (wrap64 (x3 - 1))) else (if 0 ≤ x3 then (if x3 ≤ (x0.length : Int) then (some (x0.take (x3 : Int).toNat)) else (none)) else (none))) else (none)) else (none)) else (if 0 ≤ x3 then (if x3 ≤ (x0.length : Int) then (some (x0.take (x3 : Int).toNat)) else (none)) else (none))
def dowelref01_trim.f (k : Nat) (l0 : List Int) : Option (List Int) := dowelref01_trim.l0 k l0 (l0.length : Int)
theorem dowelref01_trim.mono_l : ∀ k, (∀ y0 y1, LeO (dowelref01_trim.l0 k y0 y1) (dowelref01_trim.l0 (k + 1) y0 y1))
 | 0 => fun _ _ r h => by simp [dowelref01_trim.l0] at h
 | k + 1 => by
  have ih0 := dowelref01_trim.mono_l k
  ·
   intro y0 y1
   unfold dowelref01_trim.l0
   repeat' first
   | (with_reducible exact ih0 _ _)
   | (with_reducible exact LeO.refl _)
   | (with_reducible exact LeO.none _)
   | (with_reducible refine LeO.ite ?_ ?_)
   | (with_reducible refine LeO.bind ?_ (fun _ => ?_))
   | exact ih0 _ _
   | exact LeO.none _
   | refine LeO.ite ?_ ?_
   | refine LeO.bind ?_ (fun _ => ?_)
theorem dowelref01_trim.mono : ∀ a0 k, LeO (dowelref01_trim.f k a0) (dowelref01_trim.f (k + 1) a0) := by
 intro a0 k
 have ih0 := dowelref01_trim.mono_l k
 unfold dowelref01_trim.f
 repeat' first
   | (with_reducible exact ih0 _ _)
   | (with_reducible exact LeO.refl _)
   | (with_reducible exact LeO.none _)
   | (with_reducible refine LeO.ite ?_ ?_)
   | (with_reducible refine LeO.bind ?_ (fun _ => ?_))
   | exact ih0 _ _
   | exact LeO.none _
   | refine LeO.ite ?_ ?_
   | refine LeO.bind ?_ (fun _ => ?_)
mutual
def dowelref01_text.j0 : Nat → List Int → List Int → Option (ByteArray)
 | 0, _, _ => none
 | k + 1, x1, x5 => dowelref01_text.l0 k x1 x5 (wrap64 ((x1.length : Int) - 1))
def dowelref01_text.l0 : Nat → List Int → List Int → Int → Option (ByteArray)
 | 0, _, _, _ => none
 | k + 1, x1, x5, x6 => if x6 ≥ 0 then (if 0 ≤ x6 then (if x6 < (x1.length : Int) then (if x5.length < 140737488355328 then (dowelref01_text.l0 k x1 (x5 ++ [(wrap64 (48 + (rd x1 x6))) % 256]) (wrap64 (x6 - 1))) else (none)) else (none)) else (none)) else (some (strOfNums x5))
end
def dowelref01_text.f (k : Nat) (a0 : Bool) (l1 : List Int) : Option (ByteArray) := (dowelref01_trim.f k l1).bind fun t420 => (if (t420.length : Int) = 0 then (some (⟨#[48]⟩ : ByteArray)) else (if a0 = true then (if ([] : List Int).length < 140737488355328 then (dowelref01_text.j0 k t420 (([] : List Int) ++ [45])) else (none)) else (dowelref01_text.j0 k t420 ([] : List Int))))
theorem dowelref01_text.mono_l : ∀ k, (∀ y0 y1, LeO (dowelref01_text.j0 k y0 y1) (dowelref01_text.j0 (k + 1) y0 y1)) ∧ (∀ y0 y1 y2, LeO (dowelref01_text.l0 k y0 y1 y2) (dowelref01_text.l0 (k + 1) y0 y1 y2))
 | 0 => ⟨fun _ _ r h => by simp [dowelref01_text.j0] at h, fun _ _ _ r h => by simp [dowelref01_text.l0] at h⟩
 | k + 1 => by
  obtain ⟨ih0, ih1⟩ := dowelref01_text.mono_l k
  refine ⟨?_, ?_⟩
  ·
   intro y0 y1
   unfold dowelref01_text.j0
   repeat' first
   | (with_reducible exact ih0 _ _)
   | (with_reducible exact ih1 _ _ _)
   | (with_reducible exact dowelref01_trim.mono _ _)
   | (with_reducible exact LeO.refl _)
   | (with_reducible exact LeO.none _)
   | (with_reducible refine LeO.ite ?_ ?_)
   | (with_reducible refine LeO.bind ?_ (fun _ => ?_))
   | exact ih0 _ _
   | exact ih1 _ _ _
   | exact dowelref01_trim.mono _ _
   | exact LeO.none _
   | refine LeO.ite ?_ ?_
   | refine LeO.bind ?_ (fun _ => ?_)
  ·
   intro y0 y1 y2
   unfold dowelref01_text.l0
   repeat' first
   | (with_reducible exact ih0 _ _)
   | (with_reducible exact ih1 _ _ _)
   | (with_reducible exact dowelref01_trim.mono _ _)
   | (with_reducible exact LeO.refl _)
   | (with_reducible exact LeO.none _)
   | (with_reducible refine LeO.ite ?_ ?_)
   | (with_reducible refine LeO.bind ?_ (fun _ => ?_))
   | exact ih0 _ _
   | exact ih1 _ _ _
   | exact dowelref01_trim.mono _ _
   | exact LeO.none _
   | refine LeO.ite ?_ ?_
   | refine LeO.bind ?_ (fun _ => ?_)
theorem dowelref01_text.mono : ∀ a0 a1 k, LeO (dowelref01_text.f k a0 a1) (dowelref01_text.f (k + 1) a0 a1) := by
 intro a0 a1 k
 obtain ⟨ih0, ih1⟩ := dowelref01_text.mono_l k
 unfold dowelref01_text.f
 repeat' first
   | (with_reducible exact ih0 _ _)
   | (with_reducible exact ih1 _ _ _)
   | (with_reducible exact dowelref01_trim.mono _ _)
   | (with_reducible exact LeO.refl _)
   | (with_reducible exact LeO.none _)
   | (with_reducible refine LeO.ite ?_ ?_)
   | (with_reducible refine LeO.bind ?_ (fun _ => ?_))
   | exact ih0 _ _
   | exact ih1 _ _ _
   | exact dowelref01_trim.mono _ _
   | exact LeO.none _
   | refine LeO.ite ?_ ?_
   | refine LeO.bind ?_ (fun _ => ?_)
def dowelref01_digits.l0 : Nat → ByteArray → List Int → Int → Option (List Int)
 | 0, _, _, _ => none
 | k + 1, x0, x3, x4 => if x4 ≥ 0 then (if 0 ≤ x4 then (if x4 < (x0.size : Int) then (if (bt x0 x4) = 45 then (dowelref01_digits.l0 k x0 x3 (wrap64 (x4 - 1))) else (if x3.length < 17592186044416 then (dowelref01_digits.l0 k x0 (x3 ++ [wrap64 ((wrap64 (bt x0 x4)) - 48)]) (wrap64 (x4 - 1))) else (none))) else (none)) else (none)) else ((dowelref01_trim.f k x3).bind fun t531 => (some t531))
def dowelref01_digits.f (k : Nat) (a0 : ByteArray) : Option (List Int) := dowelref01_digits.l0 k a0 ([] : List Int) (wrap64 ((a0.size : Int) - 1))
theorem dowelref01_digits.mono_l : ∀ k, (∀ y0 y1 y2, LeO (dowelref01_digits.l0 k y0 y1 y2) (dowelref01_digits.l0 (k + 1) y0 y1 y2))
 | 0 => fun _ _ _ r h => by simp [dowelref01_digits.l0] at h
 | k + 1 => by
  have ih0 := dowelref01_digits.mono_l k
  ·
   intro y0 y1 y2
   unfold dowelref01_digits.l0
   repeat' first
   | (with_reducible exact ih0 _ _ _)
   | (with_reducible exact dowelref01_trim.mono _ _)
   | (with_reducible exact LeO.refl _)
   | (with_reducible exact LeO.none _)
   | (with_reducible refine LeO.ite ?_ ?_)
   | (with_reducible refine LeO.bind ?_ (fun _ => ?_))
   | exact ih0 _ _ _
   | exact dowelref01_trim.mono _ _
   | exact LeO.none _
   | refine LeO.ite ?_ ?_
   | refine LeO.bind ?_ (fun _ => ?_)
theorem dowelref01_digits.mono : ∀ a0 k, LeO (dowelref01_digits.f k a0) (dowelref01_digits.f (k + 1) a0) := by
 intro a0 k
 have ih0 := dowelref01_digits.mono_l k
 unfold dowelref01_digits.f
 repeat' first
   | (with_reducible exact ih0 _ _ _)
   | (with_reducible exact dowelref01_trim.mono _ _)
   | (with_reducible exact LeO.refl _)
   | (with_reducible exact LeO.none _)
   | (with_reducible refine LeO.ite ?_ ?_)
   | (with_reducible refine LeO.bind ?_ (fun _ => ?_))
   | exact ih0 _ _ _
   | exact dowelref01_trim.mono _ _
   | exact LeO.none _
   | refine LeO.ite ?_ ?_
   | refine LeO.bind ?_ (fun _ => ?_)
def dowelref01_Sign.f (a0 : ByteArray) : Option (Int) := if a0.toList = ([48] : List UInt8) then (some 0) else (if 0 < (a0.size : Int) then (if (bt a0 0) = 45 then (some (-1)) else (some 1)) else (none))
def dowelref01_From.l0 : Nat → Int → List Int → Int → Option (ByteArray)
 | 0, _, _, _ => none
 | k + 1, x0, x3, x4 => if x4 = 0 then ((dowelref01_text.f k (decide (x0 < 0)) x3).bind fun t430 => (some t430)) else (if (Int.tmod x4 10) < 0 then (if x3.length < 17592186044416 then (dowelref01_From.l0 k x0 (x3 ++ [wrap64 (-(Int.tmod x4 10))]) (wrap64 (Int.tdiv x4 10))) else (none)) else (if x3.length < 17592186044416 then (dowelref01_From.l0 k x0 (x3 ++ [Int.tmod x4 10]) (wrap64 (Int.tdiv x4 10))) else (none)))
def dowelref01_From.f (k : Nat) (a0 : Int) : Option (ByteArray) := dowelref01_From.l0 k a0 ([] : List Int) a0
theorem dowelref01_From.mono_l : ∀ k, (∀ y0 y1 y2, LeO (dowelref01_From.l0 k y0 y1 y2) (dowelref01_From.l0 (k + 1) y0 y1 y2))
 | 0 => fun _ _ _ r h => by simp [dowelref01_From.l0] at h
 | k + 1 => by
  have ih0 := dowelref01_From.mono_l k
  ·
   intro y0 y1 y2
   unfold dowelref01_From.l0
   repeat' first
   | (with_reducible exact ih0 _ _ _)
   | (with_reducible exact dowelref01_text.mono _ _ _)
   | (with_reducible exact LeO.refl _)
   | (with_reducible exact LeO.none _)
   | (with_reducible refine LeO.ite ?_ ?_)
   | (with_reducible refine LeO.bind ?_ (fun _ => ?_))
   | exact ih0 _ _ _
   | exact dowelref01_text.mono _ _ _
   | exact LeO.none _
   | refine LeO.ite ?_ ?_
   | refine LeO.bind ?_ (fun _ => ?_)
theorem dowelref01_From.mono : ∀ a0 k, LeO (dowelref01_From.f k a0) (dowelref01_From.f (k + 1) a0) := by
 intro a0 k
 have ih0 := dowelref01_From.mono_l k
 unfold dowelref01_From.f
 repeat' first
   | (with_reducible exact ih0 _ _ _)
   | (with_reducible exact dowelref01_text.mono _ _ _)
   | (with_reducible exact LeO.refl _)
   | (with_reducible exact LeO.none _)
   | (with_reducible refine LeO.ite ?_ ?_)
   | (with_reducible refine LeO.bind ?_ (fun _ => ?_))
   | exact ih0 _ _ _
   | exact dowelref01_text.mono _ _ _
   | exact LeO.none _
   | refine LeO.ite ?_ ?_
   | refine LeO.bind ?_ (fun _ => ?_)
end Go.Proofs.YtiikfhdmclmjmaaDoor.P
namespace Go.Proofs.YtiikfhdmclmjmaaDoor.Pure
open Go.RowKit Go.Proofs.YtiikfhdmclmjmaaDoorW.PrintWords Go.Proofs.YtiikfhdmclmjmaaDoor.P
set_option linter.unusedVariables false
set_option linter.unusedSimpArgs false
theorem TEN2 : 2 ≤ 10 := by decide
abbrev T (z : Int) : ByteArray := ⟨(Lib.itoa z).toArray⟩
def chr10 (d : Int) : UInt8 := UInt8.ofNat (48 + d.toNat)
theorem dec_dgs (n : Nat) (h : 0 < n) : Lib.decDigits n = (dgs 10 n).reverse.map chr10 := by
  induction n using Nat.strongRecOn with
  | _ n ih =>
    rw [dgs_pos TEN2 h, List.reverse_cons, List.map_append]
    by_cases hs : n < 10
    · rw [dec_small hs, Nat.div_eq_of_lt hs, dgs_zero, Nat.mod_eq_of_lt hs]
      simp [chr10]
    · rw [dec_big hs, ih (n / 10) (by omega) (by omega)]
      simp only [List.map_cons, List.map_nil, chr10, Int.toNat_natCast]
theorem dec_zero : Lib.decDigits 0 = [48] := dec_small (by decide)
def num10 (b : UInt8) : Int := (b.toNat : Int) - 48
theorem dlen (s : ByteArray) : s.data.toList.length = s.size := Array.length_toList
theorem bt_get (s : ByteArray) (i : Nat) (h : i < s.size) : bt s (i : Int) = (s.data.toList[i]'(by rw [dlen]; exact h)).toNat := by
  unfold bt
  rw [dif_pos (by simpa using h)]
  simp [ByteArray.getElem_eq_getElem_data]
theorem itoa_len (z : Int) : (Lib.itoa z).length = (Lib.decDigits z.natAbs).length + (if z < 0 then 1 else 0) := by
  unfold Lib.itoa
  by_cases h : z < 0
  · rw [if_pos h, if_pos h]; simp
  · rw [if_neg h, if_neg h, show z.toNat = z.natAbs by omega]; simp
theorem dec_rev (n : Nat) : trimL ((Lib.decDigits n).reverse.map num10) = dgs 10 n := by
  rcases Nat.eq_zero_or_pos n with rfl | h
  · rw [dec_zero, dgs_zero]
    rfl
  · rw [dec_dgs n h, ← List.map_reverse, List.reverse_reverse, List.map_map]
    have : (dgs 10 n).map (num10 ∘ chr10) = (dgs 10 n).map id := by
      apply List.map_congr_left
      intro d hd
      have := dgs_digs TEN2 n d hd
      show ((UInt8.ofNat (48 + d.toNat)).toNat : Int) - 48 = d
      rw [UInt8.toNat_ofNat']
      omega
    rw [this, List.map_id]
    exact trimL_of_norm (dgs_norm TEN2 n)
theorem itoa_48 {z : Int} : Lib.itoa z = [48] ↔ z = 0 := by
  constructor
  · intro h
    unfold Lib.itoa at h
    split at h
    · cases h
    · have h2 := dec_rev z.toNat
      rw [h] at h2
      have : dgs 10 z.toNat = [] := h2.symm
      have := (dgs_nil TEN2).1 this
      omega
  · rintro rfl
    show Lib.itoa ((0 : Nat) : Int) = _
    rw [itoa_nat, dec_zero]
theorem T_48 (z : Int) : (T z).toList = ([48] : List UInt8) ↔ z = 0 := by
  rw [ByteArray.toList_eq]
  exact itoa_48
end Go.Proofs.YtiikfhdmclmjmaaDoor.Pure
namespace Go.Proofs.YtiikfhdmclmjmaaDoor.P
open Go.RowKit Go.Proofs.YtiikfhdmclmjmaaDoorW.PrintWords Go.Proofs.YtiikfhdmclmjmaaDoorW.PrintLast
set_option linter.unusedVariables false
set_option linter.unusedSimpArgs false
mutual
def integer_Int_Int.l0 : Nat → Int → List Int → Int → Int → Bool → List Int → Option (Int × Bool)
 | 0, _, _, _, _, _, _ => none
 | k + 1, x4, x12, x13, x14, x412000, x412001 => if x14 < x13 then (if 0 ≤ x14 then (if x14 < (x12.length : Int) then (if 0 ≤ (wrap64 (32 * x14)) then (integer_Int_Int.l0 k (Go.bits .or .u64 x4 (shl .u64 (IntKind.u64.wrap (rd x12 x14)) (wrap64 (32 * x14)))) x12 x13 (wrap64 (x14 + 1)) x412000 x412001) else (none)) else (none)) else (none)) else (if x412000 = true then (integer_Int_Int.j1 k x4 false x412000 x412001) else (integer_Int_Int.j1 k x4 (decide (x4 < 9223372036854775808)) x412000 x412001))
def integer_Int_Int.j1 : Nat → Int → Bool → Bool → List Int → Option (Int × Bool)
 | 0, _, _, _, _ => none
 | k + 1, x4, x27, x412000, x412001 => if x27 = true then (some (wrap64 (x4), true)) else (if x412000 = true then (if x4 ≤ 9223372036854775808 then (some (wrap64 (IntKind.u64.wrap (-x4)), true)) else (some (0, false))) else (some (0, false)))
end
def integer_Int_Int.f (k : Nat) (a0_0 : Bool) (l0_1 : List Int) : Option (Int × Bool) := if (l0_1.length : Int) > 2 then (some (0, false)) else (integer_Int_Int.l0 k 0 l0_1 (l0_1.length : Int) 0 a0_0 l0_1)
theorem integer_Int_Int.mono_l : ∀ k, (∀ y0 y1 y2 y3 y4 y5, LeO (integer_Int_Int.l0 k y0 y1 y2 y3 y4 y5) (integer_Int_Int.l0 (k + 1) y0 y1 y2 y3 y4 y5)) ∧ (∀ y0 y1 y2 y3, LeO (integer_Int_Int.j1 k y0 y1 y2 y3) (integer_Int_Int.j1 (k + 1) y0 y1 y2 y3))
 | 0 => ⟨fun _ _ _ _ _ _ r h => by simp [integer_Int_Int.l0] at h, fun _ _ _ _ r h => by simp [integer_Int_Int.j1] at h⟩
 | k + 1 => by
  obtain ⟨ih0, ih1⟩ := integer_Int_Int.mono_l k
  refine ⟨?_, ?_⟩
  ·
   intro y0 y1 y2 y3 y4 y5
   unfold integer_Int_Int.l0
   repeat' first
   | (with_reducible exact ih0 _ _ _ _ _ _)
   | (with_reducible exact ih1 _ _ _ _)
   | (with_reducible exact LeO.refl _)
   | (with_reducible exact LeO.none _)
   | (with_reducible refine LeO.ite ?_ ?_)
   | (with_reducible refine LeO.bind ?_ (fun _ => ?_))
   | exact ih0 _ _ _ _ _ _
   | exact ih1 _ _ _ _
   | exact LeO.none _
   | refine LeO.ite ?_ ?_
   | refine LeO.bind ?_ (fun _ => ?_)
  ·
   intro y0 y1 y2 y3
   unfold integer_Int_Int.j1
   repeat' first
   | (with_reducible exact ih0 _ _ _ _ _ _)
   | (with_reducible exact ih1 _ _ _ _)
   | (with_reducible exact LeO.refl _)
   | (with_reducible exact LeO.none _)
   | (with_reducible refine LeO.ite ?_ ?_)
   | (with_reducible refine LeO.bind ?_ (fun _ => ?_))
   | exact ih0 _ _ _ _ _ _
   | exact ih1 _ _ _ _
   | exact LeO.none _
   | refine LeO.ite ?_ ?_
   | refine LeO.bind ?_ (fun _ => ?_)
theorem integer_Int_Int.mono : ∀ a0 a1 k, LeO (integer_Int_Int.f k a0 a1) (integer_Int_Int.f (k + 1) a0 a1) := by
 intro a0 a1 k
 obtain ⟨ih0, ih1⟩ := integer_Int_Int.mono_l k
 unfold integer_Int_Int.f
 repeat' first
   | (with_reducible exact ih0 _ _ _ _ _ _)
   | (with_reducible exact ih1 _ _ _ _)
   | (with_reducible exact LeO.refl _)
   | (with_reducible exact LeO.none _)
   | (with_reducible refine LeO.ite ?_ ?_)
   | (with_reducible refine LeO.bind ?_ (fun _ => ?_))
   | exact ih0 _ _ _ _ _ _
   | exact ih1 _ _ _ _
   | exact LeO.none _
   | refine LeO.ite ?_ ?_
   | refine LeO.bind ?_ (fun _ => ?_)
end Go.Proofs.YtiikfhdmclmjmaaDoor.P
namespace Go.Proofs.YtiikfhdmclmjmaaDoor.Pure
open Go.RowKit Go.Proofs.YtiikfhdmclmjmaaDoorW.PrintWords Go.Proofs.YtiikfhdmclmjmaaDoor.P
set_option linter.unusedVariables false
set_option linter.unusedSimpArgs false
theorem w0 : wrap64 (32 * 0) = 0 := by rw [w64 _ (by decide) (by decide)]; rfl
theorem w1 : wrap64 (32 * 1) = 32 := by rw [w64 _ (by decide) (by decide)]; rfl
theorem w12 : wrap64 (1 + 1) = 2 := by rw [w64 _ (by decide) (by decide)]; rfl
end Go.Proofs.YtiikfhdmclmjmaaDoor.Pure
namespace Go.Proofs.YtiikfhdmclmjmaaDoor.P
open Go.RowKit Go.Proofs.YtiikfhdmclmjmaaDoorW.PrintWords Go.Proofs.YtiikfhdmclmjmaaDoorW.PrintLast
set_option linter.unusedVariables false
set_option linter.unusedSimpArgs false
def dowellaw01_read.f (k : Nat) (a0 : ByteArray) : Option (Bool × List Int × Bool) := if (a0.size : Int) > 120 then (some (false, ([] : List Int), false)) else ((dowelref01_Check.f k a0).bind fun t521 => (if t521 = 0 then ((integer_Parse.f k a0).bind fun bt522 => (some (bt522.1, bt522.2.1, (bt522.2.2 == 0)))) else (some (false, ([] : List Int), false))))
theorem dowellaw01_read.mono : ∀ a0 k, LeO (dowellaw01_read.f k a0) (dowellaw01_read.f (k + 1) a0) := by
 intro a0 k
 unfold dowellaw01_read.f
 repeat' first
   | (with_reducible exact dowelref01_Check.mono _ _)
   | (with_reducible exact integer_Parse.mono _ _)
   | (with_reducible exact LeO.refl _)
   | (with_reducible exact LeO.none _)
   | (with_reducible refine LeO.ite ?_ ?_)
   | (with_reducible refine LeO.bind ?_ (fun _ => ?_))
   | exact dowelref01_Check.mono _ _
   | exact integer_Parse.mono _ _
   | exact LeO.none _
   | refine LeO.ite ?_ ?_
   | refine LeO.bind ?_ (fun _ => ?_)
def dowellaw01_right.f (k : Nat) (a0 : ByteArray) : Option (Bool) := if (a0.size : Int) ≤ 120 then ((dowelref01_Check.f k a0).bind fun t519 => (some (t519 == 0))) else (some false)
theorem dowellaw01_right.mono : ∀ a0 k, LeO (dowellaw01_right.f k a0) (dowellaw01_right.f (k + 1) a0) := by
 intro a0 k
 unfold dowellaw01_right.f
 repeat' first
   | (with_reducible exact dowelref01_Check.mono _ _)
   | (with_reducible exact LeO.refl _)
   | (with_reducible exact LeO.none _)
   | (with_reducible refine LeO.ite ?_ ?_)
   | (with_reducible refine LeO.bind ?_ (fun _ => ?_))
   | exact dowelref01_Check.mono _ _
   | exact LeO.none _
   | refine LeO.ite ?_ ?_
   | refine LeO.bind ?_ (fun _ => ?_)
end Go.Proofs.YtiikfhdmclmjmaaDoor.P
namespace Go.Proofs.YtiikfhdmclmjmaaDoor.Pure
open Go.RowKit Go.Proofs.YtiikfhdmclmjmaaDoorW.PrintWords Go.Proofs.YtiikfhdmclmjmaaDoor.P
set_option linter.unusedVariables false
set_option linter.unusedSimpArgs false
def isd (b : UInt8) : Bool := decide (48 ≤ b.toNat ∧ b.toNat ≤ 57)
theorem isd_iff {b : UInt8} : isd b = true ↔ 48 ≤ b.toNat ∧ b.toNat ≤ 57 := by simp [isd]
def body : List UInt8 → List UInt8
  | [] => []
  | b :: r => if b.toNat = 45 then r else b :: r
def resD (R : List UInt8) (n : Nat) : Int := if R.all isd = true then (if (R.headD 0).toNat = 48 ∧ 1 < n then 3 else 0) else 14
def chk (L : List UInt8) : Int := if body L = [] then 14 else resD (body L) L.length
def nv (a : Nat) (l : List UInt8) : Nat := l.foldl (fun a c => a * 10 + (c.toNat - 48)) a
theorem nv_nil (a : Nat) : nv a [] = a := rfl
theorem nv_cons (a : Nat) (c : UInt8) (r : List UInt8) : nv a (c :: r) = nv (a * 10 + (c.toNat - 48)) r := by unfold nv; rw [List.foldl_cons]
theorem nv_app (a : Nat) (l m : List UInt8) : nv a (l ++ m) = nv (nv a l) m := by unfold nv; rw [List.foldl_append]
theorem nv_arith (a x P N : Nat) : (a * 10 + x) * P + N = a * (P * 10) + (x * P + N) := by
  rw [Nat.add_mul, Nat.mul_assoc a 10, Nat.mul_comm 10 P]
  omega
theorem nv_pow (l : List UInt8) : ∀ (a : Nat), nv a l = a * 10 ^ l.length + nv 0 l := by
  induction l with
  | nil => exact fun a => (Nat.mul_one a).symm
  | cons c r ih =>
    intro a
    have h1 := ih (a * 10 + (c.toNat - 48))
    have h2 := ih (0 * 10 + (c.toNat - 48))
    rw [nv_cons, nv_cons, h1, h2, Nat.zero_mul, Nat.zero_add, List.length_cons, Nat.pow_succ]
    exact nv_arith _ _ _ _
theorem nv_lt : ∀ {l : List UInt8}, l.all isd = true → nv 0 l < 10 ^ l.length
  | [], _ => by simp [nv_nil]
  | c :: r, h => by
    rw [List.all_cons, Bool.and_eq_true, isd_iff] at h
    have ih := nv_lt h.2
    rw [nv_cons, nv_pow r, List.length_cons, Nat.pow_succ, Nat.zero_mul, Nat.zero_add]
    have : (c.toNat - 48) * 10 ^ r.length ≤ 9 * 10 ^ r.length := Nat.mul_le_mul_right _ (by omega)
    omega
theorem nv_le (a : Nat) (l : List UInt8) : a ≤ nv a l := by
  rw [nv_pow]
  have : 1 ≤ 10 ^ l.length := Nat.one_le_pow _ _ (by decide)
  have := Nat.mul_le_mul_left a this
  omega
theorem dec_nv (n : Nat) : ∀ (D : List UInt8), D.length = n → D ≠ [] → D.all isd = true → (D.headD 0).toNat ≠ 48 → Lib.decDigits (nv 0 D) = D ∧ 0 < nv 0 D := by
  induction n with
  | zero => intro D h hne; exact absurd (List.length_eq_zero_iff.1 h) hne
  | succ n ih =>
    intro D h hne hd hh
    obtain ⟨E, b, rfl⟩ : ∃ E b, D = E ++ [b] := ⟨D.dropLast, D.getLast hne, (List.dropLast_concat_getLast _).symm⟩
    rw [List.all_append, Bool.and_eq_true] at hd
    have hb : 48 ≤ b.toNat ∧ b.toNat ≤ 57 := isd_iff.1 (by simpa using hd.2)
    rw [nv_app]
    show Lib.decDigits (nv 0 E * 10 + (b.toNat - 48)) = _ ∧ 0 < nv 0 E * 10 + (b.toNat - 48)
    have hby : UInt8.ofNat (48 + (b.toNat - 48)) = b := by
      rw [show 48 + (b.toNat - 48) = b.toNat by omega]
      simp
    rcases List.eq_nil_or_concat E with rfl | ⟨_, _, rfl⟩
    · simp only [List.nil_append, List.headD_cons] at hh
      rw [nv_nil, Nat.zero_mul, Nat.zero_add, List.nil_append]
      rw [dec_small (by omega), hby]
      exact ⟨rfl, by omega⟩
    · rename_i F f
      rw [List.concat_eq_append] at *
      have hE : (F ++ [f]) ≠ [] := by simp
      have hhd : ((F ++ [f] ++ [b]).headD 0) = ((F ++ [f]).headD 0) := by cases F <;> rfl
      rw [hhd] at hh
      obtain ⟨h1, h2⟩ := ih (F ++ [f]) (by simp at h ⊢; omega) hE hd.1 hh
      rw [dec_big (by omega), show (nv 0 (F ++ [f]) * 10 + (b.toNat - 48)) / 10 = nv 0 (F ++ [f]) by omega, show (nv 0 (F ++ [f]) * 10 + (b.toNat - 48)) % 10 = b.toNat - 48 by omega, h1, hby]
      exact ⟨rfl, by omega⟩
theorem byte_eq {b : UInt8} {n : Nat} (h : b.toNat = n) : b = UInt8.ofNat n := by rw [← h]; simp
theorem chk_itoa {L : List UInt8} (h : chk L = 0) : ∃ z : Int, L = Lib.itoa z ∧ (body L).all isd = true ∧ z = if (L.headD 0).toNat = 45 then -(nv 0 (body L) : Int) else (nv 0 (body L) : Int) := by
  unfold chk at h
  by_cases hb : body L = []
  · rw [if_pos hb] at h; cases h
  · rw [if_neg hb] at h
    unfold resD at h
    by_cases hd : (body L).all isd = true
    · rw [if_pos hd] at h
      by_cases hz : ((body L).headD 0).toNat = 48 ∧ 1 < L.length
      · rw [if_pos hz] at h; cases h
      · clear h
        refine ⟨_, ?_, hd, rfl⟩
        match L, hb, hd, hz with
        | b :: r, hb, hd, hz =>
          show b :: r = Lib.itoa (if b.toNat = 45 then _ else _)
          by_cases h45 : b.toNat = 45
          · have e : body (b :: r) = r := by simp [body, h45]
            rw [e] at hb hd hz ⊢
            rw [if_pos h45]
            have hl : 1 < (b :: r).length := by
              cases r with
              | nil => exact absurd rfl hb
              | cons _ _ => simp
            obtain ⟨h1, h2⟩ := dec_nv r.length r rfl hb hd (fun hh => hz ⟨hh, hl⟩)
            unfold Lib.itoa
            rw [if_pos (by omega), show (-(nv 0 r : Int)).natAbs = nv 0 r by omega, h1, byte_eq h45]
            rfl
          · have e : body (b :: r) = b :: r := by simp [body, h45]
            rw [e] at hb hd hz ⊢
            rw [if_neg h45, itoa_nat]
            by_cases h48 : b.toNat = 48
            · have : r = [] := by
                cases r with
                | nil => rfl
                | cons _ _ => exact absurd ⟨h48, by simp⟩ hz
              subst this
              rw [nv_cons, nv_nil, h48]
              rw [dec_small (by decide), byte_eq h48]
            · exact (dec_nv (b :: r).length (b :: r) rfl hb hd h48).1.symm
    · rw [if_neg hd] at h; cases h
theorem bs_list (s : ByteArray) : s.size = s.data.toList.length := (dlen s).symm
theorem headD_at {R : List UInt8} (h : 0 < R.length) : R.headD 0 = R[0] := by cases R <;> simp at h ⊢
theorem bt_head (s : ByteArray) (h : 0 < s.size) : bt s 0 = ((s.data.toList.headD 0).toNat : Int) := by
  rw [headD_at (by rw [dlen]; exact h)]
  exact bt_get s 0 h
theorem chk_l0 (x0 x3 : ByteArray) (hm : x3.size ≤ 65536) (hp : 0 < x3.size) (hle : x3.size ≤ x0.size) : ∀ (n i : Nat), i + n = x3.size → (x3.data.toList.take i).all isd = true →
    Ev (fun k => dowelref01_Check.l0 k x0 x3 (i : Int)) (resD x3.data.toList x0.size)
  | 0, i, hn, hi => by
    have hall : x3.data.toList.all isd = true := by
      rw [List.take_of_length_le (by rw [dlen]; omega)] at hi
      exact hi
    refine Ev.step (fun k => dowelref01_Check.l0.eq_2 ..) (Ev.neg (by omega) (Ev.pos (by omega) ?_))
    rw [bt_head x3 hp]
    unfold resD
    rw [if_pos hall]
    by_cases h48 : (x3.data.toList.headD 0).toNat = 48
    · refine Ev.pos (by omega) ?_
      by_cases h1 : (x3.size : Int) > 1
      · exact Ev.pos h1 (Ev.some_ (by rw [if_pos ⟨h48, by omega⟩]))
      · refine Ev.neg h1 ?_
        by_cases h2 : (x0.size : Int) > 1
        · exact Ev.pos h2 (Ev.some_ (by rw [if_pos ⟨h48, by omega⟩]))
        · exact Ev.neg h2 (Ev.some_ (by rw [if_neg (by omega)]))
    · exact Ev.neg (by omega) (Ev.some_ (by rw [if_neg (by omega)]))
  | n + 1, i, hn, hi => by
    have hl : i < x3.data.toList.length := by rw [dlen]; omega
    have hb := bt_get x3 i (by omega)
    have hmem : x3.data.toList[i] ∈ x3.data.toList := List.getElem_mem hl
    have bad : isd x3.data.toList[i] = false → resD x3.data.toList x0.size = 14 := by
      intro h
      unfold resD
      rw [if_neg]
      intro hall
      rw [List.all_eq_true] at hall
      rw [hall _ hmem] at h
      cases h
    refine Ev.step (fun k => dowelref01_Check.l0.eq_2 ..) (Ev.pos (by omega) (Ev.pos (by omega) ?_))
    rw [hb]
    by_cases h1 : (((x3.data.toList[i]).toNat : Nat) : Int) < 48
    · exact Ev.pos h1 (Ev.some_ (bad (decide_eq_false (by omega))).symm)
    · refine Ev.neg h1 ?_
      by_cases h2 : (((x3.data.toList[i]).toNat : Nat) : Int) > 57
      · exact Ev.pos h2 (Ev.some_ (bad (decide_eq_false (by omega))).symm)
      · refine Ev.neg h2 ?_
        rw [wsucc (show i < x3.size by omega) (by omega)]
        refine chk_l0 x0 x3 hm hp hle n (i + 1) (by omega) ?_
        rw [List.take_succ_eq_append_getElem hl, List.all_append, hi, Bool.true_and, List.all_cons, List.all_nil, Bool.and_true]
        exact decide_eq_true (by omega)
theorem ext_list (s : ByteArray) (i j : Nat) : (s.extract i j).data.toList = (s.data.toList.drop i).take (j - i) := by
  rw [ByteArray.data_extract, Array.toList_extract, List.extract_eq_take_drop]
theorem chk_j1 (x0 x3 : ByteArray) (hm : x3.size ≤ 65536) (hle : x3.size ≤ x0.size) : Ev (fun k => dowelref01_Check.j1 k x0 x3) (if x3.data.toList = [] then 14 else resD x3.data.toList x0.size) := by
  refine Ev.step (fun k => dowelref01_Check.j1.eq_2 ..) ?_
  by_cases h : (x3.size : Int) = 0
  · refine Ev.pos h (Ev.some_ ?_)
    rw [if_pos (List.length_eq_zero_iff.1 (by rw [dlen]; omega))]
  · refine Ev.neg h ?_
    rw [if_neg (fun e => h (by rw [bs_list, e]; rfl))]
    exact chk_l0 x0 x3 hm (by omega) hle x3.size 0 (by omega) rfl
theorem check_ev (s : ByteArray) (hm : s.size ≤ 65536) : Ev (fun k => dowelref01_Check.f k s) (chk s.data.toList) := by
  unfold dowelref01_Check.f
  refine Ev.neg (by omega) ?_
  by_cases h : (s.size : Int) > 0
  · refine Ev.pos h (Ev.pos (by omega) (Ev.step (fun k => dowelref01_Check.j0.eq_2 ..) ?_))
    rw [bt_head s (by omega)]
    have hl : s.data.toList.length = s.size := dlen s
    match hL : s.data.toList, hl with
    | [], hl => simp at hl; omega
    | b :: r, hl =>
      simp only [List.headD_cons]
      by_cases h45 : b.toNat = 45
      · refine Ev.pos (by simp [h45]) (Ev.pos (by omega) ?_)
        have e : (s.extract 1 s.size).data.toList = r := by
          rw [ext_list, hL]
          simp only [List.drop_succ_cons, List.drop_zero]
          exact List.take_of_length_le (by simp at hl; omega)
        have hsz : (s.extract 1 s.size).size = r.length := by rw [bs_list, e]
        have := chk_j1 s (s.extract 1 s.size) (by rw [hsz]; simp at hl; omega) (by rw [hsz]; simp at hl; omega)
        rw [e] at this
        unfold chk
        rw [show body (b :: r) = r by simp [body, h45], hl]
        exact this
      · refine Ev.neg (by simp; omega) ?_
        have := chk_j1 s s hm (Nat.le_refl _)
        rw [hL] at this
        unfold chk
        rw [show body (b :: r) = b :: r by simp [body, h45], hl]
        exact this
  · refine Ev.neg h (Ev.step (fun k => dowelref01_Check.j0.eq_2 ..) (Ev.neg (by simp) ?_))
    have e : s.data.toList = [] := List.length_eq_zero_iff.1 (by rw [dlen]; omega)
    have := chk_j1 s s hm (Nat.le_refl _)
    rw [e] at this ⊢
    exact this
theorem one_toList : (⟨#[45]⟩ : ByteArray).toList = [45] := by rw [ByteArray.toList_eq]
theorem one_size : (⟨#[45]⟩ : ByteArray).size = 1 := rfl
theorem cut_eq (s : ByteArray) : ∃ d neg, strings_CutPrefix.f s (⟨#[45]⟩ : ByteArray) = some (d, neg) ∧ d.data.toList = body s.data.toList ∧ neg = decide ((s.data.toList.headD 0).toNat = 45) ∧ d.size + (if neg = true then 1 else 0) = s.size := by
  unfold strings_CutPrefix.f stringslite_CutPrefix.f stringslite_HasPrefix.f
  have hl : s.data.toList.length = s.size := dlen s
  rw [one_size, one_toList]
  match hL : s.data.toList, hl with
  | [], hl =>
    simp only [List.length_nil] at hl
    rw [if_neg (by omega)]
    refine ⟨s, false, rfl, ?_, rfl, by rw [if_neg (by decide)]; omega⟩
    rw [hL]
    rfl
  | b :: r, hl =>
    simp only [List.length_cons] at hl
    rw [if_pos (by omega), if_pos (by omega), if_pos (by omega)]
    have e : (s.extract 0 (((1 : Nat) : Int)).toNat).toList = [b] := by
      rw [ByteArray.toList_eq, ext_list, hL]
      rfl
    have e2 : (s.extract (((1 : Nat) : Int)).toNat s.size).data.toList = r := by
      rw [ext_list, hL]
      show List.take (s.size - 1) r = r
      exact List.take_of_length_le (by omega)
    rw [e]
    simp only [Option.bind_some, List.headD_cons]
    by_cases h : b.toNat = 45
    · have hb : b = 45 := byte_eq h
      rw [if_pos (by rw [hb]; rfl), if_pos (by omega), if_pos (by omega)]
      refine ⟨_, true, rfl, ?_, by simp [h], ?_⟩
      · rw [e2]; simp [body, h]
      · rw [bs_list, e2, if_pos rfl]; omega
    · have hb : ¬ (([b] : List UInt8) == [45]) = true := by
        intro hh
        have : b = 45 := by simpa using hh
        rw [this] at h
        exact h rfl
      rw [if_neg hb]
      refine ⟨s, false, rfl, ?_, by simp [h], by simp⟩
      rw [hL]; simp [body, h]
theorem idx_from (p : Nat → Bool) (hp : ∀ x, p x = true ↔ (x < 48 ∨ 57 < x)) (s : ByteArray) : ∀ (n pos f : Nat), pos + n = s.size → n ≤ f → ((0 ≤ Lib.idxFuncFrom p true s f pos) ↔ (s.data.toList.drop pos).all isd = false)
  | 0, pos, f, h, hf => by
    rw [Lib.idxFuncFrom_end p true s f pos (by omega), List.drop_of_length_le (by rw [dlen]; omega)]
    simp
  | n + 1, pos, 0, h, hf => by omega
  | n + 1, pos, f + 1, h, hf => by
    have hlt : pos < s.size := by omega
    have hl : pos < s.data.toList.length := by rw [dlen]; omega
    have hb : s[pos]'hlt = s.data.toList[pos] := by simp [ByteArray.getElem_eq_getElem_data]
    rw [List.drop_eq_getElem_cons hl, List.all_cons]
    unfold Lib.idxFuncFrom
    rw [if_pos hlt]
    by_cases ha : (s[pos]'hlt).toNat < 128
    · rw [decode_ascii s pos hlt ha]
      by_cases hd : isd s.data.toList[pos] = true
      · rw [if_neg (by rw [hp, hb]; rw [isd_iff] at hd; omega), hd, Bool.true_and]
        exact idx_from p hp s n (pos + 1) f (by omega) (by omega)
      · rw [if_pos (by rw [hp, hb]; rw [isd_iff] at hd; omega)]
        rw [Bool.not_eq_true] at hd
        rw [hd, Bool.false_and]
        exact ⟨fun _ => rfl, fun _ => by omega⟩
    · have hh := (decode_high s pos hlt (by omega)).1
      rw [if_pos (by rw [hp]; omega)]
      have hd : isd s.data.toList[pos] = false := decide_eq_false (by rw [← hb]; omega)
      rw [hd, Bool.false_and]
      exact ⟨fun _ => rfl, fun _ => by omega⟩
theorem has_eq (s : ByteArray) : strings_ContainsFunc_Parse1.f s = some (!(s.data.toList.all isd)) := by
  unfold strings_ContainsFunc_Parse1.f Lib.idxFunc
  have := idx_from (fun x => decide (x < 48) || decide (57 < x)) (fun x => by simp) s s.size 0 s.size (by omega) (Nat.le_refl _)
  rw [List.drop_zero] at this
  congr 1
  cases hb : s.data.toList.all isd
  · exact decide_eq_true (this.2 hb)
  · exact decide_eq_false (fun h => by rw [this.1 h] at hb; cases hb)
theorem pum_ok : ∀ (l : List UInt8) (a M : Nat), l.all isd = true → nv a l ≤ M → M < 4294967296 → Lib.parseUintM M a l = .ok (nv a l)
  | [], a, M, _, _, _ => rfl
  | c :: r, a, M, h, h1, h2 => by
    rw [List.all_cons, Bool.and_eq_true, isd_iff] at h
    rw [nv_cons] at h1 ⊢
    have := nv_le (a * 10 + (c.toNat - 48)) r
    unfold Lib.parseUintM
    rw [if_pos h.1, if_neg (by omega), if_neg (by omega)]
    exact pum_ok r _ M h.2 h1 h2
theorem pu_eq (s : ByteArray) (h : s.data.toList.all isd = true) (h0 : 0 < s.size) (h9 : s.size ≤ 9) : strconv_ParseUint_56.f s 10 32 = some (((nv 0 s.data.toList : Nat) : Int), (none : Option Int)) := by
  have hl : s.data.toList.length = s.size := dlen s
  have h1 := nv_lt h
  have h2 : (10 : Nat) ^ s.data.toList.length ≤ 10 ^ 9 := Nat.pow_le_pow_right (by decide) (by omega)
  unfold strconv_ParseUint_56.f Lib.parseUintB
  rw [if_pos ⟨rfl, rfl, by omega⟩, if_neg (fun e => by rw [e] at hl; simp at hl; omega), pum_ok _ 0 _ h (by show _ ≤ 4294967295; omega) (by decide)]
theorem take_all {l : List UInt8} (h : l.all isd = true) (n : Nat) : (l.take n).all isd = true := by
  rw [List.all_eq_true] at h ⊢
  exact fun x hx => h x (List.mem_of_mem_take hx)
theorem drop_all {l : List UInt8} (h : l.all isd = true) (n : Nat) : (l.drop n).all isd = true := by
  rw [List.all_eq_true] at h ⊢
  exact fun x hx => h x (List.mem_of_mem_drop hx)
theorem ten_len {m c : Nat} (h : m < 10 ^ c) : (dgs BB m).length ≤ c :=
  dgs_len BB2 c m (Nat.lt_of_lt_of_le h (Nat.pow_le_pow_left (by decide) c))
theorem parse_l1 (x4 : ByteArray) (x5 : Bool) (m : Nat) (n : Nat) (r : Bool × List Int × Int) (h0 : 0 < n) (h9 : n ≤ 9) (hn : n ≤ x4.size) (hm : (dgs BB m).length ≤ 70368744177663) (hd : x4.data.toList.all isd = true)
    (k : Ev (fun k => integer_Parse.l0 k (x4.extract n x4.size) x5 (dgs BB (m * 10 ^ n + nv 0 (x4.data.toList.take n)))) r) : ∀ (q j : Nat), j + q = n →
    Ev (fun k => integer_Parse.l1 k x4 x5 (dgs BB m) (n : Int) ((10 ^ j : Nat) : Int) (n : Int) (j : Int)) r
  | 0, j, hj => by
    obtain rfl : j = n := by omega
    have hp : 10 ^ j ≤ 10 ^ 9 := Nat.pow_le_pow_right (by decide) h9
    have ee : (x4.extract 0 (((j : Nat) : Int)).toNat).data.toList = x4.data.toList.take j := by
      rw [ext_list, List.drop_zero, Nat.sub_zero, Int.toNat_natCast]
    have hsz : (x4.extract 0 (((j : Nat) : Int)).toNat).size = j := by
      rw [bs_list, ee, List.length_take, dlen]
      omega
    have hu := pu_eq (x4.extract 0 (((j : Nat) : Int)).toNat) (by rw [ee]; exact take_all hd j) (by omega) (by omega)
    rw [ee] at hu
    have hlt := nv_lt (take_all hd j)
    have hle : (10 : Nat) ^ (x4.data.toList.take j).length ≤ 10 ^ 9 := Nat.pow_le_pow_right (by decide) (by rw [List.length_take]; omega)
    refine Ev.step (fun k => integer_Parse.l1.eq_2 ..) (Ev.neg (by omega) (Ev.pos (by omega) (Ev.pos (by omega) (Ev.bind0 hu ?_))))
    have hmod : (((nv 0 (x4.data.toList.take j) : Nat) : Int)) % 4294967296 = (nv 0 (x4.data.toList.take j) : Nat) := by omega
    simp only [hmod]
    refine Ev.bind (scale_ev (dgs BB m) ((10 ^ j : Nat) : Int) ((nv 0 (x4.data.toList.take j) : Nat) : Int) (dgs_digs BB2 m) (Int.natCast_nonneg _) (Int.ofNat_lt.2 (show 10 ^ j < 4294967296 by omega)) (Int.natCast_nonneg _) (Int.ofNat_lt.2 (show nv 0 (x4.data.toList.take j) < 4294967296 by omega)) hm (m * 10 ^ j + nv 0 (x4.data.toList.take j)) ?_) ?_
    · rw [show val 4294967296 (dgs BB m) = (m : Int) from dgs_val BB2 m]
      rw [Int.natCast_add, Int.natCast_mul]
    · rw [Int.toNat_natCast]
      exact k
  | q + 1, j, hj => by
    refine Ev.step (fun k => integer_Parse.l1.eq_2 ..) (Ev.pos (by omega) ?_)
    rw [wsucc (show j < n by omega) (by omega)]
    have hp : 10 ^ (j + 1) ≤ 10 ^ 9 := Nat.pow_le_pow_right (by decide) (by omega)
    have e : (((10 ^ j : Nat) : Int) * 10) % 4294967296 = ((10 ^ (j + 1) : Nat) : Int) := by
      rw [Nat.pow_succ] at hp ⊢
      omega
    rw [e]
    exact parse_l1 x4 x5 m n r h0 h9 hn hm hd k q (j + 1) (by omega)
theorem parse_l0 (x5 : Bool) : ∀ (sz : Nat) (x4 : ByteArray) (m : Nat), x4.size = sz → sz ≤ 65536 → x4.data.toList.all isd = true → (∃ c, m < 10 ^ c ∧ c + sz ≤ 65536) →
    Ev (fun k => integer_Parse.l0 k x4 x5 (dgs BB m)) (decide (x5 = true ∧ nv m x4.data.toList ≠ 0), dgs BB (nv m x4.data.toList), 0) := by
  intro sz
  induction sz using Nat.strongRecOn with
  | _ sz ih =>
    intro x4 m hs hm hd hc
    obtain ⟨c, hc1, hc2⟩ := hc
    have hlen := ten_len hc1
    have hll : x4.data.toList.length = x4.size := dlen x4
    by_cases h : (x4.size : Int) > 0
    · refine Ev.step (fun k => integer_Parse.l0.eq_2 ..) (Ev.pos h ?_)
      obtain ⟨n, hn1, hn2, hn3, hn4⟩ : ∃ n : Nat, wrap64 ((Int.tmod (wrap64 ((x4.size : Int) - 1)) 9) + 1) = (n : Int) ∧ 0 < n ∧ n ≤ 9 ∧ n ≤ x4.size := by
        have e1 : wrap64 ((x4.size : Int) - 1) = ((x4.size - 1 : Nat) : Int) := by rw [w64 _ (by omega) (by omega)]; omega
        have e2 : Int.tmod ((x4.size - 1 : Nat) : Int) 9 = (((x4.size - 1) % 9 : Nat) : Int) := rfl
        refine ⟨(x4.size - 1) % 9 + 1, ?_, by omega, by omega, by omega⟩
        rw [e1, e2, w64 _ (by omega) (by omega)]
        omega
      rw [hn1]
      have ed : (x4.extract n x4.size).data.toList = x4.data.toList.drop n := by
        rw [ext_list]
        exact List.take_of_length_le (by rw [List.length_drop]; omega)
      have hs2 : (x4.extract n x4.size).size = sz - n := by rw [bs_list, ed, List.length_drop]; omega
      have hlt := nv_lt (take_all hd n)
      have htl : (x4.data.toList.take n).length = n := by rw [List.length_take]; omega
      rw [htl] at hlt
      have hnv : nv (m * 10 ^ n + nv 0 (x4.data.toList.take n)) (x4.data.toList.drop n) = nv m x4.data.toList := by
        have := nv_app m (x4.data.toList.take n) (x4.data.toList.drop n)
        rw [List.take_append_drop, nv_pow (x4.data.toList.take n) m, htl] at this
        exact this.symm
      have hcc : m * 10 ^ n + nv 0 (x4.data.toList.take n) < 10 ^ (c + n) := by
        have h3 : (m + 1) * 10 ^ n ≤ 10 ^ c * 10 ^ n := Nat.mul_le_mul_right _ hc1
        rw [Nat.pow_add]
        rw [Nat.add_mul] at h3
        omega
      have ih2 := ih (sz - n) (by omega) (x4.extract n x4.size) (m * 10 ^ n + nv 0 (x4.data.toList.take n)) hs2 (by omega) (by rw [ed]; exact drop_all hd n) ⟨c + n, hcc, by omega⟩
      rw [ed, hnv] at ih2
      exact parse_l1 x4 x5 m n _ hn2 hn3 hn4 (by omega) hd ih2 n 0 (by omega)
    · have e : x4.data.toList = [] := List.length_eq_zero_iff.1 (by omega)
      rw [e, nv_nil]
      refine Ev.step (fun k => integer_Parse.l0.eq_2 ..) (Ev.neg h ?_)
      exact Ev.bind (signed_ev x5 (dgs BB m) m (by omega) (dgs_digs BB2 m) (dgs_val BB2 m)) (Ev.some_ rfl)
theorem parse_ev (s : ByteArray) (hm : s.size ≤ 65536) : ∃ neg N, Ev (fun k => integer_Parse.f k s) (if chk s.data.toList = 0 then (neg, dgs BB N, 0) else (false, [], chk s.data.toList)) ∧
    N = nv 0 (body s.data.toList) ∧ neg = decide (decide ((s.data.toList.headD 0).toNat = 45) = true ∧ N ≠ 0) := by
  obtain ⟨d, ng, h1, h2, h3, h4⟩ := cut_eq s
  refine ⟨_, _, ?_, rfl, rfl⟩
  have hl : s.data.toList.length = s.size := dlen s
  have hdl : d.data.toList.length = d.size := dlen d
  have hds : d.size ≤ s.size := by omega
  unfold integer_Parse.f
  refine Ev.neg (by omega) (Ev.bind0 h1 ?_)
  show Ev (fun k => if d.toList = ([] : List UInt8) then (integer_Parse.j0 k d ng true) else ((strings_ContainsFunc_Parse1.f d).bind fun t489 => (integer_Parse.j0 k d ng t489))) _
  rw [ByteArray.toList_eq, has_eq, h2]
  rw [h2] at hdl
  unfold chk
  by_cases he : body s.data.toList = []
  · rw [if_pos he]
    exact Ev.pos he (Ev.step (fun k => integer_Parse.j0.eq_2 ..) (Ev.pos rfl (Ev.some_ rfl)))
  · rw [if_neg he]
    refine Ev.neg he (Ev.bindS ?_)
    unfold resD
    by_cases hd : (body s.data.toList).all isd = true
    · rw [if_pos hd, hd]
      have hp : 0 < d.size := by
        rcases Nat.eq_zero_or_pos d.size with h0 | h0
        · exact absurd (List.length_eq_zero_iff.1 (by omega)) he
        · exact h0
      have hb := bt_head d hp
      rw [h2] at hb
      refine Ev.step (fun k => integer_Parse.j0.eq_2 ..) (Ev.neg (by simp) (Ev.pos (by omega) ?_))
      rw [hb]
      have fin := parse_l0 ng d.size d 0 rfl (by omega) (by rw [h2]; exact hd) ⟨0, by decide, by omega⟩
      rw [dgs_zero, h2, h3] at fin
      have bad : ∀ b : Bool, b = true → Ev (fun k => integer_Parse.j1 k d ng b) (false, [], 3) := fun b hb2 =>
        Ev.step (fun k => integer_Parse.j1.eq_2 ..) (Ev.pos hb2 (Ev.some_ rfl))
      have good : ∀ b : Bool, b = false → Ev (fun k => integer_Parse.j1 k d ng b) (decide (decide ((s.data.toList.headD 0).toNat = 45) = true ∧ nv 0 (body s.data.toList) ≠ 0), dgs BB (nv 0 (body s.data.toList)), 0) := fun b hb2 => by
        refine Ev.step (fun k => integer_Parse.j1.eq_2 ..) (Ev.neg (by rw [hb2]; simp) ?_)
        rw [h3]
        exact fin
      have key : ∀ (c : Int) (F : Nat → Option (Bool × List Int × Int)) (A : Bool × List Int × Int), (if ((body s.data.toList).headD 0).toNat = 48 ∧ 1 < s.data.toList.length then (3 : Int) else 0) = c → Ev F (if c = 0 then A else (false, [], c)) →
          Ev F (if (if ((body s.data.toList).headD 0).toNat = 48 ∧ 1 < s.data.toList.length then (3 : Int) else 0) = 0 then A else (false, [], (if ((body s.data.toList).headD 0).toNat = 48 ∧ 1 < s.data.toList.length then (3 : Int) else 0))) := by
        intro c F A hc h
        rw [hc]
        exact h
      by_cases h48 : ((body s.data.toList).headD 0).toNat = 48
      · by_cases hg : (d.size : Int) > 1
        · refine key 3 _ _ (if_pos ⟨h48, by omega⟩) ?_
          rw [if_neg (by decide)]
          exact Ev.pos (by omega) (Ev.pos hg (bad true rfl))
        · by_cases hn : ng = true
          · rw [if_pos hn] at h4
            refine key 3 _ _ (if_pos ⟨h48, by omega⟩) ?_
            rw [if_neg (by decide)]
            exact Ev.pos (by omega) (Ev.neg hg (bad ng hn))
          · rw [if_neg hn] at h4
            refine key 0 _ _ (if_neg (by omega)) ?_
            rw [if_pos rfl]
            exact Ev.pos (by omega) (Ev.neg hg (good ng (by simpa using hn)))
      · refine key 0 _ _ (if_neg (fun hh => h48 hh.1)) ?_
        rw [if_pos rfl]
        exact Ev.neg (by omega) (good false rfl)
    · rw [if_neg hd]
      rw [Bool.not_eq_true] at hd
      rw [hd]
      exact Ev.step (fun k => integer_Parse.j0.eq_2 ..) (Ev.pos rfl (Ev.some_ rfl))
theorem parse_ok (s : ByteArray) (hm : s.size ≤ 65536) (h : chk s.data.toList = 0) : ∃ z : Int, s = T z ∧ Ev (fun k => integer_Parse.f k s) (decide (z < 0), lm z, 0) := by
  obtain ⟨neg, N, h1, h2, h3⟩ := parse_ev s hm
  obtain ⟨z, h4, _, h5⟩ := chk_itoa h
  refine ⟨z, ?_, ?_⟩
  · unfold T
    rw [← h4]
  · rw [if_pos h] at h1
    have := signed_mk (neg := decide ((s.data.toList.headD 0).toNat = 45)) (n := N) (z := z) (by rw [h5, h2]; simp only [decide_eq_true_eq])
    rw [Prod.mk.injEq] at this
    rw [h3, this.1, this.2] at h1
    exact h1
theorem lm_small (z : Int) (h : z ≠ 0) (h2 : z.natAbs < 4294967296) : lm z = [(z.natAbs : Int)] := by
  rw [lm, dgs_pos BB2 (by omega), Nat.div_eq_of_lt h2, dgs_zero, Nat.mod_eq_of_lt h2]
theorem kn_div : integer_DivMod.f 100 true [7] false [2] = some (true, [4], false, [1], 0) := by kernel_rfl
theorem kn_pow : integer_Power.f 100 true [10] 3 = some (true, [1000], 0) := by kernel_rfl
theorem kn_gcd : integer_Gcd.f 100 true [12] false [18] = some (false, [6]) := by kernel_rfl
theorem kn_bits : integer_Int_Bits.f false [256] = some 9 := by kernel_rfl
theorem small_text (z : Int) (h : z ≠ 0) (h2 : z.natAbs < 4294967296) : Ev (fun k => integer_Int_Text.f k (decide (z < 0)) [(z.natAbs : Int)]) (T z) := by
  have h10 : (Lib.decDigits z.natAbs).length ≤ 10 := by
    rw [dec_dgs _ (by omega)]
    simpa using dgs_len TEN2 10 z.natAbs (by omega)
  have := text_ev z (by rw [lm_small z h h2]; simp) (by omega)
  rwa [lm_small z h h2] at this
theorem small_from (z : Int) (h : z ≠ 0) (h2 : z.natAbs < 4294967296) : Ev (fun k => integer_From.f k z) (decide (z < 0), [(z.natAbs : Int)]) := by
  have := from_ev z (by omega) (by omega)
  rwa [lm_small z h h2] at this
theorem small_t (z : Int) (b : Bool) (l : List Int) (h : z ≠ 0) (h2 : z.natAbs < 4294967296) (hb : decide (z < 0) = b) (hl : [(z.natAbs : Int)] = l) : Ev (fun k => integer_Int_Text.f k b l) (T z) := hb ▸ hl ▸ small_text z h h2
theorem small_f (z : Int) (b : Bool) (l : List Int) (h : z ≠ 0) (h2 : z.natAbs < 4294967296) (hb : decide (z < 0) = b) (hl : [(z.natAbs : Int)] = l) : Ev (fun k => integer_From.f k z) (b, l) := hb ▸ hl ▸ small_from z h h2
theorem known_ev : Ev (fun k => dowellaw01_known.f k) true := by
  unfold dowellaw01_known.f
  refine Ev.bind (small_f (-7) true [7] (by decide) (by decide) (by decide) rfl) (Ev.bind (small_f 2 false [2] (by decide) (by decide) (by decide) rfl) ?_)
  refine Ev.bind (a := (true, [4], false, [1], 0)) (Ev.of (integer_DivMod.mono _ _ _ _) kn_div) ?_
  refine Ev.bind (small_f (-10) true [10] (by decide) (by decide) (by decide) rfl) ?_
  refine Ev.bind (a := (true, [1000], 0)) (Ev.of (integer_Power.mono _ _ _) kn_pow) ?_
  refine Ev.bind (small_t (-4) true [4] (by decide) (by decide) (by decide) rfl) ?_
  refine Ev.pos ?_ ?_
  · rw [ByteArray.toList_eq]
    show Lib.itoa (-4) = _
    unfold Lib.itoa
    rw [if_pos (by decide), show (-4 : Int).natAbs = 4 from rfl, dec_small (by decide)]
    rfl
  refine Ev.bind (small_t 1 false [1] (by decide) (by decide) (by decide) rfl) ?_
  refine Ev.pos ?_ ?_
  · rw [ByteArray.toList_eq]
    show Lib.itoa ((1 : Nat) : Int) = _
    rw [itoa_nat, dec_small (by decide)]
    rfl
  refine Ev.pos rfl ?_
  refine Ev.bind (small_t (-1000) true [1000] (by decide) (by decide) (by decide) rfl) ?_
  refine Ev.pos ?_ ?_
  · rw [ByteArray.toList_eq]
    show Lib.itoa (-1000) = _
    unfold Lib.itoa
    rw [if_pos (by decide), show (-1000 : Int).natAbs = 1000 from rfl, dec_big (by decide), dec_big (by decide), dec_big (by decide), dec_small (by decide)]
    rfl
  refine Ev.pos rfl ?_
  refine Ev.bind (small_f (-12) true [12] (by decide) (by decide) (by decide) rfl) (Ev.bind (small_f 18 false [18] (by decide) (by decide) (by decide) rfl) ?_)
  refine Ev.bind (a := (false, [6])) (Ev.of (integer_Gcd.mono _ _ _ _) kn_gcd) ?_
  refine Ev.bind (small_t 6 false [6] (by decide) (by decide) (by decide) rfl) ?_
  refine Ev.pos ?_ ?_
  · rw [ByteArray.toList_eq]
    show Lib.itoa ((6 : Nat) : Int) = _
    rw [itoa_nat, dec_small (by decide)]
    rfl
  refine Ev.bind (small_f 256 false [256] (by decide) (by decide) (by decide) rfl) ?_
  exact Ev.bind0 (a := 9) kn_bits (Ev.some_ rfl)
def Sm (k : Nat) (z : Int) : Prop := z.natAbs < 10 ^ k
theorem p10 (k : Nat) : 1 ≤ 10 ^ k := Nat.one_le_pow _ _ (by decide)
theorem Sm.lm {k : Nat} {z : Int} (h : Sm k z) : (lm z).length ≤ k := ten_len h
theorem dec_len_eq {n : Nat} (h : 0 < n) : (Lib.decDigits n).length = (dgs 10 n).length := by rw [dec_dgs n h]; simp
theorem Sm.dec {k : Nat} {z : Int} (h : Sm (k + 1) z) : (Lib.decDigits z.natAbs).length ≤ k + 1 := (pd_pad k z.natAbs h).1
theorem Sm.mono {j k : Nat} {z : Int} (h : Sm j z) (hk : j ≤ k) : Sm k z := Nat.lt_of_lt_of_le h (Nat.pow_le_pow_right (by decide) hk)
theorem Sm.add {k : Nat} {x y : Int} (h : Sm k x) (g : Sm k y) : Sm (k + 1) (x + y) := by
  unfold Sm at *
  rw [Nat.pow_succ]
  have := Int.natAbs_add_le x y
  omega
theorem Sm.neg {k : Nat} {x : Int} (h : Sm k x) : Sm k (-x) := by unfold Sm at *; rw [Int.natAbs_neg]; exact h
theorem T_size (z : Int) : (T z).size = (Lib.itoa z).length := bsize _
theorem sm_of {z : Int} {k : Nat} (h : (T z).size ≤ k) : Sm k z := by
  rw [T_size, itoa_len] at h
  unfold Sm
  rcases Nat.eq_zero_or_pos z.natAbs with h0 | h0
  · have := p10 k; omega
  · have h1 := dgs_lt_pow TEN2 z.natAbs
    rw [← dec_len_eq h0] at h1
    exact Nat.lt_of_lt_of_le h1 (Nat.pow_le_pow_right (by decide) (by omega))
theorem Sm.itoa {k : Nat} {z : Int} (h : Sm (k + 1) z) : (Lib.itoa z).length ≤ k + 2 := by
  rw [itoa_len]
  have := h.dec
  split <;> omega
theorem text_sm {k : Nat} {z : Int} (h : Sm (k + 1) z) (hk : k ≤ 1000000) : Ev (fun k => integer_Int_Text.f k (decide (z < 0)) (lm z)) (T z) :=
  text_ev z (by have := h.lm; omega) (by have := h.dec; omega)
end Go.Proofs.YtiikfhdmclmjmaaDoor.Pure
namespace Go.Proofs.YtiikfhdmclmjmaaDoor.P
open Go.RowKit Go.Proofs.YtiikfhdmclmjmaaDoorW.PrintWords Go.Proofs.YtiikfhdmclmjmaaDoorW.PrintLast
set_option linter.unusedVariables false
set_option linter.unusedSimpArgs false
def dowelref01_order.l0 : Nat → List Int → List Int → Int → Option (Int)
 | 0, _, _, _ => none
 | k + 1, x0, x1, x5 => if x5 ≥ 0 then (if 0 ≤ x5 then (if x5 < (x0.length : Int) then (if x5 < (x1.length : Int) then (if (rd x0 x5) < (rd x1 x5) then (some (-1)) else (if (rd x0 x5) > (rd x1 x5) then (some 1) else (dowelref01_order.l0 k x0 x1 (wrap64 (x5 - 1))))) else (none)) else (none)) else (none)) else (some 0)
def dowelref01_order.f (k : Nat) (l0 : List Int) (l1 : List Int) : Option (Int) := if (l0.length : Int) = (l1.length : Int) then (dowelref01_order.l0 k l0 l1 (wrap64 ((l0.length : Int) - 1))) else (if (l0.length : Int) < (l1.length : Int) then (some (-1)) else (some 1))
theorem dowelref01_order.mono_l : ∀ k, (∀ y0 y1 y2, LeO (dowelref01_order.l0 k y0 y1 y2) (dowelref01_order.l0 (k + 1) y0 y1 y2))
 | 0 => fun _ _ _ r h => by simp [dowelref01_order.l0] at h
 | k + 1 => by
  have ih0 := dowelref01_order.mono_l k
  ·
   intro y0 y1 y2
   unfold dowelref01_order.l0
   repeat' first
   | (with_reducible exact ih0 _ _ _)
   | (with_reducible exact LeO.refl _)
   | (with_reducible exact LeO.none _)
   | (with_reducible refine LeO.ite ?_ ?_)
   | (with_reducible refine LeO.bind ?_ (fun _ => ?_))
   | exact ih0 _ _ _
   | exact LeO.none _
   | refine LeO.ite ?_ ?_
   | refine LeO.bind ?_ (fun _ => ?_)
theorem dowelref01_order.mono : ∀ a0 a1 k, LeO (dowelref01_order.f k a0 a1) (dowelref01_order.f (k + 1) a0 a1) := by
 intro a0 a1 k
 have ih0 := dowelref01_order.mono_l k
 unfold dowelref01_order.f
 repeat' first
   | (with_reducible exact ih0 _ _ _)
   | (with_reducible exact LeO.refl _)
   | (with_reducible exact LeO.none _)
   | (with_reducible refine LeO.ite ?_ ?_)
   | (with_reducible refine LeO.bind ?_ (fun _ => ?_))
   | exact ih0 _ _ _
   | exact LeO.none _
   | refine LeO.ite ?_ ?_
   | refine LeO.bind ?_ (fun _ => ?_)
def dowelref01_Compare.f (k : Nat) (a0 : ByteArray) (a1 : ByteArray) : Option (Int) := (dowelref01_Sign.f a0).bind fun t846 => ((dowelref01_Sign.f a1).bind fun t847 => (if t846 < t847 then (some (-1)) else (if t846 > t847 then (some 1) else (if t846 < 0 then ((dowelref01_digits.f k a1).bind fun t848 => ((dowelref01_digits.f k a0).bind fun t851 => ((dowelref01_order.f k t848 t851).bind fun t854 => (some t854)))) else ((dowelref01_digits.f k a0).bind fun t855 => ((dowelref01_digits.f k a1).bind fun t858 => ((dowelref01_order.f k t855 t858).bind fun t861 => (some t861))))))))
theorem dowelref01_Compare.mono : ∀ a0 a1 k, LeO (dowelref01_Compare.f k a0 a1) (dowelref01_Compare.f (k + 1) a0 a1) := by
 intro a0 a1 k
 unfold dowelref01_Compare.f
 repeat' first
   | (with_reducible exact dowelref01_digits.mono _ _)
   | (with_reducible exact dowelref01_order.mono _ _ _)
   | (with_reducible exact LeO.refl _)
   | (with_reducible exact LeO.none _)
   | (with_reducible refine LeO.ite ?_ ?_)
   | (with_reducible refine LeO.bind ?_ (fun _ => ?_))
   | exact dowelref01_digits.mono _ _
   | exact dowelref01_order.mono _ _ _
   | exact LeO.none _
   | refine LeO.ite ?_ ?_
   | refine LeO.bind ?_ (fun _ => ?_)
mutual
def dowelref01_plus.l0 : Nat → List Int → List Int → List Int → Int → Int → Option (List Int)
 | 0, _, _, _, _, _ => none
 | k + 1, x0, x1, x5, x6, x7 => if x7 < (x0.length : Int) then (dowelref01_plus.j1 k x0 x1 x5 x6 x7 true) else (if x7 < (x1.length : Int) then (dowelref01_plus.j1 k x0 x1 x5 x6 x7 true) else (dowelref01_plus.j1 k x0 x1 x5 x6 x7 (decide (x6 > 0))))
def dowelref01_plus.j1 : Nat → List Int → List Int → List Int → Int → Int → Bool → Option (List Int)
 | 0, _, _, _, _, _, _ => none
 | k + 1, x0, x1, x5, x6, x7, x22 => if x22 = true then (if x7 < (x0.length : Int) then (if 0 ≤ x7 then (if x7 < (x1.length : Int) then (if x5.length < 17592186044416 then (dowelref01_plus.l0 k x0 x1 (x5 ++ [Int.tmod (wrap64 ((wrap64 (x6 + (rd x0 x7))) + (rd x1 x7))) 10]) (wrap64 (Int.tdiv (wrap64 ((wrap64 (x6 + (rd x0 x7))) + (rd x1 x7))) 10)) (wrap64 (x7 + 1))) else (none)) else (if x5.length < 17592186044416 then (dowelref01_plus.l0 k x0 x1 (x5 ++ [Int.tmod (wrap64 (x6 + (rd x0 x7))) 10]) (wrap64 (Int.tdiv (wrap64 (x6 + (rd x0 x7))) 10)) (wrap64 (x7 + 1))) else (none))) else (none)) else (if x7 < (x1.length : Int) then (if 0 ≤ x7 then (if x5.length < 17592186044416 then (dowelref01_plus.l0 k x0 x1 (x5 ++ [Int.tmod (wrap64 (x6 + (rd x1 x7))) 10]) (wrap64 (Int.tdiv (wrap64 (x6 + (rd x1 x7))) 10)) (wrap64 (x7 + 1))) else (none)) else (none)) else (if x5.length < 17592186044416 then (dowelref01_plus.l0 k x0 x1 (x5 ++ [Int.tmod x6 10]) (wrap64 (Int.tdiv x6 10)) (wrap64 (x7 + 1))) else (none)))) else (some x5)
end
def dowelref01_plus.f (k : Nat) (l0 : List Int) (l1 : List Int) : Option (List Int) := dowelref01_plus.l0 k l0 l1 ([] : List Int) 0 0
theorem dowelref01_plus.mono_l : ∀ k, (∀ y0 y1 y2 y3 y4, LeO (dowelref01_plus.l0 k y0 y1 y2 y3 y4) (dowelref01_plus.l0 (k + 1) y0 y1 y2 y3 y4)) ∧ (∀ y0 y1 y2 y3 y4 y5, LeO (dowelref01_plus.j1 k y0 y1 y2 y3 y4 y5) (dowelref01_plus.j1 (k + 1) y0 y1 y2 y3 y4 y5))
 | 0 => ⟨fun _ _ _ _ _ r h => by simp [dowelref01_plus.l0] at h, fun _ _ _ _ _ _ r h => by simp [dowelref01_plus.j1] at h⟩
 | k + 1 => by
  obtain ⟨ih0, ih1⟩ := dowelref01_plus.mono_l k
  refine ⟨?_, ?_⟩
  ·
   intro y0 y1 y2 y3 y4
   unfold dowelref01_plus.l0
   repeat' first
   | (with_reducible exact ih0 _ _ _ _ _)
   | (with_reducible exact ih1 _ _ _ _ _ _)
   | (with_reducible exact LeO.refl _)
   | (with_reducible exact LeO.none _)
   | (with_reducible refine LeO.ite ?_ ?_)
   | (with_reducible refine LeO.bind ?_ (fun _ => ?_))
   | exact ih0 _ _ _ _ _
   | exact ih1 _ _ _ _ _ _
   | exact LeO.none _
   | refine LeO.ite ?_ ?_
   | refine LeO.bind ?_ (fun _ => ?_)
  ·
   intro y0 y1 y2 y3 y4 y5
   unfold dowelref01_plus.j1
   repeat' first
   | (with_reducible exact ih0 _ _ _ _ _)
   | (with_reducible exact ih1 _ _ _ _ _ _)
   | (with_reducible exact LeO.refl _)
   | (with_reducible exact LeO.none _)
   | (with_reducible refine LeO.ite ?_ ?_)
   | (with_reducible refine LeO.bind ?_ (fun _ => ?_))
   | exact ih0 _ _ _ _ _
   | exact ih1 _ _ _ _ _ _
   | exact LeO.none _
   | refine LeO.ite ?_ ?_
   | refine LeO.bind ?_ (fun _ => ?_)
theorem dowelref01_plus.mono : ∀ a0 a1 k, LeO (dowelref01_plus.f k a0 a1) (dowelref01_plus.f (k + 1) a0 a1) := by
 intro a0 a1 k
 obtain ⟨ih0, ih1⟩ := dowelref01_plus.mono_l k
 unfold dowelref01_plus.f
 repeat' first
   | (with_reducible exact ih0 _ _ _ _ _)
   | (with_reducible exact ih1 _ _ _ _ _ _)
   | (with_reducible exact LeO.refl _)
   | (with_reducible exact LeO.none _)
   | (with_reducible refine LeO.ite ?_ ?_)
   | (with_reducible refine LeO.bind ?_ (fun _ => ?_))
   | exact ih0 _ _ _ _ _
   | exact ih1 _ _ _ _ _ _
   | exact LeO.none _
   | refine LeO.ite ?_ ?_
   | refine LeO.bind ?_ (fun _ => ?_)
def dowelref01_minus.l0 : Nat → List Int → List Int → List Int → Int → Int → Option (List Int)
 | 0, _, _, _, _, _ => none
 | k + 1, x0, x1, x5, x6, x7 => if x7 < (x0.length : Int) then (if 0 ≤ x7 then (if x7 < (x1.length : Int) then (if (wrap64 ((wrap64 ((rd x0 x7) - x6)) - (rd x1 x7))) < 0 then (if x5.length < 17592186044416 then (dowelref01_minus.l0 k x0 x1 (x5 ++ [wrap64 ((wrap64 ((wrap64 ((rd x0 x7) - x6)) - (rd x1 x7))) + 10)]) 1 (wrap64 (x7 + 1))) else (none)) else (if x5.length < 17592186044416 then (dowelref01_minus.l0 k x0 x1 (x5 ++ [wrap64 ((wrap64 ((rd x0 x7) - x6)) - (rd x1 x7))]) 0 (wrap64 (x7 + 1))) else (none))) else (if (wrap64 ((rd x0 x7) - x6)) < 0 then (if x5.length < 17592186044416 then (dowelref01_minus.l0 k x0 x1 (x5 ++ [wrap64 ((wrap64 ((rd x0 x7) - x6)) + 10)]) 1 (wrap64 (x7 + 1))) else (none)) else (if x5.length < 17592186044416 then (dowelref01_minus.l0 k x0 x1 (x5 ++ [wrap64 ((rd x0 x7) - x6)]) 0 (wrap64 (x7 + 1))) else (none)))) else (none)) else ((dowelref01_trim.f k x5).bind fun t583 => (some t583))
def dowelref01_minus.f (k : Nat) (l0 : List Int) (l1 : List Int) : Option (List Int) := dowelref01_minus.l0 k l0 l1 ([] : List Int) 0 0
theorem dowelref01_minus.mono_l : ∀ k, (∀ y0 y1 y2 y3 y4, LeO (dowelref01_minus.l0 k y0 y1 y2 y3 y4) (dowelref01_minus.l0 (k + 1) y0 y1 y2 y3 y4))
 | 0 => fun _ _ _ _ _ r h => by simp [dowelref01_minus.l0] at h
 | k + 1 => by
  have ih0 := dowelref01_minus.mono_l k
  ·
   intro y0 y1 y2 y3 y4
   unfold dowelref01_minus.l0
   repeat' first
   | (with_reducible exact ih0 _ _ _ _ _)
   | (with_reducible exact dowelref01_trim.mono _ _)
   | (with_reducible exact LeO.refl _)
   | (with_reducible exact LeO.none _)
   | (with_reducible refine LeO.ite ?_ ?_)
   | (with_reducible refine LeO.bind ?_ (fun _ => ?_))
   | exact ih0 _ _ _ _ _
   | exact dowelref01_trim.mono _ _
   | exact LeO.none _
   | refine LeO.ite ?_ ?_
   | refine LeO.bind ?_ (fun _ => ?_)
theorem dowelref01_minus.mono : ∀ a0 a1 k, LeO (dowelref01_minus.f k a0 a1) (dowelref01_minus.f (k + 1) a0 a1) := by
 intro a0 a1 k
 have ih0 := dowelref01_minus.mono_l k
 unfold dowelref01_minus.f
 repeat' first
   | (with_reducible exact ih0 _ _ _ _ _)
   | (with_reducible exact dowelref01_trim.mono _ _)
   | (with_reducible exact LeO.refl _)
   | (with_reducible exact LeO.none _)
   | (with_reducible refine LeO.ite ?_ ?_)
   | (with_reducible refine LeO.bind ?_ (fun _ => ?_))
   | exact ih0 _ _ _ _ _
   | exact dowelref01_trim.mono _ _
   | exact LeO.none _
   | refine LeO.ite ?_ ?_
   | refine LeO.bind ?_ (fun _ => ?_)
def dowelref01_Neg.f (k : Nat) (a0 : ByteArray) : Option (ByteArray) := (dowelref01_Sign.f a0).bind fun t639 => ((dowelref01_digits.f k a0).bind fun t640 => ((dowelref01_text.f k (decide (t639 > 0)) t640).bind fun t643 => (some t643)))
theorem dowelref01_Neg.mono : ∀ a0 k, LeO (dowelref01_Neg.f k a0) (dowelref01_Neg.f (k + 1) a0) := by
 intro a0 k
 unfold dowelref01_Neg.f
 repeat' first
   | (with_reducible exact dowelref01_digits.mono _ _)
   | (with_reducible exact dowelref01_text.mono _ _ _)
   | (with_reducible exact LeO.refl _)
   | (with_reducible exact LeO.none _)
   | (with_reducible refine LeO.ite ?_ ?_)
   | (with_reducible refine LeO.bind ?_ (fun _ => ?_))
   | exact dowelref01_digits.mono _ _
   | exact dowelref01_text.mono _ _ _
   | exact LeO.none _
   | refine LeO.ite ?_ ?_
   | refine LeO.bind ?_ (fun _ => ?_)
def dowelref01_Add.f (k : Nat) (a0 : ByteArray) (a1 : ByteArray) : Option (ByteArray) := (dowelref01_digits.f k a0).bind fun t615 => ((dowelref01_digits.f k a1).bind fun t618 => ((dowelref01_Sign.f a0).bind fun t621 => ((dowelref01_Sign.f a1).bind fun t622 => (if ((decide (t621 < 0)) == (decide (t622 < 0))) = true then ((dowelref01_Sign.f a0).bind fun t623 => ((dowelref01_plus.f k t615 t618).bind fun t624 => ((dowelref01_text.f k (decide (t623 < 0)) t624).bind fun t627 => (some t627)))) else ((dowelref01_order.f k t615 t618).bind fun t628 => (if t628 ≥ 0 then ((dowelref01_Sign.f a0).bind fun t629 => ((dowelref01_minus.f k t615 t618).bind fun t630 => ((dowelref01_text.f k (decide (t629 < 0)) t630).bind fun t633 => (some t633)))) else ((dowelref01_Sign.f a1).bind fun t634 => ((dowelref01_minus.f k t618 t615).bind fun t635 => ((dowelref01_text.f k (decide (t634 < 0)) t635).bind fun t638 => (some t638))))))))))
theorem dowelref01_Add.mono : ∀ a0 a1 k, LeO (dowelref01_Add.f k a0 a1) (dowelref01_Add.f (k + 1) a0 a1) := by
 intro a0 a1 k
 unfold dowelref01_Add.f
 repeat' first
   | (with_reducible exact dowelref01_digits.mono _ _)
   | (with_reducible exact dowelref01_minus.mono _ _ _)
   | (with_reducible exact dowelref01_order.mono _ _ _)
   | (with_reducible exact dowelref01_plus.mono _ _ _)
   | (with_reducible exact dowelref01_text.mono _ _ _)
   | (with_reducible exact LeO.refl _)
   | (with_reducible exact LeO.none _)
   | (with_reducible refine LeO.ite ?_ ?_)
   | (with_reducible refine LeO.bind ?_ (fun _ => ?_))
   | exact dowelref01_digits.mono _ _
   | exact dowelref01_minus.mono _ _ _
   | exact dowelref01_order.mono _ _ _
   | exact dowelref01_plus.mono _ _ _
   | exact dowelref01_text.mono _ _ _
   | exact LeO.none _
   | refine LeO.ite ?_ ?_
   | refine LeO.bind ?_ (fun _ => ?_)
def dowelref01_Sub.f (k : Nat) (a0 : ByteArray) (a1 : ByteArray) : Option (ByteArray) := (dowelref01_Neg.f k a1).bind fun t644 => ((dowelref01_Add.f k a0 t644).bind fun t645 => (some t645))
theorem dowelref01_Sub.mono : ∀ a0 a1 k, LeO (dowelref01_Sub.f k a0 a1) (dowelref01_Sub.f (k + 1) a0 a1) := by
 intro a0 a1 k
 unfold dowelref01_Sub.f
 repeat' first
   | (with_reducible exact dowelref01_Add.mono _ _ _)
   | (with_reducible exact dowelref01_Neg.mono _ _)
   | (with_reducible exact LeO.refl _)
   | (with_reducible exact LeO.none _)
   | (with_reducible refine LeO.ite ?_ ?_)
   | (with_reducible refine LeO.bind ?_ (fun _ => ?_))
   | exact dowelref01_Add.mono _ _ _
   | exact dowelref01_Neg.mono _ _
   | exact LeO.none _
   | refine LeO.ite ?_ ?_
   | refine LeO.bind ?_ (fun _ => ?_)
mutual
def dowelref01_Mul.l0 : Nat → ByteArray → ByteArray → List Int → List Int → List Int → Int → Option (ByteArray)
 | 0, _, _, _, _, _, _ => none
 | k + 1, x0, x1, x5, x6, x7, x8 => if x8 < (x5.length : Int) then (dowelref01_Mul.l1 k x0 x1 x5 x6 x7 x8 0 0) else ((dowelref01_Sign.f x0).bind fun t543 => ((dowelref01_Sign.f x1).bind fun t544 => ((dowelref01_text.f k (decide ((wrap64 (t543 * t544)) < 0)) x7).bind fun t545 => (some t545))))
def dowelref01_Mul.l1 : Nat → ByteArray → ByteArray → List Int → List Int → List Int → Int → Int → Int → Option (ByteArray)
 | 0, _, _, _, _, _, _, _, _ => none
 | k + 1, x0, x1, x5, x6, x7, x8, x9, x10 => if x10 < (x6.length : Int) then (dowelref01_Mul.j2 k x0 x1 x5 x6 x7 x8 x9 x10 true) else (dowelref01_Mul.j2 k x0 x1 x5 x6 x7 x8 x9 x10 (decide (x9 > 0)))
def dowelref01_Mul.j2 : Nat → ByteArray → ByteArray → List Int → List Int → List Int → Int → Int → Int → Bool → Option (ByteArray)
 | 0, _, _, _, _, _, _, _, _, _ => none
 | k + 1, x0, x1, x5, x6, x7, x8, x9, x10, x36 => if x36 = true then (if 0 ≤ (wrap64 (x8 + x10)) then (if (wrap64 (x8 + x10)) < (x7.length : Int) then (if x10 < (x6.length : Int) then (if 0 ≤ x8 then (if x8 < (x5.length : Int) then (if 0 ≤ x10 then (dowelref01_Mul.l1 k x0 x1 x5 x6 (x7.set ((wrap64 (x8 + x10)) : Int).toNat (Int.tmod (wrap64 ((wrap64 ((rd x7 (wrap64 (x8 + x10))) + x9)) + (wrap64 ((rd x5 x8) * (rd x6 x10))))) 10)) x8 (wrap64 (Int.tdiv (wrap64 ((wrap64 ((rd x7 (wrap64 (x8 + x10))) + x9)) + (wrap64 ((rd x5 x8) * (rd x6 x10))))) 10)) (wrap64 (x10 + 1))) else (none)) else (none)) else (none)) else (dowelref01_Mul.l1 k x0 x1 x5 x6 (x7.set ((wrap64 (x8 + x10)) : Int).toNat (Int.tmod (wrap64 ((rd x7 (wrap64 (x8 + x10))) + x9)) 10)) x8 (wrap64 (Int.tdiv (wrap64 ((rd x7 (wrap64 (x8 + x10))) + x9)) 10)) (wrap64 (x10 + 1)))) else (none)) else (none)) else (dowelref01_Mul.l0 k x0 x1 x5 x6 x7 (wrap64 (x8 + 1)))
end
def dowelref01_Mul.f (k : Nat) (a0 : ByteArray) (a1 : ByteArray) : Option (ByteArray) := (dowelref01_digits.f k a0).bind fun t534 => ((dowelref01_digits.f k a1).bind fun t537 => (if 0 ≤ (wrap64 ((wrap64 ((t534.length : Int) + (t537.length : Int))) + 1)) then (if (wrap64 ((wrap64 ((t534.length : Int) + (t537.length : Int))) + 1) : Int).toNat ≤ 35184372088832 then (dowelref01_Mul.l0 k a0 a1 t534 t537 (List.replicate (wrap64 ((wrap64 ((t534.length : Int) + (t537.length : Int))) + 1) : Int).toNat 0) 0) else (none)) else (none)))
theorem dowelref01_Mul.mono_l : ∀ k, (∀ y0 y1 y2 y3 y4 y5, LeO (dowelref01_Mul.l0 k y0 y1 y2 y3 y4 y5) (dowelref01_Mul.l0 (k + 1) y0 y1 y2 y3 y4 y5)) ∧ (∀ y0 y1 y2 y3 y4 y5 y6 y7, LeO (dowelref01_Mul.l1 k y0 y1 y2 y3 y4 y5 y6 y7) (dowelref01_Mul.l1 (k + 1) y0 y1 y2 y3 y4 y5 y6 y7)) ∧ (∀ y0 y1 y2 y3 y4 y5 y6 y7 y8, LeO (dowelref01_Mul.j2 k y0 y1 y2 y3 y4 y5 y6 y7 y8) (dowelref01_Mul.j2 (k + 1) y0 y1 y2 y3 y4 y5 y6 y7 y8))
 | 0 => ⟨fun _ _ _ _ _ _ r h => by simp [dowelref01_Mul.l0] at h, fun _ _ _ _ _ _ _ _ r h => by simp [dowelref01_Mul.l1] at h, fun _ _ _ _ _ _ _ _ _ r h => by simp [dowelref01_Mul.j2] at h⟩
 | k + 1 => by
  obtain ⟨ih0, ih1, ih2⟩ := dowelref01_Mul.mono_l k
  refine ⟨?_, ?_, ?_⟩
  ·
   intro y0 y1 y2 y3 y4 y5
   unfold dowelref01_Mul.l0
   repeat' first
   | (with_reducible exact ih0 _ _ _ _ _ _)
   | (with_reducible exact ih1 _ _ _ _ _ _ _ _)
   | (with_reducible exact ih2 _ _ _ _ _ _ _ _ _)
   | (with_reducible exact dowelref01_digits.mono _ _)
   | (with_reducible exact dowelref01_text.mono _ _ _)
   | (with_reducible exact LeO.refl _)
   | (with_reducible exact LeO.none _)
   | (with_reducible refine LeO.ite ?_ ?_)
   | (with_reducible refine LeO.bind ?_ (fun _ => ?_))
   | exact ih0 _ _ _ _ _ _
   | exact ih1 _ _ _ _ _ _ _ _
   | exact ih2 _ _ _ _ _ _ _ _ _
   | exact dowelref01_digits.mono _ _
   | exact dowelref01_text.mono _ _ _
   | exact LeO.none _
   | refine LeO.ite ?_ ?_
   | refine LeO.bind ?_ (fun _ => ?_)
  ·
   intro y0 y1 y2 y3 y4 y5 y6 y7
   unfold dowelref01_Mul.l1
   repeat' first
   | (with_reducible exact ih0 _ _ _ _ _ _)
   | (with_reducible exact ih1 _ _ _ _ _ _ _ _)
   | (with_reducible exact ih2 _ _ _ _ _ _ _ _ _)
   | (with_reducible exact dowelref01_digits.mono _ _)
   | (with_reducible exact dowelref01_text.mono _ _ _)
   | (with_reducible exact LeO.refl _)
   | (with_reducible exact LeO.none _)
   | (with_reducible refine LeO.ite ?_ ?_)
   | (with_reducible refine LeO.bind ?_ (fun _ => ?_))
   | exact ih0 _ _ _ _ _ _
   | exact ih1 _ _ _ _ _ _ _ _
   | exact ih2 _ _ _ _ _ _ _ _ _
   | exact dowelref01_digits.mono _ _
   | exact dowelref01_text.mono _ _ _
   | exact LeO.none _
   | refine LeO.ite ?_ ?_
   | refine LeO.bind ?_ (fun _ => ?_)
  ·
   intro y0 y1 y2 y3 y4 y5 y6 y7 y8
   unfold dowelref01_Mul.j2
   repeat' first
   | (with_reducible exact ih0 _ _ _ _ _ _)
   | (with_reducible exact ih1 _ _ _ _ _ _ _ _)
   | (with_reducible exact ih2 _ _ _ _ _ _ _ _ _)
   | (with_reducible exact dowelref01_digits.mono _ _)
   | (with_reducible exact dowelref01_text.mono _ _ _)
   | (with_reducible exact LeO.refl _)
   | (with_reducible exact LeO.none _)
   | (with_reducible refine LeO.ite ?_ ?_)
   | (with_reducible refine LeO.bind ?_ (fun _ => ?_))
   | exact ih0 _ _ _ _ _ _
   | exact ih1 _ _ _ _ _ _ _ _
   | exact ih2 _ _ _ _ _ _ _ _ _
   | exact dowelref01_digits.mono _ _
   | exact dowelref01_text.mono _ _ _
   | exact LeO.none _
   | refine LeO.ite ?_ ?_
   | refine LeO.bind ?_ (fun _ => ?_)
theorem dowelref01_Mul.mono : ∀ a0 a1 k, LeO (dowelref01_Mul.f k a0 a1) (dowelref01_Mul.f (k + 1) a0 a1) := by
 intro a0 a1 k
 obtain ⟨ih0, ih1, ih2⟩ := dowelref01_Mul.mono_l k
 unfold dowelref01_Mul.f
 repeat' first
   | (with_reducible exact ih0 _ _ _ _ _ _)
   | (with_reducible exact ih1 _ _ _ _ _ _ _ _)
   | (with_reducible exact ih2 _ _ _ _ _ _ _ _ _)
   | (with_reducible exact dowelref01_digits.mono _ _)
   | (with_reducible exact dowelref01_text.mono _ _ _)
   | (with_reducible exact LeO.refl _)
   | (with_reducible exact LeO.none _)
   | (with_reducible refine LeO.ite ?_ ?_)
   | (with_reducible refine LeO.bind ?_ (fun _ => ?_))
   | exact ih0 _ _ _ _ _ _
   | exact ih1 _ _ _ _ _ _ _ _
   | exact ih2 _ _ _ _ _ _ _ _ _
   | exact dowelref01_digits.mono _ _
   | exact dowelref01_text.mono _ _ _
   | exact LeO.none _
   | refine LeO.ite ?_ ?_
   | refine LeO.bind ?_ (fun _ => ?_)
def dowelref01_Power.l0 : Nat → ByteArray → Int → ByteArray → Int → Option (ByteArray)
 | 0, _, _, _, _ => none
 | k + 1, x0, x1, x5, x6 => if x6 < x1 then ((dowelref01_Mul.f k x5 x0).bind fun t782 => (dowelref01_Power.l0 k x0 x1 t782 (wrap64 (x6 + 1)))) else (some x5)
def dowelref01_Power.f (k : Nat) (a0 : ByteArray) (a1 : Int) : Option (ByteArray) := dowelref01_Power.l0 k a0 a1 (⟨#[49]⟩ : ByteArray) 0
theorem dowelref01_Power.mono_l : ∀ k, (∀ y0 y1 y2 y3, LeO (dowelref01_Power.l0 k y0 y1 y2 y3) (dowelref01_Power.l0 (k + 1) y0 y1 y2 y3))
 | 0 => fun _ _ _ _ r h => by simp [dowelref01_Power.l0] at h
 | k + 1 => by
  have ih0 := dowelref01_Power.mono_l k
  ·
   intro y0 y1 y2 y3
   unfold dowelref01_Power.l0
   repeat' first
   | (with_reducible exact ih0 _ _ _ _)
   | (with_reducible exact dowelref01_Mul.mono _ _ _)
   | (with_reducible exact LeO.refl _)
   | (with_reducible exact LeO.none _)
   | (with_reducible refine LeO.ite ?_ ?_)
   | (with_reducible refine LeO.bind ?_ (fun _ => ?_))
   | exact ih0 _ _ _ _
   | exact dowelref01_Mul.mono _ _ _
   | exact LeO.none _
   | refine LeO.ite ?_ ?_
   | refine LeO.bind ?_ (fun _ => ?_)
theorem dowelref01_Power.mono : ∀ a0 a1 k, LeO (dowelref01_Power.f k a0 a1) (dowelref01_Power.f (k + 1) a0 a1) := by
 intro a0 a1 k
 have ih0 := dowelref01_Power.mono_l k
 unfold dowelref01_Power.f
 repeat' first
   | (with_reducible exact ih0 _ _ _ _)
   | (with_reducible exact dowelref01_Mul.mono _ _ _)
   | (with_reducible exact LeO.refl _)
   | (with_reducible exact LeO.none _)
   | (with_reducible refine LeO.ite ?_ ?_)
   | (with_reducible refine LeO.bind ?_ (fun _ => ?_))
   | exact ih0 _ _ _ _
   | exact dowelref01_Mul.mono _ _ _
   | exact LeO.none _
   | refine LeO.ite ?_ ?_
   | refine LeO.bind ?_ (fun _ => ?_)
end Go.Proofs.YtiikfhdmclmjmaaDoor.P
namespace Go.Proofs.YtiikfhdmclmjmaaDoor.Pure
open Go.RowKit Go.Proofs.YtiikfhdmclmjmaaDoorW.PrintWords Go.Proofs.YtiikfhdmclmjmaaDoor.P
set_option linter.unusedVariables false
set_option linter.unusedSimpArgs false
theorem zeros_size : (strOfNums (List.replicate 65537 0)).size = 65537 := by
  unfold strOfNums
  rw [bsize, List.length_map, List.length_replicate]
theorem long_ev : Ev (fun k => integer_Parse.f k (strOfNums (List.replicate 65537 0))) (false, [], 5) := by
  unfold integer_Parse.f
  exact Ev.pos (by rw [zeros_size]; decide) (Ev.some_ rfl)
theorem IntegerParses : dowellaw01_IntegerParses.Pure := by
  intro s hs
  refine Ev.rounds (g := fun k => dowellaw01_IntegerParses.f k s) ?_
  unfold dowellaw01_IntegerParses.f
  have kn : Ev (fun k => dowellaw01_IntegerParses.j0 k s true) true := Ev.step (fun k => dowellaw01_IntegerParses.j0.eq_2 ..) (Ev.pos rfl (Ev.bind known_ev (Ev.some_ rfl)))
  refine Ev.bind known_ev (Ev.pos rfl ?_)
  by_cases h200 : 200 < s.size
  · rw [decide_eq_true h200]; exact kn
  rw [decide_eq_false h200]
  have hck := check_ev s (by omega)
  obtain ⟨r, hr, e3, hj⟩ : ∃ r : Bool × List Int × Int, Ev (fun k => integer_Parse.f k s) r ∧ r.2.2 = chk s.data.toList ∧ Ev (fun k => dowellaw01_IntegerParses.j1 k s r.2.2 false r.1 r.2.1) true := by
    by_cases hc : chk s.data.toList = 0
    · obtain ⟨z, hz, h⟩ := parse_ok s (by omega) hc
      refine ⟨_, h, hc.symm, ?_⟩
      subst hz
      have sz : Sm 200 z := sm_of (by omega)
      refine Ev.step (fun k => dowellaw01_IntegerParses.j1.eq_2 ..) (Ev.neg (by simp) (Ev.pos rfl ?_))
      exact Ev.bind (text_sm (k := 199) sz (by decide)) (Ev.some_ (beq_self_eq_true _))
    · obtain ⟨neg, N, h, _⟩ := parse_ev s (by omega)
      rw [if_neg hc] at h
      refine ⟨_, h, rfl, ?_⟩
      refine Ev.step (fun k => dowellaw01_IntegerParses.j1.eq_2 ..) (Ev.neg (by simp) (Ev.neg hc ?_))
      have l0 : lm 0 = [] := lm_nil.2 rfl
      have t0 := text_ev 0 (by rw [l0]; simp) (by rw [show (0 : Int).natAbs = 0 from rfl, dec_zero]; simp)
      rw [l0] at t0
      refine Ev.bind t0 (Ev.some_ ?_)
      rw [(T_48 0).2 rfl]
      rfl
  refine Ev.step (fun k => dowellaw01_IntegerParses.j0.eq_2 ..) (Ev.neg (by simp) (Ev.bind hr (Ev.pos (by decide) (Ev.bind long_ev (Ev.bind hck (Ev.pos e3 ?_))))))
  exact hj
end Go.Proofs.YtiikfhdmclmjmaaDoor.Pure
namespace Go.Proofs.YtiikfhdmclmjmaaDoor
namespace LawIntegerParses
open Go Go.ChangeShapes Go.WideShapes Go.ChangeAt Go.RowKit
open Go.ChangeMaps (open_string shut_string)
set_option linter.unusedVariables false
theorem own : ownKnob Tryd.prog.godebug = none := by kernel_rfl
theorem door_met (os : Os) (args : Array Value) : laidMetH Tryd.prog Rows.integerParsesRow.laid ((World.doorLaid Tryd.prog 62 os).forCall (fun _ _ => 0) ⟨#[], args, []⟩).memory :=
  laidMetH_of_parts3 (fuel := 8) (laidMet_of_run' 8 (by kernel_rfl) (by kernel_rfl)) (by kernel_rfl) (by kernel_rfl)
theorem of_laid {W : World} (h : laidMetH Tryd.prog Rows.integerParsesRow.laid W) : P.G W := by
  rw [MakeChecks.laidMetH_plain _ _ _ (by kernel_rfl)] at h
  replace h := laidMet.tail h
  replace h := laidMet.tail h
  exact Lib.tabIs_of_head (g := 2) (t := 126) (e := 58) (n := 20) (by kernel_rfl) (by kernel_rfl) (by kernel_rfl) (by kernel_rfl) (by kernel_rfl) (by kernel_rfl) h
set_option maxRecDepth 100000 in
theorem lifted (os : Os) (started : os.Started) (H : Type) (enc : TypeId × Value → H) :
    ReturnsInHanded {} Tryd.checked os 4 .any (fun w args => (Rows.integerParsesSpec.pre enc Tryd.prog Tryd.f4 [] false w args ∧ laidMetH Tryd.prog Rows.integerParsesRow.laid w) ∧ sizedMet enc Tryd.prog Tryd.f4 (OpenSpec.ofChange Rows.integerParsesSpec) false w args)
      (Rows.integerParsesSpec.post enc Tryd.prog Tryd.f4 false true false false) := by
  refine returnsInHanded_of_change_and (C := Tryd.checked) (X := fun w _ => laidMetH Tryd.prog Rows.integerParsesRow.laid w) (fun _ _ _ hh h => h.of_heap hh) own started (by kernel_rfl) Tryd.func4
    (ChangeSpec.witness_shaped (enc := enc) (C := Tryd.checked) (os := os) (X := fun w _ => laidMetH Tryd.prog Rows.integerParsesRow.laid w) false (World.doorLaid Tryd.prog 62 os) #[.string ByteArray.empty] 8 rfl (World.shaped_of_RefB (by kernel_rfl) (by kernel_rfl)) (by kernel_rfl) (by kernel_rfl) (by kernel_rfl) (door_met os _)) ?_
  intro W base args ds gs before hval0 hW _ hsz0 hL _
  have hsz : (DataW.weightsEach Tryd.prog (Tryd.f4.params.toList ++ Rows.integerParsesSpec.plain.varTypes Tryd.prog) (ds ++ gs)).all (· ≤ reachBytes) = true := hsz0
  have hval : ∀ (j : Nat) t v, Tryd.f4.params[j]? = some t → args[j]? = some v → Value.okWide Tryd.prog W .any base t v := hval0
  have hW' := hW
  obtain ⟨p, q, hA0, hV, rfl, hfz, hnd⟩ := hW
  have hA : DataW.TrodAll enc Tryd.prog W 0 (fun _ => true) true Tryd.f4.params.toList args.toList ds p := hA0
  rw [Tryd.params4] at hA hval hsz
  obtain ⟨v0, vs0, d0, ds0, p0, q0, hargs, rfl, rfl, h0, r0⟩ := trodAll_cons hA
  obtain ⟨rfl, rfl, rfl⟩ := trodAll_nil r0
  obtain rfl : args = #[v0] := by cases args; simp_all
  obtain ⟨rfl, rfl⟩ := trodVars_none hV
  obtain ⟨a0, rfl, rfl, rfl, y0⟩ := open_string Tryd.underlying9 (hval 0 9 v0 rfl rfl) h0
  have w0 : a0.size ≤ 140737488351232 := by
    have z := sized_string hsz (j := 0) (t := 9) rfl rfl
    rw [Array.length_toList] at z
    exact z
  clear hA0 hval0 hsz0 hsz
  refine (P.dowellaw01_IntegerParses.walk Pure.IntegerParses a0 W (of_laid hL) w0).mono fun e W' ⟨he, bel⟩ => ?_
  subst he
  exact ⟨_, rfl, _, _, _, [], _, [], hW', trodAll_mk1 (shut_bool Tryd.underlying4 _), (trodAll_cons_mk (shut_string Tryd.underlying9 y0) trodAll_mk0), rfl, bel.frame _, fun h => by cases h⟩
theorem row_holds : Rows.IntegerParsesSaid :=
  OpenClaim.holds_of_wide 4 Tryd.f4 rfl rfl rfl rfl rfl rfl rfl ⟨rfl, rfl, rfl, rfl, rfl⟩ rfl rfl rfl rfl rfl (by kernel_rfl) Tryd.func4 (by kernel_rfl)
    (of_decide_eq_true (by kernel_rfl)) (by unfold Func.isWrapper; first | (rw [if_pos (by decide +kernel)]; kernel_rfl) | (rw [if_neg (by decide +kernel)]; exact ⟨rfl, rfl⟩))
    (fun os started H enc _ => lifted os started H enc)
end LawIntegerParses
theorem integerParses_card_holds : Rows.IntegerParsesCardSaid :=
  Claim7.holds_tied_plain_at .later [] [.data, .data, .data, .sentinel, .sentinel] true (true, "b8e58543a529613f751f62c69502411f664b93e4867ff6487a7340db5e4f00b4") true
    LawIntegerParses.row_holds (fun _ h => by cases h) (by kernel_rfl) (fun _ h => by cases h) integerParses_row_tie rfl ⟨rfl, rfl⟩ (by kernel_rfl) rfl
    (fun f fn hf hfn => by
      obtain rfl : f = 4 := Option.some.inj ((show Tryd.prog.funcNamed "dowel/dowellaw01.IntegerParses" = some 4 by kernel_rfl).symm.trans hf) |>.symm
      obtain rfl : fn = Tryd.f4 := (Option.some.inj (Tryd.func4.symm.trans hfn)).symm
      exact ⟨by kernel_rfl, fun j t ht => by
        rw [Tryd.params4] at ht
        have hm : t ∈ [9] := by simpa using Array.mem_of_getElem? ht
        have hall : ([9].all fun u => !Tryd.prog.wantsStandIn u) = true := by kernel_rfl
        exact (show Tryd.prog.wantsStandIn t = false by simpa using List.all_eq_true.1 hall t hm)⟩)
    (by kernel_rfl)
end Go.Proofs.YtiikfhdmclmjmaaDoor
