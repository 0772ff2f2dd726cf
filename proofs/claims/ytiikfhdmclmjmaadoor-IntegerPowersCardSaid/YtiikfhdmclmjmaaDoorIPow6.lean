/- Part 6 of the proof of IntegerPowers: what the program's functions compute, told as plain functions, and what these answer. Conditions: none beside the statement's own. Gathered by the session's program merge.py out of its own and the printed texts; no declaration that the proof does not name is left in. -/
import Derived.Test.YtiikfhdmclmjmaaDoorIPow5
import Derived.Lib.ItoaNum
import Derived.Laws.BitsLemmas
import Derived.Lib.Repeat
import Derived.Lib.Join
import Derived.Laws.BytesArg
import Derived.Laws.Bits64b
import Derived.Laws.RangeAny
import Derived.KernelRfl
import Derived.Test.YtiikfhdmclmjmaaDoorRows
import Derived.Test.YtiikfhdmclmjmaaDoorTie
import Derived.Test.YtiikfhdmclmjmaaDoorCards
import Derived.WalkKit
import Derived.ProofKit
import Derived.LaidMore
import Derived.LaidLaws
import Derived.OpenShut
import Derived.ShutString
import Derived.ChangeOld
import Derived.Below
import Derived.SizedLaws
import Derived.Stop.Joined
import Derived.Stop.LaidErr
import Derived.Lib.LaidTab
import Derived.MakeChecks
import Derived.Handed
import Derived.SevenTiedAt
namespace Go.Proofs.YtiikfhdmclmjmaaDoor.P
open Go.RowKit Go.Proofs.YtiikfhdmclmjmaaDoorW.PrintWords Go.Proofs.YtiikfhdmclmjmaaDoorW.PrintLast
set_option linter.unusedVariables false
set_option linter.unusedSimpArgs false
mutual
def dowelref01_Mul.l0 : Nat → ByteArray → ByteArray → List Int → List Int → List Int → Int → Option (ByteArray)
 | 0, _, _, _, _, _, _ => none
 | k + 1, x0, x1, x5, x6, x7, x8 => if x8 < (x5.length : Int) then (dowelref01_Mul.l1 k x0 x1 x5 x6 x7 x8 0 0) else ((dowelref01_Sign.f x0).bind fun t543 => ((dowelref01_Sign.f x1).bind fun t544 => ((dowelref01_text.f k (decide ((wrap64 (t543 * t544)) < 0)) x7).bind fun t545 => (some t545))))
def dowelref01_Mul.l1 : Nat → ByteArray → ByteArray → List Int → List Int → List Int → Int → Int → Int → Option (ByteArray)
 | 0, _, _, _, _, _, _, _, _ => none
 | k + 1, x0, x1, x5, x6, x7, x8, x9, x10 => if x10 < (x6.length : Int) then (dowelref01_Mul.j2 k x0 x1 x5 x6 x7 x8 x9 x10 true) else (dowelref01_Mul.j2 k x0 x1 x5 x6 x7 x8 x9 x10 (decide (x9 > 0)))
def dowelref01_Mul.j2 : Nat → ByteArray → ByteArray → List Int → List Int → List Int → Int → Int → Int → Bool → Option (ByteArray)
 | 0, _, _, _, _, _, _, _, _, _ => none
 | k + 1, x0, x1, x5, x6, x7, x8, x9, x10, x36 => if x36 = true then (if 0 ≤ (wrap64 (x8 + x10)) then (if (wrap64 (x8 + x10)) < (x7.length : Int) then (if x10 < (x6.length : Int) then (if 0 ≤ x8 then (if x8 < (x5.length : Int) then (if 0 ≤ x10 then (dowelref01_Mul.l1 k x0 x1 x5 x6 (x7.set ((wrap64 (x8 + x10)) : Int).toNat (Int.tmod (wrap64 ((wrap64 ((rd x7 (wrap64 (x8 + x10))) + x9)) + (wrap64 ((rd x5 x8) * (rd x6 x10))))) 10)) x8 (wrap64 (Int.tdiv (wrap64 ((wrap64 ((rd x7 (wrap64 (x8 + x10))) + x9)) + (wrap64 ((rd x5 x8) * (rd x6 x10))))) 10)) (wrap64 (x10 + 1))) else (none)) else (none)) else (none)) else (dowelref01_Mul.l1 k x0 x1 x5 x6 (x7.set ((wrap64 (x8 + x10)) : Int).toNat (Int.tmod (wrap64 ((rd x7 (wrap64 (x8 + x10))) + x9)) 10)) x8 (wrap64 (Int.tdiv (wrap64 ((rd x7 (wrap64 (x8 + x10))) + x9)) 10)) (wrap64 (x10 + 1)))) else (none)) else (none)) else (dowelref01_Mul.l0 k x0 x1 x5 x6 x7 (wrap64 (x8 + 1)))
end
def dowelref01_Mul.f (k : Nat) (a0 : ByteArray) (a1 : ByteArray) : Option (ByteArray) := (dowelref01_digits.f k a0).bind fun t534 => ((dowelref01_digits.f k a1).bind fun t537 => (if 0 ≤ (wrap64 ((wrap64 ((t534.length : Int) + (t537.length : Int))) + 1)) then (if (wrap64 ((wrap64 ((t534.length : Int) + (t537.length : Int))) + 1) : Int).toNat ≤ 35184372088832 then (dowelref01_Mul.l0 k a0 a1 t534 t537 (List.replicate (wrap64 ((wrap64 ((t534.length : Int) + (t537.length : Int))) + 1) : Int).toNat 0) 0) else (none)) else (none)))
theorem dowelref01_Mul.mono_l : ∀ k, (∀ y0 y1 y2 y3 y4 y5, LeO (dowelref01_Mul.l0 k y0 y1 y2 y3 y4 y5) (dowelref01_Mul.l0 (k + 1) y0 y1 y2 y3 y4 y5)) ∧ (∀ y0 y1 y2 y3 y4 y5 y6 y7, LeO (dowelref01_Mul.l1 k y0 y1 y2 y3 y4 y5 y6 y7) (dowelref01_Mul.l1 (k + 1) y0 y1 y2 y3 y4 y5 y6 y7)) ∧ (∀ y0 y1 y2 y3 y4 y5 y6 y7 y8, LeO (dowelref01_Mul.j2 k y0 y1 y2 y3 y4 y5 y6 y7 y8) (dowelref01_Mul.j2 (k + 1) y0 y1 y2 y3 y4 y5 y6 y7 y8))
 | 0 => ⟨fun _ _ _ _ _ _ r h => by simp [dowelref01_Mul.l0] at h, fun _ _ _ _ _ _ _ _ r h => by simp [dowelref01_Mul.l1] at h, fun _ _ _ _ _ _ _ _ _ r h => by simp [dowelref01_Mul.j2] at h⟩
 | k + 1 => by
  obtain ⟨ih0, ih1, ih2⟩ := dowelref01_Mul.mono_l k
  refine ⟨?_, ?_, ?_⟩
  ·
   intro y0 y1 y2 y3 y4 y5
   unfold dowelref01_Mul.l0
   repeat' first
   | (with_reducible exact ih0 _ _ _ _ _ _)
   | (with_reducible exact ih1 _ _ _ _ _ _ _ _)
   | (with_reducible exact ih2 _ _ _ _ _ _ _ _ _)
   | (with_reducible exact dowelref01_digits.mono _ _)
   | (with_reducible exact dowelref01_text.mono _ _ _)
   | (with_reducible exact LeO.refl _)
   | (with_reducible exact LeO.none _)
   | (with_reducible refine LeO.ite ?_ ?_)
   | (with_reducible refine LeO.bind ?_ (fun _ => ?_))
   | exact ih0 _ _ _ _ _ _
   | exact ih1 _ _ _ _ _ _ _ _
   | exact ih2 _ _ _ _ _ _ _ _ _
   | exact dowelref01_digits.mono _ _
   | exact dowelref01_text.mono _ _ _
   | exact LeO.none _
   | refine LeO.ite ?_ ?_
   | refine LeO.bind ?_ (fun _ => ?_)
  ·
   intro y0 y1 y2 y3 y4 y5 y6 y7
   unfold dowelref01_Mul.l1
   repeat' first
   | (with_reducible exact ih0 _ _ _ _ _ _)
   | (with_reducible exact ih1 _ _ _ _ _ _ _ _)
   | (with_reducible exact ih2 _ _ _ _ _ _ _ _ _)
   | (with_reducible exact dowelref01_digits.mono _ _)
   | (with_reducible exact dowelref01_text.mono _ _ _)
   | (with_reducible exact LeO.refl _)
   | (with_reducible exact LeO.none _)
   | (with_reducible refine LeO.ite ?_ ?_)
   | (with_reducible refine LeO.bind ?_ (fun _ => ?_))
   | exact ih0 _ _ _ _ _ _
   | exact ih1 _ _ _ _ _ _ _ _
   | exact ih2 _ _ _ _ _ _ _ _ _
   | exact dowelref01_digits.mono _ _
   | exact dowelref01_text.mono _ _ _
   | exact LeO.none _
   | refine LeO.ite ?_ ?_
   | refine LeO.bind ?_ (fun _ => ?_)
  ·
   intro y0 y1 y2 y3 y4 y5 y6 y7 y8
   unfold dowelref01_Mul.j2
   repeat' first
   | (with_reducible exact ih0 _ _ _ _ _ _)
   | (with_reducible exact ih1 _ _ _ _ _ _ _ _)
   | (with_reducible exact ih2 _ _ _ _ _ _ _ _ _)
   | (with_reducible exact dowelref01_digits.mono _ _)
   | (with_reducible exact dowelref01_text.mono _ _ _)
   | (with_reducible exact LeO.refl _)
   | (with_reducible exact LeO.none _)
   | (with_reducible refine LeO.ite ?_ ?_)
   | (with_reducible refine LeO.bind ?_ (fun _ => ?_))
   | exact ih0 _ _ _ _ _ _
   | exact ih1 _ _ _ _ _ _ _ _
   | exact ih2 _ _ _ _ _ _ _ _ _
   | exact dowelref01_digits.mono _ _
   | exact dowelref01_text.mono _ _ _
   | exact LeO.none _
   | refine LeO.ite ?_ ?_
   | refine LeO.bind ?_ (fun _ => ?_)
theorem dowelref01_Mul.mono : ∀ a0 a1 k, LeO (dowelref01_Mul.f k a0 a1) (dowelref01_Mul.f (k + 1) a0 a1) := by
 intro a0 a1 k
 obtain ⟨ih0, ih1, ih2⟩ := dowelref01_Mul.mono_l k
 unfold dowelref01_Mul.f
 repeat' first
   | (with_reducible exact ih0 _ _ _ _ _ _)
   | (with_reducible exact ih1 _ _ _ _ _ _ _ _)
   | (with_reducible exact ih2 _ _ _ _ _ _ _ _ _)
   | (with_reducible exact dowelref01_digits.mono _ _)
   | (with_reducible exact dowelref01_text.mono _ _ _)
   | (with_reducible exact LeO.refl _)
   | (with_reducible exact LeO.none _)
   | (with_reducible refine LeO.ite ?_ ?_)
   | (with_reducible refine LeO.bind ?_ (fun _ => ?_))
   | exact ih0 _ _ _ _ _ _
   | exact ih1 _ _ _ _ _ _ _ _
   | exact ih2 _ _ _ _ _ _ _ _ _
   | exact dowelref01_digits.mono _ _
   | exact dowelref01_text.mono _ _ _
   | exact LeO.none _
   | refine LeO.ite ?_ ?_
   | refine LeO.bind ?_ (fun _ => ?_)
set_option maxHeartbeats 8000000 in
set_option maxRecDepth 100000 in
theorem dowelref01_Mul.calls (k : Nat) (a0 : ByteArray) (a1 : ByteArray) (r : ByteArray) (w : World) (h : dowelref01_Mul.f k a0 a1 = some r) :
  Calls Tryd.prog 26 #[.string a0, .string a1] w fun e w' => e = .returned (.string r) ∧ Below w.heap.size w w' := by
 have HB := Aside0.mk (Below.refl w.heap.size w)
 have H : ((dowelref01_digits.f k a0).bind fun t534 => ((dowelref01_digits.f k a1).bind fun t537 => (if 0 ≤ (wrap64 ((wrap64 ((t534.length : Int) + (t537.length : Int))) + 1)) then (if (wrap64 ((wrap64 ((t534.length : Int) + (t537.length : Int))) + 1) : Int).toNat ≤ 35184372088832 then (dowelref01_Mul.l0 k a0 a1 t534 t537 (List.replicate (wrap64 ((wrap64 ((t534.length : Int) + (t537.length : Int))) + 1) : Int).toNat 0) 0) else (none)) else (none)))) = some r := h
 clear h
 replace H := Option.bind_eq_some_iff.mp H
 obtain ⟨t534, A30, H⟩ := H
 replace H : ((dowelref01_digits.f k a1).bind fun t537 => (if 0 ≤ (wrap64 ((wrap64 ((t534.length : Int) + (t537.length : Int))) + 1)) then (if (wrap64 ((wrap64 ((t534.length : Int) + (t537.length : Int))) + 1) : Int).toNat ≤ 35184372088832 then (dowelref01_Mul.l0 k a0 a1 t534 t537 (List.replicate (wrap64 ((wrap64 ((t534.length : Int) + (t537.length : Int))) + 1) : Int).toNat 0) 0) else (none)) else (none))) = some r := H
 have A3 := Aside0.mk A30
 clear A30
 replace H := Option.bind_eq_some_iff.mp H
 obtain ⟨t537, A40, H⟩ := H
 replace H : (if 0 ≤ (wrap64 ((wrap64 ((t534.length : Int) + (t537.length : Int))) + 1)) then (if (wrap64 ((wrap64 ((t534.length : Int) + (t537.length : Int))) + 1) : Int).toNat ≤ 35184372088832 then (dowelref01_Mul.l0 k a0 a1 t534 t537 (List.replicate (wrap64 ((wrap64 ((t534.length : Int) + (t537.length : Int))) + 1) : Int).toNat 0) 0) else (none)) else (none)) = some r := H
 have A4 := Aside0.mk A40
 clear A40
 obtain ⟨ji5, hji5⟩ : ∃ j_ : Int, (wrap64 ((wrap64 ((t534.length : Int) + (t537.length : Int))) + 1)) = j_ := ⟨_, rfl⟩
 replace H : (if 0 ≤ (ji5) then (if (ji5 : Int).toNat ≤ 35184372088832 then (dowelref01_Mul.l0 k a0 a1 t534 t537 (List.replicate (ji5 : Int).toNat 0) 0) else (none)) else (none)) = some r := by first | (rw [hji5] at H; exact H) | (simp only [hji5] at H ⊢; exact H)
 (try rw [hji5] at A3)
 (try rw [hji5] at A4)
 have hji5w : (IntKind.i64.wrap ((wrap64 ((t534.length : Int) + (t537.length : Int))) + 1)) = ji5 := (i64_w _).trans hji5
 by_cases c6 : 0 ≤ (ji5)
 ·
  rw [if_pos c6] at H
  have c6b0 := eq_true c6
  have c6b1 : decide (0 ≤ (ji5)) = true := decide_eq_true c6
  clear c6
  by_cases c7 : (ji5 : Int).toNat ≤ 35184372088832
  ·
   rw [if_pos c7] at H
   have c7b0 := eq_true c7
   have c7b1 : decide ((ji5 : Int).toNat ≤ 35184372088832) = true := decide_eq_true c7
   clear c7
   obtain ⟨y540, hy540⟩ : ∃ y_ : List Int, y_ = (List.replicate (ji5 : Int).toNat 0) := ⟨_, rfl⟩
   replace H : (dowelref01_Mul.l0 k a0 a1 t534 t537 y540 0) = some r := by first | (rw [hy540]; with_reducible exact H) | (have H2_ := (Option.bind_some _ _).symm.trans H; rw [hy540]; with_reducible exact H2_) | (have H2_ := (Option.bind_some _ _).symm.trans H; with_reducible exact H2_) | with_reducible exact H | (rw [hy540]; exact H) | exact H
   have Ny540 := Aside0.mk hy540
   clear hy540
   have H' := Aside0.mk H
   clear H
   go_enter Tryd.func26, Tryd.ntmps26
   go_wp2_with (first | (go_at_call 58; (with_reducible refine (dowelref01_digits.calls k a0 t534 _ A3.out).mono ?_); rintro e w8 ⟨v535, rfl, ho0, hb⟩; have n0_ := Aside0.mk (Kd.R_lower ho0 (below_size (by repeat (first | (with_reducible first | exact HB.out | apply below_alloc | apply pw_below_drewN | apply below_drew1) | exact HB.out)))); have n1_ := Aside0.mk (below_step (by repeat (first | (with_reducible first | exact HB.out | apply below_alloc | apply pw_below_drewN | apply below_drew1) | exact HB.out)) hb); clear HB; have HO536 := n0_; have HB := n1_; clear n0_ n1_; (try clear hb); (try clear hb2); (try clear hk); (try clear hi); (try clear ho0)) | (go_at_call 58; (with_reducible refine (dowelref01_digits.calls k a1 t537 _ A4.out).mono ?_); rintro e w9 ⟨v538, rfl, ho0, hb⟩; have n0_ := Aside0.mk (Kd.R_elder' (by (with_reducible repeat (first | apply Kd.R_alloc | apply Kd.R_drewN | apply Kd.R_drew)); exact HO536.out) (Kd.R_base ho0) hb); have n1_ := Aside0.mk (Kd.R_lower (Kd.R_new' ho0 (Kd.R_lt (by (with_reducible repeat (first | apply Kd.R_alloc | apply Kd.R_drewN | apply Kd.R_drew)); exact HO536.out))) (below_size (by repeat (first | (with_reducible first | exact HB.out | apply below_alloc | apply pw_below_drewN | apply below_drew1) | exact HB.out)))); have n2_ := Aside0.mk (below_step (by repeat (first | (with_reducible first | exact HB.out | apply below_alloc | apply pw_below_drewN | apply below_drew1) | exact HB.out)) hb); clear HO536; clear HB; have HO536 := n0_; have HO539 := n1_; have HB := n2_; clear n0_ n1_ n2_; (try clear hb); (try clear hb2); (try clear hk); (try clear hi); (try clear ho0); obtain ⟨Ao10, co10, eo10⟩ := Kd.R_slice HO536.out; subst eo10; obtain ⟨Ao11, co11, eo11⟩ := Kd.R_slice HO539.out; subst eo11) | ((with_reducible refine gate_dst (N := 22) rfl ?_); refine Kd.R_make (Kd.int .i64) _ 3 rfl (N := 22) rfl 67 _ _ rfl ji5 rfl rfl Tryd.underlying67 (.int .i64 0) 8 info3 rfl (by decide) (by omega) 0 (ok := fun _ => True) (okp := fun _ => True) rfl (fun _ hk => hk) trivial (of_decide_eq_true (by assumption)) (Nat.le_trans (Nat.mul_le_mul_right _ (of_decide_eq_true (by assumption) : ji5.toNat ≤ 35184372088832)) (by omega)) (Below.refl _ _) (Nat.le_refl _) ?_; intro v541 w12 ho13 hb hg_ hnew_; clear hg_ hnew_; (first | rw [← Ny540.out] at ho13 | (simp only [Int.reduceToNat] at ho13; rw [← Ny540.out] at ho13)); have n0_ := Aside0.mk (Kd.R_elder' (by (with_reducible repeat (first | apply Kd.R_alloc | apply Kd.R_drewN | apply Kd.R_drew)); exact HO536.out) (Kd.R_base ho13) hb); have n1_ := Aside0.mk (Kd.R_elder' (by (with_reducible repeat (first | apply Kd.R_alloc | apply Kd.R_drewN | apply Kd.R_drew)); exact HO539.out) (Kd.R_base ho13) hb); have n2_ := Aside0.mk (Kd.R_lower (Kd.R_new' (Kd.R_new' ho13 (Kd.R_lt (by (with_reducible repeat (first | apply Kd.R_alloc | apply Kd.R_drewN | apply Kd.R_drew)); exact HO536.out))) (Kd.R_lt (by (with_reducible repeat (first | apply Kd.R_alloc | apply Kd.R_drewN | apply Kd.R_drew)); exact HO539.out))) (below_size (by repeat (first | (with_reducible first | exact HB.out | apply below_alloc | apply pw_below_drewN | apply below_drew1) | exact HB.out)))); have n3_ := Aside0.mk (below_step (by repeat (first | (with_reducible first | exact HB.out | apply below_alloc | apply pw_below_drewN | apply below_drew1) | exact HB.out)) hb); clear HO536; clear HO539; clear HB; have HO536 := n0_; have HO539 := n1_; have HO542 := n2_; have HB := n3_; clear n0_ n1_ n2_ n3_; clear hb ho13))
   go_loopg [8] k (fun kq v8 w' => ∃ (x7_1 : List Int) (x8_1 : Int), v8 = .int .i64 x8_1 ∧ Aside0 (dowelref01_Mul.l0 kq a0 a1 t534 t537 x7_1 x8_1 = some r) ∧ Aside0 (kq ≤ k) ∧ Aside0 (Kd.R (Kd.int .i64) 3 w' w.heap.size (fun k_ => some k_ ≠ ((.slice Ao11 t537.length co11) : Value).ownBlock ∧ some k_ ≠ (v541 : Value).ownBlock) (.slice Ao10 t534.length co10) t534) ∧ Aside0 (Kd.R (Kd.int .i64) 3 w' w.heap.size (fun k_ => some k_ ≠ ((.slice Ao10 t534.length co10) : Value).ownBlock ∧ some k_ ≠ (v541 : Value).ownBlock) (.slice Ao11 t537.length co11) t537) ∧ Aside0 (Kd.R (Kd.int .i64) 3 w' w.heap.size (fun k_ => some k_ ≠ ((.slice Ao10 t534.length co10) : Value).ownBlock ∧ some k_ ≠ ((.slice Ao11 t537.length co11) : Value).ownBlock) v541 x7_1) ∧ Aside0 (Below w.heap.size w w'))
   case atStart => exact ⟨(y540), (0), (by first | rfl | (simp; done) | (simp [*]; done) | (simp <;> omega)), H', ⟨Nat.le_refl _⟩, ⟨by (with_reducible repeat (first | apply Kd.R_alloc | apply Kd.R_drewN | apply Kd.R_drew)); exact Kd.R_mono HO536.out (fun _ hk => ⟨hk.1.2, hk.2⟩)⟩, ⟨by (with_reducible repeat (first | apply Kd.R_alloc | apply Kd.R_drewN | apply Kd.R_drew)); exact Kd.R_mono HO539.out (fun _ hk => ⟨hk.1.2, hk.2⟩)⟩, ⟨by (with_reducible repeat (first | apply Kd.R_alloc | apply Kd.R_drewN | apply Kd.R_drew)); exact Kd.R_mono HO542.out (fun _ hk => ⟨hk.1.2, hk.2⟩)⟩, ⟨by repeat (first | (with_reducible first | exact HB.out | apply below_alloc | apply pw_below_drewN | apply below_drew1) | exact HB.out)⟩⟩
   case round =>
    clear H'
    try clear c2
    try clear p2
    try clear c6
    try clear c6b0
    try clear c6b1
    try clear p6
    try clear c7
    try clear c7b0
    try clear c7b1
    obtain ⟨x7_1, x8_1, rfl, HA, HK1, HO_5, HO_6, HO_7, HB⟩ := hrel
    cases gk with
    | zero => exact absurd HA.out (by simp [dowelref01_Mul.l0])
    | succ k1 =>
     have H := HA.out
     clear HA
     simp only [dowelref01_Mul.l0] at H
     by_cases c14 : x8_1 < (t534.length : Int)
     ·
      rw [if_pos c14] at H
      have c14b0 : decide (x8_1 < (t534.length : Int)) = true := decide_eq_true c14
      clear c14
      have H' := Aside0.mk H
      clear H
      go_wp2
      repeat (go_quiet (fail); try go_wp2)
      go_loopg [9, 10] k1 (fun kq v9 v10 w' => ∃ (x7_2 : List Int) (x9_2 : Int) (x10_2 : Int), v9 = .int .i64 x9_2 ∧ v10 = .int .i64 x10_2 ∧ Aside0 (dowelref01_Mul.l1 kq a0 a1 t534 t537 x7_2 x8_1 x9_2 x10_2 = some r) ∧ Aside0 (kq ≤ k1) ∧ Aside0 (Kd.R (Kd.int .i64) 3 w' w.heap.size (fun k_ => some k_ ≠ ((.slice Ao11 t537.length co11) : Value).ownBlock ∧ some k_ ≠ (v541 : Value).ownBlock) (.slice Ao10 t534.length co10) t534) ∧ Aside0 (Kd.R (Kd.int .i64) 3 w' w.heap.size (fun k_ => some k_ ≠ ((.slice Ao10 t534.length co10) : Value).ownBlock ∧ some k_ ≠ (v541 : Value).ownBlock) (.slice Ao11 t537.length co11) t537) ∧ Aside0 (Kd.R (Kd.int .i64) 3 w' w.heap.size (fun k_ => some k_ ≠ ((.slice Ao10 t534.length co10) : Value).ownBlock ∧ some k_ ≠ ((.slice Ao11 t537.length co11) : Value).ownBlock) v541 x7_2) ∧ Aside0 (Below w.heap.size w w'))
      case atStart => exact ⟨(x7_1), (0), (0), (by first | rfl | (simp; done) | (simp [*]; done) | (simp <;> omega)), (by first | rfl | (simp; done) | (simp [*]; done) | (simp <;> omega)), H', ⟨Nat.le_refl _⟩, ⟨by (with_reducible repeat (first | apply Kd.R_alloc | apply Kd.R_drewN | apply Kd.R_drew)); exact HO_5.out⟩, ⟨by (with_reducible repeat (first | apply Kd.R_alloc | apply Kd.R_drewN | apply Kd.R_drew)); exact HO_6.out⟩, ⟨by (with_reducible repeat (first | apply Kd.R_alloc | apply Kd.R_drewN | apply Kd.R_drew)); exact HO_7.out⟩, ⟨by repeat (first | (with_reducible first | exact HB.out | apply below_alloc | apply pw_below_drewN | apply below_drew1) | exact HB.out)⟩⟩
      case round =>
       clear H'
       try clear c1
       try clear c2
       try clear p2
       try clear c6
       try clear c6b0
       try clear c6b1
       try clear p6
       try clear c7
       try clear c7b0
       try clear c7b1
       try clear c14
       try clear c14b0
       try clear p2
       try clear p6
       obtain ⟨x7_2, x9_2, x10_2, rfl, rfl, HA, HK2, HO_5, HO_6, HO_7, HB⟩ := hrel
       cases gk with
       | zero => exact absurd HA.out (by simp [dowelref01_Mul.l1])
       | succ k2 =>
        have H := HA.out
        clear HA
        simp only [dowelref01_Mul.l1] at H
        have HC15 := Aside0.mk H
        clear H
        go_upto_region 8 with (fail)
        repeat (go_quiet (fail); go_upto_region 8 with (fail))
        go_cut [36] (fun v36 wc => ∃ (kq : Nat) (x36_14 : Bool), v36 = .bool x36_14 ∧ Aside0 (dowelref01_Mul.j2 kq a0 a1 t534 t537 x7_2 x8_1 x9_2 x10_2 x36_14 = some r) ∧ Aside0 (kq ≤ k2) ∧ Aside0 (Kd.R (Kd.int .i64) 3 wc w.heap.size (fun k_ => some k_ ≠ ((.slice Ao11 t537.length co11) : Value).ownBlock ∧ some k_ ≠ (v541 : Value).ownBlock) (.slice Ao10 t534.length co10) t534) ∧ Aside0 (Kd.R (Kd.int .i64) 3 wc w.heap.size (fun k_ => some k_ ≠ ((.slice Ao10 t534.length co10) : Value).ownBlock ∧ some k_ ≠ (v541 : Value).ownBlock) (.slice Ao11 t537.length co11) t537) ∧ Aside0 (Kd.R (Kd.int .i64) 3 wc w.heap.size (fun k_ => some k_ ≠ ((.slice Ao10 t534.length co10) : Value).ownBlock ∧ some k_ ≠ ((.slice Ao11 t537.length co11) : Value).ownBlock) v541 x7_2) ∧ Aside0 (Below w.heap.size w wc))
        case first =>
         have H := HC15.out
         clear HC15
         by_cases c16 : x10_2 < (t537.length : Int)
         ·
          rw [if_pos c16] at H
          have c16b0 : decide (x10_2 < (t537.length : Int)) = true := decide_eq_true c16
          clear c16
          (first | rw [c16b0] | (simp only [i64_w, i32_w]; rw [c16b0]) | skip)
          have H' := Aside0.mk H
          clear H
          go_wp2
          repeat (go_quiet (fail); try go_wp2)
          go_meet
          case rel => exact ⟨_, (true), (by first | rfl | (simp; done) | (simp [*]; done) | (simp <;> omega)), H', ⟨by have := HK1.out; have := HK2.out; first | omega | exact Nat.le_refl _⟩, ⟨by (with_reducible repeat (first | apply Kd.R_alloc | apply Kd.R_drewN | apply Kd.R_drew)); exact HO_5.out⟩, ⟨by (with_reducible repeat (first | apply Kd.R_alloc | apply Kd.R_drewN | apply Kd.R_drew)); exact HO_6.out⟩, ⟨by (with_reducible repeat (first | apply Kd.R_alloc | apply Kd.R_drewN | apply Kd.R_drew)); exact HO_7.out⟩, ⟨by repeat (first | (with_reducible first | exact HB.out | apply below_alloc | apply pw_below_drewN | apply below_drew1) | exact HB.out)⟩⟩
         ·
          rw [if_neg c16] at H
          have c16b0 : decide (x10_2 < (t537.length : Int)) = false := decide_eq_false c16
          clear c16
          (first | rw [c16b0] | (simp only [i64_w, i32_w]; rw [c16b0]) | skip)
          have H' := Aside0.mk H
          clear H
          go_wp2
          repeat (go_quiet (fail); try go_wp2)
          go_meet
          case rel => exact ⟨_, (decide (x9_2 > 0)), (by first | rfl | (simp; done) | (simp [*]; done) | (simp <;> omega)), H', ⟨by have := HK1.out; have := HK2.out; first | omega | exact Nat.le_refl _⟩, ⟨by (with_reducible repeat (first | apply Kd.R_alloc | apply Kd.R_drewN | apply Kd.R_drew)); exact HO_5.out⟩, ⟨by (with_reducible repeat (first | apply Kd.R_alloc | apply Kd.R_drewN | apply Kd.R_drew)); exact HO_6.out⟩, ⟨by (with_reducible repeat (first | apply Kd.R_alloc | apply Kd.R_drewN | apply Kd.R_drew)); exact HO_7.out⟩, ⟨by repeat (first | (with_reducible first | exact HB.out | apply below_alloc | apply pw_below_drewN | apply below_drew1) | exact HB.out)⟩⟩
        case rest =>
         clear HC15
         try clear c1
         try clear c2
         try clear p2
         try clear c6
         try clear c6b0
         try clear c6b1
         try clear p6
         try clear c7
         try clear c7b0
         try clear c7b1
         try clear c14
         try clear c14b0
         try clear c16
         try clear c16b0
         try clear p2
         try clear p6
         obtain ⟨kq, x36_14, rfl, HA, HJ14, HO_5, HO_6, HO_7, HB⟩ := hcut
         cases kq with
         | zero => exact absurd HA.out (by simp [dowelref01_Mul.j2])
         | succ kj14 =>
          have H := HA.out
          clear HA
          simp only [dowelref01_Mul.j2] at H
          by_cases c17 : x36_14 = true
          ·
           subst c17
           have H1 : (if 0 ≤ (wrap64 (x8_1 + x10_2)) then (if (wrap64 (x8_1 + x10_2)) < (x7_2.length : Int) then (if x10_2 < (t537.length : Int) then (if 0 ≤ x8_1 then (if x8_1 < (t534.length : Int) then (if 0 ≤ x10_2 then (dowelref01_Mul.l1 kj14 a0 a1 t534 t537 (x7_2.set ((wrap64 (x8_1 + x10_2)) : Int).toNat (Int.tmod (wrap64 ((wrap64 ((rd x7_2 (wrap64 (x8_1 + x10_2))) + x9_2)) + (wrap64 ((rd t534 x8_1) * (rd t537 x10_2))))) 10)) x8_1 (wrap64 (Int.tdiv (wrap64 ((wrap64 ((rd x7_2 (wrap64 (x8_1 + x10_2))) + x9_2)) + (wrap64 ((rd t534 x8_1) * (rd t537 x10_2))))) 10)) (wrap64 (x10_2 + 1))) else (none)) else (none)) else (none)) else (dowelref01_Mul.l1 kj14 a0 a1 t534 t537 (x7_2.set ((wrap64 (x8_1 + x10_2)) : Int).toNat (Int.tmod (wrap64 ((rd x7_2 (wrap64 (x8_1 + x10_2))) + x9_2)) 10)) x8_1 (wrap64 (Int.tdiv (wrap64 ((rd x7_2 (wrap64 (x8_1 + x10_2))) + x9_2)) 10)) (wrap64 (x10_2 + 1)))) else (none)) else (none)) = some r := by rw [if_pos rfl] at H; exact H
           clear H
           have H := H1
           clear H1
           obtain ⟨ji18, hji18⟩ : ∃ j_ : Int, (wrap64 (x8_1 + x10_2)) = j_ := ⟨_, rfl⟩
           replace H : (if 0 ≤ (ji18) then (if (ji18) < (x7_2.length : Int) then (if x10_2 < (t537.length : Int) then (if 0 ≤ x8_1 then (if x8_1 < (t534.length : Int) then (if 0 ≤ x10_2 then (dowelref01_Mul.l1 kj14 a0 a1 t534 t537 (x7_2.set ((ji18) : Int).toNat (Int.tmod (wrap64 ((wrap64 ((rd x7_2 (ji18)) + x9_2)) + (wrap64 ((rd t534 x8_1) * (rd t537 x10_2))))) 10)) x8_1 (wrap64 (Int.tdiv (wrap64 ((wrap64 ((rd x7_2 (ji18)) + x9_2)) + (wrap64 ((rd t534 x8_1) * (rd t537 x10_2))))) 10)) (wrap64 (x10_2 + 1))) else (none)) else (none)) else (none)) else (dowelref01_Mul.l1 kj14 a0 a1 t534 t537 (x7_2.set ((ji18) : Int).toNat (Int.tmod (wrap64 ((rd x7_2 (ji18)) + x9_2)) 10)) x8_1 (wrap64 (Int.tdiv (wrap64 ((rd x7_2 (ji18)) + x9_2)) 10)) (wrap64 (x10_2 + 1)))) else (none)) else (none)) = some r := by first | (rw [hji18] at H; exact H) | (simp only [hji18] at H ⊢; exact H)
           have hji18w : (IntKind.i64.wrap (x8_1 + x10_2)) = ji18 := (i64_w _).trans hji18
           by_cases c19 : 0 ≤ (ji18)
           ·
            rw [if_pos c19] at H
            have c19b0 : decide (0 ≤ (ji18)) = true := decide_eq_true c19
            clear c19
            by_cases c20 : (ji18) < (x7_2.length : Int)
            ·
             rw [if_pos c20] at H
             have c20b0 : decide ((ji18) < (x7_2.length : Int)) = true := decide_eq_true c20
             clear c20
             by_cases c21 : x10_2 < (t537.length : Int)
             ·
              rw [if_pos c21] at H
              have c21b0 : decide (x10_2 < (t537.length : Int)) = true := decide_eq_true c21
              clear c21
              by_cases c22 : 0 ≤ x8_1
              ·
               rw [if_pos c22] at H
               have c22b0 : decide (0 ≤ x8_1) = true := decide_eq_true c22
               clear c22
               by_cases c23 : x8_1 < (t534.length : Int)
               ·
                rw [if_pos c23] at H
                have c23b0 : decide (x8_1 < (t534.length : Int)) = true := decide_eq_true c23
                clear c23
                by_cases c24 : 0 ≤ x10_2
                ·
                 rw [if_pos c24] at H
                 have c24b0 : decide (0 ≤ x10_2) = true := decide_eq_true c24
                 clear c24
                 obtain ⟨y549, hy549⟩ : ∃ y_ : List Int, y_ = (x7_2.set ((ji18) : Int).toNat (Int.tmod (wrap64 ((wrap64 ((rd x7_2 (ji18)) + x9_2)) + (wrap64 ((rd t534 x8_1) * (rd t537 x10_2))))) 10)) := ⟨_, rfl⟩
                 replace H : (dowelref01_Mul.l1 kj14 a0 a1 t534 t537 y549 x8_1 (wrap64 (Int.tdiv (wrap64 ((wrap64 ((rd x7_2 (ji18)) + x9_2)) + (wrap64 ((rd t534 x8_1) * (rd t537 x10_2))))) 10)) (wrap64 (x10_2 + 1))) = some r := by first | (rw [hy549]; with_reducible exact H) | (have H2_ := (Option.bind_some _ _).symm.trans H; rw [hy549]; with_reducible exact H2_) | (have H2_ := (Option.bind_some _ _).symm.trans H; with_reducible exact H2_) | with_reducible exact H | (rw [hy549]; exact H) | exact H
                 have Ny549 := Aside0.mk hy549
                 clear hy549
                 have H' := Aside0.mk H
                 clear H
                 obtain ⟨Ao26, co26, eo26⟩ := Kd.R_slice HO_7.out
                 subst eo26
                 have p546 : 0 ≤ ((ji18) : Int) := of_decide_eq_true (by assumption)
                 have q546 : (ji18) < (x7_2.length : Int) := of_decide_eq_true (by assumption)
                 obtain ⟨ad546, e546, hx546_0⟩ := Kd.at_int (Kd.R_reads' HO_7.out).2.2 (ji18) p546 q546
                 cases e546
                 replace p546 := eq_true p546
                 replace q546 := eq_true q546
                 have p547 : 0 ≤ (x8_1 : Int) := of_decide_eq_true (by assumption)
                 have q547 : x8_1 < (t534.length : Int) := of_decide_eq_true (by assumption)
                 obtain ⟨ad547, e547, hx547_0⟩ := Kd.at_int (Kd.R_reads' HO_5.out).2.2 x8_1 p547 q547
                 cases e547
                 replace p547 := eq_true p547
                 replace q547 := eq_true q547
                 have p548 : 0 ≤ (x10_2 : Int) := of_decide_eq_true (by assumption)
                 have q548 : x10_2 < (t537.length : Int) := of_decide_eq_true (by assumption)
                 obtain ⟨ad548, e548, hx548_0⟩ := Kd.at_int (Kd.R_reads' HO_6.out).2.2 x10_2 p548 q548
                 cases e548
                 replace p548 := eq_true p548
                 replace q548 := eq_true q548
                 have p25 : 0 ≤ ((ji18) : Int) := of_decide_eq_true (by assumption)
                 have q25 : ((ji18) : Int) < ((x7_2.length : Int) : Int) := of_decide_eq_true (by assumption)
                 obtain ⟨go25, co25, eo25, gb25, gl25, cl25, HG25⟩ := Kd.R_form HO_7.out (by omega)
                 (first | cases eo25 | (injection eo25 with ea_ en_ ec_; (first | subst ea_ | (injection ea_ with ea_; subst ea_)); subst ec_; clear en_))
                 have GB25 := Aside0.mk gb25
                 have GG25 := Aside0.mk HG25
                 clear gb25 gl25 HG25
                 (first | simp only [add_plain] at hx546_0 | skip)
                 obtain ⟨hx25_0, hf25_0⟩ := Kd.R_celln 0 HO_7.out ((ji18) : Int) p25 q25
                 replace p25 := eq_true p25
                 replace q25 := eq_true q25
                 have HP27 := Kd.R_putg HO_7.out ((ji18) : Int) (Int.tmod (wrap64 ((wrap64 ((rd x7_2 (ji18)) + x9_2)) + (wrap64 ((rd t534 x8_1) * (rd t537 x10_2))))) 10)
                 go_wp2_with (first | ((with_reducible refine gate_store (t := 3) (p := 68) rfl ?_); (try (rw [drewN_self wc]; generalize hq_ : World.drewN wc _ = wc; have n0_ := Aside0.mk (Kd.R_at hq_ HO_5.out); have n1_ := Aside0.mk (Kd.R_at hq_ HO_6.out); have n2_ := Aside0.mk (Kd.R_at hq_ HO_7.out); have n3_ := Aside0.mk (below_at hq_ HB.out); clear hq_ HO_5 HO_6 HO_7 HB; have HO_5 := n0_; have HO_6 := n1_; have HO_7 := n2_; have HB := n3_; clear n0_ n1_ n2_ n3_; (try (obtain ⟨hx25_0, hf25_0⟩ := Kd.R_celln 0 HO_7.out ((ji18) : Int) (of_eq_true p25) (of_eq_true q25); (try simp only [Go.IntWalk.toNatUp] at hx25_0 hf25_0))); (try (have HP27 := Kd.R_putg HO_7.out ((ji18) : Int) (Int.tmod (wrap64 ((wrap64 ((rd x7_2 (ji18)) + x9_2)) + (wrap64 ((rd t534 x8_1) * (rd t537 x10_2))))) 10))))); refine store_event (t := 3) (p := 68) (v := ?vo_w28) (w1 := (wc.setCell ⟨go25, ((ji18) : Int).toNat, none⟩ (.int .i64 (Int.tmod (wrap64 ((wrap64 ((rd x7_2 (ji18)) + x9_2)) + (wrap64 ((rd t534 x8_1) * (rd t537 x10_2))))) 10)))) ?hg ?ho ?hn ?hr ?_; (case ho => rfl); (case hg => rfl); (case hn => rfl); (case hr => first | (go_simp; done) | (go_simp; rfl)); intro w28 hw; have hg : wc.grownBy w28 (some go25) := (by rw [hw]; exact HP27.2); have hp_ : Kd.R (Kd.int .i64) 3 w28 w.heap.size (fun k_ => some k_ ≠ (.slice (some ad547) t534.length co10 : Value).ownBlock ∧ some k_ ≠ (.slice (some ad548) t537.length co11 : Value).ownBlock) (.slice (some ⟨go25, 0, none⟩) x7_2.length co26) y549 := (by rw [hw, Ny549.out]; exact HP27.1); clear HP27; have n0_ := Aside0.mk (Kd.R_after (v := (.slice (some ⟨go25, 0, none⟩) x7_2.length co26)) (v1 := (.slice (some ⟨go25, 0, none⟩) x7_2.length co26)) (ok := (fun k_ => some k_ ≠ (.slice (some ad548) t537.length co11 : Value).ownBlock)) (by (with_reducible repeat (first | apply Kd.R_alloc | apply Kd.R_drewN | apply Kd.R_drew)); exact HO_5.out) hg (.inl rfl)); have n1_ := Aside0.mk (Kd.R_after (v := (.slice (some ⟨go25, 0, none⟩) x7_2.length co26)) (v1 := (.slice (some ⟨go25, 0, none⟩) x7_2.length co26)) (ok := (fun k_ => some k_ ≠ (.slice (some ad547) t534.length co10 : Value).ownBlock)) (by (with_reducible repeat (first | apply Kd.R_alloc | apply Kd.R_drewN | apply Kd.R_drew)); exact HO_6.out) hg (.inl rfl)); have n2_ := Aside0.mk (hp_); have n3_ := Aside0.mk ((by rw [hw]; exact below_set (HB.out) GB25.out : Below w.heap.size w w28)); clear HO_5; clear HO_6; clear HO_7; clear HB; have HO_5 := n0_; have HO_6 := n1_; have HO_7 := n2_; have HB := n3_; clear n0_ n1_ n2_ n3_; clear hg hw hp_))
                 repeat (go_quiet (first | ((with_reducible refine gate_store (t := 3) (p := 68) rfl ?_); (try (rw [drewN_self wc]; generalize hq_ : World.drewN wc _ = wc; have n0_ := Aside0.mk (Kd.R_at hq_ HO_5.out); have n1_ := Aside0.mk (Kd.R_at hq_ HO_6.out); have n2_ := Aside0.mk (Kd.R_at hq_ HO_7.out); have n3_ := Aside0.mk (below_at hq_ HB.out); clear hq_ HO_5 HO_6 HO_7 HB; have HO_5 := n0_; have HO_6 := n1_; have HO_7 := n2_; have HB := n3_; clear n0_ n1_ n2_ n3_; (try (obtain ⟨hx25_0, hf25_0⟩ := Kd.R_celln 0 HO_7.out ((ji18) : Int) (of_eq_true p25) (of_eq_true q25); (try simp only [Go.IntWalk.toNatUp] at hx25_0 hf25_0))); (try (have HP27 := Kd.R_putg HO_7.out ((ji18) : Int) (Int.tmod (wrap64 ((wrap64 ((rd x7_2 (ji18)) + x9_2)) + (wrap64 ((rd t534 x8_1) * (rd t537 x10_2))))) 10))))); refine store_event (t := 3) (p := 68) (v := ?vo_w28) (w1 := (wc.setCell ⟨go25, ((ji18) : Int).toNat, none⟩ (.int .i64 (Int.tmod (wrap64 ((wrap64 ((rd x7_2 (ji18)) + x9_2)) + (wrap64 ((rd t534 x8_1) * (rd t537 x10_2))))) 10)))) ?hg ?ho ?hn ?hr ?_; (case ho => rfl); (case hg => rfl); (case hn => rfl); (case hr => first | (go_simp; done) | (go_simp; rfl)); intro w28 hw; have hg : wc.grownBy w28 (some go25) := (by rw [hw]; exact HP27.2); have hp_ : Kd.R (Kd.int .i64) 3 w28 w.heap.size (fun k_ => some k_ ≠ (.slice (some ad547) t534.length co10 : Value).ownBlock ∧ some k_ ≠ (.slice (some ad548) t537.length co11 : Value).ownBlock) (.slice (some ⟨go25, 0, none⟩) x7_2.length co26) y549 := (by rw [hw, Ny549.out]; exact HP27.1); clear HP27; have n0_ := Aside0.mk (Kd.R_after (v := (.slice (some ⟨go25, 0, none⟩) x7_2.length co26)) (v1 := (.slice (some ⟨go25, 0, none⟩) x7_2.length co26)) (ok := (fun k_ => some k_ ≠ (.slice (some ad548) t537.length co11 : Value).ownBlock)) (by (with_reducible repeat (first | apply Kd.R_alloc | apply Kd.R_drewN | apply Kd.R_drew)); exact HO_5.out) hg (.inl rfl)); have n1_ := Aside0.mk (Kd.R_after (v := (.slice (some ⟨go25, 0, none⟩) x7_2.length co26)) (v1 := (.slice (some ⟨go25, 0, none⟩) x7_2.length co26)) (ok := (fun k_ => some k_ ≠ (.slice (some ad547) t534.length co10 : Value).ownBlock)) (by (with_reducible repeat (first | apply Kd.R_alloc | apply Kd.R_drewN | apply Kd.R_drew)); exact HO_6.out) hg (.inl rfl)); have n2_ := Aside0.mk (hp_); have n3_ := Aside0.mk ((by rw [hw]; exact below_set (HB.out) GB25.out : Below w.heap.size w w28)); clear HO_5; clear HO_6; clear HO_7; clear HB; have HO_5 := n0_; have HO_6 := n1_; have HO_7 := n2_; have HB := n3_; clear n0_ n1_ n2_ n3_; clear hg hw hp_)); try go_wp2_with (first | ((with_reducible refine gate_store (t := 3) (p := 68) rfl ?_); (try (rw [drewN_self wc]; generalize hq_ : World.drewN wc _ = wc; have n0_ := Aside0.mk (Kd.R_at hq_ HO_5.out); have n1_ := Aside0.mk (Kd.R_at hq_ HO_6.out); have n2_ := Aside0.mk (Kd.R_at hq_ HO_7.out); have n3_ := Aside0.mk (below_at hq_ HB.out); clear hq_ HO_5 HO_6 HO_7 HB; have HO_5 := n0_; have HO_6 := n1_; have HO_7 := n2_; have HB := n3_; clear n0_ n1_ n2_ n3_; (try (obtain ⟨hx25_0, hf25_0⟩ := Kd.R_celln 0 HO_7.out ((ji18) : Int) (of_eq_true p25) (of_eq_true q25); (try simp only [Go.IntWalk.toNatUp] at hx25_0 hf25_0))); (try (have HP27 := Kd.R_putg HO_7.out ((ji18) : Int) (Int.tmod (wrap64 ((wrap64 ((rd x7_2 (ji18)) + x9_2)) + (wrap64 ((rd t534 x8_1) * (rd t537 x10_2))))) 10))))); refine store_event (t := 3) (p := 68) (v := ?vo_w28) (w1 := (wc.setCell ⟨go25, ((ji18) : Int).toNat, none⟩ (.int .i64 (Int.tmod (wrap64 ((wrap64 ((rd x7_2 (ji18)) + x9_2)) + (wrap64 ((rd t534 x8_1) * (rd t537 x10_2))))) 10)))) ?hg ?ho ?hn ?hr ?_; (case ho => rfl); (case hg => rfl); (case hn => rfl); (case hr => first | (go_simp; done) | (go_simp; rfl)); intro w28 hw; have hg : wc.grownBy w28 (some go25) := (by rw [hw]; exact HP27.2); have hp_ : Kd.R (Kd.int .i64) 3 w28 w.heap.size (fun k_ => some k_ ≠ (.slice (some ad547) t534.length co10 : Value).ownBlock ∧ some k_ ≠ (.slice (some ad548) t537.length co11 : Value).ownBlock) (.slice (some ⟨go25, 0, none⟩) x7_2.length co26) y549 := (by rw [hw, Ny549.out]; exact HP27.1); clear HP27; have n0_ := Aside0.mk (Kd.R_after (v := (.slice (some ⟨go25, 0, none⟩) x7_2.length co26)) (v1 := (.slice (some ⟨go25, 0, none⟩) x7_2.length co26)) (ok := (fun k_ => some k_ ≠ (.slice (some ad548) t537.length co11 : Value).ownBlock)) (by (with_reducible repeat (first | apply Kd.R_alloc | apply Kd.R_drewN | apply Kd.R_drew)); exact HO_5.out) hg (.inl rfl)); have n1_ := Aside0.mk (Kd.R_after (v := (.slice (some ⟨go25, 0, none⟩) x7_2.length co26)) (v1 := (.slice (some ⟨go25, 0, none⟩) x7_2.length co26)) (ok := (fun k_ => some k_ ≠ (.slice (some ad547) t534.length co10 : Value).ownBlock)) (by (with_reducible repeat (first | apply Kd.R_alloc | apply Kd.R_drewN | apply Kd.R_drew)); exact HO_6.out) hg (.inl rfl)); have n2_ := Aside0.mk (hp_); have n3_ := Aside0.mk ((by rw [hw]; exact below_set (HB.out) GB25.out : Below w.heap.size w w28)); clear HO_5; clear HO_6; clear HO_7; clear HB; have HO_5 := n0_; have HO_6 := n1_; have HO_7 := n2_; have HB := n3_; clear n0_ n1_ n2_ n3_; clear hg hw hp_)))
                 go_roundg kj14
                 case measure => have := HK1.out; have := HK2.out; have := HJ14.out; omega
                 case rel => exact ⟨(y549), (wrap64 (Int.tdiv (wrap64 ((wrap64 ((rd x7_2 (ji18)) + x9_2)) + (wrap64 ((rd t534 x8_1) * (rd t537 x10_2))))) 10)), (wrap64 (x10_2 + 1)), (by first | rfl | (simp; done) | (simp only [← hji18] <;> (first | rfl | simp)) | (simp [*]; done)), (by first | rfl | (simp; done) | (simp [*]; done) | (simp <;> omega)), H', ⟨by have := HK1.out; have := HK2.out; have := HJ14.out; omega⟩, ⟨by (with_reducible repeat (first | apply Kd.R_alloc | apply Kd.R_drewN | apply Kd.R_drew)); exact HO_5.out⟩, ⟨by (with_reducible repeat (first | apply Kd.R_alloc | apply Kd.R_drewN | apply Kd.R_drew)); exact HO_6.out⟩, ⟨by (with_reducible repeat (first | apply Kd.R_alloc | apply Kd.R_drewN | apply Kd.R_drew)); exact HO_7.out⟩, ⟨by repeat (first | (with_reducible first | exact HB.out | apply below_alloc | apply pw_below_drewN | apply below_drew1) | exact HB.out)⟩⟩
                ·
                 rw [if_neg c24] at H
                 exact absurd H (by simp)
               ·
                rw [if_neg c23] at H
                exact absurd H (by simp)
              ·
               rw [if_neg c22] at H
               exact absurd H (by simp)
             ·
              rw [if_neg c21] at H
              have c21b0 : decide (x10_2 < (t537.length : Int)) = false := decide_eq_false c21
              clear c21
              obtain ⟨y550, hy550⟩ : ∃ y_ : List Int, y_ = (x7_2.set ((ji18) : Int).toNat (Int.tmod (wrap64 ((rd x7_2 (ji18)) + x9_2)) 10)) := ⟨_, rfl⟩
              replace H : (dowelref01_Mul.l1 kj14 a0 a1 t534 t537 y550 x8_1 (wrap64 (Int.tdiv (wrap64 ((rd x7_2 (ji18)) + x9_2)) 10)) (wrap64 (x10_2 + 1))) = some r := by first | (rw [hy550]; with_reducible exact H) | (have H2_ := (Option.bind_some _ _).symm.trans H; rw [hy550]; with_reducible exact H2_) | (have H2_ := (Option.bind_some _ _).symm.trans H; with_reducible exact H2_) | with_reducible exact H | (rw [hy550]; exact H) | exact H
              have Ny550 := Aside0.mk hy550
              clear hy550
              have H' := Aside0.mk H
              clear H
              obtain ⟨Ao30, co30, eo30⟩ := Kd.R_slice HO_7.out
              subst eo30
              have p546 : 0 ≤ ((ji18) : Int) := of_decide_eq_true (by assumption)
              have q546 : (ji18) < (x7_2.length : Int) := of_decide_eq_true (by assumption)
              obtain ⟨ad546, e546, hx546_0⟩ := Kd.at_int (Kd.R_reads' HO_7.out).2.2 (ji18) p546 q546
              cases e546
              replace p546 := eq_true p546
              replace q546 := eq_true q546
              have p29 : 0 ≤ ((ji18) : Int) := of_decide_eq_true (by assumption)
              have q29 : ((ji18) : Int) < ((x7_2.length : Int) : Int) := of_decide_eq_true (by assumption)
              obtain ⟨go29, co29, eo29, gb29, gl29, cl29, HG29⟩ := Kd.R_form HO_7.out (by omega)
              (first | cases eo29 | (injection eo29 with ea_ en_ ec_; (first | subst ea_ | (injection ea_ with ea_; subst ea_)); subst ec_; clear en_))
              have GB29 := Aside0.mk gb29
              have GG29 := Aside0.mk HG29
              clear gb29 gl29 HG29
              (first | simp only [add_plain] at hx546_0 | skip)
              obtain ⟨hx29_0, hf29_0⟩ := Kd.R_celln 0 HO_7.out ((ji18) : Int) p29 q29
              replace p29 := eq_true p29
              replace q29 := eq_true q29
              have HP31 := Kd.R_putg HO_7.out ((ji18) : Int) (Int.tmod (wrap64 ((rd x7_2 (ji18)) + x9_2)) 10)
              go_wp2_with (first | ((with_reducible refine gate_store (t := 3) (p := 68) rfl ?_); (try (rw [drewN_self wc]; generalize hq_ : World.drewN wc _ = wc; have n0_ := Aside0.mk (Kd.R_at hq_ HO_5.out); have n1_ := Aside0.mk (Kd.R_at hq_ HO_6.out); have n2_ := Aside0.mk (Kd.R_at hq_ HO_7.out); have n3_ := Aside0.mk (below_at hq_ HB.out); clear hq_ HO_5 HO_6 HO_7 HB; have HO_5 := n0_; have HO_6 := n1_; have HO_7 := n2_; have HB := n3_; clear n0_ n1_ n2_ n3_; (try (obtain ⟨hx29_0, hf29_0⟩ := Kd.R_celln 0 HO_7.out ((ji18) : Int) (of_eq_true p29) (of_eq_true q29); (try simp only [Go.IntWalk.toNatUp] at hx29_0 hf29_0))); (try (have HP31 := Kd.R_putg HO_7.out ((ji18) : Int) (Int.tmod (wrap64 ((rd x7_2 (ji18)) + x9_2)) 10))))); refine store_event (t := 3) (p := 68) (v := ?vo_w32) (w1 := (wc.setCell ⟨go29, ((ji18) : Int).toNat, none⟩ (.int .i64 (Int.tmod (wrap64 ((rd x7_2 (ji18)) + x9_2)) 10)))) ?hg ?ho ?hn ?hr ?_; (case ho => rfl); (case hg => rfl); (case hn => rfl); (case hr => first | (go_simp; done) | (go_simp; rfl)); intro w32 hw; have hg : wc.grownBy w32 (some go29) := (by rw [hw]; exact HP31.2); have hp_ : Kd.R (Kd.int .i64) 3 w32 w.heap.size (fun k_ => some k_ ≠ (.slice Ao10 t534.length co10 : Value).ownBlock ∧ some k_ ≠ (.slice Ao11 t537.length co11 : Value).ownBlock) (.slice (some ⟨go29, 0, none⟩) x7_2.length co30) y550 := (by rw [hw, Ny550.out]; exact HP31.1); clear HP31; have n0_ := Aside0.mk (Kd.R_after (v := (.slice (some ⟨go29, 0, none⟩) x7_2.length co30)) (v1 := (.slice (some ⟨go29, 0, none⟩) x7_2.length co30)) (ok := (fun k_ => some k_ ≠ (.slice Ao11 t537.length co11 : Value).ownBlock)) (by (with_reducible repeat (first | apply Kd.R_alloc | apply Kd.R_drewN | apply Kd.R_drew)); exact HO_5.out) hg (.inl rfl)); have n1_ := Aside0.mk (Kd.R_after (v := (.slice (some ⟨go29, 0, none⟩) x7_2.length co30)) (v1 := (.slice (some ⟨go29, 0, none⟩) x7_2.length co30)) (ok := (fun k_ => some k_ ≠ (.slice Ao10 t534.length co10 : Value).ownBlock)) (by (with_reducible repeat (first | apply Kd.R_alloc | apply Kd.R_drewN | apply Kd.R_drew)); exact HO_6.out) hg (.inl rfl)); have n2_ := Aside0.mk (hp_); have n3_ := Aside0.mk ((by rw [hw]; exact below_set (HB.out) GB29.out : Below w.heap.size w w32)); clear HO_5; clear HO_6; clear HO_7; clear HB; have HO_5 := n0_; have HO_6 := n1_; have HO_7 := n2_; have HB := n3_; clear n0_ n1_ n2_ n3_; clear hg hw hp_))
              go_roundg kj14
              case measure => have := HK1.out; have := HK2.out; have := HJ14.out; omega
              case rel => exact ⟨(y550), (wrap64 (Int.tdiv (wrap64 ((rd x7_2 (ji18)) + x9_2)) 10)), (wrap64 (x10_2 + 1)), (by first | rfl | (simp; done) | (simp only [← hji18] <;> (first | rfl | simp)) | (simp [*]; done)), (by first | rfl | (simp; done) | (simp [*]; done) | (simp <;> omega)), H', ⟨by have := HK1.out; have := HK2.out; have := HJ14.out; omega⟩, ⟨by (with_reducible repeat (first | apply Kd.R_alloc | apply Kd.R_drewN | apply Kd.R_drew)); exact HO_5.out⟩, ⟨by (with_reducible repeat (first | apply Kd.R_alloc | apply Kd.R_drewN | apply Kd.R_drew)); exact HO_6.out⟩, ⟨by (with_reducible repeat (first | apply Kd.R_alloc | apply Kd.R_drewN | apply Kd.R_drew)); exact HO_7.out⟩, ⟨by repeat (first | (with_reducible first | exact HB.out | apply below_alloc | apply pw_below_drewN | apply below_drew1) | exact HB.out)⟩⟩
            ·
             rw [if_neg c20] at H
             exact absurd H (by simp)
           ·
            rw [if_neg c19] at H
            exact absurd H (by simp)
          ·
           replace c17 := Bool.eq_false_iff.mpr c17
           subst c17
           have H1 : (dowelref01_Mul.l0 kj14 a0 a1 t534 t537 x7_2 (wrap64 (x8_1 + 1))) = some r := by rw [if_neg (show ¬ (false = true) by decide)] at H; exact H
           clear H
           have H := H1
           clear H1
           have H' := Aside0.mk H
           clear H
           go_wp2
           repeat (go_quiet (fail); try go_wp2)
           go_roundg kj14
           case measure => have := HK1.out; have := HK2.out; have := HJ14.out; omega
           case rel => exact ⟨(x7_2), (wrap64 (x8_1 + 1)), (by first | rfl | (simp; done) | (simp [*]; done) | (simp <;> omega)), H', ⟨by have := HK1.out; have := HK2.out; have := HJ14.out; omega⟩, ⟨by (with_reducible repeat (first | apply Kd.R_alloc | apply Kd.R_drewN | apply Kd.R_drew)); exact HO_5.out⟩, ⟨by (with_reducible repeat (first | apply Kd.R_alloc | apply Kd.R_drewN | apply Kd.R_drew)); exact HO_6.out⟩, ⟨by (with_reducible repeat (first | apply Kd.R_alloc | apply Kd.R_drewN | apply Kd.R_drew)); exact HO_7.out⟩, ⟨by repeat (first | (with_reducible first | exact HB.out | apply below_alloc | apply pw_below_drewN | apply below_drew1) | exact HB.out)⟩⟩
     ·
      rw [if_neg c14] at H
      have c14b0 : decide (x8_1 < (t534.length : Int)) = false := decide_eq_false c14
      clear c14
      replace H := Option.bind_eq_some_iff.mp H
      obtain ⟨t543, A330, H⟩ := H
      replace H : ((dowelref01_Sign.f a1).bind fun t544 => ((dowelref01_text.f k1 (decide ((wrap64 (t543 * t544)) < 0)) x7_1).bind fun t545 => (some t545))) = some r := H
      have A33 := Aside0.mk A330
      clear A330
      replace H := Option.bind_eq_some_iff.mp H
      obtain ⟨t544, A340, H⟩ := H
      replace H : ((dowelref01_text.f k1 (decide ((wrap64 (t543 * t544)) < 0)) x7_1).bind fun t545 => (some t545)) = some r := H
      have A34 := Aside0.mk A340
      clear A340
      replace H := Option.bind_eq_some_iff.mp H
      obtain ⟨t545, A350, H⟩ := H
      replace H : (some t545) = some r := H
      have A35 := Aside0.mk A350
      clear A350
      obtain rfl := Option.some.inj H
      go_wp2_with (first | (go_at_call 33; (with_reducible refine (dowelref01_Sign.calls a0 t543 _ A33.out).mono ?_); rintro e w' ⟨rfl, ⟨nd, rfl⟩⟩; (try first | exact ⟨rfl, _, World.drewN_drewN _ _ _⟩ | exact ⟨rfl, _, Eq.trans (World.drewN_drewN _ _ _) (congrArg (World.drewN _) (Nat.add_assoc _ _ _))⟩)) | (go_at_call 33; (with_reducible refine (dowelref01_Sign.calls a1 t544 _ A34.out).mono ?_); rintro e w' ⟨rfl, ⟨nd, rfl⟩⟩; (try first | exact ⟨rfl, _, World.drewN_drewN _ _ _⟩ | exact ⟨rfl, _, Eq.trans (World.drewN_drewN _ _ _) (congrArg (World.drewN _) (Nat.add_assoc _ _ _))⟩); obtain ⟨Ao36, co36, eo36⟩ := Kd.R_slice HO_7.out; subst eo36) | (go_at_call 51; (with_reducible refine (dowelref01_text.calls k1 (decide ((wrap64 (t543 * t544)) < 0)) (fun k_ => some k_ = (.slice Ao36 x7_1.length co36 : Value).ownBlock) (.slice Ao36 x7_1.length co36) x7_1 t545 w _ ?side1 ?side2 A35.out).mono ?_); (case side1 => repeat (first | (with_reducible first | exact HB.out | apply below_alloc | apply pw_below_drewN | apply below_drew1) | exact HB.out)); (case side2 => exact Kd.R_tight rfl HO_7.out); rintro e w37 ⟨rfl, hb, hkp⟩; have n0_ := Aside0.mk (Kd.R_mono (ok' := fun k_ => some k_ ≠ (.slice Ao11 t537.length co11 : Value).ownBlock) (Kd.R_keptB (HO_5.out) hkp (fun k_ hk_ hs_ => (hk_.2) hs_)) (fun k_ hk_ => hk_.1.1)); have n1_ := Aside0.mk (Kd.R_mono (ok' := fun k_ => some k_ ≠ (.slice Ao10 t534.length co10 : Value).ownBlock) (Kd.R_keptB (HO_6.out) hkp (fun k_ hk_ hs_ => (hk_.2) hs_)) (fun k_ hk_ => hk_.1.1)); have n2_ := Aside0.mk (hb); clear HO_5; clear HO_6; clear HB; clear HO_7; have HO_5 := n0_; have HO_6 := n1_; have HB := n2_; clear n0_ n1_ n2_; (try clear hb); (try clear hkp)))
      go_ret
      exact ⟨by first | rfl | (simp [errW_none, errW_some] <;> rfl) | (simp only [← hji5]; first | rfl | (simp [errW_none, errW_some] <;> rfl)) | (simp [*, errW_none, errW_some] <;> rfl), by repeat (first | (with_reducible first | exact HB.out | apply below_alloc | apply pw_below_drewN | apply below_drew1) | exact HB.out)⟩
  ·
   rw [if_neg c7] at H
   exact absurd H (by simp)
 ·
  rw [if_neg c6] at H
  exact absurd H (by simp)
def dowelref01_Power.l0 : Nat → ByteArray → Int → ByteArray → Int → Option (ByteArray)
 | 0, _, _, _, _ => none
 | k + 1, x0, x1, x5, x6 => if x6 < x1 then ((dowelref01_Mul.f k x5 x0).bind fun t782 => (dowelref01_Power.l0 k x0 x1 t782 (wrap64 (x6 + 1)))) else (some x5)
def dowelref01_Power.f (k : Nat) (a0 : ByteArray) (a1 : Int) : Option (ByteArray) := dowelref01_Power.l0 k a0 a1 (⟨#[49]⟩ : ByteArray) 0
theorem dowelref01_Power.mono_l : ∀ k, (∀ y0 y1 y2 y3, LeO (dowelref01_Power.l0 k y0 y1 y2 y3) (dowelref01_Power.l0 (k + 1) y0 y1 y2 y3))
 | 0 => fun _ _ _ _ r h => by simp [dowelref01_Power.l0] at h
 | k + 1 => by
  have ih0 := dowelref01_Power.mono_l k
  ·
   intro y0 y1 y2 y3
   unfold dowelref01_Power.l0
   repeat' first
   | (with_reducible exact ih0 _ _ _ _)
   | (with_reducible exact dowelref01_Mul.mono _ _ _)
   | (with_reducible exact LeO.refl _)
   | (with_reducible exact LeO.none _)
   | (with_reducible refine LeO.ite ?_ ?_)
   | (with_reducible refine LeO.bind ?_ (fun _ => ?_))
   | exact ih0 _ _ _ _
   | exact dowelref01_Mul.mono _ _ _
   | exact LeO.none _
   | refine LeO.ite ?_ ?_
   | refine LeO.bind ?_ (fun _ => ?_)
theorem dowelref01_Power.mono : ∀ a0 a1 k, LeO (dowelref01_Power.f k a0 a1) (dowelref01_Power.f (k + 1) a0 a1) := by
 intro a0 a1 k
 have ih0 := dowelref01_Power.mono_l k
 unfold dowelref01_Power.f
 repeat' first
   | (with_reducible exact ih0 _ _ _ _)
   | (with_reducible exact dowelref01_Mul.mono _ _ _)
   | (with_reducible exact LeO.refl _)
   | (with_reducible exact LeO.none _)
   | (with_reducible refine LeO.ite ?_ ?_)
   | (with_reducible refine LeO.bind ?_ (fun _ => ?_))
   | exact ih0 _ _ _ _
   | exact dowelref01_Mul.mono _ _ _
   | exact LeO.none _
   | refine LeO.ite ?_ ?_
   | refine LeO.bind ?_ (fun _ => ?_)
set_option maxHeartbeats 8000000 in
set_option maxRecDepth 100000 in
theorem dowelref01_Power.calls (k : Nat) (a0 : ByteArray) (a1 : Int) (r : ByteArray) (w : World) (h : dowelref01_Power.f k a0 a1 = some r) :
  Calls Tryd.prog 32 #[.string a0, .int .i64 a1] w fun e w' => e = .returned (.string r) ∧ Below w.heap.size w w' := by
 have HB := Aside0.mk (Below.refl w.heap.size w)
 have H : (dowelref01_Power.l0 k a0 a1 (⟨#[49]⟩ : ByteArray) 0) = some r := h
 clear h
 have H' := Aside0.mk H
 clear H
 go_enter Tryd.func32, Tryd.ntmps32
 go_wp2
 go_loopg [5, 6] k (fun kq v5 v6 w' => ∃ (x5_1 : ByteArray) (x6_1 : Int), v5 = .string x5_1 ∧ v6 = .int .i64 x6_1 ∧ Aside0 (dowelref01_Power.l0 kq a0 a1 x5_1 x6_1 = some r) ∧ Aside0 (kq ≤ k) ∧ Aside0 (Below w.heap.size w w'))
 case atStart => exact ⟨((⟨#[49]⟩ : ByteArray)), (0), (by first | rfl | (simp; done) | (simp [*]; done) | (simp <;> omega)), (by first | rfl | (simp; done) | (simp [*]; done) | (simp <;> omega)), H', ⟨Nat.le_refl _⟩, ⟨by repeat (first | (with_reducible first | exact HB.out | apply below_alloc | apply pw_below_drewN | apply below_drew1) | exact HB.out)⟩⟩
 case round =>
  clear H'
  try clear p2
  obtain ⟨x5_1, x6_1, rfl, rfl, HA, HK1, HB⟩ := hrel
  cases gk with
  | zero => exact absurd HA.out (by simp [dowelref01_Power.l0])
  | succ k1 =>
   have H := HA.out
   clear HA
   simp only [dowelref01_Power.l0] at H
   by_cases c3 : x6_1 < a1
   ·
    rw [if_pos c3] at H
    have c3b0 : decide (x6_1 < a1) = true := decide_eq_true c3
    clear c3
    replace H := Option.bind_eq_some_iff.mp H
    obtain ⟨t782, A40, H⟩ := H
    replace H : (dowelref01_Power.l0 k1 a0 a1 t782 (wrap64 (x6_1 + 1))) = some r := H
    have A4 := Aside0.mk A40
    clear A40
    have H' := Aside0.mk H
    clear H
    go_wp2_with (first | ((with_reducible refine gate_callee (f := 26) rfl ?_); refine goesL_ (some 14) rfl rfl Tryd.func26 (by kernel_rfl) rfl #[.string x5_1, .string a0] rfl (by (try simp only [List.map_toArray, List.map_cons, List.map_nil]); first | done | rfl | (simp only [List.length_drop, List.length_take]; rfl)) ?_; (with_reducible refine (dowelref01_Mul.calls k1 x5_1 a0 t782 _ A4.out).mono ?_); rintro e w5 ⟨rfl, hb⟩; refine ⟨_, rfl, ?_⟩; have n0_ := Aside0.mk (below_step (by repeat (first | (with_reducible first | exact HB.out | apply below_alloc | apply pw_below_drewN | apply below_drew1) | exact HB.out)) hb); clear HB; have HB := n0_; clear n0_; (try clear hb); (try clear hb2); (try clear hk); (try clear hi)))
    go_roundg k1
    case measure => have := HK1.out; omega
    case rel => exact ⟨(t782), (wrap64 (x6_1 + 1)), (by first | rfl | (simp; done) | (simp [*]; done) | (simp <;> omega)), (by first | rfl | (simp; done) | (simp [*]; done) | (simp <;> omega)), H', ⟨by have := HK1.out; omega⟩, ⟨by repeat (first | (with_reducible first | exact HB.out | apply below_alloc | apply pw_below_drewN | apply below_drew1) | exact HB.out)⟩⟩
   ·
    rw [if_neg c3] at H
    have c3b0 : decide (x6_1 < a1) = false := decide_eq_false c3
    clear c3
    obtain rfl := Option.some.inj H
    go_wp2
    go_ret
    exact ⟨by first | rfl | (simp [errW_none, errW_some] <;> rfl) | (simp [*, errW_none, errW_some] <;> rfl), by repeat (first | (with_reducible first | exact HB.out | apply below_alloc | apply pw_below_drewN | apply below_drew1) | exact HB.out)⟩
mutual
def dowellaw01_IntegerPowers.j0 : Nat → ByteArray → Int → Bool → Option (Bool)
 | 0, _, _, _ => none
 | k + 1, x0, x1, x20 => if x20 = true then ((dowellaw01_known.f k).bind fun t785 => (some t785)) else ((dowellaw01_read.f k x0).bind fun bt786 => ((integer_Power.f k bt786.1 bt786.2.1 x1).bind fun bt792 => (if x1 < 0 then (dowellaw01_IntegerPowers.j1 k x0 x1 bt786.2.2 bt792.2.2 true bt792.1 bt792.2.1) else (dowellaw01_IntegerPowers.j1 k x0 x1 bt786.2.2 bt792.2.2 (decide (x1 > 64)) bt792.1 bt792.2.1))))
def dowellaw01_IntegerPowers.j1 : Nat → ByteArray → Int → Bool → Int → Bool → Bool → List Int → Option (Bool)
 | 0, _, _, _, _, _, _, _ => none
 | k + 1, x0, x1, x6, x8, x38, x798000, x798001 => if x38 = true then (if x6 = true then ((integer_Int_Text.f k x798000 x798001).bind fun t798 => (if t798.toList = ([48] : List UInt8) then (some (x8 == 2)) else (none))) else (none)) else (if x6 = true then ((integer_Int_Text.f k x798000 x798001).bind fun t799 => ((dowelref01_Power.f k x0 x1).bind fun t800 => (if t799.toList = t800.toList then (some (x8 == 0)) else (none)))) else (none))
end
def dowellaw01_IntegerPowers.f (k : Nat) (a0 : ByteArray) (a1 : Int) : Option (Bool) := (dowellaw01_known.f k).bind fun t783 => (if t783 = true then ((dowellaw01_right.f k a0).bind fun t784 => (if t784 = true then (dowellaw01_IntegerPowers.j0 k a0 a1 (decide (20 < a0.size))) else (dowellaw01_IntegerPowers.j0 k a0 a1 true))) else (dowellaw01_IntegerPowers.j0 k a0 a1 true))
theorem dowellaw01_IntegerPowers.mono_l : ∀ k, (∀ y0 y1 y2, LeO (dowellaw01_IntegerPowers.j0 k y0 y1 y2) (dowellaw01_IntegerPowers.j0 (k + 1) y0 y1 y2)) ∧ (∀ y0 y1 y2 y3 y4 y5 y6, LeO (dowellaw01_IntegerPowers.j1 k y0 y1 y2 y3 y4 y5 y6) (dowellaw01_IntegerPowers.j1 (k + 1) y0 y1 y2 y3 y4 y5 y6))
 | 0 => ⟨fun _ _ _ r h => by simp [dowellaw01_IntegerPowers.j0] at h, fun _ _ _ _ _ _ _ r h => by simp [dowellaw01_IntegerPowers.j1] at h⟩
 | k + 1 => by
  obtain ⟨ih0, ih1⟩ := dowellaw01_IntegerPowers.mono_l k
  refine ⟨?_, ?_⟩
  ·
   intro y0 y1 y2
   unfold dowellaw01_IntegerPowers.j0
   repeat' first
   | (with_reducible exact ih0 _ _ _)
   | (with_reducible exact ih1 _ _ _ _ _ _ _)
   | (with_reducible exact dowellaw01_known.mono _)
   | (with_reducible exact dowellaw01_read.mono _ _)
   | (with_reducible exact dowellaw01_right.mono _ _)
   | (with_reducible exact dowelref01_Power.mono _ _ _)
   | (with_reducible exact integer_Int_Text.mono _ _ _)
   | (with_reducible exact integer_Power.mono _ _ _ _)
   | (with_reducible exact LeO.refl _)
   | (with_reducible exact LeO.none _)
   | (with_reducible refine LeO.ite ?_ ?_)
   | (with_reducible refine LeO.bind ?_ (fun _ => ?_))
   | exact ih0 _ _ _
   | exact ih1 _ _ _ _ _ _ _
   | exact dowellaw01_known.mono _
   | exact dowellaw01_read.mono _ _
   | exact dowellaw01_right.mono _ _
   | exact dowelref01_Power.mono _ _ _
   | exact integer_Int_Text.mono _ _ _
   | exact integer_Power.mono _ _ _ _
   | exact LeO.none _
   | refine LeO.ite ?_ ?_
   | refine LeO.bind ?_ (fun _ => ?_)
  ·
   intro y0 y1 y2 y3 y4 y5 y6
   unfold dowellaw01_IntegerPowers.j1
   repeat' first
   | (with_reducible exact ih0 _ _ _)
   | (with_reducible exact ih1 _ _ _ _ _ _ _)
   | (with_reducible exact dowellaw01_known.mono _)
   | (with_reducible exact dowellaw01_read.mono _ _)
   | (with_reducible exact dowellaw01_right.mono _ _)
   | (with_reducible exact dowelref01_Power.mono _ _ _)
   | (with_reducible exact integer_Int_Text.mono _ _ _)
   | (with_reducible exact integer_Power.mono _ _ _ _)
   | (with_reducible exact LeO.refl _)
   | (with_reducible exact LeO.none _)
   | (with_reducible refine LeO.ite ?_ ?_)
   | (with_reducible refine LeO.bind ?_ (fun _ => ?_))
   | exact ih0 _ _ _
   | exact ih1 _ _ _ _ _ _ _
   | exact dowellaw01_known.mono _
   | exact dowellaw01_read.mono _ _
   | exact dowellaw01_right.mono _ _
   | exact dowelref01_Power.mono _ _ _
   | exact integer_Int_Text.mono _ _ _
   | exact integer_Power.mono _ _ _ _
   | exact LeO.none _
   | refine LeO.ite ?_ ?_
   | refine LeO.bind ?_ (fun _ => ?_)
theorem dowellaw01_IntegerPowers.mono : ∀ a0 a1 k, LeO (dowellaw01_IntegerPowers.f k a0 a1) (dowellaw01_IntegerPowers.f (k + 1) a0 a1) := by
 intro a0 a1 k
 obtain ⟨ih0, ih1⟩ := dowellaw01_IntegerPowers.mono_l k
 unfold dowellaw01_IntegerPowers.f
 repeat' first
   | (with_reducible exact ih0 _ _ _)
   | (with_reducible exact ih1 _ _ _ _ _ _ _)
   | (with_reducible exact dowellaw01_known.mono _)
   | (with_reducible exact dowellaw01_read.mono _ _)
   | (with_reducible exact dowellaw01_right.mono _ _)
   | (with_reducible exact dowelref01_Power.mono _ _ _)
   | (with_reducible exact integer_Int_Text.mono _ _ _)
   | (with_reducible exact integer_Power.mono _ _ _ _)
   | (with_reducible exact LeO.refl _)
   | (with_reducible exact LeO.none _)
   | (with_reducible refine LeO.ite ?_ ?_)
   | (with_reducible refine LeO.bind ?_ (fun _ => ?_))
   | exact ih0 _ _ _
   | exact ih1 _ _ _ _ _ _ _
   | exact dowellaw01_known.mono _
   | exact dowellaw01_read.mono _ _
   | exact dowellaw01_right.mono _ _
   | exact dowelref01_Power.mono _ _ _
   | exact integer_Int_Text.mono _ _ _
   | exact integer_Power.mono _ _ _ _
   | exact LeO.none _
   | refine LeO.ite ?_ ?_
   | refine LeO.bind ?_ (fun _ => ?_)
set_option maxHeartbeats 8000000 in
set_option maxRecDepth 100000 in
theorem dowellaw01_IntegerPowers.calls (k : Nat) (a0 : ByteArray) (a1 : Int) (r : Bool) (w : World) (hG : G w) (h : dowellaw01_IntegerPowers.f k a0 a1 = some r) :
  Calls Tryd.prog 8 #[.string a0, .int .i64 a1] w fun e w' => e = .returned (.bool r) ∧ Below w.heap.size w w' := by
 have hu25 := Tryd.underlying25
 have HB := Aside0.mk (Below.refl w.heap.size w)
 have HG := Aside0.mk hG
 clear hG
 have H : ((dowellaw01_known.f k).bind fun t783 => (if t783 = true then ((dowellaw01_right.f k a0).bind fun t784 => (if t784 = true then (dowellaw01_IntegerPowers.j0 k a0 a1 (decide (20 < a0.size))) else (dowellaw01_IntegerPowers.j0 k a0 a1 true))) else (dowellaw01_IntegerPowers.j0 k a0 a1 true))) = some r := h
 clear h
 have HC3 := Aside0.mk H
 clear H
 go_enter Tryd.func8, Tryd.ntmps8
 go_upto_region 1 with (fail)
 go_cut [20] (fun v20 wc => ∃ (kq : Nat) (x20_2 : Bool), v20 = .bool x20_2 ∧ Aside0 (dowellaw01_IntegerPowers.j0 kq a0 a1 x20_2 = some r) ∧ Aside0 (kq ≤ k) ∧ Aside0 (Below w.heap.size w wc))
 case first =>
  have H := HC3.out
  clear HC3
  replace H := Option.bind_eq_some_iff.mp H
  obtain ⟨t783, A40, H⟩ := H
  replace H : (if t783 = true then ((dowellaw01_right.f k a0).bind fun t784 => (if t784 = true then (dowellaw01_IntegerPowers.j0 k a0 a1 (decide (20 < a0.size))) else (dowellaw01_IntegerPowers.j0 k a0 a1 true))) else (dowellaw01_IntegerPowers.j0 k a0 a1 true)) = some r := H
  have A4 := Aside0.mk A40
  clear A40
  by_cases c5 : t783 = true
  ·
   subst c5
   have H1 : ((dowellaw01_right.f k a0).bind fun t784 => (if t784 = true then (dowellaw01_IntegerPowers.j0 k a0 a1 (decide (20 < a0.size))) else (dowellaw01_IntegerPowers.j0 k a0 a1 true))) = some r := by rw [if_pos rfl] at H; exact H
   clear H
   have H := H1
   clear H1
   replace H := Option.bind_eq_some_iff.mp H
   obtain ⟨t784, A60, H⟩ := H
   replace H : (if t784 = true then (dowellaw01_IntegerPowers.j0 k a0 a1 (decide (20 < a0.size))) else (dowellaw01_IntegerPowers.j0 k a0 a1 true)) = some r := H
   have A6 := Aside0.mk A60
   clear A60
   by_cases c7 : t784 = true
   ·
    subst c7
    have H1 : (dowellaw01_IntegerPowers.j0 k a0 a1 (decide (20 < a0.size))) = some r := by rw [if_pos rfl] at H; exact H
    clear H
    have H := H1
    clear H1
    have H' := Aside0.mk H
    clear H
    go_wp2_with (first | ((with_reducible refine gate_callee (f := 14) rfl ?_); refine goesL_ (some 9) rfl rfl Tryd.func14 (by kernel_rfl) rfl #[] rfl (by (try simp only [List.map_toArray, List.map_cons, List.map_nil]); first | done | rfl | (simp only [List.length_drop, List.length_take]; rfl)) ?_; (with_reducible refine (dowellaw01_known.calls k  true _ ?side1 A4.out).mono ?_); (case side1 => exact G_below HG.out (by repeat (first | (with_reducible first | exact HB.out | apply below_alloc | apply pw_below_drewN | apply below_drew1) | exact HB.out))); rintro e w8 ⟨rfl, hb⟩; refine ⟨_, rfl, ?_⟩; have n0_ := Aside0.mk (below_step (by repeat (first | (with_reducible first | exact HB.out | apply below_alloc | apply pw_below_drewN | apply below_drew1) | exact HB.out)) hb); clear HB; have HB := n0_; clear n0_; (try clear hb); (try clear hb2); (try clear hk); (try clear hi)) | (go_at_call 23; (with_reducible refine (dowellaw01_right.calls k a0 true _ A6.out).mono ?_); rintro e w' ⟨rfl, ⟨nd, rfl⟩⟩))
    go_meet
    case rel => exact ⟨_, (decide (20 < a0.size)), (by first | rfl | (simp; done) | (simp [*]; done) | (simp <;> omega)), H', ⟨by first | omega | exact Nat.le_refl _⟩, ⟨by repeat (first | (with_reducible first | exact HB.out | apply below_alloc | apply pw_below_drewN | apply below_drew1) | exact HB.out)⟩⟩
   ·
    replace c7 := Bool.eq_false_iff.mpr c7
    subst c7
    have H1 : (dowellaw01_IntegerPowers.j0 k a0 a1 true) = some r := by rw [if_neg (show ¬ (false = true) by decide)] at H; exact H
    clear H
    have H := H1
    clear H1
    have H' := Aside0.mk H
    clear H
    go_wp2_with (first | ((with_reducible refine gate_callee (f := 14) rfl ?_); refine goesL_ (some 9) rfl rfl Tryd.func14 (by kernel_rfl) rfl #[] rfl (by (try simp only [List.map_toArray, List.map_cons, List.map_nil]); first | done | rfl | (simp only [List.length_drop, List.length_take]; rfl)) ?_; (with_reducible refine (dowellaw01_known.calls k  true _ ?side1 A4.out).mono ?_); (case side1 => exact G_below HG.out (by repeat (first | (with_reducible first | exact HB.out | apply below_alloc | apply pw_below_drewN | apply below_drew1) | exact HB.out))); rintro e w9 ⟨rfl, hb⟩; refine ⟨_, rfl, ?_⟩; have n0_ := Aside0.mk (below_step (by repeat (first | (with_reducible first | exact HB.out | apply below_alloc | apply pw_below_drewN | apply below_drew1) | exact HB.out)) hb); clear HB; have HB := n0_; clear n0_; (try clear hb); (try clear hb2); (try clear hk); (try clear hi)) | (go_at_call 23; (with_reducible refine (dowellaw01_right.calls k a0 false _ A6.out).mono ?_); rintro e w' ⟨rfl, ⟨nd, rfl⟩⟩))
    go_meet
    case rel => exact ⟨_, (true), (by first | rfl | (simp; done) | (simp [*]; done) | (simp <;> omega)), H', ⟨by first | omega | exact Nat.le_refl _⟩, ⟨by repeat (first | (with_reducible first | exact HB.out | apply below_alloc | apply pw_below_drewN | apply below_drew1) | exact HB.out)⟩⟩
  ·
   replace c5 := Bool.eq_false_iff.mpr c5
   subst c5
   have H1 : (dowellaw01_IntegerPowers.j0 k a0 a1 true) = some r := by rw [if_neg (show ¬ (false = true) by decide)] at H; exact H
   clear H
   have H := H1
   clear H1
   have H' := Aside0.mk H
   clear H
   go_wp2_with (first | ((with_reducible refine gate_callee (f := 14) rfl ?_); refine goesL_ (some 9) rfl rfl Tryd.func14 (by kernel_rfl) rfl #[] rfl (by (try simp only [List.map_toArray, List.map_cons, List.map_nil]); first | done | rfl | (simp only [List.length_drop, List.length_take]; rfl)) ?_; (with_reducible refine (dowellaw01_known.calls k  false _ ?side1 A4.out).mono ?_); (case side1 => exact G_below HG.out (by repeat (first | (with_reducible first | exact HB.out | apply below_alloc | apply pw_below_drewN | apply below_drew1) | exact HB.out))); rintro e w10 ⟨rfl, hb⟩; refine ⟨_, rfl, ?_⟩; have n0_ := Aside0.mk (below_step (by repeat (first | (with_reducible first | exact HB.out | apply below_alloc | apply pw_below_drewN | apply below_drew1) | exact HB.out)) hb); clear HB; have HB := n0_; clear n0_; (try clear hb); (try clear hb2); (try clear hk); (try clear hi)))
   go_meet
   case rel => exact ⟨_, (true), (by first | rfl | (simp; done) | (simp [*]; done) | (simp <;> omega)), H', ⟨by first | omega | exact Nat.le_refl _⟩, ⟨by repeat (first | (with_reducible first | exact HB.out | apply below_alloc | apply pw_below_drewN | apply below_drew1) | exact HB.out)⟩⟩
 case rest =>
  clear HC3
  try clear c1
  try clear p2
  try clear c5
  try clear c7
  try clear c8
  obtain ⟨kq, x20_2, rfl, HA, HJ2, HB⟩ := hcut
  cases kq with
  | zero => exact absurd HA.out (by simp [dowellaw01_IntegerPowers.j0])
  | succ kj2 =>
   have H := HA.out
   clear HA
   simp only [dowellaw01_IntegerPowers.j0] at H
   by_cases c11 : x20_2 = true
   ·
    subst c11
    have H1 : ((dowellaw01_known.f kj2).bind fun t785 => (some t785)) = some r := by rw [if_pos rfl] at H; exact H
    clear H
    have H := H1
    clear H1
    replace H := Option.bind_eq_some_iff.mp H
    obtain ⟨t785, A120, H⟩ := H
    replace H : (some t785) = some r := H
    have A12 := Aside0.mk A120
    clear A120
    obtain rfl := Option.some.inj H
    go_wp2_with (first | ((with_reducible refine gate_callee (f := 14) rfl ?_); refine goesL_ (some 21) rfl rfl Tryd.func14 (by kernel_rfl) rfl #[] rfl (by (try simp only [List.map_toArray, List.map_cons, List.map_nil]); first | done | rfl | (simp only [List.length_drop, List.length_take]; rfl)) ?_; (with_reducible refine (dowellaw01_known.calls kj2  t785 _ ?side1 A12.out).mono ?_); (case side1 => exact G_below HG.out (by repeat (first | (with_reducible first | exact HB.out | apply below_alloc | apply pw_below_drewN | apply below_drew1) | exact HB.out))); rintro e w13 ⟨rfl, hb⟩; refine ⟨_, rfl, ?_⟩; have n0_ := Aside0.mk (below_step (by repeat (first | (with_reducible first | exact HB.out | apply below_alloc | apply pw_below_drewN | apply below_drew1) | exact HB.out)) hb); clear HB; have HB := n0_; clear n0_; (try clear hb); (try clear hb2); (try clear hk); (try clear hi)))
    go_ret
    exact ⟨by first | rfl | (simp [errW_none, errW_some] <;> rfl) | (simp [*, errW_none, errW_some] <;> rfl), by repeat (first | (with_reducible first | exact HB.out | apply below_alloc | apply pw_below_drewN | apply below_drew1) | exact HB.out)⟩
   ·
    replace c11 := Bool.eq_false_iff.mpr c11
    subst c11
    have H1 : ((dowellaw01_read.f kj2 a0).bind fun bt786 => ((integer_Power.f kj2 bt786.1 bt786.2.1 a1).bind fun bt792 => (if a1 < 0 then (dowellaw01_IntegerPowers.j1 kj2 a0 a1 bt786.2.2 bt792.2.2 true bt792.1 bt792.2.1) else (dowellaw01_IntegerPowers.j1 kj2 a0 a1 bt786.2.2 bt792.2.2 (decide (a1 > 64)) bt792.1 bt792.2.1)))) = some r := by rw [if_neg (show ¬ (false = true) by decide)] at H; exact H
    clear H
    have H := H1
    clear H1
    replace H := Option.bind_eq_some_iff.mp H
    obtain ⟨⟨t786, t787, t790⟩, A140, H⟩ := H
    replace H : ((integer_Power.f kj2 t786 t787 a1).bind fun bt792 => (if a1 < 0 then (dowellaw01_IntegerPowers.j1 kj2 a0 a1 t790 bt792.2.2 true bt792.1 bt792.2.1) else (dowellaw01_IntegerPowers.j1 kj2 a0 a1 t790 bt792.2.2 (decide (a1 > 64)) bt792.1 bt792.2.1))) = some r := H
    have A14 := Aside0.mk A140
    clear A140
    replace H := Option.bind_eq_some_iff.mp H
    obtain ⟨⟨t792, t793, t796⟩, A150, H⟩ := H
    replace H : (if a1 < 0 then (dowellaw01_IntegerPowers.j1 kj2 a0 a1 t790 t796 true t792 t793) else (dowellaw01_IntegerPowers.j1 kj2 a0 a1 t790 t796 (decide (a1 > 64)) t792 t793)) = some r := H
    have A15 := Aside0.mk A150
    clear A150
    have HC16 := Aside0.mk H
    clear H
    go_upto_region 5 with (first | ((with_reducible refine gate_callee (f := 24) rfl ?_); refine goesL_ (some 24) rfl rfl Tryd.func24 (by kernel_rfl) rfl #[.string a0] rfl (by (try simp only [List.map_toArray, List.map_cons, List.map_nil]); first | done | rfl | (simp only [List.length_drop, List.length_take]; rfl)) ?_; (with_reducible refine (dowellaw01_read.calls kj2 a0 t786 t787 t790 _ A14.out).mono ?_); rintro e w17 ⟨v788, rfl, ho0, hb⟩; refine ⟨_, rfl, ?_⟩; have n0_ := Aside0.mk (Kd.V_lower (Kd.V_mono (ok' := fun k_ => True) ho0 (fun k_ hk_ => trivial)) (below_size (by repeat (first | (with_reducible first | exact HB.out | apply below_alloc | apply pw_below_drewN | apply below_drew1) | exact HB.out)))); have n1_ := Aside0.mk (below_step (by repeat (first | (with_reducible first | exact HB.out | apply below_alloc | apply pw_below_drewN | apply below_drew1) | exact HB.out)) hb); clear HB; have HO789 := n0_; have HB := n1_; clear n0_ n1_; (try clear hb); (try clear hb2); (try clear hk); (try clear hi); (try clear ho0)) | ((with_reducible refine gate_dst (N := 5) rfl ?_); (try (refine gate_guard (by rfl) ?_; dsimp only)); refine box_event ?hg (N := 5) ?hd (cs := #[.bool false, .slice none 0 0]) (t := 25) ?hr ?_; (case hd => rfl); (case hg => rfl); (case hr => first | (go_simp; done) | (go_simp; rfl)); intro gb791 hg w18 hbox hb; have n0_ := Aside0.mk (Kd.V_below (Kd.V_elderB (by (with_reducible repeat (first | apply Kd.V_alloc | apply Kd.V_drewN | apply Kd.V_drew)); exact HO789.out) gb791 (Nat.le_of_eq hg.symm)) hb); have n1_ := Aside0.mk (below_step (by repeat (first | (with_reducible first | exact HB.out | apply below_alloc | apply pw_below_drewN | apply below_drew1) | exact HB.out)) hb); have n2_ := Aside0.mk (hbox); have n3_ := Aside0.mk ((by rw [hg]; exact (below_size (by repeat (first | (with_reducible first | exact HB.out | apply below_alloc | apply pw_below_drewN | apply below_drew1) | exact HB.out))) : w.heap.size ≤ gb791)); have n4_ := Aside0.mk ((by rw [hg]; exact (below_size (by repeat (first | (with_reducible first | exact HB.out | apply below_alloc | apply pw_below_drewN | apply below_drew1) | exact HB.out))) : w.heap.size ≤ gb791)); clear HO789; clear HB; have HO789 := n0_; have HB := n1_; have BK791 := n2_; have GW791 := n3_; have GE791 := n4_; clear n0_ n1_ n2_ n3_ n4_; clear hb hbox hg; have hcz19_0 : w18.cell? ⟨gb791, 0, none⟩ = some (.bool false) := (blk_cell BK791.out 0).trans rfl; have hcz19_1 : w18.cell? ⟨gb791, 1, none⟩ = some (.slice none 0 0) := (blk_cell BK791.out 1).trans rfl; have hfz19_0 := blk_frozen BK791.out 0; have hfz19_1 := blk_frozen BK791.out 1; obtain ⟨Ao20, co20, eo20⟩ := Kd.V_slice HO789.out; subst eo20) | ((with_reducible refine gate_callee (f := 31) rfl ?_); refine goesL_ (some 30) rfl rfl Tryd.func31 (by kernel_rfl) rfl #[.agg #[.bool t786, .slice Ao20 t787.length co20], .int .i64 a1] rfl (by (try simp only [List.map_toArray, List.map_cons, List.map_nil]); first | done | rfl | (simp only [List.length_drop, List.length_take]; rfl)) ?_; (with_reducible refine (integer_Power.calls kj2 t786 _ _ t787 a1 t792 t793 t796 _ ?side1 ?side2 A15.out).mono ?_); (case side1 => refine (Kd.V_reads' (e := 60) (base := w.heap.size) (ok := fun k_ => (True ∧ k_ ≠ gb791)) (n := t787.length) (c := co20) ?_).2.2; exact (by (with_reducible repeat (first | apply Kd.V_alloc | apply Kd.V_drewN | apply Kd.V_drew)); exact (Kd.V_mono (Kd.V_far (p := ⟨gb791, 1, none⟩) (Kd.V_far (p := ⟨gb791, 0, none⟩) (Kd.V_mono HO789.out (fun k_ hk => (⟨hk, hk.2⟩ : _ ∧ k_ ≠ gb791))) (fun _ hk => hk.2) (.bool t786)) (fun _ hk => hk.2) (.slice Ao20 t787.length co20)) (fun _ h_ => h_.1)))); (case side2 => exact (Kd.V_reads' HO789.out).2.1); rintro e w21 ⟨v794, rfl, ho0, hb⟩; refine ⟨_, rfl, ?_⟩; have n0_ := Aside0.mk (Kd.V_below (by (with_reducible repeat (first | apply Kd.V_alloc | apply Kd.V_drewN | apply Kd.V_drew)); exact (Kd.V_mono (Kd.V_far (p := ⟨gb791, 1, none⟩) (Kd.V_far (p := ⟨gb791, 0, none⟩) (Kd.V_mono HO789.out (fun k_ hk => (⟨hk, hk.2⟩ : _ ∧ k_ ≠ gb791))) (fun _ hk => hk.2) (.bool t786)) (fun _ hk => hk.2) (.slice Ao20 t787.length co20)) (fun _ h_ => h_.1))) hb); have n1_ := Aside0.mk (Kd.V_lower (Kd.V_mono (ok' := fun k_ => k_ ≠ gb791) ho0 (fun k_ hk_ => (Kd.freshB (g := gb791) (o := .cells #[.bool t786, .slice Ao20 t787.length co20] 25 (0, 0)) (by (with_reducible repeat (first | refine blk_drewN ?_ _ | refine blk_drew ?_ | refine blk_alloc ?_ _)); refine blk_put (cs := #[.bool t786, .slice none 0 0]) ?_ 1 _ rfl; (with_reducible repeat (first | refine blk_drewN ?_ _ | refine blk_drew ?_ | refine blk_alloc ?_ _)); refine blk_put (cs := #[.bool false, .slice none 0 0]) ?_ 0 _ rfl; (with_reducible repeat (first | refine blk_drewN ?_ _ | refine blk_drew ?_ | refine blk_alloc ?_ _)); exact BK791.out) k_ hk_))) (below_size (by repeat (first | (with_reducible first | exact HB.out | apply below_alloc | apply pw_below_drewN | apply below_drew1 | refine below_set ?_ GE791.out) | exact HB.out)))); have n2_ := Aside0.mk (blk_below (g := gb791) (o := .cells #[.bool t786, .slice Ao20 t787.length co20] 25 (0, 0)) (by (with_reducible repeat (first | refine blk_drewN ?_ _ | refine blk_drew ?_ | refine blk_alloc ?_ _)); refine blk_put (cs := #[.bool t786, .slice none 0 0]) ?_ 1 _ rfl; (with_reducible repeat (first | refine blk_drewN ?_ _ | refine blk_drew ?_ | refine blk_alloc ?_ _)); refine blk_put (cs := #[.bool false, .slice none 0 0]) ?_ 0 _ rfl; (with_reducible repeat (first | refine blk_drewN ?_ _ | refine blk_drew ?_ | refine blk_alloc ?_ _)); exact BK791.out) hb); have n3_ := Aside0.mk (below_step (by repeat (first | (with_reducible first | exact HB.out | apply below_alloc | apply pw_below_drewN | apply below_drew1 | refine below_set ?_ GE791.out) | exact HB.out)) hb); clear HO789; clear BK791; clear HB; have HO789 := n0_; have HO795 := n1_; have BK791 := n2_; have HB := n3_; clear n0_ n1_ n2_ n3_; (try clear hb); (try clear hb2); (try clear hk); (try clear hi); (try clear ho0)) | ((with_reducible refine gate_dst (N := 7) rfl ?_); (try (refine gate_guard (by rfl) ?_; dsimp only)); refine box_event ?hg (N := 7) ?hd (cs := #[.bool false, .slice none 0 0]) (t := 25) ?hr ?_; (case hd => rfl); (case hg => rfl); (case hr => first | (go_simp; done) | (go_simp; rfl)); intro gb797 hg w22 hbox hb; have n0_ := Aside0.mk (Kd.V_below (Kd.V_elderB (by (with_reducible repeat (first | apply Kd.V_alloc | apply Kd.V_drewN | apply Kd.V_drew)); exact HO789.out) gb797 (Nat.le_of_eq hg.symm)) hb); have n1_ := Aside0.mk (Kd.V_below (Kd.V_elderB (by (with_reducible repeat (first | apply Kd.V_alloc | apply Kd.V_drewN | apply Kd.V_drew)); exact HO795.out) gb797 (Nat.le_of_eq hg.symm)) hb); have n2_ := Aside0.mk (blk_below (g := gb791) (o := .cells #[.bool t786, .slice Ao20 t787.length co20] 25 (0, 0)) (by (with_reducible repeat (first | refine blk_drewN ?_ _ | refine blk_drew ?_ | refine blk_alloc ?_ _)); exact BK791.out) hb); have n3_ := Aside0.mk (below_step (by repeat (first | (with_reducible first | exact HB.out | apply below_alloc | apply pw_below_drewN | apply below_drew1 | refine below_set ?_ GE791.out) | exact HB.out)) hb); have n4_ := Aside0.mk (hbox); have n5_ := Aside0.mk ((by rw [hg]; exact (below_size (by repeat (first | (with_reducible first | exact HB.out | apply below_alloc | apply pw_below_drewN | apply below_drew1 | refine below_set ?_ GE791.out) | exact HB.out))) : w.heap.size ≤ gb797)); have n6_ := Aside0.mk ((by rw [hg]; exact (below_size (by repeat (first | (with_reducible first | exact HB.out | apply below_alloc | apply pw_below_drewN | apply below_drew1 | refine below_set ?_ GE791.out) | exact HB.out))) : w.heap.size ≤ gb797)); have n7_ := Aside0.mk ((by rw [hg]; exact Nat.ne_of_lt (blk_lt (g := gb791) (o := .cells #[.bool t786, .slice Ao20 t787.length co20] 25 (0, 0)) (by (with_reducible repeat (first | refine blk_drewN ?_ _ | refine blk_drew ?_ | refine blk_alloc ?_ _)); exact BK791.out)) : gb791 ≠ gb797)); have n8_ := Aside0.mk ((by rw [hg]; exact Nat.ne_of_gt (blk_lt (g := gb791) (o := .cells #[.bool t786, .slice Ao20 t787.length co20] 25 (0, 0)) (by (with_reducible repeat (first | refine blk_drewN ?_ _ | refine blk_drew ?_ | refine blk_alloc ?_ _)); exact BK791.out)) : gb797 ≠ gb791)); clear HO789; clear HO795; clear BK791; clear HB; have HO789 := n0_; have HO795 := n1_; have BK791 := n2_; have HB := n3_; have BK797 := n4_; have GW797 := n5_; have GE797 := n6_; have NB791_797 := n7_; have NB797_791 := n8_; clear n0_ n1_ n2_ n3_ n4_ n5_ n6_ n7_ n8_; clear hb hbox hg; have hnb23 := NB797_791.out; have hnc23 := NB791_797.out; have hcz24_0 : w22.cell? ⟨gb797, 0, none⟩ = some (.bool false) := (blk_cell BK797.out 0).trans rfl; have hcz24_1 : w22.cell? ⟨gb797, 1, none⟩ = some (.slice none 0 0) := (blk_cell BK797.out 1).trans rfl; have hfz24_0 := blk_frozen BK797.out 0; have hfz24_1 := blk_frozen BK797.out 1; obtain ⟨Ao25, co25, eo25⟩ := Kd.V_slice HO795.out; subst eo25))
    (try simp only [Act.put, List.setIfInBounds_toArray, List.set_cons_zero, List.set_cons_succ])
    go_cut [38] (fun v38 wc => ∃ (kq : Nat) (x38_15 : Bool), v38 = .bool x38_15 ∧ Aside0 (dowellaw01_IntegerPowers.j1 kq a0 a1 t790 t796 x38_15 t792 t793 = some r) ∧ Aside0 (kq ≤ kj2) ∧ Aside0 (Kd.V (Kd.int .u32) 60 wc w.heap.size (fun k_ => k_ ≠ gb791 ∧ k_ ≠ gb797) (.slice Ao20 t787.length co20) t787) ∧ Aside0 (Kd.V (Kd.int .u32) 60 wc w.heap.size (fun k_ => k_ ≠ gb791 ∧ k_ ≠ gb797) (.slice Ao25 t793.length co25) t793) ∧ Aside0 (wc.heap[gb791]? = some (.cells #[.bool t786, (.slice Ao20 t787.length co20)] 25 (0, 0))) ∧ Aside0 (wc.heap[gb797]? = some (.cells #[.bool t792, (.slice Ao25 t793.length co25)] 25 (0, 0))) ∧ Aside0 (Below w.heap.size w wc))
    case first =>
     have H := HC16.out
     clear HC16
     by_cases c26 : a1 < 0
     ·
      rw [if_pos c26] at H
      have c26b0 : decide (a1 < 0) = true := decide_eq_true c26
      clear c26
      (first | rw [c26b0] | (simp only [i64_w, i32_w]; rw [c26b0]) | skip)
      have H' := Aside0.mk H
      clear H
      go_wp2
      go_meet
      case rel => exact ⟨_, (true), (by first | rfl | (simp; done) | (simp [*]; done) | (simp <;> omega)), H', ⟨by have := HJ2.out; first | omega | exact Nat.le_refl _⟩, ⟨by (with_reducible repeat (first | apply Kd.V_alloc | apply Kd.V_drewN | apply Kd.V_drew)); exact Kd.V_mono (Kd.V_far (p := ⟨gb797, 1, none⟩) (Kd.V_far (p := ⟨gb797, 0, none⟩) (Kd.V_mono HO789.out (fun k_ hk => (⟨hk, hk.2⟩ : _ ∧ k_ ≠ gb797))) (fun _ hk => hk.2) (.bool t792)) (fun _ hk => hk.2) (.slice Ao25 t793.length co25)) (fun _ hk => ⟨hk.1.1.2, hk.1.2⟩)⟩, ⟨by (with_reducible repeat (first | apply Kd.V_alloc | apply Kd.V_drewN | apply Kd.V_drew)); exact Kd.V_mono (Kd.V_far (p := ⟨gb797, 1, none⟩) (Kd.V_far (p := ⟨gb797, 0, none⟩) (Kd.V_mono HO795.out (fun k_ hk => (⟨hk, hk.2⟩ : _ ∧ k_ ≠ gb797))) (fun _ hk => hk.2) (.bool t792)) (fun _ hk => hk.2) (.slice Ao25 t793.length co25)) (fun _ hk => ⟨hk.1.1, hk.1.2⟩)⟩, ⟨by (with_reducible repeat (first | refine blk_drewN ?_ _ | refine blk_drew ?_ | refine blk_alloc ?_ _)); refine blk_far ?_ NB791_797.out _; (with_reducible repeat (first | refine blk_drewN ?_ _ | refine blk_drew ?_ | refine blk_alloc ?_ _)); refine blk_far ?_ NB791_797.out _; (with_reducible repeat (first | refine blk_drewN ?_ _ | refine blk_drew ?_ | refine blk_alloc ?_ _)); exact BK791.out⟩, ⟨by (with_reducible repeat (first | refine blk_drewN ?_ _ | refine blk_drew ?_ | refine blk_alloc ?_ _)); refine blk_put (cs := #[.bool t792, .slice none 0 0]) ?_ 1 _ rfl; (with_reducible repeat (first | refine blk_drewN ?_ _ | refine blk_drew ?_ | refine blk_alloc ?_ _)); refine blk_put (cs := #[.bool false, .slice none 0 0]) ?_ 0 _ rfl; (with_reducible repeat (first | refine blk_drewN ?_ _ | refine blk_drew ?_ | refine blk_alloc ?_ _)); exact BK797.out⟩, ⟨by repeat (first | (with_reducible first | exact HB.out | apply below_alloc | apply pw_below_drewN | apply below_drew1 | refine below_set ?_ GE791.out | refine below_set ?_ GE797.out) | exact HB.out)⟩⟩
     ·
      rw [if_neg c26] at H
      have c26b0 : decide (a1 < 0) = false := decide_eq_false c26
      clear c26
      (first | rw [c26b0] | (simp only [i64_w, i32_w]; rw [c26b0]) | skip)
      have H' := Aside0.mk H
      clear H
      go_wp2
      go_meet
      case rel => exact ⟨_, (decide (a1 > 64)), (by first | rfl | (simp; done) | (simp [*]; done) | (simp <;> omega)), H', ⟨by have := HJ2.out; first | omega | exact Nat.le_refl _⟩, ⟨by (with_reducible repeat (first | apply Kd.V_alloc | apply Kd.V_drewN | apply Kd.V_drew)); exact Kd.V_mono (Kd.V_far (p := ⟨gb797, 1, none⟩) (Kd.V_far (p := ⟨gb797, 0, none⟩) (Kd.V_mono HO789.out (fun k_ hk => (⟨hk, hk.2⟩ : _ ∧ k_ ≠ gb797))) (fun _ hk => hk.2) (.bool t792)) (fun _ hk => hk.2) (.slice Ao25 t793.length co25)) (fun _ hk => ⟨hk.1.1.2, hk.1.2⟩)⟩, ⟨by (with_reducible repeat (first | apply Kd.V_alloc | apply Kd.V_drewN | apply Kd.V_drew)); exact Kd.V_mono (Kd.V_far (p := ⟨gb797, 1, none⟩) (Kd.V_far (p := ⟨gb797, 0, none⟩) (Kd.V_mono HO795.out (fun k_ hk => (⟨hk, hk.2⟩ : _ ∧ k_ ≠ gb797))) (fun _ hk => hk.2) (.bool t792)) (fun _ hk => hk.2) (.slice Ao25 t793.length co25)) (fun _ hk => ⟨hk.1.1, hk.1.2⟩)⟩, ⟨by (with_reducible repeat (first | refine blk_drewN ?_ _ | refine blk_drew ?_ | refine blk_alloc ?_ _)); refine blk_far ?_ NB791_797.out _; (with_reducible repeat (first | refine blk_drewN ?_ _ | refine blk_drew ?_ | refine blk_alloc ?_ _)); refine blk_far ?_ NB791_797.out _; (with_reducible repeat (first | refine blk_drewN ?_ _ | refine blk_drew ?_ | refine blk_alloc ?_ _)); exact BK791.out⟩, ⟨by (with_reducible repeat (first | refine blk_drewN ?_ _ | refine blk_drew ?_ | refine blk_alloc ?_ _)); refine blk_put (cs := #[.bool t792, .slice none 0 0]) ?_ 1 _ rfl; (with_reducible repeat (first | refine blk_drewN ?_ _ | refine blk_drew ?_ | refine blk_alloc ?_ _)); refine blk_put (cs := #[.bool false, .slice none 0 0]) ?_ 0 _ rfl; (with_reducible repeat (first | refine blk_drewN ?_ _ | refine blk_drew ?_ | refine blk_alloc ?_ _)); exact BK797.out⟩, ⟨by repeat (first | (with_reducible first | exact HB.out | apply below_alloc | apply pw_below_drewN | apply below_drew1 | refine below_set ?_ GE791.out | refine below_set ?_ GE797.out) | exact HB.out)⟩⟩
    case rest =>
     clear HC16
     try clear c1
     try clear c2
     try clear p2
     try clear c3
     try clear c5
     try clear c7
     try clear c8
     try clear c11
     try clear c14
     try clear c23
     try clear c24
     try clear c26
     try clear c26b0
     try clear hcz19_0
     try clear hcz19_1
     try clear hcz24_0
     try clear hcz24_1
     try clear hfz19_0
     try clear hfz19_1
     try clear hfz24_0
     try clear hfz24_1
     try clear p2
     obtain ⟨kq, x38_15, rfl, HA, HJ15, HO_792001, HO_798001, BK791, BK797, HB⟩ := hcut
     cases kq with
     | zero => exact absurd HA.out (by simp [dowellaw01_IntegerPowers.j1])
     | succ kj15 =>
      have H := HA.out
      clear HA
      simp only [dowellaw01_IntegerPowers.j1] at H
      by_cases c27 : x38_15 = true
      ·
       subst c27
       have H1 : (if t790 = true then ((integer_Int_Text.f kj15 t792 t793).bind fun t798 => (if t798.toList = ([48] : List UInt8) then (some (t796 == 2)) else (none))) else (none)) = some r := by rw [if_pos rfl] at H; exact H
       clear H
       have H := H1
       clear H1
       by_cases c28 : t790 = true
       ·
        subst c28
        have H1 : ((integer_Int_Text.f kj15 t792 t793).bind fun t798 => (if t798.toList = ([48] : List UInt8) then (some (t796 == 2)) else (none))) = some r := by rw [if_pos rfl] at H; exact H
        clear H
        have H := H1
        clear H1
        replace H := Option.bind_eq_some_iff.mp H
        obtain ⟨t798, A290, H⟩ := H
        replace H : (if t798.toList = ([48] : List UInt8) then (some (t796 == 2)) else (none)) = some r := H
        have A29 := Aside0.mk A290
        clear A290
        by_cases c30 : t798.toList = ([48] : List UInt8)
        ·
         rw [if_pos c30] at H
         have c30b0 : (t798.toList == ([48] : List UInt8)) = true := beq_iff_eq.mpr c30
         have c30b1 : (t798.toList != ([48] : List UInt8)) = false := bne_eq_false_iff_eq.mpr c30
         clear c30
         obtain rfl := Option.some.inj H
         have hnb31 := NB797_791.out
         have hnc31 := NB791_797.out
         have hcz32_0 : wc.cell? ⟨gb797, 0, none⟩ = some (.bool t792) := (blk_cell BK797.out 0).trans rfl
         have hcz32_1 : wc.cell? ⟨gb797, 1, none⟩ = some (.slice Ao25 t793.length co25) := (blk_cell BK797.out 1).trans rfl
         have hfz32_0 := blk_frozen BK797.out 0
         have hfz32_1 := blk_frozen BK797.out 1
         go_wp2_with (first | (go_at_call 17; (with_reducible refine (integer_Int_Text.calls kj15 t792 (fun k_ => (k_ ≠ gb791 ∧ k_ ≠ gb797)) _ _ t793 t798 _ ?side1 ?side2 A29.out).mono ?_); (case side1 => exact HO_798001.out); (case side2 => exact G_below HG.out (by repeat (first | (with_reducible first | exact HB.out | apply below_alloc | apply pw_below_drewN | apply below_drew1 | refine below_set ?_ GE791.out | refine below_set ?_ GE797.out) | exact HB.out))); rintro e w33 ⟨rfl, hb⟩; have n0_ := Aside0.mk (Kd.V_below (by (with_reducible repeat (first | apply Kd.V_alloc | apply Kd.V_drewN | apply Kd.V_drew)); exact HO_792001.out) hb); have n1_ := Aside0.mk (Kd.V_below (by (with_reducible repeat (first | apply Kd.V_alloc | apply Kd.V_drewN | apply Kd.V_drew)); exact HO_798001.out) hb); have n2_ := Aside0.mk (blk_below (g := gb791) (o := .cells #[.bool t786, .slice Ao20 t787.length co20] 25 (0, 0)) (by (with_reducible repeat (first | refine blk_drewN ?_ _ | refine blk_drew ?_ | refine blk_alloc ?_ _)); exact BK791.out) hb); have n3_ := Aside0.mk (blk_below (g := gb797) (o := .cells #[.bool t792, .slice Ao25 t793.length co25] 25 (0, 0)) (by (with_reducible repeat (first | refine blk_drewN ?_ _ | refine blk_drew ?_ | refine blk_alloc ?_ _)); exact BK797.out) hb); have n4_ := Aside0.mk (below_step (by repeat (first | (with_reducible first | exact HB.out | apply below_alloc | apply pw_below_drewN | apply below_drew1 | refine below_set ?_ GE791.out | refine below_set ?_ GE797.out) | exact HB.out)) hb); clear HO_792001; clear HO_798001; clear BK791; clear BK797; clear HB; have HO_792001 := n0_; have HO_798001 := n1_; have BK791 := n2_; have BK797 := n3_; have HB := n4_; clear n0_ n1_ n2_ n3_ n4_; (try clear hb); (try clear hb2); (try clear hk); (try clear hi)))
         go_ret
         exact ⟨by first | rfl | (simp [errW_none, errW_some] <;> rfl) | (simp [*, errW_none, errW_some] <;> rfl), by repeat (first | (with_reducible first | exact HB.out | apply below_alloc | apply pw_below_drewN | apply below_drew1 | refine below_set ?_ GE791.out | refine below_set ?_ GE797.out) | exact HB.out)⟩
        ·
         rw [if_neg c30] at H
         exact absurd H (by simp)
       ·
        replace c28 := Bool.eq_false_iff.mpr c28
        subst c28
        have H1 : (none) = some r := by rw [if_neg (show ¬ (false = true) by decide)] at H; exact H
        clear H
        have H := H1
        clear H1
        exact absurd H (by simp)
      ·
       replace c27 := Bool.eq_false_iff.mpr c27
       subst c27
       have H1 : (if t790 = true then ((integer_Int_Text.f kj15 t792 t793).bind fun t799 => ((dowelref01_Power.f kj15 a0 a1).bind fun t800 => (if t799.toList = t800.toList then (some (t796 == 0)) else (none)))) else (none)) = some r := by rw [if_neg (show ¬ (false = true) by decide)] at H; exact H
       clear H
       have H := H1
       clear H1
       by_cases c34 : t790 = true
       ·
        subst c34
        have H1 : ((integer_Int_Text.f kj15 t792 t793).bind fun t799 => ((dowelref01_Power.f kj15 a0 a1).bind fun t800 => (if t799.toList = t800.toList then (some (t796 == 0)) else (none)))) = some r := by rw [if_pos rfl] at H; exact H
        clear H
        have H := H1
        clear H1
        replace H := Option.bind_eq_some_iff.mp H
        obtain ⟨t799, A350, H⟩ := H
        replace H : ((dowelref01_Power.f kj15 a0 a1).bind fun t800 => (if t799.toList = t800.toList then (some (t796 == 0)) else (none))) = some r := H
        have A35 := Aside0.mk A350
        clear A350
        replace H := Option.bind_eq_some_iff.mp H
        obtain ⟨t800, A360, H⟩ := H
        replace H : (if t799.toList = t800.toList then (some (t796 == 0)) else (none)) = some r := H
        have A36 := Aside0.mk A360
        clear A360
        by_cases c37 : t799.toList = t800.toList
        ·
         rw [if_pos c37] at H
         have c37b0 : (t799.toList == t800.toList) = true := beq_iff_eq.mpr c37
         have c37b1 : (t799.toList != t800.toList) = false := bne_eq_false_iff_eq.mpr c37
         clear c37
         obtain rfl := Option.some.inj H
         have hnb38 := NB797_791.out
         have hnc38 := NB791_797.out
         have hcz39_0 : wc.cell? ⟨gb797, 0, none⟩ = some (.bool t792) := (blk_cell BK797.out 0).trans rfl
         have hcz39_1 : wc.cell? ⟨gb797, 1, none⟩ = some (.slice Ao25 t793.length co25) := (blk_cell BK797.out 1).trans rfl
         have hfz39_0 := blk_frozen BK797.out 0
         have hfz39_1 := blk_frozen BK797.out 1
         go_wp2_with (first | (go_at_call 17; (with_reducible refine (integer_Int_Text.calls kj15 t792 (fun k_ => (k_ ≠ gb791 ∧ k_ ≠ gb797)) _ _ t793 t799 _ ?side1 ?side2 A35.out).mono ?_); (case side1 => exact HO_798001.out); (case side2 => exact G_below HG.out (by repeat (first | (with_reducible first | exact HB.out | apply below_alloc | apply pw_below_drewN | apply below_drew1 | refine below_set ?_ GE791.out | refine below_set ?_ GE797.out) | exact HB.out))); rintro e w40 ⟨rfl, hb⟩; have n0_ := Aside0.mk (Kd.V_below (by (with_reducible repeat (first | apply Kd.V_alloc | apply Kd.V_drewN | apply Kd.V_drew)); exact HO_792001.out) hb); have n1_ := Aside0.mk (Kd.V_below (by (with_reducible repeat (first | apply Kd.V_alloc | apply Kd.V_drewN | apply Kd.V_drew)); exact HO_798001.out) hb); have n2_ := Aside0.mk (blk_below (g := gb791) (o := .cells #[.bool t786, .slice Ao20 t787.length co20] 25 (0, 0)) (by (with_reducible repeat (first | refine blk_drewN ?_ _ | refine blk_drew ?_ | refine blk_alloc ?_ _)); exact BK791.out) hb); have n3_ := Aside0.mk (blk_below (g := gb797) (o := .cells #[.bool t792, .slice Ao25 t793.length co25] 25 (0, 0)) (by (with_reducible repeat (first | refine blk_drewN ?_ _ | refine blk_drew ?_ | refine blk_alloc ?_ _)); exact BK797.out) hb); have n4_ := Aside0.mk (below_step (by repeat (first | (with_reducible first | exact HB.out | apply below_alloc | apply pw_below_drewN | apply below_drew1 | refine below_set ?_ GE791.out | refine below_set ?_ GE797.out) | exact HB.out)) hb); clear HO_792001; clear HO_798001; clear BK791; clear BK797; clear HB; have HO_792001 := n0_; have HO_798001 := n1_; have BK791 := n2_; have BK797 := n3_; have HB := n4_; clear n0_ n1_ n2_ n3_ n4_; (try clear hb); (try clear hb2); (try clear hk); (try clear hi)) | (go_at_call 32; (with_reducible refine (dowelref01_Power.calls kj15 a0 a1 t800 _ A36.out).mono ?_); rintro e w41 ⟨rfl, hb⟩; have n0_ := Aside0.mk (Kd.V_below (by (with_reducible repeat (first | apply Kd.V_alloc | apply Kd.V_drewN | apply Kd.V_drew)); exact HO_792001.out) hb); have n1_ := Aside0.mk (Kd.V_below (by (with_reducible repeat (first | apply Kd.V_alloc | apply Kd.V_drewN | apply Kd.V_drew)); exact HO_798001.out) hb); have n2_ := Aside0.mk (blk_below (g := gb791) (o := .cells #[.bool t786, .slice Ao20 t787.length co20] 25 (0, 0)) (by (with_reducible repeat (first | refine blk_drewN ?_ _ | refine blk_drew ?_ | refine blk_alloc ?_ _)); exact BK791.out) hb); have n3_ := Aside0.mk (blk_below (g := gb797) (o := .cells #[.bool t792, .slice Ao25 t793.length co25] 25 (0, 0)) (by (with_reducible repeat (first | refine blk_drewN ?_ _ | refine blk_drew ?_ | refine blk_alloc ?_ _)); exact BK797.out) hb); have n4_ := Aside0.mk (below_step (by repeat (first | (with_reducible first | exact HB.out | apply below_alloc | apply pw_below_drewN | apply below_drew1 | refine below_set ?_ GE791.out | refine below_set ?_ GE797.out) | exact HB.out)) hb); clear HO_792001; clear HO_798001; clear BK791; clear BK797; clear HB; have HO_792001 := n0_; have HO_798001 := n1_; have BK791 := n2_; have BK797 := n3_; have HB := n4_; clear n0_ n1_ n2_ n3_ n4_; (try clear hb); (try clear hb2); (try clear hk); (try clear hi)))
         go_ret
         exact ⟨by first | rfl | (simp [errW_none, errW_some] <;> rfl) | (simp [*, errW_none, errW_some] <;> rfl), by repeat (first | (with_reducible first | exact HB.out | apply below_alloc | apply pw_below_drewN | apply below_drew1 | refine below_set ?_ GE791.out | refine below_set ?_ GE797.out) | exact HB.out)⟩
        ·
         rw [if_neg c37] at H
         exact absurd H (by simp)
       ·
        replace c34 := Bool.eq_false_iff.mpr c34
        subst c34
        have H1 : (none) = some r := by rw [if_neg (show ¬ (false = true) by decide)] at H; exact H
        clear H
        have H := H1
        clear H1
        exact absurd H (by simp)
def dowellaw01_IntegerPowers.Pure : Prop := ∀ (a0 : ByteArray) (a1 : Int), a0.size ≤ 140737488351232 → (Lit.int .i64 a1).wf = true → ∃ k, dowellaw01_IntegerPowers.f k a0 a1 = some true
theorem dowellaw01_IntegerPowers.walk (P : dowellaw01_IntegerPowers.Pure) (a0 : ByteArray) (a1 : Int) (w : World) (hG : G w) (w0 : a0.size ≤ 140737488351232) (w1 : (Lit.int .i64 a1).wf = true) :
  Calls Tryd.prog 8 #[.string a0, .int .i64 a1] w fun e w' => e = .returned (.bool true) ∧ Below w.heap.size w w' := by
 obtain ⟨k, h⟩ := P a0 a1 w0 w1
 refine (dowellaw01_IntegerPowers.calls k a0 a1 true w hG h).mono ?_
 rintro e w' ⟨rfl, hd⟩
 exact ⟨rfl, hd⟩
end Go.Proofs.YtiikfhdmclmjmaaDoor.P
namespace Go.Proofs.YtiikfhdmclmjmaaDoor.Pure
open Go.RowKit Go.Proofs.YtiikfhdmclmjmaaDoorW.PrintWords
set_option linter.unusedVariables false
set_option linter.unusedSimpArgs false
theorem Ev.pos {α : Type} {c : Prop} [Decidable c] {A B : Nat → Option α} {r : α} (h : c) (k : Ev A r) : Ev (fun n => if c then A n else B n) r := by
  obtain ⟨K, k⟩ := k
  exact ⟨K, fun n hn => by show (if c then A n else B n) = some r; rw [if_pos h]; exact k n hn⟩
theorem Ev.neg {α : Type} {c : Prop} [Decidable c] {A B : Nat → Option α} {r : α} (h : ¬ c) (k : Ev B r) : Ev (fun n => if c then A n else B n) r := by
  obtain ⟨K, k⟩ := k
  exact ⟨K, fun n hn => by show (if c then A n else B n) = some r; rw [if_neg h]; exact k n hn⟩
theorem Ev.bind0 {α β : Type} {o : Option α} {f : Nat → α → Option β} {a : α} {r : β} (h : o = some a) (k : Ev (fun n => f n a) r) : Ev (fun n => o.bind (f n)) r := by
  subst h
  exact k
theorem Ev.some_ {α : Type} {a r : α} (h : a = r) : Ev (fun _ => some a) r := h ▸ Ev.now a
theorem Ev.bindS {α β : Type} {f : Nat → α → Option β} {a : α} {r : β} (k : Ev (fun n => f n a) r) : Ev (fun n => (some a).bind (f n)) r := k
theorem w64 (z : Int) (h0 : -9223372036854775808 ≤ z) (h1 : z ≤ 9223372036854775807) : wrap64 z = z := by unfold wrap64; omega
theorem wsucc {j n : Nat} (h : j < n) (hn : n ≤ 9223372036854775807) : wrap64 ((j : Int) + 1) = ((j + 1 : Nat) : Int) := by rw [w64 _ (by omega) (by omega)]; omega
theorem wadd {i j : Nat} (h : i + j ≤ 9223372036854775807) : wrap64 ((i : Int) + (j : Int)) = ((i + j : Nat) : Int) := by rw [w64 _ (by omega) (by omega)]; omega
theorem u64 (z : Int) : IntKind.u64.wrap z = z % 18446744073709551616 := rfl
theorem u64s (z : Int) (h0 : 0 ≤ z) (h1 : z < 18446744073709551616) : IntKind.u64.wrap z = z := by rw [u64]; omega
def val (B : Int) : List Int → Int
  | [] => 0
  | d :: l => d + B * val B l
def Digs (B : Int) (l : List Int) : Prop := ∀ d ∈ l, 0 ≤ d ∧ d < B
def Norm (l : List Int) : Prop := ∀ d, l.getLast? = some d → d ≠ 0
theorem Digs.cons {B d : Int} {l : List Int} (h : Digs B (d :: l)) : (0 ≤ d ∧ d < B) ∧ Digs B l := ⟨h d (by simp), fun x hx => h x (by simp [hx])⟩
theorem Digs.mk {B d : Int} {l : List Int} (h0 : 0 ≤ d) (h1 : d < B) (h : Digs B l) : Digs B (d :: l) := by
  intro x hx
  rcases List.mem_cons.1 hx with rfl | hx
  · exact ⟨h0, h1⟩
  · exact h x hx
theorem Digs.nil (B : Int) : Digs B [] := fun d h => by cases h
theorem Digs.app {B : Int} {l m : List Int} (h : Digs B l) (k : Digs B m) : Digs B (l ++ m) := by
  intro x hx
  rcases List.mem_append.1 hx with hx | hx
  · exact h x hx
  · exact k x hx
theorem Digs.left {B : Int} {l m : List Int} (h : Digs B (l ++ m)) : Digs B l := fun x hx => h x (List.mem_append_left _ hx)
theorem Digs.take {B : Int} {l : List Int} (h : Digs B l) (n : Nat) : Digs B (l.take n) := fun x hx => h x (List.mem_of_mem_take hx)
theorem Digs.drop {B : Int} {l : List Int} (h : Digs B l) (n : Nat) : Digs B (l.drop n) := fun x hx => h x (List.mem_of_mem_drop hx)
theorem Digs.zeros (B : Int) (hB : 0 < B) (n : Nat) : Digs B (List.replicate n 0) := fun x hx => by
  rw [List.eq_of_mem_replicate hx]
  omega
theorem val_nonneg {B : Int} (hB : 0 < B) : ∀ {l : List Int}, Digs B l → 0 ≤ val B l
  | [], _ => Int.le_refl _
  | d :: l, h => by
    have := val_nonneg hB h.cons.2
    have h1 := h.cons.1.1
    have := Int.mul_nonneg (Int.le_of_lt hB) this
    simp only [val]
    omega
theorem val_app (B : Int) : ∀ (l m : List Int), val B (l ++ m) = val B l + B ^ l.length * val B m
  | [], m => by simp [val]
  | d :: l, m => by
    simp only [List.cons_append, val, List.length_cons]
    rw [val_app B l m, Int.pow_succ, Int.mul_add, Int.mul_comm (B ^ l.length) B, Int.mul_assoc]
    omega
theorem val_zeros (B : Int) : ∀ n, val B (List.replicate n 0) = 0
  | 0 => rfl
  | n + 1 => by simp [List.replicate_succ, val, val_zeros B n]
theorem val_lt {B : Int} (hB : 0 < B) : ∀ {l : List Int}, Digs B l → val B l < B ^ l.length
  | [], _ => by simp [val]
  | d :: l, h => by
    have h1 := val_lt hB h.cons.2
    have h2 := h.cons.1.2
    simp only [val, List.length_cons]
    rw [Int.pow_succ, Int.mul_comm (B ^ l.length) B]
    have : B * (val B l + 1) ≤ B * B ^ l.length := Int.mul_le_mul_of_nonneg_left (by omega) (Int.le_of_lt hB)
    rw [Int.mul_add, Int.mul_one] at this
    omega
theorem getLast?_tail {d : Int} {l : List Int} (h : l ≠ []) : (d :: l).getLast? = l.getLast? := by
  cases l with
  | nil => exact absurd rfl h
  | cons a l => rfl
theorem Norm.tail {d : Int} {l : List Int} (h : Norm (d :: l)) : Norm l := by
  intro x hx
  cases l with
  | nil => simp at hx
  | cons a l => exact h x (by rw [getLast?_tail (by simp)]; exact hx)
theorem Norm.nil : Norm [] := fun d h => by simp at h
theorem norm_pos {B : Int} (hB : 0 < B) : ∀ {l : List Int}, Digs B l → Norm l → l ≠ [] → 0 < val B l
  | [], _, _, h => absurd rfl h
  | [d], hd, hn, _ => by
    have h1 := hd.cons.1.1
    have h2 := hn d rfl
    simp only [val]
    omega
  | d :: e :: l, hd, hn, _ => by
    have := norm_pos hB hd.cons.2 hn.tail (by simp)
    have h1 := hd.cons.1.1
    have h2 := Int.mul_pos hB this
    simp only [val] at *
    omega
theorem val_uniq {B : Int} (hB : 0 < B) : ∀ {l m : List Int}, Digs B l → Digs B m → Norm l → Norm m → val B l = val B m → l = m
  | [], [], _, _, _, _, _ => rfl
  | [], b :: m, _, hm, _, nm, h => by
    have := norm_pos hB hm nm (by simp)
    rw [← h] at this
    exact absurd this (by simp [val])
  | a :: l, [], hl, _, nl, _, h => by
    have := norm_pos hB hl nl (by simp)
    rw [h] at this
    exact absurd this (by simp [val])
  | a :: l, b :: m, hl, hm, nl, nm, h => by
    simp only [val] at h
    have ha := hl.cons.1
    have hb := hm.cons.1
    have e1 : a = b := by
      have h1 : (a + B * val B l) % B = a := by rw [Int.add_mul_emod_self_left]; exact Int.emod_eq_of_lt ha.1 ha.2
      have h2 : (b + B * val B m) % B = b := by rw [Int.add_mul_emod_self_left]; exact Int.emod_eq_of_lt hb.1 hb.2
      rw [← h1, ← h2, h]
    subst e1
    have e2 : val B l = val B m := by
      have : B * val B l = B * val B m := by omega
      exact Int.eq_of_mul_eq_mul_left (by omega) this
    rw [val_uniq hB hl.cons.2 hm.cons.2 nl.tail nm.tail e2]
def dgs (B : Nat) (n : Nat) : List Int := if h : n = 0 ∨ B < 2 then [] else ((n % B : Nat) : Int) :: dgs B (n / B)
termination_by n
decreasing_by exact Nat.div_lt_self (by omega) (by omega)
theorem dgs_zero (B : Nat) : dgs B 0 = [] := by rw [dgs]; simp
theorem dgs_pos {B n : Nat} (hB : 2 ≤ B) (hn : 0 < n) : dgs B n = ((n % B : Nat) : Int) :: dgs B (n / B) := by rw [dgs, dif_neg (by omega)]
theorem dgs_all {B : Nat} (hB : 2 ≤ B) (n : Nat) : Digs B (dgs B n) ∧ Norm (dgs B n) ∧ val B (dgs B n) = n := by
  induction n using Nat.strongRecOn with
  | _ n ih =>
    rcases Nat.eq_zero_or_pos n with rfl | h
    · rw [dgs_zero]
      exact ⟨Digs.nil _, Norm.nil, rfl⟩
    · obtain ⟨h1, h2, h3⟩ := ih (n / B) (Nat.div_lt_self h (by omega))
      rw [dgs_pos hB h]
      have hm : n % B < B := Nat.mod_lt _ (by omega)
      refine ⟨Digs.mk (by omega) (by omega) h1, ?_, ?_⟩
      · intro d hd
        by_cases hz : n / B = 0
        · rw [hz, dgs_zero] at hd
          simp at hd
          have := Nat.div_add_mod n B
          rw [hz] at this
          omega
        · have hne : dgs B (n / B) ≠ [] := by rw [dgs_pos hB (Nat.pos_of_ne_zero hz)]; simp
          rw [getLast?_tail hne] at hd
          exact h2 d hd
      · simp only [val]
        rw [h3]
        have := Nat.mod_add_div n B
        exact_mod_cast this
theorem dgs_digs {B : Nat} (hB : 2 ≤ B) (n : Nat) : Digs B (dgs B n) := (dgs_all hB n).1
theorem dgs_norm {B : Nat} (hB : 2 ≤ B) (n : Nat) : Norm (dgs B n) := (dgs_all hB n).2.1
theorem dgs_val {B : Nat} (hB : 2 ≤ B) (n : Nat) : val B (dgs B n) = n := (dgs_all hB n).2.2
theorem dgs_of {B : Nat} (hB : 2 ≤ B) {l : List Int} {n : Nat} (h1 : Digs B l) (h2 : Norm l) (h3 : val B l = n) : l = dgs B n :=
  val_uniq (by omega) h1 (dgs_digs hB n) h2 (dgs_norm hB n) (by rw [h3, dgs_val hB])
theorem dgs_nil {B : Nat} (hB : 2 ≤ B) {n : Nat} : dgs B n = [] ↔ n = 0 := by
  constructor
  · intro h
    rcases Nat.eq_zero_or_pos n with h0 | h0
    · exact h0
    · rw [dgs_pos hB h0] at h
      cases h
  · rintro rfl
    exact dgs_zero B
def trimL (l : List Int) : List Int := (l.reverse.dropWhile (· == 0)).reverse
theorem trimL_snoc0 (l : List Int) : trimL (l ++ [0]) = trimL l := by simp [trimL]
theorem trimL_snoc {d : Int} (l : List Int) (h : d ≠ 0) : trimL (l ++ [d]) = l ++ [d] := by simp [trimL, h]
theorem trimL_ind {P : List Int → List Int → Prop} (h0 : P [] []) (h1 : ∀ l r, P l r → P (l ++ [0]) r) (h2 : ∀ l d, d ≠ 0 → P (l ++ [d]) (l ++ [d])) (l : List Int) : P l (trimL l) := by
  induction hn : l.length generalizing l with
  | zero =>
    obtain rfl := List.length_eq_zero_iff.1 hn
    exact h0
  | succ n ih =>
    obtain ⟨m, d, rfl⟩ : ∃ m d, l = m ++ [d] := ⟨l.dropLast, l.getLast (by intro h; simp [h] at hn), (List.dropLast_concat_getLast _).symm⟩
    by_cases hd : d = 0
    · subst hd
      rw [trimL_snoc0]
      exact h1 m _ (ih m (by simp at hn; omega))
    · rw [trimL_snoc m hd]
      exact h2 m d hd
theorem trimL_val (B : Int) (l : List Int) : val B (trimL l) = val B l :=
  trimL_ind (P := fun l r => val B r = val B l) rfl (fun l r h => by rw [h, val_app]; simp [val]) (fun _ _ _ => rfl) l
theorem trimL_digs {B : Int} {l : List Int} (h : Digs B l) : Digs B (trimL l) :=
  trimL_ind (P := fun l r => Digs B l → Digs B r) (fun h => h) (fun l r k h => k h.left) (fun _ _ _ h => h) l h
theorem trimL_norm (l : List Int) : Norm (trimL l) :=
  trimL_ind (P := fun _ r => Norm r) Norm.nil (fun _ _ h => h) (fun l d hd x hx => by simp at hx; omega) l
theorem trimL_len (l : List Int) : (trimL l).length ≤ l.length :=
  trimL_ind (P := fun l r => r.length ≤ l.length) (Nat.le_refl _) (fun l r h => by simp; omega) (fun _ _ _ => Nat.le_refl _) l
theorem trimL_of_norm {l : List Int} (h : Norm l) : trimL l = l := by
  rcases List.eq_nil_or_concat l with rfl | ⟨m, d, rfl⟩
  · rfl
  · rw [List.concat_eq_append] at *
    exact trimL_snoc m (h d (by simp))
theorem trimL_dgs {B : Nat} (hB : 2 ≤ B) {l : List Int} {n : Nat} (h1 : Digs B l) (h3 : val B l = n) : trimL l = dgs B n :=
  dgs_of hB (trimL_digs h1) (trimL_norm l) (by rw [trimL_val, h3])
theorem dgs_len {B : Nat} (hB : 2 ≤ B) : ∀ (m n : Nat), n < B ^ m → (dgs B n).length ≤ m
  | 0, n, h => by
    have : n = 0 := by simpa using h
    subst this
    simp [dgs_zero]
  | m + 1, n, h => by
    rcases Nat.eq_zero_or_pos n with rfl | hn
    · simp [dgs_zero]
    · rw [dgs_pos hB hn, List.length_cons]
      have : n / B < B ^ m := by
        rw [Nat.pow_succ, Nat.mul_comm] at h
        exact Nat.div_lt_of_lt_mul h
      have := dgs_len hB m (n / B) this
      omega
theorem rd_at {l : List Int} {i : Nat} (h : i < l.length) : rd l (i : Int) = l[i] := by
  unfold rd
  simp [List.getD_eq_getElem?_getD, h]
theorem rd_digs {B : Int} {l : List Int} (hl : Digs B l) {i : Nat} (h : i < l.length) : 0 ≤ rd l (i : Int) ∧ rd l (i : Int) < B := by
  rw [rd_at h]
  exact hl _ (List.getElem_mem h)
theorem drop_at {l : List Int} {i : Nat} (h : i < l.length) : l.drop i = rd l (i : Int) :: l.drop (i + 1) := by
  rw [rd_at h]
  exact List.drop_eq_getElem_cons h
theorem set_at (l : List Int) (z x : Int) (n : Nat) : (l ++ List.replicate (n + 1) z).set l.length x = (l ++ [x]) ++ List.replicate n z := by
  rw [List.set_append_right _ _ (Nat.le_refl _), Nat.sub_self, List.replicate_succ, List.set_cons_zero, List.append_assoc]
  rfl
theorem take_at {l : List Int} {i : Nat} (h : i < l.length) : l.take (i + 1) = l.take i ++ [rd l (i : Int)] := by
  rw [rd_at h, List.take_succ_eq_append_getElem h]
end Go.Proofs.YtiikfhdmclmjmaaDoor.Pure
namespace Go.Proofs.YtiikfhdmclmjmaaDoor.P
open Go.RowKit Go.Proofs.YtiikfhdmclmjmaaDoorW.PrintWords Go.Proofs.YtiikfhdmclmjmaaDoorW.PrintLast
set_option linter.unusedVariables false
set_option linter.unusedSimpArgs false
def integer_Abs.f (a0_0 : Bool) (l0_1 : List Int) : Option (Bool × List Int) := some (false, l0_1)
def integer_Compare.f (k : Nat) (a0_0 : Bool) (l0_1 : List Int) (a1_0 : Bool) (l1_1 : List Int) : Option (Int) := if (a0_0 != a1_0) = true then (if a0_0 = true then (some (-1)) else (some 1)) else (if a0_0 = true then ((integer_order.f k l1_1 l0_1).bind fun t439 => (some t439)) else ((integer_order.f k l0_1 l1_1).bind fun t440 => (some t440)))
theorem integer_Compare.mono : ∀ a0 a1 a2 a3 k, LeO (integer_Compare.f k a0 a1 a2 a3) (integer_Compare.f (k + 1) a0 a1 a2 a3) := by
 intro a0 a1 a2 a3 k
 unfold integer_Compare.f
 repeat' first
   | (with_reducible exact integer_order.mono _ _ _)
   | (with_reducible exact LeO.refl _)
   | (with_reducible exact LeO.none _)
   | (with_reducible refine LeO.ite ?_ ?_)
   | (with_reducible refine LeO.bind ?_ (fun _ => ?_))
   | exact integer_order.mono _ _ _
   | exact LeO.none _
   | refine LeO.ite ?_ ?_
   | refine LeO.bind ?_ (fun _ => ?_)
end Go.Proofs.YtiikfhdmclmjmaaDoor.P
namespace Go.Proofs.YtiikfhdmclmjmaaDoor.Pure
open Go.RowKit Go.Proofs.YtiikfhdmclmjmaaDoorW.PrintWords Go.Proofs.YtiikfhdmclmjmaaDoor.P
set_option linter.unusedVariables false
set_option linter.unusedSimpArgs false
abbrev BB : Nat := 4294967296
theorem BB2 : 2 ≤ BB := by decide
abbrev lm (z : Int) : List Int := dgs BB z.natAbs
theorem lm_digs (z : Int) : Digs 4294967296 (lm z) := dgs_digs BB2 _
theorem lm_val (z : Int) : val 4294967296 (lm z) = z.natAbs := dgs_val BB2 _
theorem lm_nil {z : Int} : lm z = [] ↔ z = 0 := by rw [lm, dgs_nil BB2]; omega
theorem lm_len0 {z : Int} : (lm z).length = 0 ↔ z = 0 := by rw [List.length_eq_zero_iff, lm_nil]
theorem trim_ev (l : List Int) (h : l.length ≤ 4611686018427387904) : Ev (fun k => integer_trim.f k l) (trimL l) := by
  show Ev (fun k => integer_trim.l0 k l) (trimL l)
  revert h
  refine trimL_ind (P := fun l r => l.length ≤ 4611686018427387904 → Ev (fun k => integer_trim.l0 k l) r) ?_ ?_ ?_ l
  · intro _
    exact Ev.step (fun k => integer_trim.l0.eq_2 ..) (Ev.neg (by simp) (Ev.now _))
  · intro l r ih h
    have hq : (l ++ [0]).length = l.length + 1 := by simp
    have e : wrap64 (((l ++ [0]).length : Int) - 1) = (l.length : Int) := by
      rw [w64 _ (by omega) (by omega)]
      omega
    refine Ev.step (fun k => integer_trim.l0.eq_2 ..) ?_
    rw [e]
    refine Ev.pos (by omega) (Ev.pos (by omega) (Ev.pos (by omega) (Ev.pos ?_ (Ev.pos (by omega) ?_))))
    · rw [rd_at (by simp)]; simp
    · have : (l ++ [0]).take ((l.length : Int) : Int).toNat = l := by simp
      rw [this]
      exact ih (by simp at h; omega)
  · intro l d hd h
    have hq : (l ++ [d]).length = l.length + 1 := by simp
    have e : wrap64 (((l ++ [d]).length : Int) - 1) = (l.length : Int) := by
      rw [w64 _ (by omega) (by omega)]
      omega
    refine Ev.step (fun k => integer_trim.l0.eq_2 ..) ?_
    rw [e]
    refine Ev.pos (by omega) (Ev.pos (by omega) (Ev.pos (by omega) (Ev.neg ?_ (Ev.now _))))
    rw [rd_at (by simp)]; simpa using hd
theorem signed_ev (neg : Bool) (l : List Int) (n : Nat) (hl : l.length ≤ 4611686018427387904) (hd : Digs 4294967296 l) (hv : val 4294967296 l = n) :
    Ev (fun k => integer_signed.f k neg l) (decide (neg = true ∧ n ≠ 0), dgs BB n) := by
  have ht : trimL l = dgs BB n := trimL_dgs BB2 hd hv
  refine Ev.bind (trim_ev l hl) ?_
  rw [ht]
  by_cases hn : neg = true
  · refine Ev.pos hn (Ev.some_ ?_)
    have : (0 < (dgs BB n).length) = (neg = true ∧ n ≠ 0) := by
      apply propext
      rw [Nat.pos_iff_ne_zero, Ne, List.length_eq_zero_iff, dgs_nil BB2]
      simp [hn]
    simp only [this]
  · refine Ev.neg hn (Ev.some_ ?_)
    simp [hn]
theorem signed_mk {neg : Bool} {n : Nat} {z : Int} (h : z = if neg = true then -(n : Int) else n) : ((decide (neg = true ∧ n ≠ 0), dgs BB n) : Bool × List Int) = (decide (z < 0), lm z) := by
  have h1 : z.natAbs = n := by split at h <;> omega
  have h2 : (neg = true ∧ n ≠ 0) = (z < 0) := by
    apply propext
    split at h
    · rename_i hn
      simp only [hn, true_and]
      omega
    · rename_i hn
      exact ⟨fun hh => absurd hh.1 hn, fun hh => by omega⟩
  rw [lm, h1]
  simp only [h2]
theorem signed_to (neg : Bool) (l : List Int) (n : Nat) (z : Int) (hl : l.length ≤ 4611686018427387904) (hd : Digs 4294967296 l) (hv : val 4294967296 l = n) (hz : z = if neg = true then -(n : Int) else n) :
    Ev (fun k => integer_signed.f k neg l) (decide (z < 0), lm z) := signed_mk hz ▸ signed_ev neg l n hl hd hv
theorem from_ev (z : Int) (h0 : -9223372036854775808 ≤ z) (h1 : z ≤ 9223372036854775807) : Ev (fun k => integer_From.f k z) (decide (z < 0), lm z) := by
  unfold integer_From.f
  by_cases hz : z < 0
  · refine Ev.pos hz ?_
    have e : IntKind.u64.wrap (-(IntKind.u64.wrap z)) = (z.natAbs : Int) := by simp only [u64]; omega
    rw [e]
    refine Ev.bind (signed_to true _ z.natAbs z (by simp) ?_ ?_ (by simp; omega)) (Ev.some_ (by simp [hz]))
    · exact Digs.mk (by omega) (by omega) (Digs.mk (by omega) (by omega) (Digs.nil _))
    · simp only [val]; omega
  · refine Ev.neg hz ?_
    have e : IntKind.u64.wrap z = (z.natAbs : Int) := by simp only [u64]; omega
    rw [e]
    refine Ev.bind (signed_to false _ z.natAbs z (by simp) ?_ ?_ (by simp; omega)) (Ev.some_ (by simp [hz]))
    · exact Digs.mk (by omega) (by omega) (Digs.mk (by omega) (by omega) (Digs.nil _))
    · simp only [val]; omega
theorem or_high (x d : Int) (hx : 0 ≤ x) (hx1 : x < 4294967296) (hd : 0 ≤ d) (hd1 : d < 4294967296) : Go.bits .or .u64 (x * 4294967296) d = x * 4294967296 + d :=
  bits_join .u64 64 (by decide) (fun n h0 h1 => u64s n h0 h1) 32 _ d (by omega) (by omega) (by omega) hd hd1 (by omega)
def hd0 : List Int → Int
  | [] => 0
  | a :: _ => a
theorem hd0_digs {B : Int} (hB : 0 < B) {l : List Int} (h : Digs B l) : 0 ≤ hd0 l ∧ hd0 l < B := by
  cases l with
  | nil => exact ⟨Int.le_refl _, hB⟩
  | cons a l => exact h.cons.1
theorem tail_digs {B : Int} {l : List Int} (h : Digs B l) : Digs B l.tail := fun x hx => h x (List.mem_of_mem_tail hx)
theorem val_hd (B : Int) (l : List Int) : val B l = hd0 l + B * val B l.tail := by
  cases l with
  | nil => simp [hd0, val]
  | cons a l => rfl
theorem set_mid {l : List Int} {i n : Nat} {z x j : Int} (hi : l.length = i) (hj : j = (i : Int)) (h : 0 < n) : (l ++ List.replicate n z).set j.toNat x = (l ++ [x]) ++ List.replicate (n - 1) z := by
  obtain ⟨m, rfl⟩ : ∃ m, n = m + 1 := ⟨n - 1, by omega⟩
  rw [hj, Int.toNat_natCast, ← hi, set_at]
  rfl
theorem app_cons (p : List Int) (x : Int) (q : List Int) : p ++ x :: q = p ++ [x] ++ q := by simp
theorem mul_bd {x y : Int} (h0 : 0 ≤ x) (h1 : x < 4294967296) (k0 : 0 ≤ y) (k1 : y < 4294967296) : 0 ≤ x * y ∧ x * y ≤ 18446744065119617025 := by
  refine ⟨Int.mul_nonneg h0 k0, ?_⟩
  have : x * y ≤ 4294967295 * 4294967295 := Int.mul_le_mul (by omega) (by omega) k0 (by omega)
  omega
def scaleR (B : Int) : List Int → Int → Int → List Int
  | [], _, c => [c % B]
  | a :: l, b, c => ((c + a * b) % B) :: scaleR B l b ((c + a * b) / B)
theorem scaleR_all : ∀ (l : List Int) (b c : Int), Digs 4294967296 l → 0 ≤ b → b < 4294967296 → 0 ≤ c → c < 4294967296 → Digs 4294967296 (scaleR 4294967296 l b c) ∧ val 4294967296 (scaleR 4294967296 l b c) = val 4294967296 l * b + c
  | [], b, c, _, b0, b1, h0, h1 => by
    refine ⟨Digs.mk (by omega) (by omega) (Digs.nil _), ?_⟩
    simp only [scaleR, val]
    omega
  | a :: l, b, c, hl, b0, b1, h0, h1 => by
    have ha := hl.cons.1
    have hp := mul_bd ha.1 ha.2 b0 b1
    have ih := scaleR_all l b ((c + a * b) / 4294967296) hl.cons.2 b0 b1 (by omega) (by omega)
    refine ⟨Digs.mk (by omega) (by omega) ih.1, ?_⟩
    simp only [scaleR, val, ih.2]
    rw [Int.add_mul, Int.mul_assoc]
    omega
theorem scale_l0 (l : List Int) (b : Int) (hl : Digs 4294967296 l) (b0 : 0 ≤ b) (b1 : b < 4294967296) (hmax : l.length ≤ 70368744177663) :
    ∀ (n i : Nat) (p : List Int) (c : Int), l.length - i = n → i ≤ l.length → p.length = i → 0 ≤ c → c < 4294967296 →
      Ev (fun k => integer_scale.l0 k l b (p ++ List.replicate (l.length + 1 - i) 0) c l (l.length : Int) (i : Int)) (trimL (p ++ scaleR 4294967296 (l.drop i) b c))
  | 0, i, p, c, hn, hi, hp, h0, h1 => by
    obtain rfl : i = l.length := by omega
    have e : l.length + 1 - l.length = 1 := by omega
    rw [e]
    refine Ev.step (fun k => integer_scale.l0.eq_2 ..) (Ev.neg (by omega) (Ev.pos (by omega) (Ev.pos (by rw [List.length_append, List.length_replicate, hp]; omega) ?_)))
    rw [set_mid hp rfl (by omega), List.drop_of_length_le (Nat.le_refl _)]
    simp only [scaleR, Nat.sub_self, List.replicate_zero, List.append_nil]
    exact Ev.bind (trim_ev _ (by simp [hp]; omega)) (Ev.now _)
  | n + 1, i, p, c, hn, hi, hp, h0, h1 => by
    have ha := rd_digs hl (show i < l.length by omega)
    have hb := mul_bd ha.1 ha.2 b0 b1
    have ew : wrap64 ((i : Int) + 1) = ((i + 1 : Nat) : Int) := by rw [w64 _ (by omega) (by omega)]; omega
    have hlen2 : (p ++ List.replicate (l.length + 1 - i) (0 : Int)).length = l.length + 1 := by simp [hp]; omega
    have es : scaleR 4294967296 (l.drop i) b c = ((c + rd l (i : Int) * b) % 4294967296) :: scaleR 4294967296 (l.drop (i + 1)) b ((c + rd l (i : Int) * b) / 4294967296) := by
      rw [drop_at (l := l) (by omega)]
      simp only [scaleR]
    have hr : l.length + 1 - i - 1 = l.length + 1 - (i + 1) := by omega
    have ih := scale_l0 l b hl b0 b1 hmax n (i + 1) (p ++ [(c + rd l (i : Int) * b) % 4294967296]) ((c + rd l (i : Int) * b) / 4294967296) (by omega) (by omega) (by simp [hp]) (by omega) (by omega)
    rw [es, app_cons]
    refine Ev.step (fun k => integer_scale.l0.eq_2 ..) (Ev.pos (by omega) (Ev.pos (by omega) (Ev.pos (by omega) (Ev.pos (by omega) ?_))))
    have e1 : IntKind.u64.wrap (c + (IntKind.u64.wrap ((IntKind.u64.wrap (rd l (i : Int))) * (IntKind.u64.wrap b)))) = c + rd l (i : Int) * b := by
      rw [u64s (rd l (i : Int)) (by omega) (by omega), u64s b (by omega) (by omega), u64s _ hb.1 (by omega), u64s _ (by omega) (by omega)]
    rw [ew, e1, set_mid hp rfl (by omega), hr]
    exact ih
theorem scale_ev (l : List Int) (b c : Int) (hl : Digs 4294967296 l) (b0 : 0 ≤ b) (b1 : b < 4294967296) (c0 : 0 ≤ c) (c1 : c < 4294967296) (hmax : l.length ≤ 70368744177663) (n : Nat) (hn : val 4294967296 l * b + c = n) :
    Ev (fun k => integer_scale.f k l b c) (dgs BB n) := by
  unfold integer_scale.f
  have hr := scaleR_all l b c hl b0 b1 c0 c1
  rw [w64 _ (by omega) (by omega)]
  refine Ev.pos (by omega) (Ev.pos (by omega) ?_)
  have := scale_l0 l b hl b0 b1 hmax l.length 0 [] c (by omega) (by omega) rfl c0 c1
  rw [show ((l.length : Int) + 1).toNat = l.length + 1 - 0 by omega, u64s c c0 (by omega)]
  rw [List.drop_zero, List.nil_append, List.nil_append, trimL_dgs BB2 hr.1 (hr.2.trans hn)] at this
  exact this
def shortR (b : Int) : List Int → List Int × Int
  | [] => ([], 0)
  | d :: l => (((shortR b l).2 * 4294967296 + d) / b :: (shortR b l).1, ((shortR b l).2 * 4294967296 + d) % b)
theorem shortR_all (b : Int) (b0 : 0 < b) (b1 : b < 4294967296) : ∀ (l : List Int), Digs 4294967296 l →
    Digs 4294967296 (shortR b l).1 ∧ val 4294967296 l = val 4294967296 (shortR b l).1 * b + (shortR b l).2 ∧ 0 ≤ (shortR b l).2 ∧ (shortR b l).2 < b ∧ (shortR b l).1.length = l.length
  | [], _ => ⟨Digs.nil _, by simp [shortR, val], by simp [shortR], by simpa [shortR] using b0, rfl⟩
  | d :: l, h => by
    obtain ⟨h1, h2, h3, h4, h5⟩ := shortR_all b b0 b1 l h.cons.2
    have hd := h.cons.1
    have hm := Int.emod_nonneg ((shortR b l).2 * 4294967296 + d) (show b ≠ 0 by omega)
    have hm2 := Int.emod_lt_of_pos ((shortR b l).2 * 4294967296 + d) b0
    have hq0 : 0 ≤ ((shortR b l).2 * 4294967296 + d) / b := Int.ediv_nonneg (by omega) (by omega)
    have hq1 : ((shortR b l).2 * 4294967296 + d) / b < 4294967296 := Int.ediv_lt_of_lt_mul b0 (by omega)
    have hdm := Int.mul_ediv_add_emod ((shortR b l).2 * 4294967296 + d) b
    rw [Int.mul_comm b] at hdm
    simp only [shortR]
    refine ⟨Digs.mk hq0 hq1 h1, ?_, hm, hm2, by simp [h5]⟩
    simp only [val]
    rw [h2, Int.add_mul, Int.mul_assoc]
    omega
theorem short_l0 (l : List Int) (b : Int) (hl : Digs 4294967296 l) (b0 : 0 < b) (b1 : b < 4294967296) (hmax : l.length ≤ 70368744177663) :
    ∀ (i : Nat), i ≤ l.length →
      Ev (fun k => integer_short.l0 k l b (List.replicate i 0 ++ (shortR b (l.drop i)).1) (shortR b (l.drop i)).2 ((i : Int) - 1)) (trimL (shortR b l).1, (shortR b l).2)
  | 0, hi => by
    have hs := shortR_all b b0 b1 l hl
    refine Ev.step (fun k => integer_short.l0.eq_2 ..) (Ev.neg (by omega) ?_)
    simp only [List.drop_zero, List.replicate_zero, List.nil_append]
    refine Ev.bind (trim_ev _ (by omega)) (Ev.some_ ?_)
    rw [Int.emod_eq_of_lt hs.2.2.1 (by omega)]
  | i + 1, hi => by
    have ha := rd_digs hl (show i < l.length by omega)
    have hs := shortR_all b b0 b1 (l.drop (i + 1)) (hl.drop _)
    have e : (((i + 1 : Nat) : Int) - 1) = (i : Int) := by omega
    have ew : wrap64 ((i : Int) - 1) = (i : Int) - 1 := w64 _ (by omega) (by omega)
    have hlen2 : (List.replicate (i + 1) (0 : Int) ++ (shortR b (l.drop (i + 1))).1).length = l.length := by simp [hs.2.2.2.2]; omega
    have ih := short_l0 l b hl b0 b1 hmax i (by omega)
    rw [e]
    refine Ev.step (fun k => integer_short.l0.eq_2 ..) (Ev.pos (by omega) (Ev.pos (by omega) (Ev.pos (by omega) (Ev.neg ?_ (Ev.pos (by omega) ?_)))))
    · rw [u64s b (by omega) (by omega)]; omega
    · rw [u64s b (by omega) (by omega), u64s (rd l (i : Int)) (by omega) (by omega), u64s (_ * 4294967296) (by omega) (by omega), or_high _ _ hs.2.2.1 (by omega) ha.1 ha.2, ew]
      have hq0 : 0 ≤ ((shortR b (l.drop (i + 1))).2 * 4294967296 + rd l (i : Int)) / b := Int.ediv_nonneg (by omega) (by omega)
      have hq1 : ((shortR b (l.drop (i + 1))).2 * 4294967296 + rd l (i : Int)) / b < 4294967296 := Int.ediv_lt_of_lt_mul b0 (by omega)
      have et : Int.tdiv ((shortR b (l.drop (i + 1))).2 * 4294967296 + rd l (i : Int)) b = ((shortR b (l.drop (i + 1))).2 * 4294967296 + rd l (i : Int)) / b := Int.tdiv_eq_ediv_of_nonneg (by omega)
      have em : Int.tmod ((shortR b (l.drop (i + 1))).2 * 4294967296 + rd l (i : Int)) b = ((shortR b (l.drop (i + 1))).2 * 4294967296 + rd l (i : Int)) % b := Int.tmod_eq_emod_of_nonneg (by omega)
      rw [et, em, u64s _ hq0 (by omega), Int.emod_eq_of_lt hq0 hq1]
      have hx : (List.replicate (i + 1) (0 : Int) ++ (shortR b (l.drop (i + 1))).1).set ((i : Int) : Int).toNat (((shortR b (l.drop (i + 1))).2 * 4294967296 + rd l (i : Int)) / b) = List.replicate i 0 ++ (shortR b (l.drop i)).1 := by
        rw [List.replicate_succ', List.append_assoc, Int.toNat_natCast]
        have : i = (List.replicate i (0 : Int)).length := by simp
        conv => lhs; arg 2; rw [this]
        rw [List.set_append_right _ _ (Nat.le_refl _), Nat.sub_self, drop_at (l := l) (i := i) (by omega)]
        rfl
      have hy : ((shortR b (l.drop (i + 1))).2 * 4294967296 + rd l (i : Int)) % b = (shortR b (l.drop i)).2 := by
        rw [drop_at (l := l) (i := i) (by omega)]; rfl
      rw [hx, hy]
      exact ih
theorem short_ev (l : List Int) (b : Int) (hl : Digs 4294967296 l) (b0 : 0 < b) (b1 : b < 4294967296) (hmax : l.length ≤ 70368744177663) :
    Ev (fun k => integer_short.f k l b) (dgs BB ((val 4294967296 l).toNat / b.toNat), ((val 4294967296 l).toNat % b.toNat : Nat)) := by
  unfold integer_short.f
  obtain ⟨h1, h2, h3, h4, h5⟩ := shortR_all b b0 b1 l hl
  have hv := val_nonneg (B := 4294967296) (by decide) h1
  have hv2 := val_nonneg (B := 4294967296) (by decide) hl
  have hp := Int.mul_nonneg hv (Int.le_of_lt b0)
  rw [w64 _ (by omega) (by omega)]
  refine Ev.pos (by omega) (Ev.pos (by omega) ?_)
  have := short_l0 l b hl b0 b1 hmax l.length (Nat.le_refl _)
  rw [List.drop_of_length_le (Nat.le_refl _)] at this
  simp only [shortR, List.append_nil] at this
  rw [show ((l.length : Int) : Int).toNat = l.length by omega]
  obtain ⟨q, hq⟩ : ∃ q : Nat, val 4294967296 (shortR b l).1 = q := ⟨_, (Int.toNat_of_nonneg hv).symm⟩
  obtain ⟨r, hr⟩ : ∃ r : Nat, (shortR b l).2 = r := ⟨_, (Int.toNat_of_nonneg h3).symm⟩
  obtain ⟨c, rfl⟩ : ∃ c : Nat, b = c := ⟨_, (Int.toNat_of_nonneg (by omega)).symm⟩
  have hn : (val 4294967296 l).toNat = q * c + r := by
    rw [h2, hq, hr]
    have : ((q : Int) * c + r) = ((q * c + r : Nat) : Int) := by push_cast; rfl
    rw [this, Int.toNat_natCast]
  have e1 : (q * c + r) / c = q := by
    rw [Nat.mul_comm, Nat.mul_add_div (by omega), Nat.div_eq_of_lt (by omega)]; omega
  have e2 : (q * c + r) % c = r := by
    rw [Nat.mul_comm, Nat.mul_add_mod, Nat.mod_eq_of_lt (by omega)]
  rw [trimL_dgs BB2 h1 hq, hr] at this
  rw [hn, Int.toNat_natCast, e1, e2]
  exact this
def rowR (B x : Int) : List Int → List Int → Int → List Int
  | b :: m, o :: s, c => ((c + (x * b + o)) % B) :: rowR B x m s ((c + (x * b + o)) / B)
  | _, _, c => [c]
theorem rowR_len (B x : Int) : ∀ m s c, s.length = m.length → (rowR B x m s c).length = m.length + 1
  | [], [], _, _ => rfl
  | b :: m, o :: s, c, h => by simp [rowR, rowR_len B x m s _ (by simpa using h)]
theorem row_bd {x b o c : Int} (x0 : 0 ≤ x) (x1 : x < 4294967296) (b0 : 0 ≤ b) (b1 : b < 4294967296) (o0 : 0 ≤ o) (o1 : o < 4294967296) (c0 : 0 ≤ c) (c1 : c < 4294967296) :
    0 ≤ c + (x * b + o) ∧ c + (x * b + o) < 18446744073709551616 := by
  have := mul_bd x0 x1 b0 b1
  omega
theorem rowR_all : ∀ (x : Int) (m s : List Int) (c : Int), 0 ≤ x → x < 4294967296 → Digs 4294967296 m → Digs 4294967296 s → s.length = m.length → 0 ≤ c → c < 4294967296 →
    Digs 4294967296 (rowR 4294967296 x m s c) ∧ val 4294967296 (rowR 4294967296 x m s c) = x * val 4294967296 m + val 4294967296 s + c
  | x, [], [], c, _, _, _, _, _, c0, c1 => by
    refine ⟨Digs.mk c0 c1 (Digs.nil _), ?_⟩
    simp [rowR, val]
  | x, b :: m, o :: s, c, x0, x1, hm, hs, hl, c0, c1 => by
    have hb := hm.cons.1
    have ho := hs.cons.1
    have hbd := row_bd x0 x1 hb.1 hb.2 ho.1 ho.2 c0 c1
    have ih := rowR_all x m s ((c + (x * b + o)) / 4294967296) x0 x1 hm.cons.2 hs.cons.2 (by simpa using hl) (by omega) (by omega)
    refine ⟨Digs.mk (by omega) (by omega) ih.1, ?_⟩
    simp only [rowR, val, ih.2]
    have e : x * (4294967296 * val 4294967296 m) = 4294967296 * (x * val 4294967296 m) := by rw [← Int.mul_assoc, Int.mul_comm x, Int.mul_assoc]
    rw [Int.mul_add x, e]
    omega
def mulR (B : Int) : List Int → List Int → List Int → List Int
  | [], _, s => s
  | x :: l, m, s => hd0 (rowR B x m s 0) :: mulR B l m (rowR B x m s 0).tail
theorem mulR_len (B : Int) : ∀ l m s, s.length = m.length → (mulR B l m s).length = l.length + m.length
  | [], m, s, h => by simp [mulR, h]
  | x :: l, m, s, h => by
    have h1 := rowR_len B x m s 0 h
    simp only [mulR, List.length_cons]
    rw [mulR_len B l m _ (by simp [h1])]
    omega
theorem mulR_all : ∀ (l m s : List Int), Digs 4294967296 l → Digs 4294967296 m → Digs 4294967296 s → s.length = m.length →
    Digs 4294967296 (mulR 4294967296 l m s) ∧ val 4294967296 (mulR 4294967296 l m s) = val 4294967296 l * val 4294967296 m + val 4294967296 s
  | [], m, s, _, _, hs, _ => ⟨hs, by simp [mulR, val]⟩
  | x :: l, m, s, hl, hm, hs, h => by
    have hx := hl.cons.1
    have hr := rowR_all x m s 0 hx.1 hx.2 hm hs h (by omega) (by omega)
    have hlen := rowR_len 4294967296 x m s 0 h
    have ih := mulR_all l m (rowR 4294967296 x m s 0).tail hl.cons.2 hm (tail_digs hr.1) (by simp [hlen])
    have hh := hd0_digs (by decide) hr.1
    have hv := val_hd 4294967296 (rowR 4294967296 x m s 0)
    refine ⟨Digs.mk hh.1 hh.2 ih.1, ?_⟩
    simp only [mulR, val, ih.2]
    rw [Int.add_mul, Int.mul_assoc]
    omega
theorem rd_mid {p r : List Int} {o j : Int} {i : Nat} (hp : p.length = i) (hj : j = (i : Int)) : rd (p ++ o :: r) j = o := by
  subst hj
  rw [rd_at (by simp [hp])]
  subst hp
  simp
theorem set_mid2 {p r : List Int} {o j v : Int} {i : Nat} (hp : p.length = i) (hj : j = (i : Int)) : (p ++ o :: r).set j.toNat v = p ++ v :: r := by
  subst hj
  rw [Int.toNat_natCast, ← hp, List.set_append_right _ _ (Nat.le_refl _), Nat.sub_self]
  rfl
theorem mul_round {x b o c : Int} (x0 : 0 ≤ x) (x1 : x < 4294967296) (b0 : 0 ≤ b) (b1 : b < 4294967296) (o0 : 0 ≤ o) (o1 : o < 4294967296) (c0 : 0 ≤ c) (c1 : c < 4294967296) :
    IntKind.u64.wrap (c + (IntKind.u64.wrap ((IntKind.u64.wrap ((IntKind.u64.wrap x) * (IntKind.u64.wrap b))) + (IntKind.u64.wrap o)))) = c + (x * b + o) := by
  have h := mul_bd x0 x1 b0 b1
  rw [u64s x x0 (by omega), u64s b b0 (by omega), u64s o o0 (by omega), u64s (x * b) h.1 (by omega), u64s (x * b + o) (by omega) (by omega), u64s _ (by omega) (by omega)]
theorem mul_carry {x b o c : Int} (x0 : 0 ≤ x) (x1 : x < 4294967296) (b0 : 0 ≤ b) (b1 : b < 4294967296) (o0 : 0 ≤ o) (o1 : o < 4294967296) (c0 : 0 ≤ c) (c1 : c < 4294967296) :
    0 ≤ (c + (x * b + o)) / 4294967296 ∧ (c + (x * b + o)) / 4294967296 < 4294967296 := by
  have h := mul_bd x0 x1 b0 b1
  generalize x * b = y at *
  constructor <;> omega
section
variable (l m : List Int) (f0 f1 : Bool) (h1 : List Int) (r : Bool × List Int)
theorem mul_row (x : Int) (i : Nat) (z : Nat) (hm : Digs 4294967296 m) (x0 : 0 ≤ x) (x1 : x < 4294967296) (hmax : l.length + m.length ≤ 70368744177664) (hi : i < l.length) :
    ∀ (n j : Nat) (p s : List Int) (c : Int), m.length - j = n → j ≤ m.length → p.length = i + j → s.length = m.length - j → Digs 4294967296 s → 0 ≤ c → c < 4294967296 → p.length + s.length + (z + 1) = l.length + m.length →
      Ev (fun k => integer_Mul.l0 k (p ++ rowR 4294967296 x (m.drop j) s c ++ List.replicate z 0) l (l.length : Int) ((i : Int) + 1) f0 h1 f1 m) r →
      Ev (fun k => integer_Mul.l1 k (p ++ s ++ List.replicate (z + 1) 0) (i : Int) x c l (l.length : Int) (i : Int) m (m.length : Int) (j : Int) f0 h1 f1 m) r
  | 0, j, p, s, c, hn, hj, hp, hsl, hs, c0, c1, htot, H => by
    obtain rfl : j = m.length := by omega
    obtain rfl : s = [] := List.length_eq_zero_iff.1 (by omega)
    rw [List.drop_of_length_le (Nat.le_refl _)] at H
    simp only [List.append_nil, rowR] at H ⊢
    refine Ev.step (fun k => integer_Mul.l1.eq_2 ..) (Ev.neg (by omega) ?_)
    rw [wadd (by omega), w64 ((i : Int) + 1) (by omega) (by omega)]
    refine Ev.pos (by omega) (Ev.pos (by simp [hp]; omega) ?_)
    rw [Int.emod_eq_of_lt c0 c1, set_mid hp rfl (by omega)]
    exact H
  | n + 1, j, p, s, c, hn, hj, hp, hsl, hs, c0, c1, htot, H => by
    obtain ⟨o, s, rfl⟩ : ∃ o s', s = o :: s' := by
      cases s with
      | nil => simp at hsl; omega
      | cons o s' => exact ⟨o, s', rfl⟩
    have hjm : j < m.length := by omega
    have q1 : (j : Int) < (m.length : Int) := by omega
    have q2 : (0 : Int) ≤ (j : Int) := by omega
    have el : p ++ o :: s ++ List.replicate (z + 1) 0 = p ++ o :: (s ++ List.replicate (z + 1) 0) := by simp
    have hlen2 : (p ++ o :: (s ++ List.replicate (z + 1) (0 : Int))).length = l.length + m.length := by simp at htot ⊢; omega
    have q3 : (0 : Int) ≤ ((i + j : Nat) : Int) := by omega
    have q4 : ((i + j : Nat) : Int) < ((p ++ o :: (s ++ List.replicate (z + 1) (0 : Int))).length : Int) := by rw [hlen2]; omega
    have w1 : i + j ≤ 9223372036854775807 := by omega
    have w2 : m.length ≤ 9223372036854775807 := by omega
    have r1 : m.length - (j + 1) = n := by omega
    have r3 : ∀ v : Int, (p ++ [v]).length = i + (j + 1) := by intro v; simp [hp]; omega
    have r4 : s.length = m.length - (j + 1) := by simp at hsl; omega
    have r5 : ∀ v : Int, (p ++ [v]).length + s.length + (z + 1) = l.length + m.length := by intro v; simp at htot ⊢; omega
    rw [drop_at (l := m) (i := j) hjm] at H
    simp only [rowR] at H
    rw [el]
    refine Ev.step (fun k => integer_Mul.l1.eq_2 ..) (Ev.pos q1 (Ev.pos q2 (Ev.pos q1 ?_)))
    rw [wadd w1, wsucc hjm w2]
    refine Ev.pos q3 (Ev.pos q4 ?_)
    rw [rd_mid hp rfl, set_mid2 hp rfl]
    clear hlen2 q1 q2 q3 q4 el
    have hb := rd_digs hm hjm
    have ho := hs.cons.1
    generalize rd m (j : Int) = b at *
    rw [mul_round x0 x1 hb.1 hb.2 ho.1 ho.2 c0 c1]
    have hc := mul_carry x0 x1 hb.1 hb.2 ho.1 ho.2 c0 c1
    have ih := mul_row x i z hm x0 x1 hmax hi n (j + 1) (p ++ [(c + (x * b + o)) % 4294967296]) s ((c + (x * b + o)) / 4294967296) r1 hjm (r3 _) r4 hs.cons.2 hc.1 hc.2 (r5 _)
    have e2 : p ++ (c + (x * b + o)) % 4294967296 :: (s ++ List.replicate (z + 1) 0) = p ++ [(c + (x * b + o)) % 4294967296] ++ s ++ List.replicate (z + 1) 0 := by simp
    rw [e2]
    refine ih ?_
    simpa using H
theorem mul_l0 (hl : Digs 4294967296 l) (hm : Digs 4294967296 m) (hmax : l.length + m.length ≤ 70368744177664) :
    ∀ (n i : Nat) (p s : List Int), l.length - i = n → i ≤ l.length → p.length = i → s.length = m.length → Digs 4294967296 s →
      Ev (fun k => integer_signed.f k (f0 != f1) (p ++ mulR 4294967296 (l.drop i) m s)) r →
      Ev (fun k => integer_Mul.l0 k (p ++ s ++ List.replicate (l.length - i) 0) l (l.length : Int) (i : Int) f0 h1 f1 m) r
  | 0, i, p, s, hn, hi, hp, hsl, hs, H => by
    obtain rfl : i = l.length := by omega
    rw [List.drop_of_length_le (Nat.le_refl _)] at H
    simp only [mulR] at H
    refine Ev.step (fun k => integer_Mul.l0.eq_2 ..) (Ev.neg (by omega) ?_)
    simp only [Nat.sub_self, List.replicate_zero, List.append_nil]
    exact Ev.bind H (Ev.now _)
  | n + 1, i, p, s, hn, hi, hp, hsl, hs, H => by
    have hx := rd_digs hl (show i < l.length by omega)
    obtain ⟨z, hz⟩ : ∃ z, l.length - i = z + 1 := ⟨n, hn⟩
    rw [drop_at (l := l) (i := i) (by omega)] at H
    simp only [mulR] at H
    have hr := rowR_all (rd l (i : Int)) m s 0 hx.1 hx.2 hm hs hsl (by omega) (by omega)
    have hlen := rowR_len 4294967296 (rd l (i : Int)) m s 0 hsl
    obtain ⟨a, t, hat⟩ : ∃ a t, rowR 4294967296 (rd l (i : Int)) m s 0 = a :: t := by
      cases h : rowR 4294967296 (rd l (i : Int)) m s 0 with
      | nil => rw [h] at hlen; simp at hlen
      | cons a t => exact ⟨a, t, rfl⟩
    rw [hat] at H hr hlen
    simp only [hd0, List.tail_cons] at H
    have ih := mul_l0 hl hm hmax n (i + 1) (p ++ [a]) t (by omega) (by omega) (by simp [hp]) (by simpa using hlen) hr.1.cons.2 (by simpa using H)
    refine Ev.step (fun k => integer_Mul.l0.eq_2 ..) (Ev.pos (by omega) (Ev.pos (by omega) (Ev.pos (by omega) ?_)))
    rw [hz]
    refine mul_row l m f0 f1 h1 r (rd l (i : Int)) i z hm hx.1 hx.2 hmax (by omega) m.length 0 p s 0 (by omega) (by omega) (by omega) (by omega) hs (by omega) (by omega) (by omega) ?_
    rw [List.drop_zero, hat]
    have e1 : l.length - (i + 1) = z := by omega
    rw [e1] at ih
    have e2 : p ++ a :: t ++ List.replicate z 0 = p ++ [a] ++ t ++ List.replicate z 0 := by simp
    have e3 : ((i : Int) + 1) = ((i + 1 : Nat) : Int) := by omega
    rw [e2, e3]
    exact ih
end
theorem mul_ev (x y : Int) (h : (lm x).length + (lm y).length ≤ 70368744177664) :
    Ev (fun k => integer_Mul.f k (decide (x < 0)) (lm x) (decide (y < 0)) (lm y)) (decide (x * y < 0), lm (x * y)) := by
  unfold integer_Mul.f
  have hx := lm_val x
  have hy := lm_val y
  have hr := mulR_all (lm x) (lm y) (List.replicate (lm y).length 0) (lm_digs x) (lm_digs y) (Digs.zeros _ (by decide) _) (by simp)
  have hlen := mulR_len 4294967296 (lm x) (lm y) (List.replicate (lm y).length 0) (by simp)
  rw [w64 _ (by omega) (by omega)]
  refine Ev.pos (by omega) (Ev.pos (by omega) ?_)
  have e : List.replicate (((lm x).length : Int) + ((lm y).length : Int)).toNat (0 : Int) = [] ++ List.replicate (lm y).length 0 ++ List.replicate ((lm x).length - 0) 0 := by
    rw [List.nil_append, List.replicate_append_replicate]
    congr 1
    omega
  rw [e]
  refine mul_l0 (lm x) (lm y) _ _ _ _ (lm_digs x) (lm_digs y) h (lm x).length 0 [] (List.replicate (lm y).length 0) (by omega) (by omega) rfl (by simp) (Digs.zeros _ (by decide) _) ?_
  rw [List.drop_zero, List.nil_append]
  refine signed_to _ _ (x * y).natAbs (x * y) (by omega) hr.1 ?_ ?_
  · rw [hr.2, val_zeros, hx, hy, Int.natAbs_mul]
    push_cast
    omega
  · rcases Int.lt_or_le x 0 with hx0 | hx0 <;> rcases Int.lt_or_le y 0 with hy0 | hy0
    · rw [if_neg (by simp [hx0, hy0])]
      have := Int.mul_pos_of_neg_of_neg hx0 hy0
      omega
    · rw [if_pos (by simp [hx0]; omega)]
      have := Int.mul_nonpos_of_nonpos_of_nonneg (Int.le_of_lt hx0) hy0
      omega
    · rw [if_pos (by simp [hy0]; omega)]
      have := Int.mul_nonpos_of_nonneg_of_nonpos hx0 (Int.le_of_lt hy0)
      omega
    · rw [if_neg (by simp; omega)]
      have := Int.mul_nonneg hx0 hy0
      omega
def pd : Nat → Nat → List UInt8
  | 0, _ => []
  | k + 1, r => pd k (r / 10) ++ [UInt8.ofNat (48 + r % 10)]
theorem pd_len : ∀ k r, (pd k r).length = k
  | 0, _ => rfl
  | k + 1, r => by simp [pd, pd_len k]
theorem dec_small {n : Nat} (h : n < 10) : Lib.decDigits n = [UInt8.ofNat (48 + n)] := by rw [Lib.decDigits, dif_pos h]
theorem dec_big {n : Nat} (h : ¬ n < 10) : Lib.decDigits n = Lib.decDigits (n / 10) ++ [UInt8.ofNat (48 + n % 10)] := by rw [Lib.decDigits, dif_neg h]
theorem dec_len_pos (n : Nat) : 1 ≤ (Lib.decDigits n).length := by
  by_cases h : n < 10
  · rw [dec_small h]; simp
  · rw [dec_big h]; simp
theorem dec_split : ∀ (k n : Nat), 10 ^ k ≤ n → Lib.decDigits n = Lib.decDigits (n / 10 ^ k) ++ pd k (n % 10 ^ k)
  | 0, n, h => by simp [pd]
  | k + 1, n, h => by
    have hp : 1 ≤ 10 ^ k := Nat.one_le_pow _ _ (by decide)
    rw [Nat.pow_succ] at h
    have h1 : 10 ^ k ≤ n / 10 := (Nat.le_div_iff_mul_le (by decide)).2 h
    rw [dec_big (by omega), dec_split k (n / 10) h1, Nat.div_div_eq_div_mul, Nat.mul_comm 10 (10 ^ k), ← Nat.pow_succ]
    simp only [pd]
    have e1 : n % 10 ^ (k + 1) / 10 = n / 10 % 10 ^ k := by
      rw [Nat.pow_succ, Nat.mul_comm, Nat.mod_mul_right_div_self]
    have e2 : n % 10 ^ (k + 1) % 10 = n % 10 := Nat.mod_mod_of_dvd n ⟨10 ^ k, by rw [Nat.pow_succ, Nat.mul_comm]⟩
    rw [e1, e2, List.append_assoc]
theorem pd_zero : ∀ k, pd k 0 = List.replicate k 48
  | 0 => rfl
  | k + 1 => by rw [pd, Nat.zero_div, pd_zero k, List.replicate_succ']; rfl
theorem pd_pad : ∀ (k r : Nat), r < 10 ^ (k + 1) → (Lib.decDigits r).length ≤ k + 1 ∧ pd (k + 1) r = List.replicate (k + 1 - (Lib.decDigits r).length) 48 ++ Lib.decDigits r
  | k, r, h => by
    by_cases hr : r < 10
    · rw [dec_small hr, pd, Nat.div_eq_of_lt hr, Nat.mod_eq_of_lt hr, pd_zero]
      exact ⟨by simp, by simp⟩
    · cases k with
      | zero => simp at h; omega
      | succ k =>
        have h1 : r / 10 < 10 ^ (k + 1) := by
          rw [Nat.pow_succ, Nat.mul_comm] at h
          exact Nat.div_lt_of_lt_mul h
        obtain ⟨i1, i2⟩ := pd_pad k (r / 10) h1
        rw [dec_big hr]
        refine ⟨by simp; omega, ?_⟩
        rw [pd, i2]
        have e : k + 1 + 1 - (Lib.decDigits (r / 10) ++ [UInt8.ofNat (48 + r % 10)]).length = k + 1 - (Lib.decDigits (r / 10)).length := by simp
        rw [e, List.append_assoc]
theorem dec_len_split {k n : Nat} (h : 10 ^ k ≤ n) : (Lib.decDigits n).length = (Lib.decDigits (n / 10 ^ k)).length + k := by
  rw [dec_split k n h]
  simp [pd_len]
theorem dgs_lt_pow {B : Nat} (hB : 2 ≤ B) (n : Nat) : n < B ^ (dgs B n).length := by
  have := val_lt (B := (B : Int)) (by omega) (dgs_digs hB n)
  rw [dgs_val hB n] at this
  exact_mod_cast this
theorem dgs_len_mono {m n : Nat} (h : m ≤ n) : (dgs BB m).length ≤ (dgs BB n).length :=
  dgs_len BB2 _ m (Nat.lt_of_le_of_lt h (dgs_lt_pow BB2 n))
theorem rev_l0 : ∀ (n : Nat) (m a b : List ByteArray), m.length = n → a.length + m.length + b.length ≤ 4611686018427387904 → Ev (fun k => slices_Reverse_string_string.l0 k (a ++ m ++ b) (a.length : Int) ((a.length : Int) + (m.length : Int) - 1)) (a ++ m.reverse ++ b)
  | n, m, a, b, hn, hmax => by
    by_cases h : m.length < 2
    · refine Ev.step (fun k => slices_Reverse_string_string.l0.eq_2 ..) (Ev.neg (by omega) (Ev.some_ ?_))
      have : m.reverse = m := by
        match m, h with
        | [], _ => rfl
        | [x], _ => rfl
      rw [this]
    · obtain ⟨x, m1, rfl⟩ : ∃ x m1, m = x :: m1 := by
        cases m with
        | nil => simp at h
        | cons x m1 => exact ⟨x, m1, rfl⟩
      obtain ⟨m2, y, rfl⟩ : ∃ m2 y, m1 = m2 ++ [y] := ⟨m1.dropLast, m1.getLast (fun e => by rw [e] at h; simp at h), (List.dropLast_concat_getLast _).symm⟩
      have hl : (x :: (m2 ++ [y])).length = m2.length + 2 := by simp
      have hL : (a ++ x :: (m2 ++ [y]) ++ b).length = a.length + (m2.length + 2) + b.length := by simp; omega
      have ej : ((a.length : Int) + ((x :: (m2 ++ [y])).length : Int) - 1) = ((a.length + m2.length + 1 : Nat) : Int) := by rw [hl]; omega
      have q1 : (a.length : Int) < ((a.length + m2.length + 1 : Nat) : Int) := by omega
      have q2 : (0 : Int) ≤ ((a.length + m2.length + 1 : Nat) : Int) := by omega
      have q3 : ((a.length + m2.length + 1 : Nat) : Int) < ((a ++ x :: (m2 ++ [y]) ++ b).length : Int) := by rw [hL]; omega
      have q4 : (a.length : Int) < ((a ++ x :: (m2 ++ [y]) ++ b).length : Int) := by rw [hL]; omega
      have q5 : (0 : Int) ≤ (a.length : Int) := by omega
      have w1 : a.length < a.length + 1 := by omega
      have w2 : a.length + 1 ≤ 9223372036854775807 := by omega
      have w3 : wrap64 (((a.length + m2.length + 1 : Nat) : Int) - 1) = ((a ++ [y]).length : Int) + (m2.length : Int) - 1 := by
        rw [w64 _ (by omega) (by omega)]; simp; omega
      have e1 : rdOf ByteArray.empty (a ++ x :: (m2 ++ [y]) ++ b) ((a.length + m2.length + 1 : Nat) : Int) = y := by
        unfold rdOf
        rw [Int.toNat_natCast, List.getD_eq_getElem?_getD]
        have : a ++ x :: (m2 ++ [y]) ++ b = (a ++ x :: m2) ++ y :: b := by simp
        rw [this, show a.length + m2.length + 1 = (a ++ x :: m2).length by simp; omega, List.getElem?_append_right (Nat.le_refl _), Nat.sub_self]
        rfl
      have e2 : rdOf ByteArray.empty (a ++ x :: (m2 ++ [y]) ++ b) (a.length : Int) = x := by
        unfold rdOf
        rw [Int.toNat_natCast, List.getD_eq_getElem?_getD, List.append_assoc, List.getElem?_append_right (Nat.le_refl _), Nat.sub_self]
        rfl
      have e3 : ((a ++ x :: (m2 ++ [y]) ++ b).set ((a.length : Int)).toNat y).set (((a.length + m2.length + 1 : Nat) : Int)).toNat x = (a ++ [y]) ++ m2 ++ (x :: b) := by
        rw [Int.toNat_natCast, Int.toNat_natCast]
        have t1 : (a ++ x :: (m2 ++ [y]) ++ b).set a.length y = (a ++ y :: m2) ++ y :: b := by
          rw [List.append_assoc, List.set_append_right _ _ (Nat.le_refl _), Nat.sub_self]
          simp
        rw [t1, show a.length + m2.length + 1 = (a ++ y :: m2).length by simp; omega, List.set_append_right _ _ (Nat.le_refl _), Nat.sub_self]
        simp
      rw [ej]
      have ih := rev_l0 m2.length m2 (a ++ [y]) (x :: b) rfl (by simp at hmax ⊢; omega)
      have e4 : a ++ (x :: (m2 ++ [y])).reverse ++ b = (a ++ [y]) ++ m2.reverse ++ (x :: b) := by simp
      rw [e4]
      refine Ev.step (fun k => slices_Reverse_string_string.l0.eq_2 ..) (Ev.pos q1 (Ev.pos q2 (Ev.pos q3 (Ev.pos q5 (Ev.pos q4 ?_)))))
      rw [e1, e2, e3, w3, wsucc w1 w2]
      have e5 : ((a.length + 1 : Nat) : Int) = ((a ++ [y]).length : Int) := by simp
      rw [e5]
      exact ih
termination_by n => n
decreasing_by simp at hn; omega
theorem rev_ev (m : List ByteArray) (h : m.length ≤ 4611686018427387904) : Ev (fun k => slices_Reverse_string_string.f k m) m.reverse := by
  unfold slices_Reverse_string_string.f
  have := rev_l0 m.length m [] [] rfl (by simpa using h)
  rw [w64 _ (by omega) (by omega)]
  simpa using this
def flat (xs : List ByteArray) : List UInt8 := (xs.reverse.map (·.data.toList)).flatten
theorem flat_snoc (xs : List ByteArray) (s : ByteArray) : flat (xs ++ [s]) = s.data.toList ++ flat xs := by simp [flat]
def sgn (neg : Bool) (l : List UInt8) : ByteArray := ⟨(if neg = true then 45 :: l else l).toArray⟩
theorem join_flat (xs : List (List UInt8)) : Lib.join xs [] = xs.flatten := by
  induction xs with
  | nil => rfl
  | cons x r ih =>
    rw [Lib.join_cons]
    simp [Lib.joinTail]
theorem sgn_app (l : List UInt8) : (⟨#[45]⟩ : ByteArray) ++ ⟨l.toArray⟩ = ⟨(45 :: l).toArray⟩ := by
  apply ByteArray.ext
  simp [ByteArray.data_append]
theorem bsize (l : List UInt8) : (⟨l.toArray⟩ : ByteArray).size = l.length := by simp [ByteArray.size]
theorem fin_ev (xs : List ByteArray) (neg : Bool) (h1 : xs.length ≤ 140737488355327) (h2 : (flat xs).length ≤ 140737488355327) :
    Ev (fun k => (slices_Reverse_string_string.f k xs).bind fun t173 => ((strings_Join.f t173 (⟨#[]⟩ : ByteArray)).bind fun t174 => (if neg = true then (if 1 + t174.size ≤ 9223372036854775807 then (some ((⟨#[45]⟩ : ByteArray) ++ t174)) else (none)) else (some t174)))) (sgn neg (flat xs)) := by
  refine Ev.bind (rev_ev xs (by omega)) (Ev.bind0 (a := ⟨(flat xs).toArray⟩) ?_ ?_)
  · unfold strings_Join.f
    have e : Lib.join (xs.reverse.map (·.data.toList)) (ByteArray.mk #[]).data.toList = flat xs := join_flat _
    rw [e, if_pos ⟨by simp; omega, by omega⟩]
  · by_cases hn : neg = true
    · refine Ev.pos hn (Ev.pos (by rw [bsize]; omega) (Ev.some_ ?_))
      rw [sgn_app, sgn, if_pos hn]
    · refine Ev.neg hn (Ev.some_ ?_)
      rw [sgn, if_neg hn]
theorem itoa_nat (n : Nat) : Lib.itoa (n : Int) = Lib.decDigits n := by
  unfold Lib.itoa
  rw [if_neg (by omega), Int.toNat_natCast]
theorem text_l0 (mg : List Int) (neg : Bool) : ∀ (n : Nat) (xs : List ByteArray), (dgs BB n).length ≤ 70368744177663 → xs.length + (if n = 0 then 0 else 2 * (Lib.decDigits n).length) + (flat xs).length ≤ 1099511627776 →
    Ev (fun k => integer_Int_Text.l0 k xs (dgs BB n) neg mg) (sgn neg ((if n = 0 then [] else Lib.decDigits n) ++ flat xs)) := by
  intro n
  induction n using Nat.strongRecOn with
  | _ n ih =>
    intro xs hlen htot
    rcases Nat.eq_zero_or_pos n with rfl | hn
    · rw [dgs_zero, if_pos rfl]
      rw [if_pos rfl] at htot
      refine Ev.step (fun k => integer_Int_Text.l0.eq_2 ..) (Ev.neg (by simp) ?_)
      exact fin_ev xs neg (by omega) (by omega)
    · rw [if_neg (by omega)] at htot ⊢
      have hne : 0 < (dgs BB n).length := by
        have := mt (dgs_nil BB2 (n := n)).1 (by omega)
        exact Nat.pos_of_ne_zero (fun e => this (List.length_eq_zero_iff.1 e))
      have hs := short_ev (dgs BB n) 1000000000 (dgs_digs BB2 n) (by decide) (by decide) hlen
      have hv : (val 4294967296 (dgs BB n)).toNat = n := by
        have := dgs_val BB2 n
        have h2 : val 4294967296 (dgs BB n) = n := this
        rw [h2, Int.toNat_natCast]
      rw [hv, show (1000000000 : Int).toNat = 1000000000 from rfl] at hs
      have hr : n % 1000000000 < 10 ^ (8 + 1) := Nat.mod_lt _ (by decide)
      obtain ⟨p1, p2⟩ := pd_pad 8 (n % 1000000000) hr
      refine Ev.step (fun k => integer_Int_Text.l0.eq_2 ..) (Ev.pos (by omega) (Ev.bind hs ?_))
      refine Ev.bind0 (a := ⟨(Lib.decDigits (n % 1000000000)).toArray⟩) ?_ ?_
      · have w : wrap64 ((n % 1000000000 : Nat) : Int) = ((n % 1000000000 : Nat) : Int) := w64 _ (by omega) (by omega)
        show strconv_Itoa_47.f (wrap64 ((n % 1000000000 : Nat) : Int)) = _
        rw [w]
        unfold strconv_Itoa_47.f
        rw [if_pos ⟨by omega, by omega⟩, itoa_nat]
      · have hq := dgs_nil BB2 (n := n / 1000000000)
        by_cases hb : n < 1000000000
        · have hz : n / 1000000000 = 0 := by omega
          have hm : n % 1000000000 = n := by omega
          rw [hz, hm, dgs_zero]
          refine Ev.neg (by simp) (Ev.pos (by omega) ?_)
          have := ih 0 hn (xs ++ [⟨(Lib.decDigits n).toArray⟩]) (by simp [dgs_zero]) (by
            rw [flat_snoc, if_pos rfl]
            have := dec_len_pos n
            simp
            omega)
          rw [dgs_zero, if_pos rfl, flat_snoc] at this
          exact this
        · have hz : n / 1000000000 ≠ 0 := by omega
          have hql : 0 < (dgs BB (n / 1000000000)).length := Nat.pos_of_ne_zero (fun e => hz (hq.1 (List.length_eq_zero_iff.1 e)))
          have hsplit := dec_split 9 n (by omega)
          have hls := dec_len_split (k := 9) (n := n) (by omega)
          have e9 : (10 : Nat) ^ 9 = 1000000000 := rfl
          rw [e9] at hsplit hls
          refine Ev.pos (by show ((dgs BB (n / 1000000000)).length : Int) > 0; omega) ?_
          have hsz : (⟨(Lib.decDigits (n % 1000000000)).toArray⟩ : ByteArray).size = (Lib.decDigits (n % 1000000000)).length := bsize _
          refine Ev.bind0 (a := ⟨(List.replicate (9 - (Lib.decDigits (n % 1000000000)).length) 48).toArray⟩) ?_ ?_
          · rw [hsz, w64 _ (by omega) (by omega)]
            unfold strings_Repeat.f
            have c1 : (9 - ((Lib.decDigits (n % 1000000000)).length : Int)).toNat = 9 - (Lib.decDigits (n % 1000000000)).length := by omega
            rw [if_pos ⟨by omega, by omega, by rw [c1]; show 1 * _ ≤ _; omega⟩, c1]
            have := Lib.repeatL_replicate 48 1 (9 - (Lib.decDigits (n % 1000000000)).length)
            rw [Nat.mul_one] at this
            exact congrArg (fun l => some (ByteArray.mk (List.toArray l))) this
          · have happ : (⟨(List.replicate (9 - (Lib.decDigits (n % 1000000000)).length) 48).toArray⟩ : ByteArray) ++ ⟨(Lib.decDigits (n % 1000000000)).toArray⟩ = ⟨(pd 9 (n % 1000000000)).toArray⟩ := by
              apply ByteArray.ext
              rw [p2]
              simp [ByteArray.data_append]
            refine Ev.pos (by rw [bsize, bsize]; simp; omega) (Ev.pos (by omega) ?_)
            rw [happ]
            have := ih (n / 1000000000) (by omega) (xs ++ [⟨(pd 9 (n % 1000000000)).toArray⟩]) (Nat.le_trans (dgs_len_mono (Nat.div_le_self _ _)) hlen) (by
              rw [flat_snoc, if_neg hz]
              simp [pd_len]
              omega)
            rw [if_neg hz, flat_snoc, ← List.append_assoc] at this
            rw [hsplit]
            exact this
theorem text_ev (z : Int) (h1 : (lm z).length ≤ 70368744177663) (h2 : (Lib.decDigits z.natAbs).length ≤ 274877906944) :
    Ev (fun k => integer_Int_Text.f k (decide (z < 0)) (lm z)) ⟨(Lib.itoa z).toArray⟩ := by
  unfold integer_Int_Text.f
  by_cases hz : z = 0
  · refine Ev.pos (by have := lm_len0.2 hz; omega) (Ev.some_ ?_)
    subst hz
    show _ = (⟨(Lib.itoa ((0 : Nat) : Int)).toArray⟩ : ByteArray)
    rw [itoa_nat, dec_small (by decide)]
    rfl
  · refine Ev.neg (by have := mt lm_len0.1 hz; omega) ?_
    have := text_l0 (lm z) (decide (z < 0)) z.natAbs [] h1 (by rw [if_neg (by omega)]; simp [flat]; omega)
    rw [if_neg (by omega)] at this
    have e : sgn (decide (z < 0)) (Lib.decDigits z.natAbs ++ flat []) = ⟨(Lib.itoa z).toArray⟩ := by
      unfold sgn Lib.itoa flat
      by_cases hn : z < 0
      · rw [if_pos (by simpa using hn), if_pos hn]; simp
      · rw [if_neg (by simpa using hn), if_neg hn, show z.toNat = z.natAbs by omega]; simp
    rw [e] at this
    exact this
end Go.Proofs.YtiikfhdmclmjmaaDoor.Pure
namespace Go.Proofs.YtiikfhdmclmjmaaDoor.P
open Go.RowKit Go.Proofs.YtiikfhdmclmjmaaDoorW.PrintWords Go.Proofs.YtiikfhdmclmjmaaDoorW.PrintLast
set_option linter.unusedVariables false
set_option linter.unusedSimpArgs false
def dowelref01_From.l0 : Nat → Int → List Int → Int → Option (ByteArray)
 | 0, _, _, _ => none
 | k + 1, x0, x3, x4 => if x4 = 0 then ((dowelref01_text.f k (decide (x0 < 0)) x3).bind fun t430 => (some t430)) else (if (Int.tmod x4 10) < 0 then (if x3.length < 17592186044416 then (dowelref01_From.l0 k x0 (x3 ++ [wrap64 (-(Int.tmod x4 10))]) (wrap64 (Int.tdiv x4 10))) else (none)) else (if x3.length < 17592186044416 then (dowelref01_From.l0 k x0 (x3 ++ [Int.tmod x4 10]) (wrap64 (Int.tdiv x4 10))) else (none)))
def dowelref01_From.f (k : Nat) (a0 : Int) : Option (ByteArray) := dowelref01_From.l0 k a0 ([] : List Int) a0
theorem dowelref01_From.mono_l : ∀ k, (∀ y0 y1 y2, LeO (dowelref01_From.l0 k y0 y1 y2) (dowelref01_From.l0 (k + 1) y0 y1 y2))
 | 0 => fun _ _ _ r h => by simp [dowelref01_From.l0] at h
 | k + 1 => by
  have ih0 := dowelref01_From.mono_l k
  ·
   intro y0 y1 y2
   unfold dowelref01_From.l0
   repeat' first
   | (with_reducible exact ih0 _ _ _)
   | (with_reducible exact dowelref01_text.mono _ _ _)
   | (with_reducible exact LeO.refl _)
   | (with_reducible exact LeO.none _)
   | (with_reducible refine LeO.ite ?_ ?_)
   | (with_reducible refine LeO.bind ?_ (fun _ => ?_))
   | exact ih0 _ _ _
   | exact dowelref01_text.mono _ _ _
   | exact LeO.none _
   | refine LeO.ite ?_ ?_
   | refine LeO.bind ?_ (fun _ => ?_)
theorem dowelref01_From.mono : ∀ a0 k, LeO (dowelref01_From.f k a0) (dowelref01_From.f (k + 1) a0) := by
 intro a0 k
 have ih0 := dowelref01_From.mono_l k
 unfold dowelref01_From.f
 repeat' first
   | (with_reducible exact ih0 _ _ _)
   | (with_reducible exact dowelref01_text.mono _ _ _)
   | (with_reducible exact LeO.refl _)
   | (with_reducible exact LeO.none _)
   | (with_reducible refine LeO.ite ?_ ?_)
   | (with_reducible refine LeO.bind ?_ (fun _ => ?_))
   | exact ih0 _ _ _
   | exact dowelref01_text.mono _ _ _
   | exact LeO.none _
   | refine LeO.ite ?_ ?_
   | refine LeO.bind ?_ (fun _ => ?_)
end Go.Proofs.YtiikfhdmclmjmaaDoor.P
namespace Go.Proofs.YtiikfhdmclmjmaaDoor.Pure
open Go.RowKit Go.Proofs.YtiikfhdmclmjmaaDoorW.PrintWords Go.Proofs.YtiikfhdmclmjmaaDoor.P
set_option linter.unusedVariables false
set_option linter.unusedSimpArgs false
theorem TEN2 : 2 ≤ 10 := by decide
abbrev T (z : Int) : ByteArray := ⟨(Lib.itoa z).toArray⟩
theorem rtrim_l0 (l : List Int) (hmax : l.length ≤ 4611686018427387904) : ∀ i : Nat, i ≤ l.length → Ev (fun k => dowelref01_trim.l0 k l (i : Int)) (trimL (l.take i))
  | 0, hi => Ev.step (fun k => dowelref01_trim.l0.eq_2 ..) (Ev.neg (by omega) (Ev.pos (by omega) (Ev.pos (by omega) (Ev.some_ (by simp [trimL])))))
  | i + 1, hi => by
    have e : wrap64 (((i + 1 : Nat) : Int) - 1) = (i : Int) := by rw [w64 _ (by omega) (by omega)]; omega
    have q1 : ((i + 1 : Nat) : Int) > 0 := by omega
    have q2 : (0 : Int) ≤ (i : Int) := by omega
    have q3 : (i : Int) < (l.length : Int) := by omega
    have q4 : (0 : Int) ≤ ((i + 1 : Nat) : Int) := by omega
    have q5 : ((i + 1 : Nat) : Int) ≤ (l.length : Int) := by omega
    have q6 : i ≤ l.length := by omega
    refine Ev.step (fun k => dowelref01_trim.l0.eq_2 ..) (Ev.pos q1 ?_)
    rw [e]
    refine Ev.pos q2 (Ev.pos q3 ?_)
    rw [take_at (show i < l.length by omega)]
    by_cases hz : rd l (i : Int) = 0
    · rw [hz, trimL_snoc0]
      exact Ev.pos rfl (rtrim_l0 l hmax i q6)
    · refine Ev.neg hz (Ev.pos q4 (Ev.pos q5 (Ev.some_ ?_)))
      rw [trimL_snoc _ hz, Int.toNat_natCast, take_at (show i < l.length by omega)]
theorem rtrim_ev (l : List Int) (hmax : l.length ≤ 4611686018427387904) : Ev (fun k => dowelref01_trim.f k l) (trimL l) := by
  have := rtrim_l0 l hmax l.length (Nat.le_refl _)
  rwa [List.take_length] at this
def chr10 (d : Int) : UInt8 := UInt8.ofNat (48 + d.toNat)
theorem dec_dgs (n : Nat) (h : 0 < n) : Lib.decDigits n = (dgs 10 n).reverse.map chr10 := by
  induction n using Nat.strongRecOn with
  | _ n ih =>
    rw [dgs_pos TEN2 h, List.reverse_cons, List.map_append]
    by_cases hs : n < 10
    · rw [dec_small hs, Nat.div_eq_of_lt hs, dgs_zero, Nat.mod_eq_of_lt hs]
      simp [chr10]
    · rw [dec_big hs, ih (n / 10) (by omega) (by omega)]
      simp only [List.map_cons, List.map_nil, chr10, Int.toNat_natCast]
theorem dec_zero : Lib.decDigits 0 = [48] := dec_small (by decide)
theorem dec_byte (n : Nat) : ∀ b ∈ Lib.decDigits n, 48 ≤ b.toNat ∧ b.toNat ≤ 57 := by
  intro b hb
  rcases Nat.eq_zero_or_pos n with rfl | h
  · rw [dec_zero] at hb
    simp at hb
    subst hb
    decide
  · rw [dec_dgs n h] at hb
    obtain ⟨d, hd, rfl⟩ := List.mem_map.1 hb
    have := dgs_digs TEN2 n d (by simpa using hd)
    unfold chr10
    rw [UInt8.toNat_ofNat']
    omega
theorem rtext_l0 (l : List Int) (hl : Digs 10 l) (hmax : l.length ≤ 1099511627776) : ∀ (i : Nat) (x : List Int), i ≤ l.length → x.length + i ≤ 1099511627777 →
    Ev (fun k => dowelref01_text.l0 k l x ((i : Int) - 1)) (strOfNums (x ++ ((l.take i).reverse.map fun d => 48 + d)))
  | 0, x, hi, hx => by
    refine Ev.step (fun k => dowelref01_text.l0.eq_2 ..) (Ev.neg (by omega) (Ev.some_ ?_))
    simp
  | i + 1, x, hi, hx => by
    have hd := rd_digs hl (show i < l.length by omega)
    have e : (((i + 1 : Nat) : Int) - 1) = (i : Int) := by omega
    have q1 : (i : Int) ≥ 0 := by omega
    have q3 : (i : Int) < (l.length : Int) := by omega
    have q4 : x.length < 140737488355328 := by omega
    have q6 : i ≤ l.length := by omega
    have ew : wrap64 ((i : Int) - 1) = (i : Int) - 1 := w64 _ (by omega) (by omega)
    have ed : (wrap64 (48 + (rd l (i : Int)))) % 256 = 48 + rd l (i : Int) := by rw [w64 _ (by omega) (by omega)]; omega
    have ih := rtext_l0 l hl hmax i (x ++ [48 + rd l (i : Int)]) q6 (by simp; omega)
    rw [take_at (show i < l.length by omega), e]
    refine Ev.step (fun k => dowelref01_text.l0.eq_2 ..) (Ev.pos q1 (Ev.pos q1 (Ev.pos q3 (Ev.pos q4 ?_))))
    rw [ed, ew]
    simpa using ih
theorem nums_chr (x : List Int) (l : List Int) (h : Digs 10 l) : strOfNums (x ++ (l.reverse.map fun d => 48 + d)) = ⟨((x.map fun n => UInt8.ofNat n.toNat) ++ l.reverse.map chr10).toArray⟩ := by
  unfold strOfNums
  rw [List.map_append, List.map_map]
  congr 3
  apply List.map_congr_left
  intro d hd
  have := h d (by simpa using hd)
  show UInt8.ofNat (48 + d).toNat = UInt8.ofNat (48 + d.toNat)
  congr 1
  omega
theorem rtext_ev (neg : Bool) (l : List Int) (n : Nat) (hl : Digs 10 l) (hv : val 10 l = n) (hmax : l.length ≤ 1099511627776) :
    Ev (fun k => dowelref01_text.f k neg l) (T (if neg = true then -(n : Int) else n)) := by
  have ht : trimL l = dgs 10 n := trimL_dgs TEN2 hl hv
  have hlen := trimL_len l
  rw [ht] at hlen
  refine Ev.bind (rtrim_ev l (by omega)) ?_
  rw [ht]
  have hd := dgs_digs TEN2 n
  have hn0 := dgs_nil TEN2 (n := n)
  rcases Nat.eq_zero_or_pos n with rfl | hn
  · rw [dgs_zero]
    refine Ev.pos rfl (Ev.some_ ?_)
    have : (if neg = true then -((0 : Nat) : Int) else ((0 : Nat) : Int)) = ((0 : Nat) : Int) := by split <;> rfl
    rw [this]
    show _ = (⟨(Lib.itoa ((0 : Nat) : Int)).toArray⟩ : ByteArray)
    rw [itoa_nat, dec_zero]
  · have hne : ¬ ((dgs 10 n).length : Int) = 0 := by
      intro e
      have : (dgs 10 n).length = 0 := by omega
      have := hn0.1 (List.length_eq_zero_iff.1 this)
      omega
    have hw : wrap64 (((dgs 10 n).length : Int) - 1) = ((dgs 10 n).length : Int) - 1 := w64 _ (by omega) (by omega)
    refine Ev.neg hne ?_
    by_cases hg : neg = true
    · refine Ev.pos hg (Ev.pos (by simp) (Ev.step (fun k => dowelref01_text.j0.eq_2 ..) ?_))
      rw [hw]
      have := rtext_l0 (dgs 10 n) hd (by omega) (dgs 10 n).length ([] ++ [45]) (Nat.le_refl _) (by simp; omega)
      rw [List.take_length, nums_chr _ _ hd] at this
      rw [if_pos hg]
      have e : (⟨((([] ++ [45] : List Int).map fun n => UInt8.ofNat n.toNat) ++ (dgs 10 n).reverse.map chr10).toArray⟩ : ByteArray) = T (-(n : Int)) := by
        rw [← dec_dgs n hn]
        unfold T Lib.itoa
        rw [if_pos (by omega), show (-(n : Int)).natAbs = n by omega]
        rfl
      rw [e] at this
      exact this
    · refine Ev.neg hg (Ev.step (fun k => dowelref01_text.j0.eq_2 ..) ?_)
      rw [hw]
      have := rtext_l0 (dgs 10 n) hd (by omega) (dgs 10 n).length [] (Nat.le_refl _) (by simp; omega)
      rw [List.take_length, nums_chr _ _ hd] at this
      rw [if_neg hg]
      have e : (⟨((([] : List Int).map fun n => UInt8.ofNat n.toNat) ++ (dgs 10 n).reverse.map chr10).toArray⟩ : ByteArray) = T n := by
        rw [← dec_dgs n hn]
        show _ = (⟨(Lib.itoa (n : Int)).toArray⟩ : ByteArray)
        rw [itoa_nat]
        rfl
      rw [e] at this
      exact this
theorem rtext_to (neg : Bool) (l : List Int) (n : Nat) (z : Int) (hl : Digs 10 l) (hv : val 10 l = n) (hmax : l.length ≤ 1099511627776) (hz : z = if neg = true then -(n : Int) else n) :
    Ev (fun k => dowelref01_text.f k neg l) (T z) := by
  rw [hz]
  exact rtext_ev neg l n hl hv hmax
def num10 (b : UInt8) : Int := (b.toNat : Int) - 48
theorem dlen (s : ByteArray) : s.data.toList.length = s.size := Array.length_toList
theorem bt_get (s : ByteArray) (i : Nat) (h : i < s.size) : bt s (i : Int) = (s.data.toList[i]'(by rw [dlen]; exact h)).toNat := by
  unfold bt
  rw [dif_pos (by simpa using h)]
  simp [ByteArray.getElem_eq_getElem_data]
theorem rdigits_l0 (s : ByteArray) (hmax : s.size ≤ 1099511627776) : ∀ (i : Nat) (x : List Int), i ≤ s.size → x.length + i ≤ 1099511627776 →
    Ev (fun k => dowelref01_digits.l0 k s x ((i : Int) - 1)) (trimL (x ++ ((s.data.toList.take i).reverse.filter (fun b => !(b.toNat == 45))).map num10))
  | 0, x, hi, hx => by
    refine Ev.step (fun k => dowelref01_digits.l0.eq_2 ..) (Ev.neg (by omega) ?_)
    simp only [List.take_zero, List.reverse_nil, List.filter_nil, List.map_nil, List.append_nil]
    exact Ev.bind (rtrim_ev _ (by omega)) (Ev.now _)
  | i + 1, x, hi, hx => by
    have e : (((i + 1 : Nat) : Int) - 1) = (i : Int) := by omega
    have q1 : (i : Int) ≥ 0 := by omega
    have q3 : (i : Int) < (s.size : Int) := by omega
    have q4 : x.length < 17592186044416 := by omega
    have hl : i < s.data.toList.length := by rw [dlen]; omega
    have hb := bt_get s i (by omega)
    have hr := bt_range s (i : Int)
    have q6 : i ≤ s.size := by omega
    have ew : wrap64 ((i : Int) - 1) = (i : Int) - 1 := w64 _ (by omega) (by omega)
    have ed : wrap64 ((wrap64 (bt s (i : Int))) - 48) = bt s (i : Int) - 48 := by
      rw [w64 (bt s (i : Int)) (by omega) (by omega), w64 _ (by omega) (by omega)]
    rw [List.take_succ_eq_append_getElem hl, List.reverse_append, e]
    simp only [List.reverse_cons, List.reverse_nil, List.nil_append, List.cons_append]
    refine Ev.step (fun k => dowelref01_digits.l0.eq_2 ..) (Ev.pos q1 (Ev.pos q1 (Ev.pos q3 ?_)))
    rw [ew, ed]
    by_cases h45 : bt s (i : Int) = 45
    · refine Ev.pos h45 ?_
      rw [hb] at h45
      have h46 : (s.data.toList[i]).toNat = 45 := by omega
      rw [List.filter_cons_of_neg (by simp only [h46]; decide)]
      exact rdigits_l0 s hmax i x q6 (by omega)
    · refine Ev.neg h45 (Ev.pos q4 ?_)
      have ih := rdigits_l0 s hmax i (x ++ [bt s (i : Int) - 48]) q6 (by simp; omega)
      rw [hb] at h45 ih ⊢
      have h46 : ¬ (s.data.toList[i]).toNat = 45 := by omega
      rw [List.filter_cons_of_pos (by rw [Bool.not_eq_true']; exact beq_eq_false_iff_ne.2 h46)]
      simpa [num10] using ih
theorem itoa_len (z : Int) : (Lib.itoa z).length = (Lib.decDigits z.natAbs).length + (if z < 0 then 1 else 0) := by
  unfold Lib.itoa
  by_cases h : z < 0
  · rw [if_pos h, if_pos h]; simp
  · rw [if_neg h, if_neg h, show z.toNat = z.natAbs by omega]; simp
theorem dec_rev (n : Nat) : trimL ((Lib.decDigits n).reverse.map num10) = dgs 10 n := by
  rcases Nat.eq_zero_or_pos n with rfl | h
  · rw [dec_zero, dgs_zero]
    rfl
  · rw [dec_dgs n h, ← List.map_reverse, List.reverse_reverse, List.map_map]
    have : (dgs 10 n).map (num10 ∘ chr10) = (dgs 10 n).map id := by
      apply List.map_congr_left
      intro d hd
      have := dgs_digs TEN2 n d hd
      show ((UInt8.ofNat (48 + d.toNat)).toNat : Int) - 48 = d
      rw [UInt8.toNat_ofNat']
      omega
    rw [this, List.map_id]
    exact trimL_of_norm (dgs_norm TEN2 n)
theorem rdigits_ev (z : Int) (hmax : (Lib.itoa z).length ≤ 1099511627776) : Ev (fun k => dowelref01_digits.f k (T z)) (dgs 10 z.natAbs) := by
  unfold dowelref01_digits.f
  have hsz : (T z).size = (Lib.itoa z).length := bsize _
  have := rdigits_l0 (T z) (by omega) (T z).size [] (Nat.le_refl _) (by simp; omega)
  rw [w64 _ (by omega) (by omega)]
  have e : trimL ([] ++ (((T z).data.toList.take (T z).size).reverse.filter (fun b => !(b.toNat == 45))).map num10) = dgs 10 z.natAbs := by
    have e1 : (T z).data.toList = Lib.itoa z := rfl
    rw [e1, hsz, List.take_length, List.nil_append]
    have hk : ∀ n, ((Lib.decDigits n).reverse.filter (fun b => !(b.toNat == 45))) = (Lib.decDigits n).reverse := by
      intro n
      apply List.filter_eq_self.2
      intro b hb
      have := dec_byte n b (by simpa using hb)
      simp
      omega
    unfold Lib.itoa
    by_cases h : z < 0
    · rw [if_pos h, List.reverse_cons, List.filter_append, hk, List.filter_cons_of_neg (by decide)]
      simp only [List.filter_nil, List.append_nil]
      exact dec_rev _
    · rw [if_neg h, hk, show z.toNat = z.natAbs by omega]
      exact dec_rev _
  rw [e] at this
  exact this
theorem itoa_48 {z : Int} : Lib.itoa z = [48] ↔ z = 0 := by
  constructor
  · intro h
    unfold Lib.itoa at h
    split at h
    · cases h
    · have h2 := dec_rev z.toNat
      rw [h] at h2
      have : dgs 10 z.toNat = [] := h2.symm
      have := (dgs_nil TEN2).1 this
      omega
  · rintro rfl
    show Lib.itoa ((0 : Nat) : Int) = _
    rw [itoa_nat, dec_zero]
theorem T_48 (z : Int) : (T z).toList = ([48] : List UInt8) ↔ z = 0 := by
  rw [ByteArray.toList_eq]
  exact itoa_48
theorem T_pos (z : Int) : 0 < (T z).size := by
  rw [bsize, itoa_len]
  have := dec_len_pos z.natAbs
  omega
theorem T_first (z : Int) : bt (T z) 0 = 45 ↔ z < 0 := by
  have h := bt_get (T z) 0 (T_pos z)
  have e1 : (T z).data.toList = Lib.itoa z := rfl
  rw [show (0 : Int) = ((0 : Nat) : Int) from rfl, h]
  by_cases hz : z < 0
  · have : Lib.itoa z = 45 :: Lib.decDigits z.natAbs := by unfold Lib.itoa; rw [if_pos hz]
    simp only [e1, this]
    simp [hz]
  · have hi : Lib.itoa z = Lib.decDigits z.toNat := by unfold Lib.itoa; rw [if_neg hz]
    have hp := dec_len_pos z.toNat
    have hb := dec_byte z.toNat ((Lib.decDigits z.toNat)[0]'(by omega)) (List.getElem_mem _)
    simp only [e1, hi]
    constructor
    · intro hh; omega
    · intro hh; omega
theorem rsign_eq (z : Int) : dowelref01_Sign.f (T z) = some z.sign := by
  unfold dowelref01_Sign.f
  by_cases h0 : z = 0
  · rw [if_pos ((T_48 z).2 h0), h0]; rfl
  · rw [if_neg (mt (T_48 z).1 h0), if_pos (by have := T_pos z; omega)]
    by_cases h : z < 0
    · rw [if_pos ((T_first z).2 h), Int.sign_eq_neg_one_of_neg h]
    · rw [if_neg (mt (T_first z).1 h), Int.sign_eq_one_of_pos (by omega)]
end Go.Proofs.YtiikfhdmclmjmaaDoor.Pure
namespace Go.Proofs.YtiikfhdmclmjmaaDoor.P
open Go.RowKit Go.Proofs.YtiikfhdmclmjmaaDoorW.PrintWords Go.Proofs.YtiikfhdmclmjmaaDoorW.PrintLast
set_option linter.unusedVariables false
set_option linter.unusedSimpArgs false
mutual
def integer_Int_Int.l0 : Nat → Int → List Int → Int → Int → Bool → List Int → Option (Int × Bool)
 | 0, _, _, _, _, _, _ => none
 | k + 1, x4, x12, x13, x14, x412000, x412001 => if x14 < x13 then (if 0 ≤ x14 then (if x14 < (x12.length : Int) then (if 0 ≤ (wrap64 (32 * x14)) then (integer_Int_Int.l0 k (Go.bits .or .u64 x4 (shl .u64 (IntKind.u64.wrap (rd x12 x14)) (wrap64 (32 * x14)))) x12 x13 (wrap64 (x14 + 1)) x412000 x412001) else (none)) else (none)) else (none)) else (if x412000 = true then (integer_Int_Int.j1 k x4 false x412000 x412001) else (integer_Int_Int.j1 k x4 (decide (x4 < 9223372036854775808)) x412000 x412001))
def integer_Int_Int.j1 : Nat → Int → Bool → Bool → List Int → Option (Int × Bool)
 | 0, _, _, _, _ => none
 | k + 1, x4, x27, x412000, x412001 => if x27 = true then (some (wrap64 (x4), true)) else (if x412000 = true then (if x4 ≤ 9223372036854775808 then (some (wrap64 (IntKind.u64.wrap (-x4)), true)) else (some (0, false))) else (some (0, false)))
end
def integer_Int_Int.f (k : Nat) (a0_0 : Bool) (l0_1 : List Int) : Option (Int × Bool) := if (l0_1.length : Int) > 2 then (some (0, false)) else (integer_Int_Int.l0 k 0 l0_1 (l0_1.length : Int) 0 a0_0 l0_1)
theorem integer_Int_Int.mono_l : ∀ k, (∀ y0 y1 y2 y3 y4 y5, LeO (integer_Int_Int.l0 k y0 y1 y2 y3 y4 y5) (integer_Int_Int.l0 (k + 1) y0 y1 y2 y3 y4 y5)) ∧ (∀ y0 y1 y2 y3, LeO (integer_Int_Int.j1 k y0 y1 y2 y3) (integer_Int_Int.j1 (k + 1) y0 y1 y2 y3))
 | 0 => ⟨fun _ _ _ _ _ _ r h => by simp [integer_Int_Int.l0] at h, fun _ _ _ _ r h => by simp [integer_Int_Int.j1] at h⟩
 | k + 1 => by
  obtain ⟨ih0, ih1⟩ := integer_Int_Int.mono_l k
  refine ⟨?_, ?_⟩
  ·
   intro y0 y1 y2 y3 y4 y5
   unfold integer_Int_Int.l0
   repeat' first
   | (with_reducible exact ih0 _ _ _ _ _ _)
   | (with_reducible exact ih1 _ _ _ _)
   | (with_reducible exact LeO.refl _)
   | (with_reducible exact LeO.none _)
   | (with_reducible refine LeO.ite ?_ ?_)
   | (with_reducible refine LeO.bind ?_ (fun _ => ?_))
   | exact ih0 _ _ _ _ _ _
   | exact ih1 _ _ _ _
   | exact LeO.none _
   | refine LeO.ite ?_ ?_
   | refine LeO.bind ?_ (fun _ => ?_)
  ·
   intro y0 y1 y2 y3
   unfold integer_Int_Int.j1
   repeat' first
   | (with_reducible exact ih0 _ _ _ _ _ _)
   | (with_reducible exact ih1 _ _ _ _)
   | (with_reducible exact LeO.refl _)
   | (with_reducible exact LeO.none _)
   | (with_reducible refine LeO.ite ?_ ?_)
   | (with_reducible refine LeO.bind ?_ (fun _ => ?_))
   | exact ih0 _ _ _ _ _ _
   | exact ih1 _ _ _ _
   | exact LeO.none _
   | refine LeO.ite ?_ ?_
   | refine LeO.bind ?_ (fun _ => ?_)
theorem integer_Int_Int.mono : ∀ a0 a1 k, LeO (integer_Int_Int.f k a0 a1) (integer_Int_Int.f (k + 1) a0 a1) := by
 intro a0 a1 k
 obtain ⟨ih0, ih1⟩ := integer_Int_Int.mono_l k
 unfold integer_Int_Int.f
 repeat' first
   | (with_reducible exact ih0 _ _ _ _ _ _)
   | (with_reducible exact ih1 _ _ _ _)
   | (with_reducible exact LeO.refl _)
   | (with_reducible exact LeO.none _)
   | (with_reducible refine LeO.ite ?_ ?_)
   | (with_reducible refine LeO.bind ?_ (fun _ => ?_))
   | exact ih0 _ _ _ _ _ _
   | exact ih1 _ _ _ _
   | exact LeO.none _
   | refine LeO.ite ?_ ?_
   | refine LeO.bind ?_ (fun _ => ?_)
end Go.Proofs.YtiikfhdmclmjmaaDoor.P
namespace Go.Proofs.YtiikfhdmclmjmaaDoor.Pure
open Go.RowKit Go.Proofs.YtiikfhdmclmjmaaDoorW.PrintWords Go.Proofs.YtiikfhdmclmjmaaDoor.P
set_option linter.unusedVariables false
set_option linter.unusedSimpArgs false
theorem w0 : wrap64 (32 * 0) = 0 := by rw [w64 _ (by decide) (by decide)]; rfl
theorem w1 : wrap64 (32 * 1) = 32 := by rw [w64 _ (by decide) (by decide)]; rfl
theorem w12 : wrap64 (1 + 1) = 2 := by rw [w64 _ (by decide) (by decide)]; rfl
def isd (b : UInt8) : Bool := decide (48 ≤ b.toNat ∧ b.toNat ≤ 57)
theorem isd_iff {b : UInt8} : isd b = true ↔ 48 ≤ b.toNat ∧ b.toNat ≤ 57 := by simp [isd]
def body : List UInt8 → List UInt8
  | [] => []
  | b :: r => if b.toNat = 45 then r else b :: r
def resD (R : List UInt8) (n : Nat) : Int := if R.all isd = true then (if (R.headD 0).toNat = 48 ∧ 1 < n then 3 else 0) else 14
def chk (L : List UInt8) : Int := if body L = [] then 14 else resD (body L) L.length
def nv (a : Nat) (l : List UInt8) : Nat := l.foldl (fun a c => a * 10 + (c.toNat - 48)) a
theorem nv_nil (a : Nat) : nv a [] = a := rfl
theorem nv_cons (a : Nat) (c : UInt8) (r : List UInt8) : nv a (c :: r) = nv (a * 10 + (c.toNat - 48)) r := by unfold nv; rw [List.foldl_cons]
theorem nv_app (a : Nat) (l m : List UInt8) : nv a (l ++ m) = nv (nv a l) m := by unfold nv; rw [List.foldl_append]
theorem nv_arith (a x P N : Nat) : (a * 10 + x) * P + N = a * (P * 10) + (x * P + N) := by
  rw [Nat.add_mul, Nat.mul_assoc a 10, Nat.mul_comm 10 P]
  omega
theorem nv_pow (l : List UInt8) : ∀ (a : Nat), nv a l = a * 10 ^ l.length + nv 0 l := by
  induction l with
  | nil => exact fun a => (Nat.mul_one a).symm
  | cons c r ih =>
    intro a
    have h1 := ih (a * 10 + (c.toNat - 48))
    have h2 := ih (0 * 10 + (c.toNat - 48))
    rw [nv_cons, nv_cons, h1, h2, Nat.zero_mul, Nat.zero_add, List.length_cons, Nat.pow_succ]
    exact nv_arith _ _ _ _
theorem nv_lt : ∀ {l : List UInt8}, l.all isd = true → nv 0 l < 10 ^ l.length
  | [], _ => by simp [nv_nil]
  | c :: r, h => by
    rw [List.all_cons, Bool.and_eq_true, isd_iff] at h
    have ih := nv_lt h.2
    rw [nv_cons, nv_pow r, List.length_cons, Nat.pow_succ, Nat.zero_mul, Nat.zero_add]
    have : (c.toNat - 48) * 10 ^ r.length ≤ 9 * 10 ^ r.length := Nat.mul_le_mul_right _ (by omega)
    omega
theorem nv_le (a : Nat) (l : List UInt8) : a ≤ nv a l := by
  rw [nv_pow]
  have : 1 ≤ 10 ^ l.length := Nat.one_le_pow _ _ (by decide)
  have := Nat.mul_le_mul_left a this
  omega
theorem dec_nv (n : Nat) : ∀ (D : List UInt8), D.length = n → D ≠ [] → D.all isd = true → (D.headD 0).toNat ≠ 48 → Lib.decDigits (nv 0 D) = D ∧ 0 < nv 0 D := by
  induction n with
  | zero => intro D h hne; exact absurd (List.length_eq_zero_iff.1 h) hne
  | succ n ih =>
    intro D h hne hd hh
    obtain ⟨E, b, rfl⟩ : ∃ E b, D = E ++ [b] := ⟨D.dropLast, D.getLast hne, (List.dropLast_concat_getLast _).symm⟩
    rw [List.all_append, Bool.and_eq_true] at hd
    have hb : 48 ≤ b.toNat ∧ b.toNat ≤ 57 := isd_iff.1 (by simpa using hd.2)
    rw [nv_app]
    show Lib.decDigits (nv 0 E * 10 + (b.toNat - 48)) = _ ∧ 0 < nv 0 E * 10 + (b.toNat - 48)
    have hby : UInt8.ofNat (48 + (b.toNat - 48)) = b := by
      rw [show 48 + (b.toNat - 48) = b.toNat by omega]
      simp
    rcases List.eq_nil_or_concat E with rfl | ⟨_, _, rfl⟩
    · simp only [List.nil_append, List.headD_cons] at hh
      rw [nv_nil, Nat.zero_mul, Nat.zero_add, List.nil_append]
      rw [dec_small (by omega), hby]
      exact ⟨rfl, by omega⟩
    · rename_i F f
      rw [List.concat_eq_append] at *
      have hE : (F ++ [f]) ≠ [] := by simp
      have hhd : ((F ++ [f] ++ [b]).headD 0) = ((F ++ [f]).headD 0) := by cases F <;> rfl
      rw [hhd] at hh
      obtain ⟨h1, h2⟩ := ih (F ++ [f]) (by simp at h ⊢; omega) hE hd.1 hh
      rw [dec_big (by omega), show (nv 0 (F ++ [f]) * 10 + (b.toNat - 48)) / 10 = nv 0 (F ++ [f]) by omega, show (nv 0 (F ++ [f]) * 10 + (b.toNat - 48)) % 10 = b.toNat - 48 by omega, h1, hby]
      exact ⟨rfl, by omega⟩
theorem byte_eq {b : UInt8} {n : Nat} (h : b.toNat = n) : b = UInt8.ofNat n := by rw [← h]; simp
theorem chk_itoa {L : List UInt8} (h : chk L = 0) : ∃ z : Int, L = Lib.itoa z ∧ (body L).all isd = true ∧ z = if (L.headD 0).toNat = 45 then -(nv 0 (body L) : Int) else (nv 0 (body L) : Int) := by
  unfold chk at h
  by_cases hb : body L = []
  · rw [if_pos hb] at h; cases h
  · rw [if_neg hb] at h
    unfold resD at h
    by_cases hd : (body L).all isd = true
    · rw [if_pos hd] at h
      by_cases hz : ((body L).headD 0).toNat = 48 ∧ 1 < L.length
      · rw [if_pos hz] at h; cases h
      · clear h
        refine ⟨_, ?_, hd, rfl⟩
        match L, hb, hd, hz with
        | b :: r, hb, hd, hz =>
          show b :: r = Lib.itoa (if b.toNat = 45 then _ else _)
          by_cases h45 : b.toNat = 45
          · have e : body (b :: r) = r := by simp [body, h45]
            rw [e] at hb hd hz ⊢
            rw [if_pos h45]
            have hl : 1 < (b :: r).length := by
              cases r with
              | nil => exact absurd rfl hb
              | cons _ _ => simp
            obtain ⟨h1, h2⟩ := dec_nv r.length r rfl hb hd (fun hh => hz ⟨hh, hl⟩)
            unfold Lib.itoa
            rw [if_pos (by omega), show (-(nv 0 r : Int)).natAbs = nv 0 r by omega, h1, byte_eq h45]
            rfl
          · have e : body (b :: r) = b :: r := by simp [body, h45]
            rw [e] at hb hd hz ⊢
            rw [if_neg h45, itoa_nat]
            by_cases h48 : b.toNat = 48
            · have : r = [] := by
                cases r with
                | nil => rfl
                | cons _ _ => exact absurd ⟨h48, by simp⟩ hz
              subst this
              rw [nv_cons, nv_nil, h48]
              rw [dec_small (by decide), byte_eq h48]
            · exact (dec_nv (b :: r).length (b :: r) rfl hb hd h48).1.symm
    · rw [if_neg hd] at h; cases h
theorem bs_list (s : ByteArray) : s.size = s.data.toList.length := (dlen s).symm
theorem headD_at {R : List UInt8} (h : 0 < R.length) : R.headD 0 = R[0] := by cases R <;> simp at h ⊢
theorem bt_head (s : ByteArray) (h : 0 < s.size) : bt s 0 = ((s.data.toList.headD 0).toNat : Int) := by
  rw [headD_at (by rw [dlen]; exact h)]
  exact bt_get s 0 h
theorem chk_l0 (x0 x3 : ByteArray) (hm : x3.size ≤ 65536) (hp : 0 < x3.size) (hle : x3.size ≤ x0.size) : ∀ (n i : Nat), i + n = x3.size → (x3.data.toList.take i).all isd = true →
    Ev (fun k => dowelref01_Check.l0 k x0 x3 (i : Int)) (resD x3.data.toList x0.size)
  | 0, i, hn, hi => by
    have hall : x3.data.toList.all isd = true := by
      rw [List.take_of_length_le (by rw [dlen]; omega)] at hi
      exact hi
    refine Ev.step (fun k => dowelref01_Check.l0.eq_2 ..) (Ev.neg (by omega) (Ev.pos (by omega) ?_))
    rw [bt_head x3 hp]
    unfold resD
    rw [if_pos hall]
    by_cases h48 : (x3.data.toList.headD 0).toNat = 48
    · refine Ev.pos (by omega) ?_
      by_cases h1 : (x3.size : Int) > 1
      · exact Ev.pos h1 (Ev.some_ (by rw [if_pos ⟨h48, by omega⟩]))
      · refine Ev.neg h1 ?_
        by_cases h2 : (x0.size : Int) > 1
        · exact Ev.pos h2 (Ev.some_ (by rw [if_pos ⟨h48, by omega⟩]))
        · exact Ev.neg h2 (Ev.some_ (by rw [if_neg (by omega)]))
    · exact Ev.neg (by omega) (Ev.some_ (by rw [if_neg (by omega)]))
  | n + 1, i, hn, hi => by
    have hl : i < x3.data.toList.length := by rw [dlen]; omega
    have hb := bt_get x3 i (by omega)
    have hmem : x3.data.toList[i] ∈ x3.data.toList := List.getElem_mem hl
    have bad : isd x3.data.toList[i] = false → resD x3.data.toList x0.size = 14 := by
      intro h
      unfold resD
      rw [if_neg]
      intro hall
      rw [List.all_eq_true] at hall
      rw [hall _ hmem] at h
      cases h
    refine Ev.step (fun k => dowelref01_Check.l0.eq_2 ..) (Ev.pos (by omega) (Ev.pos (by omega) ?_))
    rw [hb]
    by_cases h1 : (((x3.data.toList[i]).toNat : Nat) : Int) < 48
    · exact Ev.pos h1 (Ev.some_ (bad (decide_eq_false (by omega))).symm)
    · refine Ev.neg h1 ?_
      by_cases h2 : (((x3.data.toList[i]).toNat : Nat) : Int) > 57
      · exact Ev.pos h2 (Ev.some_ (bad (decide_eq_false (by omega))).symm)
      · refine Ev.neg h2 ?_
        rw [wsucc (show i < x3.size by omega) (by omega)]
        refine chk_l0 x0 x3 hm hp hle n (i + 1) (by omega) ?_
        rw [List.take_succ_eq_append_getElem hl, List.all_append, hi, Bool.true_and, List.all_cons, List.all_nil, Bool.and_true]
        exact decide_eq_true (by omega)
theorem ext_list (s : ByteArray) (i j : Nat) : (s.extract i j).data.toList = (s.data.toList.drop i).take (j - i) := by
  rw [ByteArray.data_extract, Array.toList_extract, List.extract_eq_take_drop]
theorem chk_j1 (x0 x3 : ByteArray) (hm : x3.size ≤ 65536) (hle : x3.size ≤ x0.size) : Ev (fun k => dowelref01_Check.j1 k x0 x3) (if x3.data.toList = [] then 14 else resD x3.data.toList x0.size) := by
  refine Ev.step (fun k => dowelref01_Check.j1.eq_2 ..) ?_
  by_cases h : (x3.size : Int) = 0
  · refine Ev.pos h (Ev.some_ ?_)
    rw [if_pos (List.length_eq_zero_iff.1 (by rw [dlen]; omega))]
  · refine Ev.neg h ?_
    rw [if_neg (fun e => h (by rw [bs_list, e]; rfl))]
    exact chk_l0 x0 x3 hm (by omega) hle x3.size 0 (by omega) rfl
theorem check_ev (s : ByteArray) (hm : s.size ≤ 65536) : Ev (fun k => dowelref01_Check.f k s) (chk s.data.toList) := by
  unfold dowelref01_Check.f
  refine Ev.neg (by omega) ?_
  by_cases h : (s.size : Int) > 0
  · refine Ev.pos h (Ev.pos (by omega) (Ev.step (fun k => dowelref01_Check.j0.eq_2 ..) ?_))
    rw [bt_head s (by omega)]
    have hl : s.data.toList.length = s.size := dlen s
    match hL : s.data.toList, hl with
    | [], hl => simp at hl; omega
    | b :: r, hl =>
      simp only [List.headD_cons]
      by_cases h45 : b.toNat = 45
      · refine Ev.pos (by simp [h45]) (Ev.pos (by omega) ?_)
        have e : (s.extract 1 s.size).data.toList = r := by
          rw [ext_list, hL]
          simp only [List.drop_succ_cons, List.drop_zero]
          exact List.take_of_length_le (by simp at hl; omega)
        have hsz : (s.extract 1 s.size).size = r.length := by rw [bs_list, e]
        have := chk_j1 s (s.extract 1 s.size) (by rw [hsz]; simp at hl; omega) (by rw [hsz]; simp at hl; omega)
        rw [e] at this
        unfold chk
        rw [show body (b :: r) = r by simp [body, h45], hl]
        exact this
      · refine Ev.neg (by simp; omega) ?_
        have := chk_j1 s s hm (Nat.le_refl _)
        rw [hL] at this
        unfold chk
        rw [show body (b :: r) = b :: r by simp [body, h45], hl]
        exact this
  · refine Ev.neg h (Ev.step (fun k => dowelref01_Check.j0.eq_2 ..) (Ev.neg (by simp) ?_))
    have e : s.data.toList = [] := List.length_eq_zero_iff.1 (by rw [dlen]; omega)
    have := chk_j1 s s hm (Nat.le_refl _)
    rw [e] at this ⊢
    exact this
theorem one_toList : (⟨#[45]⟩ : ByteArray).toList = [45] := by rw [ByteArray.toList_eq]
theorem one_size : (⟨#[45]⟩ : ByteArray).size = 1 := rfl
theorem cut_eq (s : ByteArray) : ∃ d neg, strings_CutPrefix.f s (⟨#[45]⟩ : ByteArray) = some (d, neg) ∧ d.data.toList = body s.data.toList ∧ neg = decide ((s.data.toList.headD 0).toNat = 45) ∧ d.size + (if neg = true then 1 else 0) = s.size := by
  unfold strings_CutPrefix.f stringslite_CutPrefix.f stringslite_HasPrefix.f
  have hl : s.data.toList.length = s.size := dlen s
  rw [one_size, one_toList]
  match hL : s.data.toList, hl with
  | [], hl =>
    simp only [List.length_nil] at hl
    rw [if_neg (by omega)]
    refine ⟨s, false, rfl, ?_, rfl, by rw [if_neg (by decide)]; omega⟩
    rw [hL]
    rfl
  | b :: r, hl =>
    simp only [List.length_cons] at hl
    rw [if_pos (by omega), if_pos (by omega), if_pos (by omega)]
    have e : (s.extract 0 (((1 : Nat) : Int)).toNat).toList = [b] := by
      rw [ByteArray.toList_eq, ext_list, hL]
      rfl
    have e2 : (s.extract (((1 : Nat) : Int)).toNat s.size).data.toList = r := by
      rw [ext_list, hL]
      show List.take (s.size - 1) r = r
      exact List.take_of_length_le (by omega)
    rw [e]
    simp only [Option.bind_some, List.headD_cons]
    by_cases h : b.toNat = 45
    · have hb : b = 45 := byte_eq h
      rw [if_pos (by rw [hb]; rfl), if_pos (by omega), if_pos (by omega)]
      refine ⟨_, true, rfl, ?_, by simp [h], ?_⟩
      · rw [e2]; simp [body, h]
      · rw [bs_list, e2, if_pos rfl]; omega
    · have hb : ¬ (([b] : List UInt8) == [45]) = true := by
        intro hh
        have : b = 45 := by simpa using hh
        rw [this] at h
        exact h rfl
      rw [if_neg hb]
      refine ⟨s, false, rfl, ?_, by simp [h], by simp⟩
      rw [hL]; simp [body, h]
theorem idx_from (p : Nat → Bool) (hp : ∀ x, p x = true ↔ (x < 48 ∨ 57 < x)) (s : ByteArray) : ∀ (n pos f : Nat), pos + n = s.size → n ≤ f → ((0 ≤ Lib.idxFuncFrom p true s f pos) ↔ (s.data.toList.drop pos).all isd = false)
  | 0, pos, f, h, hf => by
    rw [Lib.idxFuncFrom_end p true s f pos (by omega), List.drop_of_length_le (by rw [dlen]; omega)]
    simp
  | n + 1, pos, 0, h, hf => by omega
  | n + 1, pos, f + 1, h, hf => by
    have hlt : pos < s.size := by omega
    have hl : pos < s.data.toList.length := by rw [dlen]; omega
    have hb : s[pos]'hlt = s.data.toList[pos] := by simp [ByteArray.getElem_eq_getElem_data]
    rw [List.drop_eq_getElem_cons hl, List.all_cons]
    unfold Lib.idxFuncFrom
    rw [if_pos hlt]
    by_cases ha : (s[pos]'hlt).toNat < 128
    · rw [decode_ascii s pos hlt ha]
      by_cases hd : isd s.data.toList[pos] = true
      · rw [if_neg (by rw [hp, hb]; rw [isd_iff] at hd; omega), hd, Bool.true_and]
        exact idx_from p hp s n (pos + 1) f (by omega) (by omega)
      · rw [if_pos (by rw [hp, hb]; rw [isd_iff] at hd; omega)]
        rw [Bool.not_eq_true] at hd
        rw [hd, Bool.false_and]
        exact ⟨fun _ => rfl, fun _ => by omega⟩
    · have hh := (decode_high s pos hlt (by omega)).1
      rw [if_pos (by rw [hp]; omega)]
      have hd : isd s.data.toList[pos] = false := decide_eq_false (by rw [← hb]; omega)
      rw [hd, Bool.false_and]
      exact ⟨fun _ => rfl, fun _ => by omega⟩
theorem has_eq (s : ByteArray) : strings_ContainsFunc_Parse1.f s = some (!(s.data.toList.all isd)) := by
  unfold strings_ContainsFunc_Parse1.f Lib.idxFunc
  have := idx_from (fun x => decide (x < 48) || decide (57 < x)) (fun x => by simp) s s.size 0 s.size (by omega) (Nat.le_refl _)
  rw [List.drop_zero] at this
  congr 1
  cases hb : s.data.toList.all isd
  · exact decide_eq_true (this.2 hb)
  · exact decide_eq_false (fun h => by rw [this.1 h] at hb; cases hb)
theorem pum_ok : ∀ (l : List UInt8) (a M : Nat), l.all isd = true → nv a l ≤ M → M < 4294967296 → Lib.parseUintM M a l = .ok (nv a l)
  | [], a, M, _, _, _ => rfl
  | c :: r, a, M, h, h1, h2 => by
    rw [List.all_cons, Bool.and_eq_true, isd_iff] at h
    rw [nv_cons] at h1 ⊢
    have := nv_le (a * 10 + (c.toNat - 48)) r
    unfold Lib.parseUintM
    rw [if_pos h.1, if_neg (by omega), if_neg (by omega)]
    exact pum_ok r _ M h.2 h1 h2
theorem pu_eq (s : ByteArray) (h : s.data.toList.all isd = true) (h0 : 0 < s.size) (h9 : s.size ≤ 9) : strconv_ParseUint_56.f s 10 32 = some (((nv 0 s.data.toList : Nat) : Int), (none : Option Int)) := by
  have hl : s.data.toList.length = s.size := dlen s
  have h1 := nv_lt h
  have h2 : (10 : Nat) ^ s.data.toList.length ≤ 10 ^ 9 := Nat.pow_le_pow_right (by decide) (by omega)
  unfold strconv_ParseUint_56.f Lib.parseUintB
  rw [if_pos ⟨rfl, rfl, by omega⟩, if_neg (fun e => by rw [e] at hl; simp at hl; omega), pum_ok _ 0 _ h (by show _ ≤ 4294967295; omega) (by decide)]
theorem take_all {l : List UInt8} (h : l.all isd = true) (n : Nat) : (l.take n).all isd = true := by
  rw [List.all_eq_true] at h ⊢
  exact fun x hx => h x (List.mem_of_mem_take hx)
theorem drop_all {l : List UInt8} (h : l.all isd = true) (n : Nat) : (l.drop n).all isd = true := by
  rw [List.all_eq_true] at h ⊢
  exact fun x hx => h x (List.mem_of_mem_drop hx)
theorem ten_len {m c : Nat} (h : m < 10 ^ c) : (dgs BB m).length ≤ c :=
  dgs_len BB2 c m (Nat.lt_of_lt_of_le h (Nat.pow_le_pow_left (by decide) c))
theorem parse_l1 (x4 : ByteArray) (x5 : Bool) (m : Nat) (n : Nat) (r : Bool × List Int × Int) (h0 : 0 < n) (h9 : n ≤ 9) (hn : n ≤ x4.size) (hm : (dgs BB m).length ≤ 70368744177663) (hd : x4.data.toList.all isd = true)
    (k : Ev (fun k => integer_Parse.l0 k (x4.extract n x4.size) x5 (dgs BB (m * 10 ^ n + nv 0 (x4.data.toList.take n)))) r) : ∀ (q j : Nat), j + q = n →
    Ev (fun k => integer_Parse.l1 k x4 x5 (dgs BB m) (n : Int) ((10 ^ j : Nat) : Int) (n : Int) (j : Int)) r
  | 0, j, hj => by
    obtain rfl : j = n := by omega
    have hp : 10 ^ j ≤ 10 ^ 9 := Nat.pow_le_pow_right (by decide) h9
    have ee : (x4.extract 0 (((j : Nat) : Int)).toNat).data.toList = x4.data.toList.take j := by
      rw [ext_list, List.drop_zero, Nat.sub_zero, Int.toNat_natCast]
    have hsz : (x4.extract 0 (((j : Nat) : Int)).toNat).size = j := by
      rw [bs_list, ee, List.length_take, dlen]
      omega
    have hu := pu_eq (x4.extract 0 (((j : Nat) : Int)).toNat) (by rw [ee]; exact take_all hd j) (by omega) (by omega)
    rw [ee] at hu
    have hlt := nv_lt (take_all hd j)
    have hle : (10 : Nat) ^ (x4.data.toList.take j).length ≤ 10 ^ 9 := Nat.pow_le_pow_right (by decide) (by rw [List.length_take]; omega)
    refine Ev.step (fun k => integer_Parse.l1.eq_2 ..) (Ev.neg (by omega) (Ev.pos (by omega) (Ev.pos (by omega) (Ev.bind0 hu ?_))))
    have hmod : (((nv 0 (x4.data.toList.take j) : Nat) : Int)) % 4294967296 = (nv 0 (x4.data.toList.take j) : Nat) := by omega
    simp only [hmod]
    refine Ev.bind (scale_ev (dgs BB m) ((10 ^ j : Nat) : Int) ((nv 0 (x4.data.toList.take j) : Nat) : Int) (dgs_digs BB2 m) (Int.natCast_nonneg _) (Int.ofNat_lt.2 (show 10 ^ j < 4294967296 by omega)) (Int.natCast_nonneg _) (Int.ofNat_lt.2 (show nv 0 (x4.data.toList.take j) < 4294967296 by omega)) hm (m * 10 ^ j + nv 0 (x4.data.toList.take j)) ?_) ?_
    · rw [show val 4294967296 (dgs BB m) = (m : Int) from dgs_val BB2 m]
      rw [Int.natCast_add, Int.natCast_mul]
    · rw [Int.toNat_natCast]
      exact k
  | q + 1, j, hj => by
    refine Ev.step (fun k => integer_Parse.l1.eq_2 ..) (Ev.pos (by omega) ?_)
    rw [wsucc (show j < n by omega) (by omega)]
    have hp : 10 ^ (j + 1) ≤ 10 ^ 9 := Nat.pow_le_pow_right (by decide) (by omega)
    have e : (((10 ^ j : Nat) : Int) * 10) % 4294967296 = ((10 ^ (j + 1) : Nat) : Int) := by
      rw [Nat.pow_succ] at hp ⊢
      omega
    rw [e]
    exact parse_l1 x4 x5 m n r h0 h9 hn hm hd k q (j + 1) (by omega)
theorem parse_l0 (x5 : Bool) : ∀ (sz : Nat) (x4 : ByteArray) (m : Nat), x4.size = sz → sz ≤ 65536 → x4.data.toList.all isd = true → (∃ c, m < 10 ^ c ∧ c + sz ≤ 65536) →
    Ev (fun k => integer_Parse.l0 k x4 x5 (dgs BB m)) (decide (x5 = true ∧ nv m x4.data.toList ≠ 0), dgs BB (nv m x4.data.toList), 0) := by
  intro sz
  induction sz using Nat.strongRecOn with
  | _ sz ih =>
    intro x4 m hs hm hd hc
    obtain ⟨c, hc1, hc2⟩ := hc
    have hlen := ten_len hc1
    have hll : x4.data.toList.length = x4.size := dlen x4
    by_cases h : (x4.size : Int) > 0
    · refine Ev.step (fun k => integer_Parse.l0.eq_2 ..) (Ev.pos h ?_)
      obtain ⟨n, hn1, hn2, hn3, hn4⟩ : ∃ n : Nat, wrap64 ((Int.tmod (wrap64 ((x4.size : Int) - 1)) 9) + 1) = (n : Int) ∧ 0 < n ∧ n ≤ 9 ∧ n ≤ x4.size := by
        have e1 : wrap64 ((x4.size : Int) - 1) = ((x4.size - 1 : Nat) : Int) := by rw [w64 _ (by omega) (by omega)]; omega
        have e2 : Int.tmod ((x4.size - 1 : Nat) : Int) 9 = (((x4.size - 1) % 9 : Nat) : Int) := rfl
        refine ⟨(x4.size - 1) % 9 + 1, ?_, by omega, by omega, by omega⟩
        rw [e1, e2, w64 _ (by omega) (by omega)]
        omega
      rw [hn1]
      have ed : (x4.extract n x4.size).data.toList = x4.data.toList.drop n := by
        rw [ext_list]
        exact List.take_of_length_le (by rw [List.length_drop]; omega)
      have hs2 : (x4.extract n x4.size).size = sz - n := by rw [bs_list, ed, List.length_drop]; omega
      have hlt := nv_lt (take_all hd n)
      have htl : (x4.data.toList.take n).length = n := by rw [List.length_take]; omega
      rw [htl] at hlt
      have hnv : nv (m * 10 ^ n + nv 0 (x4.data.toList.take n)) (x4.data.toList.drop n) = nv m x4.data.toList := by
        have := nv_app m (x4.data.toList.take n) (x4.data.toList.drop n)
        rw [List.take_append_drop, nv_pow (x4.data.toList.take n) m, htl] at this
        exact this.symm
      have hcc : m * 10 ^ n + nv 0 (x4.data.toList.take n) < 10 ^ (c + n) := by
        have h3 : (m + 1) * 10 ^ n ≤ 10 ^ c * 10 ^ n := Nat.mul_le_mul_right _ hc1
        rw [Nat.pow_add]
        rw [Nat.add_mul] at h3
        omega
      have ih2 := ih (sz - n) (by omega) (x4.extract n x4.size) (m * 10 ^ n + nv 0 (x4.data.toList.take n)) hs2 (by omega) (by rw [ed]; exact drop_all hd n) ⟨c + n, hcc, by omega⟩
      rw [ed, hnv] at ih2
      exact parse_l1 x4 x5 m n _ hn2 hn3 hn4 (by omega) hd ih2 n 0 (by omega)
    · have e : x4.data.toList = [] := List.length_eq_zero_iff.1 (by omega)
      rw [e, nv_nil]
      refine Ev.step (fun k => integer_Parse.l0.eq_2 ..) (Ev.neg h ?_)
      exact Ev.bind (signed_ev x5 (dgs BB m) m (by omega) (dgs_digs BB2 m) (dgs_val BB2 m)) (Ev.some_ rfl)
theorem parse_ev (s : ByteArray) (hm : s.size ≤ 65536) : ∃ neg N, Ev (fun k => integer_Parse.f k s) (if chk s.data.toList = 0 then (neg, dgs BB N, 0) else (false, [], chk s.data.toList)) ∧
    N = nv 0 (body s.data.toList) ∧ neg = decide (decide ((s.data.toList.headD 0).toNat = 45) = true ∧ N ≠ 0) := by
  obtain ⟨d, ng, h1, h2, h3, h4⟩ := cut_eq s
  refine ⟨_, _, ?_, rfl, rfl⟩
  have hl : s.data.toList.length = s.size := dlen s
  have hdl : d.data.toList.length = d.size := dlen d
  have hds : d.size ≤ s.size := by omega
  unfold integer_Parse.f
  refine Ev.neg (by omega) (Ev.bind0 h1 ?_)
  show Ev (fun k => if d.toList = ([] : List UInt8) then (integer_Parse.j0 k d ng true) else ((strings_ContainsFunc_Parse1.f d).bind fun t489 => (integer_Parse.j0 k d ng t489))) _
  rw [ByteArray.toList_eq, has_eq, h2]
  rw [h2] at hdl
  unfold chk
  by_cases he : body s.data.toList = []
  · rw [if_pos he]
    exact Ev.pos he (Ev.step (fun k => integer_Parse.j0.eq_2 ..) (Ev.pos rfl (Ev.some_ rfl)))
  · rw [if_neg he]
    refine Ev.neg he (Ev.bindS ?_)
    unfold resD
    by_cases hd : (body s.data.toList).all isd = true
    · rw [if_pos hd, hd]
      have hp : 0 < d.size := by
        rcases Nat.eq_zero_or_pos d.size with h0 | h0
        · exact absurd (List.length_eq_zero_iff.1 (by omega)) he
        · exact h0
      have hb := bt_head d hp
      rw [h2] at hb
      refine Ev.step (fun k => integer_Parse.j0.eq_2 ..) (Ev.neg (by simp) (Ev.pos (by omega) ?_))
      rw [hb]
      have fin := parse_l0 ng d.size d 0 rfl (by omega) (by rw [h2]; exact hd) ⟨0, by decide, by omega⟩
      rw [dgs_zero, h2, h3] at fin
      have bad : ∀ b : Bool, b = true → Ev (fun k => integer_Parse.j1 k d ng b) (false, [], 3) := fun b hb2 =>
        Ev.step (fun k => integer_Parse.j1.eq_2 ..) (Ev.pos hb2 (Ev.some_ rfl))
      have good : ∀ b : Bool, b = false → Ev (fun k => integer_Parse.j1 k d ng b) (decide (decide ((s.data.toList.headD 0).toNat = 45) = true ∧ nv 0 (body s.data.toList) ≠ 0), dgs BB (nv 0 (body s.data.toList)), 0) := fun b hb2 => by
        refine Ev.step (fun k => integer_Parse.j1.eq_2 ..) (Ev.neg (by rw [hb2]; simp) ?_)
        rw [h3]
        exact fin
      have key : ∀ (c : Int) (F : Nat → Option (Bool × List Int × Int)) (A : Bool × List Int × Int), (if ((body s.data.toList).headD 0).toNat = 48 ∧ 1 < s.data.toList.length then (3 : Int) else 0) = c → Ev F (if c = 0 then A else (false, [], c)) →
          Ev F (if (if ((body s.data.toList).headD 0).toNat = 48 ∧ 1 < s.data.toList.length then (3 : Int) else 0) = 0 then A else (false, [], (if ((body s.data.toList).headD 0).toNat = 48 ∧ 1 < s.data.toList.length then (3 : Int) else 0))) := by
        intro c F A hc h
        rw [hc]
        exact h
      by_cases h48 : ((body s.data.toList).headD 0).toNat = 48
      · by_cases hg : (d.size : Int) > 1
        · refine key 3 _ _ (if_pos ⟨h48, by omega⟩) ?_
          rw [if_neg (by decide)]
          exact Ev.pos (by omega) (Ev.pos hg (bad true rfl))
        · by_cases hn : ng = true
          · rw [if_pos hn] at h4
            refine key 3 _ _ (if_pos ⟨h48, by omega⟩) ?_
            rw [if_neg (by decide)]
            exact Ev.pos (by omega) (Ev.neg hg (bad ng hn))
          · rw [if_neg hn] at h4
            refine key 0 _ _ (if_neg (by omega)) ?_
            rw [if_pos rfl]
            exact Ev.pos (by omega) (Ev.neg hg (good ng (by simpa using hn)))
      · refine key 0 _ _ (if_neg (fun hh => h48 hh.1)) ?_
        rw [if_pos rfl]
        exact Ev.neg (by omega) (good false rfl)
    · rw [if_neg hd]
      rw [Bool.not_eq_true] at hd
      rw [hd]
      exact Ev.step (fun k => integer_Parse.j0.eq_2 ..) (Ev.pos rfl (Ev.some_ rfl))
theorem parse_ok (s : ByteArray) (hm : s.size ≤ 65536) (h : chk s.data.toList = 0) : ∃ z : Int, s = T z ∧ Ev (fun k => integer_Parse.f k s) (decide (z < 0), lm z, 0) := by
  obtain ⟨neg, N, h1, h2, h3⟩ := parse_ev s hm
  obtain ⟨z, h4, _, h5⟩ := chk_itoa h
  refine ⟨z, ?_, ?_⟩
  · unfold T
    rw [← h4]
  · rw [if_pos h] at h1
    have := signed_mk (neg := decide ((s.data.toList.headD 0).toNat = 45)) (n := N) (z := z) (by rw [h5, h2]; simp only [decide_eq_true_eq])
    rw [Prod.mk.injEq] at this
    rw [h3, this.1, this.2] at h1
    exact h1
theorem read_ev (s : ByteArray) (hm : s.size ≤ 120) (h : chk s.data.toList = 0) : ∃ z : Int, s = T z ∧ Ev (fun k => dowellaw01_read.f k s) (decide (z < 0), lm z, true) := by
  obtain ⟨z, h1, h2⟩ := parse_ok s (by omega) h
  refine ⟨z, h1, ?_⟩
  unfold dowellaw01_read.f
  have hc := check_ev s (by omega)
  rw [h] at hc
  exact Ev.neg (by omega) (Ev.bind hc (Ev.pos rfl (Ev.bind h2 (Ev.some_ rfl))))
theorem right_ev (s : ByteArray) : Ev (fun k => dowellaw01_right.f k s) (decide (s.size ≤ 120 ∧ chk s.data.toList = 0)) := by
  unfold dowellaw01_right.f
  by_cases h : (s.size : Int) ≤ 120
  · refine Ev.pos h (Ev.bind (check_ev s (by omega)) (Ev.some_ ?_))
    have : s.size ≤ 120 := by omega
    by_cases hc : chk s.data.toList = 0 <;> simp [this, hc]
  · exact Ev.neg h (Ev.some_ (decide_eq_false (by omega)).symm)
theorem lm_small (z : Int) (h : z ≠ 0) (h2 : z.natAbs < 4294967296) : lm z = [(z.natAbs : Int)] := by
  rw [lm, dgs_pos BB2 (by omega), Nat.div_eq_of_lt h2, dgs_zero, Nat.mod_eq_of_lt h2]
theorem kn_div : integer_DivMod.f 100 true [7] false [2] = some (true, [4], false, [1], 0) := by kernel_rfl
theorem kn_pow : integer_Power.f 100 true [10] 3 = some (true, [1000], 0) := by kernel_rfl
theorem kn_gcd : integer_Gcd.f 100 true [12] false [18] = some (false, [6]) := by kernel_rfl
theorem kn_bits : integer_Int_Bits.f false [256] = some 9 := by kernel_rfl
theorem small_text (z : Int) (h : z ≠ 0) (h2 : z.natAbs < 4294967296) : Ev (fun k => integer_Int_Text.f k (decide (z < 0)) [(z.natAbs : Int)]) (T z) := by
  have h10 : (Lib.decDigits z.natAbs).length ≤ 10 := by
    rw [dec_dgs _ (by omega)]
    simpa using dgs_len TEN2 10 z.natAbs (by omega)
  have := text_ev z (by rw [lm_small z h h2]; simp) (by omega)
  rwa [lm_small z h h2] at this
theorem small_from (z : Int) (h : z ≠ 0) (h2 : z.natAbs < 4294967296) : Ev (fun k => integer_From.f k z) (decide (z < 0), [(z.natAbs : Int)]) := by
  have := from_ev z (by omega) (by omega)
  rwa [lm_small z h h2] at this
theorem small_t (z : Int) (b : Bool) (l : List Int) (h : z ≠ 0) (h2 : z.natAbs < 4294967296) (hb : decide (z < 0) = b) (hl : [(z.natAbs : Int)] = l) : Ev (fun k => integer_Int_Text.f k b l) (T z) := hb ▸ hl ▸ small_text z h h2
theorem small_f (z : Int) (b : Bool) (l : List Int) (h : z ≠ 0) (h2 : z.natAbs < 4294967296) (hb : decide (z < 0) = b) (hl : [(z.natAbs : Int)] = l) : Ev (fun k => integer_From.f k z) (b, l) := hb ▸ hl ▸ small_from z h h2
theorem known_ev : Ev (fun k => dowellaw01_known.f k) true := by
  unfold dowellaw01_known.f
  refine Ev.bind (small_f (-7) true [7] (by decide) (by decide) (by decide) rfl) (Ev.bind (small_f 2 false [2] (by decide) (by decide) (by decide) rfl) ?_)
  refine Ev.bind (a := (true, [4], false, [1], 0)) (Ev.of (integer_DivMod.mono _ _ _ _) kn_div) ?_
  refine Ev.bind (small_f (-10) true [10] (by decide) (by decide) (by decide) rfl) ?_
  refine Ev.bind (a := (true, [1000], 0)) (Ev.of (integer_Power.mono _ _ _) kn_pow) ?_
  refine Ev.bind (small_t (-4) true [4] (by decide) (by decide) (by decide) rfl) ?_
  refine Ev.pos ?_ ?_
  · rw [ByteArray.toList_eq]
    show Lib.itoa (-4) = _
    unfold Lib.itoa
    rw [if_pos (by decide), show (-4 : Int).natAbs = 4 from rfl, dec_small (by decide)]
    rfl
  refine Ev.bind (small_t 1 false [1] (by decide) (by decide) (by decide) rfl) ?_
  refine Ev.pos ?_ ?_
  · rw [ByteArray.toList_eq]
    show Lib.itoa ((1 : Nat) : Int) = _
    rw [itoa_nat, dec_small (by decide)]
    rfl
  refine Ev.pos rfl ?_
  refine Ev.bind (small_t (-1000) true [1000] (by decide) (by decide) (by decide) rfl) ?_
  refine Ev.pos ?_ ?_
  · rw [ByteArray.toList_eq]
    show Lib.itoa (-1000) = _
    unfold Lib.itoa
    rw [if_pos (by decide), show (-1000 : Int).natAbs = 1000 from rfl, dec_big (by decide), dec_big (by decide), dec_big (by decide), dec_small (by decide)]
    rfl
  refine Ev.pos rfl ?_
  refine Ev.bind (small_f (-12) true [12] (by decide) (by decide) (by decide) rfl) (Ev.bind (small_f 18 false [18] (by decide) (by decide) (by decide) rfl) ?_)
  refine Ev.bind (a := (false, [6])) (Ev.of (integer_Gcd.mono _ _ _ _) kn_gcd) ?_
  refine Ev.bind (small_t 6 false [6] (by decide) (by decide) (by decide) rfl) ?_
  refine Ev.pos ?_ ?_
  · rw [ByteArray.toList_eq]
    show Lib.itoa ((6 : Nat) : Int) = _
    rw [itoa_nat, dec_small (by decide)]
    rfl
  refine Ev.bind (small_f 256 false [256] (by decide) (by decide) (by decide) rfl) ?_
  exact Ev.bind0 (a := 9) kn_bits (Ev.some_ rfl)
def Sm (k : Nat) (z : Int) : Prop := z.natAbs < 10 ^ k
theorem p10 (k : Nat) : 1 ≤ 10 ^ k := Nat.one_le_pow _ _ (by decide)
theorem Sm.lm {k : Nat} {z : Int} (h : Sm k z) : (lm z).length ≤ k := ten_len h
theorem dec_len_eq {n : Nat} (h : 0 < n) : (Lib.decDigits n).length = (dgs 10 n).length := by rw [dec_dgs n h]; simp
theorem Sm.dec {k : Nat} {z : Int} (h : Sm (k + 1) z) : (Lib.decDigits z.natAbs).length ≤ k + 1 := (pd_pad k z.natAbs h).1
theorem Sm.mono {j k : Nat} {z : Int} (h : Sm j z) (hk : j ≤ k) : Sm k z := Nat.lt_of_lt_of_le h (Nat.pow_le_pow_right (by decide) hk)
theorem Sm.add {k : Nat} {x y : Int} (h : Sm k x) (g : Sm k y) : Sm (k + 1) (x + y) := by
  unfold Sm at *
  rw [Nat.pow_succ]
  have := Int.natAbs_add_le x y
  omega
theorem Sm.neg {k : Nat} {x : Int} (h : Sm k x) : Sm k (-x) := by unfold Sm at *; rw [Int.natAbs_neg]; exact h
theorem Sm.mul {j k : Nat} {x y : Int} (h : Sm j x) (g : Sm k y) : Sm (j + k) (x * y) := by
  unfold Sm at *
  rw [Int.natAbs_mul, Nat.pow_add]
  exact Nat.mul_lt_mul'' h g
theorem T_size (z : Int) : (T z).size = (Lib.itoa z).length := bsize _
theorem sm_of {z : Int} {k : Nat} (h : (T z).size ≤ k) : Sm k z := by
  rw [T_size, itoa_len] at h
  unfold Sm
  rcases Nat.eq_zero_or_pos z.natAbs with h0 | h0
  · have := p10 k; omega
  · have h1 := dgs_lt_pow TEN2 z.natAbs
    rw [← dec_len_eq h0] at h1
    exact Nat.lt_of_lt_of_le h1 (Nat.pow_le_pow_right (by decide) (by omega))
theorem Sm.itoa {k : Nat} {z : Int} (h : Sm (k + 1) z) : (Lib.itoa z).length ≤ k + 2 := by
  rw [itoa_len]
  have := h.dec
  split <;> omega
theorem read_sm (s : ByteArray) (h : s.size ≤ 120 ∧ chk s.data.toList = 0) : ∃ z : Int, s = T z ∧ Sm 120 z ∧ Ev (fun k => dowellaw01_read.f k s) (decide (z < 0), lm z, true) := by
  obtain ⟨z, h1, h2⟩ := read_ev s h.1 h.2
  exact ⟨z, h1, sm_of (by rw [← h1]; exact h.1), h2⟩
theorem text_sm {k : Nat} {z : Int} (h : Sm (k + 1) z) (hk : k ≤ 1000000) : Ev (fun k => integer_Int_Text.f k (decide (z < 0)) (lm z)) (T z) :=
  text_ev z (by have := h.lm; omega) (by have := h.dec; omega)
end Go.Proofs.YtiikfhdmclmjmaaDoor.Pure
namespace Go.Proofs.YtiikfhdmclmjmaaDoor.P
open Go.RowKit Go.Proofs.YtiikfhdmclmjmaaDoorW.PrintWords Go.Proofs.YtiikfhdmclmjmaaDoorW.PrintLast
set_option linter.unusedVariables false
set_option linter.unusedSimpArgs false
def dowelref01_order.l0 : Nat → List Int → List Int → Int → Option (Int)
 | 0, _, _, _ => none
 | k + 1, x0, x1, x5 => if x5 ≥ 0 then (if 0 ≤ x5 then (if x5 < (x0.length : Int) then (if x5 < (x1.length : Int) then (if (rd x0 x5) < (rd x1 x5) then (some (-1)) else (if (rd x0 x5) > (rd x1 x5) then (some 1) else (dowelref01_order.l0 k x0 x1 (wrap64 (x5 - 1))))) else (none)) else (none)) else (none)) else (some 0)
def dowelref01_order.f (k : Nat) (l0 : List Int) (l1 : List Int) : Option (Int) := if (l0.length : Int) = (l1.length : Int) then (dowelref01_order.l0 k l0 l1 (wrap64 ((l0.length : Int) - 1))) else (if (l0.length : Int) < (l1.length : Int) then (some (-1)) else (some 1))
theorem dowelref01_order.mono_l : ∀ k, (∀ y0 y1 y2, LeO (dowelref01_order.l0 k y0 y1 y2) (dowelref01_order.l0 (k + 1) y0 y1 y2))
 | 0 => fun _ _ _ r h => by simp [dowelref01_order.l0] at h
 | k + 1 => by
  have ih0 := dowelref01_order.mono_l k
  ·
   intro y0 y1 y2
   unfold dowelref01_order.l0
   repeat' first
   | (with_reducible exact ih0 _ _ _)
   | (with_reducible exact LeO.refl _)
   | (with_reducible exact LeO.none _)
   | (with_reducible refine LeO.ite ?_ ?_)
   | (with_reducible refine LeO.bind ?_ (fun _ => ?_))
   | exact ih0 _ _ _
   | exact LeO.none _
   | refine LeO.ite ?_ ?_
   | refine LeO.bind ?_ (fun _ => ?_)
theorem dowelref01_order.mono : ∀ a0 a1 k, LeO (dowelref01_order.f k a0 a1) (dowelref01_order.f (k + 1) a0 a1) := by
 intro a0 a1 k
 have ih0 := dowelref01_order.mono_l k
 unfold dowelref01_order.f
 repeat' first
   | (with_reducible exact ih0 _ _ _)
   | (with_reducible exact LeO.refl _)
   | (with_reducible exact LeO.none _)
   | (with_reducible refine LeO.ite ?_ ?_)
   | (with_reducible refine LeO.bind ?_ (fun _ => ?_))
   | exact ih0 _ _ _
   | exact LeO.none _
   | refine LeO.ite ?_ ?_
   | refine LeO.bind ?_ (fun _ => ?_)
def dowelref01_Compare.f (k : Nat) (a0 : ByteArray) (a1 : ByteArray) : Option (Int) := (dowelref01_Sign.f a0).bind fun t846 => ((dowelref01_Sign.f a1).bind fun t847 => (if t846 < t847 then (some (-1)) else (if t846 > t847 then (some 1) else (if t846 < 0 then ((dowelref01_digits.f k a1).bind fun t848 => ((dowelref01_digits.f k a0).bind fun t851 => ((dowelref01_order.f k t848 t851).bind fun t854 => (some t854)))) else ((dowelref01_digits.f k a0).bind fun t855 => ((dowelref01_digits.f k a1).bind fun t858 => ((dowelref01_order.f k t855 t858).bind fun t861 => (some t861))))))))
theorem dowelref01_Compare.mono : ∀ a0 a1 k, LeO (dowelref01_Compare.f k a0 a1) (dowelref01_Compare.f (k + 1) a0 a1) := by
 intro a0 a1 k
 unfold dowelref01_Compare.f
 repeat' first
   | (with_reducible exact dowelref01_digits.mono _ _)
   | (with_reducible exact dowelref01_order.mono _ _ _)
   | (with_reducible exact LeO.refl _)
   | (with_reducible exact LeO.none _)
   | (with_reducible refine LeO.ite ?_ ?_)
   | (with_reducible refine LeO.bind ?_ (fun _ => ?_))
   | exact dowelref01_digits.mono _ _
   | exact dowelref01_order.mono _ _ _
   | exact LeO.none _
   | refine LeO.ite ?_ ?_
   | refine LeO.bind ?_ (fun _ => ?_)
mutual
def dowelref01_plus.l0 : Nat → List Int → List Int → List Int → Int → Int → Option (List Int)
 | 0, _, _, _, _, _ => none
 | k + 1, x0, x1, x5, x6, x7 => if x7 < (x0.length : Int) then (dowelref01_plus.j1 k x0 x1 x5 x6 x7 true) else (if x7 < (x1.length : Int) then (dowelref01_plus.j1 k x0 x1 x5 x6 x7 true) else (dowelref01_plus.j1 k x0 x1 x5 x6 x7 (decide (x6 > 0))))
def dowelref01_plus.j1 : Nat → List Int → List Int → List Int → Int → Int → Bool → Option (List Int)
 | 0, _, _, _, _, _, _ => none
 | k + 1, x0, x1, x5, x6, x7, x22 => if x22 = true then (if x7 < (x0.length : Int) then (if 0 ≤ x7 then (if x7 < (x1.length : Int) then (if x5.length < 17592186044416 then (dowelref01_plus.l0 k x0 x1 (x5 ++ [Int.tmod (wrap64 ((wrap64 (x6 + (rd x0 x7))) + (rd x1 x7))) 10]) (wrap64 (Int.tdiv (wrap64 ((wrap64 (x6 + (rd x0 x7))) + (rd x1 x7))) 10)) (wrap64 (x7 + 1))) else (none)) else (if x5.length < 17592186044416 then (dowelref01_plus.l0 k x0 x1 (x5 ++ [Int.tmod (wrap64 (x6 + (rd x0 x7))) 10]) (wrap64 (Int.tdiv (wrap64 (x6 + (rd x0 x7))) 10)) (wrap64 (x7 + 1))) else (none))) else (none)) else (if x7 < (x1.length : Int) then (if 0 ≤ x7 then (if x5.length < 17592186044416 then (dowelref01_plus.l0 k x0 x1 (x5 ++ [Int.tmod (wrap64 (x6 + (rd x1 x7))) 10]) (wrap64 (Int.tdiv (wrap64 (x6 + (rd x1 x7))) 10)) (wrap64 (x7 + 1))) else (none)) else (none)) else (if x5.length < 17592186044416 then (dowelref01_plus.l0 k x0 x1 (x5 ++ [Int.tmod x6 10]) (wrap64 (Int.tdiv x6 10)) (wrap64 (x7 + 1))) else (none)))) else (some x5)
end
def dowelref01_plus.f (k : Nat) (l0 : List Int) (l1 : List Int) : Option (List Int) := dowelref01_plus.l0 k l0 l1 ([] : List Int) 0 0
theorem dowelref01_plus.mono_l : ∀ k, (∀ y0 y1 y2 y3 y4, LeO (dowelref01_plus.l0 k y0 y1 y2 y3 y4) (dowelref01_plus.l0 (k + 1) y0 y1 y2 y3 y4)) ∧ (∀ y0 y1 y2 y3 y4 y5, LeO (dowelref01_plus.j1 k y0 y1 y2 y3 y4 y5) (dowelref01_plus.j1 (k + 1) y0 y1 y2 y3 y4 y5))
 | 0 => ⟨fun _ _ _ _ _ r h => by simp [dowelref01_plus.l0] at h, fun _ _ _ _ _ _ r h => by simp [dowelref01_plus.j1] at h⟩
 | k + 1 => by
  obtain ⟨ih0, ih1⟩ := dowelref01_plus.mono_l k
  refine ⟨?_, ?_⟩
  ·
   intro y0 y1 y2 y3 y4
   unfold dowelref01_plus.l0
   repeat' first
   | (with_reducible exact ih0 _ _ _ _ _)
   | (with_reducible exact ih1 _ _ _ _ _ _)
   | (with_reducible exact LeO.refl _)
   | (with_reducible exact LeO.none _)
   | (with_reducible refine LeO.ite ?_ ?_)
   | (with_reducible refine LeO.bind ?_ (fun _ => ?_))
   | exact ih0 _ _ _ _ _
   | exact ih1 _ _ _ _ _ _
   | exact LeO.none _
   | refine LeO.ite ?_ ?_
   | refine LeO.bind ?_ (fun _ => ?_)
  ·
   intro y0 y1 y2 y3 y4 y5
   unfold dowelref01_plus.j1
   repeat' first
   | (with_reducible exact ih0 _ _ _ _ _)
   | (with_reducible exact ih1 _ _ _ _ _ _)
   | (with_reducible exact LeO.refl _)
   | (with_reducible exact LeO.none _)
   | (with_reducible refine LeO.ite ?_ ?_)
   | (with_reducible refine LeO.bind ?_ (fun _ => ?_))
   | exact ih0 _ _ _ _ _
   | exact ih1 _ _ _ _ _ _
   | exact LeO.none _
   | refine LeO.ite ?_ ?_
   | refine LeO.bind ?_ (fun _ => ?_)
theorem dowelref01_plus.mono : ∀ a0 a1 k, LeO (dowelref01_plus.f k a0 a1) (dowelref01_plus.f (k + 1) a0 a1) := by
 intro a0 a1 k
 obtain ⟨ih0, ih1⟩ := dowelref01_plus.mono_l k
 unfold dowelref01_plus.f
 repeat' first
   | (with_reducible exact ih0 _ _ _ _ _)
   | (with_reducible exact ih1 _ _ _ _ _ _)
   | (with_reducible exact LeO.refl _)
   | (with_reducible exact LeO.none _)
   | (with_reducible refine LeO.ite ?_ ?_)
   | (with_reducible refine LeO.bind ?_ (fun _ => ?_))
   | exact ih0 _ _ _ _ _
   | exact ih1 _ _ _ _ _ _
   | exact LeO.none _
   | refine LeO.ite ?_ ?_
   | refine LeO.bind ?_ (fun _ => ?_)
def dowelref01_minus.l0 : Nat → List Int → List Int → List Int → Int → Int → Option (List Int)
 | 0, _, _, _, _, _ => none
 | k + 1, x0, x1, x5, x6, x7 => if x7 < (x0.length : Int) then (if 0 ≤ x7 then (if x7 < (x1.length : Int) then (if (wrap64 ((wrap64 ((rd x0 x7) - x6)) - (rd x1 x7))) < 0 then (if x5.length < 17592186044416 then (dowelref01_minus.l0 k x0 x1 (x5 ++ [wrap64 ((wrap64 ((wrap64 ((rd x0 x7) - x6)) - (rd x1 x7))) + 10)]) 1 (wrap64 (x7 + 1))) else (none)) else (if x5.length < 17592186044416 then (dowelref01_minus.l0 k x0 x1 (x5 ++ [wrap64 ((wrap64 ((rd x0 x7) - x6)) - (rd x1 x7))]) 0 (wrap64 (x7 + 1))) else (none))) else (if (wrap64 ((rd x0 x7) - x6)) < 0 then (if x5.length < 17592186044416 then (dowelref01_minus.l0 k x0 x1 (x5 ++ [wrap64 ((wrap64 ((rd x0 x7) - x6)) + 10)]) 1 (wrap64 (x7 + 1))) else (none)) else (if x5.length < 17592186044416 then (dowelref01_minus.l0 k x0 x1 (x5 ++ [wrap64 ((rd x0 x7) - x6)]) 0 (wrap64 (x7 + 1))) else (none)))) else (none)) else ((dowelref01_trim.f k x5).bind fun t583 => (some t583))
def dowelref01_minus.f (k : Nat) (l0 : List Int) (l1 : List Int) : Option (List Int) := dowelref01_minus.l0 k l0 l1 ([] : List Int) 0 0
theorem dowelref01_minus.mono_l : ∀ k, (∀ y0 y1 y2 y3 y4, LeO (dowelref01_minus.l0 k y0 y1 y2 y3 y4) (dowelref01_minus.l0 (k + 1) y0 y1 y2 y3 y4))
 | 0 => fun _ _ _ _ _ r h => by simp [dowelref01_minus.l0] at h
 | k + 1 => by
  have ih0 := dowelref01_minus.mono_l k
  ·
   intro y0 y1 y2 y3 y4
   unfold dowelref01_minus.l0
   repeat' first
   | (with_reducible exact ih0 _ _ _ _ _)
   | (with_reducible exact dowelref01_trim.mono _ _)
   | (with_reducible exact LeO.refl _)
   | (with_reducible exact LeO.none _)
   | (with_reducible refine LeO.ite ?_ ?_)
   | (with_reducible refine LeO.bind ?_ (fun _ => ?_))
   | exact ih0 _ _ _ _ _
   | exact dowelref01_trim.mono _ _
   | exact LeO.none _
   | refine LeO.ite ?_ ?_
   | refine LeO.bind ?_ (fun _ => ?_)
theorem dowelref01_minus.mono : ∀ a0 a1 k, LeO (dowelref01_minus.f k a0 a1) (dowelref01_minus.f (k + 1) a0 a1) := by
 intro a0 a1 k
 have ih0 := dowelref01_minus.mono_l k
 unfold dowelref01_minus.f
 repeat' first
   | (with_reducible exact ih0 _ _ _ _ _)
   | (with_reducible exact dowelref01_trim.mono _ _)
   | (with_reducible exact LeO.refl _)
   | (with_reducible exact LeO.none _)
   | (with_reducible refine LeO.ite ?_ ?_)
   | (with_reducible refine LeO.bind ?_ (fun _ => ?_))
   | exact ih0 _ _ _ _ _
   | exact dowelref01_trim.mono _ _
   | exact LeO.none _
   | refine LeO.ite ?_ ?_
   | refine LeO.bind ?_ (fun _ => ?_)
def dowelref01_Neg.f (k : Nat) (a0 : ByteArray) : Option (ByteArray) := (dowelref01_Sign.f a0).bind fun t639 => ((dowelref01_digits.f k a0).bind fun t640 => ((dowelref01_text.f k (decide (t639 > 0)) t640).bind fun t643 => (some t643)))
theorem dowelref01_Neg.mono : ∀ a0 k, LeO (dowelref01_Neg.f k a0) (dowelref01_Neg.f (k + 1) a0) := by
 intro a0 k
 unfold dowelref01_Neg.f
 repeat' first
   | (with_reducible exact dowelref01_digits.mono _ _)
   | (with_reducible exact dowelref01_text.mono _ _ _)
   | (with_reducible exact LeO.refl _)
   | (with_reducible exact LeO.none _)
   | (with_reducible refine LeO.ite ?_ ?_)
   | (with_reducible refine LeO.bind ?_ (fun _ => ?_))
   | exact dowelref01_digits.mono _ _
   | exact dowelref01_text.mono _ _ _
   | exact LeO.none _
   | refine LeO.ite ?_ ?_
   | refine LeO.bind ?_ (fun _ => ?_)
def dowelref01_Add.f (k : Nat) (a0 : ByteArray) (a1 : ByteArray) : Option (ByteArray) := (dowelref01_digits.f k a0).bind fun t615 => ((dowelref01_digits.f k a1).bind fun t618 => ((dowelref01_Sign.f a0).bind fun t621 => ((dowelref01_Sign.f a1).bind fun t622 => (if ((decide (t621 < 0)) == (decide (t622 < 0))) = true then ((dowelref01_Sign.f a0).bind fun t623 => ((dowelref01_plus.f k t615 t618).bind fun t624 => ((dowelref01_text.f k (decide (t623 < 0)) t624).bind fun t627 => (some t627)))) else ((dowelref01_order.f k t615 t618).bind fun t628 => (if t628 ≥ 0 then ((dowelref01_Sign.f a0).bind fun t629 => ((dowelref01_minus.f k t615 t618).bind fun t630 => ((dowelref01_text.f k (decide (t629 < 0)) t630).bind fun t633 => (some t633)))) else ((dowelref01_Sign.f a1).bind fun t634 => ((dowelref01_minus.f k t618 t615).bind fun t635 => ((dowelref01_text.f k (decide (t634 < 0)) t635).bind fun t638 => (some t638))))))))))
theorem dowelref01_Add.mono : ∀ a0 a1 k, LeO (dowelref01_Add.f k a0 a1) (dowelref01_Add.f (k + 1) a0 a1) := by
 intro a0 a1 k
 unfold dowelref01_Add.f
 repeat' first
   | (with_reducible exact dowelref01_digits.mono _ _)
   | (with_reducible exact dowelref01_minus.mono _ _ _)
   | (with_reducible exact dowelref01_order.mono _ _ _)
   | (with_reducible exact dowelref01_plus.mono _ _ _)
   | (with_reducible exact dowelref01_text.mono _ _ _)
   | (with_reducible exact LeO.refl _)
   | (with_reducible exact LeO.none _)
   | (with_reducible refine LeO.ite ?_ ?_)
   | (with_reducible refine LeO.bind ?_ (fun _ => ?_))
   | exact dowelref01_digits.mono _ _
   | exact dowelref01_minus.mono _ _ _
   | exact dowelref01_order.mono _ _ _
   | exact dowelref01_plus.mono _ _ _
   | exact dowelref01_text.mono _ _ _
   | exact LeO.none _
   | refine LeO.ite ?_ ?_
   | refine LeO.bind ?_ (fun _ => ?_)
def dowelref01_Sub.f (k : Nat) (a0 : ByteArray) (a1 : ByteArray) : Option (ByteArray) := (dowelref01_Neg.f k a1).bind fun t644 => ((dowelref01_Add.f k a0 t644).bind fun t645 => (some t645))
theorem dowelref01_Sub.mono : ∀ a0 a1 k, LeO (dowelref01_Sub.f k a0 a1) (dowelref01_Sub.f (k + 1) a0 a1) := by
 intro a0 a1 k
 unfold dowelref01_Sub.f
 repeat' first
   | (with_reducible exact dowelref01_Add.mono _ _ _)
   | (with_reducible exact dowelref01_Neg.mono _ _)
   | (with_reducible exact LeO.refl _)
   | (with_reducible exact LeO.none _)
   | (with_reducible refine LeO.ite ?_ ?_)
   | (with_reducible refine LeO.bind ?_ (fun _ => ?_))
   | exact dowelref01_Add.mono _ _ _
   | exact dowelref01_Neg.mono _ _
   | exact LeO.none _
   | refine LeO.ite ?_ ?_
   | refine LeO.bind ?_ (fun _ => ?_)
end Go.Proofs.YtiikfhdmclmjmaaDoor.P
namespace Go.Proofs.YtiikfhdmclmjmaaDoor.Pure
open Go.RowKit Go.Proofs.YtiikfhdmclmjmaaDoorW.PrintWords Go.Proofs.YtiikfhdmclmjmaaDoor.P
set_option linter.unusedVariables false
set_option linter.unusedSimpArgs false
abbrev dg (z : Int) : List Int := dgs 10 z.natAbs
theorem dg_digs (z : Int) : Digs 10 (dg z) := dgs_digs TEN2 _
theorem dg_val (z : Int) : val 10 (dg z) = (z.natAbs : Int) := dgs_val TEN2 _
theorem Sm.dg {k : Nat} {z : Int} (h : Sm k z) : (dg z).length ≤ k := dgs_len TEN2 k _ h
theorem rdig_sm {k : Nat} {z : Int} (h : Sm (k + 1) z) (hk : k ≤ 1000000) : Ev (fun k => dowelref01_digits.f k (T z)) (dg z) := rdigits_ev z (by have := h.itoa; omega)
theorem sign_lt0 {x : Int} : x.sign < 0 ↔ x < 0 := by
  rcases Int.lt_trichotomy x 0 with h | h | h
  · rw [Int.sign_eq_neg_one_of_neg h]; omega
  · rw [h]; decide
  · rw [Int.sign_eq_one_of_pos h]; omega
theorem mul_bd10 {x b : Int} (x0 : 0 ≤ x) (x1 : x < 10) (b0 : 0 ≤ b) (b1 : b < 10) : 0 ≤ x * b ∧ x * b ≤ 81 := by
  have h : x * b ≤ 9 * 9 := Int.mul_le_mul (show x ≤ 9 by omega) (show b ≤ 9 by omega) b0 (by decide)
  exact ⟨Int.mul_nonneg x0 b0, h⟩
theorem rowR_all10 : ∀ (x : Int) (m s : List Int) (c : Int), 0 ≤ x → x < 10 → Digs 10 m → Digs 10 s → s.length = m.length → 0 ≤ c → c < 10 →
    Digs 10 (rowR 10 x m s c) ∧ val 10 (rowR 10 x m s c) = x * val 10 m + val 10 s + c
  | x, [], [], c, _, _, _, _, _, c0, c1 => by
    refine ⟨Digs.mk c0 c1 (Digs.nil _), ?_⟩
    simp [rowR, val]
  | x, b :: m, o :: s, c, x0, x1, hm, hs, hl, c0, c1 => by
    have hb := hm.cons.1
    have ho := hs.cons.1
    have hbd := mul_bd10 x0 x1 hb.1 hb.2
    have ih := rowR_all10 x m s ((c + (x * b + o)) / 10) x0 x1 hm.cons.2 hs.cons.2 (by simpa using hl) (by omega) (by omega)
    refine ⟨Digs.mk (by omega) (by omega) ih.1, ?_⟩
    simp only [rowR, val, ih.2]
    have e : x * (10 * val 10 m) = 10 * (x * val 10 m) := by rw [← Int.mul_assoc, Int.mul_comm x, Int.mul_assoc]
    rw [Int.mul_add x, e]
    omega
theorem mulR_all10 : ∀ (l m s : List Int), Digs 10 l → Digs 10 m → Digs 10 s → s.length = m.length →
    Digs 10 (mulR 10 l m s) ∧ val 10 (mulR 10 l m s) = val 10 l * val 10 m + val 10 s
  | [], m, s, _, _, hs, _ => ⟨hs, by simp [mulR, val]⟩
  | x :: l, m, s, hl, hm, hs, h => by
    have hx := hl.cons.1
    have hr := rowR_all10 x m s 0 hx.1 hx.2 hm hs h (by omega) (by omega)
    have hlen := rowR_len 10 x m s 0 h
    have ih := mulR_all10 l m (rowR 10 x m s 0).tail hl.cons.2 hm (tail_digs hr.1) (by simp [hlen])
    have hh := hd0_digs (by decide) hr.1
    have hv := val_hd 10 (rowR 10 x m s 0)
    refine ⟨Digs.mk hh.1 hh.2 ih.1, ?_⟩
    simp only [mulR, val, ih.2]
    rw [Int.add_mul, Int.mul_assoc]
    omega
theorem rm_round {x b o c : Int} (x0 : 0 ≤ x) (x1 : x < 10) (b0 : 0 ≤ b) (b1 : b < 10) (o0 : 0 ≤ o) (o1 : o < 10) (c0 : 0 ≤ c) (c1 : c < 10) :
    Int.tmod (wrap64 ((wrap64 (o + c)) + (wrap64 (x * b)))) 10 = (c + (x * b + o)) % 10 ∧ wrap64 (Int.tdiv (wrap64 ((wrap64 (o + c)) + (wrap64 (x * b)))) 10) = (c + (x * b + o)) / 10 ∧
      0 ≤ (c + (x * b + o)) / 10 ∧ (c + (x * b + o)) / 10 < 10 := by
  have h := mul_bd10 x0 x1 b0 b1
  generalize x * b = y at *
  rw [w64 (o + c) (by omega) (by omega), w64 y (by omega) (by omega), w64 (o + c + y) (by omega) (by omega), Int.tdiv_eq_ediv_of_nonneg (by omega), Int.tmod_eq_emod_of_nonneg (by omega), w64 _ (by omega) (by omega), show o + c + y = c + (y + o) by omega]
  exact ⟨rfl, rfl, by omega, by omega⟩
theorem rm_last {c : Int} (c0 : 0 ≤ c) (c1 : c < 10) : Int.tmod (wrap64 (0 + c)) 10 = c ∧ wrap64 (Int.tdiv (wrap64 (0 + c)) 10) = 0 := by
  rw [w64 (0 + c) (by omega) (by omega), Int.tdiv_eq_ediv_of_nonneg (by omega), Int.tmod_eq_emod_of_nonneg (by omega), w64 _ (by omega) (by omega)]
  omega
section
variable (l m : List Int) (b0 b1 : ByteArray) (r : ByteArray)
theorem rmul_row (i : Nat) (z : Nat) (hm : Digs 10 m) (hl : Digs 10 l) (hmax : l.length + m.length ≤ 1000000000) (hi : i < l.length) :
    ∀ (n j : Nat) (p s : List Int) (c : Int), m.length - j = n → j ≤ m.length → p.length = i + j → s.length = m.length - j → Digs 10 s → 0 ≤ c → c < 10 → p.length + s.length + (z + 1) = l.length + m.length + 1 →
      Ev (fun k => dowelref01_Mul.l0 k b0 b1 l m (p ++ rowR 10 (rd l (i : Int)) (m.drop j) s c ++ List.replicate z 0) ((i + 1 : Nat) : Int)) r →
      Ev (fun k => dowelref01_Mul.l1 k b0 b1 l m (p ++ s ++ List.replicate (z + 1) 0) (i : Int) c (j : Int)) r
  | 0, j, p, s, c, hn, hj, hp, hsl, hs, c0, c1, htot, H => by
    obtain rfl : j = m.length := by omega
    obtain rfl : s = [] := List.length_eq_zero_iff.1 (by omega)
    rw [List.drop_of_length_le (Nat.le_refl _)] at H
    simp only [List.append_nil, rowR] at H ⊢
    simp only [List.length_nil] at htot
    have q1 : ¬ ((m.length : Int) < (m.length : Int)) := by omega
    have q2 : ¬ (((m.length + 1 : Nat) : Int) < (m.length : Int)) := by omega
    have w1 : i + m.length ≤ 9223372036854775807 := by omega
    have w2 : wrap64 ((i : Int) + 1) = ((i + 1 : Nat) : Int) := wsucc (n := i + 1) (by omega) (by omega)
    refine Ev.step (fun k => dowelref01_Mul.l1.eq_2 ..) (Ev.neg q1 (Ev.step (fun k => dowelref01_Mul.j2.eq_2 ..) ?_))
    by_cases hc : c > 0
    · have q3 : (0 : Int) ≤ ((i + m.length : Nat) : Int) := Int.natCast_nonneg _
      have q4 : ((i + m.length : Nat) : Int) < ((p ++ List.replicate (z + 1) (0 : Int)).length : Int) := by
        rw [List.length_append, List.length_replicate]
        omega
      have hr := rm_last c0 c1
      refine Ev.pos (decide_eq_true hc) ?_
      rw [wadd w1]
      refine Ev.pos q3 (Ev.pos q4 (Ev.neg q1 ?_))
      rw [List.replicate_succ, rd_mid hp rfl, set_mid2 hp rfl, hr.1, hr.2, wsucc (j := m.length) (n := m.length + 1) (by omega) (by omega)]
      refine Ev.step (fun k => dowelref01_Mul.l1.eq_2 ..) (Ev.neg q2 (Ev.step (fun k => dowelref01_Mul.j2.eq_2 ..) (Ev.neg (by simp) ?_)))
      rw [w2]
      simpa using H
    · obtain rfl : c = 0 := by omega
      refine Ev.neg (by simp) ?_
      rw [w2, List.replicate_succ]
      simpa using H
  | n + 1, j, p, s, c, hn, hj, hp, hsl, hs, c0, c1, htot, H => by
    obtain ⟨o, s, rfl⟩ : ∃ o s', s = o :: s' := by
      cases s with
      | nil => simp at hsl; omega
      | cons o s' => exact ⟨o, s', rfl⟩
    have hjm : j < m.length := by omega
    have q1 : (j : Int) < (m.length : Int) := by omega
    have q2 : (0 : Int) ≤ (j : Int) := by omega
    have q5 : (0 : Int) ≤ (i : Int) := by omega
    have q6 : (i : Int) < (l.length : Int) := by omega
    have el : p ++ o :: s ++ List.replicate (z + 1) 0 = p ++ o :: (s ++ List.replicate (z + 1) 0) := by simp
    have hlen2 : (p ++ o :: (s ++ List.replicate (z + 1) (0 : Int))).length = l.length + m.length + 1 := by simp at htot ⊢; omega
    have q3 : (0 : Int) ≤ ((i + j : Nat) : Int) := by omega
    have q4 : ((i + j : Nat) : Int) < ((p ++ o :: (s ++ List.replicate (z + 1) (0 : Int))).length : Int) := by rw [hlen2]; omega
    have w1 : i + j ≤ 9223372036854775807 := by omega
    have w2 : m.length ≤ 9223372036854775807 := by omega
    have r1 : m.length - (j + 1) = n := by omega
    have r3 : ∀ v : Int, (p ++ [v]).length = i + (j + 1) := by intro v; simp [hp]; omega
    have r4 : s.length = m.length - (j + 1) := by simp at hsl; omega
    have r5 : ∀ v : Int, (p ++ [v]).length + s.length + (z + 1) = l.length + m.length + 1 := by intro v; simp at htot ⊢; omega
    have hx := rd_digs hl hi
    rw [drop_at (l := m) (i := j) hjm] at H
    simp only [rowR] at H
    rw [el]
    refine Ev.step (fun k => dowelref01_Mul.l1.eq_2 ..) (Ev.pos q1 (Ev.step (fun k => dowelref01_Mul.j2.eq_2 ..) (Ev.pos rfl ?_)))
    rw [wadd w1, wsucc hjm w2]
    refine Ev.pos q3 (Ev.pos q4 (Ev.pos q1 (Ev.pos q5 (Ev.pos q6 (Ev.pos q2 ?_)))))
    rw [rd_mid hp rfl, set_mid2 hp rfl]
    clear hlen2 q1 q2 q3 q4 q5 q6 el
    have hb := rd_digs hm hjm
    have ho := hs.cons.1
    generalize rd m (j : Int) = b at *
    have hr := rm_round hx.1 hx.2 hb.1 hb.2 ho.1 ho.2 c0 c1
    rw [hr.1, hr.2.1]
    have ih := rmul_row i z hm hl hmax hi n (j + 1) (p ++ [(c + (rd l (i : Int) * b + o)) % 10]) s ((c + (rd l (i : Int) * b + o)) / 10) r1 hjm (r3 _) r4 hs.cons.2 hr.2.2.1 hr.2.2.2 (r5 _)
    have e2 : p ++ (c + (rd l (i : Int) * b + o)) % 10 :: (s ++ List.replicate (z + 1) 0) = p ++ [(c + (rd l (i : Int) * b + o)) % 10] ++ s ++ List.replicate (z + 1) 0 := by simp
    rw [e2]
    refine ih ?_
    simpa using H
theorem rmul_l0 (hl : Digs 10 l) (hm : Digs 10 m) (hmax : l.length + m.length ≤ 1000000000) :
    ∀ (n i : Nat) (p s : List Int), l.length - i = n → i ≤ l.length → p.length = i → s.length = m.length → Digs 10 s →
      Ev (fun k => dowelref01_Mul.l0 k b0 b1 l m (p ++ mulR 10 (l.drop i) m s ++ [0]) (l.length : Int)) r →
      Ev (fun k => dowelref01_Mul.l0 k b0 b1 l m (p ++ s ++ List.replicate (l.length - i + 1) 0) (i : Int)) r
  | 0, i, p, s, hn, hi, hp, hsl, hs, H => by
    obtain rfl : i = l.length := by omega
    rw [List.drop_of_length_le (Nat.le_refl _)] at H
    simp only [mulR] at H
    rw [Nat.sub_self]
    exact H
  | n + 1, i, p, s, hn, hi, hp, hsl, hs, H => by
    have hx := rd_digs hl (show i < l.length by omega)
    obtain ⟨z, hz⟩ : ∃ z, l.length - i = z := ⟨_, rfl⟩
    rw [drop_at (l := l) (i := i) (by omega)] at H
    simp only [mulR] at H
    have hr := rowR_all10 (rd l (i : Int)) m s 0 hx.1 hx.2 hm hs hsl (by omega) (by omega)
    have hlen := rowR_len 10 (rd l (i : Int)) m s 0 hsl
    obtain ⟨a, t, hat⟩ : ∃ a t, rowR 10 (rd l (i : Int)) m s 0 = a :: t := by
      cases h : rowR 10 (rd l (i : Int)) m s 0 with
      | nil => rw [h] at hlen; simp at hlen
      | cons a t => exact ⟨a, t, rfl⟩
    rw [hat] at H hr hlen
    simp only [hd0, List.tail_cons] at H
    have ih := rmul_l0 hl hm hmax n (i + 1) (p ++ [a]) t (by omega) (by omega) (by simp [hp]) (by simpa using hlen) hr.1.cons.2 (by simpa using H)
    refine Ev.step (fun k => dowelref01_Mul.l0.eq_2 ..) (Ev.pos (by omega) ?_)
    rw [hz]
    refine rmul_row l m b0 b1 r i z hm hl hmax (by omega) m.length 0 p s 0 (by omega) (by omega) (by omega) (by omega) hs (by omega) (by omega) (by omega) ?_
    rw [List.drop_zero, hat]
    have e1 : l.length - (i + 1) + 1 = z := by omega
    rw [e1] at ih
    have e2 : p ++ a :: t ++ List.replicate z 0 = p ++ [a] ++ t ++ List.replicate z 0 := by simp
    rw [e2]
    exact ih
end
theorem rmul_ev {k j : Nat} {x y : Int} (hx : Sm (k + 1) x) (hy : Sm (j + 1) y) (hk : k ≤ 1000000) (hj : j ≤ 1000000) : Ev (fun k => dowelref01_Mul.f k (T x) (T y)) (T (x * y)) := by
  unfold dowelref01_Mul.f
  have lx := hx.dg
  have ly := hy.dg
  refine Ev.bind (rdig_sm hx hk) (Ev.bind (rdig_sm hy hj) ?_)
  rw [wadd (i := (dg x).length) (j := (dg y).length) (by omega), wsucc (j := (dg x).length + (dg y).length) (n := (dg x).length + (dg y).length + 1) (by omega) (by omega)]
  refine Ev.pos (by omega) (Ev.pos (by omega) ?_)
  have e : List.replicate (((dg x).length + (dg y).length + 1 : Nat) : Int).toNat (0 : Int) = [] ++ List.replicate (dg y).length 0 ++ List.replicate ((dg x).length - 0 + 1) 0 := by
    rw [List.nil_append, List.replicate_append_replicate]
    congr 1
    omega
  rw [e]
  have hr := mulR_all10 (dg x) (dg y) (List.replicate (dg y).length 0) (dg_digs x) (dg_digs y) (Digs.zeros _ (by decide) _) (by simp)
  have hlen := mulR_len 10 (dg x) (dg y) (List.replicate (dg y).length 0) (by simp)
  refine rmul_l0 (dg x) (dg y) (T x) (T y) _ (dg_digs x) (dg_digs y) (by omega) (dg x).length 0 [] (List.replicate (dg y).length 0) (by omega) (by omega) rfl (by simp) (Digs.zeros _ (by decide) _) ?_
  refine Ev.step (fun k => dowelref01_Mul.l0.eq_2 ..) (Ev.neg (by omega) (Ev.bind0 (rsign_eq x) (Ev.bind0 (rsign_eq y) ?_)))
  have hs := Int.sign_trichotomy (x * y)
  rw [← Int.sign_mul, w64 _ (by omega) (by omega), List.drop_zero, List.nil_append]
  refine Ev.bind (rtext_to _ (mulR 10 (dg x) (dg y) (List.replicate (dg y).length 0) ++ [0]) (x.natAbs * y.natAbs) (x * y) (hr.1.app (Digs.zeros 10 (by decide) 1)) ?_ ?_ ?_) (Ev.some_ rfl)
  · rw [val_app, hr.2, val_zeros, dg_val, dg_val]
    simp [val]
  · rw [List.length_append, hlen]
    simp
    omega
  · have a1 := @sign_lt0 (x * y)
    have hm : (x.natAbs * y.natAbs : Nat) = (x * y).natAbs := (Int.natAbs_mul x y).symm
    rw [hm]
    by_cases h : x * y < 0
    · rw [if_pos (decide_eq_true (a1.2 h))]; omega
    · rw [if_neg (by rw [decide_eq_true_eq]; exact fun hh => h (a1.1 hh))]; omega
theorem Sm.pow {k : Nat} {x : Int} (h : Sm k x) : ∀ n : Nat, Sm (k * n + 1) (x ^ n)
  | 0 => by
    rw [Int.pow_zero]
    show (1 : Int).natAbs < 10 ^ (k * 0 + 1)
    rw [Nat.mul_zero]
    decide
  | n + 1 => by
    rw [Int.pow_succ]
    exact ((h.pow n).mul h).mono (by rw [Nat.mul_succ]; omega)
theorem T_1 : (⟨#[49]⟩ : ByteArray) = T 1 := by
  show (⟨#[49]⟩ : ByteArray) = ⟨(Lib.itoa ((1 : Nat) : Int)).toArray⟩
  rw [itoa_nat, dec_small (by decide)]
  rfl
theorem rpower_l0 (x : Int) (hx : Sm 20 x) (N : Nat) (hN : N ≤ 64) : ∀ (q i : Nat), i + q = N → Ev (fun k => dowelref01_Power.l0 k (T x) (N : Int) (T (x ^ i)) (i : Int)) (T (x ^ N))
  | 0, i, h => by
    obtain rfl : i = N := by omega
    exact Ev.step (fun k => dowelref01_Power.l0.eq_2 ..) (Ev.neg (by omega) (Ev.some_ rfl))
  | q + 1, i, h => by
    have ih := rpower_l0 x hx N hN q (i + 1) (by omega)
    refine Ev.step (fun k => dowelref01_Power.l0.eq_2 ..) (Ev.pos (by omega) (Ev.bind (rmul_ev (k := 20 * i) (j := 19) (hx.pow i) hx (by omega) (by decide)) ?_))
    rw [wsucc (j := i) (n := N) (by omega) (by omega), ← Int.pow_succ]
    exact ih
theorem rpower_ev (x : Int) (hx : Sm 20 x) (N : Nat) (hN : N ≤ 64) : Ev (fun k => dowelref01_Power.f k (T x) (N : Int)) (T (x ^ N)) := by
  unfold dowelref01_Power.f
  rw [T_1]
  have := rpower_l0 x hx N hN N 0 (by omega)
  rwa [Int.pow_zero] at this
theorem power_l0 (x : Int) (hx : Sm 20 x) (N : Nat) (hN : N ≤ 64) : ∀ (q i : Nat), i + q = N →
    Ev (fun k => integer_Power.l0 k (N : Int) (i : Int) (decide (x < 0)) (lm x) (decide (x ^ i < 0)) (lm (x ^ i))) (decide (x ^ N < 0), lm (x ^ N), 0)
  | 0, i, h => by
    obtain rfl : i = N := by omega
    exact Ev.step (fun k => integer_Power.l0.eq_2 ..) (Ev.neg (by omega) (Ev.some_ rfl))
  | q + 1, i, h => by
    have ih := power_l0 x hx N hN q (i + 1) (by omega)
    have l1 := hx.lm
    have l2 := (hx.pow i).lm
    refine Ev.step (fun k => integer_Power.l0.eq_2 ..) (Ev.pos (by omega) (Ev.bind (mul_ev (x ^ i) x (by omega)) ?_))
    rw [wsucc (j := i) (n := N) (by omega) (by omega), ← Int.pow_succ]
    exact ih
theorem power_ev (x : Int) (hx : Sm 20 x) (n : Int) : Ev (fun k => integer_Power.f k (decide (x < 0)) (lm x) n) (if n < 0 ∨ n > 64 then (false, [], 2) else (decide (x ^ n.toNat < 0), lm (x ^ n.toNat), 0)) := by
  unfold integer_Power.f
  by_cases h1 : n < 0
  · rw [if_pos (.inl h1)]
    exact Ev.pos h1 (Ev.step (fun k => integer_Power.j0.eq_2 ..) (Ev.pos rfl (Ev.some_ rfl)))
  · refine Ev.neg h1 (Ev.step (fun k => integer_Power.j0.eq_2 ..) ?_)
    by_cases h2 : n > 64
    · rw [if_pos (.inr h2)]
      exact Ev.pos (decide_eq_true h2) (Ev.some_ rfl)
    · rw [if_neg (by omega)]
      refine Ev.neg (by rw [decide_eq_true_eq]; exact h2) (Ev.bind (from_ev 1 (by decide) (by decide)) ?_)
      obtain ⟨N, rfl⟩ : ∃ N : Nat, n = (N : Int) := ⟨n.toNat, by omega⟩
      have := power_l0 x hx N (by omega) N 0 (by omega)
      rw [Int.pow_zero] at this
      rw [Int.toNat_natCast]
      exact this
theorem IntegerPowers : dowellaw01_IntegerPowers.Pure := by
  intro s n hs hn
  refine Ev.rounds (g := fun k => dowellaw01_IntegerPowers.f k s n) ?_
  unfold dowellaw01_IntegerPowers.f
  have kn : Ev (fun k => dowellaw01_IntegerPowers.j0 k s n true) true := Ev.step (fun k => dowellaw01_IntegerPowers.j0.eq_2 ..) (Ev.pos rfl (Ev.bind known_ev (Ev.some_ rfl)))
  refine Ev.bind known_ev (Ev.pos rfl (Ev.bind (right_ev s) ?_))
  by_cases h1 : ¬ (s.size ≤ 120 ∧ chk s.data.toList = 0)
  · exact Ev.neg (by rw [decide_eq_true_eq]; exact h1) kn
  replace h1 := Decidable.not_not.1 h1
  refine Ev.pos (decide_eq_true h1) ?_
  by_cases h20 : 20 < s.size
  · rw [decide_eq_true h20]; exact kn
  rw [decide_eq_false h20]
  obtain ⟨a, e1, sa, ra⟩ := read_sm s h1
  subst e1
  have sa2 : Sm 20 a := sm_of (by omega)
  refine Ev.step (fun k => dowellaw01_IntegerPowers.j0.eq_2 ..) (Ev.neg (by simp) (Ev.bind ra (Ev.bind (power_ev a sa2 n) ?_)))
  by_cases hb : n < 0 ∨ n > 64
  · rw [if_pos hb]
    have bad : Ev (fun k => dowellaw01_IntegerPowers.j1 k (T a) n true 2 true false []) true := by
      refine Ev.step (fun k => dowellaw01_IntegerPowers.j1.eq_2 ..) (Ev.pos rfl (Ev.pos rfl ?_))
      have l0 : lm 0 = [] := lm_nil.2 rfl
      have t0 := text_ev 0 (by rw [l0]; simp) (by rw [show (0 : Int).natAbs = 0 from rfl, dec_zero]; simp)
      rw [l0] at t0
      exact Ev.bind t0 (Ev.pos ((T_48 0).2 rfl) (Ev.some_ rfl))
    by_cases h0 : n < 0
    · exact Ev.pos h0 bad
    · refine Ev.neg h0 ?_
      rw [decide_eq_true (show n > 64 by omega)]
      exact bad
  · rw [if_neg hb]
    obtain ⟨N, rfl⟩ : ∃ N : Nat, n = (N : Int) := ⟨n.toNat, by omega⟩
    have hN : N ≤ 64 := by omega
    rw [Int.toNat_natCast]
    refine Ev.neg (by omega) ?_
    rw [decide_eq_false (show ¬ ((N : Int) > 64) by omega)]
    refine Ev.step (fun k => dowellaw01_IntegerPowers.j1.eq_2 ..) (Ev.neg (by simp) (Ev.pos rfl ?_))
    exact Ev.bind (text_sm (k := 20 * N) (sa2.pow N) (by omega)) (Ev.bind (rpower_ev a sa2 N hN) (Ev.pos rfl (Ev.some_ rfl)))
end Go.Proofs.YtiikfhdmclmjmaaDoor.Pure
namespace Go.Proofs.YtiikfhdmclmjmaaDoor
namespace LawIntegerPowers
open Go Go.ChangeShapes Go.WideShapes Go.ChangeAt Go.RowKit
open Go.ChangeMaps (open_string shut_string)
set_option linter.unusedVariables false
theorem own : ownKnob Tryd.prog.godebug = none := by kernel_rfl
theorem door_met (os : Os) (args : Array Value) : laidMetH Tryd.prog Rows.integerPowersRow.laid ((World.doorLaid Tryd.prog 62 os).forCall (fun _ _ => 0) ⟨#[], args, []⟩).memory :=
  laidMetH_of_parts3 (fuel := 8) (laidMet_of_run' 8 (by kernel_rfl) (by kernel_rfl)) (by kernel_rfl) (by kernel_rfl)
theorem of_laid {W : World} (h : laidMetH Tryd.prog Rows.integerPowersRow.laid W) : P.G W := by
  rw [MakeChecks.laidMetH_plain _ _ _ (by kernel_rfl)] at h
  replace h := laidMet.tail h
  replace h := laidMet.tail h
  exact Lib.tabIs_of_head (g := 2) (t := 126) (e := 58) (n := 20) (by kernel_rfl) (by kernel_rfl) (by kernel_rfl) (by kernel_rfl) (by kernel_rfl) (by kernel_rfl) h
set_option maxRecDepth 100000 in
theorem lifted (os : Os) (started : os.Started) (H : Type) (enc : TypeId × Value → H) :
    ReturnsInHanded {} Tryd.checked os 8 .any (fun w args => (Rows.integerPowersSpec.pre enc Tryd.prog Tryd.f8 [] false w args ∧ laidMetH Tryd.prog Rows.integerPowersRow.laid w) ∧ sizedMet enc Tryd.prog Tryd.f8 (OpenSpec.ofChange Rows.integerPowersSpec) false w args)
      (Rows.integerPowersSpec.post enc Tryd.prog Tryd.f8 false true false false) := by
  refine returnsInHanded_of_change_and (C := Tryd.checked) (X := fun w _ => laidMetH Tryd.prog Rows.integerPowersRow.laid w) (fun _ _ _ hh h => h.of_heap hh) own started (by kernel_rfl) Tryd.func8
    (ChangeSpec.witness_shaped (enc := enc) (C := Tryd.checked) (os := os) (X := fun w _ => laidMetH Tryd.prog Rows.integerPowersRow.laid w) false (World.doorLaid Tryd.prog 62 os) #[.string ByteArray.empty, .int .i64 0] 8 rfl (World.shaped_of_RefB (by kernel_rfl) (by kernel_rfl)) (by kernel_rfl) (by kernel_rfl) (by kernel_rfl) (door_met os _)) ?_
  intro W base args ds gs before hval0 hW _ hsz0 hL _
  have hsz : (DataW.weightsEach Tryd.prog (Tryd.f8.params.toList ++ Rows.integerPowersSpec.plain.varTypes Tryd.prog) (ds ++ gs)).all (· ≤ reachBytes) = true := hsz0
  have hval : ∀ (j : Nat) t v, Tryd.f8.params[j]? = some t → args[j]? = some v → Value.okWide Tryd.prog W .any base t v := hval0
  have hW' := hW
  obtain ⟨p, q, hA0, hV, rfl, hfz, hnd⟩ := hW
  have hA : DataW.TrodAll enc Tryd.prog W 0 (fun _ => true) true Tryd.f8.params.toList args.toList ds p := hA0
  rw [Tryd.params8] at hA hval hsz
  obtain ⟨v0, vs0, d0, ds0, p0, q0, hargs, rfl, rfl, h0, r0⟩ := trodAll_cons hA
  obtain ⟨v1, vs1, d1, ds1, p1, q1, rfl, rfl, rfl, h1, r1⟩ := trodAll_cons r0
  obtain ⟨rfl, rfl, rfl⟩ := trodAll_nil r1
  obtain rfl : args = #[v0, v1] := by cases args; simp_all
  obtain ⟨rfl, rfl⟩ := trodVars_none hV
  obtain ⟨a0, rfl, rfl, rfl, y0⟩ := open_string Tryd.underlying9 (hval 0 9 v0 rfl rfl) h0
  have w0 : a0.size ≤ 140737488351232 := by
    have z := sized_string hsz (j := 0) (t := 9) rfl rfl
    rw [Array.length_toList] at z
    exact z
  obtain ⟨a1, rfl, rfl, rfl, w1⟩ := open_int Tryd.underlying3 (hval 1 3 v1 rfl rfl) h1
  clear hA0 hval0 hsz0 hsz
  refine (P.dowellaw01_IntegerPowers.walk Pure.IntegerPowers a0 a1 W (of_laid hL) w0 w1).mono fun e W' ⟨he, bel⟩ => ?_
  subst he
  exact ⟨_, rfl, _, _, _, [], _, [], hW', trodAll_mk1 (shut_bool Tryd.underlying4 _), (trodAll_cons_mk (shut_string Tryd.underlying9 y0) (trodAll_cons_mk (shut_int Tryd.underlying3 w1) trodAll_mk0)), rfl, bel.frame _, fun h => by cases h⟩
theorem row_holds : Rows.IntegerPowersSaid :=
  OpenClaim.holds_of_wide 8 Tryd.f8 rfl rfl rfl rfl rfl rfl rfl ⟨rfl, rfl, rfl, rfl, rfl⟩ rfl rfl rfl rfl rfl (by kernel_rfl) Tryd.func8 (by kernel_rfl)
    (of_decide_eq_true (by kernel_rfl)) (by unfold Func.isWrapper; first | (rw [if_pos (by decide +kernel)]; kernel_rfl) | (rw [if_neg (by decide +kernel)]; exact ⟨rfl, rfl⟩))
    (fun os started H enc _ => lifted os started H enc)
end LawIntegerPowers
theorem integerPowers_card_holds : Rows.IntegerPowersCardSaid :=
  Claim7.holds_tied_plain_at .later [] [.data, .data, .data, .sentinel, .sentinel] true (true, "b8e58543a529613f751f62c69502411f664b93e4867ff6487a7340db5e4f00b4") true
    LawIntegerPowers.row_holds (fun _ h => by cases h) (by kernel_rfl) (fun _ h => by cases h) integerPowers_row_tie rfl ⟨rfl, rfl⟩ (by kernel_rfl) rfl
    (fun f fn hf hfn => by
      obtain rfl : f = 8 := Option.some.inj ((show Tryd.prog.funcNamed "dowel/dowellaw01.IntegerPowers" = some 8 by kernel_rfl).symm.trans hf) |>.symm
      obtain rfl : fn = Tryd.f8 := (Option.some.inj (Tryd.func8.symm.trans hfn)).symm
      exact ⟨by kernel_rfl, fun j t ht => by
        rw [Tryd.params8] at ht
        have hm : t ∈ [9, 3] := by simpa using Array.mem_of_getElem? ht
        have hall : ([9, 3].all fun u => !Tryd.prog.wantsStandIn u) = true := by kernel_rfl
        exact (show Tryd.prog.wantsStandIn t = false by simpa using List.all_eq_true.1 hall t hm)⟩)
    (by kernel_rfl)
end Go.Proofs.YtiikfhdmclmjmaaDoor
