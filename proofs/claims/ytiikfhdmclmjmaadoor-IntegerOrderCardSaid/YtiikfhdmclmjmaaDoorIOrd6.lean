/- Part 6 of the proof of IntegerOrder: what the program's functions compute, told as plain functions, and what these answer. Conditions: none beside the statement's own. Gathered by the session's program merge.py out of its own and the printed texts; no declaration that the proof does not name is left in. -/
import Derived.Test.YtiikfhdmclmjmaaDoorIOrd5
import Derived.Lib.ItoaNum
import Derived.Laws.BitsLemmas
import Derived.Lib.Repeat
import Derived.Lib.Join
import Derived.Laws.BytesArg
import Derived.Laws.Bits64b
import Derived.Laws.RangeAny
namespace Go.Proofs.YtiikfhdmclmjmaaDoor.P
open Go.RowKit Go.Proofs.YtiikfhdmclmjmaaDoorW.PrintWords Go.Proofs.YtiikfhdmclmjmaaDoorW.PrintLast
set_option linter.unusedVariables false
set_option linter.unusedSimpArgs false
mutual
def dowellaw01_IntegerOrder.j0 : Nat → ByteArray → ByteArray → ByteArray → Bool → Option (Bool)
  | 0, _, _, _, _ => none
  | k + 1, x0, x1, x2, x30 => if x30 = true then ((dowellaw01_known.f k).bind fun t889 => (some t889)) else ((dowellaw01_read.f k x0).bind fun bt890 => ((dowellaw01_read.f k x1).bind fun bt896 => ((dowellaw01_read.f k x2).bind fun bt902 => ((integer_Compare.f k bt890.1 bt890.2.1 bt896.1 bt896.2.1).bind fun t908 => ((integer_Sub.f k bt890.1 bt890.2.1 bt896.1 bt896.2.1).bind fun bt909 => ((integer_Int_Sign.f bt909.1 bt909.2).bind fun t913 => (if t913 = t908 then ((integer_Add.f k bt890.1 bt890.2.1 bt902.1 bt902.2.1).bind fun bt914 => ((integer_Add.f k bt896.1 bt896.2.1 bt902.1 bt902.2.1).bind fun bt918 => ((integer_Compare.f k bt914.1 bt914.2 bt918.1 bt918.2).bind fun t922 => (dowellaw01_IntegerOrder.j1 k t908 (t922 != t908) bt890.1 bt890.2.1 bt896.1 bt896.2.1 bt902.1 bt902.2.1)))) else (dowellaw01_IntegerOrder.j1 k t908 true bt890.1 bt890.2.1 bt896.1 bt896.2.1 bt902.1 bt902.2.1))))))))
def dowellaw01_IntegerOrder.j1 : Nat → Int → Bool → Bool → List Int → Bool → List Int → Bool → List Int → Option (Bool)
  | 0, _, _, _, _, _, _, _, _ => none
  | k + 1, x13, x66, x896000, x896001, x902000, x902001, x908000, x908001 => if x66 = true then (none) else ((integer_Int_Sign.f x908000 x908001).bind fun t923 => (if t923 > 0 then ((integer_Mul.f k x896000 x896001 x908000 x908001).bind fun bt924 => ((integer_Mul.f k x902000 x902001 x908000 x908001).bind fun bt928 => ((integer_Compare.f k bt924.1 bt924.2 bt928.1 bt928.2).bind fun t932 => (dowellaw01_IntegerOrder.j2 k x13 (t932 != x13) x896000 x896001 x902000 x902001 x908000 x908001)))) else (dowellaw01_IntegerOrder.j2 k x13 false x896000 x896001 x902000 x902001 x908000 x908001)))
def dowellaw01_IntegerOrder.j2 : Nat → Int → Bool → Bool → List Int → Bool → List Int → Bool → List Int → Option (Bool)
  | 0, _, _, _, _, _, _, _, _ => none
  | k + 1, x13, x80, x896000, x896001, x902000, x902001, x908000, x908001 => if x80 = true then (none) else (if x13 > 0 then (some true) else ((integer_Compare.f k x902000 x902001 x908000 x908001).bind fun t933 => (if t933 > 0 then (some true) else ((integer_Compare.f k x896000 x896001 x908000 x908001).bind fun t934 => (some (decide (t934 ≤ 0)))))))
end
def dowellaw01_IntegerOrder.f (k : Nat) (a0 : ByteArray) (a1 : ByteArray) (a2 : ByteArray) : Option (Bool) := (dowellaw01_known.f k).bind fun t885 => (if t885 = true then ((dowellaw01_right.f k a0).bind fun t886 => (if t886 = true then ((dowellaw01_right.f k a1).bind fun t887 => (if t887 = true then ((dowellaw01_right.f k a2).bind fun t888 => (dowellaw01_IntegerOrder.j0 k a0 a1 a2 (!t888))) else (dowellaw01_IntegerOrder.j0 k a0 a1 a2 true))) else (dowellaw01_IntegerOrder.j0 k a0 a1 a2 true))) else (dowellaw01_IntegerOrder.j0 k a0 a1 a2 true))
theorem dowellaw01_IntegerOrder.mono_l : ∀ k, (∀ y0 y1 y2 y3, LeO (dowellaw01_IntegerOrder.j0 k y0 y1 y2 y3) (dowellaw01_IntegerOrder.j0 (k + 1) y0 y1 y2 y3)) ∧ (∀ y0 y1 y2 y3 y4 y5 y6 y7, LeO (dowellaw01_IntegerOrder.j1 k y0 y1 y2 y3 y4 y5 y6 y7) (dowellaw01_IntegerOrder.j1 (k + 1) y0 y1 y2 y3 y4 y5 y6 y7)) ∧ (∀ y0 y1 y2 y3 y4 y5 y6 y7, LeO (dowellaw01_IntegerOrder.j2 k y0 y1 y2 y3 y4 y5 y6 y7) (dowellaw01_IntegerOrder.j2 (k + 1) y0 y1 y2 y3 y4 y5 y6 y7))
  | 0 => ⟨fun _ _ _ _ r h => by simp [dowellaw01_IntegerOrder.j0] at h, fun _ _ _ _ _ _ _ _ r h => by simp [dowellaw01_IntegerOrder.j1] at h, fun _ _ _ _ _ _ _ _ r h => by simp [dowellaw01_IntegerOrder.j2] at h⟩
  | k + 1 => by
    obtain ⟨ih0, ih1, ih2⟩ := dowellaw01_IntegerOrder.mono_l k
    refine ⟨?_, ?_, ?_⟩
    · intro y0 y1 y2 y3
      unfold dowellaw01_IntegerOrder.j0
      repeat' first
      | (with_reducible exact ih0 _ _ _ _)
      | (with_reducible exact ih1 _ _ _ _ _ _ _ _)
      | (with_reducible exact ih2 _ _ _ _ _ _ _ _)
      | (with_reducible exact dowellaw01_known.mono _)
      | (with_reducible exact dowellaw01_read.mono _ _)
      | (with_reducible exact dowellaw01_right.mono _ _)
      | (with_reducible exact integer_Add.mono _ _ _ _ _)
      | (with_reducible exact integer_Compare.mono _ _ _ _ _)
      | (with_reducible exact integer_Mul.mono _ _ _ _ _)
      | (with_reducible exact integer_Sub.mono _ _ _ _ _)
      | (with_reducible exact LeO.refl _)
      | (with_reducible exact LeO.none _)
      | (with_reducible refine LeO.ite ?_ ?_)
      | (with_reducible refine LeO.bind ?_ (fun _ => ?_))
      | exact ih0 _ _ _ _
      | exact ih1 _ _ _ _ _ _ _ _
      | exact ih2 _ _ _ _ _ _ _ _
      | exact dowellaw01_known.mono _
      | exact dowellaw01_read.mono _ _
      | exact dowellaw01_right.mono _ _
      | exact integer_Add.mono _ _ _ _ _
      | exact integer_Compare.mono _ _ _ _ _
      | exact integer_Mul.mono _ _ _ _ _
      | exact integer_Sub.mono _ _ _ _ _
      | exact LeO.none _
      | refine LeO.ite ?_ ?_
      | refine LeO.bind ?_ (fun _ => ?_)
    · intro y0 y1 y2 y3 y4 y5 y6 y7
      unfold dowellaw01_IntegerOrder.j1
      repeat' first
      | (with_reducible exact ih0 _ _ _ _)
      | (with_reducible exact ih1 _ _ _ _ _ _ _ _)
      | (with_reducible exact ih2 _ _ _ _ _ _ _ _)
      | (with_reducible exact dowellaw01_known.mono _)
      | (with_reducible exact dowellaw01_read.mono _ _)
      | (with_reducible exact dowellaw01_right.mono _ _)
      | (with_reducible exact integer_Add.mono _ _ _ _ _)
      | (with_reducible exact integer_Compare.mono _ _ _ _ _)
      | (with_reducible exact integer_Mul.mono _ _ _ _ _)
      | (with_reducible exact integer_Sub.mono _ _ _ _ _)
      | (with_reducible exact LeO.refl _)
      | (with_reducible exact LeO.none _)
      | (with_reducible refine LeO.ite ?_ ?_)
      | (with_reducible refine LeO.bind ?_ (fun _ => ?_))
      | exact ih0 _ _ _ _
      | exact ih1 _ _ _ _ _ _ _ _
      | exact ih2 _ _ _ _ _ _ _ _
      | exact dowellaw01_known.mono _
      | exact dowellaw01_read.mono _ _
      | exact dowellaw01_right.mono _ _
      | exact integer_Add.mono _ _ _ _ _
      | exact integer_Compare.mono _ _ _ _ _
      | exact integer_Mul.mono _ _ _ _ _
      | exact integer_Sub.mono _ _ _ _ _
      | exact LeO.none _
      | refine LeO.ite ?_ ?_
      | refine LeO.bind ?_ (fun _ => ?_)
    · intro y0 y1 y2 y3 y4 y5 y6 y7
      unfold dowellaw01_IntegerOrder.j2
      repeat' first
      | (with_reducible exact ih0 _ _ _ _)
      | (with_reducible exact ih1 _ _ _ _ _ _ _ _)
      | (with_reducible exact ih2 _ _ _ _ _ _ _ _)
      | (with_reducible exact dowellaw01_known.mono _)
      | (with_reducible exact dowellaw01_read.mono _ _)
      | (with_reducible exact dowellaw01_right.mono _ _)
      | (with_reducible exact integer_Add.mono _ _ _ _ _)
      | (with_reducible exact integer_Compare.mono _ _ _ _ _)
      | (with_reducible exact integer_Mul.mono _ _ _ _ _)
      | (with_reducible exact integer_Sub.mono _ _ _ _ _)
      | (with_reducible exact LeO.refl _)
      | (with_reducible exact LeO.none _)
      | (with_reducible refine LeO.ite ?_ ?_)
      | (with_reducible refine LeO.bind ?_ (fun _ => ?_))
      | exact ih0 _ _ _ _
      | exact ih1 _ _ _ _ _ _ _ _
      | exact ih2 _ _ _ _ _ _ _ _
      | exact dowellaw01_known.mono _
      | exact dowellaw01_read.mono _ _
      | exact dowellaw01_right.mono _ _
      | exact integer_Add.mono _ _ _ _ _
      | exact integer_Compare.mono _ _ _ _ _
      | exact integer_Mul.mono _ _ _ _ _
      | exact integer_Sub.mono _ _ _ _ _
      | exact LeO.none _
      | refine LeO.ite ?_ ?_
      | refine LeO.bind ?_ (fun _ => ?_)
theorem dowellaw01_IntegerOrder.mono : ∀ a0 a1 a2 k, LeO (dowellaw01_IntegerOrder.f k a0 a1 a2) (dowellaw01_IntegerOrder.f (k + 1) a0 a1 a2) := by
  intro a0 a1 a2 k
  obtain ⟨ih0, ih1, ih2⟩ := dowellaw01_IntegerOrder.mono_l k
  unfold dowellaw01_IntegerOrder.f
  repeat' first
      | (with_reducible exact ih0 _ _ _ _)
      | (with_reducible exact ih1 _ _ _ _ _ _ _ _)
      | (with_reducible exact ih2 _ _ _ _ _ _ _ _)
      | (with_reducible exact dowellaw01_known.mono _)
      | (with_reducible exact dowellaw01_read.mono _ _)
      | (with_reducible exact dowellaw01_right.mono _ _)
      | (with_reducible exact integer_Add.mono _ _ _ _ _)
      | (with_reducible exact integer_Compare.mono _ _ _ _ _)
      | (with_reducible exact integer_Mul.mono _ _ _ _ _)
      | (with_reducible exact integer_Sub.mono _ _ _ _ _)
      | (with_reducible exact LeO.refl _)
      | (with_reducible exact LeO.none _)
      | (with_reducible refine LeO.ite ?_ ?_)
      | (with_reducible refine LeO.bind ?_ (fun _ => ?_))
      | exact ih0 _ _ _ _
      | exact ih1 _ _ _ _ _ _ _ _
      | exact ih2 _ _ _ _ _ _ _ _
      | exact dowellaw01_known.mono _
      | exact dowellaw01_read.mono _ _
      | exact dowellaw01_right.mono _ _
      | exact integer_Add.mono _ _ _ _ _
      | exact integer_Compare.mono _ _ _ _ _
      | exact integer_Mul.mono _ _ _ _ _
      | exact integer_Sub.mono _ _ _ _ _
      | exact LeO.none _
      | refine LeO.ite ?_ ?_
      | refine LeO.bind ?_ (fun _ => ?_)
def dowellaw01_IntegerOrder.T7 : Bool × List (List Nat × List Nat) := (true, [([], []), ([], []), ([0, 1], [0, 1]), ([2, 2], [2]), ([], []), ([3, 4], [3, 4]), ([5, 3], [5]), ([6], [6]), ([6], [6]), ([7, 8, 6, 6], [6, 7, 8]), ([6], [6]), ([6], [6]), ([10, 11, 9, 6], [6, 10, 11]), ([9, 12, 12, 6], [6, 9, 12]), ([6], [6]), ([13, 14, 6], [6, 13, 14]), ([6, 15], [6, 15])])
def dowellaw01_IntegerOrder.B7 : List Nat := [0, 0, 3, 7, 0, 31, 63, 127, 127, 511, 127, 127, 4095, 8191, 127, 32767, 65535]
theorem dowellaw01_IntegerOrder.tab7 : rtab .any (opsOf Tryd.f11 7) = dowellaw01_IntegerOrder.T7 := by kernel_rfl
theorem dowellaw01_IntegerOrder.bits7 : waitsOk dowellaw01_IntegerOrder.T7.2 dowellaw01_IntegerOrder.B7 = true := by kernel_rfl
def dowellaw01_IntegerOrder.T9 : Bool × List (List Nat × List Nat) := (true, [([], []), ([0], [0]), ([1], [1]), ([2, 1], [2]), ([3], [3]), ([3], [3]), ([4, 5, 3, 3], [3, 4, 5]), ([3], [3]), ([3], [3]), ([7, 8, 6, 3], [3, 7, 8]), ([6, 9, 9, 3], [3, 6, 9]), ([3], [3]), ([10, 11, 3], [3, 10, 11]), ([3, 12], [3, 12])])
def dowellaw01_IntegerOrder.B9 : List Nat := [0, 1, 3, 7, 15, 15, 63, 15, 15, 511, 1023, 15, 4095, 8191]
theorem dowellaw01_IntegerOrder.tab9 : rtab .any (opsOf Tryd.f11 9) = dowellaw01_IntegerOrder.T9 := by kernel_rfl
theorem dowellaw01_IntegerOrder.bits9 : waitsOk dowellaw01_IntegerOrder.T9.2 dowellaw01_IntegerOrder.B9 = true := by kernel_rfl
set_option maxHeartbeats 8000000 in
set_option maxRecDepth 100000 in
theorem dowellaw01_IntegerOrder.calls (k : Nat) (a0 : ByteArray) (a1 : ByteArray) (a2 : ByteArray) (r : Bool) (w : World) (hG : G w) (h : dowellaw01_IntegerOrder.f k a0 a1 a2 = some r) :
    Calls Tryd.prog 11 #[.string a0, .string a1, .string a2] w fun e w' => e = .returned (.bool r) ∧ Below w.heap.size w w' := by
  have hu25 := Tryd.underlying25
  have HB := Aside0.mk (Below.refl w.heap.size w)
  have HG := Aside0.mk hG
  clear hG
  have H : ((dowellaw01_known.f k).bind fun t885 => (if t885 = true then ((dowellaw01_right.f k a0).bind fun t886 => (if t886 = true then ((dowellaw01_right.f k a1).bind fun t887 => (if t887 = true then ((dowellaw01_right.f k a2).bind fun t888 => (dowellaw01_IntegerOrder.j0 k a0 a1 a2 (!t888))) else (dowellaw01_IntegerOrder.j0 k a0 a1 a2 true))) else (dowellaw01_IntegerOrder.j0 k a0 a1 a2 true))) else (dowellaw01_IntegerOrder.j0 k a0 a1 a2 true))) = some r := h
  clear h
  have HC4 := Aside0.mk H
  clear H
  go_enter Tryd.func11, Tryd.ntmps11
  go_upto_region 1 with (fail)
  go_cut [30] (fun v30 wc => ∃ (kq : Nat) (x30_3 : Bool), v30 = .bool x30_3 ∧ Aside0 (dowellaw01_IntegerOrder.j0 kq a0 a1 a2 x30_3 = some r) ∧ Aside0 (kq ≤ k) ∧ Aside0 (Below w.heap.size w wc))
  case first =>
    have H := HC4.out
    clear HC4
    replace H := Option.bind_eq_some_iff.mp H
    obtain ⟨t885, A50, H⟩ := H
    replace H : (if t885 = true then ((dowellaw01_right.f k a0).bind fun t886 => (if t886 = true then ((dowellaw01_right.f k a1).bind fun t887 => (if t887 = true then ((dowellaw01_right.f k a2).bind fun t888 => (dowellaw01_IntegerOrder.j0 k a0 a1 a2 (!t888))) else (dowellaw01_IntegerOrder.j0 k a0 a1 a2 true))) else (dowellaw01_IntegerOrder.j0 k a0 a1 a2 true))) else (dowellaw01_IntegerOrder.j0 k a0 a1 a2 true)) = some r := H
    have A5 := Aside0.mk A50
    clear A50
    by_cases c6 : t885 = true
    · subst c6
      have H1 : ((dowellaw01_right.f k a0).bind fun t886 => (if t886 = true then ((dowellaw01_right.f k a1).bind fun t887 => (if t887 = true then ((dowellaw01_right.f k a2).bind fun t888 => (dowellaw01_IntegerOrder.j0 k a0 a1 a2 (!t888))) else (dowellaw01_IntegerOrder.j0 k a0 a1 a2 true))) else (dowellaw01_IntegerOrder.j0 k a0 a1 a2 true))) = some r := by rw [if_pos rfl] at H; exact H
      clear H
      have H := H1
      clear H1
      replace H := Option.bind_eq_some_iff.mp H
      obtain ⟨t886, A70, H⟩ := H
      replace H : (if t886 = true then ((dowellaw01_right.f k a1).bind fun t887 => (if t887 = true then ((dowellaw01_right.f k a2).bind fun t888 => (dowellaw01_IntegerOrder.j0 k a0 a1 a2 (!t888))) else (dowellaw01_IntegerOrder.j0 k a0 a1 a2 true))) else (dowellaw01_IntegerOrder.j0 k a0 a1 a2 true)) = some r := H
      have A7 := Aside0.mk A70
      clear A70
      by_cases c8 : t886 = true
      · subst c8
        have H1 : ((dowellaw01_right.f k a1).bind fun t887 => (if t887 = true then ((dowellaw01_right.f k a2).bind fun t888 => (dowellaw01_IntegerOrder.j0 k a0 a1 a2 (!t888))) else (dowellaw01_IntegerOrder.j0 k a0 a1 a2 true))) = some r := by rw [if_pos rfl] at H; exact H
        clear H
        have H := H1
        clear H1
        replace H := Option.bind_eq_some_iff.mp H
        obtain ⟨t887, A90, H⟩ := H
        replace H : (if t887 = true then ((dowellaw01_right.f k a2).bind fun t888 => (dowellaw01_IntegerOrder.j0 k a0 a1 a2 (!t888))) else (dowellaw01_IntegerOrder.j0 k a0 a1 a2 true)) = some r := H
        have A9 := Aside0.mk A90
        clear A90
        by_cases c10 : t887 = true
        · subst c10
          have H1 : ((dowellaw01_right.f k a2).bind fun t888 => (dowellaw01_IntegerOrder.j0 k a0 a1 a2 (!t888))) = some r := by rw [if_pos rfl] at H; exact H
          clear H
          have H := H1
          clear H1
          replace H := Option.bind_eq_some_iff.mp H
          obtain ⟨t888, A110, H⟩ := H
          replace H : (dowellaw01_IntegerOrder.j0 k a0 a1 a2 (!t888)) = some r := H
          have A11 := Aside0.mk A110
          clear A110
          have H' := Aside0.mk H
          clear H
          go_wp2_with (first | ((with_reducible refine gate_callee (f := 14) rfl ?_); refine goesL_ (some 14) rfl rfl Tryd.func14 (by kernel_rfl) rfl #[] rfl (by (try simp only [List.map_toArray, List.map_cons, List.map_nil]); first | done | rfl | (simp only [List.length_drop, List.length_take]; rfl)) ?_; (with_reducible refine (dowellaw01_known.calls k  true _ ?side1 A5.out).mono ?_); (case side1 => exact G_below HG.out (by repeat (first | (with_reducible first | exact HB.out | apply below_alloc | apply pw_below_drewN | apply below_drew1) | exact HB.out))); rintro e w12 ⟨rfl, hb⟩; refine ⟨_, rfl, ?_⟩; have n0_ := Aside0.mk (below_step (by repeat (first | (with_reducible first | exact HB.out | apply below_alloc | apply pw_below_drewN | apply below_drew1) | exact HB.out)) hb); clear HB; have HB := n0_; clear n0_; (try clear hb); (try clear hb2); (try clear hk); (try clear hi)) | (go_at_call 23; (with_reducible refine (dowellaw01_right.calls k a0 true _ A7.out).mono ?_); rintro e w' ⟨rfl, ⟨nd, rfl⟩⟩) | (go_at_call 23; (with_reducible refine (dowellaw01_right.calls k a1 true _ A9.out).mono ?_); rintro e w' ⟨rfl, ⟨nd, rfl⟩⟩) | (go_at_call 23; (with_reducible refine (dowellaw01_right.calls k a2 t888 _ A11.out).mono ?_); rintro e w' ⟨rfl, ⟨nd, rfl⟩⟩))
          go_meet
          case rel => exact ⟨_, (!t888), (by first | rfl | (simp; done) | (simp [*]; done)), H', ⟨by first | omega | exact Nat.le_refl _⟩, ⟨by repeat (first | (with_reducible first | exact HB.out | apply below_alloc | apply pw_below_drewN | apply below_drew1) | exact HB.out)⟩⟩
        · replace c10 := Bool.eq_false_iff.mpr c10
          subst c10
          have H1 : (dowellaw01_IntegerOrder.j0 k a0 a1 a2 true) = some r := by rw [if_neg (show ¬ (false = true) by decide)] at H; exact H
          clear H
          have H := H1
          clear H1
          have H' := Aside0.mk H
          clear H
          go_wp2_with (first | ((with_reducible refine gate_callee (f := 14) rfl ?_); refine goesL_ (some 14) rfl rfl Tryd.func14 (by kernel_rfl) rfl #[] rfl (by (try simp only [List.map_toArray, List.map_cons, List.map_nil]); first | done | rfl | (simp only [List.length_drop, List.length_take]; rfl)) ?_; (with_reducible refine (dowellaw01_known.calls k  true _ ?side1 A5.out).mono ?_); (case side1 => exact G_below HG.out (by repeat (first | (with_reducible first | exact HB.out | apply below_alloc | apply pw_below_drewN | apply below_drew1) | exact HB.out))); rintro e w13 ⟨rfl, hb⟩; refine ⟨_, rfl, ?_⟩; have n0_ := Aside0.mk (below_step (by repeat (first | (with_reducible first | exact HB.out | apply below_alloc | apply pw_below_drewN | apply below_drew1) | exact HB.out)) hb); clear HB; have HB := n0_; clear n0_; (try clear hb); (try clear hb2); (try clear hk); (try clear hi)) | (go_at_call 23; (with_reducible refine (dowellaw01_right.calls k a0 true _ A7.out).mono ?_); rintro e w' ⟨rfl, ⟨nd, rfl⟩⟩) | (go_at_call 23; (with_reducible refine (dowellaw01_right.calls k a1 false _ A9.out).mono ?_); rintro e w' ⟨rfl, ⟨nd, rfl⟩⟩))
          go_meet
          case rel => exact ⟨_, (true), (by first | rfl | (simp; done) | (simp [*]; done)), H', ⟨by first | omega | exact Nat.le_refl _⟩, ⟨by repeat (first | (with_reducible first | exact HB.out | apply below_alloc | apply pw_below_drewN | apply below_drew1) | exact HB.out)⟩⟩
      · replace c8 := Bool.eq_false_iff.mpr c8
        subst c8
        have H1 : (dowellaw01_IntegerOrder.j0 k a0 a1 a2 true) = some r := by rw [if_neg (show ¬ (false = true) by decide)] at H; exact H
        clear H
        have H := H1
        clear H1
        have H' := Aside0.mk H
        clear H
        go_wp2_with (first | ((with_reducible refine gate_callee (f := 14) rfl ?_); refine goesL_ (some 14) rfl rfl Tryd.func14 (by kernel_rfl) rfl #[] rfl (by (try simp only [List.map_toArray, List.map_cons, List.map_nil]); first | done | rfl | (simp only [List.length_drop, List.length_take]; rfl)) ?_; (with_reducible refine (dowellaw01_known.calls k  true _ ?side1 A5.out).mono ?_); (case side1 => exact G_below HG.out (by repeat (first | (with_reducible first | exact HB.out | apply below_alloc | apply pw_below_drewN | apply below_drew1) | exact HB.out))); rintro e w14 ⟨rfl, hb⟩; refine ⟨_, rfl, ?_⟩; have n0_ := Aside0.mk (below_step (by repeat (first | (with_reducible first | exact HB.out | apply below_alloc | apply pw_below_drewN | apply below_drew1) | exact HB.out)) hb); clear HB; have HB := n0_; clear n0_; (try clear hb); (try clear hb2); (try clear hk); (try clear hi)) | (go_at_call 23; (with_reducible refine (dowellaw01_right.calls k a0 false _ A7.out).mono ?_); rintro e w' ⟨rfl, ⟨nd, rfl⟩⟩))
        go_meet
        case rel => exact ⟨_, (true), (by first | rfl | (simp; done) | (simp [*]; done)), H', ⟨by first | omega | exact Nat.le_refl _⟩, ⟨by repeat (first | (with_reducible first | exact HB.out | apply below_alloc | apply pw_below_drewN | apply below_drew1) | exact HB.out)⟩⟩
    · replace c6 := Bool.eq_false_iff.mpr c6
      subst c6
      have H1 : (dowellaw01_IntegerOrder.j0 k a0 a1 a2 true) = some r := by rw [if_neg (show ¬ (false = true) by decide)] at H; exact H
      clear H
      have H := H1
      clear H1
      have H' := Aside0.mk H
      clear H
      go_wp2_with (first | ((with_reducible refine gate_callee (f := 14) rfl ?_); refine goesL_ (some 14) rfl rfl Tryd.func14 (by kernel_rfl) rfl #[] rfl (by (try simp only [List.map_toArray, List.map_cons, List.map_nil]); first | done | rfl | (simp only [List.length_drop, List.length_take]; rfl)) ?_; (with_reducible refine (dowellaw01_known.calls k  false _ ?side1 A5.out).mono ?_); (case side1 => exact G_below HG.out (by repeat (first | (with_reducible first | exact HB.out | apply below_alloc | apply pw_below_drewN | apply below_drew1) | exact HB.out))); rintro e w15 ⟨rfl, hb⟩; refine ⟨_, rfl, ?_⟩; have n0_ := Aside0.mk (below_step (by repeat (first | (with_reducible first | exact HB.out | apply below_alloc | apply pw_below_drewN | apply below_drew1) | exact HB.out)) hb); clear HB; have HB := n0_; clear n0_; (try clear hb); (try clear hb2); (try clear hk); (try clear hi)))
      go_meet
      case rel => exact ⟨_, (true), (by first | rfl | (simp; done) | (simp [*]; done)), H', ⟨by first | omega | exact Nat.le_refl _⟩, ⟨by repeat (first | (with_reducible first | exact HB.out | apply below_alloc | apply pw_below_drewN | apply below_drew1) | exact HB.out)⟩⟩
  case rest =>
    clear HC4
    try clear c1
    try clear p2
    try clear c6
    try clear c8
    try clear c10
    try clear c11
    try clear c14
    obtain ⟨kq, x30_3, rfl, HA, HJ3, HB⟩ := hcut
    cases kq with
    | zero => exact absurd HA.out (by simp [dowellaw01_IntegerOrder.j0])
    | succ kj3 =>
      have H := HA.out
      clear HA
      simp only [dowellaw01_IntegerOrder.j0] at H
      by_cases c16 : x30_3 = true
      · subst c16
        have H1 : ((dowellaw01_known.f kj3).bind fun t889 => (some t889)) = some r := by rw [if_pos rfl] at H; exact H
        clear H
        have H := H1
        clear H1
        replace H := Option.bind_eq_some_iff.mp H
        obtain ⟨t889, A170, H⟩ := H
        replace H : (some t889) = some r := H
        have A17 := Aside0.mk A170
        clear A170
        obtain rfl := Option.some.inj H
        go_wp2_with (first | ((with_reducible refine gate_callee (f := 14) rfl ?_); refine goesL_ (some 31) rfl rfl Tryd.func14 (by kernel_rfl) rfl #[] rfl (by (try simp only [List.map_toArray, List.map_cons, List.map_nil]); first | done | rfl | (simp only [List.length_drop, List.length_take]; rfl)) ?_; (with_reducible refine (dowellaw01_known.calls kj3  t889 _ ?side1 A17.out).mono ?_); (case side1 => exact G_below HG.out (by repeat (first | (with_reducible first | exact HB.out | apply below_alloc | apply pw_below_drewN | apply below_drew1) | exact HB.out))); rintro e w18 ⟨rfl, hb⟩; refine ⟨_, rfl, ?_⟩; have n0_ := Aside0.mk (below_step (by repeat (first | (with_reducible first | exact HB.out | apply below_alloc | apply pw_below_drewN | apply below_drew1) | exact HB.out)) hb); clear HB; have HB := n0_; clear n0_; (try clear hb); (try clear hb2); (try clear hk); (try clear hi)))
        go_ret
        exact ⟨by first | rfl | (simp [errW_none, errW_some] <;> rfl) | (simp [*, errW_none, errW_some] <;> rfl), by repeat (first | (with_reducible first | exact HB.out | apply below_alloc | apply pw_below_drewN | apply below_drew1) | exact HB.out)⟩
      · replace c16 := Bool.eq_false_iff.mpr c16
        subst c16
        have H1 : ((dowellaw01_read.f kj3 a0).bind fun bt890 => ((dowellaw01_read.f kj3 a1).bind fun bt896 => ((dowellaw01_read.f kj3 a2).bind fun bt902 => ((integer_Compare.f kj3 bt890.1 bt890.2.1 bt896.1 bt896.2.1).bind fun t908 => ((integer_Sub.f kj3 bt890.1 bt890.2.1 bt896.1 bt896.2.1).bind fun bt909 => ((integer_Int_Sign.f bt909.1 bt909.2).bind fun t913 => (if t913 = t908 then ((integer_Add.f kj3 bt890.1 bt890.2.1 bt902.1 bt902.2.1).bind fun bt914 => ((integer_Add.f kj3 bt896.1 bt896.2.1 bt902.1 bt902.2.1).bind fun bt918 => ((integer_Compare.f kj3 bt914.1 bt914.2 bt918.1 bt918.2).bind fun t922 => (dowellaw01_IntegerOrder.j1 kj3 t908 (t922 != t908) bt890.1 bt890.2.1 bt896.1 bt896.2.1 bt902.1 bt902.2.1)))) else (dowellaw01_IntegerOrder.j1 kj3 t908 true bt890.1 bt890.2.1 bt896.1 bt896.2.1 bt902.1 bt902.2.1)))))))) = some r := by rw [if_neg (show ¬ (false = true) by decide)] at H; exact H
        clear H
        have H := H1
        clear H1
        replace H := Option.bind_eq_some_iff.mp H
        obtain ⟨⟨t890, t891, t894⟩, A190, H⟩ := H
        replace H : ((dowellaw01_read.f kj3 a1).bind fun bt896 => ((dowellaw01_read.f kj3 a2).bind fun bt902 => ((integer_Compare.f kj3 t890 t891 bt896.1 bt896.2.1).bind fun t908 => ((integer_Sub.f kj3 t890 t891 bt896.1 bt896.2.1).bind fun bt909 => ((integer_Int_Sign.f bt909.1 bt909.2).bind fun t913 => (if t913 = t908 then ((integer_Add.f kj3 t890 t891 bt902.1 bt902.2.1).bind fun bt914 => ((integer_Add.f kj3 bt896.1 bt896.2.1 bt902.1 bt902.2.1).bind fun bt918 => ((integer_Compare.f kj3 bt914.1 bt914.2 bt918.1 bt918.2).bind fun t922 => (dowellaw01_IntegerOrder.j1 kj3 t908 (t922 != t908) t890 t891 bt896.1 bt896.2.1 bt902.1 bt902.2.1)))) else (dowellaw01_IntegerOrder.j1 kj3 t908 true t890 t891 bt896.1 bt896.2.1 bt902.1 bt902.2.1))))))) = some r := H
        have A19 := Aside0.mk A190
        clear A190
        replace H := Option.bind_eq_some_iff.mp H
        obtain ⟨⟨t896, t897, t900⟩, A200, H⟩ := H
        replace H : ((dowellaw01_read.f kj3 a2).bind fun bt902 => ((integer_Compare.f kj3 t890 t891 t896 t897).bind fun t908 => ((integer_Sub.f kj3 t890 t891 t896 t897).bind fun bt909 => ((integer_Int_Sign.f bt909.1 bt909.2).bind fun t913 => (if t913 = t908 then ((integer_Add.f kj3 t890 t891 bt902.1 bt902.2.1).bind fun bt914 => ((integer_Add.f kj3 t896 t897 bt902.1 bt902.2.1).bind fun bt918 => ((integer_Compare.f kj3 bt914.1 bt914.2 bt918.1 bt918.2).bind fun t922 => (dowellaw01_IntegerOrder.j1 kj3 t908 (t922 != t908) t890 t891 t896 t897 bt902.1 bt902.2.1)))) else (dowellaw01_IntegerOrder.j1 kj3 t908 true t890 t891 t896 t897 bt902.1 bt902.2.1)))))) = some r := H
        have A20 := Aside0.mk A200
        clear A200
        replace H := Option.bind_eq_some_iff.mp H
        obtain ⟨⟨t902, t903, t906⟩, A210, H⟩ := H
        replace H : ((integer_Compare.f kj3 t890 t891 t896 t897).bind fun t908 => ((integer_Sub.f kj3 t890 t891 t896 t897).bind fun bt909 => ((integer_Int_Sign.f bt909.1 bt909.2).bind fun t913 => (if t913 = t908 then ((integer_Add.f kj3 t890 t891 t902 t903).bind fun bt914 => ((integer_Add.f kj3 t896 t897 t902 t903).bind fun bt918 => ((integer_Compare.f kj3 bt914.1 bt914.2 bt918.1 bt918.2).bind fun t922 => (dowellaw01_IntegerOrder.j1 kj3 t908 (t922 != t908) t890 t891 t896 t897 t902 t903)))) else (dowellaw01_IntegerOrder.j1 kj3 t908 true t890 t891 t896 t897 t902 t903))))) = some r := H
        have A21 := Aside0.mk A210
        clear A210
        replace H := Option.bind_eq_some_iff.mp H
        obtain ⟨t908, A220, H⟩ := H
        replace H : ((integer_Sub.f kj3 t890 t891 t896 t897).bind fun bt909 => ((integer_Int_Sign.f bt909.1 bt909.2).bind fun t913 => (if t913 = t908 then ((integer_Add.f kj3 t890 t891 t902 t903).bind fun bt914 => ((integer_Add.f kj3 t896 t897 t902 t903).bind fun bt918 => ((integer_Compare.f kj3 bt914.1 bt914.2 bt918.1 bt918.2).bind fun t922 => (dowellaw01_IntegerOrder.j1 kj3 t908 (t922 != t908) t890 t891 t896 t897 t902 t903)))) else (dowellaw01_IntegerOrder.j1 kj3 t908 true t890 t891 t896 t897 t902 t903)))) = some r := H
        have A22 := Aside0.mk A220
        clear A220
        have HC23 := Aside0.mk H
        clear H
        go_upto_region 7 with (first | ((with_reducible refine gate_callee (f := 24) rfl ?_); refine goesL_ (some 34) rfl rfl Tryd.func24 (by kernel_rfl) rfl #[.string a0] rfl (by (try simp only [List.map_toArray, List.map_cons, List.map_nil]); first | done | rfl | (simp only [List.length_drop, List.length_take]; rfl)) ?_; (with_reducible refine (dowellaw01_read.calls kj3 a0 t890 t891 t894 _ A19.out).mono ?_); rintro e w24 ⟨v892, rfl, ho0, hb⟩; refine ⟨_, rfl, ?_⟩; have n0_ := Aside0.mk (Kd.V_lower (Kd.V_mono (ok' := fun k_ => True) ho0 (fun k_ hk_ => trivial)) (below_size (by repeat (first | (with_reducible first | exact HB.out | apply below_alloc | apply pw_below_drewN | apply below_drew1) | exact HB.out)))); have n1_ := Aside0.mk (below_step (by repeat (first | (with_reducible first | exact HB.out | apply below_alloc | apply pw_below_drewN | apply below_drew1) | exact HB.out)) hb); clear HB; have HO893 := n0_; have HB := n1_; clear n0_ n1_; (try clear hb); (try clear hb2); (try clear hk); (try clear hi); (try clear ho0)) | ((with_reducible refine gate_dst (N := 7) rfl ?_); refine box_event ?hg (N := 7) ?hd (cs := #[.bool false, .slice none 0 0]) (t := 25) ?hr ?_; (case hd => rfl); (case hg => rfl); (case hr => first | (go_simp; done) | (go_simp; rfl)); intro gb895 hg w25 hbox hb; have n0_ := Aside0.mk (Kd.V_below (Kd.V_elderB (by (with_reducible repeat (first | apply Kd.V_alloc | apply Kd.V_drewN | apply Kd.V_drew)); exact HO893.out) gb895 (Nat.le_of_eq hg.symm)) hb); have n1_ := Aside0.mk (below_step (by repeat (first | (with_reducible first | exact HB.out | apply below_alloc | apply pw_below_drewN | apply below_drew1) | exact HB.out)) hb); have n2_ := Aside0.mk (hbox); have n3_ := Aside0.mk ((by rw [hg]; exact (below_size (by repeat (first | (with_reducible first | exact HB.out | apply below_alloc | apply pw_below_drewN | apply below_drew1) | exact HB.out))) : w.heap.size ≤ gb895)); have n4_ := Aside0.mk ((by rw [hg]; exact (below_size (by repeat (first | (with_reducible first | exact HB.out | apply below_alloc | apply pw_below_drewN | apply below_drew1) | exact HB.out))) : w.heap.size ≤ gb895)); clear HO893; clear HB; have HO893 := n0_; have HB := n1_; have BK895 := n2_; have GW895 := n3_; have GE895 := n4_; clear n0_ n1_ n2_ n3_ n4_; clear hb hbox hg; have hcz26_0 : w25.cell? ⟨gb895, 0, none⟩ = some (.bool false) := (blk_cell BK895.out 0).trans rfl; have hcz26_1 : w25.cell? ⟨gb895, 1, none⟩ = some (.slice none 0 0) := (blk_cell BK895.out 1).trans rfl; have hfz26_0 := blk_frozen BK895.out 0; have hfz26_1 := blk_frozen BK895.out 1; obtain ⟨Ao27, co27, eo27⟩ := Kd.V_slice HO893.out; subst eo27) | ((with_reducible refine gate_callee (f := 24) rfl ?_); refine goesL_ (some 39) rfl rfl Tryd.func24 (by kernel_rfl) rfl #[.string a1] rfl (by (try simp only [List.map_toArray, List.map_cons, List.map_nil]); first | done | rfl | (simp only [List.length_drop, List.length_take]; rfl)) ?_; (with_reducible refine (dowellaw01_read.calls kj3 a1 t896 t897 t900 _ A20.out).mono ?_); rintro e w28 ⟨v898, rfl, ho0, hb⟩; refine ⟨_, rfl, ?_⟩; have n0_ := Aside0.mk (Kd.V_below (by (with_reducible repeat (first | apply Kd.V_alloc | apply Kd.V_drewN | apply Kd.V_drew)); exact (Kd.V_mono (Kd.V_far (p := ⟨gb895, 1, none⟩) (Kd.V_far (p := ⟨gb895, 0, none⟩) (Kd.V_mono HO893.out (fun k_ hk => (⟨hk, hk.2⟩ : _ ∧ k_ ≠ gb895))) (fun _ hk => hk.2) (.bool t890)) (fun _ hk => hk.2) (.slice Ao27 t891.length co27)) (fun _ h_ => h_.1))) hb); have n1_ := Aside0.mk (Kd.V_lower (Kd.V_mono (ok' := fun k_ => k_ ≠ gb895) ho0 (fun k_ hk_ => (Kd.freshB (g := gb895) (o := .cells #[.bool t890, .slice Ao27 t891.length co27] 25 (0, 0)) (by (with_reducible repeat (first | refine blk_drewN ?_ _ | refine blk_drew ?_ | refine blk_alloc ?_ _)); refine blk_put (cs := #[.bool t890, .slice none 0 0]) ?_ 1 _ rfl; (with_reducible repeat (first | refine blk_drewN ?_ _ | refine blk_drew ?_ | refine blk_alloc ?_ _)); refine blk_put (cs := #[.bool false, .slice none 0 0]) ?_ 0 _ rfl; (with_reducible repeat (first | refine blk_drewN ?_ _ | refine blk_drew ?_ | refine blk_alloc ?_ _)); exact BK895.out) k_ hk_))) (below_size (by repeat (first | (with_reducible first | exact HB.out | apply below_alloc | apply pw_below_drewN | apply below_drew1 | refine below_set ?_ GE895.out) | exact HB.out)))); have n2_ := Aside0.mk (blk_below (g := gb895) (o := .cells #[.bool t890, .slice Ao27 t891.length co27] 25 (0, 0)) (by (with_reducible repeat (first | refine blk_drewN ?_ _ | refine blk_drew ?_ | refine blk_alloc ?_ _)); refine blk_put (cs := #[.bool t890, .slice none 0 0]) ?_ 1 _ rfl; (with_reducible repeat (first | refine blk_drewN ?_ _ | refine blk_drew ?_ | refine blk_alloc ?_ _)); refine blk_put (cs := #[.bool false, .slice none 0 0]) ?_ 0 _ rfl; (with_reducible repeat (first | refine blk_drewN ?_ _ | refine blk_drew ?_ | refine blk_alloc ?_ _)); exact BK895.out) hb); have n3_ := Aside0.mk (below_step (by repeat (first | (with_reducible first | exact HB.out | apply below_alloc | apply pw_below_drewN | apply below_drew1 | refine below_set ?_ GE895.out) | exact HB.out)) hb); clear HO893; clear BK895; clear HB; have HO893 := n0_; have HO899 := n1_; have BK895 := n2_; have HB := n3_; clear n0_ n1_ n2_ n3_; (try clear hb); (try clear hb2); (try clear hk); (try clear hi); (try clear ho0)) | ((with_reducible refine gate_dst (N := 9) rfl ?_); refine box_event ?hg (N := 9) ?hd (cs := #[.bool false, .slice none 0 0]) (t := 25) ?hr ?_; (case hd => rfl); (case hg => rfl); (case hr => first | (go_simp; done) | (go_simp; rfl)); intro gb901 hg w29 hbox hb; have n0_ := Aside0.mk (Kd.V_below (Kd.V_elderB (by (with_reducible repeat (first | apply Kd.V_alloc | apply Kd.V_drewN | apply Kd.V_drew)); exact HO893.out) gb901 (Nat.le_of_eq hg.symm)) hb); have n1_ := Aside0.mk (Kd.V_below (Kd.V_elderB (by (with_reducible repeat (first | apply Kd.V_alloc | apply Kd.V_drewN | apply Kd.V_drew)); exact HO899.out) gb901 (Nat.le_of_eq hg.symm)) hb); have n2_ := Aside0.mk (blk_below (g := gb895) (o := .cells #[.bool t890, .slice Ao27 t891.length co27] 25 (0, 0)) (by (with_reducible repeat (first | refine blk_drewN ?_ _ | refine blk_drew ?_ | refine blk_alloc ?_ _)); exact BK895.out) hb); have n3_ := Aside0.mk (below_step (by repeat (first | (with_reducible first | exact HB.out | apply below_alloc | apply pw_below_drewN | apply below_drew1 | refine below_set ?_ GE895.out) | exact HB.out)) hb); have n4_ := Aside0.mk (hbox); have n5_ := Aside0.mk ((by rw [hg]; exact (below_size (by repeat (first | (with_reducible first | exact HB.out | apply below_alloc | apply pw_below_drewN | apply below_drew1 | refine below_set ?_ GE895.out) | exact HB.out))) : w.heap.size ≤ gb901)); have n6_ := Aside0.mk ((by rw [hg]; exact (below_size (by repeat (first | (with_reducible first | exact HB.out | apply below_alloc | apply pw_below_drewN | apply below_drew1 | refine below_set ?_ GE895.out) | exact HB.out))) : w.heap.size ≤ gb901)); have n7_ := Aside0.mk ((by rw [hg]; exact Nat.ne_of_lt (blk_lt (g := gb895) (o := .cells #[.bool t890, .slice Ao27 t891.length co27] 25 (0, 0)) (by (with_reducible repeat (first | refine blk_drewN ?_ _ | refine blk_drew ?_ | refine blk_alloc ?_ _)); exact BK895.out)) : gb895 ≠ gb901)); have n8_ := Aside0.mk ((by rw [hg]; exact Nat.ne_of_gt (blk_lt (g := gb895) (o := .cells #[.bool t890, .slice Ao27 t891.length co27] 25 (0, 0)) (by (with_reducible repeat (first | refine blk_drewN ?_ _ | refine blk_drew ?_ | refine blk_alloc ?_ _)); exact BK895.out)) : gb901 ≠ gb895)); clear HO893; clear HO899; clear BK895; clear HB; have HO893 := n0_; have HO899 := n1_; have BK895 := n2_; have HB := n3_; have BK901 := n4_; have GW901 := n5_; have GE901 := n6_; have NB895_901 := n7_; have NB901_895 := n8_; clear n0_ n1_ n2_ n3_ n4_ n5_ n6_ n7_ n8_; clear hb hbox hg; have hnb30 := NB901_895.out; have hnc30 := NB895_901.out; have hcz31_0 : w29.cell? ⟨gb901, 0, none⟩ = some (.bool false) := (blk_cell BK901.out 0).trans rfl; have hcz31_1 : w29.cell? ⟨gb901, 1, none⟩ = some (.slice none 0 0) := (blk_cell BK901.out 1).trans rfl; have hfz31_0 := blk_frozen BK901.out 0; have hfz31_1 := blk_frozen BK901.out 1; obtain ⟨Ao32, co32, eo32⟩ := Kd.V_slice HO899.out; subst eo32) | ((with_reducible refine gate_callee (f := 24) rfl ?_); refine goesL_ (some 44) rfl rfl Tryd.func24 (by kernel_rfl) rfl #[.string a2] rfl (by (try simp only [List.map_toArray, List.map_cons, List.map_nil]); first | done | rfl | (simp only [List.length_drop, List.length_take]; rfl)) ?_; (with_reducible refine (dowellaw01_read.calls kj3 a2 t902 t903 t906 _ A21.out).mono ?_); rintro e w33 ⟨v904, rfl, ho0, hb⟩; refine ⟨_, rfl, ?_⟩; have n0_ := Aside0.mk (Kd.V_below (by (with_reducible repeat (first | apply Kd.V_alloc | apply Kd.V_drewN | apply Kd.V_drew)); exact (Kd.V_mono (Kd.V_far (p := ⟨gb901, 1, none⟩) (Kd.V_far (p := ⟨gb901, 0, none⟩) (Kd.V_mono HO893.out (fun k_ hk => (⟨hk, hk.2⟩ : _ ∧ k_ ≠ gb901))) (fun _ hk => hk.2) (.bool t896)) (fun _ hk => hk.2) (.slice Ao32 t897.length co32)) (fun _ h_ => h_.1))) hb); have n1_ := Aside0.mk (Kd.V_below (by (with_reducible repeat (first | apply Kd.V_alloc | apply Kd.V_drewN | apply Kd.V_drew)); exact (Kd.V_mono (Kd.V_far (p := ⟨gb901, 1, none⟩) (Kd.V_far (p := ⟨gb901, 0, none⟩) (Kd.V_mono HO899.out (fun k_ hk => (⟨hk, hk.2⟩ : _ ∧ k_ ≠ gb901))) (fun _ hk => hk.2) (.bool t896)) (fun _ hk => hk.2) (.slice Ao32 t897.length co32)) (fun _ h_ => h_.1))) hb); have n2_ := Aside0.mk (Kd.V_lower (Kd.V_mono (ok' := fun k_ => k_ ≠ gb895 ∧ k_ ≠ gb901) ho0 (fun k_ hk_ => ⟨(Kd.freshB (g := gb895) (o := .cells #[.bool t890, .slice Ao27 t891.length co27] 25 (0, 0)) (by (with_reducible repeat (first | refine blk_drewN ?_ _ | refine blk_drew ?_ | refine blk_alloc ?_ _)); refine blk_far ?_ NB895_901.out _; (with_reducible repeat (first | refine blk_drewN ?_ _ | refine blk_drew ?_ | refine blk_alloc ?_ _)); refine blk_far ?_ NB895_901.out _; (with_reducible repeat (first | refine blk_drewN ?_ _ | refine blk_drew ?_ | refine blk_alloc ?_ _)); exact BK895.out) k_ hk_), (Kd.freshB (g := gb901) (o := .cells #[.bool t896, .slice Ao32 t897.length co32] 25 (0, 0)) (by (with_reducible repeat (first | refine blk_drewN ?_ _ | refine blk_drew ?_ | refine blk_alloc ?_ _)); refine blk_put (cs := #[.bool t896, .slice none 0 0]) ?_ 1 _ rfl; (with_reducible repeat (first | refine blk_drewN ?_ _ | refine blk_drew ?_ | refine blk_alloc ?_ _)); refine blk_put (cs := #[.bool false, .slice none 0 0]) ?_ 0 _ rfl; (with_reducible repeat (first | refine blk_drewN ?_ _ | refine blk_drew ?_ | refine blk_alloc ?_ _)); exact BK901.out) k_ hk_)⟩)) (below_size (by repeat (first | (with_reducible first | exact HB.out | apply below_alloc | apply pw_below_drewN | apply below_drew1 | refine below_set ?_ GE895.out | refine below_set ?_ GE901.out) | exact HB.out)))); have n3_ := Aside0.mk (blk_below (g := gb895) (o := .cells #[.bool t890, .slice Ao27 t891.length co27] 25 (0, 0)) (by (with_reducible repeat (first | refine blk_drewN ?_ _ | refine blk_drew ?_ | refine blk_alloc ?_ _)); refine blk_far ?_ NB895_901.out _; (with_reducible repeat (first | refine blk_drewN ?_ _ | refine blk_drew ?_ | refine blk_alloc ?_ _)); refine blk_far ?_ NB895_901.out _; (with_reducible repeat (first | refine blk_drewN ?_ _ | refine blk_drew ?_ | refine blk_alloc ?_ _)); exact BK895.out) hb); have n4_ := Aside0.mk (blk_below (g := gb901) (o := .cells #[.bool t896, .slice Ao32 t897.length co32] 25 (0, 0)) (by (with_reducible repeat (first | refine blk_drewN ?_ _ | refine blk_drew ?_ | refine blk_alloc ?_ _)); refine blk_put (cs := #[.bool t896, .slice none 0 0]) ?_ 1 _ rfl; (with_reducible repeat (first | refine blk_drewN ?_ _ | refine blk_drew ?_ | refine blk_alloc ?_ _)); refine blk_put (cs := #[.bool false, .slice none 0 0]) ?_ 0 _ rfl; (with_reducible repeat (first | refine blk_drewN ?_ _ | refine blk_drew ?_ | refine blk_alloc ?_ _)); exact BK901.out) hb); have n5_ := Aside0.mk (below_step (by repeat (first | (with_reducible first | exact HB.out | apply below_alloc | apply pw_below_drewN | apply below_drew1 | refine below_set ?_ GE895.out | refine below_set ?_ GE901.out) | exact HB.out)) hb); clear HO893; clear HO899; clear BK895; clear BK901; clear HB; have HO893 := n0_; have HO899 := n1_; have HO905 := n2_; have BK895 := n3_; have BK901 := n4_; have HB := n5_; clear n0_ n1_ n2_ n3_ n4_ n5_; (try clear hb); (try clear hb2); (try clear hk); (try clear hi); (try clear ho0)) | ((with_reducible refine gate_dst (N := 11) rfl ?_); refine box_event ?hg (N := 11) ?hd (cs := #[.bool false, .slice none 0 0]) (t := 25) ?hr ?_; (case hd => rfl); (case hg => rfl); (case hr => first | (go_simp; done) | (go_simp; rfl)); intro gb907 hg w34 hbox hb; have n0_ := Aside0.mk (Kd.V_below (Kd.V_elderB (by (with_reducible repeat (first | apply Kd.V_alloc | apply Kd.V_drewN | apply Kd.V_drew)); exact HO893.out) gb907 (Nat.le_of_eq hg.symm)) hb); have n1_ := Aside0.mk (Kd.V_below (Kd.V_elderB (by (with_reducible repeat (first | apply Kd.V_alloc | apply Kd.V_drewN | apply Kd.V_drew)); exact HO899.out) gb907 (Nat.le_of_eq hg.symm)) hb); have n2_ := Aside0.mk (Kd.V_below (Kd.V_elderB (by (with_reducible repeat (first | apply Kd.V_alloc | apply Kd.V_drewN | apply Kd.V_drew)); exact HO905.out) gb907 (Nat.le_of_eq hg.symm)) hb); have n3_ := Aside0.mk (blk_below (g := gb895) (o := .cells #[.bool t890, .slice Ao27 t891.length co27] 25 (0, 0)) (by (with_reducible repeat (first | refine blk_drewN ?_ _ | refine blk_drew ?_ | refine blk_alloc ?_ _)); exact BK895.out) hb); have n4_ := Aside0.mk (blk_below (g := gb901) (o := .cells #[.bool t896, .slice Ao32 t897.length co32] 25 (0, 0)) (by (with_reducible repeat (first | refine blk_drewN ?_ _ | refine blk_drew ?_ | refine blk_alloc ?_ _)); exact BK901.out) hb); have n5_ := Aside0.mk (below_step (by repeat (first | (with_reducible first | exact HB.out | apply below_alloc | apply pw_below_drewN | apply below_drew1 | refine below_set ?_ GE895.out | refine below_set ?_ GE901.out) | exact HB.out)) hb); have n6_ := Aside0.mk (hbox); have n7_ := Aside0.mk ((by rw [hg]; exact (below_size (by repeat (first | (with_reducible first | exact HB.out | apply below_alloc | apply pw_below_drewN | apply below_drew1 | refine below_set ?_ GE895.out | refine below_set ?_ GE901.out) | exact HB.out))) : w.heap.size ≤ gb907)); have n8_ := Aside0.mk ((by rw [hg]; exact (below_size (by repeat (first | (with_reducible first | exact HB.out | apply below_alloc | apply pw_below_drewN | apply below_drew1 | refine below_set ?_ GE895.out | refine below_set ?_ GE901.out) | exact HB.out))) : w.heap.size ≤ gb907)); have n9_ := Aside0.mk ((by rw [hg]; exact Nat.ne_of_lt (blk_lt (g := gb895) (o := .cells #[.bool t890, .slice Ao27 t891.length co27] 25 (0, 0)) (by (with_reducible repeat (first | refine blk_drewN ?_ _ | refine blk_drew ?_ | refine blk_alloc ?_ _)); exact BK895.out)) : gb895 ≠ gb907)); have n10_ := Aside0.mk ((by rw [hg]; exact Nat.ne_of_gt (blk_lt (g := gb895) (o := .cells #[.bool t890, .slice Ao27 t891.length co27] 25 (0, 0)) (by (with_reducible repeat (first | refine blk_drewN ?_ _ | refine blk_drew ?_ | refine blk_alloc ?_ _)); exact BK895.out)) : gb907 ≠ gb895)); have n11_ := Aside0.mk ((by rw [hg]; exact Nat.ne_of_lt (blk_lt (g := gb901) (o := .cells #[.bool t896, .slice Ao32 t897.length co32] 25 (0, 0)) (by (with_reducible repeat (first | refine blk_drewN ?_ _ | refine blk_drew ?_ | refine blk_alloc ?_ _)); exact BK901.out)) : gb901 ≠ gb907)); have n12_ := Aside0.mk ((by rw [hg]; exact Nat.ne_of_gt (blk_lt (g := gb901) (o := .cells #[.bool t896, .slice Ao32 t897.length co32] 25 (0, 0)) (by (with_reducible repeat (first | refine blk_drewN ?_ _ | refine blk_drew ?_ | refine blk_alloc ?_ _)); exact BK901.out)) : gb907 ≠ gb901)); clear HO893; clear HO899; clear HO905; clear BK895; clear BK901; clear HB; have HO893 := n0_; have HO899 := n1_; have HO905 := n2_; have BK895 := n3_; have BK901 := n4_; have HB := n5_; have BK907 := n6_; have GW907 := n7_; have GE907 := n8_; have NB895_907 := n9_; have NB907_895 := n10_; have NB901_907 := n11_; have NB907_901 := n12_; clear n0_ n1_ n2_ n3_ n4_ n5_ n6_ n7_ n8_ n9_ n10_ n11_ n12_; clear hb hbox hg; have hnb35 := NB907_895.out; have hnc35 := NB895_907.out; have hnb36 := NB907_901.out; have hnc36 := NB901_907.out; have hcz37_0 : w34.cell? ⟨gb907, 0, none⟩ = some (.bool false) := (blk_cell BK907.out 0).trans rfl; have hcz37_1 : w34.cell? ⟨gb907, 1, none⟩ = some (.slice none 0 0) := (blk_cell BK907.out 1).trans rfl; have hfz37_0 := blk_frozen BK907.out 0; have hfz37_1 := blk_frozen BK907.out 1; obtain ⟨Ao38, co38, eo38⟩ := Kd.V_slice HO905.out; subst eo38; have hcz39_0 : w34.cell? ⟨gb895, 0, none⟩ = some (.bool t890) := (blk_cell BK895.out 0).trans rfl; have hcz39_1 : w34.cell? ⟨gb895, 1, none⟩ = some (.slice Ao27 t891.length co27) := (blk_cell BK895.out 1).trans rfl; have hfz39_0 := blk_frozen BK895.out 0; have hfz39_1 := blk_frozen BK895.out 1; have hcz40_0 : w34.cell? ⟨gb901, 0, none⟩ = some (.bool t896) := (blk_cell BK901.out 0).trans rfl; have hcz40_1 : w34.cell? ⟨gb901, 1, none⟩ = some (.slice Ao32 t897.length co32) := (blk_cell BK901.out 1).trans rfl; have hfz40_0 := blk_frozen BK901.out 0; have hfz40_1 := blk_frozen BK901.out 1) | ((with_reducible refine gate_callee (f := 20) rfl ?_); refine goesL_ (some 49) rfl rfl Tryd.func20 (by kernel_rfl) rfl #[.agg #[.bool t890, .slice Ao27 t891.length co27], .agg #[.bool t896, .slice Ao32 t897.length co32]] rfl (by (try simp only [List.map_toArray, List.map_cons, List.map_nil]); first | done | rfl | (simp only [List.length_drop, List.length_take]; rfl)) ?_; (with_reducible refine (integer_Compare.calls kj3 t890 _ _ t891 t896 _ _ t897 t908 _ ?side1 ?side2 ?side3 ?side4 A22.out).mono ?_); (case side1 => refine (Kd.V_reads' (e := 60) (base := w.heap.size) (ok := fun k_ => (((True ∧ k_ ≠ gb895) ∧ k_ ≠ gb901) ∧ k_ ≠ gb907)) (n := t891.length) (c := co27) ?_).2.2; exact (by (with_reducible repeat (first | apply Kd.V_alloc | apply Kd.V_drewN | apply Kd.V_drew)); exact (Kd.V_mono (Kd.V_far (p := ⟨gb907, 1, none⟩) (Kd.V_far (p := ⟨gb907, 0, none⟩) (Kd.V_mono HO893.out (fun k_ hk => (⟨hk, hk.2⟩ : _ ∧ k_ ≠ gb907))) (fun _ hk => hk.2) (.bool t902)) (fun _ hk => hk.2) (.slice Ao38 t903.length co38)) (fun _ h_ => h_.1)))); (case side2 => exact (Kd.V_reads' HO893.out).2.1); (case side3 => refine (Kd.V_reads' (e := 60) (base := w.heap.size) (ok := fun k_ => ((k_ ≠ gb895 ∧ k_ ≠ gb901) ∧ k_ ≠ gb907)) (n := t897.length) (c := co32) ?_).2.2; exact (by (with_reducible repeat (first | apply Kd.V_alloc | apply Kd.V_drewN | apply Kd.V_drew)); exact (Kd.V_mono (Kd.V_far (p := ⟨gb907, 1, none⟩) (Kd.V_far (p := ⟨gb907, 0, none⟩) (Kd.V_mono HO899.out (fun k_ hk => (⟨hk, hk.2⟩ : _ ∧ k_ ≠ gb907))) (fun _ hk => hk.2) (.bool t902)) (fun _ hk => hk.2) (.slice Ao38 t903.length co38)) (fun _ h_ => h_.1)))); (case side4 => exact (Kd.V_reads' HO899.out).2.1); rintro e w41 ⟨rfl, hb⟩; refine ⟨_, rfl, ?_⟩; have n0_ := Aside0.mk (Kd.V_below (by (with_reducible repeat (first | apply Kd.V_alloc | apply Kd.V_drewN | apply Kd.V_drew)); exact (Kd.V_mono (Kd.V_far (p := ⟨gb907, 1, none⟩) (Kd.V_far (p := ⟨gb907, 0, none⟩) (Kd.V_mono HO893.out (fun k_ hk => (⟨hk, hk.2⟩ : _ ∧ k_ ≠ gb907))) (fun _ hk => hk.2) (.bool t902)) (fun _ hk => hk.2) (.slice Ao38 t903.length co38)) (fun _ h_ => h_.1))) hb); have n1_ := Aside0.mk (Kd.V_below (by (with_reducible repeat (first | apply Kd.V_alloc | apply Kd.V_drewN | apply Kd.V_drew)); exact (Kd.V_mono (Kd.V_far (p := ⟨gb907, 1, none⟩) (Kd.V_far (p := ⟨gb907, 0, none⟩) (Kd.V_mono HO899.out (fun k_ hk => (⟨hk, hk.2⟩ : _ ∧ k_ ≠ gb907))) (fun _ hk => hk.2) (.bool t902)) (fun _ hk => hk.2) (.slice Ao38 t903.length co38)) (fun _ h_ => h_.1))) hb); have n2_ := Aside0.mk (Kd.V_below (by (with_reducible repeat (first | apply Kd.V_alloc | apply Kd.V_drewN | apply Kd.V_drew)); exact (Kd.V_mono (Kd.V_far (p := ⟨gb907, 1, none⟩) (Kd.V_far (p := ⟨gb907, 0, none⟩) (Kd.V_mono HO905.out (fun k_ hk => (⟨hk, hk.2⟩ : _ ∧ k_ ≠ gb907))) (fun _ hk => hk.2) (.bool t902)) (fun _ hk => hk.2) (.slice Ao38 t903.length co38)) (fun _ h_ => h_.1))) hb); have n3_ := Aside0.mk (blk_below (g := gb895) (o := .cells #[.bool t890, .slice Ao27 t891.length co27] 25 (0, 0)) (by (with_reducible repeat (first | refine blk_drewN ?_ _ | refine blk_drew ?_ | refine blk_alloc ?_ _)); refine blk_far ?_ NB895_907.out _; (with_reducible repeat (first | refine blk_drewN ?_ _ | refine blk_drew ?_ | refine blk_alloc ?_ _)); refine blk_far ?_ NB895_907.out _; (with_reducible repeat (first | refine blk_drewN ?_ _ | refine blk_drew ?_ | refine blk_alloc ?_ _)); exact BK895.out) hb); have n4_ := Aside0.mk (blk_below (g := gb901) (o := .cells #[.bool t896, .slice Ao32 t897.length co32] 25 (0, 0)) (by (with_reducible repeat (first | refine blk_drewN ?_ _ | refine blk_drew ?_ | refine blk_alloc ?_ _)); refine blk_far ?_ NB901_907.out _; (with_reducible repeat (first | refine blk_drewN ?_ _ | refine blk_drew ?_ | refine blk_alloc ?_ _)); refine blk_far ?_ NB901_907.out _; (with_reducible repeat (first | refine blk_drewN ?_ _ | refine blk_drew ?_ | refine blk_alloc ?_ _)); exact BK901.out) hb); have n5_ := Aside0.mk (blk_below (g := gb907) (o := .cells #[.bool t902, .slice Ao38 t903.length co38] 25 (0, 0)) (by (with_reducible repeat (first | refine blk_drewN ?_ _ | refine blk_drew ?_ | refine blk_alloc ?_ _)); refine blk_put (cs := #[.bool t902, .slice none 0 0]) ?_ 1 _ rfl; (with_reducible repeat (first | refine blk_drewN ?_ _ | refine blk_drew ?_ | refine blk_alloc ?_ _)); refine blk_put (cs := #[.bool false, .slice none 0 0]) ?_ 0 _ rfl; (with_reducible repeat (first | refine blk_drewN ?_ _ | refine blk_drew ?_ | refine blk_alloc ?_ _)); exact BK907.out) hb); have n6_ := Aside0.mk (below_step (by repeat (first | (with_reducible first | exact HB.out | apply below_alloc | apply pw_below_drewN | apply below_drew1 | refine below_set ?_ GE895.out | refine below_set ?_ GE901.out | refine below_set ?_ GE907.out) | exact HB.out)) hb); clear HO893; clear HO899; clear HO905; clear BK895; clear BK901; clear BK907; clear HB; have HO893 := n0_; have HO899 := n1_; have HO905 := n2_; have BK895 := n3_; have BK901 := n4_; have BK907 := n5_; have HB := n6_; clear n0_ n1_ n2_ n3_ n4_ n5_ n6_; (try clear hb); (try clear hb2); (try clear hk); (try clear hi)))
        (try simp only [Act.put, List.setIfInBounds_toArray, List.set_cons_zero, List.set_cons_succ])
        go_cut [66] (fun v66 wc => ∃ (kq : Nat) (x66_22 : Bool), v66 = .bool x66_22 ∧ Aside0 (dowellaw01_IntegerOrder.j1 kq t908 x66_22 t890 t891 t896 t897 t902 t903 = some r) ∧ Aside0 (kq ≤ kj3) ∧ Aside0 (Kd.V (Kd.int .u32) 60 wc w.heap.size (fun k_ => k_ ≠ gb895 ∧ k_ ≠ gb901 ∧ k_ ≠ gb907) (.slice Ao27 t891.length co27) t891) ∧ Aside0 (Kd.V (Kd.int .u32) 60 wc w.heap.size (fun k_ => k_ ≠ gb895 ∧ k_ ≠ gb901 ∧ k_ ≠ gb907) (.slice Ao32 t897.length co32) t897) ∧ Aside0 (Kd.V (Kd.int .u32) 60 wc w.heap.size (fun k_ => k_ ≠ gb895 ∧ k_ ≠ gb901 ∧ k_ ≠ gb907) (.slice Ao38 t903.length co38) t903) ∧ Aside0 (wc.heap[gb895]? = some (.cells #[.bool t890, (.slice Ao27 t891.length co27)] 25 (0, 0))) ∧ Aside0 (wc.heap[gb901]? = some (.cells #[.bool t896, (.slice Ao32 t897.length co32)] 25 (0, 0))) ∧ Aside0 (wc.heap[gb907]? = some (.cells #[.bool t902, (.slice Ao38 t903.length co38)] 25 (0, 0))) ∧ Aside0 (Below w.heap.size w wc))
        case first =>
          have H := HC23.out
          clear HC23
          replace H := Option.bind_eq_some_iff.mp H
          obtain ⟨⟨t909, t910⟩, A420, H⟩ := H
          replace H : ((integer_Int_Sign.f t909 t910).bind fun t913 => (if t913 = t908 then ((integer_Add.f kj3 t890 t891 t902 t903).bind fun bt914 => ((integer_Add.f kj3 t896 t897 t902 t903).bind fun bt918 => ((integer_Compare.f kj3 bt914.1 bt914.2 bt918.1 bt918.2).bind fun t922 => (dowellaw01_IntegerOrder.j1 kj3 t908 (t922 != t908) t890 t891 t896 t897 t902 t903)))) else (dowellaw01_IntegerOrder.j1 kj3 t908 true t890 t891 t896 t897 t902 t903))) = some r := H
          have A42 := Aside0.mk A420
          clear A420
          replace H := Option.bind_eq_some_iff.mp H
          obtain ⟨t913, A430, H⟩ := H
          replace H : (if t913 = t908 then ((integer_Add.f kj3 t890 t891 t902 t903).bind fun bt914 => ((integer_Add.f kj3 t896 t897 t902 t903).bind fun bt918 => ((integer_Compare.f kj3 bt914.1 bt914.2 bt918.1 bt918.2).bind fun t922 => (dowellaw01_IntegerOrder.j1 kj3 t908 (t922 != t908) t890 t891 t896 t897 t902 t903)))) else (dowellaw01_IntegerOrder.j1 kj3 t908 true t890 t891 t896 t897 t902 t903)) = some r := H
          have A43 := Aside0.mk A430
          clear A430
          by_cases c44 : t913 = t908
          · rw [if_pos c44] at H
            have c44b0 : (t913 == t908) = true := beq_iff_eq.mpr c44
            have c44b1 : (t913 != t908) = false := bne_eq_false_iff_eq.mpr c44
            clear c44
            (first | rw [c44b0] | (simp only [i64_w, i32_w]; rw [c44b0]) | skip)
            replace H := Option.bind_eq_some_iff.mp H
            obtain ⟨⟨t914, t915⟩, A450, H⟩ := H
            replace H : ((integer_Add.f kj3 t896 t897 t902 t903).bind fun bt918 => ((integer_Compare.f kj3 t914 t915 bt918.1 bt918.2).bind fun t922 => (dowellaw01_IntegerOrder.j1 kj3 t908 (t922 != t908) t890 t891 t896 t897 t902 t903))) = some r := H
            have A45 := Aside0.mk A450
            clear A450
            replace H := Option.bind_eq_some_iff.mp H
            obtain ⟨⟨t918, t919⟩, A460, H⟩ := H
            replace H : ((integer_Compare.f kj3 t914 t915 t918 t919).bind fun t922 => (dowellaw01_IntegerOrder.j1 kj3 t908 (t922 != t908) t890 t891 t896 t897 t902 t903)) = some r := H
            have A46 := Aside0.mk A460
            clear A460
            replace H := Option.bind_eq_some_iff.mp H
            obtain ⟨t922, A470, H⟩ := H
            replace H : (dowellaw01_IntegerOrder.j1 kj3 t908 (t922 != t908) t890 t891 t896 t897 t902 t903) = some r := H
            have A47 := Aside0.mk A470
            clear A470
            have H' := Aside0.mk H
            clear H
            try go_wp2
            have n0_ := Aside0.mk (Kd.V_drew HO893.out)
            have n1_ := Aside0.mk (Kd.V_drew HO899.out)
            have n2_ := Aside0.mk (Kd.V_drew HO905.out)
            have n3_ := Aside0.mk (blk_drew BK895.out)
            have n4_ := Aside0.mk (blk_drew BK901.out)
            have n5_ := Aside0.mk (blk_drew BK907.out)
            have n6_ := Aside0.mk (below_drew1 HB.out)
            clear HO893
            clear HO899
            clear HO905
            clear BK895
            clear BK901
            clear BK907
            clear HB
            have HO893 := n0_
            have HO899 := n1_
            have HO905 := n2_
            have BK895 := n3_
            have BK901 := n4_
            have BK907 := n5_
            have HB := n6_
            clear n0_ n1_ n2_ n3_ n4_ n5_ n6_
            refine start_ (n := 17) (S := fun w' => w'.cell? ⟨gb895, 0, none⟩ = some (.bool t890) ∧ w'.cell? ⟨gb895, 1, none⟩ = some (.slice Ao27 t891.length co27) ∧ w'.cell? ⟨gb901, 0, none⟩ = some (.bool t896) ∧ w'.cell? ⟨gb901, 1, none⟩ = some (.slice Ao32 t897.length co32) ∧ w'.cell? ⟨gb907, 0, none⟩ = some (.bool t902) ∧ w'.cell? ⟨gb907, 1, none⟩ = some (.slice Ao38 t903.length co38)) (ds := []) #[false, false, false, false, false, false, false, false, false, false, false, false, false, false, false, false, false] (by kernel_rfl) rfl rfl ⟨(blk_cell BK895.out 0).trans rfl, (blk_cell BK895.out 1).trans rfl, (blk_cell BK901.out 0).trans rfl, (blk_cell BK901.out 1).trans rfl, (blk_cell BK907.out 0).trans rfl, (blk_cell BK907.out 1).trans rfl⟩ (fun hHeld => ?_); refine with_tabW dowellaw01_IntegerOrder.tab7 dowellaw01_IntegerOrder.bits7 (fun HT_ HW_ => ?_)
            generalize w41.drew = w48 at HO893 HO899 HO905 BK895 BK901 BK907 HB hHeld ⊢
            refine pure_ (i := 4) (N := some 54) (v := ?_) (a' := ?_) #[false, false, false, false, true, false, false, false, false, false, false, false, false, false, false, false, false] rfl rfl (any_of HT_.out (by kernel_rfl)) (fun _ _ _ h => h) (Or.inl ⟨by rfl, ?_⟩) ?_ ?_
            rotate_left
            · intro w'
              go_simp
              with_reducible rfl
            rotate_left
            · simp only [Act.put, List.setIfInBounds_toArray, List.set_cons_zero, List.set_cons_succ, i64_w, i32_w]
              rfl
            refine take_ (i := 0) (N := some 50) (v := ?_) (a' := ?_) #[true, false, false, false, true, false, false, false, false, false, false, false, false, false, false, false, false] rfl rfl (take_ofW HT_.out HW_.out (by kernel_rfl)) (fun _ _ _ h => h) (Or.inl ⟨by rfl, ?_⟩) hHeld ?_ ?_
            rotate_left
            · rintro w' ⟨s0, s1, s2, s3, s4, s5⟩
              go_simp
              with_reducible rfl
            rotate_left
            · simp only [Act.put, List.setIfInBounds_toArray, List.set_cons_zero, List.set_cons_succ, i64_w, i32_w]
              rfl
            refine take_ (i := 1) (N := some 51) (v := ?_) (a' := ?_) #[true, true, false, false, true, false, false, false, false, false, false, false, false, false, false, false, false] rfl rfl (take_ofW HT_.out HW_.out (by kernel_rfl)) (fun _ _ _ h => h) (Or.inl ⟨by rfl, ?_⟩) hHeld ?_ ?_
            rotate_left
            · rintro w' ⟨s0, s1, s2, s3, s4, s5⟩
              go_simp
              with_reducible rfl
            rotate_left
            · simp only [Act.put, List.setIfInBounds_toArray, List.set_cons_zero, List.set_cons_succ, i64_w, i32_w]
              rfl
            refine one_ (i := 2) (N := some 52) #[true, true, true, false, true, false, false, false, false, false, false, false, false, false, false, false, false] rfl rfl (one_of HT_.out (by kernel_rfl)) (by decide) (fun K hK => ?_)
            refine goes_ Tryd.func37 (by kernel_rfl) rfl #[.agg #[.bool t890, .slice Ao27 t891.length co27], .agg #[.bool t896, .slice Ao32 t897.length co32]] (by rfl) rfl rfl (by (try simp only [List.map_toArray, List.map_cons, List.map_nil]); first | done | rfl | (simp only [List.length_drop, List.length_take]; rfl)) ?_
            with_reducible refine (integer_Sub.calls kj3 t890 _ _ t891 t896 (fun k_ => ((k_ ≠ gb895 ∧ k_ ≠ gb901) ∧ k_ ≠ gb907)) _ _ t897 t909 t910 _ ?side1 ?side2 ?side3 A42.out).mono ?_
            (case side1 => repeat (first | exact (Kd.V_reads' HO893.out).2.2 | (with_reducible refine Kd.C_alloc ?_ _) | (with_reducible refine Kd.C_drewN ?_ _) | (with_reducible refine Kd.C_drew ?_)))
            (case side2 => exact (Kd.V_reads' HO893.out).2.1)
            (case side3 => exact HO899.out)
            rintro e w49 ⟨v911, rfl, ho0, hb⟩
            refine ⟨_, rfl, ?_⟩
            have n0_ := Aside0.mk (Kd.V_below (by (with_reducible repeat (first | apply Kd.V_alloc | apply Kd.V_drewN | apply Kd.V_drew)); exact HO893.out) hb)
            have n1_ := Aside0.mk (Kd.V_below (by (with_reducible repeat (first | apply Kd.V_alloc | apply Kd.V_drewN | apply Kd.V_drew)); exact HO899.out) hb)
            have n2_ := Aside0.mk (Kd.V_below (by (with_reducible repeat (first | apply Kd.V_alloc | apply Kd.V_drewN | apply Kd.V_drew)); exact HO905.out) hb)
            have n3_ := Aside0.mk (Kd.V_lower (Kd.V_mono (ok' := fun k_ => k_ ≠ gb895 ∧ k_ ≠ gb901 ∧ k_ ≠ gb907) ho0 (fun k_ hk_ => ⟨Or.elim hk_ (fun hs_ => hs_.1.1) (fun hn_ => (Kd.freshB (g := gb895) (o := .cells #[.bool t890, .slice Ao27 t891.length co27] 25 (0, 0)) (by (with_reducible repeat (first | refine blk_drewN ?_ _ | refine blk_drew ?_ | refine blk_alloc ?_ _)); exact BK895.out) k_ hn_)), Or.elim hk_ (fun hs_ => hs_.1.2) (fun hn_ => (Kd.freshB (g := gb901) (o := .cells #[.bool t896, .slice Ao32 t897.length co32] 25 (0, 0)) (by (with_reducible repeat (first | refine blk_drewN ?_ _ | refine blk_drew ?_ | refine blk_alloc ?_ _)); exact BK901.out) k_ hn_)), Or.elim hk_ (fun hs_ => hs_.2) (fun hn_ => (Kd.freshB (g := gb907) (o := .cells #[.bool t902, .slice Ao38 t903.length co38] 25 (0, 0)) (by (with_reducible repeat (first | refine blk_drewN ?_ _ | refine blk_drew ?_ | refine blk_alloc ?_ _)); exact BK907.out) k_ hn_))⟩)) (below_size (by repeat (first | (with_reducible first | exact HB.out | apply below_alloc | apply pw_below_drewN | apply below_drew1 | refine below_set ?_ GE895.out | refine below_set ?_ GE901.out | refine below_set ?_ GE907.out) | exact HB.out))))
            have n4_ := Aside0.mk (blk_below (g := gb895) (o := .cells #[.bool t890, .slice Ao27 t891.length co27] 25 (0, 0)) (by (with_reducible repeat (first | refine blk_drewN ?_ _ | refine blk_drew ?_ | refine blk_alloc ?_ _)); exact BK895.out) hb)
            have n5_ := Aside0.mk (blk_below (g := gb901) (o := .cells #[.bool t896, .slice Ao32 t897.length co32] 25 (0, 0)) (by (with_reducible repeat (first | refine blk_drewN ?_ _ | refine blk_drew ?_ | refine blk_alloc ?_ _)); exact BK901.out) hb)
            have n6_ := Aside0.mk (blk_below (g := gb907) (o := .cells #[.bool t902, .slice Ao38 t903.length co38] 25 (0, 0)) (by (with_reducible repeat (first | refine blk_drewN ?_ _ | refine blk_drew ?_ | refine blk_alloc ?_ _)); exact BK907.out) hb)
            have n7_ := Aside0.mk (below_step (by repeat (first | (with_reducible first | exact HB.out | apply below_alloc | apply pw_below_drewN | apply below_drew1 | refine below_set ?_ GE895.out | refine below_set ?_ GE901.out | refine below_set ?_ GE907.out) | exact HB.out)) hb)
            clear HO893
            clear HO899
            clear HO905
            clear BK895
            clear BK901
            clear BK907
            clear HB
            have HO893 := n0_
            have HO899 := n1_
            have HO905 := n2_
            have HO912 := n3_
            have BK895 := n4_
            have BK901 := n5_
            have BK907 := n6_
            have HB := n7_
            clear n0_ n1_ n2_ n3_ n4_ n5_ n6_ n7_
            (try clear hb)
            (try clear hb2)
            (try clear hk)
            (try clear hi)
            (try clear ho0)
            obtain ⟨Ao50, co50, eo50⟩ := Kd.V_slice HO912.out
            (first | subst eo50 | (injection eo50 with f1_ f2_ f3_; have f4_ := f1_.symm; have f5_ := f3_.symm; clear f1_ f2_ f3_; subst f4_; subst f5_))
            refine hK.out _ _ ⟨(blk_cell BK895.out 0).trans rfl, (blk_cell BK895.out 1).trans rfl, (blk_cell BK901.out 0).trans rfl, (blk_cell BK901.out 1).trans rfl, (blk_cell BK907.out 0).trans rfl, (blk_cell BK907.out 1).trans rfl⟩ (fun hHeld => ?_)
            clear hK K
            refine norm_ (a' := ?_) ?_ ?_
            rotate_left
            · show Act.put _ (some 52) _ = _
              simp only [Act.put, List.setIfInBounds_toArray, List.set_cons_zero, List.set_cons_succ, i64_w, i32_w]
              rfl
            refine one_ (i := 3) (N := some 53) #[true, true, true, true, true, false, false, false, false, false, false, false, false, false, false, false, false] rfl rfl (one_of HT_.out (by kernel_rfl)) (by decide) (fun K hK => ?_)
            refine goes_ Tryd.func19 (by kernel_rfl) rfl #[.agg #[.bool t909, .slice Ao50 t910.length co50]] (by rfl) rfl rfl (by (try simp only [List.map_toArray, List.map_cons, List.map_nil]); first | done | rfl | (simp only [List.length_drop, List.length_take]; rfl)) ?_
            with_reducible refine (integer_Int_Sign.calls t909 _ _ t910 t913 _ ?side1 ?side2 A43.out).mono ?_
            (case side1 => repeat (first | exact (Kd.V_reads' HO912.out).2.2 | (with_reducible refine Kd.C_alloc ?_ _) | (with_reducible refine Kd.C_drewN ?_ _) | (with_reducible refine Kd.C_drew ?_)))
            (case side2 => exact (Kd.V_reads' HO912.out).2.1)
            rintro e w51 ⟨rfl, hb⟩
            refine ⟨_, rfl, ?_⟩
            have n0_ := Aside0.mk (Kd.V_below (by (with_reducible repeat (first | apply Kd.V_alloc | apply Kd.V_drewN | apply Kd.V_drew)); exact HO893.out) hb)
            have n1_ := Aside0.mk (Kd.V_below (by (with_reducible repeat (first | apply Kd.V_alloc | apply Kd.V_drewN | apply Kd.V_drew)); exact HO899.out) hb)
            have n2_ := Aside0.mk (Kd.V_below (by (with_reducible repeat (first | apply Kd.V_alloc | apply Kd.V_drewN | apply Kd.V_drew)); exact HO905.out) hb)
            have n3_ := Aside0.mk (Kd.V_below (by (with_reducible repeat (first | apply Kd.V_alloc | apply Kd.V_drewN | apply Kd.V_drew)); exact HO912.out) hb)
            have n4_ := Aside0.mk (blk_below (g := gb895) (o := .cells #[.bool t890, .slice Ao27 t891.length co27] 25 (0, 0)) (by (with_reducible repeat (first | refine blk_drewN ?_ _ | refine blk_drew ?_ | refine blk_alloc ?_ _)); exact BK895.out) hb)
            have n5_ := Aside0.mk (blk_below (g := gb901) (o := .cells #[.bool t896, .slice Ao32 t897.length co32] 25 (0, 0)) (by (with_reducible repeat (first | refine blk_drewN ?_ _ | refine blk_drew ?_ | refine blk_alloc ?_ _)); exact BK901.out) hb)
            have n6_ := Aside0.mk (blk_below (g := gb907) (o := .cells #[.bool t902, .slice Ao38 t903.length co38] 25 (0, 0)) (by (with_reducible repeat (first | refine blk_drewN ?_ _ | refine blk_drew ?_ | refine blk_alloc ?_ _)); exact BK907.out) hb)
            have n7_ := Aside0.mk (below_step (by repeat (first | (with_reducible first | exact HB.out | apply below_alloc | apply pw_below_drewN | apply below_drew1 | refine below_set ?_ GE895.out | refine below_set ?_ GE901.out | refine below_set ?_ GE907.out) | exact HB.out)) hb)
            clear HO893
            clear HO899
            clear HO905
            clear HO912
            clear BK895
            clear BK901
            clear BK907
            clear HB
            have HO893 := n0_
            have HO899 := n1_
            have HO905 := n2_
            have HO912 := n3_
            have BK895 := n4_
            have BK901 := n5_
            have BK907 := n6_
            have HB := n7_
            clear n0_ n1_ n2_ n3_ n4_ n5_ n6_ n7_
            (try clear hb)
            (try clear hb2)
            (try clear hk)
            (try clear hi)
            refine hK.out _ _ ⟨(blk_cell BK895.out 0).trans rfl, (blk_cell BK895.out 1).trans rfl, (blk_cell BK901.out 0).trans rfl, (blk_cell BK901.out 1).trans rfl, (blk_cell BK907.out 0).trans rfl, (blk_cell BK907.out 1).trans rfl⟩ (fun hHeld => ?_)
            clear hK K
            refine norm_ (a' := ?_) ?_ ?_
            rotate_left
            · show Act.put _ (some 53) _ = _
              simp only [Act.put, List.setIfInBounds_toArray, List.set_cons_zero, List.set_cons_succ, i64_w, i32_w]
              rfl
            refine pure_ (i := 5) (N := some 55) (v := ?_) (a' := ?_) #[true, true, true, true, true, true, false, false, false, false, false, false, false, false, false, false, false] rfl rfl (any_of HT_.out (by kernel_rfl)) (fun _ _ _ h => h) (Or.inl ⟨by rfl, ?_⟩) ?_ ?_
            rotate_left
            · intro w'
              go_simp
              with_reducible rfl
            rotate_left
            · simp only [Act.put, List.setIfInBounds_toArray, List.set_cons_zero, List.set_cons_succ, i64_w, i32_w]
              rfl
            refine pure_ (i := 6) (N := some 56) (v := ?_) (a' := ?_) #[true, true, true, true, true, true, true, false, false, false, false, false, false, false, false, false, false] rfl rfl (any_of HT_.out (by kernel_rfl)) (fun _ _ _ h => h) (Or.inl ⟨by rfl, ?_⟩) ?_ ?_
            rotate_left
            · intro w'
              go_simp
              with_reducible rfl
            rotate_left
            · simp only [Act.put, List.setIfInBounds_toArray, List.set_cons_zero, List.set_cons_succ, i64_w, i32_w]
              rfl
            refine pure_ (i := 14) (N := some 64) (v := ?_) (a' := ?_) #[true, true, true, true, true, true, true, false, false, false, false, false, false, false, true, false, false] rfl rfl (any_of HT_.out (by kernel_rfl)) (fun _ _ _ h => h) (Or.inl ⟨by rfl, ?_⟩) ?_ ?_
            rotate_left
            · intro w'
              go_simp
              with_reducible rfl
            rotate_left
            · simp only [Act.put, List.setIfInBounds_toArray, List.set_cons_zero, List.set_cons_succ, i64_w, i32_w]
              rfl
            refine take_ (i := 7) (N := some 57) (v := ?_) (a' := ?_) #[true, true, true, true, true, true, true, true, false, false, false, false, false, false, true, false, false] rfl rfl (take_ofW HT_.out HW_.out (by kernel_rfl)) (fun _ _ _ h => h) (Or.inl ⟨by rfl, ?_⟩) hHeld ?_ ?_
            rotate_left
            · rintro w' ⟨s0, s1, s2, s3, s4, s5⟩
              go_simp
              with_reducible rfl
            rotate_left
            · simp only [Act.put, List.setIfInBounds_toArray, List.set_cons_zero, List.set_cons_succ, i64_w, i32_w]
              rfl
            refine take_ (i := 8) (N := some 58) (v := ?_) (a' := ?_) #[true, true, true, true, true, true, true, true, true, false, false, false, false, false, true, false, false] rfl rfl (take_ofW HT_.out HW_.out (by kernel_rfl)) (fun _ _ _ h => h) (Or.inl ⟨by rfl, ?_⟩) hHeld ?_ ?_
            rotate_left
            · rintro w' ⟨s0, s1, s2, s3, s4, s5⟩
              go_simp
              with_reducible rfl
            rotate_left
            · simp only [Act.put, List.setIfInBounds_toArray, List.set_cons_zero, List.set_cons_succ, i64_w, i32_w]
              rfl
            refine take_ (i := 10) (N := some 60) (v := ?_) (a' := ?_) #[true, true, true, true, true, true, true, true, true, false, true, false, false, false, true, false, false] rfl rfl (take_ofW HT_.out HW_.out (by kernel_rfl)) (fun _ _ _ h => h) (Or.inl ⟨by rfl, ?_⟩) hHeld ?_ ?_
            rotate_left
            · rintro w' ⟨s0, s1, s2, s3, s4, s5⟩
              go_simp
              with_reducible rfl
            rotate_left
            · simp only [Act.put, List.setIfInBounds_toArray, List.set_cons_zero, List.set_cons_succ, i64_w, i32_w]
              rfl
            refine take_ (i := 11) (N := some 61) (v := ?_) (a' := ?_) #[true, true, true, true, true, true, true, true, true, false, true, true, false, false, true, false, false] rfl rfl (take_ofW HT_.out HW_.out (by kernel_rfl)) (fun _ _ _ h => h) (Or.inl ⟨by rfl, ?_⟩) hHeld ?_ ?_
            rotate_left
            · rintro w' ⟨s0, s1, s2, s3, s4, s5⟩
              go_simp
              with_reducible rfl
            rotate_left
            · simp only [Act.put, List.setIfInBounds_toArray, List.set_cons_zero, List.set_cons_succ, i64_w, i32_w]
              rfl
            refine one_ (i := 9) (N := some 59) #[true, true, true, true, true, true, true, true, true, true, true, true, false, false, true, false, false] rfl rfl (one_of HT_.out (by kernel_rfl)) (by decide) (fun K hK => ?_)
            refine goes_ Tryd.func35 (by kernel_rfl) rfl #[.agg #[.bool t890, .slice Ao27 t891.length co27], .agg #[.bool t902, .slice Ao38 t903.length co38]] (by rfl) rfl rfl (by (try simp only [List.map_toArray, List.map_cons, List.map_nil]); first | done | rfl | (simp only [List.length_drop, List.length_take]; rfl)) ?_
            with_reducible refine (integer_Add.calls kj3 t890 _ _ t891 t902 _ _ t903 t914 t915 _ ?side1 ?side2 ?side3 ?side4 A45.out).mono ?_
            (case side1 => repeat (first | exact (Kd.V_reads' HO893.out).2.2 | (with_reducible refine Kd.C_alloc ?_ _) | (with_reducible refine Kd.C_drewN ?_ _) | (with_reducible refine Kd.C_drew ?_)))
            (case side2 => exact (Kd.V_reads' HO893.out).2.1)
            (case side3 => repeat (first | exact (Kd.V_reads' HO905.out).2.2 | (with_reducible refine Kd.C_alloc ?_ _) | (with_reducible refine Kd.C_drewN ?_ _) | (with_reducible refine Kd.C_drew ?_)))
            (case side4 => exact (Kd.V_reads' HO905.out).2.1)
            rintro e w52 ⟨v916, rfl, ho0, hb⟩
            refine ⟨_, rfl, ?_⟩
            have n0_ := Aside0.mk (Kd.V_below (by (with_reducible repeat (first | apply Kd.V_alloc | apply Kd.V_drewN | apply Kd.V_drew)); exact HO893.out) hb)
            have n1_ := Aside0.mk (Kd.V_below (by (with_reducible repeat (first | apply Kd.V_alloc | apply Kd.V_drewN | apply Kd.V_drew)); exact HO899.out) hb)
            have n2_ := Aside0.mk (Kd.V_below (by (with_reducible repeat (first | apply Kd.V_alloc | apply Kd.V_drewN | apply Kd.V_drew)); exact HO905.out) hb)
            have n3_ := Aside0.mk (Kd.V_below (by (with_reducible repeat (first | apply Kd.V_alloc | apply Kd.V_drewN | apply Kd.V_drew)); exact HO912.out) hb)
            have n4_ := Aside0.mk (Kd.V_lower (Kd.V_mono (ok' := fun k_ => k_ ≠ gb895 ∧ k_ ≠ gb901 ∧ k_ ≠ gb907) ho0 (fun k_ hk_ => ⟨(Kd.freshB (g := gb895) (o := .cells #[.bool t890, .slice Ao27 t891.length co27] 25 (0, 0)) (by (with_reducible repeat (first | refine blk_drewN ?_ _ | refine blk_drew ?_ | refine blk_alloc ?_ _)); exact BK895.out) k_ hk_), (Kd.freshB (g := gb901) (o := .cells #[.bool t896, .slice Ao32 t897.length co32] 25 (0, 0)) (by (with_reducible repeat (first | refine blk_drewN ?_ _ | refine blk_drew ?_ | refine blk_alloc ?_ _)); exact BK901.out) k_ hk_), (Kd.freshB (g := gb907) (o := .cells #[.bool t902, .slice Ao38 t903.length co38] 25 (0, 0)) (by (with_reducible repeat (first | refine blk_drewN ?_ _ | refine blk_drew ?_ | refine blk_alloc ?_ _)); exact BK907.out) k_ hk_)⟩)) (below_size (by repeat (first | (with_reducible first | exact HB.out | apply below_alloc | apply pw_below_drewN | apply below_drew1 | refine below_set ?_ GE895.out | refine below_set ?_ GE901.out | refine below_set ?_ GE907.out) | exact HB.out))))
            have n5_ := Aside0.mk (blk_below (g := gb895) (o := .cells #[.bool t890, .slice Ao27 t891.length co27] 25 (0, 0)) (by (with_reducible repeat (first | refine blk_drewN ?_ _ | refine blk_drew ?_ | refine blk_alloc ?_ _)); exact BK895.out) hb)
            have n6_ := Aside0.mk (blk_below (g := gb901) (o := .cells #[.bool t896, .slice Ao32 t897.length co32] 25 (0, 0)) (by (with_reducible repeat (first | refine blk_drewN ?_ _ | refine blk_drew ?_ | refine blk_alloc ?_ _)); exact BK901.out) hb)
            have n7_ := Aside0.mk (blk_below (g := gb907) (o := .cells #[.bool t902, .slice Ao38 t903.length co38] 25 (0, 0)) (by (with_reducible repeat (first | refine blk_drewN ?_ _ | refine blk_drew ?_ | refine blk_alloc ?_ _)); exact BK907.out) hb)
            have n8_ := Aside0.mk (below_step (by repeat (first | (with_reducible first | exact HB.out | apply below_alloc | apply pw_below_drewN | apply below_drew1 | refine below_set ?_ GE895.out | refine below_set ?_ GE901.out | refine below_set ?_ GE907.out) | exact HB.out)) hb)
            clear HO893
            clear HO899
            clear HO905
            clear HO912
            clear BK895
            clear BK901
            clear BK907
            clear HB
            have HO893 := n0_
            have HO899 := n1_
            have HO905 := n2_
            have HO912 := n3_
            have HO917 := n4_
            have BK895 := n5_
            have BK901 := n6_
            have BK907 := n7_
            have HB := n8_
            clear n0_ n1_ n2_ n3_ n4_ n5_ n6_ n7_ n8_
            (try clear hb)
            (try clear hb2)
            (try clear hk)
            (try clear hi)
            (try clear ho0)
            refine hK.out _ _ ⟨(blk_cell BK895.out 0).trans rfl, (blk_cell BK895.out 1).trans rfl, (blk_cell BK901.out 0).trans rfl, (blk_cell BK901.out 1).trans rfl, (blk_cell BK907.out 0).trans rfl, (blk_cell BK907.out 1).trans rfl⟩ (fun hHeld => ?_)
            clear hK K
            refine norm_ (a' := ?_) ?_ ?_
            rotate_left
            · show Act.put _ (some 59) _ = _
              simp only [Act.put, List.setIfInBounds_toArray, List.set_cons_zero, List.set_cons_succ, i64_w, i32_w]
              rfl
            refine one_ (i := 12) (N := some 62) #[true, true, true, true, true, true, true, true, true, true, true, true, true, false, true, false, false] rfl rfl (one_of HT_.out (by kernel_rfl)) (by decide) (fun K hK => ?_)
            refine goes_ Tryd.func35 (by kernel_rfl) rfl #[.agg #[.bool t896, .slice Ao32 t897.length co32], .agg #[.bool t902, .slice Ao38 t903.length co38]] (by rfl) rfl rfl (by (try simp only [List.map_toArray, List.map_cons, List.map_nil]); first | done | rfl | (simp only [List.length_drop, List.length_take]; rfl)) ?_
            with_reducible refine (integer_Add.calls kj3 t896 _ _ t897 t902 _ _ t903 t918 t919 _ ?side1 ?side2 ?side3 ?side4 A46.out).mono ?_
            (case side1 => repeat (first | exact (Kd.V_reads' HO899.out).2.2 | (with_reducible refine Kd.C_alloc ?_ _) | (with_reducible refine Kd.C_drewN ?_ _) | (with_reducible refine Kd.C_drew ?_)))
            (case side2 => exact (Kd.V_reads' HO899.out).2.1)
            (case side3 => repeat (first | exact (Kd.V_reads' HO905.out).2.2 | (with_reducible refine Kd.C_alloc ?_ _) | (with_reducible refine Kd.C_drewN ?_ _) | (with_reducible refine Kd.C_drew ?_)))
            (case side4 => exact (Kd.V_reads' HO905.out).2.1)
            rintro e w53 ⟨v920, rfl, ho0, hb⟩
            refine ⟨_, rfl, ?_⟩
            have n0_ := Aside0.mk (Kd.V_below (by (with_reducible repeat (first | apply Kd.V_alloc | apply Kd.V_drewN | apply Kd.V_drew)); exact HO893.out) hb)
            have n1_ := Aside0.mk (Kd.V_below (by (with_reducible repeat (first | apply Kd.V_alloc | apply Kd.V_drewN | apply Kd.V_drew)); exact HO899.out) hb)
            have n2_ := Aside0.mk (Kd.V_below (by (with_reducible repeat (first | apply Kd.V_alloc | apply Kd.V_drewN | apply Kd.V_drew)); exact HO905.out) hb)
            have n3_ := Aside0.mk (Kd.V_below (by (with_reducible repeat (first | apply Kd.V_alloc | apply Kd.V_drewN | apply Kd.V_drew)); exact HO912.out) hb)
            have n4_ := Aside0.mk (Kd.V_below (by (with_reducible repeat (first | apply Kd.V_alloc | apply Kd.V_drewN | apply Kd.V_drew)); exact HO917.out) hb)
            have n5_ := Aside0.mk (Kd.V_lower (Kd.V_mono (ok' := fun k_ => k_ ≠ gb895 ∧ k_ ≠ gb901 ∧ k_ ≠ gb907) ho0 (fun k_ hk_ => ⟨(Kd.freshB (g := gb895) (o := .cells #[.bool t890, .slice Ao27 t891.length co27] 25 (0, 0)) (by (with_reducible repeat (first | refine blk_drewN ?_ _ | refine blk_drew ?_ | refine blk_alloc ?_ _)); exact BK895.out) k_ hk_), (Kd.freshB (g := gb901) (o := .cells #[.bool t896, .slice Ao32 t897.length co32] 25 (0, 0)) (by (with_reducible repeat (first | refine blk_drewN ?_ _ | refine blk_drew ?_ | refine blk_alloc ?_ _)); exact BK901.out) k_ hk_), (Kd.freshB (g := gb907) (o := .cells #[.bool t902, .slice Ao38 t903.length co38] 25 (0, 0)) (by (with_reducible repeat (first | refine blk_drewN ?_ _ | refine blk_drew ?_ | refine blk_alloc ?_ _)); exact BK907.out) k_ hk_)⟩)) (below_size (by repeat (first | (with_reducible first | exact HB.out | apply below_alloc | apply pw_below_drewN | apply below_drew1 | refine below_set ?_ GE895.out | refine below_set ?_ GE901.out | refine below_set ?_ GE907.out) | exact HB.out))))
            have n6_ := Aside0.mk (blk_below (g := gb895) (o := .cells #[.bool t890, .slice Ao27 t891.length co27] 25 (0, 0)) (by (with_reducible repeat (first | refine blk_drewN ?_ _ | refine blk_drew ?_ | refine blk_alloc ?_ _)); exact BK895.out) hb)
            have n7_ := Aside0.mk (blk_below (g := gb901) (o := .cells #[.bool t896, .slice Ao32 t897.length co32] 25 (0, 0)) (by (with_reducible repeat (first | refine blk_drewN ?_ _ | refine blk_drew ?_ | refine blk_alloc ?_ _)); exact BK901.out) hb)
            have n8_ := Aside0.mk (blk_below (g := gb907) (o := .cells #[.bool t902, .slice Ao38 t903.length co38] 25 (0, 0)) (by (with_reducible repeat (first | refine blk_drewN ?_ _ | refine blk_drew ?_ | refine blk_alloc ?_ _)); exact BK907.out) hb)
            have n9_ := Aside0.mk (below_step (by repeat (first | (with_reducible first | exact HB.out | apply below_alloc | apply pw_below_drewN | apply below_drew1 | refine below_set ?_ GE895.out | refine below_set ?_ GE901.out | refine below_set ?_ GE907.out) | exact HB.out)) hb)
            clear HO893
            clear HO899
            clear HO905
            clear HO912
            clear HO917
            clear BK895
            clear BK901
            clear BK907
            clear HB
            have HO893 := n0_
            have HO899 := n1_
            have HO905 := n2_
            have HO912 := n3_
            have HO917 := n4_
            have HO921 := n5_
            have BK895 := n6_
            have BK901 := n7_
            have BK907 := n8_
            have HB := n9_
            clear n0_ n1_ n2_ n3_ n4_ n5_ n6_ n7_ n8_ n9_
            (try clear hb)
            (try clear hb2)
            (try clear hk)
            (try clear hi)
            (try clear ho0)
            obtain ⟨Ao54, co54, eo54⟩ := Kd.V_slice HO917.out
            (first | subst eo54 | (injection eo54 with f1_ f2_ f3_; have f4_ := f1_.symm; have f5_ := f3_.symm; clear f1_ f2_ f3_; subst f4_; subst f5_))
            obtain ⟨Ao55, co55, eo55⟩ := Kd.V_slice HO921.out
            (first | subst eo55 | (injection eo55 with f1_ f2_ f3_; have f4_ := f1_.symm; have f5_ := f3_.symm; clear f1_ f2_ f3_; subst f4_; subst f5_))
            refine hK.out _ _ ⟨(blk_cell BK895.out 0).trans rfl, (blk_cell BK895.out 1).trans rfl, (blk_cell BK901.out 0).trans rfl, (blk_cell BK901.out 1).trans rfl, (blk_cell BK907.out 0).trans rfl, (blk_cell BK907.out 1).trans rfl⟩ (fun hHeld => ?_)
            clear hK K
            refine norm_ (a' := ?_) ?_ ?_
            rotate_left
            · show Act.put _ (some 62) _ = _
              simp only [Act.put, List.setIfInBounds_toArray, List.set_cons_zero, List.set_cons_succ, i64_w, i32_w]
              rfl
            refine one_ (i := 13) (N := some 63) #[true, true, true, true, true, true, true, true, true, true, true, true, true, true, true, false, false] rfl rfl (one_of HT_.out (by kernel_rfl)) (by decide) (fun K hK => ?_)
            refine goes_ Tryd.func20 (by kernel_rfl) rfl #[.agg #[.bool t914, .slice Ao54 t915.length co54], .agg #[.bool t918, .slice Ao55 t919.length co55]] (by rfl) rfl rfl (by (try simp only [List.map_toArray, List.map_cons, List.map_nil]); first | done | rfl | (simp only [List.length_drop, List.length_take]; rfl)) ?_
            with_reducible refine (integer_Compare.calls kj3 t914 _ _ t915 t918 _ _ t919 t922 _ ?side1 ?side2 ?side3 ?side4 A47.out).mono ?_
            (case side1 => repeat (first | exact (Kd.V_reads' HO917.out).2.2 | (with_reducible refine Kd.C_alloc ?_ _) | (with_reducible refine Kd.C_drewN ?_ _) | (with_reducible refine Kd.C_drew ?_)))
            (case side2 => exact (Kd.V_reads' HO917.out).2.1)
            (case side3 => repeat (first | exact (Kd.V_reads' HO921.out).2.2 | (with_reducible refine Kd.C_alloc ?_ _) | (with_reducible refine Kd.C_drewN ?_ _) | (with_reducible refine Kd.C_drew ?_)))
            (case side4 => exact (Kd.V_reads' HO921.out).2.1)
            rintro e w56 ⟨rfl, hb⟩
            refine ⟨_, rfl, ?_⟩
            have n0_ := Aside0.mk (Kd.V_below (by (with_reducible repeat (first | apply Kd.V_alloc | apply Kd.V_drewN | apply Kd.V_drew)); exact HO893.out) hb)
            have n1_ := Aside0.mk (Kd.V_below (by (with_reducible repeat (first | apply Kd.V_alloc | apply Kd.V_drewN | apply Kd.V_drew)); exact HO899.out) hb)
            have n2_ := Aside0.mk (Kd.V_below (by (with_reducible repeat (first | apply Kd.V_alloc | apply Kd.V_drewN | apply Kd.V_drew)); exact HO905.out) hb)
            have n3_ := Aside0.mk (Kd.V_below (by (with_reducible repeat (first | apply Kd.V_alloc | apply Kd.V_drewN | apply Kd.V_drew)); exact HO912.out) hb)
            have n4_ := Aside0.mk (Kd.V_below (by (with_reducible repeat (first | apply Kd.V_alloc | apply Kd.V_drewN | apply Kd.V_drew)); exact HO917.out) hb)
            have n5_ := Aside0.mk (Kd.V_below (by (with_reducible repeat (first | apply Kd.V_alloc | apply Kd.V_drewN | apply Kd.V_drew)); exact HO921.out) hb)
            have n6_ := Aside0.mk (blk_below (g := gb895) (o := .cells #[.bool t890, .slice Ao27 t891.length co27] 25 (0, 0)) (by (with_reducible repeat (first | refine blk_drewN ?_ _ | refine blk_drew ?_ | refine blk_alloc ?_ _)); exact BK895.out) hb)
            have n7_ := Aside0.mk (blk_below (g := gb901) (o := .cells #[.bool t896, .slice Ao32 t897.length co32] 25 (0, 0)) (by (with_reducible repeat (first | refine blk_drewN ?_ _ | refine blk_drew ?_ | refine blk_alloc ?_ _)); exact BK901.out) hb)
            have n8_ := Aside0.mk (blk_below (g := gb907) (o := .cells #[.bool t902, .slice Ao38 t903.length co38] 25 (0, 0)) (by (with_reducible repeat (first | refine blk_drewN ?_ _ | refine blk_drew ?_ | refine blk_alloc ?_ _)); exact BK907.out) hb)
            have n9_ := Aside0.mk (below_step (by repeat (first | (with_reducible first | exact HB.out | apply below_alloc | apply pw_below_drewN | apply below_drew1 | refine below_set ?_ GE895.out | refine below_set ?_ GE901.out | refine below_set ?_ GE907.out) | exact HB.out)) hb)
            clear HO893
            clear HO899
            clear HO905
            clear HO912
            clear HO917
            clear HO921
            clear BK895
            clear BK901
            clear BK907
            clear HB
            have HO893 := n0_
            have HO899 := n1_
            have HO905 := n2_
            have HO912 := n3_
            have HO917 := n4_
            have HO921 := n5_
            have BK895 := n6_
            have BK901 := n7_
            have BK907 := n8_
            have HB := n9_
            clear n0_ n1_ n2_ n3_ n4_ n5_ n6_ n7_ n8_ n9_
            (try clear hb)
            (try clear hb2)
            (try clear hk)
            (try clear hi)
            refine hK.out _ _ ⟨(blk_cell BK895.out 0).trans rfl, (blk_cell BK895.out 1).trans rfl, (blk_cell BK901.out 0).trans rfl, (blk_cell BK901.out 1).trans rfl, (blk_cell BK907.out 0).trans rfl, (blk_cell BK907.out 1).trans rfl⟩ (fun hHeld => ?_)
            clear hK K
            refine norm_ (a' := ?_) ?_ ?_
            rotate_left
            · show Act.put _ (some 63) _ = _
              simp only [Act.put, List.setIfInBounds_toArray, List.set_cons_zero, List.set_cons_succ, i64_w, i32_w]
              rfl
            refine pure_ (i := 15) (N := some 65) (v := ?_) (a' := ?_) #[true, true, true, true, true, true, true, true, true, true, true, true, true, true, true, true, false] rfl rfl (any_of HT_.out (by kernel_rfl)) (fun _ _ _ h => h) (Or.inl ⟨by rfl, ?_⟩) ?_ ?_
            rotate_left
            · intro w'
              go_simp
              with_reducible rfl
            rotate_left
            · simp only [Act.put, List.setIfInBounds_toArray, List.set_cons_zero, List.set_cons_succ, i64_w, i32_w]
              rfl
            refine pure_ (i := 16) (N := some 66) (v := ?_) (a' := ?_) #[true, true, true, true, true, true, true, true, true, true, true, true, true, true, true, true, true] rfl rfl (any_of HT_.out (by kernel_rfl)) (fun _ _ _ h => h) (Or.inl ⟨by rfl, ?_⟩) ?_ ?_
            rotate_left
            · intro w'
              go_simp
              with_reducible rfl
            rotate_left
            · simp only [Act.put, List.setIfInBounds_toArray, List.set_cons_zero, List.set_cons_succ, i64_w, i32_w]
              rfl
            refine done_ (done_of HT_.out (by kernel_rfl)) ?_
            try go_wp2
            go_meet
            case rel => exact ⟨_, ((t922 != t908)), (by first | rfl | (simp; done) | (simp [*]; done)), H', ⟨by have := HJ3.out; first | omega | exact Nat.le_refl _⟩, ⟨by (with_reducible repeat (first | apply Kd.V_alloc | apply Kd.V_drewN | apply Kd.V_drew)); exact Kd.V_mono HO893.out (fun _ hk => ⟨hk.1.1.2, ⟨hk.1.2, hk.2⟩⟩)⟩, ⟨by (with_reducible repeat (first | apply Kd.V_alloc | apply Kd.V_drewN | apply Kd.V_drew)); exact Kd.V_mono HO899.out (fun _ hk => ⟨hk.1.1, ⟨hk.1.2, hk.2⟩⟩)⟩, ⟨by (with_reducible repeat (first | apply Kd.V_alloc | apply Kd.V_drewN | apply Kd.V_drew)); exact Kd.V_mono HO905.out (fun _ hk => ⟨hk.1.1, ⟨hk.1.2, hk.2⟩⟩)⟩, ⟨by (with_reducible repeat (first | refine blk_drewN ?_ _ | refine blk_drew ?_ | refine blk_alloc ?_ _)); exact BK895.out⟩, ⟨by (with_reducible repeat (first | refine blk_drewN ?_ _ | refine blk_drew ?_ | refine blk_alloc ?_ _)); exact BK901.out⟩, ⟨by (with_reducible repeat (first | refine blk_drewN ?_ _ | refine blk_drew ?_ | refine blk_alloc ?_ _)); exact BK907.out⟩, ⟨by repeat (first | (with_reducible first | exact HB.out | apply below_alloc | apply pw_below_drewN | apply below_drew1 | refine below_set ?_ GE895.out | refine below_set ?_ GE901.out | refine below_set ?_ GE907.out) | exact HB.out)⟩⟩
          · rw [if_neg c44] at H
            have c44b0 : (t913 == t908) = false := beq_eq_false_iff_ne.mpr c44
            have c44b1 : (t913 != t908) = true := bne_iff_ne.mpr c44
            (first | rw [c44b0] | (simp only [i64_w, i32_w]; rw [c44b0]) | skip)
            have H' := Aside0.mk H
            clear H
            try go_wp2
            have n0_ := Aside0.mk (Kd.V_drew HO893.out)
            have n1_ := Aside0.mk (Kd.V_drew HO899.out)
            have n2_ := Aside0.mk (Kd.V_drew HO905.out)
            have n3_ := Aside0.mk (blk_drew BK895.out)
            have n4_ := Aside0.mk (blk_drew BK901.out)
            have n5_ := Aside0.mk (blk_drew BK907.out)
            have n6_ := Aside0.mk (below_drew1 HB.out)
            clear HO893
            clear HO899
            clear HO905
            clear BK895
            clear BK901
            clear BK907
            clear HB
            have HO893 := n0_
            have HO899 := n1_
            have HO905 := n2_
            have BK895 := n3_
            have BK901 := n4_
            have BK907 := n5_
            have HB := n6_
            clear n0_ n1_ n2_ n3_ n4_ n5_ n6_
            refine start_ (n := 17) (S := fun w' => w'.cell? ⟨gb895, 0, none⟩ = some (.bool t890) ∧ w'.cell? ⟨gb895, 1, none⟩ = some (.slice Ao27 t891.length co27) ∧ w'.cell? ⟨gb901, 0, none⟩ = some (.bool t896) ∧ w'.cell? ⟨gb901, 1, none⟩ = some (.slice Ao32 t897.length co32)) (ds := []) #[false, false, false, false, false, false, false, false, false, false, false, false, false, false, false, false, false] (by kernel_rfl) rfl rfl ⟨(blk_cell BK895.out 0).trans rfl, (blk_cell BK895.out 1).trans rfl, (blk_cell BK901.out 0).trans rfl, (blk_cell BK901.out 1).trans rfl⟩ (fun hHeld => ?_); refine with_tabW dowellaw01_IntegerOrder.tab7 dowellaw01_IntegerOrder.bits7 (fun HT_ HW_ => ?_)
            generalize w41.drew = w57 at HO893 HO899 HO905 BK895 BK901 BK907 HB hHeld ⊢
            refine pure_ (i := 4) (N := some 54) (v := ?_) (a' := ?_) #[false, false, false, false, true, false, false, false, false, false, false, false, false, false, false, false, false] rfl rfl (any_of HT_.out (by kernel_rfl)) (fun _ _ _ h => h) (Or.inl ⟨by rfl, ?_⟩) ?_ ?_
            rotate_left
            · intro w'
              go_simp
              with_reducible rfl
            rotate_left
            · simp only [Act.put, List.setIfInBounds_toArray, List.set_cons_zero, List.set_cons_succ, i64_w, i32_w]
              rfl
            refine take_ (i := 0) (N := some 50) (v := ?_) (a' := ?_) #[true, false, false, false, true, false, false, false, false, false, false, false, false, false, false, false, false] rfl rfl (take_ofW HT_.out HW_.out (by kernel_rfl)) (fun _ _ _ h => h) (Or.inl ⟨by rfl, ?_⟩) hHeld ?_ ?_
            rotate_left
            · rintro w' ⟨s0, s1, s2, s3⟩
              go_simp
              with_reducible rfl
            rotate_left
            · simp only [Act.put, List.setIfInBounds_toArray, List.set_cons_zero, List.set_cons_succ, i64_w, i32_w]
              rfl
            refine take_ (i := 1) (N := some 51) (v := ?_) (a' := ?_) #[true, true, false, false, true, false, false, false, false, false, false, false, false, false, false, false, false] rfl rfl (take_ofW HT_.out HW_.out (by kernel_rfl)) (fun _ _ _ h => h) (Or.inl ⟨by rfl, ?_⟩) hHeld ?_ ?_
            rotate_left
            · rintro w' ⟨s0, s1, s2, s3⟩
              go_simp
              with_reducible rfl
            rotate_left
            · simp only [Act.put, List.setIfInBounds_toArray, List.set_cons_zero, List.set_cons_succ, i64_w, i32_w]
              rfl
            refine one_ (i := 2) (N := some 52) #[true, true, true, false, true, false, false, false, false, false, false, false, false, false, false, false, false] rfl rfl (one_of HT_.out (by kernel_rfl)) (by decide) (fun K hK => ?_)
            refine goes_ Tryd.func37 (by kernel_rfl) rfl #[.agg #[.bool t890, .slice Ao27 t891.length co27], .agg #[.bool t896, .slice Ao32 t897.length co32]] (by rfl) rfl rfl (by (try simp only [List.map_toArray, List.map_cons, List.map_nil]); first | done | rfl | (simp only [List.length_drop, List.length_take]; rfl)) ?_
            with_reducible refine (integer_Sub.calls kj3 t890 _ _ t891 t896 (fun k_ => ((k_ ≠ gb895 ∧ k_ ≠ gb901) ∧ k_ ≠ gb907)) _ _ t897 t909 t910 _ ?side1 ?side2 ?side3 A42.out).mono ?_
            (case side1 => repeat (first | exact (Kd.V_reads' HO893.out).2.2 | (with_reducible refine Kd.C_alloc ?_ _) | (with_reducible refine Kd.C_drewN ?_ _) | (with_reducible refine Kd.C_drew ?_)))
            (case side2 => exact (Kd.V_reads' HO893.out).2.1)
            (case side3 => exact HO899.out)
            rintro e w58 ⟨v911, rfl, ho0, hb⟩
            refine ⟨_, rfl, ?_⟩
            have n0_ := Aside0.mk (Kd.V_below (by (with_reducible repeat (first | apply Kd.V_alloc | apply Kd.V_drewN | apply Kd.V_drew)); exact HO893.out) hb)
            have n1_ := Aside0.mk (Kd.V_below (by (with_reducible repeat (first | apply Kd.V_alloc | apply Kd.V_drewN | apply Kd.V_drew)); exact HO899.out) hb)
            have n2_ := Aside0.mk (Kd.V_below (by (with_reducible repeat (first | apply Kd.V_alloc | apply Kd.V_drewN | apply Kd.V_drew)); exact HO905.out) hb)
            have n3_ := Aside0.mk (Kd.V_lower (Kd.V_mono (ok' := fun k_ => k_ ≠ gb895 ∧ k_ ≠ gb901 ∧ k_ ≠ gb907) ho0 (fun k_ hk_ => ⟨Or.elim hk_ (fun hs_ => hs_.1.1) (fun hn_ => (Kd.freshB (g := gb895) (o := .cells #[.bool t890, .slice Ao27 t891.length co27] 25 (0, 0)) (by (with_reducible repeat (first | refine blk_drewN ?_ _ | refine blk_drew ?_ | refine blk_alloc ?_ _)); exact BK895.out) k_ hn_)), Or.elim hk_ (fun hs_ => hs_.1.2) (fun hn_ => (Kd.freshB (g := gb901) (o := .cells #[.bool t896, .slice Ao32 t897.length co32] 25 (0, 0)) (by (with_reducible repeat (first | refine blk_drewN ?_ _ | refine blk_drew ?_ | refine blk_alloc ?_ _)); exact BK901.out) k_ hn_)), Or.elim hk_ (fun hs_ => hs_.2) (fun hn_ => (Kd.freshB (g := gb907) (o := .cells #[.bool t902, .slice Ao38 t903.length co38] 25 (0, 0)) (by (with_reducible repeat (first | refine blk_drewN ?_ _ | refine blk_drew ?_ | refine blk_alloc ?_ _)); exact BK907.out) k_ hn_))⟩)) (below_size (by repeat (first | (with_reducible first | exact HB.out | apply below_alloc | apply pw_below_drewN | apply below_drew1 | refine below_set ?_ GE895.out | refine below_set ?_ GE901.out | refine below_set ?_ GE907.out) | exact HB.out))))
            have n4_ := Aside0.mk (blk_below (g := gb895) (o := .cells #[.bool t890, .slice Ao27 t891.length co27] 25 (0, 0)) (by (with_reducible repeat (first | refine blk_drewN ?_ _ | refine blk_drew ?_ | refine blk_alloc ?_ _)); exact BK895.out) hb)
            have n5_ := Aside0.mk (blk_below (g := gb901) (o := .cells #[.bool t896, .slice Ao32 t897.length co32] 25 (0, 0)) (by (with_reducible repeat (first | refine blk_drewN ?_ _ | refine blk_drew ?_ | refine blk_alloc ?_ _)); exact BK901.out) hb)
            have n6_ := Aside0.mk (blk_below (g := gb907) (o := .cells #[.bool t902, .slice Ao38 t903.length co38] 25 (0, 0)) (by (with_reducible repeat (first | refine blk_drewN ?_ _ | refine blk_drew ?_ | refine blk_alloc ?_ _)); exact BK907.out) hb)
            have n7_ := Aside0.mk (below_step (by repeat (first | (with_reducible first | exact HB.out | apply below_alloc | apply pw_below_drewN | apply below_drew1 | refine below_set ?_ GE895.out | refine below_set ?_ GE901.out | refine below_set ?_ GE907.out) | exact HB.out)) hb)
            clear HO893
            clear HO899
            clear HO905
            clear BK895
            clear BK901
            clear BK907
            clear HB
            have HO893 := n0_
            have HO899 := n1_
            have HO905 := n2_
            have HO912 := n3_
            have BK895 := n4_
            have BK901 := n5_
            have BK907 := n6_
            have HB := n7_
            clear n0_ n1_ n2_ n3_ n4_ n5_ n6_ n7_
            (try clear hb)
            (try clear hb2)
            (try clear hk)
            (try clear hi)
            (try clear ho0)
            obtain ⟨Ao59, co59, eo59⟩ := Kd.V_slice HO912.out
            (first | subst eo59 | (injection eo59 with f1_ f2_ f3_; have f4_ := f1_.symm; have f5_ := f3_.symm; clear f1_ f2_ f3_; subst f4_; subst f5_))
            refine hK.out _ _ ⟨(blk_cell BK895.out 0).trans rfl, (blk_cell BK895.out 1).trans rfl, (blk_cell BK901.out 0).trans rfl, (blk_cell BK901.out 1).trans rfl⟩ (fun hHeld => ?_)
            clear hK K
            refine norm_ (a' := ?_) ?_ ?_
            rotate_left
            · show Act.put _ (some 52) _ = _
              simp only [Act.put, List.setIfInBounds_toArray, List.set_cons_zero, List.set_cons_succ, i64_w, i32_w]
              rfl
            refine one_ (i := 3) (N := some 53) #[true, true, true, true, true, false, false, false, false, false, false, false, false, false, false, false, false] rfl rfl (one_of HT_.out (by kernel_rfl)) (by decide) (fun K hK => ?_)
            refine goes_ Tryd.func19 (by kernel_rfl) rfl #[.agg #[.bool t909, .slice Ao59 t910.length co59]] (by rfl) rfl rfl (by (try simp only [List.map_toArray, List.map_cons, List.map_nil]); first | done | rfl | (simp only [List.length_drop, List.length_take]; rfl)) ?_
            with_reducible refine (integer_Int_Sign.calls t909 _ _ t910 t913 _ ?side1 ?side2 A43.out).mono ?_
            (case side1 => repeat (first | exact (Kd.V_reads' HO912.out).2.2 | (with_reducible refine Kd.C_alloc ?_ _) | (with_reducible refine Kd.C_drewN ?_ _) | (with_reducible refine Kd.C_drew ?_)))
            (case side2 => exact (Kd.V_reads' HO912.out).2.1)
            rintro e w60 ⟨rfl, hb⟩
            refine ⟨_, rfl, ?_⟩
            have n0_ := Aside0.mk (Kd.V_below (by (with_reducible repeat (first | apply Kd.V_alloc | apply Kd.V_drewN | apply Kd.V_drew)); exact HO893.out) hb)
            have n1_ := Aside0.mk (Kd.V_below (by (with_reducible repeat (first | apply Kd.V_alloc | apply Kd.V_drewN | apply Kd.V_drew)); exact HO899.out) hb)
            have n2_ := Aside0.mk (Kd.V_below (by (with_reducible repeat (first | apply Kd.V_alloc | apply Kd.V_drewN | apply Kd.V_drew)); exact HO905.out) hb)
            have n3_ := Aside0.mk (Kd.V_below (by (with_reducible repeat (first | apply Kd.V_alloc | apply Kd.V_drewN | apply Kd.V_drew)); exact HO912.out) hb)
            have n4_ := Aside0.mk (blk_below (g := gb895) (o := .cells #[.bool t890, .slice Ao27 t891.length co27] 25 (0, 0)) (by (with_reducible repeat (first | refine blk_drewN ?_ _ | refine blk_drew ?_ | refine blk_alloc ?_ _)); exact BK895.out) hb)
            have n5_ := Aside0.mk (blk_below (g := gb901) (o := .cells #[.bool t896, .slice Ao32 t897.length co32] 25 (0, 0)) (by (with_reducible repeat (first | refine blk_drewN ?_ _ | refine blk_drew ?_ | refine blk_alloc ?_ _)); exact BK901.out) hb)
            have n6_ := Aside0.mk (blk_below (g := gb907) (o := .cells #[.bool t902, .slice Ao38 t903.length co38] 25 (0, 0)) (by (with_reducible repeat (first | refine blk_drewN ?_ _ | refine blk_drew ?_ | refine blk_alloc ?_ _)); exact BK907.out) hb)
            have n7_ := Aside0.mk (below_step (by repeat (first | (with_reducible first | exact HB.out | apply below_alloc | apply pw_below_drewN | apply below_drew1 | refine below_set ?_ GE895.out | refine below_set ?_ GE901.out | refine below_set ?_ GE907.out) | exact HB.out)) hb)
            clear HO893
            clear HO899
            clear HO905
            clear HO912
            clear BK895
            clear BK901
            clear BK907
            clear HB
            have HO893 := n0_
            have HO899 := n1_
            have HO905 := n2_
            have HO912 := n3_
            have BK895 := n4_
            have BK901 := n5_
            have BK907 := n6_
            have HB := n7_
            clear n0_ n1_ n2_ n3_ n4_ n5_ n6_ n7_
            (try clear hb)
            (try clear hb2)
            (try clear hk)
            (try clear hi)
            refine hK.out _ _ ⟨(blk_cell BK895.out 0).trans rfl, (blk_cell BK895.out 1).trans rfl, (blk_cell BK901.out 0).trans rfl, (blk_cell BK901.out 1).trans rfl⟩ (fun hHeld => ?_)
            clear hK K
            refine norm_ (a' := ?_) ?_ ?_
            rotate_left
            · show Act.put _ (some 53) _ = _
              simp only [Act.put, List.setIfInBounds_toArray, List.set_cons_zero, List.set_cons_succ, i64_w, i32_w]
              rfl
            refine pure_ (i := 5) (N := some 55) (v := ?_) (a' := ?_) #[true, true, true, true, true, true, false, false, false, false, false, false, false, false, false, false, false] rfl rfl (any_of HT_.out (by kernel_rfl)) (fun _ _ _ h => h) (Or.inl ⟨by rfl, ?_⟩) ?_ ?_
            rotate_left
            · intro w'
              go_simp
              with_reducible rfl
            rotate_left
            · simp only [Act.put, List.setIfInBounds_toArray, List.set_cons_zero, List.set_cons_succ, i64_w, i32_w]
              rfl
            refine pure_ (i := 6) (N := some 56) (v := ?_) (a' := ?_) #[true, true, true, true, true, true, true, false, false, false, false, false, false, false, false, false, false] rfl rfl (any_of HT_.out (by kernel_rfl)) (fun _ _ _ h => h) (Or.inl ⟨by rfl, ?_⟩) ?_ ?_
            rotate_left
            · intro w'
              go_simp
              with_reducible rfl
            rotate_left
            · simp only [Act.put, List.setIfInBounds_toArray, List.set_cons_zero, List.set_cons_succ, i64_w, i32_w]
              rfl
            refine pure_ (i := 7) (N := some 57) (v := undef) (a' := ?_) #[true, true, true, true, true, true, true, true, false, false, false, false, false, false, false, false, false] rfl rfl (any_of HT_.out (by kernel_rfl)) (fun _ _ _ h => h) (Or.inr ⟨by rfl, rfl⟩) ?_ ?_
            rotate_left
            · simp only [Act.put, List.setIfInBounds_toArray, List.set_cons_zero, List.set_cons_succ, i64_w, i32_w]
              rfl
            refine pure_ (i := 8) (N := some 58) (v := undef) (a' := ?_) #[true, true, true, true, true, true, true, true, true, false, false, false, false, false, false, false, false] rfl rfl (any_of HT_.out (by kernel_rfl)) (fun _ _ _ h => h) (Or.inr ⟨by rfl, rfl⟩) ?_ ?_
            rotate_left
            · simp only [Act.put, List.setIfInBounds_toArray, List.set_cons_zero, List.set_cons_succ, i64_w, i32_w]
              rfl
            refine pure_ (i := 9) (N := some 59) (v := undef) (a' := ?_) #[true, true, true, true, true, true, true, true, true, true, false, false, false, false, false, false, false] rfl rfl (any_of HT_.out (by kernel_rfl)) (fun _ _ _ h => h) (Or.inr ⟨by rfl, rfl⟩) ?_ ?_
            rotate_left
            · simp only [Act.put, List.setIfInBounds_toArray, List.set_cons_zero, List.set_cons_succ, i64_w, i32_w]
              rfl
            refine pure_ (i := 10) (N := some 60) (v := undef) (a' := ?_) #[true, true, true, true, true, true, true, true, true, true, true, false, false, false, false, false, false] rfl rfl (any_of HT_.out (by kernel_rfl)) (fun _ _ _ h => h) (Or.inr ⟨by rfl, rfl⟩) ?_ ?_
            rotate_left
            · simp only [Act.put, List.setIfInBounds_toArray, List.set_cons_zero, List.set_cons_succ, i64_w, i32_w]
              rfl
            refine pure_ (i := 11) (N := some 61) (v := undef) (a' := ?_) #[true, true, true, true, true, true, true, true, true, true, true, true, false, false, false, false, false] rfl rfl (any_of HT_.out (by kernel_rfl)) (fun _ _ _ h => h) (Or.inr ⟨by rfl, rfl⟩) ?_ ?_
            rotate_left
            · simp only [Act.put, List.setIfInBounds_toArray, List.set_cons_zero, List.set_cons_succ, i64_w, i32_w]
              rfl
            refine pure_ (i := 12) (N := some 62) (v := undef) (a' := ?_) #[true, true, true, true, true, true, true, true, true, true, true, true, true, false, false, false, false] rfl rfl (any_of HT_.out (by kernel_rfl)) (fun _ _ _ h => h) (Or.inr ⟨by rfl, rfl⟩) ?_ ?_
            rotate_left
            · simp only [Act.put, List.setIfInBounds_toArray, List.set_cons_zero, List.set_cons_succ, i64_w, i32_w]
              rfl
            refine pure_ (i := 13) (N := some 63) (v := undef) (a' := ?_) #[true, true, true, true, true, true, true, true, true, true, true, true, true, true, false, false, false] rfl rfl (any_of HT_.out (by kernel_rfl)) (fun _ _ _ h => h) (Or.inr ⟨by rfl, rfl⟩) ?_ ?_
            rotate_left
            · simp only [Act.put, List.setIfInBounds_toArray, List.set_cons_zero, List.set_cons_succ, i64_w, i32_w]
              rfl
            refine pure_ (i := 14) (N := some 64) (v := undef) (a' := ?_) #[true, true, true, true, true, true, true, true, true, true, true, true, true, true, true, false, false] rfl rfl (any_of HT_.out (by kernel_rfl)) (fun _ _ _ h => h) (Or.inr ⟨by rfl, rfl⟩) ?_ ?_
            rotate_left
            · simp only [Act.put, List.setIfInBounds_toArray, List.set_cons_zero, List.set_cons_succ, i64_w, i32_w]
              rfl
            refine pure_ (i := 15) (N := some 65) (v := undef) (a' := ?_) #[true, true, true, true, true, true, true, true, true, true, true, true, true, true, true, true, false] rfl rfl (any_of HT_.out (by kernel_rfl)) (fun _ _ _ h => h) (Or.inr ⟨by rfl, rfl⟩) ?_ ?_
            rotate_left
            · simp only [Act.put, List.setIfInBounds_toArray, List.set_cons_zero, List.set_cons_succ, i64_w, i32_w]
              rfl
            refine pure_ (i := 16) (N := some 66) (v := ?_) (a' := ?_) #[true, true, true, true, true, true, true, true, true, true, true, true, true, true, true, true, true] rfl rfl (any_of HT_.out (by kernel_rfl)) (fun _ _ _ h => h) (Or.inl ⟨by rfl, ?_⟩) ?_ ?_
            rotate_left
            · intro w'
              go_simp
              with_reducible rfl
            rotate_left
            · simp only [Act.put, List.setIfInBounds_toArray, List.set_cons_zero, List.set_cons_succ, i64_w, i32_w]
              rfl
            refine done_ (done_of HT_.out (by kernel_rfl)) ?_
            try go_wp2
            go_meet
            case rel => exact ⟨_, (true), (by first | rfl | (simp; done) | (simp [*]; done)), H', ⟨by have := HJ3.out; first | omega | exact Nat.le_refl _⟩, ⟨by (with_reducible repeat (first | apply Kd.V_alloc | apply Kd.V_drewN | apply Kd.V_drew)); exact Kd.V_mono HO893.out (fun _ hk => ⟨hk.1.1.2, ⟨hk.1.2, hk.2⟩⟩)⟩, ⟨by (with_reducible repeat (first | apply Kd.V_alloc | apply Kd.V_drewN | apply Kd.V_drew)); exact Kd.V_mono HO899.out (fun _ hk => ⟨hk.1.1, ⟨hk.1.2, hk.2⟩⟩)⟩, ⟨by (with_reducible repeat (first | apply Kd.V_alloc | apply Kd.V_drewN | apply Kd.V_drew)); exact Kd.V_mono HO905.out (fun _ hk => ⟨hk.1.1, ⟨hk.1.2, hk.2⟩⟩)⟩, ⟨by (with_reducible repeat (first | refine blk_drewN ?_ _ | refine blk_drew ?_ | refine blk_alloc ?_ _)); exact BK895.out⟩, ⟨by (with_reducible repeat (first | refine blk_drewN ?_ _ | refine blk_drew ?_ | refine blk_alloc ?_ _)); exact BK901.out⟩, ⟨by (with_reducible repeat (first | refine blk_drewN ?_ _ | refine blk_drew ?_ | refine blk_alloc ?_ _)); exact BK907.out⟩, ⟨by repeat (first | (with_reducible first | exact HB.out | apply below_alloc | apply pw_below_drewN | apply below_drew1 | refine below_set ?_ GE895.out | refine below_set ?_ GE901.out | refine below_set ?_ GE907.out) | exact HB.out)⟩⟩
        case rest =>
          clear HC23
          try clear c1
          try clear c2
          try clear p2
          try clear c3
          try clear c4
          try clear c19
          try clear c20
          try clear c35
          try clear c37
          try clear c44
          try clear c44b0
          try clear c44b1
          obtain ⟨kq, x66_22, rfl, HA, HJ22, HO_896001, HO_902001, HO_908001, BK895, BK901, BK907, HB⟩ := hcut
          cases kq with
          | zero => exact absurd HA.out (by simp [dowellaw01_IntegerOrder.j1])
          | succ kj22 =>
            have H := HA.out
            clear HA
            simp only [dowellaw01_IntegerOrder.j1] at H
            by_cases c61 : x66_22 = true
            · subst c61
              have H1 : (none) = some r := by rw [if_pos rfl] at H; exact H
              clear H
              have H := H1
              clear H1
              exact absurd H (by simp)
            · replace c61 := Bool.eq_false_iff.mpr c61
              subst c61
              have H1 : ((integer_Int_Sign.f t902 t903).bind fun t923 => (if t923 > 0 then ((integer_Mul.f kj22 t890 t891 t902 t903).bind fun bt924 => ((integer_Mul.f kj22 t896 t897 t902 t903).bind fun bt928 => ((integer_Compare.f kj22 bt924.1 bt924.2 bt928.1 bt928.2).bind fun t932 => (dowellaw01_IntegerOrder.j2 kj22 t908 (t932 != t908) t890 t891 t896 t897 t902 t903)))) else (dowellaw01_IntegerOrder.j2 kj22 t908 false t890 t891 t896 t897 t902 t903))) = some r := by rw [if_neg (show ¬ (false = true) by decide)] at H; exact H
              clear H
              have H := H1
              clear H1
              have HC62 := Aside0.mk H
              clear H
              go_upto_region 9 with (fail)
              go_cut [80] (fun v80 wc => ∃ (kq : Nat) (x80_61 : Bool), v80 = .bool x80_61 ∧ Aside0 (dowellaw01_IntegerOrder.j2 kq t908 x80_61 t890 t891 t896 t897 t902 t903 = some r) ∧ Aside0 (kq ≤ kj22) ∧ Aside0 (Kd.V (Kd.int .u32) 60 wc w.heap.size (fun k_ => k_ ≠ gb895 ∧ k_ ≠ gb901 ∧ k_ ≠ gb907) (.slice Ao27 t891.length co27) t891) ∧ Aside0 (Kd.V (Kd.int .u32) 60 wc w.heap.size (fun k_ => k_ ≠ gb895 ∧ k_ ≠ gb901 ∧ k_ ≠ gb907) (.slice Ao32 t897.length co32) t897) ∧ Aside0 (Kd.V (Kd.int .u32) 60 wc w.heap.size (fun k_ => k_ ≠ gb895 ∧ k_ ≠ gb901 ∧ k_ ≠ gb907) (.slice Ao38 t903.length co38) t903) ∧ Aside0 (wc.heap[gb895]? = some (.cells #[.bool t890, (.slice Ao27 t891.length co27)] 25 (0, 0))) ∧ Aside0 (wc.heap[gb901]? = some (.cells #[.bool t896, (.slice Ao32 t897.length co32)] 25 (0, 0))) ∧ Aside0 (wc.heap[gb907]? = some (.cells #[.bool t902, (.slice Ao38 t903.length co38)] 25 (0, 0))) ∧ Aside0 (Below w.heap.size w wc))
              case first =>
                have H := HC62.out
                clear HC62
                replace H := Option.bind_eq_some_iff.mp H
                obtain ⟨t923, A630, H⟩ := H
                replace H : (if t923 > 0 then ((integer_Mul.f kj22 t890 t891 t902 t903).bind fun bt924 => ((integer_Mul.f kj22 t896 t897 t902 t903).bind fun bt928 => ((integer_Compare.f kj22 bt924.1 bt924.2 bt928.1 bt928.2).bind fun t932 => (dowellaw01_IntegerOrder.j2 kj22 t908 (t932 != t908) t890 t891 t896 t897 t902 t903)))) else (dowellaw01_IntegerOrder.j2 kj22 t908 false t890 t891 t896 t897 t902 t903)) = some r := H
                have A63 := Aside0.mk A630
                clear A630
                by_cases c64 : t923 > 0
                · rw [if_pos c64] at H
                  have c64b0 : decide (0 < t923) = true := decide_eq_true c64
                  clear c64
                  (first | rw [c64b0] | (simp only [i64_w, i32_w]; rw [c64b0]) | skip)
                  replace H := Option.bind_eq_some_iff.mp H
                  obtain ⟨⟨t924, t925⟩, A650, H⟩ := H
                  replace H : ((integer_Mul.f kj22 t896 t897 t902 t903).bind fun bt928 => ((integer_Compare.f kj22 t924 t925 bt928.1 bt928.2).bind fun t932 => (dowellaw01_IntegerOrder.j2 kj22 t908 (t932 != t908) t890 t891 t896 t897 t902 t903))) = some r := H
                  have A65 := Aside0.mk A650
                  clear A650
                  replace H := Option.bind_eq_some_iff.mp H
                  obtain ⟨⟨t928, t929⟩, A660, H⟩ := H
                  replace H : ((integer_Compare.f kj22 t924 t925 t928 t929).bind fun t932 => (dowellaw01_IntegerOrder.j2 kj22 t908 (t932 != t908) t890 t891 t896 t897 t902 t903)) = some r := H
                  have A66 := Aside0.mk A660
                  clear A660
                  replace H := Option.bind_eq_some_iff.mp H
                  obtain ⟨t932, A670, H⟩ := H
                  replace H : (dowellaw01_IntegerOrder.j2 kj22 t908 (t932 != t908) t890 t891 t896 t897 t902 t903) = some r := H
                  have A67 := Aside0.mk A670
                  clear A670
                  have H' := Aside0.mk H
                  clear H
                  try go_wp2
                  have n0_ := Aside0.mk (Kd.V_drew HO_896001.out)
                  have n1_ := Aside0.mk (Kd.V_drew HO_902001.out)
                  have n2_ := Aside0.mk (Kd.V_drew HO_908001.out)
                  have n3_ := Aside0.mk (blk_drew BK895.out)
                  have n4_ := Aside0.mk (blk_drew BK901.out)
                  have n5_ := Aside0.mk (blk_drew BK907.out)
                  have n6_ := Aside0.mk (below_drew1 HB.out)
                  clear HO_896001
                  clear HO_902001
                  clear HO_908001
                  clear BK895
                  clear BK901
                  clear BK907
                  clear HB
                  have HO_896001 := n0_
                  have HO_902001 := n1_
                  have HO_908001 := n2_
                  have BK895 := n3_
                  have BK901 := n4_
                  have BK907 := n5_
                  have HB := n6_
                  clear n0_ n1_ n2_ n3_ n4_ n5_ n6_
                  refine start_ (n := 14) (S := fun w' => w'.cell? ⟨gb907, 0, none⟩ = some (.bool t902) ∧ w'.cell? ⟨gb907, 1, none⟩ = some (.slice Ao38 t903.length co38) ∧ w'.cell? ⟨gb895, 0, none⟩ = some (.bool t890) ∧ w'.cell? ⟨gb895, 1, none⟩ = some (.slice Ao27 t891.length co27) ∧ w'.cell? ⟨gb901, 0, none⟩ = some (.bool t896) ∧ w'.cell? ⟨gb901, 1, none⟩ = some (.slice Ao32 t897.length co32)) (ds := []) #[false, false, false, false, false, false, false, false, false, false, false, false, false, false] (by kernel_rfl) rfl rfl ⟨(blk_cell BK907.out 0).trans rfl, (blk_cell BK907.out 1).trans rfl, (blk_cell BK895.out 0).trans rfl, (blk_cell BK895.out 1).trans rfl, (blk_cell BK901.out 0).trans rfl, (blk_cell BK901.out 1).trans rfl⟩ (fun hHeld => ?_); refine with_tabW dowellaw01_IntegerOrder.tab9 dowellaw01_IntegerOrder.bits9 (fun HT_ HW_ => ?_)
                  generalize wc.drew = w68 at HO_896001 HO_902001 HO_908001 BK895 BK901 BK907 HB hHeld ⊢
                  refine take_ (i := 0) (N := some 67) (v := ?_) (a' := ?_) #[true, false, false, false, false, false, false, false, false, false, false, false, false, false] rfl rfl (take_ofW HT_.out HW_.out (by kernel_rfl)) (fun _ _ _ h => h) (Or.inl ⟨by rfl, ?_⟩) hHeld ?_ ?_
                  rotate_left
                  · rintro w' ⟨s0, s1, s2, s3, s4, s5⟩
                    go_simp
                    with_reducible rfl
                  rotate_left
                  · simp only [Act.put, List.setIfInBounds_toArray, List.set_cons_zero, List.set_cons_succ, i64_w, i32_w]
                    rfl
                  refine one_ (i := 1) (N := some 68) #[true, true, false, false, false, false, false, false, false, false, false, false, false, false] rfl rfl (one_of HT_.out (by kernel_rfl)) (by decide) (fun K hK => ?_)
                  refine goes_ Tryd.func19 (by kernel_rfl) rfl #[.agg #[.bool t902, .slice Ao38 t903.length co38]] (by rfl) rfl rfl (by (try simp only [List.map_toArray, List.map_cons, List.map_nil]); first | done | rfl | (simp only [List.length_drop, List.length_take]; rfl)) ?_
                  with_reducible refine (integer_Int_Sign.calls t902 _ _ t903 t923 _ ?side1 ?side2 A63.out).mono ?_
                  (case side1 => repeat (first | exact (Kd.V_reads' HO_908001.out).2.2 | (with_reducible refine Kd.C_alloc ?_ _) | (with_reducible refine Kd.C_drewN ?_ _) | (with_reducible refine Kd.C_drew ?_)))
                  (case side2 => exact (Kd.V_reads' HO_908001.out).2.1)
                  rintro e w69 ⟨rfl, hb⟩
                  refine ⟨_, rfl, ?_⟩
                  have n0_ := Aside0.mk (Kd.V_below (by (with_reducible repeat (first | apply Kd.V_alloc | apply Kd.V_drewN | apply Kd.V_drew)); exact HO_896001.out) hb)
                  have n1_ := Aside0.mk (Kd.V_below (by (with_reducible repeat (first | apply Kd.V_alloc | apply Kd.V_drewN | apply Kd.V_drew)); exact HO_902001.out) hb)
                  have n2_ := Aside0.mk (Kd.V_below (by (with_reducible repeat (first | apply Kd.V_alloc | apply Kd.V_drewN | apply Kd.V_drew)); exact HO_908001.out) hb)
                  have n3_ := Aside0.mk (blk_below (g := gb895) (o := .cells #[.bool t890, .slice Ao27 t891.length co27] 25 (0, 0)) (by (with_reducible repeat (first | refine blk_drewN ?_ _ | refine blk_drew ?_ | refine blk_alloc ?_ _)); exact BK895.out) hb)
                  have n4_ := Aside0.mk (blk_below (g := gb901) (o := .cells #[.bool t896, .slice Ao32 t897.length co32] 25 (0, 0)) (by (with_reducible repeat (first | refine blk_drewN ?_ _ | refine blk_drew ?_ | refine blk_alloc ?_ _)); exact BK901.out) hb)
                  have n5_ := Aside0.mk (blk_below (g := gb907) (o := .cells #[.bool t902, .slice Ao38 t903.length co38] 25 (0, 0)) (by (with_reducible repeat (first | refine blk_drewN ?_ _ | refine blk_drew ?_ | refine blk_alloc ?_ _)); exact BK907.out) hb)
                  have n6_ := Aside0.mk (below_step (by repeat (first | (with_reducible first | exact HB.out | apply below_alloc | apply pw_below_drewN | apply below_drew1 | refine below_set ?_ GE895.out | refine below_set ?_ GE901.out | refine below_set ?_ GE907.out) | exact HB.out)) hb)
                  clear HO_896001
                  clear HO_902001
                  clear HO_908001
                  clear BK895
                  clear BK901
                  clear BK907
                  clear HB
                  have HO_896001 := n0_
                  have HO_902001 := n1_
                  have HO_908001 := n2_
                  have BK895 := n3_
                  have BK901 := n4_
                  have BK907 := n5_
                  have HB := n6_
                  clear n0_ n1_ n2_ n3_ n4_ n5_ n6_
                  (try clear hb)
                  (try clear hb2)
                  (try clear hk)
                  (try clear hi)
                  refine hK.out _ _ ⟨(blk_cell BK907.out 0).trans rfl, (blk_cell BK907.out 1).trans rfl, (blk_cell BK895.out 0).trans rfl, (blk_cell BK895.out 1).trans rfl, (blk_cell BK901.out 0).trans rfl, (blk_cell BK901.out 1).trans rfl⟩ (fun hHeld => ?_)
                  clear hK K
                  refine norm_ (a' := ?_) ?_ ?_
                  rotate_left
                  · show Act.put _ (some 68) _ = _
                    simp only [Act.put, List.setIfInBounds_toArray, List.set_cons_zero, List.set_cons_succ, i64_w, i32_w]
                    rfl
                  refine pure_ (i := 2) (N := some 69) (v := ?_) (a' := ?_) #[true, true, true, false, false, false, false, false, false, false, false, false, false, false] rfl rfl (any_of HT_.out (by kernel_rfl)) (fun _ _ _ h => h) (Or.inl ⟨by rfl, ?_⟩) ?_ ?_
                  rotate_left
                  · intro w'
                    go_simp
                    with_reducible rfl
                  rotate_left
                  · simp only [Act.put, List.setIfInBounds_toArray, List.set_cons_zero, List.set_cons_succ, i64_w, i32_w]
                    rfl
                  refine pure_ (i := 3) (N := some 70) (v := ?_) (a' := ?_) #[true, true, true, true, false, false, false, false, false, false, false, false, false, false] rfl rfl (any_of HT_.out (by kernel_rfl)) (fun _ _ _ h => h) (Or.inl ⟨by rfl, ?_⟩) ?_ ?_
                  rotate_left
                  · intro w'
                    go_simp
                    with_reducible rfl
                  rotate_left
                  · simp only [Act.put, List.setIfInBounds_toArray, List.set_cons_zero, List.set_cons_succ, i64_w, i32_w]
                    rfl
                  refine pure_ (i := 11) (N := some 78) (v := ?_) (a' := ?_) #[true, true, true, true, false, false, false, false, false, false, false, true, false, false] rfl rfl (any_of HT_.out (by kernel_rfl)) (fun _ _ _ h => h) (Or.inl ⟨by rfl, ?_⟩) ?_ ?_
                  rotate_left
                  · intro w'
                    go_simp
                    with_reducible rfl
                  rotate_left
                  · simp only [Act.put, List.setIfInBounds_toArray, List.set_cons_zero, List.set_cons_succ, i64_w, i32_w]
                    rfl
                  refine take_ (i := 4) (N := some 71) (v := ?_) (a' := ?_) #[true, true, true, true, true, false, false, false, false, false, false, true, false, false] rfl rfl (take_ofW HT_.out HW_.out (by kernel_rfl)) (fun _ _ _ h => h) (Or.inl ⟨by rfl, ?_⟩) hHeld ?_ ?_
                  rotate_left
                  · rintro w' ⟨s0, s1, s2, s3, s4, s5⟩
                    go_simp
                    with_reducible rfl
                  rotate_left
                  · simp only [Act.put, List.setIfInBounds_toArray, List.set_cons_zero, List.set_cons_succ, i64_w, i32_w]
                    rfl
                  refine take_ (i := 5) (N := some 72) (v := ?_) (a' := ?_) #[true, true, true, true, true, true, false, false, false, false, false, true, false, false] rfl rfl (take_ofW HT_.out HW_.out (by kernel_rfl)) (fun _ _ _ h => h) (Or.inl ⟨by rfl, ?_⟩) hHeld ?_ ?_
                  rotate_left
                  · rintro w' ⟨s0, s1, s2, s3, s4, s5⟩
                    go_simp
                    with_reducible rfl
                  rotate_left
                  · simp only [Act.put, List.setIfInBounds_toArray, List.set_cons_zero, List.set_cons_succ, i64_w, i32_w]
                    rfl
                  refine take_ (i := 7) (N := some 74) (v := ?_) (a' := ?_) #[true, true, true, true, true, true, false, true, false, false, false, true, false, false] rfl rfl (take_ofW HT_.out HW_.out (by kernel_rfl)) (fun _ _ _ h => h) (Or.inl ⟨by rfl, ?_⟩) hHeld ?_ ?_
                  rotate_left
                  · rintro w' ⟨s0, s1, s2, s3, s4, s5⟩
                    go_simp
                    with_reducible rfl
                  rotate_left
                  · simp only [Act.put, List.setIfInBounds_toArray, List.set_cons_zero, List.set_cons_succ, i64_w, i32_w]
                    rfl
                  refine take_ (i := 8) (N := some 75) (v := ?_) (a' := ?_) #[true, true, true, true, true, true, false, true, true, false, false, true, false, false] rfl rfl (take_ofW HT_.out HW_.out (by kernel_rfl)) (fun _ _ _ h => h) (Or.inl ⟨by rfl, ?_⟩) hHeld ?_ ?_
                  rotate_left
                  · rintro w' ⟨s0, s1, s2, s3, s4, s5⟩
                    go_simp
                    with_reducible rfl
                  rotate_left
                  · simp only [Act.put, List.setIfInBounds_toArray, List.set_cons_zero, List.set_cons_succ, i64_w, i32_w]
                    rfl
                  refine one_ (i := 6) (N := some 73) #[true, true, true, true, true, true, true, true, true, false, false, true, false, false] rfl rfl (one_of HT_.out (by kernel_rfl)) (by decide) (fun K hK => ?_)
                  refine goes_ Tryd.func25 (by kernel_rfl) rfl #[.agg #[.bool t890, .slice Ao27 t891.length co27], .agg #[.bool t902, .slice Ao38 t903.length co38]] (by rfl) rfl rfl (by (try simp only [List.map_toArray, List.map_cons, List.map_nil]); first | done | rfl | (simp only [List.length_drop, List.length_take]; rfl)) ?_
                  with_reducible refine (integer_Mul.calls kj22 t890 _ _ t891 t902 _ _ t903 t924 t925 _ ?side1 ?side2 ?side3 ?side4 A65.out).mono ?_
                  (case side1 => repeat (first | exact (Kd.V_reads' HO_896001.out).2.2 | (with_reducible refine Kd.C_alloc ?_ _) | (with_reducible refine Kd.C_drewN ?_ _) | (with_reducible refine Kd.C_drew ?_)))
                  (case side2 => exact (Kd.V_reads' HO_896001.out).2.1)
                  (case side3 => repeat (first | exact (Kd.V_reads' HO_908001.out).2.2 | (with_reducible refine Kd.C_alloc ?_ _) | (with_reducible refine Kd.C_drewN ?_ _) | (with_reducible refine Kd.C_drew ?_)))
                  (case side4 => exact (Kd.V_reads' HO_908001.out).2.1)
                  rintro e w70 ⟨v926, rfl, ho0, hb⟩
                  refine ⟨_, rfl, ?_⟩
                  have n0_ := Aside0.mk (Kd.V_below (by (with_reducible repeat (first | apply Kd.V_alloc | apply Kd.V_drewN | apply Kd.V_drew)); exact HO_896001.out) hb)
                  have n1_ := Aside0.mk (Kd.V_below (by (with_reducible repeat (first | apply Kd.V_alloc | apply Kd.V_drewN | apply Kd.V_drew)); exact HO_902001.out) hb)
                  have n2_ := Aside0.mk (Kd.V_below (by (with_reducible repeat (first | apply Kd.V_alloc | apply Kd.V_drewN | apply Kd.V_drew)); exact HO_908001.out) hb)
                  have n3_ := Aside0.mk (Kd.V_lower (Kd.V_mono (ok' := fun k_ => k_ ≠ gb895 ∧ k_ ≠ gb901 ∧ k_ ≠ gb907) ho0 (fun k_ hk_ => ⟨(Kd.freshB (g := gb895) (o := .cells #[.bool t890, .slice Ao27 t891.length co27] 25 (0, 0)) (by (with_reducible repeat (first | refine blk_drewN ?_ _ | refine blk_drew ?_ | refine blk_alloc ?_ _)); exact BK895.out) k_ hk_), (Kd.freshB (g := gb901) (o := .cells #[.bool t896, .slice Ao32 t897.length co32] 25 (0, 0)) (by (with_reducible repeat (first | refine blk_drewN ?_ _ | refine blk_drew ?_ | refine blk_alloc ?_ _)); exact BK901.out) k_ hk_), (Kd.freshB (g := gb907) (o := .cells #[.bool t902, .slice Ao38 t903.length co38] 25 (0, 0)) (by (with_reducible repeat (first | refine blk_drewN ?_ _ | refine blk_drew ?_ | refine blk_alloc ?_ _)); exact BK907.out) k_ hk_)⟩)) (below_size (by repeat (first | (with_reducible first | exact HB.out | apply below_alloc | apply pw_below_drewN | apply below_drew1 | refine below_set ?_ GE895.out | refine below_set ?_ GE901.out | refine below_set ?_ GE907.out) | exact HB.out))))
                  have n4_ := Aside0.mk (blk_below (g := gb895) (o := .cells #[.bool t890, .slice Ao27 t891.length co27] 25 (0, 0)) (by (with_reducible repeat (first | refine blk_drewN ?_ _ | refine blk_drew ?_ | refine blk_alloc ?_ _)); exact BK895.out) hb)
                  have n5_ := Aside0.mk (blk_below (g := gb901) (o := .cells #[.bool t896, .slice Ao32 t897.length co32] 25 (0, 0)) (by (with_reducible repeat (first | refine blk_drewN ?_ _ | refine blk_drew ?_ | refine blk_alloc ?_ _)); exact BK901.out) hb)
                  have n6_ := Aside0.mk (blk_below (g := gb907) (o := .cells #[.bool t902, .slice Ao38 t903.length co38] 25 (0, 0)) (by (with_reducible repeat (first | refine blk_drewN ?_ _ | refine blk_drew ?_ | refine blk_alloc ?_ _)); exact BK907.out) hb)
                  have n7_ := Aside0.mk (below_step (by repeat (first | (with_reducible first | exact HB.out | apply below_alloc | apply pw_below_drewN | apply below_drew1 | refine below_set ?_ GE895.out | refine below_set ?_ GE901.out | refine below_set ?_ GE907.out) | exact HB.out)) hb)
                  clear HO_896001
                  clear HO_902001
                  clear HO_908001
                  clear BK895
                  clear BK901
                  clear BK907
                  clear HB
                  have HO_896001 := n0_
                  have HO_902001 := n1_
                  have HO_908001 := n2_
                  have HO927 := n3_
                  have BK895 := n4_
                  have BK901 := n5_
                  have BK907 := n6_
                  have HB := n7_
                  clear n0_ n1_ n2_ n3_ n4_ n5_ n6_ n7_
                  (try clear hb)
                  (try clear hb2)
                  (try clear hk)
                  (try clear hi)
                  (try clear ho0)
                  refine hK.out _ _ ⟨(blk_cell BK907.out 0).trans rfl, (blk_cell BK907.out 1).trans rfl, (blk_cell BK895.out 0).trans rfl, (blk_cell BK895.out 1).trans rfl, (blk_cell BK901.out 0).trans rfl, (blk_cell BK901.out 1).trans rfl⟩ (fun hHeld => ?_)
                  clear hK K
                  refine norm_ (a' := ?_) ?_ ?_
                  rotate_left
                  · show Act.put _ (some 73) _ = _
                    simp only [Act.put, List.setIfInBounds_toArray, List.set_cons_zero, List.set_cons_succ, i64_w, i32_w]
                    rfl
                  refine one_ (i := 9) (N := some 76) #[true, true, true, true, true, true, true, true, true, true, false, true, false, false] rfl rfl (one_of HT_.out (by kernel_rfl)) (by decide) (fun K hK => ?_)
                  refine goes_ Tryd.func25 (by kernel_rfl) rfl #[.agg #[.bool t896, .slice Ao32 t897.length co32], .agg #[.bool t902, .slice Ao38 t903.length co38]] (by rfl) rfl rfl (by (try simp only [List.map_toArray, List.map_cons, List.map_nil]); first | done | rfl | (simp only [List.length_drop, List.length_take]; rfl)) ?_
                  with_reducible refine (integer_Mul.calls kj22 t896 _ _ t897 t902 _ _ t903 t928 t929 _ ?side1 ?side2 ?side3 ?side4 A66.out).mono ?_
                  (case side1 => repeat (first | exact (Kd.V_reads' HO_902001.out).2.2 | (with_reducible refine Kd.C_alloc ?_ _) | (with_reducible refine Kd.C_drewN ?_ _) | (with_reducible refine Kd.C_drew ?_)))
                  (case side2 => exact (Kd.V_reads' HO_902001.out).2.1)
                  (case side3 => repeat (first | exact (Kd.V_reads' HO_908001.out).2.2 | (with_reducible refine Kd.C_alloc ?_ _) | (with_reducible refine Kd.C_drewN ?_ _) | (with_reducible refine Kd.C_drew ?_)))
                  (case side4 => exact (Kd.V_reads' HO_908001.out).2.1)
                  rintro e w71 ⟨v930, rfl, ho0, hb⟩
                  refine ⟨_, rfl, ?_⟩
                  have n0_ := Aside0.mk (Kd.V_below (by (with_reducible repeat (first | apply Kd.V_alloc | apply Kd.V_drewN | apply Kd.V_drew)); exact HO_896001.out) hb)
                  have n1_ := Aside0.mk (Kd.V_below (by (with_reducible repeat (first | apply Kd.V_alloc | apply Kd.V_drewN | apply Kd.V_drew)); exact HO_902001.out) hb)
                  have n2_ := Aside0.mk (Kd.V_below (by (with_reducible repeat (first | apply Kd.V_alloc | apply Kd.V_drewN | apply Kd.V_drew)); exact HO_908001.out) hb)
                  have n3_ := Aside0.mk (Kd.V_below (by (with_reducible repeat (first | apply Kd.V_alloc | apply Kd.V_drewN | apply Kd.V_drew)); exact HO927.out) hb)
                  have n4_ := Aside0.mk (Kd.V_lower (Kd.V_mono (ok' := fun k_ => k_ ≠ gb895 ∧ k_ ≠ gb901 ∧ k_ ≠ gb907) ho0 (fun k_ hk_ => ⟨(Kd.freshB (g := gb895) (o := .cells #[.bool t890, .slice Ao27 t891.length co27] 25 (0, 0)) (by (with_reducible repeat (first | refine blk_drewN ?_ _ | refine blk_drew ?_ | refine blk_alloc ?_ _)); exact BK895.out) k_ hk_), (Kd.freshB (g := gb901) (o := .cells #[.bool t896, .slice Ao32 t897.length co32] 25 (0, 0)) (by (with_reducible repeat (first | refine blk_drewN ?_ _ | refine blk_drew ?_ | refine blk_alloc ?_ _)); exact BK901.out) k_ hk_), (Kd.freshB (g := gb907) (o := .cells #[.bool t902, .slice Ao38 t903.length co38] 25 (0, 0)) (by (with_reducible repeat (first | refine blk_drewN ?_ _ | refine blk_drew ?_ | refine blk_alloc ?_ _)); exact BK907.out) k_ hk_)⟩)) (below_size (by repeat (first | (with_reducible first | exact HB.out | apply below_alloc | apply pw_below_drewN | apply below_drew1 | refine below_set ?_ GE895.out | refine below_set ?_ GE901.out | refine below_set ?_ GE907.out) | exact HB.out))))
                  have n5_ := Aside0.mk (blk_below (g := gb895) (o := .cells #[.bool t890, .slice Ao27 t891.length co27] 25 (0, 0)) (by (with_reducible repeat (first | refine blk_drewN ?_ _ | refine blk_drew ?_ | refine blk_alloc ?_ _)); exact BK895.out) hb)
                  have n6_ := Aside0.mk (blk_below (g := gb901) (o := .cells #[.bool t896, .slice Ao32 t897.length co32] 25 (0, 0)) (by (with_reducible repeat (first | refine blk_drewN ?_ _ | refine blk_drew ?_ | refine blk_alloc ?_ _)); exact BK901.out) hb)
                  have n7_ := Aside0.mk (blk_below (g := gb907) (o := .cells #[.bool t902, .slice Ao38 t903.length co38] 25 (0, 0)) (by (with_reducible repeat (first | refine blk_drewN ?_ _ | refine blk_drew ?_ | refine blk_alloc ?_ _)); exact BK907.out) hb)
                  have n8_ := Aside0.mk (below_step (by repeat (first | (with_reducible first | exact HB.out | apply below_alloc | apply pw_below_drewN | apply below_drew1 | refine below_set ?_ GE895.out | refine below_set ?_ GE901.out | refine below_set ?_ GE907.out) | exact HB.out)) hb)
                  clear HO_896001
                  clear HO_902001
                  clear HO_908001
                  clear HO927
                  clear BK895
                  clear BK901
                  clear BK907
                  clear HB
                  have HO_896001 := n0_
                  have HO_902001 := n1_
                  have HO_908001 := n2_
                  have HO927 := n3_
                  have HO931 := n4_
                  have BK895 := n5_
                  have BK901 := n6_
                  have BK907 := n7_
                  have HB := n8_
                  clear n0_ n1_ n2_ n3_ n4_ n5_ n6_ n7_ n8_
                  (try clear hb)
                  (try clear hb2)
                  (try clear hk)
                  (try clear hi)
                  (try clear ho0)
                  obtain ⟨Ao72, co72, eo72⟩ := Kd.V_slice HO927.out
                  (first | subst eo72 | (injection eo72 with f1_ f2_ f3_; have f4_ := f1_.symm; have f5_ := f3_.symm; clear f1_ f2_ f3_; subst f4_; subst f5_))
                  obtain ⟨Ao73, co73, eo73⟩ := Kd.V_slice HO931.out
                  (first | subst eo73 | (injection eo73 with f1_ f2_ f3_; have f4_ := f1_.symm; have f5_ := f3_.symm; clear f1_ f2_ f3_; subst f4_; subst f5_))
                  refine hK.out _ _ ⟨(blk_cell BK907.out 0).trans rfl, (blk_cell BK907.out 1).trans rfl, (blk_cell BK895.out 0).trans rfl, (blk_cell BK895.out 1).trans rfl, (blk_cell BK901.out 0).trans rfl, (blk_cell BK901.out 1).trans rfl⟩ (fun hHeld => ?_)
                  clear hK K
                  refine norm_ (a' := ?_) ?_ ?_
                  rotate_left
                  · show Act.put _ (some 76) _ = _
                    simp only [Act.put, List.setIfInBounds_toArray, List.set_cons_zero, List.set_cons_succ, i64_w, i32_w]
                    rfl
                  refine one_ (i := 10) (N := some 77) #[true, true, true, true, true, true, true, true, true, true, true, true, false, false] rfl rfl (one_of HT_.out (by kernel_rfl)) (by decide) (fun K hK => ?_)
                  refine goes_ Tryd.func20 (by kernel_rfl) rfl #[.agg #[.bool t924, .slice Ao72 t925.length co72], .agg #[.bool t928, .slice Ao73 t929.length co73]] (by rfl) rfl rfl (by (try simp only [List.map_toArray, List.map_cons, List.map_nil]); first | done | rfl | (simp only [List.length_drop, List.length_take]; rfl)) ?_
                  with_reducible refine (integer_Compare.calls kj22 t924 _ _ t925 t928 _ _ t929 t932 _ ?side1 ?side2 ?side3 ?side4 A67.out).mono ?_
                  (case side1 => repeat (first | exact (Kd.V_reads' HO927.out).2.2 | (with_reducible refine Kd.C_alloc ?_ _) | (with_reducible refine Kd.C_drewN ?_ _) | (with_reducible refine Kd.C_drew ?_)))
                  (case side2 => exact (Kd.V_reads' HO927.out).2.1)
                  (case side3 => repeat (first | exact (Kd.V_reads' HO931.out).2.2 | (with_reducible refine Kd.C_alloc ?_ _) | (with_reducible refine Kd.C_drewN ?_ _) | (with_reducible refine Kd.C_drew ?_)))
                  (case side4 => exact (Kd.V_reads' HO931.out).2.1)
                  rintro e w74 ⟨rfl, hb⟩
                  refine ⟨_, rfl, ?_⟩
                  have n0_ := Aside0.mk (Kd.V_below (by (with_reducible repeat (first | apply Kd.V_alloc | apply Kd.V_drewN | apply Kd.V_drew)); exact HO_896001.out) hb)
                  have n1_ := Aside0.mk (Kd.V_below (by (with_reducible repeat (first | apply Kd.V_alloc | apply Kd.V_drewN | apply Kd.V_drew)); exact HO_902001.out) hb)
                  have n2_ := Aside0.mk (Kd.V_below (by (with_reducible repeat (first | apply Kd.V_alloc | apply Kd.V_drewN | apply Kd.V_drew)); exact HO_908001.out) hb)
                  have n3_ := Aside0.mk (Kd.V_below (by (with_reducible repeat (first | apply Kd.V_alloc | apply Kd.V_drewN | apply Kd.V_drew)); exact HO927.out) hb)
                  have n4_ := Aside0.mk (Kd.V_below (by (with_reducible repeat (first | apply Kd.V_alloc | apply Kd.V_drewN | apply Kd.V_drew)); exact HO931.out) hb)
                  have n5_ := Aside0.mk (blk_below (g := gb895) (o := .cells #[.bool t890, .slice Ao27 t891.length co27] 25 (0, 0)) (by (with_reducible repeat (first | refine blk_drewN ?_ _ | refine blk_drew ?_ | refine blk_alloc ?_ _)); exact BK895.out) hb)
                  have n6_ := Aside0.mk (blk_below (g := gb901) (o := .cells #[.bool t896, .slice Ao32 t897.length co32] 25 (0, 0)) (by (with_reducible repeat (first | refine blk_drewN ?_ _ | refine blk_drew ?_ | refine blk_alloc ?_ _)); exact BK901.out) hb)
                  have n7_ := Aside0.mk (blk_below (g := gb907) (o := .cells #[.bool t902, .slice Ao38 t903.length co38] 25 (0, 0)) (by (with_reducible repeat (first | refine blk_drewN ?_ _ | refine blk_drew ?_ | refine blk_alloc ?_ _)); exact BK907.out) hb)
                  have n8_ := Aside0.mk (below_step (by repeat (first | (with_reducible first | exact HB.out | apply below_alloc | apply pw_below_drewN | apply below_drew1 | refine below_set ?_ GE895.out | refine below_set ?_ GE901.out | refine below_set ?_ GE907.out) | exact HB.out)) hb)
                  clear HO_896001
                  clear HO_902001
                  clear HO_908001
                  clear HO927
                  clear HO931
                  clear BK895
                  clear BK901
                  clear BK907
                  clear HB
                  have HO_896001 := n0_
                  have HO_902001 := n1_
                  have HO_908001 := n2_
                  have HO927 := n3_
                  have HO931 := n4_
                  have BK895 := n5_
                  have BK901 := n6_
                  have BK907 := n7_
                  have HB := n8_
                  clear n0_ n1_ n2_ n3_ n4_ n5_ n6_ n7_ n8_
                  (try clear hb)
                  (try clear hb2)
                  (try clear hk)
                  (try clear hi)
                  refine hK.out _ _ ⟨(blk_cell BK907.out 0).trans rfl, (blk_cell BK907.out 1).trans rfl, (blk_cell BK895.out 0).trans rfl, (blk_cell BK895.out 1).trans rfl, (blk_cell BK901.out 0).trans rfl, (blk_cell BK901.out 1).trans rfl⟩ (fun hHeld => ?_)
                  clear hK K
                  refine norm_ (a' := ?_) ?_ ?_
                  rotate_left
                  · show Act.put _ (some 77) _ = _
                    simp only [Act.put, List.setIfInBounds_toArray, List.set_cons_zero, List.set_cons_succ, i64_w, i32_w]
                    rfl
                  refine pure_ (i := 12) (N := some 79) (v := ?_) (a' := ?_) #[true, true, true, true, true, true, true, true, true, true, true, true, true, false] rfl rfl (any_of HT_.out (by kernel_rfl)) (fun _ _ _ h => h) (Or.inl ⟨by rfl, ?_⟩) ?_ ?_
                  rotate_left
                  · intro w'
                    go_simp
                    with_reducible rfl
                  rotate_left
                  · simp only [Act.put, List.setIfInBounds_toArray, List.set_cons_zero, List.set_cons_succ, i64_w, i32_w]
                    rfl
                  refine pure_ (i := 13) (N := some 80) (v := ?_) (a' := ?_) #[true, true, true, true, true, true, true, true, true, true, true, true, true, true] rfl rfl (any_of HT_.out (by kernel_rfl)) (fun _ _ _ h => h) (Or.inl ⟨by rfl, ?_⟩) ?_ ?_
                  rotate_left
                  · intro w'
                    go_simp
                    with_reducible rfl
                  rotate_left
                  · simp only [Act.put, List.setIfInBounds_toArray, List.set_cons_zero, List.set_cons_succ, i64_w, i32_w]
                    rfl
                  refine done_ (done_of HT_.out (by kernel_rfl)) ?_
                  try go_wp2
                  go_meet
                  case rel => exact ⟨_, ((t932 != t908)), (by first | rfl | (simp; done) | (simp [*]; done)), H', ⟨by have := HJ3.out; have := HJ22.out; first | omega | exact Nat.le_refl _⟩, ⟨by (with_reducible repeat (first | apply Kd.V_alloc | apply Kd.V_drewN | apply Kd.V_drew)); exact HO_896001.out⟩, ⟨by (with_reducible repeat (first | apply Kd.V_alloc | apply Kd.V_drewN | apply Kd.V_drew)); exact HO_902001.out⟩, ⟨by (with_reducible repeat (first | apply Kd.V_alloc | apply Kd.V_drewN | apply Kd.V_drew)); exact HO_908001.out⟩, ⟨by (with_reducible repeat (first | refine blk_drewN ?_ _ | refine blk_drew ?_ | refine blk_alloc ?_ _)); exact BK895.out⟩, ⟨by (with_reducible repeat (first | refine blk_drewN ?_ _ | refine blk_drew ?_ | refine blk_alloc ?_ _)); exact BK901.out⟩, ⟨by (with_reducible repeat (first | refine blk_drewN ?_ _ | refine blk_drew ?_ | refine blk_alloc ?_ _)); exact BK907.out⟩, ⟨by repeat (first | (with_reducible first | exact HB.out | apply below_alloc | apply pw_below_drewN | apply below_drew1 | refine below_set ?_ GE895.out | refine below_set ?_ GE901.out | refine below_set ?_ GE907.out) | exact HB.out)⟩⟩
                · rw [if_neg c64] at H
                  have c64b0 : decide (0 < t923) = false := decide_eq_false c64
                  clear c64
                  (first | rw [c64b0] | (simp only [i64_w, i32_w]; rw [c64b0]) | skip)
                  have H' := Aside0.mk H
                  clear H
                  try go_wp2
                  have n0_ := Aside0.mk (Kd.V_drew HO_896001.out)
                  have n1_ := Aside0.mk (Kd.V_drew HO_902001.out)
                  have n2_ := Aside0.mk (Kd.V_drew HO_908001.out)
                  have n3_ := Aside0.mk (blk_drew BK895.out)
                  have n4_ := Aside0.mk (blk_drew BK901.out)
                  have n5_ := Aside0.mk (blk_drew BK907.out)
                  have n6_ := Aside0.mk (below_drew1 HB.out)
                  clear HO_896001
                  clear HO_902001
                  clear HO_908001
                  clear BK895
                  clear BK901
                  clear BK907
                  clear HB
                  have HO_896001 := n0_
                  have HO_902001 := n1_
                  have HO_908001 := n2_
                  have BK895 := n3_
                  have BK901 := n4_
                  have BK907 := n5_
                  have HB := n6_
                  clear n0_ n1_ n2_ n3_ n4_ n5_ n6_
                  refine start_ (n := 14) (S := fun w' => w'.cell? ⟨gb907, 0, none⟩ = some (.bool t902) ∧ w'.cell? ⟨gb907, 1, none⟩ = some (.slice Ao38 t903.length co38)) (ds := []) #[false, false, false, false, false, false, false, false, false, false, false, false, false, false] (by kernel_rfl) rfl rfl ⟨(blk_cell BK907.out 0).trans rfl, (blk_cell BK907.out 1).trans rfl⟩ (fun hHeld => ?_); refine with_tabW dowellaw01_IntegerOrder.tab9 dowellaw01_IntegerOrder.bits9 (fun HT_ HW_ => ?_)
                  generalize wc.drew = w75 at HO_896001 HO_902001 HO_908001 BK895 BK901 BK907 HB hHeld ⊢
                  refine take_ (i := 0) (N := some 67) (v := ?_) (a' := ?_) #[true, false, false, false, false, false, false, false, false, false, false, false, false, false] rfl rfl (take_ofW HT_.out HW_.out (by kernel_rfl)) (fun _ _ _ h => h) (Or.inl ⟨by rfl, ?_⟩) hHeld ?_ ?_
                  rotate_left
                  · rintro w' ⟨s0, s1⟩
                    go_simp
                    with_reducible rfl
                  rotate_left
                  · simp only [Act.put, List.setIfInBounds_toArray, List.set_cons_zero, List.set_cons_succ, i64_w, i32_w]
                    rfl
                  refine one_ (i := 1) (N := some 68) #[true, true, false, false, false, false, false, false, false, false, false, false, false, false] rfl rfl (one_of HT_.out (by kernel_rfl)) (by decide) (fun K hK => ?_)
                  refine goes_ Tryd.func19 (by kernel_rfl) rfl #[.agg #[.bool t902, .slice Ao38 t903.length co38]] (by rfl) rfl rfl (by (try simp only [List.map_toArray, List.map_cons, List.map_nil]); first | done | rfl | (simp only [List.length_drop, List.length_take]; rfl)) ?_
                  with_reducible refine (integer_Int_Sign.calls t902 _ _ t903 t923 _ ?side1 ?side2 A63.out).mono ?_
                  (case side1 => repeat (first | exact (Kd.V_reads' HO_908001.out).2.2 | (with_reducible refine Kd.C_alloc ?_ _) | (with_reducible refine Kd.C_drewN ?_ _) | (with_reducible refine Kd.C_drew ?_)))
                  (case side2 => exact (Kd.V_reads' HO_908001.out).2.1)
                  rintro e w76 ⟨rfl, hb⟩
                  refine ⟨_, rfl, ?_⟩
                  have n0_ := Aside0.mk (Kd.V_below (by (with_reducible repeat (first | apply Kd.V_alloc | apply Kd.V_drewN | apply Kd.V_drew)); exact HO_896001.out) hb)
                  have n1_ := Aside0.mk (Kd.V_below (by (with_reducible repeat (first | apply Kd.V_alloc | apply Kd.V_drewN | apply Kd.V_drew)); exact HO_902001.out) hb)
                  have n2_ := Aside0.mk (Kd.V_below (by (with_reducible repeat (first | apply Kd.V_alloc | apply Kd.V_drewN | apply Kd.V_drew)); exact HO_908001.out) hb)
                  have n3_ := Aside0.mk (blk_below (g := gb895) (o := .cells #[.bool t890, .slice Ao27 t891.length co27] 25 (0, 0)) (by (with_reducible repeat (first | refine blk_drewN ?_ _ | refine blk_drew ?_ | refine blk_alloc ?_ _)); exact BK895.out) hb)
                  have n4_ := Aside0.mk (blk_below (g := gb901) (o := .cells #[.bool t896, .slice Ao32 t897.length co32] 25 (0, 0)) (by (with_reducible repeat (first | refine blk_drewN ?_ _ | refine blk_drew ?_ | refine blk_alloc ?_ _)); exact BK901.out) hb)
                  have n5_ := Aside0.mk (blk_below (g := gb907) (o := .cells #[.bool t902, .slice Ao38 t903.length co38] 25 (0, 0)) (by (with_reducible repeat (first | refine blk_drewN ?_ _ | refine blk_drew ?_ | refine blk_alloc ?_ _)); exact BK907.out) hb)
                  have n6_ := Aside0.mk (below_step (by repeat (first | (with_reducible first | exact HB.out | apply below_alloc | apply pw_below_drewN | apply below_drew1 | refine below_set ?_ GE895.out | refine below_set ?_ GE901.out | refine below_set ?_ GE907.out) | exact HB.out)) hb)
                  clear HO_896001
                  clear HO_902001
                  clear HO_908001
                  clear BK895
                  clear BK901
                  clear BK907
                  clear HB
                  have HO_896001 := n0_
                  have HO_902001 := n1_
                  have HO_908001 := n2_
                  have BK895 := n3_
                  have BK901 := n4_
                  have BK907 := n5_
                  have HB := n6_
                  clear n0_ n1_ n2_ n3_ n4_ n5_ n6_
                  (try clear hb)
                  (try clear hb2)
                  (try clear hk)
                  (try clear hi)
                  refine hK.out _ _ ⟨(blk_cell BK907.out 0).trans rfl, (blk_cell BK907.out 1).trans rfl⟩ (fun hHeld => ?_)
                  clear hK K
                  refine norm_ (a' := ?_) ?_ ?_
                  rotate_left
                  · show Act.put _ (some 68) _ = _
                    simp only [Act.put, List.setIfInBounds_toArray, List.set_cons_zero, List.set_cons_succ, i64_w, i32_w]
                    rfl
                  refine pure_ (i := 2) (N := some 69) (v := ?_) (a' := ?_) #[true, true, true, false, false, false, false, false, false, false, false, false, false, false] rfl rfl (any_of HT_.out (by kernel_rfl)) (fun _ _ _ h => h) (Or.inl ⟨by rfl, ?_⟩) ?_ ?_
                  rotate_left
                  · intro w'
                    go_simp
                    with_reducible rfl
                  rotate_left
                  · simp only [Act.put, List.setIfInBounds_toArray, List.set_cons_zero, List.set_cons_succ, i64_w, i32_w]
                    rfl
                  refine pure_ (i := 3) (N := some 70) (v := ?_) (a' := ?_) #[true, true, true, true, false, false, false, false, false, false, false, false, false, false] rfl rfl (any_of HT_.out (by kernel_rfl)) (fun _ _ _ h => h) (Or.inl ⟨by rfl, ?_⟩) ?_ ?_
                  rotate_left
                  · intro w'
                    go_simp
                    with_reducible rfl
                  rotate_left
                  · simp only [Act.put, List.setIfInBounds_toArray, List.set_cons_zero, List.set_cons_succ, i64_w, i32_w]
                    rfl
                  refine pure_ (i := 4) (N := some 71) (v := undef) (a' := ?_) #[true, true, true, true, true, false, false, false, false, false, false, false, false, false] rfl rfl (any_of HT_.out (by kernel_rfl)) (fun _ _ _ h => h) (Or.inr ⟨by rfl, rfl⟩) ?_ ?_
                  rotate_left
                  · simp only [Act.put, List.setIfInBounds_toArray, List.set_cons_zero, List.set_cons_succ, i64_w, i32_w]
                    rfl
                  refine pure_ (i := 5) (N := some 72) (v := undef) (a' := ?_) #[true, true, true, true, true, true, false, false, false, false, false, false, false, false] rfl rfl (any_of HT_.out (by kernel_rfl)) (fun _ _ _ h => h) (Or.inr ⟨by rfl, rfl⟩) ?_ ?_
                  rotate_left
                  · simp only [Act.put, List.setIfInBounds_toArray, List.set_cons_zero, List.set_cons_succ, i64_w, i32_w]
                    rfl
                  refine pure_ (i := 6) (N := some 73) (v := undef) (a' := ?_) #[true, true, true, true, true, true, true, false, false, false, false, false, false, false] rfl rfl (any_of HT_.out (by kernel_rfl)) (fun _ _ _ h => h) (Or.inr ⟨by rfl, rfl⟩) ?_ ?_
                  rotate_left
                  · simp only [Act.put, List.setIfInBounds_toArray, List.set_cons_zero, List.set_cons_succ, i64_w, i32_w]
                    rfl
                  refine pure_ (i := 7) (N := some 74) (v := undef) (a' := ?_) #[true, true, true, true, true, true, true, true, false, false, false, false, false, false] rfl rfl (any_of HT_.out (by kernel_rfl)) (fun _ _ _ h => h) (Or.inr ⟨by rfl, rfl⟩) ?_ ?_
                  rotate_left
                  · simp only [Act.put, List.setIfInBounds_toArray, List.set_cons_zero, List.set_cons_succ, i64_w, i32_w]
                    rfl
                  refine pure_ (i := 8) (N := some 75) (v := undef) (a' := ?_) #[true, true, true, true, true, true, true, true, true, false, false, false, false, false] rfl rfl (any_of HT_.out (by kernel_rfl)) (fun _ _ _ h => h) (Or.inr ⟨by rfl, rfl⟩) ?_ ?_
                  rotate_left
                  · simp only [Act.put, List.setIfInBounds_toArray, List.set_cons_zero, List.set_cons_succ, i64_w, i32_w]
                    rfl
                  refine pure_ (i := 9) (N := some 76) (v := undef) (a' := ?_) #[true, true, true, true, true, true, true, true, true, true, false, false, false, false] rfl rfl (any_of HT_.out (by kernel_rfl)) (fun _ _ _ h => h) (Or.inr ⟨by rfl, rfl⟩) ?_ ?_
                  rotate_left
                  · simp only [Act.put, List.setIfInBounds_toArray, List.set_cons_zero, List.set_cons_succ, i64_w, i32_w]
                    rfl
                  refine pure_ (i := 10) (N := some 77) (v := undef) (a' := ?_) #[true, true, true, true, true, true, true, true, true, true, true, false, false, false] rfl rfl (any_of HT_.out (by kernel_rfl)) (fun _ _ _ h => h) (Or.inr ⟨by rfl, rfl⟩) ?_ ?_
                  rotate_left
                  · simp only [Act.put, List.setIfInBounds_toArray, List.set_cons_zero, List.set_cons_succ, i64_w, i32_w]
                    rfl
                  refine pure_ (i := 11) (N := some 78) (v := undef) (a' := ?_) #[true, true, true, true, true, true, true, true, true, true, true, true, false, false] rfl rfl (any_of HT_.out (by kernel_rfl)) (fun _ _ _ h => h) (Or.inr ⟨by rfl, rfl⟩) ?_ ?_
                  rotate_left
                  · simp only [Act.put, List.setIfInBounds_toArray, List.set_cons_zero, List.set_cons_succ, i64_w, i32_w]
                    rfl
                  refine pure_ (i := 12) (N := some 79) (v := undef) (a' := ?_) #[true, true, true, true, true, true, true, true, true, true, true, true, true, false] rfl rfl (any_of HT_.out (by kernel_rfl)) (fun _ _ _ h => h) (Or.inr ⟨by rfl, rfl⟩) ?_ ?_
                  rotate_left
                  · simp only [Act.put, List.setIfInBounds_toArray, List.set_cons_zero, List.set_cons_succ, i64_w, i32_w]
                    rfl
                  refine pure_ (i := 13) (N := some 80) (v := ?_) (a' := ?_) #[true, true, true, true, true, true, true, true, true, true, true, true, true, true] rfl rfl (any_of HT_.out (by kernel_rfl)) (fun _ _ _ h => h) (Or.inl ⟨by rfl, ?_⟩) ?_ ?_
                  rotate_left
                  · intro w'
                    go_simp
                    with_reducible rfl
                  rotate_left
                  · simp only [Act.put, List.setIfInBounds_toArray, List.set_cons_zero, List.set_cons_succ, i64_w, i32_w]
                    rfl
                  refine done_ (done_of HT_.out (by kernel_rfl)) ?_
                  try go_wp2
                  go_meet
                  case rel => exact ⟨_, (false), (by first | rfl | (simp; done) | (simp [*]; done)), H', ⟨by have := HJ3.out; have := HJ22.out; first | omega | exact Nat.le_refl _⟩, ⟨by (with_reducible repeat (first | apply Kd.V_alloc | apply Kd.V_drewN | apply Kd.V_drew)); exact HO_896001.out⟩, ⟨by (with_reducible repeat (first | apply Kd.V_alloc | apply Kd.V_drewN | apply Kd.V_drew)); exact HO_902001.out⟩, ⟨by (with_reducible repeat (first | apply Kd.V_alloc | apply Kd.V_drewN | apply Kd.V_drew)); exact HO_908001.out⟩, ⟨by (with_reducible repeat (first | refine blk_drewN ?_ _ | refine blk_drew ?_ | refine blk_alloc ?_ _)); exact BK895.out⟩, ⟨by (with_reducible repeat (first | refine blk_drewN ?_ _ | refine blk_drew ?_ | refine blk_alloc ?_ _)); exact BK901.out⟩, ⟨by (with_reducible repeat (first | refine blk_drewN ?_ _ | refine blk_drew ?_ | refine blk_alloc ?_ _)); exact BK907.out⟩, ⟨by repeat (first | (with_reducible first | exact HB.out | apply below_alloc | apply pw_below_drewN | apply below_drew1 | refine below_set ?_ GE895.out | refine below_set ?_ GE901.out | refine below_set ?_ GE907.out) | exact HB.out)⟩⟩
              case rest =>
                clear HC62
                try clear c1
                try clear c2
                try clear p2
                try clear c3
                try clear c4
                try clear c6
                try clear c19
                try clear c20
                try clear c25
                try clear c35
                try clear c37
                try clear c44
                try clear c44b0
                try clear c44b1
                try clear c61
                try clear c64
                try clear c64b0
                try clear p2
                obtain ⟨kq, x80_61, rfl, HA, HJ61, HO_896001, HO_902001, HO_908001, BK895, BK901, BK907, HB⟩ := hcut
                cases kq with
                | zero => exact absurd HA.out (by simp [dowellaw01_IntegerOrder.j2])
                | succ kj61 =>
                  have H := HA.out
                  clear HA
                  simp only [dowellaw01_IntegerOrder.j2] at H
                  by_cases c77 : x80_61 = true
                  · subst c77
                    have H1 : (none) = some r := by rw [if_pos rfl] at H; exact H
                    clear H
                    have H := H1
                    clear H1
                    exact absurd H (by simp)
                  · replace c77 := Bool.eq_false_iff.mpr c77
                    subst c77
                    have H1 : (if t908 > 0 then (some true) else ((integer_Compare.f kj61 t896 t897 t902 t903).bind fun t933 => (if t933 > 0 then (some true) else ((integer_Compare.f kj61 t890 t891 t902 t903).bind fun t934 => (some (decide (t934 ≤ 0))))))) = some r := by rw [if_neg (show ¬ (false = true) by decide)] at H; exact H
                    clear H
                    have H := H1
                    clear H1
                    by_cases c78 : t908 > 0
                    · rw [if_pos c78] at H
                      have c78b0 : decide (0 < t908) = true := decide_eq_true c78
                      clear c78
                      obtain rfl := Option.some.inj H
                      go_wp2
                      go_ret
                      exact ⟨by first | rfl | (simp [errW_none, errW_some] <;> rfl) | (simp [*, errW_none, errW_some] <;> rfl), by repeat (first | (with_reducible first | exact HB.out | apply below_alloc | apply pw_below_drewN | apply below_drew1 | refine below_set ?_ GE895.out | refine below_set ?_ GE901.out | refine below_set ?_ GE907.out) | exact HB.out)⟩
                    · rw [if_neg c78] at H
                      have c78b0 : decide (0 < t908) = false := decide_eq_false c78
                      clear c78
                      replace H := Option.bind_eq_some_iff.mp H
                      obtain ⟨t933, A790, H⟩ := H
                      replace H : (if t933 > 0 then (some true) else ((integer_Compare.f kj61 t890 t891 t902 t903).bind fun t934 => (some (decide (t934 ≤ 0))))) = some r := H
                      have A79 := Aside0.mk A790
                      clear A790
                      by_cases c80 : t933 > 0
                      · rw [if_pos c80] at H
                        have c80b0 : decide (0 < t933) = true := decide_eq_true c80
                        clear c80
                        obtain rfl := Option.some.inj H
                        have hnb81 := NB901_895.out
                        have hnc81 := NB895_901.out
                        have hnb82 := NB901_907.out
                        have hnc82 := NB907_901.out
                        have hcz83_0 : wc.cell? ⟨gb901, 0, none⟩ = some (.bool t896) := (blk_cell BK901.out 0).trans rfl
                        have hcz83_1 : wc.cell? ⟨gb901, 1, none⟩ = some (.slice Ao32 t897.length co32) := (blk_cell BK901.out 1).trans rfl
                        have hfz83_0 := blk_frozen BK901.out 0
                        have hfz83_1 := blk_frozen BK901.out 1
                        have hnb84 := NB907_895.out
                        have hnc84 := NB895_907.out
                        have hcz85_0 : wc.cell? ⟨gb907, 0, none⟩ = some (.bool t902) := (blk_cell BK907.out 0).trans rfl
                        have hcz85_1 : wc.cell? ⟨gb907, 1, none⟩ = some (.slice Ao38 t903.length co38) := (blk_cell BK907.out 1).trans rfl
                        have hfz85_0 := blk_frozen BK907.out 0
                        have hfz85_1 := blk_frozen BK907.out 1
                        go_wp2_with (first | (go_at_call 20; (with_reducible refine (integer_Compare.calls kj61 t896 _ _ t897 t902 _ _ t903 t933 _ ?side1 ?side2 ?side3 ?side4 A79.out).mono ?_); (case side1 => repeat (first | exact (Kd.V_reads' HO_902001.out).2.2 | (with_reducible refine Kd.C_alloc ?_ _) | (with_reducible refine Kd.C_drewN ?_ _) | (with_reducible refine Kd.C_drew ?_))); (case side2 => exact (Kd.V_reads' HO_902001.out).2.1); (case side3 => repeat (first | exact (Kd.V_reads' HO_908001.out).2.2 | (with_reducible refine Kd.C_alloc ?_ _) | (with_reducible refine Kd.C_drewN ?_ _) | (with_reducible refine Kd.C_drew ?_))); (case side4 => exact (Kd.V_reads' HO_908001.out).2.1); rintro e w86 ⟨rfl, hb⟩; have n0_ := Aside0.mk (Kd.V_below (by (with_reducible repeat (first | apply Kd.V_alloc | apply Kd.V_drewN | apply Kd.V_drew)); exact HO_896001.out) hb); have n1_ := Aside0.mk (Kd.V_below (by (with_reducible repeat (first | apply Kd.V_alloc | apply Kd.V_drewN | apply Kd.V_drew)); exact HO_902001.out) hb); have n2_ := Aside0.mk (Kd.V_below (by (with_reducible repeat (first | apply Kd.V_alloc | apply Kd.V_drewN | apply Kd.V_drew)); exact HO_908001.out) hb); have n3_ := Aside0.mk (blk_below (g := gb895) (o := .cells #[.bool t890, .slice Ao27 t891.length co27] 25 (0, 0)) (by (with_reducible repeat (first | refine blk_drewN ?_ _ | refine blk_drew ?_ | refine blk_alloc ?_ _)); exact BK895.out) hb); have n4_ := Aside0.mk (blk_below (g := gb901) (o := .cells #[.bool t896, .slice Ao32 t897.length co32] 25 (0, 0)) (by (with_reducible repeat (first | refine blk_drewN ?_ _ | refine blk_drew ?_ | refine blk_alloc ?_ _)); exact BK901.out) hb); have n5_ := Aside0.mk (blk_below (g := gb907) (o := .cells #[.bool t902, .slice Ao38 t903.length co38] 25 (0, 0)) (by (with_reducible repeat (first | refine blk_drewN ?_ _ | refine blk_drew ?_ | refine blk_alloc ?_ _)); exact BK907.out) hb); have n6_ := Aside0.mk (below_step (by repeat (first | (with_reducible first | exact HB.out | apply below_alloc | apply pw_below_drewN | apply below_drew1 | refine below_set ?_ GE895.out | refine below_set ?_ GE901.out | refine below_set ?_ GE907.out) | exact HB.out)) hb); clear HO_896001; clear HO_902001; clear HO_908001; clear BK895; clear BK901; clear BK907; clear HB; have HO_896001 := n0_; have HO_902001 := n1_; have HO_908001 := n2_; have BK895 := n3_; have BK901 := n4_; have BK907 := n5_; have HB := n6_; clear n0_ n1_ n2_ n3_ n4_ n5_ n6_; (try clear hb); (try clear hb2); (try clear hk); (try clear hi)))
                        go_ret
                        exact ⟨by first | rfl | (simp [errW_none, errW_some] <;> rfl) | (simp [*, errW_none, errW_some] <;> rfl), by repeat (first | (with_reducible first | exact HB.out | apply below_alloc | apply pw_below_drewN | apply below_drew1 | refine below_set ?_ GE895.out | refine below_set ?_ GE901.out | refine below_set ?_ GE907.out) | exact HB.out)⟩
                      · rw [if_neg c80] at H
                        have c80b0 : decide (0 < t933) = false := decide_eq_false c80
                        clear c80
                        replace H := Option.bind_eq_some_iff.mp H
                        obtain ⟨t934, A870, H⟩ := H
                        replace H : (some (decide (t934 ≤ 0))) = some r := H
                        have A87 := Aside0.mk A870
                        clear A870
                        obtain rfl := Option.some.inj H
                        have hnb88 := NB901_895.out
                        have hnc88 := NB895_901.out
                        have hnb89 := NB901_907.out
                        have hnc89 := NB907_901.out
                        have hcz90_0 : wc.cell? ⟨gb901, 0, none⟩ = some (.bool t896) := (blk_cell BK901.out 0).trans rfl
                        have hcz90_1 : wc.cell? ⟨gb901, 1, none⟩ = some (.slice Ao32 t897.length co32) := (blk_cell BK901.out 1).trans rfl
                        have hfz90_0 := blk_frozen BK901.out 0
                        have hfz90_1 := blk_frozen BK901.out 1
                        have hnb91 := NB907_895.out
                        have hnc91 := NB895_907.out
                        have hcz92_0 : wc.cell? ⟨gb907, 0, none⟩ = some (.bool t902) := (blk_cell BK907.out 0).trans rfl
                        have hcz92_1 : wc.cell? ⟨gb907, 1, none⟩ = some (.slice Ao38 t903.length co38) := (blk_cell BK907.out 1).trans rfl
                        have hfz92_0 := blk_frozen BK907.out 0
                        have hfz92_1 := blk_frozen BK907.out 1
                        go_wp2_with (first | (go_at_call 20; (with_reducible refine (integer_Compare.calls kj61 t896 _ _ t897 t902 _ _ t903 t933 _ ?side1 ?side2 ?side3 ?side4 A79.out).mono ?_); (case side1 => repeat (first | exact (Kd.V_reads' HO_902001.out).2.2 | (with_reducible refine Kd.C_alloc ?_ _) | (with_reducible refine Kd.C_drewN ?_ _) | (with_reducible refine Kd.C_drew ?_))); (case side2 => exact (Kd.V_reads' HO_902001.out).2.1); (case side3 => repeat (first | exact (Kd.V_reads' HO_908001.out).2.2 | (with_reducible refine Kd.C_alloc ?_ _) | (with_reducible refine Kd.C_drewN ?_ _) | (with_reducible refine Kd.C_drew ?_))); (case side4 => exact (Kd.V_reads' HO_908001.out).2.1); rintro e w93 ⟨rfl, hb⟩; have n0_ := Aside0.mk (Kd.V_below (by (with_reducible repeat (first | apply Kd.V_alloc | apply Kd.V_drewN | apply Kd.V_drew)); exact HO_896001.out) hb); have n1_ := Aside0.mk (Kd.V_below (by (with_reducible repeat (first | apply Kd.V_alloc | apply Kd.V_drewN | apply Kd.V_drew)); exact HO_902001.out) hb); have n2_ := Aside0.mk (Kd.V_below (by (with_reducible repeat (first | apply Kd.V_alloc | apply Kd.V_drewN | apply Kd.V_drew)); exact HO_908001.out) hb); have n3_ := Aside0.mk (blk_below (g := gb895) (o := .cells #[.bool t890, .slice Ao27 t891.length co27] 25 (0, 0)) (by (with_reducible repeat (first | refine blk_drewN ?_ _ | refine blk_drew ?_ | refine blk_alloc ?_ _)); exact BK895.out) hb); have n4_ := Aside0.mk (blk_below (g := gb901) (o := .cells #[.bool t896, .slice Ao32 t897.length co32] 25 (0, 0)) (by (with_reducible repeat (first | refine blk_drewN ?_ _ | refine blk_drew ?_ | refine blk_alloc ?_ _)); exact BK901.out) hb); have n5_ := Aside0.mk (blk_below (g := gb907) (o := .cells #[.bool t902, .slice Ao38 t903.length co38] 25 (0, 0)) (by (with_reducible repeat (first | refine blk_drewN ?_ _ | refine blk_drew ?_ | refine blk_alloc ?_ _)); exact BK907.out) hb); have n6_ := Aside0.mk (below_step (by repeat (first | (with_reducible first | exact HB.out | apply below_alloc | apply pw_below_drewN | apply below_drew1 | refine below_set ?_ GE895.out | refine below_set ?_ GE901.out | refine below_set ?_ GE907.out) | exact HB.out)) hb); clear HO_896001; clear HO_902001; clear HO_908001; clear BK895; clear BK901; clear BK907; clear HB; have HO_896001 := n0_; have HO_902001 := n1_; have HO_908001 := n2_; have BK895 := n3_; have BK901 := n4_; have BK907 := n5_; have HB := n6_; clear n0_ n1_ n2_ n3_ n4_ n5_ n6_; (try clear hb); (try clear hb2); (try clear hk); (try clear hi); have hcz94_0 : w93.cell? ⟨gb895, 0, none⟩ = some (.bool t890) := (blk_cell BK895.out 0).trans rfl; have hcz94_1 : w93.cell? ⟨gb895, 1, none⟩ = some (.slice Ao27 t891.length co27) := (blk_cell BK895.out 1).trans rfl; have hfz94_0 := blk_frozen BK895.out 0; have hfz94_1 := blk_frozen BK895.out 1; have hcz95_0 : w93.cell? ⟨gb907, 0, none⟩ = some (.bool t902) := (blk_cell BK907.out 0).trans rfl; have hcz95_1 : w93.cell? ⟨gb907, 1, none⟩ = some (.slice Ao38 t903.length co38) := (blk_cell BK907.out 1).trans rfl; have hfz95_0 := blk_frozen BK907.out 0; have hfz95_1 := blk_frozen BK907.out 1) | (go_at_call 20; (with_reducible refine (integer_Compare.calls kj61 t890 _ _ t891 t902 _ _ t903 t934 _ ?side1 ?side2 ?side3 ?side4 A87.out).mono ?_); (case side1 => repeat (first | exact (Kd.V_reads' HO_896001.out).2.2 | (with_reducible refine Kd.C_alloc ?_ _) | (with_reducible refine Kd.C_drewN ?_ _) | (with_reducible refine Kd.C_drew ?_))); (case side2 => exact (Kd.V_reads' HO_896001.out).2.1); (case side3 => repeat (first | exact (Kd.V_reads' HO_908001.out).2.2 | (with_reducible refine Kd.C_alloc ?_ _) | (with_reducible refine Kd.C_drewN ?_ _) | (with_reducible refine Kd.C_drew ?_))); (case side4 => exact (Kd.V_reads' HO_908001.out).2.1); rintro e w96 ⟨rfl, hb⟩; have n0_ := Aside0.mk (Kd.V_below (by (with_reducible repeat (first | apply Kd.V_alloc | apply Kd.V_drewN | apply Kd.V_drew)); exact HO_896001.out) hb); have n1_ := Aside0.mk (Kd.V_below (by (with_reducible repeat (first | apply Kd.V_alloc | apply Kd.V_drewN | apply Kd.V_drew)); exact HO_902001.out) hb); have n2_ := Aside0.mk (Kd.V_below (by (with_reducible repeat (first | apply Kd.V_alloc | apply Kd.V_drewN | apply Kd.V_drew)); exact HO_908001.out) hb); have n3_ := Aside0.mk (blk_below (g := gb895) (o := .cells #[.bool t890, .slice Ao27 t891.length co27] 25 (0, 0)) (by (with_reducible repeat (first | refine blk_drewN ?_ _ | refine blk_drew ?_ | refine blk_alloc ?_ _)); exact BK895.out) hb); have n4_ := Aside0.mk (blk_below (g := gb901) (o := .cells #[.bool t896, .slice Ao32 t897.length co32] 25 (0, 0)) (by (with_reducible repeat (first | refine blk_drewN ?_ _ | refine blk_drew ?_ | refine blk_alloc ?_ _)); exact BK901.out) hb); have n5_ := Aside0.mk (blk_below (g := gb907) (o := .cells #[.bool t902, .slice Ao38 t903.length co38] 25 (0, 0)) (by (with_reducible repeat (first | refine blk_drewN ?_ _ | refine blk_drew ?_ | refine blk_alloc ?_ _)); exact BK907.out) hb); have n6_ := Aside0.mk (below_step (by repeat (first | (with_reducible first | exact HB.out | apply below_alloc | apply pw_below_drewN | apply below_drew1 | refine below_set ?_ GE895.out | refine below_set ?_ GE901.out | refine below_set ?_ GE907.out) | exact HB.out)) hb); clear HO_896001; clear HO_902001; clear HO_908001; clear BK895; clear BK901; clear BK907; clear HB; have HO_896001 := n0_; have HO_902001 := n1_; have HO_908001 := n2_; have BK895 := n3_; have BK901 := n4_; have BK907 := n5_; have HB := n6_; clear n0_ n1_ n2_ n3_ n4_ n5_ n6_; (try clear hb); (try clear hb2); (try clear hk); (try clear hi)))
                        go_ret
                        exact ⟨by first | rfl | (simp [errW_none, errW_some] <;> rfl) | (simp [*, errW_none, errW_some] <;> rfl), by repeat (first | (with_reducible first | exact HB.out | apply below_alloc | apply pw_below_drewN | apply below_drew1 | refine below_set ?_ GE895.out | refine below_set ?_ GE901.out | refine below_set ?_ GE907.out) | exact HB.out)⟩
def dowellaw01_IntegerOrder.Pure : Prop := ∀ (a0 : ByteArray) (a1 : ByteArray) (a2 : ByteArray), a0.size ≤ 140737488351232 → a1.size ≤ 140737488351232 → a2.size ≤ 140737488351232 → ∃ k, dowellaw01_IntegerOrder.f k a0 a1 a2 = some true
theorem dowellaw01_IntegerOrder.walk (P : dowellaw01_IntegerOrder.Pure) (a0 : ByteArray) (a1 : ByteArray) (a2 : ByteArray) (w : World) (hG : G w) (w0 : a0.size ≤ 140737488351232) (w1 : a1.size ≤ 140737488351232) (w2 : a2.size ≤ 140737488351232) :
    Calls Tryd.prog 11 #[.string a0, .string a1, .string a2] w fun e w' => e = .returned (.bool true) ∧ Below w.heap.size w w' := by
  obtain ⟨k, h⟩ := P a0 a1 a2 w0 w1 w2
  refine (dowellaw01_IntegerOrder.calls k a0 a1 a2 true w hG h).mono ?_
  rintro e w' ⟨rfl, hd⟩
  exact ⟨rfl, hd⟩
end Go.Proofs.YtiikfhdmclmjmaaDoor.P
namespace Go.Proofs.YtiikfhdmclmjmaaDoor.Pure
open Go.RowKit Go.Proofs.YtiikfhdmclmjmaaDoorW.PrintWords
set_option linter.unusedVariables false
set_option linter.unusedSimpArgs false
theorem Ev.pos {α : Type} {c : Prop} [Decidable c] {A B : Nat → Option α} {r : α} (h : c) (k : Ev A r) : Ev (fun n => if c then A n else B n) r := by
  obtain ⟨K, k⟩ := k
  exact ⟨K, fun n hn => by show (if c then A n else B n) = some r; rw [if_pos h]; exact k n hn⟩
theorem Ev.neg {α : Type} {c : Prop} [Decidable c] {A B : Nat → Option α} {r : α} (h : ¬ c) (k : Ev B r) : Ev (fun n => if c then A n else B n) r := by
  obtain ⟨K, k⟩ := k
  exact ⟨K, fun n hn => by show (if c then A n else B n) = some r; rw [if_neg h]; exact k n hn⟩
theorem Ev.bind0 {α β : Type} {o : Option α} {f : Nat → α → Option β} {a : α} {r : β} (h : o = some a) (k : Ev (fun n => f n a) r) : Ev (fun n => o.bind (f n)) r := by
  subst h
  exact k
theorem Ev.some_ {α : Type} {a r : α} (h : a = r) : Ev (fun _ => some a) r := h ▸ Ev.now a
theorem Ev.bindS {α β : Type} {f : Nat → α → Option β} {a : α} {r : β} (k : Ev (fun n => f n a) r) : Ev (fun n => (some a).bind (f n)) r := k
theorem w64 (z : Int) (h0 : -9223372036854775808 ≤ z) (h1 : z ≤ 9223372036854775807) : wrap64 z = z := by unfold wrap64; omega
theorem wsucc {j n : Nat} (h : j < n) (hn : n ≤ 9223372036854775807) : wrap64 ((j : Int) + 1) = ((j + 1 : Nat) : Int) := by rw [w64 _ (by omega) (by omega)]; omega
theorem wadd {i j : Nat} (h : i + j ≤ 9223372036854775807) : wrap64 ((i : Int) + (j : Int)) = ((i + j : Nat) : Int) := by rw [w64 _ (by omega) (by omega)]; omega
theorem u64 (z : Int) : IntKind.u64.wrap z = z % 18446744073709551616 := rfl
theorem u64s (z : Int) (h0 : 0 ≤ z) (h1 : z < 18446744073709551616) : IntKind.u64.wrap z = z := by rw [u64]; omega
def val (B : Int) : List Int → Int
  | [] => 0
  | d :: l => d + B * val B l
def Digs (B : Int) (l : List Int) : Prop := ∀ d ∈ l, 0 ≤ d ∧ d < B
def Norm (l : List Int) : Prop := ∀ d, l.getLast? = some d → d ≠ 0
theorem Digs.cons {B d : Int} {l : List Int} (h : Digs B (d :: l)) : (0 ≤ d ∧ d < B) ∧ Digs B l := ⟨h d (by simp), fun x hx => h x (by simp [hx])⟩
theorem Digs.mk {B d : Int} {l : List Int} (h0 : 0 ≤ d) (h1 : d < B) (h : Digs B l) : Digs B (d :: l) := by
  intro x hx
  rcases List.mem_cons.1 hx with rfl | hx
  · exact ⟨h0, h1⟩
  · exact h x hx
theorem Digs.nil (B : Int) : Digs B [] := fun d h => by cases h
theorem Digs.left {B : Int} {l m : List Int} (h : Digs B (l ++ m)) : Digs B l := fun x hx => h x (List.mem_append_left _ hx)
theorem Digs.take {B : Int} {l : List Int} (h : Digs B l) (n : Nat) : Digs B (l.take n) := fun x hx => h x (List.mem_of_mem_take hx)
theorem Digs.drop {B : Int} {l : List Int} (h : Digs B l) (n : Nat) : Digs B (l.drop n) := fun x hx => h x (List.mem_of_mem_drop hx)
theorem Digs.zeros (B : Int) (hB : 0 < B) (n : Nat) : Digs B (List.replicate n 0) := fun x hx => by
  rw [List.eq_of_mem_replicate hx]
  omega
theorem val_nonneg {B : Int} (hB : 0 < B) : ∀ {l : List Int}, Digs B l → 0 ≤ val B l
  | [], _ => Int.le_refl _
  | d :: l, h => by
    have := val_nonneg hB h.cons.2
    have h1 := h.cons.1.1
    have := Int.mul_nonneg (Int.le_of_lt hB) this
    simp only [val]
    omega
theorem val_app (B : Int) : ∀ (l m : List Int), val B (l ++ m) = val B l + B ^ l.length * val B m
  | [], m => by simp [val]
  | d :: l, m => by
    simp only [List.cons_append, val, List.length_cons]
    rw [val_app B l m, Int.pow_succ, Int.mul_add, Int.mul_comm (B ^ l.length) B, Int.mul_assoc]
    omega
theorem val_zeros (B : Int) : ∀ n, val B (List.replicate n 0) = 0
  | 0 => rfl
  | n + 1 => by simp [List.replicate_succ, val, val_zeros B n]
theorem val_lt {B : Int} (hB : 0 < B) : ∀ {l : List Int}, Digs B l → val B l < B ^ l.length
  | [], _ => by simp [val]
  | d :: l, h => by
    have h1 := val_lt hB h.cons.2
    have h2 := h.cons.1.2
    simp only [val, List.length_cons]
    rw [Int.pow_succ, Int.mul_comm (B ^ l.length) B]
    have : B * (val B l + 1) ≤ B * B ^ l.length := Int.mul_le_mul_of_nonneg_left (by omega) (Int.le_of_lt hB)
    rw [Int.mul_add, Int.mul_one] at this
    omega
theorem getLast?_tail {d : Int} {l : List Int} (h : l ≠ []) : (d :: l).getLast? = l.getLast? := by
  cases l with
  | nil => exact absurd rfl h
  | cons a l => rfl
theorem Norm.tail {d : Int} {l : List Int} (h : Norm (d :: l)) : Norm l := by
  intro x hx
  cases l with
  | nil => simp at hx
  | cons a l => exact h x (by rw [getLast?_tail (by simp)]; exact hx)
theorem Norm.nil : Norm [] := fun d h => by simp at h
theorem norm_pos {B : Int} (hB : 0 < B) : ∀ {l : List Int}, Digs B l → Norm l → l ≠ [] → 0 < val B l
  | [], _, _, h => absurd rfl h
  | [d], hd, hn, _ => by
    have h1 := hd.cons.1.1
    have h2 := hn d rfl
    simp only [val]
    omega
  | d :: e :: l, hd, hn, _ => by
    have := norm_pos hB hd.cons.2 hn.tail (by simp)
    have h1 := hd.cons.1.1
    have h2 := Int.mul_pos hB this
    simp only [val] at *
    omega
theorem val_uniq {B : Int} (hB : 0 < B) : ∀ {l m : List Int}, Digs B l → Digs B m → Norm l → Norm m → val B l = val B m → l = m
  | [], [], _, _, _, _, _ => rfl
  | [], b :: m, _, hm, _, nm, h => by
    have := norm_pos hB hm nm (by simp)
    rw [← h] at this
    exact absurd this (by simp [val])
  | a :: l, [], hl, _, nl, _, h => by
    have := norm_pos hB hl nl (by simp)
    rw [h] at this
    exact absurd this (by simp [val])
  | a :: l, b :: m, hl, hm, nl, nm, h => by
    simp only [val] at h
    have ha := hl.cons.1
    have hb := hm.cons.1
    have e1 : a = b := by
      have h1 : (a + B * val B l) % B = a := by rw [Int.add_mul_emod_self_left]; exact Int.emod_eq_of_lt ha.1 ha.2
      have h2 : (b + B * val B m) % B = b := by rw [Int.add_mul_emod_self_left]; exact Int.emod_eq_of_lt hb.1 hb.2
      rw [← h1, ← h2, h]
    subst e1
    have e2 : val B l = val B m := by
      have : B * val B l = B * val B m := by omega
      exact Int.eq_of_mul_eq_mul_left (by omega) this
    rw [val_uniq hB hl.cons.2 hm.cons.2 nl.tail nm.tail e2]
def dgs (B : Nat) (n : Nat) : List Int := if h : n = 0 ∨ B < 2 then [] else ((n % B : Nat) : Int) :: dgs B (n / B)
termination_by n
decreasing_by exact Nat.div_lt_self (by omega) (by omega)
theorem dgs_zero (B : Nat) : dgs B 0 = [] := by rw [dgs]; simp
theorem dgs_pos {B n : Nat} (hB : 2 ≤ B) (hn : 0 < n) : dgs B n = ((n % B : Nat) : Int) :: dgs B (n / B) := by rw [dgs, dif_neg (by omega)]
theorem dgs_all {B : Nat} (hB : 2 ≤ B) (n : Nat) : Digs B (dgs B n) ∧ Norm (dgs B n) ∧ val B (dgs B n) = n := by
  induction n using Nat.strongRecOn with
  | _ n ih =>
    rcases Nat.eq_zero_or_pos n with rfl | h
    · rw [dgs_zero]
      exact ⟨Digs.nil _, Norm.nil, rfl⟩
    · obtain ⟨h1, h2, h3⟩ := ih (n / B) (Nat.div_lt_self h (by omega))
      rw [dgs_pos hB h]
      have hm : n % B < B := Nat.mod_lt _ (by omega)
      refine ⟨Digs.mk (by omega) (by omega) h1, ?_, ?_⟩
      · intro d hd
        by_cases hz : n / B = 0
        · rw [hz, dgs_zero] at hd
          simp at hd
          have := Nat.div_add_mod n B
          rw [hz] at this
          omega
        · have hne : dgs B (n / B) ≠ [] := by rw [dgs_pos hB (Nat.pos_of_ne_zero hz)]; simp
          rw [getLast?_tail hne] at hd
          exact h2 d hd
      · simp only [val]
        rw [h3]
        have := Nat.mod_add_div n B
        exact_mod_cast this
theorem dgs_digs {B : Nat} (hB : 2 ≤ B) (n : Nat) : Digs B (dgs B n) := (dgs_all hB n).1
theorem dgs_norm {B : Nat} (hB : 2 ≤ B) (n : Nat) : Norm (dgs B n) := (dgs_all hB n).2.1
theorem dgs_val {B : Nat} (hB : 2 ≤ B) (n : Nat) : val B (dgs B n) = n := (dgs_all hB n).2.2
theorem dgs_of {B : Nat} (hB : 2 ≤ B) {l : List Int} {n : Nat} (h1 : Digs B l) (h2 : Norm l) (h3 : val B l = n) : l = dgs B n :=
  val_uniq (by omega) h1 (dgs_digs hB n) h2 (dgs_norm hB n) (by rw [h3, dgs_val hB])
theorem dgs_nil {B : Nat} (hB : 2 ≤ B) {n : Nat} : dgs B n = [] ↔ n = 0 := by
  constructor
  · intro h
    rcases Nat.eq_zero_or_pos n with h0 | h0
    · exact h0
    · rw [dgs_pos hB h0] at h
      cases h
  · rintro rfl
    exact dgs_zero B
def trimL (l : List Int) : List Int := (l.reverse.dropWhile (· == 0)).reverse
theorem trimL_snoc0 (l : List Int) : trimL (l ++ [0]) = trimL l := by simp [trimL]
theorem trimL_snoc {d : Int} (l : List Int) (h : d ≠ 0) : trimL (l ++ [d]) = l ++ [d] := by simp [trimL, h]
theorem trimL_ind {P : List Int → List Int → Prop} (h0 : P [] []) (h1 : ∀ l r, P l r → P (l ++ [0]) r) (h2 : ∀ l d, d ≠ 0 → P (l ++ [d]) (l ++ [d])) (l : List Int) : P l (trimL l) := by
  induction hn : l.length generalizing l with
  | zero =>
    obtain rfl := List.length_eq_zero_iff.1 hn
    exact h0
  | succ n ih =>
    obtain ⟨m, d, rfl⟩ : ∃ m d, l = m ++ [d] := ⟨l.dropLast, l.getLast (by intro h; simp [h] at hn), (List.dropLast_concat_getLast _).symm⟩
    by_cases hd : d = 0
    · subst hd
      rw [trimL_snoc0]
      exact h1 m _ (ih m (by simp at hn; omega))
    · rw [trimL_snoc m hd]
      exact h2 m d hd
theorem trimL_val (B : Int) (l : List Int) : val B (trimL l) = val B l :=
  trimL_ind (P := fun l r => val B r = val B l) rfl (fun l r h => by rw [h, val_app]; simp [val]) (fun _ _ _ => rfl) l
theorem trimL_digs {B : Int} {l : List Int} (h : Digs B l) : Digs B (trimL l) :=
  trimL_ind (P := fun l r => Digs B l → Digs B r) (fun h => h) (fun l r k h => k h.left) (fun _ _ _ h => h) l h
theorem trimL_norm (l : List Int) : Norm (trimL l) :=
  trimL_ind (P := fun _ r => Norm r) Norm.nil (fun _ _ h => h) (fun l d hd x hx => by simp at hx; omega) l
theorem trimL_dgs {B : Nat} (hB : 2 ≤ B) {l : List Int} {n : Nat} (h1 : Digs B l) (h3 : val B l = n) : trimL l = dgs B n :=
  dgs_of hB (trimL_digs h1) (trimL_norm l) (by rw [trimL_val, h3])
theorem dgs_len {B : Nat} (hB : 2 ≤ B) : ∀ (m n : Nat), n < B ^ m → (dgs B n).length ≤ m
  | 0, n, h => by
    have : n = 0 := by simpa using h
    subst this
    simp [dgs_zero]
  | m + 1, n, h => by
    rcases Nat.eq_zero_or_pos n with rfl | hn
    · simp [dgs_zero]
    · rw [dgs_pos hB hn, List.length_cons]
      have : n / B < B ^ m := by
        rw [Nat.pow_succ, Nat.mul_comm] at h
        exact Nat.div_lt_of_lt_mul h
      have := dgs_len hB m (n / B) this
      omega
theorem rd_at {l : List Int} {i : Nat} (h : i < l.length) : rd l (i : Int) = l[i] := by
  unfold rd
  simp [List.getD_eq_getElem?_getD, h]
theorem rd_digs {B : Int} {l : List Int} (hl : Digs B l) {i : Nat} (h : i < l.length) : 0 ≤ rd l (i : Int) ∧ rd l (i : Int) < B := by
  rw [rd_at h]
  exact hl _ (List.getElem_mem h)
theorem drop_at {l : List Int} {i : Nat} (h : i < l.length) : l.drop i = rd l (i : Int) :: l.drop (i + 1) := by
  rw [rd_at h]
  exact List.drop_eq_getElem_cons h
theorem set_at (l : List Int) (z x : Int) (n : Nat) : (l ++ List.replicate (n + 1) z).set l.length x = (l ++ [x]) ++ List.replicate n z := by
  rw [List.set_append_right _ _ (Nat.le_refl _), Nat.sub_self, List.replicate_succ, List.set_cons_zero, List.append_assoc]
  rfl
end Go.Proofs.YtiikfhdmclmjmaaDoor.Pure
namespace Go.Proofs.YtiikfhdmclmjmaaDoor.P
open Go.RowKit Go.Proofs.YtiikfhdmclmjmaaDoorW.PrintWords Go.Proofs.YtiikfhdmclmjmaaDoorW.PrintLast
set_option linter.unusedVariables false
set_option linter.unusedSimpArgs false
def integer_Abs.f (a0_0 : Bool) (l0_1 : List Int) : Option (Bool × List Int) := some (false, l0_1)
end Go.Proofs.YtiikfhdmclmjmaaDoor.P
namespace Go.Proofs.YtiikfhdmclmjmaaDoor.Pure
open Go.RowKit Go.Proofs.YtiikfhdmclmjmaaDoorW.PrintWords Go.Proofs.YtiikfhdmclmjmaaDoor.P
set_option linter.unusedVariables false
set_option linter.unusedSimpArgs false
abbrev BB : Nat := 4294967296
theorem BB2 : 2 ≤ BB := by decide
abbrev lm (z : Int) : List Int := dgs BB z.natAbs
theorem lm_digs (z : Int) : Digs 4294967296 (lm z) := dgs_digs BB2 _
theorem lm_norm (z : Int) : Norm (lm z) := dgs_norm BB2 _
theorem lm_val (z : Int) : val 4294967296 (lm z) = z.natAbs := dgs_val BB2 _
theorem lm_nil {z : Int} : lm z = [] ↔ z = 0 := by rw [lm, dgs_nil BB2]; omega
theorem lm_len0 {z : Int} : (lm z).length = 0 ↔ z = 0 := by rw [List.length_eq_zero_iff, lm_nil]
theorem trim_ev (l : List Int) (h : l.length ≤ 4611686018427387904) : Ev (fun k => integer_trim.f k l) (trimL l) := by
  show Ev (fun k => integer_trim.l0 k l) (trimL l)
  revert h
  refine trimL_ind (P := fun l r => l.length ≤ 4611686018427387904 → Ev (fun k => integer_trim.l0 k l) r) ?_ ?_ ?_ l
  · intro _
    exact Ev.step (fun k => integer_trim.l0.eq_2 ..) (Ev.neg (by simp) (Ev.now _))
  · intro l r ih h
    have hq : (l ++ [0]).length = l.length + 1 := by simp
    have e : wrap64 (((l ++ [0]).length : Int) - 1) = (l.length : Int) := by
      rw [w64 _ (by omega) (by omega)]
      omega
    refine Ev.step (fun k => integer_trim.l0.eq_2 ..) ?_
    rw [e]
    refine Ev.pos (by omega) (Ev.pos (by omega) (Ev.pos (by omega) (Ev.pos ?_ (Ev.pos (by omega) ?_))))
    · rw [rd_at (by simp)]; simp
    · have : (l ++ [0]).take ((l.length : Int) : Int).toNat = l := by simp
      rw [this]
      exact ih (by simp at h; omega)
  · intro l d hd h
    have hq : (l ++ [d]).length = l.length + 1 := by simp
    have e : wrap64 (((l ++ [d]).length : Int) - 1) = (l.length : Int) := by
      rw [w64 _ (by omega) (by omega)]
      omega
    refine Ev.step (fun k => integer_trim.l0.eq_2 ..) ?_
    rw [e]
    refine Ev.pos (by omega) (Ev.pos (by omega) (Ev.pos (by omega) (Ev.neg ?_ (Ev.now _))))
    rw [rd_at (by simp)]; simpa using hd
theorem signed_ev (neg : Bool) (l : List Int) (n : Nat) (hl : l.length ≤ 4611686018427387904) (hd : Digs 4294967296 l) (hv : val 4294967296 l = n) :
    Ev (fun k => integer_signed.f k neg l) (decide (neg = true ∧ n ≠ 0), dgs BB n) := by
  have ht : trimL l = dgs BB n := trimL_dgs BB2 hd hv
  refine Ev.bind (trim_ev l hl) ?_
  rw [ht]
  by_cases hn : neg = true
  · refine Ev.pos hn (Ev.some_ ?_)
    have : (0 < (dgs BB n).length) = (neg = true ∧ n ≠ 0) := by
      apply propext
      rw [Nat.pos_iff_ne_zero, Ne, List.length_eq_zero_iff, dgs_nil BB2]
      simp [hn]
    simp only [this]
  · refine Ev.neg hn (Ev.some_ ?_)
    simp [hn]
theorem signed_mk {neg : Bool} {n : Nat} {z : Int} (h : z = if neg = true then -(n : Int) else n) : ((decide (neg = true ∧ n ≠ 0), dgs BB n) : Bool × List Int) = (decide (z < 0), lm z) := by
  have h1 : z.natAbs = n := by split at h <;> omega
  have h2 : (neg = true ∧ n ≠ 0) = (z < 0) := by
    apply propext
    split at h
    · rename_i hn
      simp only [hn, true_and]
      omega
    · rename_i hn
      exact ⟨fun hh => absurd hh.1 hn, fun hh => by omega⟩
  rw [lm, h1]
  simp only [h2]
theorem signed_to (neg : Bool) (l : List Int) (n : Nat) (z : Int) (hl : l.length ≤ 4611686018427387904) (hd : Digs 4294967296 l) (hv : val 4294967296 l = n) (hz : z = if neg = true then -(n : Int) else n) :
    Ev (fun k => integer_signed.f k neg l) (decide (z < 0), lm z) := signed_mk hz ▸ signed_ev neg l n hl hd hv
theorem from_ev (z : Int) (h0 : -9223372036854775808 ≤ z) (h1 : z ≤ 9223372036854775807) : Ev (fun k => integer_From.f k z) (decide (z < 0), lm z) := by
  unfold integer_From.f
  by_cases hz : z < 0
  · refine Ev.pos hz ?_
    have e : IntKind.u64.wrap (-(IntKind.u64.wrap z)) = (z.natAbs : Int) := by simp only [u64]; omega
    rw [e]
    refine Ev.bind (signed_to true _ z.natAbs z (by simp) ?_ ?_ (by simp; omega)) (Ev.some_ (by simp [hz]))
    · exact Digs.mk (by omega) (by omega) (Digs.mk (by omega) (by omega) (Digs.nil _))
    · simp only [val]; omega
  · refine Ev.neg hz ?_
    have e : IntKind.u64.wrap z = (z.natAbs : Int) := by simp only [u64]; omega
    rw [e]
    refine Ev.bind (signed_to false _ z.natAbs z (by simp) ?_ ?_ (by simp; omega)) (Ev.some_ (by simp [hz]))
    · exact Digs.mk (by omega) (by omega) (Digs.mk (by omega) (by omega) (Digs.nil _))
    · simp only [val]; omega
theorem sign_eq (z : Int) : integer_Int_Sign.f (decide (z < 0)) (lm z) = some (if z = 0 then 0 else if z < 0 then -1 else 1) := by
  unfold integer_Int_Sign.f
  by_cases h : z = 0
  · rw [if_pos (by rw [lm_len0.2 h]; rfl), if_pos h]
  · rw [if_neg (by have := mt lm_len0.1 h; omega), if_neg h]
    by_cases h2 : z < 0 <;> simp [h2]
theorem sign_sign (z : Int) : (if z = 0 then 0 else if z < 0 then -1 else 1 : Int) = z.sign := by
  rcases Int.lt_trichotomy z 0 with h | h | h
  · rw [if_neg (by omega), if_pos h, Int.sign_eq_neg_one_of_neg h]
  · rw [if_pos h, h]; rfl
  · rw [if_neg (by omega), if_neg (by omega), Int.sign_eq_one_of_pos h]
theorem neg_eq (z : Int) : integer_Neg.f (decide (z < 0)) (lm z) = some (decide (-z < 0), lm (-z)) := by
  have e : lm (-z) = lm z := by rw [lm, lm, Int.natAbs_neg]
  unfold integer_Neg.f
  rw [e]
  by_cases h2 : z < 0
  · rw [if_pos (by simpa using h2)]
    have : ¬ (-z < 0) := by omega
    simp only [decide_eq_false this]
  · rw [if_neg (by simpa using h2)]
    have : (0 < (lm z).length) = (-z < 0) := by
      apply propext
      have := lm_len0 (z := z)
      omega
    simp only [this]
def ordL : List Int → List Int → Int
  | [], _ => 0
  | _, [] => 0
  | a :: l, b :: m => if ordL l m ≠ 0 then ordL l m else if a = b then 0 else if a < b then -1 else 1
theorem ordL_val {B : Int} (hB : 0 < B) : ∀ {l m : List Int}, l.length = m.length → Digs B l → Digs B m → ordL l m = (val B l - val B m).sign
  | [], [], _, _, _ => rfl
  | a :: l, b :: m, hlen, hl, hm => by
    have ih := ordL_val hB (l := l) (m := m) (by simpa using hlen) hl.cons.2 hm.cons.2
    have ha := hl.cons.1
    have hb := hm.cons.1
    simp only [ordL, val]
    rw [ih]
    rcases Int.lt_trichotomy (val B l) (val B m) with h | h | h
    · have h1 : B * (val B l + 1) ≤ B * val B m := Int.mul_le_mul_of_nonneg_left (by omega) (by omega)
      rw [Int.mul_add, Int.mul_one] at h1
      rw [Int.sign_eq_neg_one_of_neg (show val B l - val B m < 0 by omega), Int.sign_eq_neg_one_of_neg (show a + B * val B l - (b + B * val B m) < 0 by omega)]
      simp
    · rw [h, show val B m - val B m = 0 by omega]
      simp only [Int.sign_zero, ne_eq, not_true, if_false]
      rcases Int.lt_trichotomy a b with k | k | k
      · rw [if_neg (by omega), if_pos k, Int.sign_eq_neg_one_of_neg (by omega)]
      · rw [if_pos k, k, show b + B * val B m - (b + B * val B m) = 0 by omega]; rfl
      · rw [if_neg (by omega), if_neg (by omega), Int.sign_eq_one_of_pos (by omega)]
    · have h1 : B * (val B m + 1) ≤ B * val B l := Int.mul_le_mul_of_nonneg_left (by omega) (by omega)
      rw [Int.mul_add, Int.mul_one] at h1
      rw [Int.sign_eq_one_of_pos (show 0 < val B l - val B m by omega), Int.sign_eq_one_of_pos (show 0 < a + B * val B l - (b + B * val B m) by omega)]
      simp
theorem pow_mono {B : Int} (hB : 0 < B) {i j : Nat} (h : i ≤ j) : B ^ i ≤ B ^ j := by
  obtain ⟨d, rfl⟩ := Nat.exists_eq_add_of_le h
  clear h
  induction d with
  | zero => exact Int.le_refl _
  | succ d ih =>
    rw [← Nat.add_assoc, Int.pow_succ]
    have h1 : 0 < B ^ (i + d) := Int.pow_pos hB
    have := Int.mul_le_mul_of_nonneg_left (show 1 ≤ B by omega) (Int.le_of_lt h1)
    rw [Int.mul_one] at this
    omega
theorem norm_low {B : Int} (hB : 0 < B) : ∀ {l : List Int}, Digs B l → Norm l → l ≠ [] → B ^ (l.length - 1) ≤ val B l
  | [], _, _, h => absurd rfl h
  | [d], hd, hn, _ => by
    have := norm_pos hB hd hn (by simp)
    show B ^ 0 ≤ _
    rw [Int.pow_zero]
    omega
  | d :: e :: l, hd, hn, _ => by
    have ih := norm_low hB hd.cons.2 hn.tail (by simp)
    have h1 := hd.cons.1.1
    simp only [List.length_cons, Nat.add_sub_cancel] at ih ⊢
    rw [Int.pow_succ, Int.mul_comm]
    have := Int.mul_le_mul_of_nonneg_left ih (Int.le_of_lt hB)
    simp only [val] at this ⊢
    omega
theorem len_lt_val {B : Int} (hB : 1 < B) {l m : List Int} (hl : Digs B l) (hm : Digs B m) (nm : Norm m) (h : l.length < m.length) : val B l < val B m := by
  have h1 := val_lt (by omega : 0 < B) hl
  have h2 := norm_low (by omega : 0 < B) hm nm (by intro e; simp [e] at h)
  have h3 : B ^ l.length ≤ B ^ (m.length - 1) := pow_mono (by omega) (by omega)
  omega
theorem order_l0 (l m : List Int) (hlen : l.length = m.length) (hm : l.length ≤ 4611686018427387904) : ∀ i : Nat, i ≤ l.length → ordL (l.drop i) (m.drop i) = 0 → Ev (fun k => integer_order.l0 k l m ((i : Int) - 1)) (ordL l m)
  | 0, _, h => by
    refine Ev.step (fun k => integer_order.l0.eq_2 ..) (Ev.neg (by omega) (Ev.some_ ?_))
    simpa using h.symm
  | i + 1, hi, h => by
    have e : (((i + 1 : Nat) : Int) - 1) = (i : Int) := by omega
    rw [e]
    have hs : ordL (l.drop i) (m.drop i) = if rd l (i : Int) = rd m (i : Int) then 0 else if rd l (i : Int) < rd m (i : Int) then -1 else 1 := by
      rw [drop_at (l := l) (by omega), drop_at (l := m) (by omega)]
      simp [ordL, h]
    refine Ev.step (fun k => integer_order.l0.eq_2 ..) ?_
    refine Ev.pos (by omega) (Ev.pos (by omega) (Ev.pos (by omega) (Ev.pos (by omega) ?_)))
    rw [w64 ((i : Int) - 1) (by omega) (by omega)]
    by_cases hq : rd l (i : Int) = rd m (i : Int)
    · exact Ev.pos hq (order_l0 l m hlen hm i (by omega) (by rw [hs, if_pos hq]))
    · refine Ev.neg hq ?_
      have hne : ordL (l.drop i) (m.drop i) = ordL l m := ordL_drop l m i (by rw [hs, if_neg hq]; split <;> decide)
      rw [if_neg hq] at hs
      rw [← hne, hs]
      by_cases hq2 : rd l (i : Int) < rd m (i : Int)
      · exact Ev.pos hq2 (Ev.some_ (by rw [if_pos hq2]))
      · exact Ev.neg hq2 (Ev.some_ (by rw [if_neg hq2]))
where
  ordL_drop : ∀ (l m : List Int) (i : Nat), ordL (l.drop i) (m.drop i) ≠ 0 → ordL (l.drop i) (m.drop i) = ordL l m
    | l, m, 0, _ => rfl
    | [], m, i + 1, h => by simp [ordL] at h
    | a :: l, [], i + 1, h => by
      rw [List.drop_nil] at h
      cases hq : (a :: l).drop (i + 1) <;> simp [ordL, hq] at h
    | a :: l, b :: m, i + 1, h => by
      have ih := ordL_drop l m i h
      simp only [List.drop_succ_cons] at h ⊢
      rw [ih] at h ⊢
      simp [ordL, h]
theorem order_ev (l m : List Int) (hl : Digs 4294967296 l) (hm : Digs 4294967296 m) (nl : Norm l) (nm : Norm m) (h1 : l.length ≤ 4611686018427387904) (h2 : m.length ≤ 4611686018427387904) :
    Ev (fun k => integer_order.f k l m) (val 4294967296 l - val 4294967296 m).sign := by
  unfold integer_order.f
  by_cases h : (l.length : Int) = (m.length : Int)
  · refine Ev.pos h ?_
    rw [w64 _ (by omega) (by omega), ← ordL_val (by decide) (by omega) hl hm]
    refine order_l0 l m (by omega) h1 l.length (Nat.le_refl _) ?_
    rw [List.drop_of_length_le (Nat.le_refl _)]
    rfl
  · refine Ev.neg h ?_
    by_cases h3 : (l.length : Int) < (m.length : Int)
    · have := len_lt_val (B := 4294967296) (by decide) hl hm nm (by omega)
      exact Ev.pos h3 (Ev.some_ (by rw [Int.sign_eq_neg_one_of_neg (by omega)]))
    · have := len_lt_val (B := 4294967296) (by decide) hm hl nl (by omega)
      exact Ev.neg h3 (Ev.some_ (by rw [Int.sign_eq_one_of_pos (by omega)]))
theorem lorder_ev (x y : Int) (h1 : (lm x).length ≤ 4611686018427387904) (h2 : (lm y).length ≤ 4611686018427387904) :
    Ev (fun k => integer_order.f k (lm x) (lm y)) ((x.natAbs : Int) - y.natAbs).sign := by
  have := order_ev (lm x) (lm y) (lm_digs x) (lm_digs y) (lm_norm x) (lm_norm y) h1 h2
  rwa [lm_val, lm_val] at this
theorem compare_ev (x y : Int) (h1 : (lm x).length ≤ 4611686018427387904) (h2 : (lm y).length ≤ 4611686018427387904) :
    Ev (fun k => integer_Compare.f k (decide (x < 0)) (lm x) (decide (y < 0)) (lm y)) (x - y).sign := by
  unfold integer_Compare.f
  by_cases hx : x < 0 <;> by_cases hy : y < 0
  · refine Ev.neg (by simp [hx, hy]) (Ev.pos (by simpa using hx) ?_)
    refine Ev.bind (lorder_ev y x h2 h1) (Ev.some_ ?_)
    congr 1
    omega
  · refine Ev.pos (by simp [hx, hy]) (Ev.pos (by simpa using hx) (Ev.some_ ?_))
    rw [Int.sign_eq_neg_one_of_neg (by omega)]
  · refine Ev.pos (by simp [hx, hy]) (Ev.neg (by simpa using hx) (Ev.some_ ?_))
    rw [Int.sign_eq_one_of_pos (by omega)]
  · refine Ev.neg (by simp [hx, hy]) (Ev.neg (by simpa using hx) ?_)
    refine Ev.bind (lorder_ev x y h1 h2) (Ev.some_ ?_)
    congr 1
    omega
end Go.Proofs.YtiikfhdmclmjmaaDoor.Pure
namespace Go.Proofs.YtiikfhdmclmjmaaDoor.Pure
open Go.RowKit Go.Proofs.YtiikfhdmclmjmaaDoorW.PrintWords Go.Proofs.YtiikfhdmclmjmaaDoor.P
set_option linter.unusedVariables false
set_option linter.unusedSimpArgs false
theorem or_high (x d : Int) (hx : 0 ≤ x) (hx1 : x < 4294967296) (hd : 0 ≤ d) (hd1 : d < 4294967296) : Go.bits .or .u64 (x * 4294967296) d = x * 4294967296 + d :=
  bits_join .u64 64 (by decide) (fun n h0 h1 => u64s n h0 h1) 32 _ d (by omega) (by omega) (by omega) hd hd1 (by omega)
def hd0 : List Int → Int
  | [] => 0
  | a :: _ => a
theorem hd0_digs {B : Int} (hB : 0 < B) {l : List Int} (h : Digs B l) : 0 ≤ hd0 l ∧ hd0 l < B := by
  cases l with
  | nil => exact ⟨Int.le_refl _, hB⟩
  | cons a l => exact h.cons.1
theorem tail_digs {B : Int} {l : List Int} (h : Digs B l) : Digs B l.tail := fun x hx => h x (List.mem_of_mem_tail hx)
theorem val_hd (B : Int) (l : List Int) : val B l = hd0 l + B * val B l.tail := by
  cases l with
  | nil => simp [hd0, val]
  | cons a l => rfl
theorem drop_hd (l : List Int) (i : Nat) : hd0 (l.drop i) = if i < l.length then rd l (i : Int) else 0 := by
  by_cases h : i < l.length
  · rw [if_pos h, drop_at h]; rfl
  · rw [if_neg h, List.drop_of_length_le (by omega)]; rfl
theorem drop_tl (l : List Int) (i : Nat) : (l.drop i).tail = l.drop (i + 1) := by rw [List.tail_drop]
theorem set_mid {l : List Int} {i n : Nat} {z x j : Int} (hi : l.length = i) (hj : j = (i : Int)) (h : 0 < n) : (l ++ List.replicate n z).set j.toNat x = (l ++ [x]) ++ List.replicate (n - 1) z := by
  obtain ⟨m, rfl⟩ : ∃ m, n = m + 1 := ⟨n - 1, by omega⟩
  rw [hj, Int.toNat_natCast, ← hi, set_at]
  rfl
theorem app_cons (p : List Int) (x : Int) (q : List Int) : p ++ x :: q = p ++ [x] ++ q := by simp
def plusR (B : Int) : List Int → List Int → Int → List Int
  | [], _, c => [c % B]
  | a :: l, m, c => ((c + a + hd0 m) % B) :: plusR B l m.tail ((c + a + hd0 m) / B)
theorem plusR_len (B : Int) : ∀ l m c, (plusR B l m c).length = l.length + 1
  | [], _, _ => rfl
  | a :: l, m, c => by simp [plusR, plusR_len B l]
theorem plusR_all : ∀ (l m : List Int) (c : Int), Digs 4294967296 l → Digs 4294967296 m → m.length ≤ l.length → 0 ≤ c → c ≤ 1 → Digs 4294967296 (plusR 4294967296 l m c) ∧ val 4294967296 (plusR 4294967296 l m c) = val 4294967296 l + val 4294967296 m + c
  | [], m, c, _, hm, hlen, h0, h1 => by
    obtain rfl : m = [] := List.length_eq_zero_iff.1 (by simpa using hlen)
    refine ⟨Digs.mk (by omega) (by omega) (Digs.nil _), ?_⟩
    simp only [plusR, val]
    omega
  | a :: l, m, c, hl, hm, hlen, h0, h1 => by
    have ha := hl.cons.1
    have hb := hd0_digs (by decide) hm
    have ih := plusR_all l m.tail ((c + a + hd0 m) / 4294967296) hl.cons.2 (tail_digs hm) (by simp at hlen ⊢; omega) (by omega) (by omega)
    have hv := val_hd 4294967296 m
    refine ⟨Digs.mk (by omega) (by omega) ih.1, ?_⟩
    simp only [plusR, val, ih.2]
    omega
theorem plus_l1 : ∀ k x0 x1 x5 x6 x20 x21 x22, integer_plus.l1 k x0 x1 x5 x6 x20 x21 x22 = integer_plus.l0 k x0 x1 x5 x6 x20 x21 x22
  | 0, _, _, _, _, _, _, _ => rfl
  | k + 1, x0, x1, x5, x6, x20, x21, x22 => by
    rw [integer_plus.l1.eq_2, integer_plus.l0.eq_2]
    simp only [plus_l1 k]
theorem plus_l0 (l m : List Int) (hl : Digs 4294967296 l) (hm : Digs 4294967296 m) (hlen : m.length ≤ l.length) (hmax : l.length ≤ 70368744177663) :
    ∀ (n i : Nat) (p : List Int) (c : Int), l.length - i = n → i ≤ l.length → p.length = i → 0 ≤ c → c ≤ 1 →
      Ev (fun k => integer_plus.l0 k l m (p ++ List.replicate (l.length + 1 - i) 0) c l (l.length : Int) (i : Int)) (p ++ plusR 4294967296 (l.drop i) (m.drop i) c)
  | 0, i, p, c, hn, hi, hp, h0, h1 => by
    obtain rfl : i = l.length := by omega
    have e : l.length + 1 - l.length = 1 := by omega
    rw [e]
    refine Ev.step (fun k => integer_plus.l0.eq_2 ..) (Ev.neg (by omega) (Ev.pos (by omega) (Ev.pos (by rw [List.length_append, List.length_replicate, hp]; omega) (Ev.some_ ?_))))
    rw [set_mid hp rfl (by omega), List.drop_of_length_le (Nat.le_refl _)]
    simp [plusR]
  | n + 1, i, p, c, hn, hi, hp, h0, h1 => by
    have ha := rd_digs hl (show i < l.length by omega)
    have ew : wrap64 ((i : Int) + 1) = ((i + 1 : Nat) : Int) := by rw [w64 _ (by omega) (by omega)]; omega
    have hb := hd0_digs (by decide) (hm.drop i)
    have hlen2 : (p ++ List.replicate (l.length + 1 - i) (0 : Int)).length = l.length + 1 := by simp [hp]; omega
    have es : plusR 4294967296 (l.drop i) (m.drop i) c = ((c + rd l (i : Int) + hd0 (m.drop i)) % 4294967296) :: plusR 4294967296 (l.drop (i + 1)) (m.drop (i + 1)) ((c + rd l (i : Int) + hd0 (m.drop i)) / 4294967296) := by
      rw [drop_at (l := l) (by omega)]
      simp only [plusR, drop_tl]
    have hr : l.length + 1 - i - 1 = l.length + 1 - (i + 1) := by omega
    have ih := plus_l0 l m hl hm hlen hmax n (i + 1) (p ++ [(c + rd l (i : Int) + hd0 (m.drop i)) % 4294967296]) ((c + rd l (i : Int) + hd0 (m.drop i)) / 4294967296) (by omega) (by omega) (by simp [hp]) (by omega) (by omega)
    rw [es, app_cons]
    refine Ev.step (fun k => integer_plus.l0.eq_2 ..) (Ev.pos (by omega) (Ev.pos (by omega) (Ev.pos (by omega) ?_)))
    rw [ew]
    rw [drop_hd] at ih hb
    by_cases hj : i < m.length
    · rw [if_pos hj] at ih hb
      have e1 : IntKind.u64.wrap ((IntKind.u64.wrap (c + (IntKind.u64.wrap (rd l (i : Int))))) + (IntKind.u64.wrap (rd m (i : Int)))) = c + rd l (i : Int) + rd m (i : Int) := by
        simp only [u64]; omega
      refine Ev.pos (by omega) (Ev.pos (by omega) ?_)
      rw [e1, set_mid hp rfl (by omega), hr, drop_hd, if_pos hj]
      exact ih
    · rw [if_neg hj] at ih hb
      have e1 : IntKind.u64.wrap (c + (IntKind.u64.wrap (rd l (i : Int)))) = c + rd l (i : Int) + 0 := by
        simp only [u64]; omega
      refine Ev.neg (by omega) (Ev.pos (by omega) ?_)
      rw [e1, set_mid hp rfl (by omega), hr, drop_hd, if_neg hj]
      exact ih
theorem plus_ev (l m : List Int) (hl : Digs 4294967296 l) (hm : Digs 4294967296 m) (h1 : l.length ≤ 70368744177663) (h2 : m.length ≤ 70368744177663) :
    ∃ r, Ev (fun k => integer_plus.f k l m) r ∧ Digs 4294967296 r ∧ val 4294967296 r = val 4294967296 l + val 4294967296 m ∧ r.length ≤ 70368744177664 := by
  unfold integer_plus.f
  by_cases h : (l.length : Int) < (m.length : Int)
  · have hr := plusR_all m l 0 hm hl (by omega) (by omega) (by omega)
    refine ⟨plusR 4294967296 m l 0, ?_, hr.1, by rw [hr.2]; omega, by rw [plusR_len]; omega⟩
    refine Ev.pos h ?_
    rw [w64 _ (by omega) (by omega)]
    refine Ev.pos (by omega) (Ev.pos (by omega) ?_)
    have := plus_l0 m l hm hl (by omega) h2 m.length 0 [] 0 (by omega) (by omega) rfl (by omega) (by omega)
    rw [show ((m.length : Int) + 1).toNat = m.length + 1 - 0 by omega]
    simpa using this
  · have hr := plusR_all l m 0 hl hm (by omega) (by omega) (by omega)
    refine ⟨plusR 4294967296 l m 0, ?_, hr.1, by rw [hr.2]; omega, by rw [plusR_len]; omega⟩
    refine Ev.neg h ?_
    rw [w64 _ (by omega) (by omega)]
    refine Ev.pos (by omega) (Ev.pos (by omega) ?_)
    have := plus_l0 l m hl hm (by omega) h1 l.length 0 [] 0 (by omega) (by omega) rfl (by omega) (by omega)
    rw [show ((l.length : Int) + 1).toNat = l.length + 1 - 0 by omega]
    simp only [plus_l1]
    simpa using this
def minusR (B : Int) : List Int → List Int → Int → List Int
  | [], _, _ => []
  | a :: l, m, c => ((a - c - hd0 m) % B) :: minusR B l m.tail (if a - c - hd0 m < 0 then 1 else 0)
theorem minusR_len (B : Int) : ∀ l m c, (minusR B l m c).length = l.length
  | [], _, _ => rfl
  | a :: l, m, c => by simp [minusR, minusR_len B l]
theorem minusR_all : ∀ (l m : List Int) (c : Int), Digs 4294967296 l → Digs 4294967296 m → val 4294967296 m + c ≤ val 4294967296 l → 0 ≤ c → c ≤ 1 → Digs 4294967296 (minusR 4294967296 l m c) ∧ val 4294967296 (minusR 4294967296 l m c) = val 4294967296 l - val 4294967296 m - c
  | [], m, c, _, hm, hle, h0, h1 => by
    refine ⟨Digs.nil _, ?_⟩
    have := val_nonneg (B := 4294967296) (by decide) hm
    simp only [minusR, val] at *
    omega
  | a :: l, m, c, hl, hm, hle, h0, h1 => by
    have ha := hl.cons.1
    have hb := hd0_digs (by decide) hm
    have hv := val_hd 4294967296 m
    simp only [val] at hle
    have ih := minusR_all l m.tail (if a - c - hd0 m < 0 then 1 else 0) hl.cons.2 (tail_digs hm) (by split <;> omega) (by split <;> omega) (by split <;> omega)
    refine ⟨Digs.mk (by omega) (by omega) ih.1, ?_⟩
    simp only [minusR, val, ih.2]
    split <;> omega
theorem minus_l0 (l m : List Int) (hl : Digs 4294967296 l) (hm : Digs 4294967296 m) (hmax : l.length ≤ 70368744177664) :
    ∀ (n i : Nat) (p : List Int) (c : Int), l.length - i = n → i ≤ l.length → p.length = i → 0 ≤ c → c ≤ 1 →
      Ev (fun k => integer_minus.l0 k m (p ++ List.replicate (l.length - i) 0) c l (l.length : Int) (i : Int)) (p ++ minusR 4294967296 (l.drop i) (m.drop i) c)
  | 0, i, p, c, hn, hi, hp, h0, h1 => by
    obtain rfl : i = l.length := by omega
    refine Ev.step (fun k => integer_minus.l0.eq_2 ..) (Ev.neg (by omega) (Ev.some_ ?_))
    rw [Nat.sub_self, List.drop_of_length_le (Nat.le_refl _)]
    simp [minusR]
  | n + 1, i, p, c, hn, hi, hp, h0, h1 => by
    have ha := rd_digs hl (show i < l.length by omega)
    have ew : wrap64 ((i : Int) + 1) = ((i + 1 : Nat) : Int) := by rw [w64 _ (by omega) (by omega)]; omega
    have hb := hd0_digs (by decide) (hm.drop i)
    have hlen2 : (p ++ List.replicate (l.length - i) (0 : Int)).length = l.length := by simp [hp]; omega
    have es : minusR 4294967296 (l.drop i) (m.drop i) c = ((rd l (i : Int) - c - hd0 (m.drop i)) % 4294967296) :: minusR 4294967296 (l.drop (i + 1)) (m.drop (i + 1)) (if rd l (i : Int) - c - hd0 (m.drop i) < 0 then 1 else 0) := by
      rw [drop_at (l := l) (by omega)]
      simp only [minusR, drop_tl]
    have hr : l.length - i - 1 = l.length - (i + 1) := by omega
    have ih := minus_l0 l m hl hm hmax n (i + 1) (p ++ [(rd l (i : Int) - c - hd0 (m.drop i)) % 4294967296]) (if rd l (i : Int) - c - hd0 (m.drop i) < 0 then 1 else 0) (by omega) (by omega) (by simp [hp]) (by split <;> omega) (by split <;> omega)
    rw [es, app_cons]
    refine Ev.step (fun k => integer_minus.l0.eq_2 ..) (Ev.pos (by omega) (Ev.pos (by omega) (Ev.pos (by omega) ?_)))
    rw [ew]
    rw [drop_hd] at ih hb
    by_cases hj : i < m.length
    · rw [if_pos hj] at ih hb
      have e1 : wrap64 ((wrap64 ((wrap64 (rd l (i : Int))) - c)) - (wrap64 (rd m (i : Int)))) = rd l (i : Int) - c - rd m (i : Int) := by
        rw [w64 (rd l (i : Int)) (by omega) (by omega), w64 (rd l (i : Int) - c) (by omega) (by omega), w64 (rd m (i : Int)) (by omega) (by omega), w64 _ (by omega) (by omega)]
      refine Ev.pos (by omega) ?_
      rw [e1, drop_hd, if_pos hj, set_mid hp rfl (by omega), hr]
      by_cases hs : rd l (i : Int) - c - rd m (i : Int) < 0
      · rw [if_pos hs] at ih ⊢
        exact Ev.pos hs (Ev.pos (by omega) ih)
      · rw [if_neg hs] at ih ⊢
        exact Ev.neg hs (Ev.pos (by omega) ih)
    · rw [if_neg hj] at ih hb
      have e1 : wrap64 ((wrap64 (rd l (i : Int))) - c) = rd l (i : Int) - c - 0 := by
        rw [w64 (rd l (i : Int)) (by omega) (by omega), w64 (rd l (i : Int) - c) (by omega) (by omega)]; omega
      refine Ev.neg (by omega) ?_
      rw [e1, drop_hd, if_neg hj, set_mid hp rfl (by omega), hr]
      by_cases hs : rd l (i : Int) - c - 0 < 0
      · rw [if_pos hs] at ih ⊢
        exact Ev.pos hs (Ev.pos (by omega) ih)
      · rw [if_neg hs] at ih ⊢
        exact Ev.neg hs (Ev.pos (by omega) ih)
theorem minus_ev (l m : List Int) (hl : Digs 4294967296 l) (hm : Digs 4294967296 m) (h1 : l.length ≤ 70368744177664) (hle : val 4294967296 m ≤ val 4294967296 l) :
    ∃ r, Ev (fun k => integer_minus.f k l m) r ∧ Digs 4294967296 r ∧ val 4294967296 r = val 4294967296 l - val 4294967296 m ∧ r.length = l.length := by
  unfold integer_minus.f
  have hr := minusR_all l m 0 hl hm (by omega) (by omega) (by omega)
  refine ⟨minusR 4294967296 l m 0, ?_, hr.1, by rw [hr.2]; omega, by rw [minusR_len]⟩
  refine Ev.pos (by omega) (Ev.pos (by omega) ?_)
  have := minus_l0 l m hl hm h1 l.length 0 [] 0 (by omega) (by omega) rfl (by omega) (by omega)
  rw [show ((l.length : Int) : Int).toNat = l.length - 0 by omega]
  simpa using this
theorem add_ev (x y : Int) (h1 : (lm x).length ≤ 70368744177663) (h2 : (lm y).length ≤ 70368744177663) :
    Ev (fun k => integer_Add.f k (decide (x < 0)) (lm x) (decide (y < 0)) (lm y)) (decide (x + y < 0), lm (x + y)) := by
  unfold integer_Add.f
  have hx := lm_val x
  have hy := lm_val y
  by_cases h : (decide (x < 0)) = (decide (y < 0))
  · have hxy : x < 0 ↔ y < 0 := by simpa using h
    refine Ev.pos (by simpa using h) ?_
    obtain ⟨r, hr, hd, hv, hl⟩ := plus_ev (lm x) (lm y) (lm_digs x) (lm_digs y) h1 h2
    refine Ev.bind hr (Ev.bind (signed_to _ r (x + y).natAbs (x + y) (by omega) hd (by omega) ?_) (Ev.now _))
    by_cases hx0 : x < 0
    · rw [if_pos (by simpa using hx0)]; omega
    · rw [if_neg (by simpa using hx0)]; omega
  · have hxy : ¬ (x < 0 ↔ y < 0) := by simpa using h
    refine Ev.neg (by simpa using h) ?_
    refine Ev.bind (lorder_ev x y (by omega) (by omega)) ?_
    by_cases ho : (y.natAbs : Int) ≤ x.natAbs
    · refine Ev.pos (by have := Int.sign_nonneg_iff.2 (show (0:Int) ≤ (x.natAbs : Int) - y.natAbs by omega); omega) ?_
      obtain ⟨r, hr, hd, hv, hl⟩ := minus_ev (lm x) (lm y) (lm_digs x) (lm_digs y) (by omega) (by omega)
      refine Ev.bind hr (Ev.bind (signed_to _ r (x + y).natAbs (x + y) (by omega) hd (by omega) ?_) (Ev.now _))
      by_cases hx0 : x < 0
      · rw [if_pos (by simpa using hx0)]; omega
      · rw [if_neg (by simpa using hx0)]; omega
    · refine Ev.neg (by rw [Int.sign_eq_neg_one_of_neg (by omega)]; omega) ?_
      obtain ⟨r, hr, hd, hv, hl⟩ := minus_ev (lm y) (lm x) (lm_digs y) (lm_digs x) (by omega) (by omega)
      refine Ev.bind hr (Ev.bind (signed_to _ r (x + y).natAbs (x + y) (by omega) hd (by omega) ?_) (Ev.now _))
      by_cases hy0 : y < 0
      · rw [if_pos (by simpa using hy0)]; omega
      · rw [if_neg (by simpa using hy0)]; omega
theorem sub_ev (x y : Int) (h1 : (lm x).length ≤ 70368744177663) (h2 : (lm y).length ≤ 70368744177663) :
    Ev (fun k => integer_Sub.f k (decide (x < 0)) (lm x) (decide (y < 0)) (lm y)) (decide (x - y < 0), lm (x - y)) := by
  unfold integer_Sub.f
  refine Ev.bind0 (neg_eq y) ?_
  have e : (lm (-y)).length = (lm y).length := by rw [lm, lm, Int.natAbs_neg]
  have := add_ev x (-y) h1 (by omega)
  rw [← Int.sub_eq_add_neg] at this
  exact Ev.bind this (Ev.now _)
end Go.Proofs.YtiikfhdmclmjmaaDoor.Pure
namespace Go.Proofs.YtiikfhdmclmjmaaDoor.Pure
open Go.RowKit Go.Proofs.YtiikfhdmclmjmaaDoorW.PrintWords Go.Proofs.YtiikfhdmclmjmaaDoor.P
set_option linter.unusedVariables false
set_option linter.unusedSimpArgs false
theorem mul_bd {x y : Int} (h0 : 0 ≤ x) (h1 : x < 4294967296) (k0 : 0 ≤ y) (k1 : y < 4294967296) : 0 ≤ x * y ∧ x * y ≤ 18446744065119617025 := by
  refine ⟨Int.mul_nonneg h0 k0, ?_⟩
  have : x * y ≤ 4294967295 * 4294967295 := Int.mul_le_mul (by omega) (by omega) k0 (by omega)
  omega
def scaleR (B : Int) : List Int → Int → Int → List Int
  | [], _, c => [c % B]
  | a :: l, b, c => ((c + a * b) % B) :: scaleR B l b ((c + a * b) / B)
theorem scaleR_all : ∀ (l : List Int) (b c : Int), Digs 4294967296 l → 0 ≤ b → b < 4294967296 → 0 ≤ c → c < 4294967296 → Digs 4294967296 (scaleR 4294967296 l b c) ∧ val 4294967296 (scaleR 4294967296 l b c) = val 4294967296 l * b + c
  | [], b, c, _, b0, b1, h0, h1 => by
    refine ⟨Digs.mk (by omega) (by omega) (Digs.nil _), ?_⟩
    simp only [scaleR, val]
    omega
  | a :: l, b, c, hl, b0, b1, h0, h1 => by
    have ha := hl.cons.1
    have hp := mul_bd ha.1 ha.2 b0 b1
    have ih := scaleR_all l b ((c + a * b) / 4294967296) hl.cons.2 b0 b1 (by omega) (by omega)
    refine ⟨Digs.mk (by omega) (by omega) ih.1, ?_⟩
    simp only [scaleR, val, ih.2]
    rw [Int.add_mul, Int.mul_assoc]
    omega
theorem scale_l0 (l : List Int) (b : Int) (hl : Digs 4294967296 l) (b0 : 0 ≤ b) (b1 : b < 4294967296) (hmax : l.length ≤ 70368744177663) :
    ∀ (n i : Nat) (p : List Int) (c : Int), l.length - i = n → i ≤ l.length → p.length = i → 0 ≤ c → c < 4294967296 →
      Ev (fun k => integer_scale.l0 k l b (p ++ List.replicate (l.length + 1 - i) 0) c l (l.length : Int) (i : Int)) (trimL (p ++ scaleR 4294967296 (l.drop i) b c))
  | 0, i, p, c, hn, hi, hp, h0, h1 => by
    obtain rfl : i = l.length := by omega
    have e : l.length + 1 - l.length = 1 := by omega
    rw [e]
    refine Ev.step (fun k => integer_scale.l0.eq_2 ..) (Ev.neg (by omega) (Ev.pos (by omega) (Ev.pos (by rw [List.length_append, List.length_replicate, hp]; omega) ?_)))
    rw [set_mid hp rfl (by omega), List.drop_of_length_le (Nat.le_refl _)]
    simp only [scaleR, Nat.sub_self, List.replicate_zero, List.append_nil]
    exact Ev.bind (trim_ev _ (by simp [hp]; omega)) (Ev.now _)
  | n + 1, i, p, c, hn, hi, hp, h0, h1 => by
    have ha := rd_digs hl (show i < l.length by omega)
    have hb := mul_bd ha.1 ha.2 b0 b1
    have ew : wrap64 ((i : Int) + 1) = ((i + 1 : Nat) : Int) := by rw [w64 _ (by omega) (by omega)]; omega
    have hlen2 : (p ++ List.replicate (l.length + 1 - i) (0 : Int)).length = l.length + 1 := by simp [hp]; omega
    have es : scaleR 4294967296 (l.drop i) b c = ((c + rd l (i : Int) * b) % 4294967296) :: scaleR 4294967296 (l.drop (i + 1)) b ((c + rd l (i : Int) * b) / 4294967296) := by
      rw [drop_at (l := l) (by omega)]
      simp only [scaleR]
    have hr : l.length + 1 - i - 1 = l.length + 1 - (i + 1) := by omega
    have ih := scale_l0 l b hl b0 b1 hmax n (i + 1) (p ++ [(c + rd l (i : Int) * b) % 4294967296]) ((c + rd l (i : Int) * b) / 4294967296) (by omega) (by omega) (by simp [hp]) (by omega) (by omega)
    rw [es, app_cons]
    refine Ev.step (fun k => integer_scale.l0.eq_2 ..) (Ev.pos (by omega) (Ev.pos (by omega) (Ev.pos (by omega) (Ev.pos (by omega) ?_))))
    have e1 : IntKind.u64.wrap (c + (IntKind.u64.wrap ((IntKind.u64.wrap (rd l (i : Int))) * (IntKind.u64.wrap b)))) = c + rd l (i : Int) * b := by
      rw [u64s (rd l (i : Int)) (by omega) (by omega), u64s b (by omega) (by omega), u64s _ hb.1 (by omega), u64s _ (by omega) (by omega)]
    rw [ew, e1, set_mid hp rfl (by omega), hr]
    exact ih
theorem scale_ev (l : List Int) (b c : Int) (hl : Digs 4294967296 l) (b0 : 0 ≤ b) (b1 : b < 4294967296) (c0 : 0 ≤ c) (c1 : c < 4294967296) (hmax : l.length ≤ 70368744177663) (n : Nat) (hn : val 4294967296 l * b + c = n) :
    Ev (fun k => integer_scale.f k l b c) (dgs BB n) := by
  unfold integer_scale.f
  have hr := scaleR_all l b c hl b0 b1 c0 c1
  rw [w64 _ (by omega) (by omega)]
  refine Ev.pos (by omega) (Ev.pos (by omega) ?_)
  have := scale_l0 l b hl b0 b1 hmax l.length 0 [] c (by omega) (by omega) rfl c0 c1
  rw [show ((l.length : Int) + 1).toNat = l.length + 1 - 0 by omega, u64s c c0 (by omega)]
  rw [List.drop_zero, List.nil_append, List.nil_append, trimL_dgs BB2 hr.1 (hr.2.trans hn)] at this
  exact this
def shortR (b : Int) : List Int → List Int × Int
  | [] => ([], 0)
  | d :: l => (((shortR b l).2 * 4294967296 + d) / b :: (shortR b l).1, ((shortR b l).2 * 4294967296 + d) % b)
theorem shortR_all (b : Int) (b0 : 0 < b) (b1 : b < 4294967296) : ∀ (l : List Int), Digs 4294967296 l →
    Digs 4294967296 (shortR b l).1 ∧ val 4294967296 l = val 4294967296 (shortR b l).1 * b + (shortR b l).2 ∧ 0 ≤ (shortR b l).2 ∧ (shortR b l).2 < b ∧ (shortR b l).1.length = l.length
  | [], _ => ⟨Digs.nil _, by simp [shortR, val], by simp [shortR], by simpa [shortR] using b0, rfl⟩
  | d :: l, h => by
    obtain ⟨h1, h2, h3, h4, h5⟩ := shortR_all b b0 b1 l h.cons.2
    have hd := h.cons.1
    have hm := Int.emod_nonneg ((shortR b l).2 * 4294967296 + d) (show b ≠ 0 by omega)
    have hm2 := Int.emod_lt_of_pos ((shortR b l).2 * 4294967296 + d) b0
    have hq0 : 0 ≤ ((shortR b l).2 * 4294967296 + d) / b := Int.ediv_nonneg (by omega) (by omega)
    have hq1 : ((shortR b l).2 * 4294967296 + d) / b < 4294967296 := Int.ediv_lt_of_lt_mul b0 (by omega)
    have hdm := Int.mul_ediv_add_emod ((shortR b l).2 * 4294967296 + d) b
    rw [Int.mul_comm b] at hdm
    simp only [shortR]
    refine ⟨Digs.mk hq0 hq1 h1, ?_, hm, hm2, by simp [h5]⟩
    simp only [val]
    rw [h2, Int.add_mul, Int.mul_assoc]
    omega
theorem short_l0 (l : List Int) (b : Int) (hl : Digs 4294967296 l) (b0 : 0 < b) (b1 : b < 4294967296) (hmax : l.length ≤ 70368744177663) :
    ∀ (i : Nat), i ≤ l.length →
      Ev (fun k => integer_short.l0 k l b (List.replicate i 0 ++ (shortR b (l.drop i)).1) (shortR b (l.drop i)).2 ((i : Int) - 1)) (trimL (shortR b l).1, (shortR b l).2)
  | 0, hi => by
    have hs := shortR_all b b0 b1 l hl
    refine Ev.step (fun k => integer_short.l0.eq_2 ..) (Ev.neg (by omega) ?_)
    simp only [List.drop_zero, List.replicate_zero, List.nil_append]
    refine Ev.bind (trim_ev _ (by omega)) (Ev.some_ ?_)
    rw [Int.emod_eq_of_lt hs.2.2.1 (by omega)]
  | i + 1, hi => by
    have ha := rd_digs hl (show i < l.length by omega)
    have hs := shortR_all b b0 b1 (l.drop (i + 1)) (hl.drop _)
    have e : (((i + 1 : Nat) : Int) - 1) = (i : Int) := by omega
    have ew : wrap64 ((i : Int) - 1) = (i : Int) - 1 := w64 _ (by omega) (by omega)
    have hlen2 : (List.replicate (i + 1) (0 : Int) ++ (shortR b (l.drop (i + 1))).1).length = l.length := by simp [hs.2.2.2.2]; omega
    have ih := short_l0 l b hl b0 b1 hmax i (by omega)
    rw [e]
    refine Ev.step (fun k => integer_short.l0.eq_2 ..) (Ev.pos (by omega) (Ev.pos (by omega) (Ev.pos (by omega) (Ev.neg ?_ (Ev.pos (by omega) ?_)))))
    · rw [u64s b (by omega) (by omega)]; omega
    · rw [u64s b (by omega) (by omega), u64s (rd l (i : Int)) (by omega) (by omega), u64s (_ * 4294967296) (by omega) (by omega), or_high _ _ hs.2.2.1 (by omega) ha.1 ha.2, ew]
      have hq0 : 0 ≤ ((shortR b (l.drop (i + 1))).2 * 4294967296 + rd l (i : Int)) / b := Int.ediv_nonneg (by omega) (by omega)
      have hq1 : ((shortR b (l.drop (i + 1))).2 * 4294967296 + rd l (i : Int)) / b < 4294967296 := Int.ediv_lt_of_lt_mul b0 (by omega)
      have et : Int.tdiv ((shortR b (l.drop (i + 1))).2 * 4294967296 + rd l (i : Int)) b = ((shortR b (l.drop (i + 1))).2 * 4294967296 + rd l (i : Int)) / b := Int.tdiv_eq_ediv_of_nonneg (by omega)
      have em : Int.tmod ((shortR b (l.drop (i + 1))).2 * 4294967296 + rd l (i : Int)) b = ((shortR b (l.drop (i + 1))).2 * 4294967296 + rd l (i : Int)) % b := Int.tmod_eq_emod_of_nonneg (by omega)
      rw [et, em, u64s _ hq0 (by omega), Int.emod_eq_of_lt hq0 hq1]
      have hx : (List.replicate (i + 1) (0 : Int) ++ (shortR b (l.drop (i + 1))).1).set ((i : Int) : Int).toNat (((shortR b (l.drop (i + 1))).2 * 4294967296 + rd l (i : Int)) / b) = List.replicate i 0 ++ (shortR b (l.drop i)).1 := by
        rw [List.replicate_succ', List.append_assoc, Int.toNat_natCast]
        have : i = (List.replicate i (0 : Int)).length := by simp
        conv => lhs; arg 2; rw [this]
        rw [List.set_append_right _ _ (Nat.le_refl _), Nat.sub_self, drop_at (l := l) (i := i) (by omega)]
        rfl
      have hy : ((shortR b (l.drop (i + 1))).2 * 4294967296 + rd l (i : Int)) % b = (shortR b (l.drop i)).2 := by
        rw [drop_at (l := l) (i := i) (by omega)]; rfl
      rw [hx, hy]
      exact ih
theorem short_ev (l : List Int) (b : Int) (hl : Digs 4294967296 l) (b0 : 0 < b) (b1 : b < 4294967296) (hmax : l.length ≤ 70368744177663) :
    Ev (fun k => integer_short.f k l b) (dgs BB ((val 4294967296 l).toNat / b.toNat), ((val 4294967296 l).toNat % b.toNat : Nat)) := by
  unfold integer_short.f
  obtain ⟨h1, h2, h3, h4, h5⟩ := shortR_all b b0 b1 l hl
  have hv := val_nonneg (B := 4294967296) (by decide) h1
  have hv2 := val_nonneg (B := 4294967296) (by decide) hl
  have hp := Int.mul_nonneg hv (Int.le_of_lt b0)
  rw [w64 _ (by omega) (by omega)]
  refine Ev.pos (by omega) (Ev.pos (by omega) ?_)
  have := short_l0 l b hl b0 b1 hmax l.length (Nat.le_refl _)
  rw [List.drop_of_length_le (Nat.le_refl _)] at this
  simp only [shortR, List.append_nil] at this
  rw [show ((l.length : Int) : Int).toNat = l.length by omega]
  obtain ⟨q, hq⟩ : ∃ q : Nat, val 4294967296 (shortR b l).1 = q := ⟨_, (Int.toNat_of_nonneg hv).symm⟩
  obtain ⟨r, hr⟩ : ∃ r : Nat, (shortR b l).2 = r := ⟨_, (Int.toNat_of_nonneg h3).symm⟩
  obtain ⟨c, rfl⟩ : ∃ c : Nat, b = c := ⟨_, (Int.toNat_of_nonneg (by omega)).symm⟩
  have hn : (val 4294967296 l).toNat = q * c + r := by
    rw [h2, hq, hr]
    have : ((q : Int) * c + r) = ((q * c + r : Nat) : Int) := by push_cast; rfl
    rw [this, Int.toNat_natCast]
  have e1 : (q * c + r) / c = q := by
    rw [Nat.mul_comm, Nat.mul_add_div (by omega), Nat.div_eq_of_lt (by omega)]; omega
  have e2 : (q * c + r) % c = r := by
    rw [Nat.mul_comm, Nat.mul_add_mod, Nat.mod_eq_of_lt (by omega)]
  rw [trimL_dgs BB2 h1 hq, hr] at this
  rw [hn, Int.toNat_natCast, e1, e2]
  exact this
end Go.Proofs.YtiikfhdmclmjmaaDoor.Pure
namespace Go.Proofs.YtiikfhdmclmjmaaDoor.Pure
open Go.RowKit Go.Proofs.YtiikfhdmclmjmaaDoorW.PrintWords Go.Proofs.YtiikfhdmclmjmaaDoor.P
set_option linter.unusedVariables false
set_option linter.unusedSimpArgs false
def rowR (B x : Int) : List Int → List Int → Int → List Int
  | b :: m, o :: s, c => ((c + (x * b + o)) % B) :: rowR B x m s ((c + (x * b + o)) / B)
  | _, _, c => [c]
theorem rowR_len (B x : Int) : ∀ m s c, s.length = m.length → (rowR B x m s c).length = m.length + 1
  | [], [], _, _ => rfl
  | b :: m, o :: s, c, h => by simp [rowR, rowR_len B x m s _ (by simpa using h)]
theorem row_bd {x b o c : Int} (x0 : 0 ≤ x) (x1 : x < 4294967296) (b0 : 0 ≤ b) (b1 : b < 4294967296) (o0 : 0 ≤ o) (o1 : o < 4294967296) (c0 : 0 ≤ c) (c1 : c < 4294967296) :
    0 ≤ c + (x * b + o) ∧ c + (x * b + o) < 18446744073709551616 := by
  have := mul_bd x0 x1 b0 b1
  omega
theorem rowR_all : ∀ (x : Int) (m s : List Int) (c : Int), 0 ≤ x → x < 4294967296 → Digs 4294967296 m → Digs 4294967296 s → s.length = m.length → 0 ≤ c → c < 4294967296 →
    Digs 4294967296 (rowR 4294967296 x m s c) ∧ val 4294967296 (rowR 4294967296 x m s c) = x * val 4294967296 m + val 4294967296 s + c
  | x, [], [], c, _, _, _, _, _, c0, c1 => by
    refine ⟨Digs.mk c0 c1 (Digs.nil _), ?_⟩
    simp [rowR, val]
  | x, b :: m, o :: s, c, x0, x1, hm, hs, hl, c0, c1 => by
    have hb := hm.cons.1
    have ho := hs.cons.1
    have hbd := row_bd x0 x1 hb.1 hb.2 ho.1 ho.2 c0 c1
    have ih := rowR_all x m s ((c + (x * b + o)) / 4294967296) x0 x1 hm.cons.2 hs.cons.2 (by simpa using hl) (by omega) (by omega)
    refine ⟨Digs.mk (by omega) (by omega) ih.1, ?_⟩
    simp only [rowR, val, ih.2]
    have e : x * (4294967296 * val 4294967296 m) = 4294967296 * (x * val 4294967296 m) := by rw [← Int.mul_assoc, Int.mul_comm x, Int.mul_assoc]
    rw [Int.mul_add x, e]
    omega
def mulR (B : Int) : List Int → List Int → List Int → List Int
  | [], _, s => s
  | x :: l, m, s => hd0 (rowR B x m s 0) :: mulR B l m (rowR B x m s 0).tail
theorem mulR_len (B : Int) : ∀ l m s, s.length = m.length → (mulR B l m s).length = l.length + m.length
  | [], m, s, h => by simp [mulR, h]
  | x :: l, m, s, h => by
    have h1 := rowR_len B x m s 0 h
    simp only [mulR, List.length_cons]
    rw [mulR_len B l m _ (by simp [h1])]
    omega
theorem mulR_all : ∀ (l m s : List Int), Digs 4294967296 l → Digs 4294967296 m → Digs 4294967296 s → s.length = m.length →
    Digs 4294967296 (mulR 4294967296 l m s) ∧ val 4294967296 (mulR 4294967296 l m s) = val 4294967296 l * val 4294967296 m + val 4294967296 s
  | [], m, s, _, _, hs, _ => ⟨hs, by simp [mulR, val]⟩
  | x :: l, m, s, hl, hm, hs, h => by
    have hx := hl.cons.1
    have hr := rowR_all x m s 0 hx.1 hx.2 hm hs h (by omega) (by omega)
    have hlen := rowR_len 4294967296 x m s 0 h
    have ih := mulR_all l m (rowR 4294967296 x m s 0).tail hl.cons.2 hm (tail_digs hr.1) (by simp [hlen])
    have hh := hd0_digs (by decide) hr.1
    have hv := val_hd 4294967296 (rowR 4294967296 x m s 0)
    refine ⟨Digs.mk hh.1 hh.2 ih.1, ?_⟩
    simp only [mulR, val, ih.2]
    rw [Int.add_mul, Int.mul_assoc]
    omega
theorem rd_mid {p r : List Int} {o j : Int} {i : Nat} (hp : p.length = i) (hj : j = (i : Int)) : rd (p ++ o :: r) j = o := by
  subst hj
  rw [rd_at (by simp [hp])]
  subst hp
  simp
theorem set_mid2 {p r : List Int} {o j v : Int} {i : Nat} (hp : p.length = i) (hj : j = (i : Int)) : (p ++ o :: r).set j.toNat v = p ++ v :: r := by
  subst hj
  rw [Int.toNat_natCast, ← hp, List.set_append_right _ _ (Nat.le_refl _), Nat.sub_self]
  rfl
theorem mul_round {x b o c : Int} (x0 : 0 ≤ x) (x1 : x < 4294967296) (b0 : 0 ≤ b) (b1 : b < 4294967296) (o0 : 0 ≤ o) (o1 : o < 4294967296) (c0 : 0 ≤ c) (c1 : c < 4294967296) :
    IntKind.u64.wrap (c + (IntKind.u64.wrap ((IntKind.u64.wrap ((IntKind.u64.wrap x) * (IntKind.u64.wrap b))) + (IntKind.u64.wrap o)))) = c + (x * b + o) := by
  have h := mul_bd x0 x1 b0 b1
  rw [u64s x x0 (by omega), u64s b b0 (by omega), u64s o o0 (by omega), u64s (x * b) h.1 (by omega), u64s (x * b + o) (by omega) (by omega), u64s _ (by omega) (by omega)]
theorem mul_carry {x b o c : Int} (x0 : 0 ≤ x) (x1 : x < 4294967296) (b0 : 0 ≤ b) (b1 : b < 4294967296) (o0 : 0 ≤ o) (o1 : o < 4294967296) (c0 : 0 ≤ c) (c1 : c < 4294967296) :
    0 ≤ (c + (x * b + o)) / 4294967296 ∧ (c + (x * b + o)) / 4294967296 < 4294967296 := by
  have h := mul_bd x0 x1 b0 b1
  generalize x * b = y at *
  constructor <;> omega
section
variable (l m : List Int) (f0 f1 : Bool) (h1 : List Int) (r : Bool × List Int)
theorem mul_row (x : Int) (i : Nat) (z : Nat) (hm : Digs 4294967296 m) (x0 : 0 ≤ x) (x1 : x < 4294967296) (hmax : l.length + m.length ≤ 70368744177664) (hi : i < l.length) :
    ∀ (n j : Nat) (p s : List Int) (c : Int), m.length - j = n → j ≤ m.length → p.length = i + j → s.length = m.length - j → Digs 4294967296 s → 0 ≤ c → c < 4294967296 → p.length + s.length + (z + 1) = l.length + m.length →
      Ev (fun k => integer_Mul.l0 k (p ++ rowR 4294967296 x (m.drop j) s c ++ List.replicate z 0) l (l.length : Int) ((i : Int) + 1) f0 h1 f1 m) r →
      Ev (fun k => integer_Mul.l1 k (p ++ s ++ List.replicate (z + 1) 0) (i : Int) x c l (l.length : Int) (i : Int) m (m.length : Int) (j : Int) f0 h1 f1 m) r
  | 0, j, p, s, c, hn, hj, hp, hsl, hs, c0, c1, htot, H => by
    obtain rfl : j = m.length := by omega
    obtain rfl : s = [] := List.length_eq_zero_iff.1 (by omega)
    rw [List.drop_of_length_le (Nat.le_refl _)] at H
    simp only [List.append_nil, rowR] at H ⊢
    refine Ev.step (fun k => integer_Mul.l1.eq_2 ..) (Ev.neg (by omega) ?_)
    rw [wadd (by omega), w64 ((i : Int) + 1) (by omega) (by omega)]
    refine Ev.pos (by omega) (Ev.pos (by simp [hp]; omega) ?_)
    rw [Int.emod_eq_of_lt c0 c1, set_mid hp rfl (by omega)]
    exact H
  | n + 1, j, p, s, c, hn, hj, hp, hsl, hs, c0, c1, htot, H => by
    obtain ⟨o, s, rfl⟩ : ∃ o s', s = o :: s' := by
      cases s with
      | nil => simp at hsl; omega
      | cons o s' => exact ⟨o, s', rfl⟩
    have hjm : j < m.length := by omega
    have q1 : (j : Int) < (m.length : Int) := by omega
    have q2 : (0 : Int) ≤ (j : Int) := by omega
    have el : p ++ o :: s ++ List.replicate (z + 1) 0 = p ++ o :: (s ++ List.replicate (z + 1) 0) := by simp
    have hlen2 : (p ++ o :: (s ++ List.replicate (z + 1) (0 : Int))).length = l.length + m.length := by simp at htot ⊢; omega
    have q3 : (0 : Int) ≤ ((i + j : Nat) : Int) := by omega
    have q4 : ((i + j : Nat) : Int) < ((p ++ o :: (s ++ List.replicate (z + 1) (0 : Int))).length : Int) := by rw [hlen2]; omega
    have w1 : i + j ≤ 9223372036854775807 := by omega
    have w2 : m.length ≤ 9223372036854775807 := by omega
    have r1 : m.length - (j + 1) = n := by omega
    have r3 : ∀ v : Int, (p ++ [v]).length = i + (j + 1) := by intro v; simp [hp]; omega
    have r4 : s.length = m.length - (j + 1) := by simp at hsl; omega
    have r5 : ∀ v : Int, (p ++ [v]).length + s.length + (z + 1) = l.length + m.length := by intro v; simp at htot ⊢; omega
    rw [drop_at (l := m) (i := j) hjm] at H
    simp only [rowR] at H
    rw [el]
    refine Ev.step (fun k => integer_Mul.l1.eq_2 ..) (Ev.pos q1 (Ev.pos q2 (Ev.pos q1 ?_)))
    rw [wadd w1, wsucc hjm w2]
    refine Ev.pos q3 (Ev.pos q4 ?_)
    rw [rd_mid hp rfl, set_mid2 hp rfl]
    clear hlen2 q1 q2 q3 q4 el
    have hb := rd_digs hm hjm
    have ho := hs.cons.1
    generalize rd m (j : Int) = b at *
    rw [mul_round x0 x1 hb.1 hb.2 ho.1 ho.2 c0 c1]
    have hc := mul_carry x0 x1 hb.1 hb.2 ho.1 ho.2 c0 c1
    have ih := mul_row x i z hm x0 x1 hmax hi n (j + 1) (p ++ [(c + (x * b + o)) % 4294967296]) s ((c + (x * b + o)) / 4294967296) r1 hjm (r3 _) r4 hs.cons.2 hc.1 hc.2 (r5 _)
    have e2 : p ++ (c + (x * b + o)) % 4294967296 :: (s ++ List.replicate (z + 1) 0) = p ++ [(c + (x * b + o)) % 4294967296] ++ s ++ List.replicate (z + 1) 0 := by simp
    rw [e2]
    refine ih ?_
    simpa using H
theorem mul_l0 (hl : Digs 4294967296 l) (hm : Digs 4294967296 m) (hmax : l.length + m.length ≤ 70368744177664) :
    ∀ (n i : Nat) (p s : List Int), l.length - i = n → i ≤ l.length → p.length = i → s.length = m.length → Digs 4294967296 s →
      Ev (fun k => integer_signed.f k (f0 != f1) (p ++ mulR 4294967296 (l.drop i) m s)) r →
      Ev (fun k => integer_Mul.l0 k (p ++ s ++ List.replicate (l.length - i) 0) l (l.length : Int) (i : Int) f0 h1 f1 m) r
  | 0, i, p, s, hn, hi, hp, hsl, hs, H => by
    obtain rfl : i = l.length := by omega
    rw [List.drop_of_length_le (Nat.le_refl _)] at H
    simp only [mulR] at H
    refine Ev.step (fun k => integer_Mul.l0.eq_2 ..) (Ev.neg (by omega) ?_)
    simp only [Nat.sub_self, List.replicate_zero, List.append_nil]
    exact Ev.bind H (Ev.now _)
  | n + 1, i, p, s, hn, hi, hp, hsl, hs, H => by
    have hx := rd_digs hl (show i < l.length by omega)
    obtain ⟨z, hz⟩ : ∃ z, l.length - i = z + 1 := ⟨n, hn⟩
    rw [drop_at (l := l) (i := i) (by omega)] at H
    simp only [mulR] at H
    have hr := rowR_all (rd l (i : Int)) m s 0 hx.1 hx.2 hm hs hsl (by omega) (by omega)
    have hlen := rowR_len 4294967296 (rd l (i : Int)) m s 0 hsl
    obtain ⟨a, t, hat⟩ : ∃ a t, rowR 4294967296 (rd l (i : Int)) m s 0 = a :: t := by
      cases h : rowR 4294967296 (rd l (i : Int)) m s 0 with
      | nil => rw [h] at hlen; simp at hlen
      | cons a t => exact ⟨a, t, rfl⟩
    rw [hat] at H hr hlen
    simp only [hd0, List.tail_cons] at H
    have ih := mul_l0 hl hm hmax n (i + 1) (p ++ [a]) t (by omega) (by omega) (by simp [hp]) (by simpa using hlen) hr.1.cons.2 (by simpa using H)
    refine Ev.step (fun k => integer_Mul.l0.eq_2 ..) (Ev.pos (by omega) (Ev.pos (by omega) (Ev.pos (by omega) ?_)))
    rw [hz]
    refine mul_row l m f0 f1 h1 r (rd l (i : Int)) i z hm hx.1 hx.2 hmax (by omega) m.length 0 p s 0 (by omega) (by omega) (by omega) (by omega) hs (by omega) (by omega) (by omega) ?_
    rw [List.drop_zero, hat]
    have e1 : l.length - (i + 1) = z := by omega
    rw [e1] at ih
    have e2 : p ++ a :: t ++ List.replicate z 0 = p ++ [a] ++ t ++ List.replicate z 0 := by simp
    have e3 : ((i : Int) + 1) = ((i + 1 : Nat) : Int) := by omega
    rw [e2, e3]
    exact ih
end
theorem mul_ev (x y : Int) (h : (lm x).length + (lm y).length ≤ 70368744177664) :
    Ev (fun k => integer_Mul.f k (decide (x < 0)) (lm x) (decide (y < 0)) (lm y)) (decide (x * y < 0), lm (x * y)) := by
  unfold integer_Mul.f
  have hx := lm_val x
  have hy := lm_val y
  have hr := mulR_all (lm x) (lm y) (List.replicate (lm y).length 0) (lm_digs x) (lm_digs y) (Digs.zeros _ (by decide) _) (by simp)
  have hlen := mulR_len 4294967296 (lm x) (lm y) (List.replicate (lm y).length 0) (by simp)
  rw [w64 _ (by omega) (by omega)]
  refine Ev.pos (by omega) (Ev.pos (by omega) ?_)
  have e : List.replicate (((lm x).length : Int) + ((lm y).length : Int)).toNat (0 : Int) = [] ++ List.replicate (lm y).length 0 ++ List.replicate ((lm x).length - 0) 0 := by
    rw [List.nil_append, List.replicate_append_replicate]
    congr 1
    omega
  rw [e]
  refine mul_l0 (lm x) (lm y) _ _ _ _ (lm_digs x) (lm_digs y) h (lm x).length 0 [] (List.replicate (lm y).length 0) (by omega) (by omega) rfl (by simp) (Digs.zeros _ (by decide) _) ?_
  rw [List.drop_zero, List.nil_append]
  refine signed_to _ _ (x * y).natAbs (x * y) (by omega) hr.1 ?_ ?_
  · rw [hr.2, val_zeros, hx, hy, Int.natAbs_mul]
    push_cast
    omega
  · rcases Int.lt_or_le x 0 with hx0 | hx0 <;> rcases Int.lt_or_le y 0 with hy0 | hy0
    · rw [if_neg (by simp [hx0, hy0])]
      have := Int.mul_pos_of_neg_of_neg hx0 hy0
      omega
    · rw [if_pos (by simp [hx0]; omega)]
      have := Int.mul_nonpos_of_nonpos_of_nonneg (Int.le_of_lt hx0) hy0
      omega
    · rw [if_pos (by simp [hy0]; omega)]
      have := Int.mul_nonpos_of_nonneg_of_nonpos hx0 (Int.le_of_lt hy0)
      omega
    · rw [if_neg (by simp; omega)]
      have := Int.mul_nonneg hx0 hy0
      omega
end Go.Proofs.YtiikfhdmclmjmaaDoor.Pure
namespace Go.Proofs.YtiikfhdmclmjmaaDoor.Pure
open Go.RowKit Go.Proofs.YtiikfhdmclmjmaaDoorW.PrintWords Go.Proofs.YtiikfhdmclmjmaaDoor.P
set_option linter.unusedVariables false
set_option linter.unusedSimpArgs false
def pd : Nat → Nat → List UInt8
  | 0, _ => []
  | k + 1, r => pd k (r / 10) ++ [UInt8.ofNat (48 + r % 10)]
theorem pd_len : ∀ k r, (pd k r).length = k
  | 0, _ => rfl
  | k + 1, r => by simp [pd, pd_len k]
theorem dec_small {n : Nat} (h : n < 10) : Lib.decDigits n = [UInt8.ofNat (48 + n)] := by rw [Lib.decDigits, dif_pos h]
theorem dec_big {n : Nat} (h : ¬ n < 10) : Lib.decDigits n = Lib.decDigits (n / 10) ++ [UInt8.ofNat (48 + n % 10)] := by rw [Lib.decDigits, dif_neg h]
theorem dec_len_pos (n : Nat) : 1 ≤ (Lib.decDigits n).length := by
  by_cases h : n < 10
  · rw [dec_small h]; simp
  · rw [dec_big h]; simp
theorem dec_split : ∀ (k n : Nat), 10 ^ k ≤ n → Lib.decDigits n = Lib.decDigits (n / 10 ^ k) ++ pd k (n % 10 ^ k)
  | 0, n, h => by simp [pd]
  | k + 1, n, h => by
    have hp : 1 ≤ 10 ^ k := Nat.one_le_pow _ _ (by decide)
    rw [Nat.pow_succ] at h
    have h1 : 10 ^ k ≤ n / 10 := (Nat.le_div_iff_mul_le (by decide)).2 h
    rw [dec_big (by omega), dec_split k (n / 10) h1, Nat.div_div_eq_div_mul, Nat.mul_comm 10 (10 ^ k), ← Nat.pow_succ]
    simp only [pd]
    have e1 : n % 10 ^ (k + 1) / 10 = n / 10 % 10 ^ k := by
      rw [Nat.pow_succ, Nat.mul_comm, Nat.mod_mul_right_div_self]
    have e2 : n % 10 ^ (k + 1) % 10 = n % 10 := Nat.mod_mod_of_dvd n ⟨10 ^ k, by rw [Nat.pow_succ, Nat.mul_comm]⟩
    rw [e1, e2, List.append_assoc]
theorem pd_zero : ∀ k, pd k 0 = List.replicate k 48
  | 0 => rfl
  | k + 1 => by rw [pd, Nat.zero_div, pd_zero k, List.replicate_succ']; rfl
theorem pd_pad : ∀ (k r : Nat), r < 10 ^ (k + 1) → (Lib.decDigits r).length ≤ k + 1 ∧ pd (k + 1) r = List.replicate (k + 1 - (Lib.decDigits r).length) 48 ++ Lib.decDigits r
  | k, r, h => by
    by_cases hr : r < 10
    · rw [dec_small hr, pd, Nat.div_eq_of_lt hr, Nat.mod_eq_of_lt hr, pd_zero]
      exact ⟨by simp, by simp⟩
    · cases k with
      | zero => simp at h; omega
      | succ k =>
        have h1 : r / 10 < 10 ^ (k + 1) := by
          rw [Nat.pow_succ, Nat.mul_comm] at h
          exact Nat.div_lt_of_lt_mul h
        obtain ⟨i1, i2⟩ := pd_pad k (r / 10) h1
        rw [dec_big hr]
        refine ⟨by simp; omega, ?_⟩
        rw [pd, i2]
        have e : k + 1 + 1 - (Lib.decDigits (r / 10) ++ [UInt8.ofNat (48 + r % 10)]).length = k + 1 - (Lib.decDigits (r / 10)).length := by simp
        rw [e, List.append_assoc]
theorem dec_len_split {k n : Nat} (h : 10 ^ k ≤ n) : (Lib.decDigits n).length = (Lib.decDigits (n / 10 ^ k)).length + k := by
  rw [dec_split k n h]
  simp [pd_len]
theorem dgs_lt_pow {B : Nat} (hB : 2 ≤ B) (n : Nat) : n < B ^ (dgs B n).length := by
  have := val_lt (B := (B : Int)) (by omega) (dgs_digs hB n)
  rw [dgs_val hB n] at this
  exact_mod_cast this
theorem dgs_len_mono {m n : Nat} (h : m ≤ n) : (dgs BB m).length ≤ (dgs BB n).length :=
  dgs_len BB2 _ m (Nat.lt_of_le_of_lt h (dgs_lt_pow BB2 n))
theorem rev_l0 : ∀ (n : Nat) (m a b : List ByteArray), m.length = n → a.length + m.length + b.length ≤ 4611686018427387904 → Ev (fun k => slices_Reverse_string_string.l0 k (a ++ m ++ b) (a.length : Int) ((a.length : Int) + (m.length : Int) - 1)) (a ++ m.reverse ++ b)
  | n, m, a, b, hn, hmax => by
    by_cases h : m.length < 2
    · refine Ev.step (fun k => slices_Reverse_string_string.l0.eq_2 ..) (Ev.neg (by omega) (Ev.some_ ?_))
      have : m.reverse = m := by
        match m, h with
        | [], _ => rfl
        | [x], _ => rfl
      rw [this]
    · obtain ⟨x, m1, rfl⟩ : ∃ x m1, m = x :: m1 := by
        cases m with
        | nil => simp at h
        | cons x m1 => exact ⟨x, m1, rfl⟩
      obtain ⟨m2, y, rfl⟩ : ∃ m2 y, m1 = m2 ++ [y] := ⟨m1.dropLast, m1.getLast (fun e => by rw [e] at h; simp at h), (List.dropLast_concat_getLast _).symm⟩
      have hl : (x :: (m2 ++ [y])).length = m2.length + 2 := by simp
      have hL : (a ++ x :: (m2 ++ [y]) ++ b).length = a.length + (m2.length + 2) + b.length := by simp; omega
      have ej : ((a.length : Int) + ((x :: (m2 ++ [y])).length : Int) - 1) = ((a.length + m2.length + 1 : Nat) : Int) := by rw [hl]; omega
      have q1 : (a.length : Int) < ((a.length + m2.length + 1 : Nat) : Int) := by omega
      have q2 : (0 : Int) ≤ ((a.length + m2.length + 1 : Nat) : Int) := by omega
      have q3 : ((a.length + m2.length + 1 : Nat) : Int) < ((a ++ x :: (m2 ++ [y]) ++ b).length : Int) := by rw [hL]; omega
      have q4 : (a.length : Int) < ((a ++ x :: (m2 ++ [y]) ++ b).length : Int) := by rw [hL]; omega
      have q5 : (0 : Int) ≤ (a.length : Int) := by omega
      have w1 : a.length < a.length + 1 := by omega
      have w2 : a.length + 1 ≤ 9223372036854775807 := by omega
      have w3 : wrap64 (((a.length + m2.length + 1 : Nat) : Int) - 1) = ((a ++ [y]).length : Int) + (m2.length : Int) - 1 := by
        rw [w64 _ (by omega) (by omega)]; simp; omega
      have e1 : rdOf ByteArray.empty (a ++ x :: (m2 ++ [y]) ++ b) ((a.length + m2.length + 1 : Nat) : Int) = y := by
        unfold rdOf
        rw [Int.toNat_natCast, List.getD_eq_getElem?_getD]
        have : a ++ x :: (m2 ++ [y]) ++ b = (a ++ x :: m2) ++ y :: b := by simp
        rw [this, show a.length + m2.length + 1 = (a ++ x :: m2).length by simp; omega, List.getElem?_append_right (Nat.le_refl _), Nat.sub_self]
        rfl
      have e2 : rdOf ByteArray.empty (a ++ x :: (m2 ++ [y]) ++ b) (a.length : Int) = x := by
        unfold rdOf
        rw [Int.toNat_natCast, List.getD_eq_getElem?_getD, List.append_assoc, List.getElem?_append_right (Nat.le_refl _), Nat.sub_self]
        rfl
      have e3 : ((a ++ x :: (m2 ++ [y]) ++ b).set ((a.length : Int)).toNat y).set (((a.length + m2.length + 1 : Nat) : Int)).toNat x = (a ++ [y]) ++ m2 ++ (x :: b) := by
        rw [Int.toNat_natCast, Int.toNat_natCast]
        have t1 : (a ++ x :: (m2 ++ [y]) ++ b).set a.length y = (a ++ y :: m2) ++ y :: b := by
          rw [List.append_assoc, List.set_append_right _ _ (Nat.le_refl _), Nat.sub_self]
          simp
        rw [t1, show a.length + m2.length + 1 = (a ++ y :: m2).length by simp; omega, List.set_append_right _ _ (Nat.le_refl _), Nat.sub_self]
        simp
      rw [ej]
      have ih := rev_l0 m2.length m2 (a ++ [y]) (x :: b) rfl (by simp at hmax ⊢; omega)
      have e4 : a ++ (x :: (m2 ++ [y])).reverse ++ b = (a ++ [y]) ++ m2.reverse ++ (x :: b) := by simp
      rw [e4]
      refine Ev.step (fun k => slices_Reverse_string_string.l0.eq_2 ..) (Ev.pos q1 (Ev.pos q2 (Ev.pos q3 (Ev.pos q5 (Ev.pos q4 ?_)))))
      rw [e1, e2, e3, w3, wsucc w1 w2]
      have e5 : ((a.length + 1 : Nat) : Int) = ((a ++ [y]).length : Int) := by simp
      rw [e5]
      exact ih
termination_by n => n
decreasing_by simp at hn; omega
theorem rev_ev (m : List ByteArray) (h : m.length ≤ 4611686018427387904) : Ev (fun k => slices_Reverse_string_string.f k m) m.reverse := by
  unfold slices_Reverse_string_string.f
  have := rev_l0 m.length m [] [] rfl (by simpa using h)
  rw [w64 _ (by omega) (by omega)]
  simpa using this
def flat (xs : List ByteArray) : List UInt8 := (xs.reverse.map (·.data.toList)).flatten
theorem flat_snoc (xs : List ByteArray) (s : ByteArray) : flat (xs ++ [s]) = s.data.toList ++ flat xs := by simp [flat]
def sgn (neg : Bool) (l : List UInt8) : ByteArray := ⟨(if neg = true then 45 :: l else l).toArray⟩
theorem join_flat (xs : List (List UInt8)) : Lib.join xs [] = xs.flatten := by
  induction xs with
  | nil => rfl
  | cons x r ih =>
    rw [Lib.join_cons]
    simp [Lib.joinTail]
theorem sgn_app (l : List UInt8) : (⟨#[45]⟩ : ByteArray) ++ ⟨l.toArray⟩ = ⟨(45 :: l).toArray⟩ := by
  apply ByteArray.ext
  simp [ByteArray.data_append]
theorem bsize (l : List UInt8) : (⟨l.toArray⟩ : ByteArray).size = l.length := by simp [ByteArray.size]
theorem fin_ev (xs : List ByteArray) (neg : Bool) (h1 : xs.length ≤ 140737488355327) (h2 : (flat xs).length ≤ 140737488355327) :
    Ev (fun k => (slices_Reverse_string_string.f k xs).bind fun t173 => ((strings_Join.f t173 (⟨#[]⟩ : ByteArray)).bind fun t174 => (if neg = true then (if 1 + t174.size ≤ 9223372036854775807 then (some ((⟨#[45]⟩ : ByteArray) ++ t174)) else (none)) else (some t174)))) (sgn neg (flat xs)) := by
  refine Ev.bind (rev_ev xs (by omega)) (Ev.bind0 (a := ⟨(flat xs).toArray⟩) ?_ ?_)
  · unfold strings_Join.f
    have e : Lib.join (xs.reverse.map (·.data.toList)) (ByteArray.mk #[]).data.toList = flat xs := join_flat _
    rw [e, if_pos ⟨by simp; omega, by omega⟩]
  · by_cases hn : neg = true
    · refine Ev.pos hn (Ev.pos (by rw [bsize]; omega) (Ev.some_ ?_))
      rw [sgn_app, sgn, if_pos hn]
    · refine Ev.neg hn (Ev.some_ ?_)
      rw [sgn, if_neg hn]
theorem itoa_nat (n : Nat) : Lib.itoa (n : Int) = Lib.decDigits n := by
  unfold Lib.itoa
  rw [if_neg (by omega), Int.toNat_natCast]
theorem text_l0 (mg : List Int) (neg : Bool) : ∀ (n : Nat) (xs : List ByteArray), (dgs BB n).length ≤ 70368744177663 → xs.length + (if n = 0 then 0 else 2 * (Lib.decDigits n).length) + (flat xs).length ≤ 1099511627776 →
    Ev (fun k => integer_Int_Text.l0 k xs (dgs BB n) neg mg) (sgn neg ((if n = 0 then [] else Lib.decDigits n) ++ flat xs)) := by
  intro n
  induction n using Nat.strongRecOn with
  | _ n ih =>
    intro xs hlen htot
    rcases Nat.eq_zero_or_pos n with rfl | hn
    · rw [dgs_zero, if_pos rfl]
      rw [if_pos rfl] at htot
      refine Ev.step (fun k => integer_Int_Text.l0.eq_2 ..) (Ev.neg (by simp) ?_)
      exact fin_ev xs neg (by omega) (by omega)
    · rw [if_neg (by omega)] at htot ⊢
      have hne : 0 < (dgs BB n).length := by
        have := mt (dgs_nil BB2 (n := n)).1 (by omega)
        exact Nat.pos_of_ne_zero (fun e => this (List.length_eq_zero_iff.1 e))
      have hs := short_ev (dgs BB n) 1000000000 (dgs_digs BB2 n) (by decide) (by decide) hlen
      have hv : (val 4294967296 (dgs BB n)).toNat = n := by
        have := dgs_val BB2 n
        have h2 : val 4294967296 (dgs BB n) = n := this
        rw [h2, Int.toNat_natCast]
      rw [hv, show (1000000000 : Int).toNat = 1000000000 from rfl] at hs
      have hr : n % 1000000000 < 10 ^ (8 + 1) := Nat.mod_lt _ (by decide)
      obtain ⟨p1, p2⟩ := pd_pad 8 (n % 1000000000) hr
      refine Ev.step (fun k => integer_Int_Text.l0.eq_2 ..) (Ev.pos (by omega) (Ev.bind hs ?_))
      refine Ev.bind0 (a := ⟨(Lib.decDigits (n % 1000000000)).toArray⟩) ?_ ?_
      · have w : wrap64 ((n % 1000000000 : Nat) : Int) = ((n % 1000000000 : Nat) : Int) := w64 _ (by omega) (by omega)
        show strconv_Itoa_47.f (wrap64 ((n % 1000000000 : Nat) : Int)) = _
        rw [w]
        unfold strconv_Itoa_47.f
        rw [if_pos ⟨by omega, by omega⟩, itoa_nat]
      · have hq := dgs_nil BB2 (n := n / 1000000000)
        by_cases hb : n < 1000000000
        · have hz : n / 1000000000 = 0 := by omega
          have hm : n % 1000000000 = n := by omega
          rw [hz, hm, dgs_zero]
          refine Ev.neg (by simp) (Ev.pos (by omega) ?_)
          have := ih 0 hn (xs ++ [⟨(Lib.decDigits n).toArray⟩]) (by simp [dgs_zero]) (by
            rw [flat_snoc, if_pos rfl]
            have := dec_len_pos n
            simp
            omega)
          rw [dgs_zero, if_pos rfl, flat_snoc] at this
          exact this
        · have hz : n / 1000000000 ≠ 0 := by omega
          have hql : 0 < (dgs BB (n / 1000000000)).length := Nat.pos_of_ne_zero (fun e => hz (hq.1 (List.length_eq_zero_iff.1 e)))
          have hsplit := dec_split 9 n (by omega)
          have hls := dec_len_split (k := 9) (n := n) (by omega)
          have e9 : (10 : Nat) ^ 9 = 1000000000 := rfl
          rw [e9] at hsplit hls
          refine Ev.pos (by show ((dgs BB (n / 1000000000)).length : Int) > 0; omega) ?_
          have hsz : (⟨(Lib.decDigits (n % 1000000000)).toArray⟩ : ByteArray).size = (Lib.decDigits (n % 1000000000)).length := bsize _
          refine Ev.bind0 (a := ⟨(List.replicate (9 - (Lib.decDigits (n % 1000000000)).length) 48).toArray⟩) ?_ ?_
          · rw [hsz, w64 _ (by omega) (by omega)]
            unfold strings_Repeat.f
            have c1 : (9 - ((Lib.decDigits (n % 1000000000)).length : Int)).toNat = 9 - (Lib.decDigits (n % 1000000000)).length := by omega
            rw [if_pos ⟨by omega, by omega, by rw [c1]; show 1 * _ ≤ _; omega⟩, c1]
            have := Lib.repeatL_replicate 48 1 (9 - (Lib.decDigits (n % 1000000000)).length)
            rw [Nat.mul_one] at this
            exact congrArg (fun l => some (ByteArray.mk (List.toArray l))) this
          · have happ : (⟨(List.replicate (9 - (Lib.decDigits (n % 1000000000)).length) 48).toArray⟩ : ByteArray) ++ ⟨(Lib.decDigits (n % 1000000000)).toArray⟩ = ⟨(pd 9 (n % 1000000000)).toArray⟩ := by
              apply ByteArray.ext
              rw [p2]
              simp [ByteArray.data_append]
            refine Ev.pos (by rw [bsize, bsize]; simp; omega) (Ev.pos (by omega) ?_)
            rw [happ]
            have := ih (n / 1000000000) (by omega) (xs ++ [⟨(pd 9 (n % 1000000000)).toArray⟩]) (Nat.le_trans (dgs_len_mono (Nat.div_le_self _ _)) hlen) (by
              rw [flat_snoc, if_neg hz]
              simp [pd_len]
              omega)
            rw [if_neg hz, flat_snoc, ← List.append_assoc] at this
            rw [hsplit]
            exact this
theorem text_ev (z : Int) (h1 : (lm z).length ≤ 70368744177663) (h2 : (Lib.decDigits z.natAbs).length ≤ 274877906944) :
    Ev (fun k => integer_Int_Text.f k (decide (z < 0)) (lm z)) ⟨(Lib.itoa z).toArray⟩ := by
  unfold integer_Int_Text.f
  by_cases hz : z = 0
  · refine Ev.pos (by have := lm_len0.2 hz; omega) (Ev.some_ ?_)
    subst hz
    show _ = (⟨(Lib.itoa ((0 : Nat) : Int)).toArray⟩ : ByteArray)
    rw [itoa_nat, dec_small (by decide)]
    rfl
  · refine Ev.neg (by have := mt lm_len0.1 hz; omega) ?_
    have := text_l0 (lm z) (decide (z < 0)) z.natAbs [] h1 (by rw [if_neg (by omega)]; simp [flat]; omega)
    rw [if_neg (by omega)] at this
    have e : sgn (decide (z < 0)) (Lib.decDigits z.natAbs ++ flat []) = ⟨(Lib.itoa z).toArray⟩ := by
      unfold sgn Lib.itoa flat
      by_cases hn : z < 0
      · rw [if_pos (by simpa using hn), if_pos hn]; simp
      · rw [if_neg (by simpa using hn), if_neg hn, show z.toNat = z.natAbs by omega]; simp
    rw [e] at this
    exact this
end Go.Proofs.YtiikfhdmclmjmaaDoor.Pure
namespace Go.Proofs.YtiikfhdmclmjmaaDoor.P
open Go.RowKit Go.Proofs.YtiikfhdmclmjmaaDoorW.PrintWords Go.Proofs.YtiikfhdmclmjmaaDoorW.PrintLast
set_option linter.unusedVariables false
set_option linter.unusedSimpArgs false
def dowelref01_trim.l0 : Nat → List Int → Int → Option (List Int)
  | 0, _, _ => none
  | k + 1, x0, x3 => if x3 > 0 then (if 0 ≤ (wrap64 (x3 - 1)) then (if (wrap64 (x3 - 1)) < (x0.length : Int) then (if (rd x0 (wrap64 (x3 - 1))) = 0 then (dowelref01_trim.l0 k x0 (wrap64 (x3 - 1))) else (if 0 ≤ x3 then (if x3 ≤ (x0.length : Int) then (some (x0.take (x3 : Int).toNat)) else (none)) else (none))) else (none)) else (none)) else (if 0 ≤ x3 then (if x3 ≤ (x0.length : Int) then (some (x0.take (x3 : Int).toNat)) else (none)) else (none))
def dowelref01_trim.f (k : Nat) (l0 : List Int) : Option (List Int) := dowelref01_trim.l0 k l0 (l0.length : Int)
theorem dowelref01_trim.mono_l : ∀ k, (∀ y0 y1, LeO (dowelref01_trim.l0 k y0 y1) (dowelref01_trim.l0 (k + 1) y0 y1))
  | 0 => fun _ _ r h => by simp [dowelref01_trim.l0] at h
  | k + 1 => by
    have ih0 := dowelref01_trim.mono_l k
    · intro y0 y1
      unfold dowelref01_trim.l0
      repeat' first
      | (with_reducible exact ih0 _ _)
      | (with_reducible exact LeO.refl _)
      | (with_reducible exact LeO.none _)
      | (with_reducible refine LeO.ite ?_ ?_)
      | (with_reducible refine LeO.bind ?_ (fun _ => ?_))
      | exact ih0 _ _
      | exact LeO.none _
      | refine LeO.ite ?_ ?_
      | refine LeO.bind ?_ (fun _ => ?_)
theorem dowelref01_trim.mono : ∀ a0 k, LeO (dowelref01_trim.f k a0) (dowelref01_trim.f (k + 1) a0) := by
  intro a0 k
  have ih0 := dowelref01_trim.mono_l k
  unfold dowelref01_trim.f
  repeat' first
      | (with_reducible exact ih0 _ _)
      | (with_reducible exact LeO.refl _)
      | (with_reducible exact LeO.none _)
      | (with_reducible refine LeO.ite ?_ ?_)
      | (with_reducible refine LeO.bind ?_ (fun _ => ?_))
      | exact ih0 _ _
      | exact LeO.none _
      | refine LeO.ite ?_ ?_
      | refine LeO.bind ?_ (fun _ => ?_)
end Go.Proofs.YtiikfhdmclmjmaaDoor.P
namespace Go.Proofs.YtiikfhdmclmjmaaDoor.P
open Go.RowKit Go.Proofs.YtiikfhdmclmjmaaDoorW.PrintWords Go.Proofs.YtiikfhdmclmjmaaDoorW.PrintLast
set_option linter.unusedVariables false
set_option linter.unusedSimpArgs false
mutual
def dowelref01_text.j0 : Nat → List Int → List Int → Option (ByteArray)
  | 0, _, _ => none
  | k + 1, x1, x5 => dowelref01_text.l0 k x1 x5 (wrap64 ((x1.length : Int) - 1))
def dowelref01_text.l0 : Nat → List Int → List Int → Int → Option (ByteArray)
  | 0, _, _, _ => none
  | k + 1, x1, x5, x6 => if x6 ≥ 0 then (if 0 ≤ x6 then (if x6 < (x1.length : Int) then (if x5.length < 140737488355328 then (dowelref01_text.l0 k x1 (x5 ++ [(wrap64 (48 + (rd x1 x6))) % 256]) (wrap64 (x6 - 1))) else (none)) else (none)) else (none)) else (some (strOfNums x5))
end
def dowelref01_text.f (k : Nat) (a0 : Bool) (l1 : List Int) : Option (ByteArray) := (dowelref01_trim.f k l1).bind fun t420 => (if (t420.length : Int) = 0 then (some (⟨#[48]⟩ : ByteArray)) else (if a0 = true then (if ([] : List Int).length < 140737488355328 then (dowelref01_text.j0 k t420 (([] : List Int) ++ [45])) else (none)) else (dowelref01_text.j0 k t420 ([] : List Int))))
theorem dowelref01_text.mono_l : ∀ k, (∀ y0 y1, LeO (dowelref01_text.j0 k y0 y1) (dowelref01_text.j0 (k + 1) y0 y1)) ∧ (∀ y0 y1 y2, LeO (dowelref01_text.l0 k y0 y1 y2) (dowelref01_text.l0 (k + 1) y0 y1 y2))
  | 0 => ⟨fun _ _ r h => by simp [dowelref01_text.j0] at h, fun _ _ _ r h => by simp [dowelref01_text.l0] at h⟩
  | k + 1 => by
    obtain ⟨ih0, ih1⟩ := dowelref01_text.mono_l k
    refine ⟨?_, ?_⟩
    · intro y0 y1
      unfold dowelref01_text.j0
      repeat' first
      | (with_reducible exact ih0 _ _)
      | (with_reducible exact ih1 _ _ _)
      | (with_reducible exact dowelref01_trim.mono _ _)
      | (with_reducible exact LeO.refl _)
      | (with_reducible exact LeO.none _)
      | (with_reducible refine LeO.ite ?_ ?_)
      | (with_reducible refine LeO.bind ?_ (fun _ => ?_))
      | exact ih0 _ _
      | exact ih1 _ _ _
      | exact dowelref01_trim.mono _ _
      | exact LeO.none _
      | refine LeO.ite ?_ ?_
      | refine LeO.bind ?_ (fun _ => ?_)
    · intro y0 y1 y2
      unfold dowelref01_text.l0
      repeat' first
      | (with_reducible exact ih0 _ _)
      | (with_reducible exact ih1 _ _ _)
      | (with_reducible exact dowelref01_trim.mono _ _)
      | (with_reducible exact LeO.refl _)
      | (with_reducible exact LeO.none _)
      | (with_reducible refine LeO.ite ?_ ?_)
      | (with_reducible refine LeO.bind ?_ (fun _ => ?_))
      | exact ih0 _ _
      | exact ih1 _ _ _
      | exact dowelref01_trim.mono _ _
      | exact LeO.none _
      | refine LeO.ite ?_ ?_
      | refine LeO.bind ?_ (fun _ => ?_)
theorem dowelref01_text.mono : ∀ a0 a1 k, LeO (dowelref01_text.f k a0 a1) (dowelref01_text.f (k + 1) a0 a1) := by
  intro a0 a1 k
  obtain ⟨ih0, ih1⟩ := dowelref01_text.mono_l k
  unfold dowelref01_text.f
  repeat' first
      | (with_reducible exact ih0 _ _)
      | (with_reducible exact ih1 _ _ _)
      | (with_reducible exact dowelref01_trim.mono _ _)
      | (with_reducible exact LeO.refl _)
      | (with_reducible exact LeO.none _)
      | (with_reducible refine LeO.ite ?_ ?_)
      | (with_reducible refine LeO.bind ?_ (fun _ => ?_))
      | exact ih0 _ _
      | exact ih1 _ _ _
      | exact dowelref01_trim.mono _ _
      | exact LeO.none _
      | refine LeO.ite ?_ ?_
      | refine LeO.bind ?_ (fun _ => ?_)
end Go.Proofs.YtiikfhdmclmjmaaDoor.P
namespace Go.Proofs.YtiikfhdmclmjmaaDoor.P
open Go.RowKit Go.Proofs.YtiikfhdmclmjmaaDoorW.PrintWords Go.Proofs.YtiikfhdmclmjmaaDoorW.PrintLast
set_option linter.unusedVariables false
set_option linter.unusedSimpArgs false
def dowelref01_digits.l0 : Nat → ByteArray → List Int → Int → Option (List Int)
  | 0, _, _, _ => none
  | k + 1, x0, x3, x4 => if x4 ≥ 0 then (if 0 ≤ x4 then (if x4 < (x0.size : Int) then (if (bt x0 x4) = 45 then (dowelref01_digits.l0 k x0 x3 (wrap64 (x4 - 1))) else (if x3.length < 17592186044416 then (dowelref01_digits.l0 k x0 (x3 ++ [wrap64 ((wrap64 (bt x0 x4)) - 48)]) (wrap64 (x4 - 1))) else (none))) else (none)) else (none)) else ((dowelref01_trim.f k x3).bind fun t531 => (some t531))
def dowelref01_digits.f (k : Nat) (a0 : ByteArray) : Option (List Int) := dowelref01_digits.l0 k a0 ([] : List Int) (wrap64 ((a0.size : Int) - 1))
theorem dowelref01_digits.mono_l : ∀ k, (∀ y0 y1 y2, LeO (dowelref01_digits.l0 k y0 y1 y2) (dowelref01_digits.l0 (k + 1) y0 y1 y2))
  | 0 => fun _ _ _ r h => by simp [dowelref01_digits.l0] at h
  | k + 1 => by
    have ih0 := dowelref01_digits.mono_l k
    · intro y0 y1 y2
      unfold dowelref01_digits.l0
      repeat' first
      | (with_reducible exact ih0 _ _ _)
      | (with_reducible exact dowelref01_trim.mono _ _)
      | (with_reducible exact LeO.refl _)
      | (with_reducible exact LeO.none _)
      | (with_reducible refine LeO.ite ?_ ?_)
      | (with_reducible refine LeO.bind ?_ (fun _ => ?_))
      | exact ih0 _ _ _
      | exact dowelref01_trim.mono _ _
      | exact LeO.none _
      | refine LeO.ite ?_ ?_
      | refine LeO.bind ?_ (fun _ => ?_)
theorem dowelref01_digits.mono : ∀ a0 k, LeO (dowelref01_digits.f k a0) (dowelref01_digits.f (k + 1) a0) := by
  intro a0 k
  have ih0 := dowelref01_digits.mono_l k
  unfold dowelref01_digits.f
  repeat' first
      | (with_reducible exact ih0 _ _ _)
      | (with_reducible exact dowelref01_trim.mono _ _)
      | (with_reducible exact LeO.refl _)
      | (with_reducible exact LeO.none _)
      | (with_reducible refine LeO.ite ?_ ?_)
      | (with_reducible refine LeO.bind ?_ (fun _ => ?_))
      | exact ih0 _ _ _
      | exact dowelref01_trim.mono _ _
      | exact LeO.none _
      | refine LeO.ite ?_ ?_
      | refine LeO.bind ?_ (fun _ => ?_)
end Go.Proofs.YtiikfhdmclmjmaaDoor.P
namespace Go.Proofs.YtiikfhdmclmjmaaDoor.P
open Go.RowKit Go.Proofs.YtiikfhdmclmjmaaDoorW.PrintWords Go.Proofs.YtiikfhdmclmjmaaDoorW.PrintLast
set_option linter.unusedVariables false
set_option linter.unusedSimpArgs false
def dowelref01_Sign.f (a0 : ByteArray) : Option (Int) := if a0.toList = ([48] : List UInt8) then (some 0) else (if 0 < (a0.size : Int) then (if (bt a0 0) = 45 then (some (-1)) else (some 1)) else (none))
end Go.Proofs.YtiikfhdmclmjmaaDoor.P
namespace Go.Proofs.YtiikfhdmclmjmaaDoor.P
open Go.RowKit Go.Proofs.YtiikfhdmclmjmaaDoorW.PrintWords Go.Proofs.YtiikfhdmclmjmaaDoorW.PrintLast
set_option linter.unusedVariables false
set_option linter.unusedSimpArgs false
def dowelref01_From.l0 : Nat → Int → List Int → Int → Option (ByteArray)
  | 0, _, _, _ => none
  | k + 1, x0, x3, x4 => if x4 = 0 then ((dowelref01_text.f k (decide (x0 < 0)) x3).bind fun t430 => (some t430)) else (if (Int.tmod x4 10) < 0 then (if x3.length < 17592186044416 then (dowelref01_From.l0 k x0 (x3 ++ [wrap64 (-(Int.tmod x4 10))]) (wrap64 (Int.tdiv x4 10))) else (none)) else (if x3.length < 17592186044416 then (dowelref01_From.l0 k x0 (x3 ++ [Int.tmod x4 10]) (wrap64 (Int.tdiv x4 10))) else (none)))
def dowelref01_From.f (k : Nat) (a0 : Int) : Option (ByteArray) := dowelref01_From.l0 k a0 ([] : List Int) a0
theorem dowelref01_From.mono_l : ∀ k, (∀ y0 y1 y2, LeO (dowelref01_From.l0 k y0 y1 y2) (dowelref01_From.l0 (k + 1) y0 y1 y2))
  | 0 => fun _ _ _ r h => by simp [dowelref01_From.l0] at h
  | k + 1 => by
    have ih0 := dowelref01_From.mono_l k
    · intro y0 y1 y2
      unfold dowelref01_From.l0
      repeat' first
      | (with_reducible exact ih0 _ _ _)
      | (with_reducible exact dowelref01_text.mono _ _ _)
      | (with_reducible exact LeO.refl _)
      | (with_reducible exact LeO.none _)
      | (with_reducible refine LeO.ite ?_ ?_)
      | (with_reducible refine LeO.bind ?_ (fun _ => ?_))
      | exact ih0 _ _ _
      | exact dowelref01_text.mono _ _ _
      | exact LeO.none _
      | refine LeO.ite ?_ ?_
      | refine LeO.bind ?_ (fun _ => ?_)
theorem dowelref01_From.mono : ∀ a0 k, LeO (dowelref01_From.f k a0) (dowelref01_From.f (k + 1) a0) := by
  intro a0 k
  have ih0 := dowelref01_From.mono_l k
  unfold dowelref01_From.f
  repeat' first
      | (with_reducible exact ih0 _ _ _)
      | (with_reducible exact dowelref01_text.mono _ _ _)
      | (with_reducible exact LeO.refl _)
      | (with_reducible exact LeO.none _)
      | (with_reducible refine LeO.ite ?_ ?_)
      | (with_reducible refine LeO.bind ?_ (fun _ => ?_))
      | exact ih0 _ _ _
      | exact dowelref01_text.mono _ _ _
      | exact LeO.none _
      | refine LeO.ite ?_ ?_
      | refine LeO.bind ?_ (fun _ => ?_)
end Go.Proofs.YtiikfhdmclmjmaaDoor.P
namespace Go.Proofs.YtiikfhdmclmjmaaDoor.Pure
open Go.RowKit Go.Proofs.YtiikfhdmclmjmaaDoorW.PrintWords Go.Proofs.YtiikfhdmclmjmaaDoor.P
set_option linter.unusedVariables false
set_option linter.unusedSimpArgs false
theorem TEN2 : 2 ≤ 10 := by decide
abbrev T (z : Int) : ByteArray := ⟨(Lib.itoa z).toArray⟩
def chr10 (d : Int) : UInt8 := UInt8.ofNat (48 + d.toNat)
theorem dec_dgs (n : Nat) (h : 0 < n) : Lib.decDigits n = (dgs 10 n).reverse.map chr10 := by
  induction n using Nat.strongRecOn with
  | _ n ih =>
    rw [dgs_pos TEN2 h, List.reverse_cons, List.map_append]
    by_cases hs : n < 10
    · rw [dec_small hs, Nat.div_eq_of_lt hs, dgs_zero, Nat.mod_eq_of_lt hs]
      simp [chr10]
    · rw [dec_big hs, ih (n / 10) (by omega) (by omega)]
      simp only [List.map_cons, List.map_nil, chr10, Int.toNat_natCast]
theorem dlen (s : ByteArray) : s.data.toList.length = s.size := Array.length_toList
theorem bt_get (s : ByteArray) (i : Nat) (h : i < s.size) : bt s (i : Int) = (s.data.toList[i]'(by rw [dlen]; exact h)).toNat := by
  unfold bt
  rw [dif_pos (by simpa using h)]
  simp [ByteArray.getElem_eq_getElem_data]
theorem itoa_len (z : Int) : (Lib.itoa z).length = (Lib.decDigits z.natAbs).length + (if z < 0 then 1 else 0) := by
  unfold Lib.itoa
  by_cases h : z < 0
  · rw [if_pos h, if_pos h]; simp
  · rw [if_neg h, if_neg h, show z.toNat = z.natAbs by omega]; simp
end Go.Proofs.YtiikfhdmclmjmaaDoor.Pure
namespace Go.Proofs.YtiikfhdmclmjmaaDoor.P
open Go.RowKit Go.Proofs.YtiikfhdmclmjmaaDoorW.PrintWords Go.Proofs.YtiikfhdmclmjmaaDoorW.PrintLast
set_option linter.unusedVariables false
set_option linter.unusedSimpArgs false
mutual
def integer_Int_Int.l0 : Nat → Int → List Int → Int → Int → Bool → List Int → Option (Int × Bool)
  | 0, _, _, _, _, _, _ => none
  | k + 1, x4, x12, x13, x14, x412000, x412001 => if x14 < x13 then (if 0 ≤ x14 then (if x14 < (x12.length : Int) then (if 0 ≤ (wrap64 (32 * x14)) then (integer_Int_Int.l0 k (Go.bits .or .u64 x4 (shl .u64 (IntKind.u64.wrap (rd x12 x14)) (wrap64 (32 * x14)))) x12 x13 (wrap64 (x14 + 1)) x412000 x412001) else (none)) else (none)) else (none)) else (if x412000 = true then (integer_Int_Int.j1 k x4 false x412000 x412001) else (integer_Int_Int.j1 k x4 (decide (x4 < 9223372036854775808)) x412000 x412001))
def integer_Int_Int.j1 : Nat → Int → Bool → Bool → List Int → Option (Int × Bool)
  | 0, _, _, _, _ => none
  | k + 1, x4, x27, x412000, x412001 => if x27 = true then (some (wrap64 (x4), true)) else (if x412000 = true then (if x4 ≤ 9223372036854775808 then (some (wrap64 (IntKind.u64.wrap (-x4)), true)) else (some (0, false))) else (some (0, false)))
end
def integer_Int_Int.f (k : Nat) (a0_0 : Bool) (l0_1 : List Int) : Option (Int × Bool) := if (l0_1.length : Int) > 2 then (some (0, false)) else (integer_Int_Int.l0 k 0 l0_1 (l0_1.length : Int) 0 a0_0 l0_1)
theorem integer_Int_Int.mono_l : ∀ k, (∀ y0 y1 y2 y3 y4 y5, LeO (integer_Int_Int.l0 k y0 y1 y2 y3 y4 y5) (integer_Int_Int.l0 (k + 1) y0 y1 y2 y3 y4 y5)) ∧ (∀ y0 y1 y2 y3, LeO (integer_Int_Int.j1 k y0 y1 y2 y3) (integer_Int_Int.j1 (k + 1) y0 y1 y2 y3))
  | 0 => ⟨fun _ _ _ _ _ _ r h => by simp [integer_Int_Int.l0] at h, fun _ _ _ _ r h => by simp [integer_Int_Int.j1] at h⟩
  | k + 1 => by
    obtain ⟨ih0, ih1⟩ := integer_Int_Int.mono_l k
    refine ⟨?_, ?_⟩
    · intro y0 y1 y2 y3 y4 y5
      unfold integer_Int_Int.l0
      repeat' first
      | (with_reducible exact ih0 _ _ _ _ _ _)
      | (with_reducible exact ih1 _ _ _ _)
      | (with_reducible exact LeO.refl _)
      | (with_reducible exact LeO.none _)
      | (with_reducible refine LeO.ite ?_ ?_)
      | (with_reducible refine LeO.bind ?_ (fun _ => ?_))
      | exact ih0 _ _ _ _ _ _
      | exact ih1 _ _ _ _
      | exact LeO.none _
      | refine LeO.ite ?_ ?_
      | refine LeO.bind ?_ (fun _ => ?_)
    · intro y0 y1 y2 y3
      unfold integer_Int_Int.j1
      repeat' first
      | (with_reducible exact ih0 _ _ _ _ _ _)
      | (with_reducible exact ih1 _ _ _ _)
      | (with_reducible exact LeO.refl _)
      | (with_reducible exact LeO.none _)
      | (with_reducible refine LeO.ite ?_ ?_)
      | (with_reducible refine LeO.bind ?_ (fun _ => ?_))
      | exact ih0 _ _ _ _ _ _
      | exact ih1 _ _ _ _
      | exact LeO.none _
      | refine LeO.ite ?_ ?_
      | refine LeO.bind ?_ (fun _ => ?_)
theorem integer_Int_Int.mono : ∀ a0 a1 k, LeO (integer_Int_Int.f k a0 a1) (integer_Int_Int.f (k + 1) a0 a1) := by
  intro a0 a1 k
  obtain ⟨ih0, ih1⟩ := integer_Int_Int.mono_l k
  unfold integer_Int_Int.f
  repeat' first
      | (with_reducible exact ih0 _ _ _ _ _ _)
      | (with_reducible exact ih1 _ _ _ _)
      | (with_reducible exact LeO.refl _)
      | (with_reducible exact LeO.none _)
      | (with_reducible refine LeO.ite ?_ ?_)
      | (with_reducible refine LeO.bind ?_ (fun _ => ?_))
      | exact ih0 _ _ _ _ _ _
      | exact ih1 _ _ _ _
      | exact LeO.none _
      | refine LeO.ite ?_ ?_
      | refine LeO.bind ?_ (fun _ => ?_)
end Go.Proofs.YtiikfhdmclmjmaaDoor.P
namespace Go.Proofs.YtiikfhdmclmjmaaDoor.Pure
open Go.RowKit Go.Proofs.YtiikfhdmclmjmaaDoorW.PrintWords Go.Proofs.YtiikfhdmclmjmaaDoor.P
set_option linter.unusedVariables false
set_option linter.unusedSimpArgs false
theorem w0 : wrap64 (32 * 0) = 0 := by rw [w64 _ (by decide) (by decide)]; rfl
theorem w1 : wrap64 (32 * 1) = 32 := by rw [w64 _ (by decide) (by decide)]; rfl
theorem w12 : wrap64 (1 + 1) = 2 := by rw [w64 _ (by decide) (by decide)]; rfl
end Go.Proofs.YtiikfhdmclmjmaaDoor.Pure
namespace Go.Proofs.YtiikfhdmclmjmaaDoor.Pure
open Go.RowKit Go.Proofs.YtiikfhdmclmjmaaDoorW.PrintWords Go.Proofs.YtiikfhdmclmjmaaDoor.P
set_option linter.unusedVariables false
set_option linter.unusedSimpArgs false
def isd (b : UInt8) : Bool := decide (48 ≤ b.toNat ∧ b.toNat ≤ 57)
theorem isd_iff {b : UInt8} : isd b = true ↔ 48 ≤ b.toNat ∧ b.toNat ≤ 57 := by simp [isd]
def body : List UInt8 → List UInt8
  | [] => []
  | b :: r => if b.toNat = 45 then r else b :: r
def resD (R : List UInt8) (n : Nat) : Int := if R.all isd = true then (if (R.headD 0).toNat = 48 ∧ 1 < n then 3 else 0) else 14
def chk (L : List UInt8) : Int := if body L = [] then 14 else resD (body L) L.length
def nv (a : Nat) (l : List UInt8) : Nat := l.foldl (fun a c => a * 10 + (c.toNat - 48)) a
theorem nv_nil (a : Nat) : nv a [] = a := rfl
theorem nv_cons (a : Nat) (c : UInt8) (r : List UInt8) : nv a (c :: r) = nv (a * 10 + (c.toNat - 48)) r := by unfold nv; rw [List.foldl_cons]
theorem nv_app (a : Nat) (l m : List UInt8) : nv a (l ++ m) = nv (nv a l) m := by unfold nv; rw [List.foldl_append]
theorem nv_arith (a x P N : Nat) : (a * 10 + x) * P + N = a * (P * 10) + (x * P + N) := by
  rw [Nat.add_mul, Nat.mul_assoc a 10, Nat.mul_comm 10 P]
  omega
theorem nv_pow (l : List UInt8) : ∀ (a : Nat), nv a l = a * 10 ^ l.length + nv 0 l := by
  induction l with
  | nil => exact fun a => (Nat.mul_one a).symm
  | cons c r ih =>
    intro a
    have h1 := ih (a * 10 + (c.toNat - 48))
    have h2 := ih (0 * 10 + (c.toNat - 48))
    rw [nv_cons, nv_cons, h1, h2, Nat.zero_mul, Nat.zero_add, List.length_cons, Nat.pow_succ]
    exact nv_arith _ _ _ _
theorem nv_lt : ∀ {l : List UInt8}, l.all isd = true → nv 0 l < 10 ^ l.length
  | [], _ => by simp [nv_nil]
  | c :: r, h => by
    rw [List.all_cons, Bool.and_eq_true, isd_iff] at h
    have ih := nv_lt h.2
    rw [nv_cons, nv_pow r, List.length_cons, Nat.pow_succ, Nat.zero_mul, Nat.zero_add]
    have : (c.toNat - 48) * 10 ^ r.length ≤ 9 * 10 ^ r.length := Nat.mul_le_mul_right _ (by omega)
    omega
theorem nv_le (a : Nat) (l : List UInt8) : a ≤ nv a l := by
  rw [nv_pow]
  have : 1 ≤ 10 ^ l.length := Nat.one_le_pow _ _ (by decide)
  have := Nat.mul_le_mul_left a this
  omega
theorem dec_nv (n : Nat) : ∀ (D : List UInt8), D.length = n → D ≠ [] → D.all isd = true → (D.headD 0).toNat ≠ 48 → Lib.decDigits (nv 0 D) = D ∧ 0 < nv 0 D := by
  induction n with
  | zero => intro D h hne; exact absurd (List.length_eq_zero_iff.1 h) hne
  | succ n ih =>
    intro D h hne hd hh
    obtain ⟨E, b, rfl⟩ : ∃ E b, D = E ++ [b] := ⟨D.dropLast, D.getLast hne, (List.dropLast_concat_getLast _).symm⟩
    rw [List.all_append, Bool.and_eq_true] at hd
    have hb : 48 ≤ b.toNat ∧ b.toNat ≤ 57 := isd_iff.1 (by simpa using hd.2)
    rw [nv_app]
    show Lib.decDigits (nv 0 E * 10 + (b.toNat - 48)) = _ ∧ 0 < nv 0 E * 10 + (b.toNat - 48)
    have hby : UInt8.ofNat (48 + (b.toNat - 48)) = b := by
      rw [show 48 + (b.toNat - 48) = b.toNat by omega]
      simp
    rcases List.eq_nil_or_concat E with rfl | ⟨_, _, rfl⟩
    · simp only [List.nil_append, List.headD_cons] at hh
      rw [nv_nil, Nat.zero_mul, Nat.zero_add, List.nil_append]
      rw [dec_small (by omega), hby]
      exact ⟨rfl, by omega⟩
    · rename_i F f
      rw [List.concat_eq_append] at *
      have hE : (F ++ [f]) ≠ [] := by simp
      have hhd : ((F ++ [f] ++ [b]).headD 0) = ((F ++ [f]).headD 0) := by cases F <;> rfl
      rw [hhd] at hh
      obtain ⟨h1, h2⟩ := ih (F ++ [f]) (by simp at h ⊢; omega) hE hd.1 hh
      rw [dec_big (by omega), show (nv 0 (F ++ [f]) * 10 + (b.toNat - 48)) / 10 = nv 0 (F ++ [f]) by omega, show (nv 0 (F ++ [f]) * 10 + (b.toNat - 48)) % 10 = b.toNat - 48 by omega, h1, hby]
      exact ⟨rfl, by omega⟩
theorem byte_eq {b : UInt8} {n : Nat} (h : b.toNat = n) : b = UInt8.ofNat n := by rw [← h]; simp
theorem chk_itoa {L : List UInt8} (h : chk L = 0) : ∃ z : Int, L = Lib.itoa z ∧ (body L).all isd = true ∧ z = if (L.headD 0).toNat = 45 then -(nv 0 (body L) : Int) else (nv 0 (body L) : Int) := by
  unfold chk at h
  by_cases hb : body L = []
  · rw [if_pos hb] at h; cases h
  · rw [if_neg hb] at h
    unfold resD at h
    by_cases hd : (body L).all isd = true
    · rw [if_pos hd] at h
      by_cases hz : ((body L).headD 0).toNat = 48 ∧ 1 < L.length
      · rw [if_pos hz] at h; cases h
      · clear h
        refine ⟨_, ?_, hd, rfl⟩
        match L, hb, hd, hz with
        | b :: r, hb, hd, hz =>
          show b :: r = Lib.itoa (if b.toNat = 45 then _ else _)
          by_cases h45 : b.toNat = 45
          · have e : body (b :: r) = r := by simp [body, h45]
            rw [e] at hb hd hz ⊢
            rw [if_pos h45]
            have hl : 1 < (b :: r).length := by
              cases r with
              | nil => exact absurd rfl hb
              | cons _ _ => simp
            obtain ⟨h1, h2⟩ := dec_nv r.length r rfl hb hd (fun hh => hz ⟨hh, hl⟩)
            unfold Lib.itoa
            rw [if_pos (by omega), show (-(nv 0 r : Int)).natAbs = nv 0 r by omega, h1, byte_eq h45]
            rfl
          · have e : body (b :: r) = b :: r := by simp [body, h45]
            rw [e] at hb hd hz ⊢
            rw [if_neg h45, itoa_nat]
            by_cases h48 : b.toNat = 48
            · have : r = [] := by
                cases r with
                | nil => rfl
                | cons _ _ => exact absurd ⟨h48, by simp⟩ hz
              subst this
              rw [nv_cons, nv_nil, h48]
              rw [dec_small (by decide), byte_eq h48]
            · exact (dec_nv (b :: r).length (b :: r) rfl hb hd h48).1.symm
    · rw [if_neg hd] at h; cases h
theorem bs_list (s : ByteArray) : s.size = s.data.toList.length := (dlen s).symm
theorem headD_at {R : List UInt8} (h : 0 < R.length) : R.headD 0 = R[0] := by cases R <;> simp at h ⊢
theorem bt_head (s : ByteArray) (h : 0 < s.size) : bt s 0 = ((s.data.toList.headD 0).toNat : Int) := by
  rw [headD_at (by rw [dlen]; exact h)]
  exact bt_get s 0 h
theorem chk_l0 (x0 x3 : ByteArray) (hm : x3.size ≤ 65536) (hp : 0 < x3.size) (hle : x3.size ≤ x0.size) : ∀ (n i : Nat), i + n = x3.size → (x3.data.toList.take i).all isd = true →
    Ev (fun k => dowelref01_Check.l0 k x0 x3 (i : Int)) (resD x3.data.toList x0.size)
  | 0, i, hn, hi => by
    have hall : x3.data.toList.all isd = true := by
      rw [List.take_of_length_le (by rw [dlen]; omega)] at hi
      exact hi
    refine Ev.step (fun k => dowelref01_Check.l0.eq_2 ..) (Ev.neg (by omega) (Ev.pos (by omega) ?_))
    rw [bt_head x3 hp]
    unfold resD
    rw [if_pos hall]
    by_cases h48 : (x3.data.toList.headD 0).toNat = 48
    · refine Ev.pos (by omega) ?_
      by_cases h1 : (x3.size : Int) > 1
      · exact Ev.pos h1 (Ev.some_ (by rw [if_pos ⟨h48, by omega⟩]))
      · refine Ev.neg h1 ?_
        by_cases h2 : (x0.size : Int) > 1
        · exact Ev.pos h2 (Ev.some_ (by rw [if_pos ⟨h48, by omega⟩]))
        · exact Ev.neg h2 (Ev.some_ (by rw [if_neg (by omega)]))
    · exact Ev.neg (by omega) (Ev.some_ (by rw [if_neg (by omega)]))
  | n + 1, i, hn, hi => by
    have hl : i < x3.data.toList.length := by rw [dlen]; omega
    have hb := bt_get x3 i (by omega)
    have hmem : x3.data.toList[i] ∈ x3.data.toList := List.getElem_mem hl
    have bad : isd x3.data.toList[i] = false → resD x3.data.toList x0.size = 14 := by
      intro h
      unfold resD
      rw [if_neg]
      intro hall
      rw [List.all_eq_true] at hall
      rw [hall _ hmem] at h
      cases h
    refine Ev.step (fun k => dowelref01_Check.l0.eq_2 ..) (Ev.pos (by omega) (Ev.pos (by omega) ?_))
    rw [hb]
    by_cases h1 : (((x3.data.toList[i]).toNat : Nat) : Int) < 48
    · exact Ev.pos h1 (Ev.some_ (bad (decide_eq_false (by omega))).symm)
    · refine Ev.neg h1 ?_
      by_cases h2 : (((x3.data.toList[i]).toNat : Nat) : Int) > 57
      · exact Ev.pos h2 (Ev.some_ (bad (decide_eq_false (by omega))).symm)
      · refine Ev.neg h2 ?_
        rw [wsucc (show i < x3.size by omega) (by omega)]
        refine chk_l0 x0 x3 hm hp hle n (i + 1) (by omega) ?_
        rw [List.take_succ_eq_append_getElem hl, List.all_append, hi, Bool.true_and, List.all_cons, List.all_nil, Bool.and_true]
        exact decide_eq_true (by omega)
theorem ext_list (s : ByteArray) (i j : Nat) : (s.extract i j).data.toList = (s.data.toList.drop i).take (j - i) := by
  rw [ByteArray.data_extract, Array.toList_extract, List.extract_eq_take_drop]
theorem chk_j1 (x0 x3 : ByteArray) (hm : x3.size ≤ 65536) (hle : x3.size ≤ x0.size) : Ev (fun k => dowelref01_Check.j1 k x0 x3) (if x3.data.toList = [] then 14 else resD x3.data.toList x0.size) := by
  refine Ev.step (fun k => dowelref01_Check.j1.eq_2 ..) ?_
  by_cases h : (x3.size : Int) = 0
  · refine Ev.pos h (Ev.some_ ?_)
    rw [if_pos (List.length_eq_zero_iff.1 (by rw [dlen]; omega))]
  · refine Ev.neg h ?_
    rw [if_neg (fun e => h (by rw [bs_list, e]; rfl))]
    exact chk_l0 x0 x3 hm (by omega) hle x3.size 0 (by omega) rfl
theorem check_ev (s : ByteArray) (hm : s.size ≤ 65536) : Ev (fun k => dowelref01_Check.f k s) (chk s.data.toList) := by
  unfold dowelref01_Check.f
  refine Ev.neg (by omega) ?_
  by_cases h : (s.size : Int) > 0
  · refine Ev.pos h (Ev.pos (by omega) (Ev.step (fun k => dowelref01_Check.j0.eq_2 ..) ?_))
    rw [bt_head s (by omega)]
    have hl : s.data.toList.length = s.size := dlen s
    match hL : s.data.toList, hl with
    | [], hl => simp at hl; omega
    | b :: r, hl =>
      simp only [List.headD_cons]
      by_cases h45 : b.toNat = 45
      · refine Ev.pos (by simp [h45]) (Ev.pos (by omega) ?_)
        have e : (s.extract 1 s.size).data.toList = r := by
          rw [ext_list, hL]
          simp only [List.drop_succ_cons, List.drop_zero]
          exact List.take_of_length_le (by simp at hl; omega)
        have hsz : (s.extract 1 s.size).size = r.length := by rw [bs_list, e]
        have := chk_j1 s (s.extract 1 s.size) (by rw [hsz]; simp at hl; omega) (by rw [hsz]; simp at hl; omega)
        rw [e] at this
        unfold chk
        rw [show body (b :: r) = r by simp [body, h45], hl]
        exact this
      · refine Ev.neg (by simp; omega) ?_
        have := chk_j1 s s hm (Nat.le_refl _)
        rw [hL] at this
        unfold chk
        rw [show body (b :: r) = b :: r by simp [body, h45], hl]
        exact this
  · refine Ev.neg h (Ev.step (fun k => dowelref01_Check.j0.eq_2 ..) (Ev.neg (by simp) ?_))
    have e : s.data.toList = [] := List.length_eq_zero_iff.1 (by rw [dlen]; omega)
    have := chk_j1 s s hm (Nat.le_refl _)
    rw [e] at this ⊢
    exact this
end Go.Proofs.YtiikfhdmclmjmaaDoor.Pure
