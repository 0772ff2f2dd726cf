/- Part 6 of the proof of IntegerAdds: what the program's functions compute, told as plain functions, and what these answer. Conditions: none beside the statement's own. Gathered by the session's program merge.py out of its own and the printed texts; no declaration that the proof does not name is left in. -/
import Derived.Test.YtiikfhdmclmjmaaDoorIAdd5
import Derived.Lib.ItoaNum
import Derived.Laws.BitsLemmas
namespace Go.Proofs.YtiikfhdmclmjmaaDoor.P
open Go.RowKit Go.Proofs.YtiikfhdmclmjmaaDoorW.PrintWords Go.Proofs.YtiikfhdmclmjmaaDoorW.PrintLast
set_option linter.unusedVariables false
set_option linter.unusedSimpArgs false
mutual
def dowelref01_text.j0 : Nat → List Int → List Int → Option (ByteArray)
  | 0, _, _ => none
  | k + 1, x1, x5 => dowelref01_text.l0 k x1 x5 (wrap64 ((x1.length : Int) - 1))
def dowelref01_text.l0 : Nat → List Int → List Int → Int → Option (ByteArray)
  | 0, _, _, _ => none
  | k + 1, x1, x5, x6 => if x6 ≥ 0 then (if 0 ≤ x6 then (if x6 < (x1.length : Int) then (if x5.length < 140737488355328 then (dowelref01_text.l0 k x1 (x5 ++ [(wrap64 (48 + (rd x1 x6))) % 256]) (wrap64 (x6 - 1))) else (none)) else (none)) else (none)) else (some (strOfNums x5))
end
def dowelref01_text.f (k : Nat) (a0 : Bool) (l1 : List Int) : Option (ByteArray) := (dowelref01_trim.f k l1).bind fun t420 => (if (t420.length : Int) = 0 then (some (⟨#[48]⟩ : ByteArray)) else (if a0 = true then (if ([] : List Int).length < 140737488355328 then (dowelref01_text.j0 k t420 (([] : List Int) ++ [45])) else (none)) else (dowelref01_text.j0 k t420 ([] : List Int))))
theorem dowelref01_text.mono_l : ∀ k, (∀ y0 y1, LeO (dowelref01_text.j0 k y0 y1) (dowelref01_text.j0 (k + 1) y0 y1)) ∧ (∀ y0 y1 y2, LeO (dowelref01_text.l0 k y0 y1 y2) (dowelref01_text.l0 (k + 1) y0 y1 y2))
  | 0 => ⟨fun _ _ r h => by simp [dowelref01_text.j0] at h, fun _ _ _ r h => by simp [dowelref01_text.l0] at h⟩
  | k + 1 => by
    obtain ⟨ih0, ih1⟩ := dowelref01_text.mono_l k
    refine ⟨?_, ?_⟩
    · intro y0 y1
      unfold dowelref01_text.j0
      repeat' first
      | (with_reducible exact ih0 _ _)
      | (with_reducible exact ih1 _ _ _)
      | (with_reducible exact dowelref01_trim.mono _ _)
      | (with_reducible exact LeO.refl _)
      | (with_reducible exact LeO.none _)
      | (with_reducible refine LeO.ite ?_ ?_)
      | (with_reducible refine LeO.bind ?_ (fun _ => ?_))
      | exact ih0 _ _
      | exact ih1 _ _ _
      | exact dowelref01_trim.mono _ _
      | exact LeO.none _
      | refine LeO.ite ?_ ?_
      | refine LeO.bind ?_ (fun _ => ?_)
    · intro y0 y1 y2
      unfold dowelref01_text.l0
      repeat' first
      | (with_reducible exact ih0 _ _)
      | (with_reducible exact ih1 _ _ _)
      | (with_reducible exact dowelref01_trim.mono _ _)
      | (with_reducible exact LeO.refl _)
      | (with_reducible exact LeO.none _)
      | (with_reducible refine LeO.ite ?_ ?_)
      | (with_reducible refine LeO.bind ?_ (fun _ => ?_))
      | exact ih0 _ _
      | exact ih1 _ _ _
      | exact dowelref01_trim.mono _ _
      | exact LeO.none _
      | refine LeO.ite ?_ ?_
      | refine LeO.bind ?_ (fun _ => ?_)
theorem dowelref01_text.mono : ∀ a0 a1 k, LeO (dowelref01_text.f k a0 a1) (dowelref01_text.f (k + 1) a0 a1) := by
  intro a0 a1 k
  obtain ⟨ih0, ih1⟩ := dowelref01_text.mono_l k
  unfold dowelref01_text.f
  repeat' first
      | (with_reducible exact ih0 _ _)
      | (with_reducible exact ih1 _ _ _)
      | (with_reducible exact dowelref01_trim.mono _ _)
      | (with_reducible exact LeO.refl _)
      | (with_reducible exact LeO.none _)
      | (with_reducible refine LeO.ite ?_ ?_)
      | (with_reducible refine LeO.bind ?_ (fun _ => ?_))
      | exact ih0 _ _
      | exact ih1 _ _ _
      | exact dowelref01_trim.mono _ _
      | exact LeO.none _
      | refine LeO.ite ?_ ?_
      | refine LeO.bind ?_ (fun _ => ?_)
set_option maxHeartbeats 8000000 in
set_option maxRecDepth 100000 in
theorem dowelref01_text.calls (k : Nat) (a0 : Bool) (P1_ : Nat → Prop) (u9000_ : Value) (l1 : List Int) (r : ByteArray) (w0 w : World) (hB : Below w0.heap.size w0 w) (ho1 : Kd.R (Kd.int .i64) 3 w w0.heap.size P1_ u9000_ l1) (h : dowelref01_text.f k a0 l1 = some r) :
    Calls Tryd.prog 51 #[.bool a0, u9000_] w fun e w' => e = .returned (.string r) ∧ Below w0.heap.size w0 w' ∧ Kept w w' (fun k_ => P1_ k_) := by
  have HO1 := Aside0.mk (show Kd.R (Kd.int .i64) 3 w w0.heap.size (fun k_ => (P1_ k_ ∨ w.heap.size ≤ k_)) u9000_ l1 from Kd.R_mono ho1 (fun k_ hk => (.inl hk)))
  have HK := Aside0.mk (Kept.refl w (fun k_ => P1_ k_))
  have HW0 := Aside0.mk hB.size
  have HB := Aside0.mk hB
  clear hB
  have H : ((dowelref01_trim.f k l1).bind fun t420 => (if (t420.length : Int) = 0 then (some (⟨#[48]⟩ : ByteArray)) else (if a0 = true then (if ([] : List Int).length < 140737488355328 then (dowelref01_text.j0 k t420 (([] : List Int) ++ [45])) else (none)) else (dowelref01_text.j0 k t420 ([] : List Int))))) = some r := h
  clear h
  replace H := Option.bind_eq_some_iff.mp H
  obtain ⟨t420, A30, H⟩ := H
  replace H : (if (t420.length : Int) = 0 then (some (⟨#[48]⟩ : ByteArray)) else (if a0 = true then (if ([] : List Int).length < 140737488355328 then (dowelref01_text.j0 k t420 (([] : List Int) ++ [45])) else (none)) else (dowelref01_text.j0 k t420 ([] : List Int)))) = some r := H
  have A3 := Aside0.mk A30
  clear A30
  by_cases c4 : (t420.length : Int) = 0
  · rw [if_pos c4] at H
    have c4b0 : ((t420.length : Int) == 0) = true := beq_iff_eq.mpr c4
    have c4b1 : ((t420.length : Int) != 0) = false := bne_eq_false_iff_eq.mpr c4
    clear c4
    obtain rfl := Option.some.inj H
    obtain ⟨Ao5, co5, eo5⟩ := Kd.R_slice HO1.out
    subst eo5
    go_enter Tryd.func51, Tryd.ntmps51
    go_wp2_with (first | ((with_reducible refine gate_callee (f := 60) rfl ?_); refine goesL_ (some 8) rfl rfl Tryd.func60 (by kernel_rfl) rfl #[.slice Ao5 l1.length co5] rfl (by (try simp only [List.map_toArray, List.map_cons, List.map_nil]); first | done | rfl | (simp only [List.length_drop, List.length_take]; rfl)) ?_; (with_reducible refine (dowelref01_trim.calls k (fun k_ => some k_ = (.slice Ao5 l1.length co5 : Value).ownBlock) (.slice Ao5 l1.length co5) l1 t420 w0 _ ?side1 ?side2 A3.out).mono ?_); (case side1 => repeat (first | (with_reducible first | exact HB.out | apply below_alloc | apply pw_below_drewN | apply below_drew1) | exact HB.out)); (case side2 => exact Kd.R_tight rfl HO1.out); rintro e w6 ⟨v421, rfl, ho0, hb, hkp⟩; refine ⟨_, rfl, ?_⟩; have n0_ := Aside0.mk (Kd.R_mono (ok' := fun k_ => (P1_ k_ ∨ w.heap.size ≤ k_)) ho0 (fun k_ hk_ => Or.elim hk_ (fun hs_ => (HO1.out.1 k_ (hs_).symm)) (fun hn_ => (.inr (Nat.le_trans (by first | exact HK.out.1 | exact (show Kept w _ (fun k_ => P1_ k_) from by repeat (first | (with_reducible first | exact HK.out | apply Kept.alloc | apply Kept.drewN | apply Kept.drew) | exact HK.out)).1) hn_))))); have n1_ := Aside0.mk (Kept.then_ (S := (fun k_ => P1_ k_)) (by repeat (first | (with_reducible first | exact HK.out | apply Kept.alloc | apply Kept.drewN | apply Kept.drew) | exact HK.out)) hkp (fun k_ hs_ => (fun e_ => (HO1.out.1 k_ e_.symm)) hs_)); have n2_ := Aside0.mk (hb); clear HK; clear HB; clear HO1; have HO422 := n0_; have HK := n1_; have HB := n2_; clear n0_ n1_ n2_; (try clear hb); (try clear hkp); (try clear ho0); obtain ⟨Ao7, co7, eo7⟩ := Kd.R_slice HO422.out; subst eo7))
    go_ret
    exact ⟨by first | rfl | (simp [errW_none, errW_some] <;> rfl) | (simp [*, errW_none, errW_some] <;> rfl), by repeat (first | (with_reducible first | exact HB.out | apply below_alloc | apply pw_below_drewN | apply below_drew1) | exact HB.out), by repeat (first | (with_reducible first | exact HK.out | apply Kept.alloc | apply Kept.drewN | apply Kept.drew) | exact HK.out)⟩
  · rw [if_neg c4] at H
    have c4b0 : ((t420.length : Int) == 0) = false := beq_eq_false_iff_ne.mpr c4
    have c4b1 : ((t420.length : Int) != 0) = true := bne_iff_ne.mpr c4
    have c4b2 : ¬ (t420 = []) := fun h_ => c4 (by rw [h_]; rfl)
    have HC8 := Aside0.mk H
    clear H
    obtain ⟨Ao9, co9, eo9⟩ := Kd.R_slice HO1.out
    subst eo9
    go_enter Tryd.func51, Tryd.ntmps51
    go_upto_if 12 with (first | ((with_reducible refine gate_callee (f := 60) rfl ?_); refine goesL_ (some 8) rfl rfl Tryd.func60 (by kernel_rfl) rfl #[.slice Ao9 l1.length co9] rfl (by (try simp only [List.map_toArray, List.map_cons, List.map_nil]); first | done | rfl | (simp only [List.length_drop, List.length_take]; rfl)) ?_; (with_reducible refine (dowelref01_trim.calls k (fun k_ => some k_ = (.slice Ao9 l1.length co9 : Value).ownBlock) (.slice Ao9 l1.length co9) l1 t420 w0 _ ?side1 ?side2 A3.out).mono ?_); (case side1 => repeat (first | (with_reducible first | exact HB.out | apply below_alloc | apply pw_below_drewN | apply below_drew1) | exact HB.out)); (case side2 => exact Kd.R_tight rfl HO1.out); rintro e w10 ⟨v421, rfl, ho0, hb, hkp⟩; refine ⟨_, rfl, ?_⟩; have n0_ := Aside0.mk (Kd.R_mono (ok' := fun k_ => (P1_ k_ ∨ w.heap.size ≤ k_)) ho0 (fun k_ hk_ => Or.elim hk_ (fun hs_ => (HO1.out.1 k_ (hs_).symm)) (fun hn_ => (.inr (Nat.le_trans (by first | exact HK.out.1 | exact (show Kept w _ (fun k_ => P1_ k_) from by repeat (first | (with_reducible first | exact HK.out | apply Kept.alloc | apply Kept.drewN | apply Kept.drew) | exact HK.out)).1) hn_))))); have n1_ := Aside0.mk (Kept.then_ (S := (fun k_ => P1_ k_)) (by repeat (first | (with_reducible first | exact HK.out | apply Kept.alloc | apply Kept.drewN | apply Kept.drew) | exact HK.out)) hkp (fun k_ hs_ => (fun e_ => (HO1.out.1 k_ e_.symm)) hs_)); have n2_ := Aside0.mk (hb); clear HK; clear HB; clear HO1; have HO422 := n0_; have HK := n1_; have HB := n2_; clear n0_ n1_ n2_; (try clear hb); (try clear hkp); (try clear ho0); obtain ⟨Ao11, co11, eo11⟩ := Kd.R_slice HO422.out; subst eo11))
    (try simp only [Act.put, List.setIfInBounds_toArray, List.set_cons_zero, List.set_cons_succ])
    go_cut [5] (fun v5 wc => ∃ (kq : Nat) (x5_7 : List Int), Aside0 (dowelref01_text.j0 kq t420 x5_7 = some r) ∧ Aside0 (kq ≤ k) ∧ Aside0 (Kd.R (Kd.int .i64) 3 wc w0.heap.size (fun k_ => (P1_ k_ ∨ w.heap.size ≤ k_)) (.slice Ao11 t420.length co11) t420) ∧ Aside0 (Kd.R (Kd.int .u8) 5 wc w0.heap.size (fun k_ => (P1_ k_ ∨ w.heap.size ≤ k_)) v5 x5_7) ∧ Aside0 (Kept w wc (fun k_ => P1_ k_)) ∧ Aside0 (Below w0.heap.size w0 wc))
    case first =>
      have H := HC8.out
      clear HC8
      by_cases c12 : a0 = true
      · subst c12
        have H1 : (if ([] : List Int).length < 140737488355328 then (dowelref01_text.j0 k t420 (([] : List Int) ++ [45])) else (none)) = some r := by rw [if_pos rfl] at H; exact H
        clear H
        have H := H1
        clear H1
        by_cases c13 : ([] : List Int).length < 140737488355328
        · rw [if_pos c13] at H
          have LMc13 := Aside0.mk c13
          clear c13
          obtain ⟨y423, hy423⟩ : ∃ y_ : List Int, y_ = (([] : List Int) ++ [45]) := ⟨_, rfl⟩
          replace H : (dowelref01_text.j0 k t420 y423) = some r := by first | (rw [hy423]; with_reducible exact H) | (have H2_ := (Option.bind_some _ _).symm.trans H; rw [hy423]; with_reducible exact H2_) | (have H2_ := (Option.bind_some _ _).symm.trans H; with_reducible exact H2_) | with_reducible exact H | (rw [hy423]; exact H) | exact H
          have Ny423 := Aside0.mk hy423
          clear hy423
          have H' := Aside0.mk H
          clear H
          go_wp2_with (first | ((with_reducible refine gate_builtin (b := .append) (xs := #[.tmp 13, .tmp 14]) rfl ?_); at_builtin; refine Kd.R_append (Kd.int .u8) (w0 := w0) w0.heap.size rfl (.tmp 13) (.tmp 14) 37 5 (.int .u8 0) 1 rfl Tryd.underlying37 info5 rfl (by decide) (by omega) (.slice none 0 0) ([] : List Int) 45 [.int .u8 45] (fun k_ => (P1_ k_ ∨ w.heap.size ≤ k_)) (fun _ => False) rfl rfl ?aP (fun _ hk => hk.elim) ?aF ?aO ?aB ?aS ?aL ?_; (case aP => exact rfl); (case aB => exact (by repeat (first | (with_reducible first | exact HB.out | apply below_alloc | apply pw_below_drewN | apply below_drew1) | exact HB.out))); (case aF => exact (fun k_ hk => (.inr (Nat.le_trans (by first | exact HK.out.1 | exact (show Kept w _ (fun k_ => P1_ k_) from by repeat (first | (with_reducible first | exact HK.out | apply Kept.alloc | apply Kept.drewN | apply Kept.drew) | exact HK.out)).1) hk)))); (case aO => exact ((Kd.R_nil _ _ _ _ (fun k_ => (P1_ k_ ∨ w.heap.size ≤ k_))))); (case aS => exact (below_size (by repeat (first | (with_reducible first | exact HB.out | apply below_alloc | apply pw_below_drewN | apply below_drew1) | exact HB.out)))); (case aL => have := LMc13.out; omega); intro v424 w14 ho hb hg hat; rw [← Ny423.out] at ho; have n0_ := Aside0.mk (Kd.R_grown (by (with_reducible repeat (first | apply Kd.R_alloc | apply Kd.R_drewN | apply Kd.R_drew)); exact HO422.out) hg (fun _ _ => by simp [Value.ownBlock])); have n1_ := Aside0.mk (hb); have n2_ := Aside0.mk (Kept.of_grown (S := (fun k_ => P1_ k_)) hg (by repeat (first | (with_reducible first | exact HK.out | apply Kept.alloc | apply Kept.drewN | apply Kept.drew) | exact HK.out)) (fun k_ e_ => by simp [Value.ownBlock] at e_)); have n3_ := Aside0.mk (ho); clear HO422; clear HB; clear HK; have HO422 := n0_; have HB := n1_; have HK := n2_; have HO425 := n3_; clear n0_ n1_ n2_ n3_; clear ho hb hg hat))
          go_meet
          case rel => exact ⟨_, (y423), H', ⟨by first | omega | exact Nat.le_refl _⟩, ⟨by (with_reducible repeat (first | apply Kd.R_alloc | apply Kd.R_drewN | apply Kd.R_drew)); exact HO422.out⟩, ⟨by (with_reducible repeat (first | apply Kd.R_alloc | apply Kd.R_drewN | apply Kd.R_drew)); exact HO425.out⟩, ⟨by repeat (first | (with_reducible first | exact HK.out | apply Kept.alloc | apply Kept.drewN | apply Kept.drew) | exact HK.out)⟩, ⟨by repeat (first | (with_reducible first | exact HB.out | apply below_alloc | apply pw_below_drewN | apply below_drew1) | exact HB.out)⟩⟩
        · rw [if_neg c13] at H
          exact absurd H (by simp)
      · replace c12 := Bool.eq_false_iff.mpr c12
        subst c12
        have H1 : (dowelref01_text.j0 k t420 ([] : List Int)) = some r := by rw [if_neg (show ¬ (false = true) by decide)] at H; exact H
        clear H
        have H := H1
        clear H1
        have H' := Aside0.mk H
        clear H
        go_wp2
        go_meet
        case rel => exact ⟨_, (([] : List Int)), H', ⟨by first | omega | exact Nat.le_refl _⟩, ⟨by (with_reducible repeat (first | apply Kd.R_alloc | apply Kd.R_drewN | apply Kd.R_drew)); exact HO422.out⟩, ⟨by first | exact Kd.R_nil _ _ _ _ _ | exact Kd.N_nil _ _ _ _ _ | exact Kd.V_nil _ _ _ _ _ | exact Kd.Q_nil _ _ _ _ _ | exact Kd.S_nil _ _ _ _ _⟩, ⟨by repeat (first | (with_reducible first | exact HK.out | apply Kept.alloc | apply Kept.drewN | apply Kept.drew) | exact HK.out)⟩, ⟨by repeat (first | (with_reducible first | exact HB.out | apply below_alloc | apply pw_below_drewN | apply below_drew1) | exact HB.out)⟩⟩
    case rest =>
      clear HC8
      try clear c1
      try clear p2
      try clear c4
      try clear c4b0
      try clear c4b1
      try clear c4b2
      try clear c5
      try clear c6
      try clear c12
      try clear c13
      obtain ⟨kq, x5_7, HA, HJ7, HO_1, HO_5, HK, HB⟩ := hcut
      cases kq with
      | zero => exact absurd HA.out (by simp [dowelref01_text.j0])
      | succ kj7 =>
        have H := HA.out
        clear HA
        simp only [dowelref01_text.j0] at H
        have H' := Aside0.mk H
        clear H
        go_wp2
        go_loopg [5, 6] kj7 (fun kq v5 v6 w' => ∃ (x5_2 : List Int) (x6_2 : Int), v6 = .int .i64 x6_2 ∧ Aside0 (dowelref01_text.l0 kq t420 x5_2 x6_2 = some r) ∧ Aside0 (kq ≤ kj7) ∧ Aside0 (Kd.R (Kd.int .i64) 3 w' w0.heap.size (fun k_ => (P1_ k_ ∨ w.heap.size ≤ k_)) (.slice Ao11 t420.length co11) t420) ∧ Aside0 (Kd.R (Kd.int .u8) 5 w' w0.heap.size (fun k_ => (P1_ k_ ∨ w.heap.size ≤ k_)) v5 x5_2) ∧ Aside0 (Kept w w' (fun k_ => P1_ k_)) ∧ Aside0 (Below w0.heap.size w0 w'))
        case atStart => exact ⟨(x5_7), (wrap64 ((t420.length : Int) - 1)), (by first | rfl | (simp; done) | (simp [*]; done) | (simp <;> omega)), H', ⟨Nat.le_refl _⟩, ⟨by (with_reducible repeat (first | apply Kd.R_alloc | apply Kd.R_drewN | apply Kd.R_drew)); exact HO_1.out⟩, ⟨by (with_reducible repeat (first | apply Kd.R_alloc | apply Kd.R_drewN | apply Kd.R_drew)); exact HO_5.out⟩, ⟨by repeat (first | (with_reducible first | exact HK.out | apply Kept.alloc | apply Kept.drewN | apply Kept.drew) | exact HK.out)⟩, ⟨by repeat (first | (with_reducible first | exact HB.out | apply below_alloc | apply pw_below_drewN | apply below_drew1) | exact HB.out)⟩⟩
        case round =>
          clear H'
          try clear c1
          try clear p2
          try clear c4
          try clear c4b0
          try clear c4b1
          try clear c4b2
          try clear c5
          try clear c6
          try clear p6
          try clear c12
          try clear c13
          try clear p2
          obtain ⟨x5_2, x6_2, rfl, HA, HK2, HO_1, HO_5, HK, HB⟩ := hrel
          cases gk with
          | zero => exact absurd HA.out (by simp [dowelref01_text.l0])
          | succ k2 =>
            have H := HA.out
            clear HA
            simp only [dowelref01_text.l0] at H
            by_cases c15 : x6_2 ≥ 0
            · rw [if_pos c15] at H
              have c15b0 : decide (0 ≤ x6_2) = true := decide_eq_true c15
              clear c15
              by_cases c16 : 0 ≤ x6_2
              · rw [if_pos c16] at H
                have c16b0 : decide (0 ≤ x6_2) = true := decide_eq_true c16
                clear c16
                by_cases c17 : x6_2 < (t420.length : Int)
                · rw [if_pos c17] at H
                  have c17b0 : decide (x6_2 < (t420.length : Int)) = true := decide_eq_true c17
                  clear c17
                  by_cases c18 : x5_2.length < 140737488355328
                  · rw [if_pos c18] at H
                    have LMc18 := Aside0.mk c18
                    clear c18
                    obtain ⟨y427, hy427⟩ : ∃ y_ : List Int, y_ = (x5_2 ++ [(wrap64 (48 + (rd t420 x6_2))) % 256]) := ⟨_, rfl⟩
                    replace H : (dowelref01_text.l0 k2 t420 y427 (wrap64 (x6_2 - 1))) = some r := by first | (rw [hy427]; with_reducible exact H) | (have H2_ := (Option.bind_some _ _).symm.trans H; rw [hy427]; with_reducible exact H2_) | (have H2_ := (Option.bind_some _ _).symm.trans H; with_reducible exact H2_) | with_reducible exact H | (rw [hy427]; exact H) | exact H
                    have Ny427 := Aside0.mk hy427
                    clear hy427
                    have H' := Aside0.mk H
                    clear H
                    have p426 : 0 ≤ (x6_2 : Int) := of_decide_eq_true (by first | (with_reducible assumption) | assumption)
                    have q426 : x6_2 < (t420.length : Int) := of_decide_eq_true (by first | (with_reducible assumption) | assumption)
                    obtain ⟨ad426, e426, hx426_0⟩ := Kd.at_int (Kd.R_reads' HO_1.out).2.2 x6_2 p426 q426
                    cases e426
                    replace p426 := eq_true p426
                    replace q426 := eq_true q426
                    go_wp2_with (first | ((with_reducible refine gate_builtin (b := .append) (xs := #[.tmp 23, .tmp 30]) rfl ?_); at_builtin; refine Kd.R_append (Kd.int .u8) (w0 := w0) w0.heap.size rfl (.tmp 23) (.tmp 30) 37 5 (.int .u8 0) 1 rfl Tryd.underlying37 info5 rfl (by decide) (by omega) u5 x5_2 ((wrap64 (48 + (rd t420 x6_2))) % 256) [.int .u8 ((wrap64 (48 + (rd t420 x6_2))) % 256)] (fun k_ => (P1_ k_ ∨ w.heap.size ≤ k_)) (fun _ => False) rfl rfl ?aP (fun _ hk => hk.elim) ?aF ?aO ?aB ?aS ?aL ?_; (case aP => exact rfl); (case aB => exact (by repeat (first | (with_reducible first | exact HB.out | apply below_alloc | apply pw_below_drewN | apply below_drew1) | exact HB.out))); (case aF => exact (fun k_ hk => (.inr (Nat.le_trans (by first | exact HK.out.1 | exact (show Kept w _ (fun k_ => P1_ k_) from by repeat (first | (with_reducible first | exact HK.out | apply Kept.alloc | apply Kept.drewN | apply Kept.drew) | exact HK.out)).1) hk)))); (case aO => exact (by (with_reducible repeat (first | apply Kd.R_alloc | apply Kd.R_drewN | apply Kd.R_drew)); exact HO_5.out)); (case aS => exact (below_size (by repeat (first | (with_reducible first | exact HB.out | apply below_alloc | apply pw_below_drewN | apply below_drew1) | exact HB.out)))); (case aL => have := LMc18.out; omega); intro v428 w19 ho hb hg hat; rw [← Ny427.out] at ho; have n0_ := Aside0.mk (Kd.R_over' (by (with_reducible repeat (first | apply Kd.R_alloc | apply Kd.R_drewN | apply Kd.R_drew)); exact HO_1.out) (Kd.R_typed (by (with_reducible repeat (first | apply Kd.R_alloc | apply Kd.R_drewN | apply Kd.R_drew)); exact HO_5.out)) (by decide) hg); have n1_ := Aside0.mk (hb); have n2_ := Aside0.mk (Kept.of_grown (S := (fun k_ => P1_ k_)) hg (by repeat (first | (with_reducible first | exact HK.out | apply Kept.alloc | apply Kept.drewN | apply Kept.drew) | exact HK.out)) (fun k_ e_ => (HO_5.out.1 k_ e_))); have n3_ := Aside0.mk (ho); clear HO_1; clear HB; clear HK; clear HO_5; have HO_1 := n0_; have HB := n1_; have HK := n2_; have HO429 := n3_; clear n0_ n1_ n2_ n3_; clear ho hb hg hat))
                    go_roundg k2
                    case measure => have := HJ7.out; have := HK2.out; omega
                    case rel => exact ⟨(y427), (wrap64 (x6_2 - 1)), (by first | rfl | (simp; done) | (simp [*]; done) | (simp <;> omega)), H', ⟨by have := HJ7.out; have := HK2.out; omega⟩, ⟨by (with_reducible repeat (first | apply Kd.R_alloc | apply Kd.R_drewN | apply Kd.R_drew)); exact HO_1.out⟩, ⟨by (with_reducible repeat (first | apply Kd.R_alloc | apply Kd.R_drewN | apply Kd.R_drew)); exact HO429.out⟩, ⟨by repeat (first | (with_reducible first | exact HK.out | apply Kept.alloc | apply Kept.drewN | apply Kept.drew) | exact HK.out)⟩, ⟨by repeat (first | (with_reducible first | exact HB.out | apply below_alloc | apply pw_below_drewN | apply below_drew1) | exact HB.out)⟩⟩
                  · rw [if_neg c18] at H
                    exact absurd H (by simp)
                · rw [if_neg c17] at H
                  exact absurd H (by simp)
              · rw [if_neg c16] at H
                exact absurd H (by simp)
            · rw [if_neg c15] at H
              have c15b0 : decide (0 ≤ x6_2) = false := decide_eq_false c15
              clear c15
              obtain rfl := Option.some.inj H
              have hcv20 := own_string (P := Tryd.prog) Tryd.underlying37 Tryd.underlying5 Tryd.underlying9 (Kd.own_of_R HO_5.out)
              go_wp2
              go_ret
              exact ⟨by first | rfl | (simp [errW_none, errW_some] <;> rfl) | (simp [*, errW_none, errW_some] <;> rfl), by repeat (first | (with_reducible first | exact HB.out | apply below_alloc | apply pw_below_drewN | apply below_drew1) | exact HB.out), by repeat (first | (with_reducible first | exact HK.out | apply Kept.alloc | apply Kept.drewN | apply Kept.drew) | exact HK.out)⟩
end Go.Proofs.YtiikfhdmclmjmaaDoor.P
namespace Go.Proofs.YtiikfhdmclmjmaaDoor.P
open Go.RowKit Go.Proofs.YtiikfhdmclmjmaaDoorW.PrintWords Go.Proofs.YtiikfhdmclmjmaaDoorW.PrintLast
set_option linter.unusedVariables false
set_option linter.unusedSimpArgs false
def dowelref01_digits.l0 : Nat → ByteArray → List Int → Int → Option (List Int)
  | 0, _, _, _ => none
  | k + 1, x0, x3, x4 => if x4 ≥ 0 then (if 0 ≤ x4 then (if x4 < (x0.size : Int) then (if (bt x0 x4) = 45 then (dowelref01_digits.l0 k x0 x3 (wrap64 (x4 - 1))) else (if x3.length < 17592186044416 then (dowelref01_digits.l0 k x0 (x3 ++ [wrap64 ((wrap64 (bt x0 x4)) - 48)]) (wrap64 (x4 - 1))) else (none))) else (none)) else (none)) else ((dowelref01_trim.f k x3).bind fun t531 => (some t531))
def dowelref01_digits.f (k : Nat) (a0 : ByteArray) : Option (List Int) := dowelref01_digits.l0 k a0 ([] : List Int) (wrap64 ((a0.size : Int) - 1))
theorem dowelref01_digits.mono_l : ∀ k, (∀ y0 y1 y2, LeO (dowelref01_digits.l0 k y0 y1 y2) (dowelref01_digits.l0 (k + 1) y0 y1 y2))
  | 0 => fun _ _ _ r h => by simp [dowelref01_digits.l0] at h
  | k + 1 => by
    have ih0 := dowelref01_digits.mono_l k
    · intro y0 y1 y2
      unfold dowelref01_digits.l0
      repeat' first
      | (with_reducible exact ih0 _ _ _)
      | (with_reducible exact dowelref01_trim.mono _ _)
      | (with_reducible exact LeO.refl _)
      | (with_reducible exact LeO.none _)
      | (with_reducible refine LeO.ite ?_ ?_)
      | (with_reducible refine LeO.bind ?_ (fun _ => ?_))
      | exact ih0 _ _ _
      | exact dowelref01_trim.mono _ _
      | exact LeO.none _
      | refine LeO.ite ?_ ?_
      | refine LeO.bind ?_ (fun _ => ?_)
theorem dowelref01_digits.mono : ∀ a0 k, LeO (dowelref01_digits.f k a0) (dowelref01_digits.f (k + 1) a0) := by
  intro a0 k
  have ih0 := dowelref01_digits.mono_l k
  unfold dowelref01_digits.f
  repeat' first
      | (with_reducible exact ih0 _ _ _)
      | (with_reducible exact dowelref01_trim.mono _ _)
      | (with_reducible exact LeO.refl _)
      | (with_reducible exact LeO.none _)
      | (with_reducible refine LeO.ite ?_ ?_)
      | (with_reducible refine LeO.bind ?_ (fun _ => ?_))
      | exact ih0 _ _ _
      | exact dowelref01_trim.mono _ _
      | exact LeO.none _
      | refine LeO.ite ?_ ?_
      | refine LeO.bind ?_ (fun _ => ?_)
set_option maxHeartbeats 8000000 in
set_option maxRecDepth 100000 in
theorem dowelref01_digits.calls (k : Nat) (a0 : ByteArray) (r : List Int) (w : World) (h : dowelref01_digits.f k a0 = some r) :
    Calls Tryd.prog 58 #[.string a0] w fun e w' => ∃ v0_ : Value, e = .returned (v0_) ∧ Kd.R (Kd.int .i64) 3 w' w.heap.size (fun _ => True) v0_ r ∧ Below w.heap.size w w' := by
  have HB := Aside0.mk (Below.refl w.heap.size w)
  have H : (dowelref01_digits.l0 k a0 ([] : List Int) (wrap64 ((a0.size : Int) - 1))) = some r := h
  clear h
  have H' := Aside0.mk H
  clear H
  go_enter Tryd.func58, Tryd.ntmps58
  go_wp2
  go_loopg [3, 4] k (fun kq v3 v4 w' => ∃ (x3_1 : List Int) (x4_1 : Int), v4 = .int .i64 x4_1 ∧ Aside0 (dowelref01_digits.l0 kq a0 x3_1 x4_1 = some r) ∧ Aside0 (kq ≤ k) ∧ Aside0 (Kd.R (Kd.int .i64) 3 w' w.heap.size (fun _ => True) v3 x3_1) ∧ Aside0 (Below w.heap.size w w'))
  case atStart => exact ⟨(([] : List Int)), (wrap64 ((a0.size : Int) - 1)), (by first | rfl | (simp; done) | (simp [*]; done) | (simp <;> omega)), H', ⟨Nat.le_refl _⟩, ⟨by first | exact Kd.R_nil _ _ _ _ _ | exact Kd.N_nil _ _ _ _ _ | exact Kd.V_nil _ _ _ _ _ | exact Kd.Q_nil _ _ _ _ _ | exact Kd.S_nil _ _ _ _ _⟩, ⟨by repeat (first | (with_reducible first | exact HB.out | apply below_alloc | apply pw_below_drewN | apply below_drew1) | exact HB.out)⟩⟩
  case round =>
    clear H'
    obtain ⟨x3_1, x4_1, rfl, HA, HK1, HO_3, HB⟩ := hrel
    cases gk with
    | zero => exact absurd HA.out (by simp [dowelref01_digits.l0])
    | succ k1 =>
      have H := HA.out
      clear HA
      simp only [dowelref01_digits.l0] at H
      by_cases c2 : x4_1 ≥ 0
      · rw [if_pos c2] at H
        have c2b0 : decide (0 ≤ x4_1) = true := decide_eq_true c2
        clear c2
        by_cases c3 : 0 ≤ x4_1
        · rw [if_pos c3] at H
          have c3b0 : decide (0 ≤ x4_1) = true := decide_eq_true c3
          clear c3
          by_cases c4 : x4_1 < (a0.size : Int)
          · rw [if_pos c4] at H
            have c4b0 : decide (x4_1 < (a0.size : Int)) = true := decide_eq_true c4
            clear c4
            by_cases c6 : (bt a0 x4_1) = 45
            · rw [if_pos c6] at H
              have c6b0 : ((bt a0 x4_1) == 45) = true := beq_iff_eq.mpr c6
              have c6b1 : ((bt a0 x4_1) != 45) = false := bne_eq_false_iff_eq.mpr c6
              clear c6
              have H' := Aside0.mk H
              clear H
              have p5 : 0 ≤ (x4_1 : Int) := of_decide_eq_true (by first | (with_reducible assumption) | assumption)
              have q5 : x4_1 < (a0.size : Int) := of_decide_eq_true (by first | (with_reducible assumption) | assumption)
              have hx5 := bt_at a0 x4_1
              replace p5 := eq_true p5
              replace q5 := eq_true q5
              go_wp2
              go_roundg k1
              case measure => have := HK1.out; omega
              case rel => exact ⟨(x3_1), (wrap64 (x4_1 - 1)), (by first | rfl | (simp; done) | (simp [*]; done) | (simp <;> omega)), H', ⟨by have := HK1.out; omega⟩, ⟨by (with_reducible repeat (first | apply Kd.R_alloc | apply Kd.R_drewN | apply Kd.R_drew)); exact HO_3.out⟩, ⟨by repeat (first | (with_reducible first | exact HB.out | apply below_alloc | apply pw_below_drewN | apply below_drew1) | exact HB.out)⟩⟩
            · rw [if_neg c6] at H
              have c6b0 : ((bt a0 x4_1) == 45) = false := beq_eq_false_iff_ne.mpr c6
              have c6b1 : ((bt a0 x4_1) != 45) = true := bne_iff_ne.mpr c6
              by_cases c8 : x3_1.length < 17592186044416
              · rw [if_pos c8] at H
                have LMc8 := Aside0.mk c8
                clear c8
                obtain ⟨y528, hy528⟩ : ∃ y_ : List Int, y_ = (x3_1 ++ [wrap64 ((wrap64 (bt a0 x4_1)) - 48)]) := ⟨_, rfl⟩
                replace H : (dowelref01_digits.l0 k1 a0 y528 (wrap64 (x4_1 - 1))) = some r := by first | (rw [hy528]; with_reducible exact H) | (have H2_ := (Option.bind_some _ _).symm.trans H; rw [hy528]; with_reducible exact H2_) | (have H2_ := (Option.bind_some _ _).symm.trans H; with_reducible exact H2_) | with_reducible exact H | (rw [hy528]; exact H) | exact H
                have Ny528 := Aside0.mk hy528
                clear hy528
                have H' := Aside0.mk H
                clear H
                have p5 : 0 ≤ (x4_1 : Int) := of_decide_eq_true (by first | (with_reducible assumption) | assumption)
                have q5 : x4_1 < (a0.size : Int) := of_decide_eq_true (by first | (with_reducible assumption) | assumption)
                have hx5 := bt_at a0 x4_1
                replace p5 := eq_true p5
                replace q5 := eq_true q5
                have p7 : 0 ≤ (x4_1 : Int) := of_decide_eq_true (by first | (with_reducible assumption) | assumption)
                have q7 : x4_1 < (a0.size : Int) := of_decide_eq_true (by first | (with_reducible assumption) | assumption)
                have hx7 := bt_at a0 x4_1
                replace p7 := eq_true p7
                replace q7 := eq_true q7
                go_wp2_with (first | ((with_reducible refine gate_builtin (b := .append) (xs := #[.tmp 16, .tmp 22]) rfl ?_); at_builtin; refine Kd.R_append (Kd.int .i64) (w0 := w) w.heap.size rfl (.tmp 16) (.tmp 22) 67 3 (.int .i64 0) 8 rfl Tryd.underlying67 info3 rfl (by decide) (by omega) u3 x3_1 (wrap64 ((wrap64 (bt a0 x4_1)) - 48)) [.int .i64 (wrap64 ((wrap64 (bt a0 x4_1)) - 48))] (fun _ => True) (fun _ => False) rfl rfl ?aP (fun _ hk => hk.elim) ?aF ?aO ?aB ?aS ?aL ?_; (case aP => exact rfl); (case aB => exact (by repeat (first | (with_reducible first | exact HB.out | apply below_alloc | apply pw_below_drewN | apply below_drew1) | exact HB.out))); (case aF => exact (fun _ _ => trivial)); (case aO => exact (by (with_reducible repeat (first | apply Kd.R_alloc | apply Kd.R_drewN | apply Kd.R_drew)); exact HO_3.out)); (case aS => exact (below_size (by repeat (first | (with_reducible first | exact HB.out | apply below_alloc | apply pw_below_drewN | apply below_drew1) | exact HB.out)))); (case aL => have := LMc8.out; omega); intro v529 w9 ho hb hg hat; rw [← Ny528.out] at ho; have n0_ := Aside0.mk (hb); have n1_ := Aside0.mk (ho); clear HB; clear HO_3; have HB := n0_; have HO530 := n1_; clear n0_ n1_; clear ho hb hg hat))
                go_roundg k1
                case measure => have := HK1.out; omega
                case rel => exact ⟨(y528), (wrap64 (x4_1 - 1)), (by first | rfl | (simp; done) | (simp [*]; done) | (simp <;> omega)), H', ⟨by have := HK1.out; omega⟩, ⟨by (with_reducible repeat (first | apply Kd.R_alloc | apply Kd.R_drewN | apply Kd.R_drew)); exact HO530.out⟩, ⟨by repeat (first | (with_reducible first | exact HB.out | apply below_alloc | apply pw_below_drewN | apply below_drew1) | exact HB.out)⟩⟩
              · rw [if_neg c8] at H
                exact absurd H (by simp)
          · rw [if_neg c4] at H
            exact absurd H (by simp)
        · rw [if_neg c3] at H
          exact absurd H (by simp)
      · rw [if_neg c2] at H
        have c2b0 : decide (0 ≤ x4_1) = false := decide_eq_false c2
        clear c2
        replace H := Option.bind_eq_some_iff.mp H
        obtain ⟨t531, A100, H⟩ := H
        replace H : (some t531) = some r := H
        have A10 := Aside0.mk A100
        clear A100
        obtain rfl := Option.some.inj H
        obtain ⟨Ao11, co11, eo11⟩ := Kd.R_slice HO_3.out
        subst eo11
        go_wp2_with (first | ((with_reducible refine gate_callee (f := 60) rfl ?_); refine goesL_ (some 25) rfl rfl Tryd.func60 (by kernel_rfl) rfl #[.slice Ao11 x3_1.length co11] rfl (by (try simp only [List.map_toArray, List.map_cons, List.map_nil]); first | done | rfl | (simp only [List.length_drop, List.length_take]; rfl)) ?_; (with_reducible refine (dowelref01_trim.calls k1 (fun k_ => some k_ = (.slice Ao11 x3_1.length co11 : Value).ownBlock) (.slice Ao11 x3_1.length co11) x3_1 t531 w _ ?side1 ?side2 A10.out).mono ?_); (case side1 => repeat (first | (with_reducible first | exact HB.out | apply below_alloc | apply pw_below_drewN | apply below_drew1) | exact HB.out)); (case side2 => exact Kd.R_tight rfl HO_3.out); rintro e w12 ⟨v532, rfl, ho0, hb, hkp⟩; refine ⟨_, rfl, ?_⟩; have n0_ := Aside0.mk (Kd.R_mono (ok' := fun k_ => True) ho0 (fun k_ hk_ => trivial)); have n1_ := Aside0.mk (hb); clear HB; clear HO_3; have HO533 := n0_; have HB := n1_; clear n0_ n1_; (try clear hb); (try clear hkp); (try clear ho0)))
        go_ret
        exact ⟨_, by first | rfl | (simp [errW_none, errW_some] <;> rfl) | (simp [*, errW_none, errW_some] <;> rfl), by (with_reducible repeat (first | apply Kd.R_alloc | apply Kd.R_drewN | apply Kd.R_drew)); exact HO533.out, by repeat (first | (with_reducible first | exact HB.out | apply below_alloc | apply pw_below_drewN | apply below_drew1) | exact HB.out)⟩
end Go.Proofs.YtiikfhdmclmjmaaDoor.P
namespace Go.Proofs.YtiikfhdmclmjmaaDoor.P
open Go.RowKit Go.Proofs.YtiikfhdmclmjmaaDoorW.PrintWords Go.Proofs.YtiikfhdmclmjmaaDoorW.PrintLast
set_option linter.unusedVariables false
set_option linter.unusedSimpArgs false
def dowelref01_order.l0 : Nat → List Int → List Int → Int → Option (Int)
  | 0, _, _, _ => none
  | k + 1, x0, x1, x5 => if x5 ≥ 0 then (if 0 ≤ x5 then (if x5 < (x0.length : Int) then (if x5 < (x1.length : Int) then (if (rd x0 x5) < (rd x1 x5) then (some (-1)) else (if (rd x0 x5) > (rd x1 x5) then (some 1) else (dowelref01_order.l0 k x0 x1 (wrap64 (x5 - 1))))) else (none)) else (none)) else (none)) else (some 0)
def dowelref01_order.f (k : Nat) (l0 : List Int) (l1 : List Int) : Option (Int) := if (l0.length : Int) = (l1.length : Int) then (dowelref01_order.l0 k l0 l1 (wrap64 ((l0.length : Int) - 1))) else (if (l0.length : Int) < (l1.length : Int) then (some (-1)) else (some 1))
theorem dowelref01_order.mono_l : ∀ k, (∀ y0 y1 y2, LeO (dowelref01_order.l0 k y0 y1 y2) (dowelref01_order.l0 (k + 1) y0 y1 y2))
  | 0 => fun _ _ _ r h => by simp [dowelref01_order.l0] at h
  | k + 1 => by
    have ih0 := dowelref01_order.mono_l k
    · intro y0 y1 y2
      unfold dowelref01_order.l0
      repeat' first
      | (with_reducible exact ih0 _ _ _)
      | (with_reducible exact LeO.refl _)
      | (with_reducible exact LeO.none _)
      | (with_reducible refine LeO.ite ?_ ?_)
      | (with_reducible refine LeO.bind ?_ (fun _ => ?_))
      | exact ih0 _ _ _
      | exact LeO.none _
      | refine LeO.ite ?_ ?_
      | refine LeO.bind ?_ (fun _ => ?_)
theorem dowelref01_order.mono : ∀ a0 a1 k, LeO (dowelref01_order.f k a0 a1) (dowelref01_order.f (k + 1) a0 a1) := by
  intro a0 a1 k
  have ih0 := dowelref01_order.mono_l k
  unfold dowelref01_order.f
  repeat' first
      | (with_reducible exact ih0 _ _ _)
      | (with_reducible exact LeO.refl _)
      | (with_reducible exact LeO.none _)
      | (with_reducible refine LeO.ite ?_ ?_)
      | (with_reducible refine LeO.bind ?_ (fun _ => ?_))
      | exact ih0 _ _ _
      | exact LeO.none _
      | refine LeO.ite ?_ ?_
      | refine LeO.bind ?_ (fun _ => ?_)
set_option maxHeartbeats 8000000 in
set_option maxRecDepth 100000 in
theorem dowelref01_order.calls (k : Nat) (A0 : Option Addr) (c0 : Nat) (l0 : List Int) (A1 : Option Addr) (c1 : Nat) (l1 : List Int) (r : Int) (w : World) (hr0 : Kd.C (Kd.int .i64) w A0 l0.length l0) (hc0 : l0.length ≤ c0) (hr1 : Kd.C (Kd.int .i64) w A1 l1.length l1) (hc1 : l1.length ≤ c1) (h : dowelref01_order.f k l0 l1 = some r) :
    Calls Tryd.prog 61 #[.slice A0 l0.length c0, .slice A1 l1.length c1] w fun e w' => e = .returned (.int .i64 r) ∧ Drawn0 w w' := by
  have HR0 := Aside0.mk hr0
  have HC0 := Aside0.mk hc0
  clear hr0 hc0
  have HR1 := Aside0.mk hr1
  have HC1 := Aside0.mk hc1
  clear hr1 hc1
  have H : (if (l0.length : Int) = (l1.length : Int) then (dowelref01_order.l0 k l0 l1 (wrap64 ((l0.length : Int) - 1))) else (if (l0.length : Int) < (l1.length : Int) then (some (-1)) else (some 1))) = some r := h
  clear h
  by_cases c3 : (l0.length : Int) = (l1.length : Int)
  · rw [if_pos c3] at H
    have c3b0 : ((l0.length : Int) == (l1.length : Int)) = true := beq_iff_eq.mpr c3
    have c3b1 : ((l0.length : Int) != (l1.length : Int)) = false := bne_eq_false_iff_eq.mpr c3
    have c3b2 : (l0.length == l1.length) = true := by first | simpa using c3 | (simp at c3 ⊢; omega)
    clear c3
    have H' := Aside0.mk H
    clear H
    go_enter Tryd.func61, Tryd.ntmps61
    go_wp2
    repeat (go_quiet (fail); try go_wp2)
    go_loopg [5] k (fun kq v5 w' => ∃ (x5_1 : Int), v5 = .int .i64 x5_1 ∧ Aside0 (dowelref01_order.l0 kq l0 l1 x5_1 = some r) ∧ Aside0 (kq ≤ k) ∧ Drawn0 w w')
    case atStart => exact ⟨(wrap64 ((l0.length : Int) - 1)), (by first | rfl | (simp; done) | (simp [*]; done) | (simp <;> omega)), H', ⟨Nat.le_refl _⟩, by repeat (first | exact Drawn0.refl _ | apply Drawn0.step)⟩
    case round =>
      clear H'
      try clear c1
      try clear p2
      try clear c3
      try clear c3b0
      try clear c3b1
      try clear c3b2
      obtain ⟨x5_1, rfl, HA, HK1, ⟨m1, rfl⟩⟩ := hrel
      cases gk with
      | zero => exact absurd HA.out (by simp [dowelref01_order.l0])
      | succ k1 =>
        have H := HA.out
        clear HA
        simp only [dowelref01_order.l0] at H
        by_cases c4 : x5_1 ≥ 0
        · rw [if_pos c4] at H
          have c4b0 : decide (0 ≤ x5_1) = true := decide_eq_true c4
          clear c4
          by_cases c5 : 0 ≤ x5_1
          · rw [if_pos c5] at H
            have c5b0 : decide (0 ≤ x5_1) = true := decide_eq_true c5
            clear c5
            by_cases c6 : x5_1 < (l0.length : Int)
            · rw [if_pos c6] at H
              have c6b0 : decide (x5_1 < (l0.length : Int)) = true := decide_eq_true c6
              clear c6
              by_cases c7 : x5_1 < (l1.length : Int)
              · rw [if_pos c7] at H
                have c7b0 : decide (x5_1 < (l1.length : Int)) = true := decide_eq_true c7
                clear c7
                by_cases c8 : (rd l0 x5_1) < (rd l1 x5_1)
                · rw [if_pos c8] at H
                  have c8b0 : decide ((rd l0 x5_1) < (rd l1 x5_1)) = true := decide_eq_true c8
                  clear c8
                  obtain rfl := Option.some.inj H
                  have p579 : 0 ≤ (x5_1 : Int) := of_decide_eq_true (by first | (with_reducible assumption) | assumption)
                  have q579 : x5_1 < (l0.length : Int) := of_decide_eq_true (by first | (with_reducible assumption) | assumption)
                  obtain ⟨ad579, e579, hx579_0⟩ := Kd.at_int HR0.out x5_1 p579 q579
                  cases e579
                  replace p579 := eq_true p579
                  replace q579 := eq_true q579
                  have p580 : 0 ≤ (x5_1 : Int) := of_decide_eq_true (by first | (with_reducible assumption) | assumption)
                  have q580 : x5_1 < (l1.length : Int) := of_decide_eq_true (by first | (with_reducible assumption) | assumption)
                  obtain ⟨ad580, e580, hx580_0⟩ := Kd.at_int HR1.out x5_1 p580 q580
                  cases e580
                  replace p580 := eq_true p580
                  replace q580 := eq_true q580
                  go_wp2
                  repeat (go_quiet (fail); try go_wp2)
                  go_ret
                  exact ⟨by first | rfl | (simp; done) | (simp [*]; done) | (simp <;> omega), by repeat (first | exact Drawn0.refl _ | apply Drawn0.step)⟩
                · rw [if_neg c8] at H
                  have c8b0 : decide ((rd l0 x5_1) < (rd l1 x5_1)) = false := decide_eq_false c8
                  clear c8
                  by_cases c9 : (rd l0 x5_1) > (rd l1 x5_1)
                  · rw [if_pos c9] at H
                    have c9b0 : decide ((rd l1 x5_1) < (rd l0 x5_1)) = true := decide_eq_true c9
                    clear c9
                    obtain rfl := Option.some.inj H
                    have p579 : 0 ≤ (x5_1 : Int) := of_decide_eq_true (by first | (with_reducible assumption) | assumption)
                    have q579 : x5_1 < (l0.length : Int) := of_decide_eq_true (by first | (with_reducible assumption) | assumption)
                    obtain ⟨ad579, e579, hx579_0⟩ := Kd.at_int HR0.out x5_1 p579 q579
                    cases e579
                    replace p579 := eq_true p579
                    replace q579 := eq_true q579
                    have p580 : 0 ≤ (x5_1 : Int) := of_decide_eq_true (by first | (with_reducible assumption) | assumption)
                    have q580 : x5_1 < (l1.length : Int) := of_decide_eq_true (by first | (with_reducible assumption) | assumption)
                    obtain ⟨ad580, e580, hx580_0⟩ := Kd.at_int HR1.out x5_1 p580 q580
                    cases e580
                    replace p580 := eq_true p580
                    replace q580 := eq_true q580
                    have p581 : 0 ≤ (x5_1 : Int) := of_decide_eq_true (by first | (with_reducible assumption) | assumption)
                    have q581 : x5_1 < (l0.length : Int) := of_decide_eq_true (by first | (with_reducible assumption) | assumption)
                    obtain ⟨ad581, e581, hx581_0⟩ := Kd.at_int HR0.out x5_1 p581 q581
                    obtain rfl : ad579 = ad581 := (by injection e581)
                    replace p581 := eq_true p581
                    replace q581 := eq_true q581
                    have p582 : 0 ≤ (x5_1 : Int) := of_decide_eq_true (by first | (with_reducible assumption) | assumption)
                    have q582 : x5_1 < (l1.length : Int) := of_decide_eq_true (by first | (with_reducible assumption) | assumption)
                    obtain ⟨ad582, e582, hx582_0⟩ := Kd.at_int HR1.out x5_1 p582 q582
                    obtain rfl : ad580 = ad582 := (by injection e582)
                    replace p582 := eq_true p582
                    replace q582 := eq_true q582
                    go_wp2
                    repeat (go_quiet (fail); try go_wp2)
                    go_ret
                    exact ⟨by first | rfl | (simp; done) | (simp [*]; done) | (simp <;> omega), by repeat (first | exact Drawn0.refl _ | apply Drawn0.step)⟩
                  · rw [if_neg c9] at H
                    have c9b0 : decide ((rd l1 x5_1) < (rd l0 x5_1)) = false := decide_eq_false c9
                    clear c9
                    have H' := Aside0.mk H
                    clear H
                    have p579 : 0 ≤ (x5_1 : Int) := of_decide_eq_true (by first | (with_reducible assumption) | assumption)
                    have q579 : x5_1 < (l0.length : Int) := of_decide_eq_true (by first | (with_reducible assumption) | assumption)
                    obtain ⟨ad579, e579, hx579_0⟩ := Kd.at_int HR0.out x5_1 p579 q579
                    cases e579
                    replace p579 := eq_true p579
                    replace q579 := eq_true q579
                    have p580 : 0 ≤ (x5_1 : Int) := of_decide_eq_true (by first | (with_reducible assumption) | assumption)
                    have q580 : x5_1 < (l1.length : Int) := of_decide_eq_true (by first | (with_reducible assumption) | assumption)
                    obtain ⟨ad580, e580, hx580_0⟩ := Kd.at_int HR1.out x5_1 p580 q580
                    cases e580
                    replace p580 := eq_true p580
                    replace q580 := eq_true q580
                    have p581 : 0 ≤ (x5_1 : Int) := of_decide_eq_true (by first | (with_reducible assumption) | assumption)
                    have q581 : x5_1 < (l0.length : Int) := of_decide_eq_true (by first | (with_reducible assumption) | assumption)
                    obtain ⟨ad581, e581, hx581_0⟩ := Kd.at_int HR0.out x5_1 p581 q581
                    obtain rfl : ad579 = ad581 := (by injection e581)
                    replace p581 := eq_true p581
                    replace q581 := eq_true q581
                    have p582 : 0 ≤ (x5_1 : Int) := of_decide_eq_true (by first | (with_reducible assumption) | assumption)
                    have q582 : x5_1 < (l1.length : Int) := of_decide_eq_true (by first | (with_reducible assumption) | assumption)
                    obtain ⟨ad582, e582, hx582_0⟩ := Kd.at_int HR1.out x5_1 p582 q582
                    obtain rfl : ad580 = ad582 := (by injection e582)
                    replace p582 := eq_true p582
                    replace q582 := eq_true q582
                    go_wp2
                    repeat (go_quiet (fail); try go_wp2)
                    go_roundg k1
                    case measure => have := HK1.out; omega
                    case rel => exact ⟨(wrap64 (x5_1 - 1)), (by first | rfl | (simp; done) | (simp [*]; done) | (simp <;> omega)), H', ⟨by have := HK1.out; omega⟩, by repeat (first | exact Drawn0.refl _ | apply Drawn0.step)⟩
              · rw [if_neg c7] at H
                exact absurd H (by simp)
            · rw [if_neg c6] at H
              exact absurd H (by simp)
          · rw [if_neg c5] at H
            exact absurd H (by simp)
        · rw [if_neg c4] at H
          have c4b0 : decide (0 ≤ x5_1) = false := decide_eq_false c4
          clear c4
          obtain rfl := Option.some.inj H
          go_wp2
          repeat (go_quiet (fail); try go_wp2)
          go_ret
          exact ⟨by first | rfl | (simp; done) | (simp [*]; done) | (simp <;> omega), by repeat (first | exact Drawn0.refl _ | apply Drawn0.step)⟩
  · rw [if_neg c3] at H
    have c3b0 : ((l0.length : Int) == (l1.length : Int)) = false := beq_eq_false_iff_ne.mpr c3
    have c3b1 : ((l0.length : Int) != (l1.length : Int)) = true := bne_iff_ne.mpr c3
    have c3b2 : (l0.length == l1.length) = false := by first | simpa using c3 | (simp at c3 ⊢; omega)
    by_cases c10 : (l0.length : Int) < (l1.length : Int)
    · rw [if_pos c10] at H
      have c10b0 : decide ((l0.length : Int) < (l1.length : Int)) = true := decide_eq_true c10
      have c10b1 : decide (l0.length < l1.length) = true := decide_eq_true (Int.ofNat_lt.mp c10)
      clear c10
      obtain rfl := Option.some.inj H
      go_enter Tryd.func61, Tryd.ntmps61
      go_wp2
      repeat (go_quiet (fail); try go_wp2)
      go_ret
      exact ⟨by first | rfl | (simp; done) | (simp [*]; done) | (simp <;> omega), by repeat (first | exact Drawn0.refl _ | apply Drawn0.step)⟩
    · rw [if_neg c10] at H
      have c10b0 : decide ((l0.length : Int) < (l1.length : Int)) = false := decide_eq_false c10
      have c10b1 : decide (l0.length < l1.length) = false := decide_eq_false (fun h => c10 (Int.ofNat_lt.mpr h))
      clear c10
      obtain rfl := Option.some.inj H
      go_enter Tryd.func61, Tryd.ntmps61
      go_wp2
      repeat (go_quiet (fail); try go_wp2)
      go_ret
      exact ⟨by first | rfl | (simp; done) | (simp [*]; done) | (simp <;> omega), by repeat (first | exact Drawn0.refl _ | apply Drawn0.step)⟩
end Go.Proofs.YtiikfhdmclmjmaaDoor.P
namespace Go.Proofs.YtiikfhdmclmjmaaDoor.P
open Go.RowKit Go.Proofs.YtiikfhdmclmjmaaDoorW.PrintWords Go.Proofs.YtiikfhdmclmjmaaDoorW.PrintLast
set_option linter.unusedVariables false
set_option linter.unusedSimpArgs false
def dowelref01_minus.l0 : Nat → List Int → List Int → List Int → Int → Int → Option (List Int)
  | 0, _, _, _, _, _ => none
  | k + 1, x0, x1, x5, x6, x7 => if x7 < (x0.length : Int) then (if 0 ≤ x7 then (if x7 < (x1.length : Int) then (if (wrap64 ((wrap64 ((rd x0 x7) - x6)) - (rd x1 x7))) < 0 then (if x5.length < 17592186044416 then (dowelref01_minus.l0 k x0 x1 (x5 ++ [wrap64 ((wrap64 ((wrap64 ((rd x0 x7) - x6)) - (rd x1 x7))) + 10)]) 1 (wrap64 (x7 + 1))) else (none)) else (if x5.length < 17592186044416 then (dowelref01_minus.l0 k x0 x1 (x5 ++ [wrap64 ((wrap64 ((rd x0 x7) - x6)) - (rd x1 x7))]) 0 (wrap64 (x7 + 1))) else (none))) else (if (wrap64 ((rd x0 x7) - x6)) < 0 then (if x5.length < 17592186044416 then (dowelref01_minus.l0 k x0 x1 (x5 ++ [wrap64 ((wrap64 ((rd x0 x7) - x6)) + 10)]) 1 (wrap64 (x7 + 1))) else (none)) else (if x5.length < 17592186044416 then (dowelref01_minus.l0 k x0 x1 (x5 ++ [wrap64 ((rd x0 x7) - x6)]) 0 (wrap64 (x7 + 1))) else (none)))) else (none)) else ((dowelref01_trim.f k x5).bind fun t583 => (some t583))
def dowelref01_minus.f (k : Nat) (l0 : List Int) (l1 : List Int) : Option (List Int) := dowelref01_minus.l0 k l0 l1 ([] : List Int) 0 0
theorem dowelref01_minus.mono_l : ∀ k, (∀ y0 y1 y2 y3 y4, LeO (dowelref01_minus.l0 k y0 y1 y2 y3 y4) (dowelref01_minus.l0 (k + 1) y0 y1 y2 y3 y4))
  | 0 => fun _ _ _ _ _ r h => by simp [dowelref01_minus.l0] at h
  | k + 1 => by
    have ih0 := dowelref01_minus.mono_l k
    · intro y0 y1 y2 y3 y4
      unfold dowelref01_minus.l0
      repeat' first
      | (with_reducible exact ih0 _ _ _ _ _)
      | (with_reducible exact dowelref01_trim.mono _ _)
      | (with_reducible exact LeO.refl _)
      | (with_reducible exact LeO.none _)
      | (with_reducible refine LeO.ite ?_ ?_)
      | (with_reducible refine LeO.bind ?_ (fun _ => ?_))
      | exact ih0 _ _ _ _ _
      | exact dowelref01_trim.mono _ _
      | exact LeO.none _
      | refine LeO.ite ?_ ?_
      | refine LeO.bind ?_ (fun _ => ?_)
theorem dowelref01_minus.mono : ∀ a0 a1 k, LeO (dowelref01_minus.f k a0 a1) (dowelref01_minus.f (k + 1) a0 a1) := by
  intro a0 a1 k
  have ih0 := dowelref01_minus.mono_l k
  unfold dowelref01_minus.f
  repeat' first
      | (with_reducible exact ih0 _ _ _ _ _)
      | (with_reducible exact dowelref01_trim.mono _ _)
      | (with_reducible exact LeO.refl _)
      | (with_reducible exact LeO.none _)
      | (with_reducible refine LeO.ite ?_ ?_)
      | (with_reducible refine LeO.bind ?_ (fun _ => ?_))
      | exact ih0 _ _ _ _ _
      | exact dowelref01_trim.mono _ _
      | exact LeO.none _
      | refine LeO.ite ?_ ?_
      | refine LeO.bind ?_ (fun _ => ?_)
set_option maxHeartbeats 8000000 in
set_option maxRecDepth 100000 in
theorem dowelref01_minus.calls (k : Nat) (A0 : Option Addr) (c0 : Nat) (l0 : List Int) (A1 : Option Addr) (c1 : Nat) (l1 : List Int) (r : List Int) (w : World) (hr0 : Kd.C (Kd.int .i64) w A0 l0.length l0) (hc0 : l0.length ≤ c0) (hr1 : Kd.C (Kd.int .i64) w A1 l1.length l1) (hc1 : l1.length ≤ c1) (h : dowelref01_minus.f k l0 l1 = some r) :
    Calls Tryd.prog 62 #[.slice A0 l0.length c0, .slice A1 l1.length c1] w fun e w' => ∃ v0_ : Value, e = .returned (v0_) ∧ Kd.R (Kd.int .i64) 3 w' w.heap.size (fun _ => True) v0_ r ∧ Below w.heap.size w w' := by
  have HR0 := Aside0.mk hr0
  have HC0 := Aside0.mk hc0
  clear hr0 hc0
  have HR1 := Aside0.mk hr1
  have HC1 := Aside0.mk hc1
  clear hr1 hc1
  have HB := Aside0.mk (Below.refl w.heap.size w)
  have H : (dowelref01_minus.l0 k l0 l1 ([] : List Int) 0 0) = some r := h
  clear h
  have H' := Aside0.mk H
  clear H
  go_enter Tryd.func62, Tryd.ntmps62
  go_wp2
  go_loopg [5, 6, 7] k (fun kq v5 v6 v7 w' => ∃ (x5_1 : List Int) (x6_1 : Int) (x7_1 : Int), v6 = .int .i64 x6_1 ∧ v7 = .int .i64 x7_1 ∧ Aside0 (dowelref01_minus.l0 kq l0 l1 x5_1 x6_1 x7_1 = some r) ∧ Aside0 (kq ≤ k) ∧ Aside0 (Kd.R (Kd.int .i64) 3 w' w.heap.size (fun _ => True) v5 x5_1) ∧ Aside0 (Below w.heap.size w w'))
  case atStart => exact ⟨(([] : List Int)), (0), (0), (by first | rfl | (simp; done) | (simp [*]; done) | (simp <;> omega)), (by first | rfl | (simp; done) | (simp [*]; done) | (simp <;> omega)), H', ⟨Nat.le_refl _⟩, ⟨by first | exact Kd.R_nil _ _ _ _ _ | exact Kd.N_nil _ _ _ _ _ | exact Kd.V_nil _ _ _ _ _ | exact Kd.Q_nil _ _ _ _ _ | exact Kd.S_nil _ _ _ _ _⟩, ⟨by repeat (first | (with_reducible first | exact HB.out | apply below_alloc | apply pw_below_drewN | apply below_drew1) | exact HB.out)⟩⟩
  case round =>
    clear H'
    try clear c1
    try clear p2
    obtain ⟨x5_1, x6_1, x7_1, rfl, rfl, HA, HK1, HO_5, HB⟩ := hrel
    cases gk with
    | zero => exact absurd HA.out (by simp [dowelref01_minus.l0])
    | succ k1 =>
      have H := HA.out
      clear HA
      simp only [dowelref01_minus.l0] at H
      by_cases c3 : x7_1 < (l0.length : Int)
      · rw [if_pos c3] at H
        have c3b0 : decide (x7_1 < (l0.length : Int)) = true := decide_eq_true c3
        clear c3
        by_cases c4 : 0 ≤ x7_1
        · rw [if_pos c4] at H
          have c4b0 : decide (0 ≤ x7_1) = true := decide_eq_true c4
          clear c4
          by_cases c5 : x7_1 < (l1.length : Int)
          · rw [if_pos c5] at H
            have c5b0 : decide (x7_1 < (l1.length : Int)) = true := decide_eq_true c5
            clear c5
            by_cases c6 : (wrap64 ((wrap64 ((rd l0 x7_1) - x6_1)) - (rd l1 x7_1))) < 0
            · rw [if_pos c6] at H
              have c6b0 : decide ((wrap64 ((wrap64 ((rd l0 x7_1) - x6_1)) - (rd l1 x7_1))) < 0) = true := decide_eq_true c6
              clear c6
              by_cases c7 : x5_1.length < 17592186044416
              · rw [if_pos c7] at H
                have LMc7 := Aside0.mk c7
                clear c7
                obtain ⟨y588, hy588⟩ : ∃ y_ : List Int, y_ = (x5_1 ++ [wrap64 ((wrap64 ((wrap64 ((rd l0 x7_1) - x6_1)) - (rd l1 x7_1))) + 10)]) := ⟨_, rfl⟩
                replace H : (dowelref01_minus.l0 k1 l0 l1 y588 1 (wrap64 (x7_1 + 1))) = some r := by first | (rw [hy588]; with_reducible exact H) | (have H2_ := (Option.bind_some _ _).symm.trans H; rw [hy588]; with_reducible exact H2_) | (have H2_ := (Option.bind_some _ _).symm.trans H; with_reducible exact H2_) | with_reducible exact H | (rw [hy588]; exact H) | exact H
                have Ny588 := Aside0.mk hy588
                clear hy588
                have H' := Aside0.mk H
                clear H
                have p586 : 0 ≤ (x7_1 : Int) := of_decide_eq_true (by first | (with_reducible assumption) | assumption)
                have q586 : x7_1 < (l0.length : Int) := of_decide_eq_true (by first | (with_reducible assumption) | assumption)
                obtain ⟨ad586, e586, hx586_0⟩ := Kd.at_int HR0.out x7_1 p586 q586
                cases e586
                replace hx586_0 := (HB.out.cell (World.block_lt_of_cell? w _ hx586_0)).trans hx586_0
                replace p586 := eq_true p586
                replace q586 := eq_true q586
                have p587 : 0 ≤ (x7_1 : Int) := of_decide_eq_true (by first | (with_reducible assumption) | assumption)
                have q587 : x7_1 < (l1.length : Int) := of_decide_eq_true (by first | (with_reducible assumption) | assumption)
                obtain ⟨ad587, e587, hx587_0⟩ := Kd.at_int HR1.out x7_1 p587 q587
                cases e587
                replace hx587_0 := (HB.out.cell (World.block_lt_of_cell? w _ hx587_0)).trans hx587_0
                replace p587 := eq_true p587
                replace q587 := eq_true q587
                go_wp2_with (first | ((with_reducible refine gate_builtin (b := .append) (xs := #[.tmp 35, .tmp 37]) rfl ?_); at_builtin; refine Kd.R_append (Kd.int .i64) (w0 := w) w.heap.size rfl (.tmp 35) (.tmp 37) 67 3 (.int .i64 0) 8 rfl Tryd.underlying67 info3 rfl (by decide) (by omega) u5 x5_1 (wrap64 ((wrap64 ((wrap64 ((rd l0 x7_1) - x6_1)) - (rd l1 x7_1))) + 10)) [.int .i64 (wrap64 ((wrap64 ((wrap64 ((rd l0 x7_1) - x6_1)) - (rd l1 x7_1))) + 10))] (fun _ => True) (fun _ => False) rfl rfl ?aP (fun _ hk => hk.elim) ?aF ?aO ?aB ?aS ?aL ?_; (case aP => exact rfl); (case aB => exact (by repeat (first | (with_reducible first | exact HB.out | apply below_alloc | apply pw_below_drewN | apply below_drew1) | exact HB.out))); (case aF => exact (fun _ _ => trivial)); (case aO => exact (by (with_reducible repeat (first | apply Kd.R_alloc | apply Kd.R_drewN | apply Kd.R_drew)); exact HO_5.out)); (case aS => exact (below_size (by repeat (first | (with_reducible first | exact HB.out | apply below_alloc | apply pw_below_drewN | apply below_drew1) | exact HB.out)))); (case aL => have := LMc7.out; omega); intro v589 w8 ho hb hg hat; rw [← Ny588.out] at ho; have n0_ := Aside0.mk (hb); have n1_ := Aside0.mk (ho); clear HB; clear HO_5; have HB := n0_; have HO590 := n1_; clear n0_ n1_; clear ho hb hg hat))
                go_roundg k1
                case measure => have := HK1.out; omega
                case rel => exact ⟨(y588), (1), (wrap64 (x7_1 + 1)), (by first | rfl | (simp; done) | (simp [*]; done) | (simp <;> omega)), (by first | rfl | (simp; done) | (simp [*]; done) | (simp <;> omega)), H', ⟨by have := HK1.out; omega⟩, ⟨by (with_reducible repeat (first | apply Kd.R_alloc | apply Kd.R_drewN | apply Kd.R_drew)); exact HO590.out⟩, ⟨by repeat (first | (with_reducible first | exact HB.out | apply below_alloc | apply pw_below_drewN | apply below_drew1) | exact HB.out)⟩⟩
              · rw [if_neg c7] at H
                exact absurd H (by simp)
            · rw [if_neg c6] at H
              have c6b0 : decide ((wrap64 ((wrap64 ((rd l0 x7_1) - x6_1)) - (rd l1 x7_1))) < 0) = false := decide_eq_false c6
              clear c6
              by_cases c9 : x5_1.length < 17592186044416
              · rw [if_pos c9] at H
                have LMc9 := Aside0.mk c9
                clear c9
                obtain ⟨y591, hy591⟩ : ∃ y_ : List Int, y_ = (x5_1 ++ [wrap64 ((wrap64 ((rd l0 x7_1) - x6_1)) - (rd l1 x7_1))]) := ⟨_, rfl⟩
                replace H : (dowelref01_minus.l0 k1 l0 l1 y591 0 (wrap64 (x7_1 + 1))) = some r := by first | (rw [hy591]; with_reducible exact H) | (have H2_ := (Option.bind_some _ _).symm.trans H; rw [hy591]; with_reducible exact H2_) | (have H2_ := (Option.bind_some _ _).symm.trans H; with_reducible exact H2_) | with_reducible exact H | (rw [hy591]; exact H) | exact H
                have Ny591 := Aside0.mk hy591
                clear hy591
                have H' := Aside0.mk H
                clear H
                have p586 : 0 ≤ (x7_1 : Int) := of_decide_eq_true (by first | (with_reducible assumption) | assumption)
                have q586 : x7_1 < (l0.length : Int) := of_decide_eq_true (by first | (with_reducible assumption) | assumption)
                obtain ⟨ad586, e586, hx586_0⟩ := Kd.at_int HR0.out x7_1 p586 q586
                cases e586
                replace hx586_0 := (HB.out.cell (World.block_lt_of_cell? w _ hx586_0)).trans hx586_0
                replace p586 := eq_true p586
                replace q586 := eq_true q586
                have p587 : 0 ≤ (x7_1 : Int) := of_decide_eq_true (by first | (with_reducible assumption) | assumption)
                have q587 : x7_1 < (l1.length : Int) := of_decide_eq_true (by first | (with_reducible assumption) | assumption)
                obtain ⟨ad587, e587, hx587_0⟩ := Kd.at_int HR1.out x7_1 p587 q587
                cases e587
                replace hx587_0 := (HB.out.cell (World.block_lt_of_cell? w _ hx587_0)).trans hx587_0
                replace p587 := eq_true p587
                replace q587 := eq_true q587
                go_wp2_with (first | ((with_reducible refine gate_builtin (b := .append) (xs := #[.tmp 35, .tmp 37]) rfl ?_); at_builtin; refine Kd.R_append (Kd.int .i64) (w0 := w) w.heap.size rfl (.tmp 35) (.tmp 37) 67 3 (.int .i64 0) 8 rfl Tryd.underlying67 info3 rfl (by decide) (by omega) u5 x5_1 (wrap64 ((wrap64 ((rd l0 x7_1) - x6_1)) - (rd l1 x7_1))) [.int .i64 (wrap64 ((wrap64 ((rd l0 x7_1) - x6_1)) - (rd l1 x7_1)))] (fun _ => True) (fun _ => False) rfl rfl ?aP (fun _ hk => hk.elim) ?aF ?aO ?aB ?aS ?aL ?_; (case aP => exact rfl); (case aB => exact (by repeat (first | (with_reducible first | exact HB.out | apply below_alloc | apply pw_below_drewN | apply below_drew1) | exact HB.out))); (case aF => exact (fun _ _ => trivial)); (case aO => exact (by (with_reducible repeat (first | apply Kd.R_alloc | apply Kd.R_drewN | apply Kd.R_drew)); exact HO_5.out)); (case aS => exact (below_size (by repeat (first | (with_reducible first | exact HB.out | apply below_alloc | apply pw_below_drewN | apply below_drew1) | exact HB.out)))); (case aL => have := LMc9.out; omega); intro v592 w10 ho hb hg hat; rw [← Ny591.out] at ho; have n0_ := Aside0.mk (hb); have n1_ := Aside0.mk (ho); clear HB; clear HO_5; have HB := n0_; have HO593 := n1_; clear n0_ n1_; clear ho hb hg hat))
                go_roundg k1
                case measure => have := HK1.out; omega
                case rel => exact ⟨(y591), (0), (wrap64 (x7_1 + 1)), (by first | rfl | (simp; done) | (simp [*]; done) | (simp <;> omega)), (by first | rfl | (simp; done) | (simp [*]; done) | (simp <;> omega)), H', ⟨by have := HK1.out; omega⟩, ⟨by (with_reducible repeat (first | apply Kd.R_alloc | apply Kd.R_drewN | apply Kd.R_drew)); exact HO593.out⟩, ⟨by repeat (first | (with_reducible first | exact HB.out | apply below_alloc | apply pw_below_drewN | apply below_drew1) | exact HB.out)⟩⟩
              · rw [if_neg c9] at H
                exact absurd H (by simp)
          · rw [if_neg c5] at H
            have c5b0 : decide (x7_1 < (l1.length : Int)) = false := decide_eq_false c5
            clear c5
            by_cases c11 : (wrap64 ((rd l0 x7_1) - x6_1)) < 0
            · rw [if_pos c11] at H
              have c11b0 : decide ((wrap64 ((rd l0 x7_1) - x6_1)) < 0) = true := decide_eq_true c11
              clear c11
              by_cases c12 : x5_1.length < 17592186044416
              · rw [if_pos c12] at H
                have LMc12 := Aside0.mk c12
                clear c12
                obtain ⟨y594, hy594⟩ : ∃ y_ : List Int, y_ = (x5_1 ++ [wrap64 ((wrap64 ((rd l0 x7_1) - x6_1)) + 10)]) := ⟨_, rfl⟩
                replace H : (dowelref01_minus.l0 k1 l0 l1 y594 1 (wrap64 (x7_1 + 1))) = some r := by first | (rw [hy594]; with_reducible exact H) | (have H2_ := (Option.bind_some _ _).symm.trans H; rw [hy594]; with_reducible exact H2_) | (have H2_ := (Option.bind_some _ _).symm.trans H; with_reducible exact H2_) | with_reducible exact H | (rw [hy594]; exact H) | exact H
                have Ny594 := Aside0.mk hy594
                clear hy594
                have H' := Aside0.mk H
                clear H
                have p586 : 0 ≤ (x7_1 : Int) := of_decide_eq_true (by first | (with_reducible assumption) | assumption)
                have q586 : x7_1 < (l0.length : Int) := of_decide_eq_true (by first | (with_reducible assumption) | assumption)
                obtain ⟨ad586, e586, hx586_0⟩ := Kd.at_int HR0.out x7_1 p586 q586
                cases e586
                replace hx586_0 := (HB.out.cell (World.block_lt_of_cell? w _ hx586_0)).trans hx586_0
                replace p586 := eq_true p586
                replace q586 := eq_true q586
                go_wp2_with (first | ((with_reducible refine gate_builtin (b := .append) (xs := #[.tmp 35, .tmp 37]) rfl ?_); at_builtin; refine Kd.R_append (Kd.int .i64) (w0 := w) w.heap.size rfl (.tmp 35) (.tmp 37) 67 3 (.int .i64 0) 8 rfl Tryd.underlying67 info3 rfl (by decide) (by omega) u5 x5_1 (wrap64 ((wrap64 ((rd l0 x7_1) - x6_1)) + 10)) [.int .i64 (wrap64 ((wrap64 ((rd l0 x7_1) - x6_1)) + 10))] (fun _ => True) (fun _ => False) rfl rfl ?aP (fun _ hk => hk.elim) ?aF ?aO ?aB ?aS ?aL ?_; (case aP => exact rfl); (case aB => exact (by repeat (first | (with_reducible first | exact HB.out | apply below_alloc | apply pw_below_drewN | apply below_drew1) | exact HB.out))); (case aF => exact (fun _ _ => trivial)); (case aO => exact (by (with_reducible repeat (first | apply Kd.R_alloc | apply Kd.R_drewN | apply Kd.R_drew)); exact HO_5.out)); (case aS => exact (below_size (by repeat (first | (with_reducible first | exact HB.out | apply below_alloc | apply pw_below_drewN | apply below_drew1) | exact HB.out)))); (case aL => have := LMc12.out; omega); intro v595 w13 ho hb hg hat; rw [← Ny594.out] at ho; have n0_ := Aside0.mk (hb); have n1_ := Aside0.mk (ho); clear HB; clear HO_5; have HB := n0_; have HO596 := n1_; clear n0_ n1_; clear ho hb hg hat))
                go_roundg k1
                case measure => have := HK1.out; omega
                case rel => exact ⟨(y594), (1), (wrap64 (x7_1 + 1)), (by first | rfl | (simp; done) | (simp [*]; done) | (simp <;> omega)), (by first | rfl | (simp; done) | (simp [*]; done) | (simp <;> omega)), H', ⟨by have := HK1.out; omega⟩, ⟨by (with_reducible repeat (first | apply Kd.R_alloc | apply Kd.R_drewN | apply Kd.R_drew)); exact HO596.out⟩, ⟨by repeat (first | (with_reducible first | exact HB.out | apply below_alloc | apply pw_below_drewN | apply below_drew1) | exact HB.out)⟩⟩
              · rw [if_neg c12] at H
                exact absurd H (by simp)
            · rw [if_neg c11] at H
              have c11b0 : decide ((wrap64 ((rd l0 x7_1) - x6_1)) < 0) = false := decide_eq_false c11
              clear c11
              by_cases c14 : x5_1.length < 17592186044416
              · rw [if_pos c14] at H
                have LMc14 := Aside0.mk c14
                clear c14
                obtain ⟨y597, hy597⟩ : ∃ y_ : List Int, y_ = (x5_1 ++ [wrap64 ((rd l0 x7_1) - x6_1)]) := ⟨_, rfl⟩
                replace H : (dowelref01_minus.l0 k1 l0 l1 y597 0 (wrap64 (x7_1 + 1))) = some r := by first | (rw [hy597]; with_reducible exact H) | (have H2_ := (Option.bind_some _ _).symm.trans H; rw [hy597]; with_reducible exact H2_) | (have H2_ := (Option.bind_some _ _).symm.trans H; with_reducible exact H2_) | with_reducible exact H | (rw [hy597]; exact H) | exact H
                have Ny597 := Aside0.mk hy597
                clear hy597
                have H' := Aside0.mk H
                clear H
                have p586 : 0 ≤ (x7_1 : Int) := of_decide_eq_true (by first | (with_reducible assumption) | assumption)
                have q586 : x7_1 < (l0.length : Int) := of_decide_eq_true (by first | (with_reducible assumption) | assumption)
                obtain ⟨ad586, e586, hx586_0⟩ := Kd.at_int HR0.out x7_1 p586 q586
                cases e586
                replace hx586_0 := (HB.out.cell (World.block_lt_of_cell? w _ hx586_0)).trans hx586_0
                replace p586 := eq_true p586
                replace q586 := eq_true q586
                go_wp2_with (first | ((with_reducible refine gate_builtin (b := .append) (xs := #[.tmp 35, .tmp 37]) rfl ?_); at_builtin; refine Kd.R_append (Kd.int .i64) (w0 := w) w.heap.size rfl (.tmp 35) (.tmp 37) 67 3 (.int .i64 0) 8 rfl Tryd.underlying67 info3 rfl (by decide) (by omega) u5 x5_1 (wrap64 ((rd l0 x7_1) - x6_1)) [.int .i64 (wrap64 ((rd l0 x7_1) - x6_1))] (fun _ => True) (fun _ => False) rfl rfl ?aP (fun _ hk => hk.elim) ?aF ?aO ?aB ?aS ?aL ?_; (case aP => exact rfl); (case aB => exact (by repeat (first | (with_reducible first | exact HB.out | apply below_alloc | apply pw_below_drewN | apply below_drew1) | exact HB.out))); (case aF => exact (fun _ _ => trivial)); (case aO => exact (by (with_reducible repeat (first | apply Kd.R_alloc | apply Kd.R_drewN | apply Kd.R_drew)); exact HO_5.out)); (case aS => exact (below_size (by repeat (first | (with_reducible first | exact HB.out | apply below_alloc | apply pw_below_drewN | apply below_drew1) | exact HB.out)))); (case aL => have := LMc14.out; omega); intro v598 w15 ho hb hg hat; rw [← Ny597.out] at ho; have n0_ := Aside0.mk (hb); have n1_ := Aside0.mk (ho); clear HB; clear HO_5; have HB := n0_; have HO599 := n1_; clear n0_ n1_; clear ho hb hg hat))
                go_roundg k1
                case measure => have := HK1.out; omega
                case rel => exact ⟨(y597), (0), (wrap64 (x7_1 + 1)), (by first | rfl | (simp; done) | (simp [*]; done) | (simp <;> omega)), (by first | rfl | (simp; done) | (simp [*]; done) | (simp <;> omega)), H', ⟨by have := HK1.out; omega⟩, ⟨by (with_reducible repeat (first | apply Kd.R_alloc | apply Kd.R_drewN | apply Kd.R_drew)); exact HO599.out⟩, ⟨by repeat (first | (with_reducible first | exact HB.out | apply below_alloc | apply pw_below_drewN | apply below_drew1) | exact HB.out)⟩⟩
              · rw [if_neg c14] at H
                exact absurd H (by simp)
        · rw [if_neg c4] at H
          exact absurd H (by simp)
      · rw [if_neg c3] at H
        have c3b0 : decide (x7_1 < (l0.length : Int)) = false := decide_eq_false c3
        clear c3
        replace H := Option.bind_eq_some_iff.mp H
        obtain ⟨t583, A160, H⟩ := H
        replace H : (some t583) = some r := H
        have A16 := Aside0.mk A160
        clear A160
        obtain rfl := Option.some.inj H
        obtain ⟨Ao17, co17, eo17⟩ := Kd.R_slice HO_5.out
        subst eo17
        go_wp2_with (first | ((with_reducible refine gate_callee (f := 60) rfl ?_); refine goesL_ (some 40) rfl rfl Tryd.func60 (by kernel_rfl) rfl #[.slice Ao17 x5_1.length co17] rfl (by (try simp only [List.map_toArray, List.map_cons, List.map_nil]); first | done | rfl | (simp only [List.length_drop, List.length_take]; rfl)) ?_; (with_reducible refine (dowelref01_trim.calls k1 (fun k_ => some k_ = (.slice Ao17 x5_1.length co17 : Value).ownBlock) (.slice Ao17 x5_1.length co17) x5_1 t583 w _ ?side1 ?side2 A16.out).mono ?_); (case side1 => repeat (first | (with_reducible first | exact HB.out | apply below_alloc | apply pw_below_drewN | apply below_drew1) | exact HB.out)); (case side2 => exact Kd.R_tight rfl HO_5.out); rintro e w18 ⟨v584, rfl, ho0, hb, hkp⟩; refine ⟨_, rfl, ?_⟩; have n0_ := Aside0.mk (Kd.R_mono (ok' := fun k_ => True) ho0 (fun k_ hk_ => trivial)); have n1_ := Aside0.mk (hb); clear HB; clear HO_5; have HO585 := n0_; have HB := n1_; clear n0_ n1_; (try clear hb); (try clear hkp); (try clear ho0)))
        go_ret
        exact ⟨_, by first | rfl | (simp [errW_none, errW_some] <;> rfl) | (simp [*, errW_none, errW_some] <;> rfl), by (with_reducible repeat (first | apply Kd.R_alloc | apply Kd.R_drewN | apply Kd.R_drew)); exact HO585.out, by repeat (first | (with_reducible first | exact HB.out | apply below_alloc | apply pw_below_drewN | apply below_drew1) | exact HB.out)⟩
end Go.Proofs.YtiikfhdmclmjmaaDoor.P
namespace Go.Proofs.YtiikfhdmclmjmaaDoor.P
open Go.RowKit Go.Proofs.YtiikfhdmclmjmaaDoorW.PrintWords Go.Proofs.YtiikfhdmclmjmaaDoorW.PrintLast
set_option linter.unusedVariables false
set_option linter.unusedSimpArgs false
mutual
def dowelref01_plus.l0 : Nat → List Int → List Int → List Int → Int → Int → Option (List Int)
  | 0, _, _, _, _, _ => none
  | k + 1, x0, x1, x5, x6, x7 => if x7 < (x0.length : Int) then (dowelref01_plus.j1 k x0 x1 x5 x6 x7 true) else (if x7 < (x1.length : Int) then (dowelref01_plus.j1 k x0 x1 x5 x6 x7 true) else (dowelref01_plus.j1 k x0 x1 x5 x6 x7 (decide (x6 > 0))))
def dowelref01_plus.j1 : Nat → List Int → List Int → List Int → Int → Int → Bool → Option (List Int)
  | 0, _, _, _, _, _, _ => none
  | k + 1, x0, x1, x5, x6, x7, x22 => if x22 = true then (if x7 < (x0.length : Int) then (if 0 ≤ x7 then (if x7 < (x1.length : Int) then (if x5.length < 17592186044416 then (dowelref01_plus.l0 k x0 x1 (x5 ++ [Int.tmod (wrap64 ((wrap64 (x6 + (rd x0 x7))) + (rd x1 x7))) 10]) (wrap64 (Int.tdiv (wrap64 ((wrap64 (x6 + (rd x0 x7))) + (rd x1 x7))) 10)) (wrap64 (x7 + 1))) else (none)) else (if x5.length < 17592186044416 then (dowelref01_plus.l0 k x0 x1 (x5 ++ [Int.tmod (wrap64 (x6 + (rd x0 x7))) 10]) (wrap64 (Int.tdiv (wrap64 (x6 + (rd x0 x7))) 10)) (wrap64 (x7 + 1))) else (none))) else (none)) else (if x7 < (x1.length : Int) then (if 0 ≤ x7 then (if x5.length < 17592186044416 then (dowelref01_plus.l0 k x0 x1 (x5 ++ [Int.tmod (wrap64 (x6 + (rd x1 x7))) 10]) (wrap64 (Int.tdiv (wrap64 (x6 + (rd x1 x7))) 10)) (wrap64 (x7 + 1))) else (none)) else (none)) else (if x5.length < 17592186044416 then (dowelref01_plus.l0 k x0 x1 (x5 ++ [Int.tmod x6 10]) (wrap64 (Int.tdiv x6 10)) (wrap64 (x7 + 1))) else (none)))) else (some x5)
end
def dowelref01_plus.f (k : Nat) (l0 : List Int) (l1 : List Int) : Option (List Int) := dowelref01_plus.l0 k l0 l1 ([] : List Int) 0 0
theorem dowelref01_plus.mono_l : ∀ k, (∀ y0 y1 y2 y3 y4, LeO (dowelref01_plus.l0 k y0 y1 y2 y3 y4) (dowelref01_plus.l0 (k + 1) y0 y1 y2 y3 y4)) ∧ (∀ y0 y1 y2 y3 y4 y5, LeO (dowelref01_plus.j1 k y0 y1 y2 y3 y4 y5) (dowelref01_plus.j1 (k + 1) y0 y1 y2 y3 y4 y5))
  | 0 => ⟨fun _ _ _ _ _ r h => by simp [dowelref01_plus.l0] at h, fun _ _ _ _ _ _ r h => by simp [dowelref01_plus.j1] at h⟩
  | k + 1 => by
    obtain ⟨ih0, ih1⟩ := dowelref01_plus.mono_l k
    refine ⟨?_, ?_⟩
    · intro y0 y1 y2 y3 y4
      unfold dowelref01_plus.l0
      repeat' first
      | (with_reducible exact ih0 _ _ _ _ _)
      | (with_reducible exact ih1 _ _ _ _ _ _)
      | (with_reducible exact LeO.refl _)
      | (with_reducible exact LeO.none _)
      | (with_reducible refine LeO.ite ?_ ?_)
      | (with_reducible refine LeO.bind ?_ (fun _ => ?_))
      | exact ih0 _ _ _ _ _
      | exact ih1 _ _ _ _ _ _
      | exact LeO.none _
      | refine LeO.ite ?_ ?_
      | refine LeO.bind ?_ (fun _ => ?_)
    · intro y0 y1 y2 y3 y4 y5
      unfold dowelref01_plus.j1
      repeat' first
      | (with_reducible exact ih0 _ _ _ _ _)
      | (with_reducible exact ih1 _ _ _ _ _ _)
      | (with_reducible exact LeO.refl _)
      | (with_reducible exact LeO.none _)
      | (with_reducible refine LeO.ite ?_ ?_)
      | (with_reducible refine LeO.bind ?_ (fun _ => ?_))
      | exact ih0 _ _ _ _ _
      | exact ih1 _ _ _ _ _ _
      | exact LeO.none _
      | refine LeO.ite ?_ ?_
      | refine LeO.bind ?_ (fun _ => ?_)
theorem dowelref01_plus.mono : ∀ a0 a1 k, LeO (dowelref01_plus.f k a0 a1) (dowelref01_plus.f (k + 1) a0 a1) := by
  intro a0 a1 k
  obtain ⟨ih0, ih1⟩ := dowelref01_plus.mono_l k
  unfold dowelref01_plus.f
  repeat' first
      | (with_reducible exact ih0 _ _ _ _ _)
      | (with_reducible exact ih1 _ _ _ _ _ _)
      | (with_reducible exact LeO.refl _)
      | (with_reducible exact LeO.none _)
      | (with_reducible refine LeO.ite ?_ ?_)
      | (with_reducible refine LeO.bind ?_ (fun _ => ?_))
      | exact ih0 _ _ _ _ _
      | exact ih1 _ _ _ _ _ _
      | exact LeO.none _
      | refine LeO.ite ?_ ?_
      | refine LeO.bind ?_ (fun _ => ?_)
set_option maxHeartbeats 8000000 in
set_option maxRecDepth 100000 in
theorem dowelref01_plus.calls (k : Nat) (A0 : Option Addr) (c0 : Nat) (l0 : List Int) (A1 : Option Addr) (c1 : Nat) (l1 : List Int) (r : List Int) (w : World) (hr0 : Kd.C (Kd.int .i64) w A0 l0.length l0) (hc0 : l0.length ≤ c0) (hr1 : Kd.C (Kd.int .i64) w A1 l1.length l1) (hc1 : l1.length ≤ c1) (h : dowelref01_plus.f k l0 l1 = some r) :
    Calls Tryd.prog 65 #[.slice A0 l0.length c0, .slice A1 l1.length c1] w fun e w' => ∃ v0_ : Value, e = .returned (v0_) ∧ Kd.R (Kd.int .i64) 3 w' w.heap.size (fun _ => True) v0_ r ∧ Below w.heap.size w w' := by
  have HR0 := Aside0.mk hr0
  have HC0 := Aside0.mk hc0
  clear hr0 hc0
  have HR1 := Aside0.mk hr1
  have HC1 := Aside0.mk hc1
  clear hr1 hc1
  have HB := Aside0.mk (Below.refl w.heap.size w)
  have H : (dowelref01_plus.l0 k l0 l1 ([] : List Int) 0 0) = some r := h
  clear h
  have H' := Aside0.mk H
  clear H
  go_enter Tryd.func65, Tryd.ntmps65
  go_wp2
  go_loopg [5, 6, 7] k (fun kq v5 v6 v7 w' => ∃ (x5_1 : List Int) (x6_1 : Int) (x7_1 : Int), v6 = .int .i64 x6_1 ∧ v7 = .int .i64 x7_1 ∧ Aside0 (dowelref01_plus.l0 kq l0 l1 x5_1 x6_1 x7_1 = some r) ∧ Aside0 (kq ≤ k) ∧ Aside0 (Kd.R (Kd.int .i64) 3 w' w.heap.size (fun _ => True) v5 x5_1) ∧ Aside0 (Below w.heap.size w w'))
  case atStart => exact ⟨(([] : List Int)), (0), (0), (by first | rfl | (simp; done) | (simp [*]; done) | (simp <;> omega)), (by first | rfl | (simp; done) | (simp [*]; done) | (simp <;> omega)), H', ⟨Nat.le_refl _⟩, ⟨by first | exact Kd.R_nil _ _ _ _ _ | exact Kd.N_nil _ _ _ _ _ | exact Kd.V_nil _ _ _ _ _ | exact Kd.Q_nil _ _ _ _ _ | exact Kd.S_nil _ _ _ _ _⟩, ⟨by repeat (first | (with_reducible first | exact HB.out | apply below_alloc | apply pw_below_drewN | apply below_drew1) | exact HB.out)⟩⟩
  case round =>
    clear H'
    try clear c1
    try clear p2
    obtain ⟨x5_1, x6_1, x7_1, rfl, rfl, HA, HK1, HO_5, HB⟩ := hrel
    cases gk with
    | zero => exact absurd HA.out (by simp [dowelref01_plus.l0])
    | succ k1 =>
      have H := HA.out
      clear HA
      simp only [dowelref01_plus.l0] at H
      have HC3 := Aside0.mk H
      clear H
      go_upto_region 4 with (fail)
      go_cut [22] (fun v22 wc => ∃ (kq : Nat) (x22_2 : Bool), v22 = .bool x22_2 ∧ Aside0 (dowelref01_plus.j1 kq l0 l1 x5_1 x6_1 x7_1 x22_2 = some r) ∧ Aside0 (kq ≤ k1) ∧ Aside0 (Kd.R (Kd.int .i64) 3 wc w.heap.size (fun _ => True) u5 x5_1) ∧ Aside0 (Below w.heap.size w wc))
      case first =>
        have H := HC3.out
        clear HC3
        by_cases c4 : x7_1 < (l0.length : Int)
        · rw [if_pos c4] at H
          have c4b0 : decide (x7_1 < (l0.length : Int)) = true := decide_eq_true c4
          clear c4
          (first | rw [c4b0] | (simp only [i64_w, i32_w]; rw [c4b0]) | skip)
          have H' := Aside0.mk H
          clear H
          go_wp2
          go_meet
          case rel => exact ⟨_, (true), (by first | rfl | (simp; done) | (simp [*]; done) | (simp <;> omega)), H', ⟨by have := HK1.out; first | omega | exact Nat.le_refl _⟩, ⟨by (with_reducible repeat (first | apply Kd.R_alloc | apply Kd.R_drewN | apply Kd.R_drew)); exact HO_5.out⟩, ⟨by repeat (first | (with_reducible first | exact HB.out | apply below_alloc | apply pw_below_drewN | apply below_drew1) | exact HB.out)⟩⟩
        · rw [if_neg c4] at H
          have c4b0 : decide (x7_1 < (l0.length : Int)) = false := decide_eq_false c4
          clear c4
          (first | rw [c4b0] | (simp only [i64_w, i32_w]; rw [c4b0]) | skip)
          by_cases c5 : x7_1 < (l1.length : Int)
          · rw [if_pos c5] at H
            have c5b0 : decide (x7_1 < (l1.length : Int)) = true := decide_eq_true c5
            clear c5
            have H' := Aside0.mk H
            clear H
            go_wp2
            go_meet
            case rel => exact ⟨_, (true), (by first | rfl | (simp; done) | (simp [*]; done) | (simp <;> omega)), H', ⟨by have := HK1.out; first | omega | exact Nat.le_refl _⟩, ⟨by (with_reducible repeat (first | apply Kd.R_alloc | apply Kd.R_drewN | apply Kd.R_drew)); exact HO_5.out⟩, ⟨by repeat (first | (with_reducible first | exact HB.out | apply below_alloc | apply pw_below_drewN | apply below_drew1) | exact HB.out)⟩⟩
          · rw [if_neg c5] at H
            have c5b0 : decide (x7_1 < (l1.length : Int)) = false := decide_eq_false c5
            clear c5
            have H' := Aside0.mk H
            clear H
            go_wp2
            go_meet
            case rel => exact ⟨_, (decide (x6_1 > 0)), (by first | rfl | (simp; done) | (simp [*]; done) | (simp <;> omega)), H', ⟨by have := HK1.out; first | omega | exact Nat.le_refl _⟩, ⟨by (with_reducible repeat (first | apply Kd.R_alloc | apply Kd.R_drewN | apply Kd.R_drew)); exact HO_5.out⟩, ⟨by repeat (first | (with_reducible first | exact HB.out | apply below_alloc | apply pw_below_drewN | apply below_drew1) | exact HB.out)⟩⟩
      case rest =>
        clear HC3
        try clear c1
        try clear p2
        try clear c4
        try clear c4b0
        try clear c5
        try clear c5b0
        try clear p2
        obtain ⟨kq, x22_2, rfl, HA, HJ2, HO_5, HB⟩ := hcut
        cases kq with
        | zero => exact absurd HA.out (by simp [dowelref01_plus.j1])
        | succ kj2 =>
          have H := HA.out
          clear HA
          simp only [dowelref01_plus.j1] at H
          by_cases c6 : x22_2 = true
          · subst c6
            have H1 : (if x7_1 < (l0.length : Int) then (if 0 ≤ x7_1 then (if x7_1 < (l1.length : Int) then (if x5_1.length < 17592186044416 then (dowelref01_plus.l0 kj2 l0 l1 (x5_1 ++ [Int.tmod (wrap64 ((wrap64 (x6_1 + (rd l0 x7_1))) + (rd l1 x7_1))) 10]) (wrap64 (Int.tdiv (wrap64 ((wrap64 (x6_1 + (rd l0 x7_1))) + (rd l1 x7_1))) 10)) (wrap64 (x7_1 + 1))) else (none)) else (if x5_1.length < 17592186044416 then (dowelref01_plus.l0 kj2 l0 l1 (x5_1 ++ [Int.tmod (wrap64 (x6_1 + (rd l0 x7_1))) 10]) (wrap64 (Int.tdiv (wrap64 (x6_1 + (rd l0 x7_1))) 10)) (wrap64 (x7_1 + 1))) else (none))) else (none)) else (if x7_1 < (l1.length : Int) then (if 0 ≤ x7_1 then (if x5_1.length < 17592186044416 then (dowelref01_plus.l0 kj2 l0 l1 (x5_1 ++ [Int.tmod (wrap64 (x6_1 + (rd l1 x7_1))) 10]) (wrap64 (Int.tdiv (wrap64 (x6_1 + (rd l1 x7_1))) 10)) (wrap64 (x7_1 + 1))) else (none)) else (none)) else (if x5_1.length < 17592186044416 then (dowelref01_plus.l0 kj2 l0 l1 (x5_1 ++ [Int.tmod x6_1 10]) (wrap64 (Int.tdiv x6_1 10)) (wrap64 (x7_1 + 1))) else (none)))) = some r := by rw [if_pos rfl] at H; exact H
            clear H
            have H := H1
            clear H1
            by_cases c7 : x7_1 < (l0.length : Int)
            · rw [if_pos c7] at H
              have c7b0 : decide (x7_1 < (l0.length : Int)) = true := decide_eq_true c7
              clear c7
              by_cases c8 : 0 ≤ x7_1
              · rw [if_pos c8] at H
                have c8b0 : decide (0 ≤ x7_1) = true := decide_eq_true c8
                clear c8
                by_cases c9 : x7_1 < (l1.length : Int)
                · rw [if_pos c9] at H
                  have c9b0 : decide (x7_1 < (l1.length : Int)) = true := decide_eq_true c9
                  clear c9
                  by_cases c10 : x5_1.length < 17592186044416
                  · rw [if_pos c10] at H
                    have LMc10 := Aside0.mk c10
                    clear c10
                    obtain ⟨y602, hy602⟩ : ∃ y_ : List Int, y_ = (x5_1 ++ [Int.tmod (wrap64 ((wrap64 (x6_1 + (rd l0 x7_1))) + (rd l1 x7_1))) 10]) := ⟨_, rfl⟩
                    replace H : (dowelref01_plus.l0 kj2 l0 l1 y602 (wrap64 (Int.tdiv (wrap64 ((wrap64 (x6_1 + (rd l0 x7_1))) + (rd l1 x7_1))) 10)) (wrap64 (x7_1 + 1))) = some r := by first | (rw [hy602]; with_reducible exact H) | (have H2_ := (Option.bind_some _ _).symm.trans H; rw [hy602]; with_reducible exact H2_) | (have H2_ := (Option.bind_some _ _).symm.trans H; with_reducible exact H2_) | with_reducible exact H | (rw [hy602]; exact H) | exact H
                    have Ny602 := Aside0.mk hy602
                    clear hy602
                    have H' := Aside0.mk H
                    clear H
                    have p600 : 0 ≤ (x7_1 : Int) := of_decide_eq_true (by first | (with_reducible assumption) | assumption)
                    have q600 : x7_1 < (l0.length : Int) := of_decide_eq_true (by first | (with_reducible assumption) | assumption)
                    obtain ⟨ad600, e600, hx600_0⟩ := Kd.at_int HR0.out x7_1 p600 q600
                    cases e600
                    replace hx600_0 := (HB.out.cell (World.block_lt_of_cell? w _ hx600_0)).trans hx600_0
                    replace p600 := eq_true p600
                    replace q600 := eq_true q600
                    have p601 : 0 ≤ (x7_1 : Int) := of_decide_eq_true (by first | (with_reducible assumption) | assumption)
                    have q601 : x7_1 < (l1.length : Int) := of_decide_eq_true (by first | (with_reducible assumption) | assumption)
                    obtain ⟨ad601, e601, hx601_0⟩ := Kd.at_int HR1.out x7_1 p601 q601
                    cases e601
                    replace hx601_0 := (HB.out.cell (World.block_lt_of_cell? w _ hx601_0)).trans hx601_0
                    replace p601 := eq_true p601
                    replace q601 := eq_true q601
                    go_wp2_with (first | ((with_reducible refine gate_builtin (b := .append) (xs := #[.tmp 46, .tmp 49]) rfl ?_); (try (refine gate_guard (by rfl) ?_; dsimp only)); at_builtin; refine Kd.R_append (Kd.int .i64) (w0 := w) w.heap.size rfl (.tmp 46) (.tmp 49) 67 3 (.int .i64 0) 8 rfl Tryd.underlying67 info3 rfl (by decide) (by omega) u5 x5_1 (Int.tmod (wrap64 ((wrap64 (x6_1 + (rd l0 x7_1))) + (rd l1 x7_1))) 10) [.int .i64 (Int.tmod (wrap64 ((wrap64 (x6_1 + (rd l0 x7_1))) + (rd l1 x7_1))) 10)] (fun _ => True) (fun _ => False) rfl rfl ?aP (fun _ hk => hk.elim) ?aF ?aO ?aB ?aS ?aL ?_; (case aP => exact rfl); (case aB => exact (by repeat (first | (with_reducible first | exact HB.out | apply below_alloc | apply pw_below_drewN | apply below_drew1) | exact HB.out))); (case aF => exact (fun _ _ => trivial)); (case aO => exact (by (with_reducible repeat (first | apply Kd.R_alloc | apply Kd.R_drewN | apply Kd.R_drew)); exact HO_5.out)); (case aS => exact (below_size (by repeat (first | (with_reducible first | exact HB.out | apply below_alloc | apply pw_below_drewN | apply below_drew1) | exact HB.out)))); (case aL => have := LMc10.out; omega); intro v603 w11 ho hb hg hat; rw [← Ny602.out] at ho; have n0_ := Aside0.mk (hb); have n1_ := Aside0.mk (ho); clear HB; clear HO_5; have HB := n0_; have HO604 := n1_; clear n0_ n1_; clear ho hb hg hat))
                    go_roundg kj2
                    case measure => have := HK1.out; have := HJ2.out; omega
                    case rel => exact ⟨(y602), (wrap64 (Int.tdiv (wrap64 ((wrap64 (x6_1 + (rd l0 x7_1))) + (rd l1 x7_1))) 10)), (wrap64 (x7_1 + 1)), (by first | rfl | (simp; done) | (simp [*]; done) | (simp <;> omega)), (by first | rfl | (simp; done) | (simp [*]; done) | (simp <;> omega)), H', ⟨by have := HK1.out; have := HJ2.out; omega⟩, ⟨by (with_reducible repeat (first | apply Kd.R_alloc | apply Kd.R_drewN | apply Kd.R_drew)); exact HO604.out⟩, ⟨by repeat (first | (with_reducible first | exact HB.out | apply below_alloc | apply pw_below_drewN | apply below_drew1) | exact HB.out)⟩⟩
                  · rw [if_neg c10] at H
                    exact absurd H (by simp)
                · rw [if_neg c9] at H
                  have c9b0 : decide (x7_1 < (l1.length : Int)) = false := decide_eq_false c9
                  clear c9
                  by_cases c12 : x5_1.length < 17592186044416
                  · rw [if_pos c12] at H
                    have LMc12 := Aside0.mk c12
                    clear c12
                    obtain ⟨y605, hy605⟩ : ∃ y_ : List Int, y_ = (x5_1 ++ [Int.tmod (wrap64 (x6_1 + (rd l0 x7_1))) 10]) := ⟨_, rfl⟩
                    replace H : (dowelref01_plus.l0 kj2 l0 l1 y605 (wrap64 (Int.tdiv (wrap64 (x6_1 + (rd l0 x7_1))) 10)) (wrap64 (x7_1 + 1))) = some r := by first | (rw [hy605]; with_reducible exact H) | (have H2_ := (Option.bind_some _ _).symm.trans H; rw [hy605]; with_reducible exact H2_) | (have H2_ := (Option.bind_some _ _).symm.trans H; with_reducible exact H2_) | with_reducible exact H | (rw [hy605]; exact H) | exact H
                    have Ny605 := Aside0.mk hy605
                    clear hy605
                    have H' := Aside0.mk H
                    clear H
                    have p600 : 0 ≤ (x7_1 : Int) := of_decide_eq_true (by first | (with_reducible assumption) | assumption)
                    have q600 : x7_1 < (l0.length : Int) := of_decide_eq_true (by first | (with_reducible assumption) | assumption)
                    obtain ⟨ad600, e600, hx600_0⟩ := Kd.at_int HR0.out x7_1 p600 q600
                    cases e600
                    replace hx600_0 := (HB.out.cell (World.block_lt_of_cell? w _ hx600_0)).trans hx600_0
                    replace p600 := eq_true p600
                    replace q600 := eq_true q600
                    go_wp2_with (first | ((with_reducible refine gate_builtin (b := .append) (xs := #[.tmp 46, .tmp 49]) rfl ?_); (try (refine gate_guard (by rfl) ?_; dsimp only)); at_builtin; refine Kd.R_append (Kd.int .i64) (w0 := w) w.heap.size rfl (.tmp 46) (.tmp 49) 67 3 (.int .i64 0) 8 rfl Tryd.underlying67 info3 rfl (by decide) (by omega) u5 x5_1 (Int.tmod (wrap64 (x6_1 + (rd l0 x7_1))) 10) [.int .i64 (Int.tmod (wrap64 (x6_1 + (rd l0 x7_1))) 10)] (fun _ => True) (fun _ => False) rfl rfl ?aP (fun _ hk => hk.elim) ?aF ?aO ?aB ?aS ?aL ?_; (case aP => exact rfl); (case aB => exact (by repeat (first | (with_reducible first | exact HB.out | apply below_alloc | apply pw_below_drewN | apply below_drew1) | exact HB.out))); (case aF => exact (fun _ _ => trivial)); (case aO => exact (by (with_reducible repeat (first | apply Kd.R_alloc | apply Kd.R_drewN | apply Kd.R_drew)); exact HO_5.out)); (case aS => exact (below_size (by repeat (first | (with_reducible first | exact HB.out | apply below_alloc | apply pw_below_drewN | apply below_drew1) | exact HB.out)))); (case aL => have := LMc12.out; omega); intro v606 w13 ho hb hg hat; rw [← Ny605.out] at ho; have n0_ := Aside0.mk (hb); have n1_ := Aside0.mk (ho); clear HB; clear HO_5; have HB := n0_; have HO607 := n1_; clear n0_ n1_; clear ho hb hg hat))
                    go_roundg kj2
                    case measure => have := HK1.out; have := HJ2.out; omega
                    case rel => exact ⟨(y605), (wrap64 (Int.tdiv (wrap64 (x6_1 + (rd l0 x7_1))) 10)), (wrap64 (x7_1 + 1)), (by first | rfl | (simp; done) | (simp [*]; done) | (simp <;> omega)), (by first | rfl | (simp; done) | (simp [*]; done) | (simp <;> omega)), H', ⟨by have := HK1.out; have := HJ2.out; omega⟩, ⟨by (with_reducible repeat (first | apply Kd.R_alloc | apply Kd.R_drewN | apply Kd.R_drew)); exact HO607.out⟩, ⟨by repeat (first | (with_reducible first | exact HB.out | apply below_alloc | apply pw_below_drewN | apply below_drew1) | exact HB.out)⟩⟩
                  · rw [if_neg c12] at H
                    exact absurd H (by simp)
              · rw [if_neg c8] at H
                exact absurd H (by simp)
            · rw [if_neg c7] at H
              have c7b0 : decide (x7_1 < (l0.length : Int)) = false := decide_eq_false c7
              clear c7
              by_cases c14 : x7_1 < (l1.length : Int)
              · rw [if_pos c14] at H
                have c14b0 : decide (x7_1 < (l1.length : Int)) = true := decide_eq_true c14
                clear c14
                by_cases c15 : 0 ≤ x7_1
                · rw [if_pos c15] at H
                  have c15b0 : decide (0 ≤ x7_1) = true := decide_eq_true c15
                  clear c15
                  by_cases c16 : x5_1.length < 17592186044416
                  · rw [if_pos c16] at H
                    have LMc16 := Aside0.mk c16
                    clear c16
                    obtain ⟨y609, hy609⟩ : ∃ y_ : List Int, y_ = (x5_1 ++ [Int.tmod (wrap64 (x6_1 + (rd l1 x7_1))) 10]) := ⟨_, rfl⟩
                    replace H : (dowelref01_plus.l0 kj2 l0 l1 y609 (wrap64 (Int.tdiv (wrap64 (x6_1 + (rd l1 x7_1))) 10)) (wrap64 (x7_1 + 1))) = some r := by first | (rw [hy609]; with_reducible exact H) | (have H2_ := (Option.bind_some _ _).symm.trans H; rw [hy609]; with_reducible exact H2_) | (have H2_ := (Option.bind_some _ _).symm.trans H; with_reducible exact H2_) | with_reducible exact H | (rw [hy609]; exact H) | exact H
                    have Ny609 := Aside0.mk hy609
                    clear hy609
                    have H' := Aside0.mk H
                    clear H
                    have p608 : 0 ≤ (x7_1 : Int) := of_decide_eq_true (by first | (with_reducible assumption) | assumption)
                    have q608 : x7_1 < (l1.length : Int) := of_decide_eq_true (by first | (with_reducible assumption) | assumption)
                    obtain ⟨ad608, e608, hx608_0⟩ := Kd.at_int HR1.out x7_1 p608 q608
                    cases e608
                    replace hx608_0 := (HB.out.cell (World.block_lt_of_cell? w _ hx608_0)).trans hx608_0
                    replace p608 := eq_true p608
                    replace q608 := eq_true q608
                    go_wp2_with (first | ((with_reducible refine gate_builtin (b := .append) (xs := #[.tmp 46, .tmp 49]) rfl ?_); (try (refine gate_guard (by rfl) ?_; dsimp only)); at_builtin; refine Kd.R_append (Kd.int .i64) (w0 := w) w.heap.size rfl (.tmp 46) (.tmp 49) 67 3 (.int .i64 0) 8 rfl Tryd.underlying67 info3 rfl (by decide) (by omega) u5 x5_1 (Int.tmod (wrap64 (x6_1 + (rd l1 x7_1))) 10) [.int .i64 (Int.tmod (wrap64 (x6_1 + (rd l1 x7_1))) 10)] (fun _ => True) (fun _ => False) rfl rfl ?aP (fun _ hk => hk.elim) ?aF ?aO ?aB ?aS ?aL ?_; (case aP => exact rfl); (case aB => exact (by repeat (first | (with_reducible first | exact HB.out | apply below_alloc | apply pw_below_drewN | apply below_drew1) | exact HB.out))); (case aF => exact (fun _ _ => trivial)); (case aO => exact (by (with_reducible repeat (first | apply Kd.R_alloc | apply Kd.R_drewN | apply Kd.R_drew)); exact HO_5.out)); (case aS => exact (below_size (by repeat (first | (with_reducible first | exact HB.out | apply below_alloc | apply pw_below_drewN | apply below_drew1) | exact HB.out)))); (case aL => have := LMc16.out; omega); intro v610 w17 ho hb hg hat; rw [← Ny609.out] at ho; have n0_ := Aside0.mk (hb); have n1_ := Aside0.mk (ho); clear HB; clear HO_5; have HB := n0_; have HO611 := n1_; clear n0_ n1_; clear ho hb hg hat))
                    go_roundg kj2
                    case measure => have := HK1.out; have := HJ2.out; omega
                    case rel => exact ⟨(y609), (wrap64 (Int.tdiv (wrap64 (x6_1 + (rd l1 x7_1))) 10)), (wrap64 (x7_1 + 1)), (by first | rfl | (simp; done) | (simp [*]; done) | (simp <;> omega)), (by first | rfl | (simp; done) | (simp [*]; done) | (simp <;> omega)), H', ⟨by have := HK1.out; have := HJ2.out; omega⟩, ⟨by (with_reducible repeat (first | apply Kd.R_alloc | apply Kd.R_drewN | apply Kd.R_drew)); exact HO611.out⟩, ⟨by repeat (first | (with_reducible first | exact HB.out | apply below_alloc | apply pw_below_drewN | apply below_drew1) | exact HB.out)⟩⟩
                  · rw [if_neg c16] at H
                    exact absurd H (by simp)
                · rw [if_neg c15] at H
                  exact absurd H (by simp)
              · rw [if_neg c14] at H
                have c14b0 : decide (x7_1 < (l1.length : Int)) = false := decide_eq_false c14
                clear c14
                by_cases c18 : x5_1.length < 17592186044416
                · rw [if_pos c18] at H
                  have LMc18 := Aside0.mk c18
                  clear c18
                  obtain ⟨y612, hy612⟩ : ∃ y_ : List Int, y_ = (x5_1 ++ [Int.tmod x6_1 10]) := ⟨_, rfl⟩
                  replace H : (dowelref01_plus.l0 kj2 l0 l1 y612 (wrap64 (Int.tdiv x6_1 10)) (wrap64 (x7_1 + 1))) = some r := by first | (rw [hy612]; with_reducible exact H) | (have H2_ := (Option.bind_some _ _).symm.trans H; rw [hy612]; with_reducible exact H2_) | (have H2_ := (Option.bind_some _ _).symm.trans H; with_reducible exact H2_) | with_reducible exact H | (rw [hy612]; exact H) | exact H
                  have Ny612 := Aside0.mk hy612
                  clear hy612
                  have H' := Aside0.mk H
                  clear H
                  go_wp2_with (first | ((with_reducible refine gate_builtin (b := .append) (xs := #[.tmp 46, .tmp 49]) rfl ?_); (try (refine gate_guard (by rfl) ?_; dsimp only)); at_builtin; refine Kd.R_append (Kd.int .i64) (w0 := w) w.heap.size rfl (.tmp 46) (.tmp 49) 67 3 (.int .i64 0) 8 rfl Tryd.underlying67 info3 rfl (by decide) (by omega) u5 x5_1 (Int.tmod x6_1 10) [.int .i64 (Int.tmod x6_1 10)] (fun _ => True) (fun _ => False) rfl rfl ?aP (fun _ hk => hk.elim) ?aF ?aO ?aB ?aS ?aL ?_; (case aP => exact rfl); (case aB => exact (by repeat (first | (with_reducible first | exact HB.out | apply below_alloc | apply pw_below_drewN | apply below_drew1) | exact HB.out))); (case aF => exact (fun _ _ => trivial)); (case aO => exact (by (with_reducible repeat (first | apply Kd.R_alloc | apply Kd.R_drewN | apply Kd.R_drew)); exact HO_5.out)); (case aS => exact (below_size (by repeat (first | (with_reducible first | exact HB.out | apply below_alloc | apply pw_below_drewN | apply below_drew1) | exact HB.out)))); (case aL => have := LMc18.out; omega); intro v613 w19 ho hb hg hat; rw [← Ny612.out] at ho; have n0_ := Aside0.mk (hb); have n1_ := Aside0.mk (ho); clear HB; clear HO_5; have HB := n0_; have HO614 := n1_; clear n0_ n1_; clear ho hb hg hat))
                  go_roundg kj2
                  case measure => have := HK1.out; have := HJ2.out; omega
                  case rel => exact ⟨(y612), (wrap64 (Int.tdiv x6_1 10)), (wrap64 (x7_1 + 1)), (by first | rfl | (simp; done) | (simp [*]; done) | (simp <;> omega)), (by first | rfl | (simp; done) | (simp [*]; done) | (simp <;> omega)), H', ⟨by have := HK1.out; have := HJ2.out; omega⟩, ⟨by (with_reducible repeat (first | apply Kd.R_alloc | apply Kd.R_drewN | apply Kd.R_drew)); exact HO614.out⟩, ⟨by repeat (first | (with_reducible first | exact HB.out | apply below_alloc | apply pw_below_drewN | apply below_drew1) | exact HB.out)⟩⟩
                · rw [if_neg c18] at H
                  exact absurd H (by simp)
          · replace c6 := Bool.eq_false_iff.mpr c6
            subst c6
            have H1 : (some x5_1) = some r := by rw [if_neg (show ¬ (false = true) by decide)] at H; exact H
            clear H
            have H := H1
            clear H1
            obtain rfl := Option.some.inj H
            go_wp2
            go_ret
            exact ⟨_, by first | rfl | (simp [errW_none, errW_some] <;> rfl) | (simp [*, errW_none, errW_some] <;> rfl), by (with_reducible repeat (first | apply Kd.R_alloc | apply Kd.R_drewN | apply Kd.R_drew)); exact HO_5.out, by repeat (first | (with_reducible first | exact HB.out | apply below_alloc | apply pw_below_drewN | apply below_drew1) | exact HB.out)⟩
end Go.Proofs.YtiikfhdmclmjmaaDoor.P
namespace Go.Proofs.YtiikfhdmclmjmaaDoor.P
open Go.RowKit Go.Proofs.YtiikfhdmclmjmaaDoorW.PrintWords Go.Proofs.YtiikfhdmclmjmaaDoorW.PrintLast
set_option linter.unusedVariables false
set_option linter.unusedSimpArgs false
def dowelref01_Add.f (k : Nat) (a0 : ByteArray) (a1 : ByteArray) : Option (ByteArray) := (dowelref01_digits.f k a0).bind fun t615 => ((dowelref01_digits.f k a1).bind fun t618 => ((dowelref01_Sign.f a0).bind fun t621 => ((dowelref01_Sign.f a1).bind fun t622 => (if ((decide (t621 < 0)) == (decide (t622 < 0))) = true then ((dowelref01_Sign.f a0).bind fun t623 => ((dowelref01_plus.f k t615 t618).bind fun t624 => ((dowelref01_text.f k (decide (t623 < 0)) t624).bind fun t627 => (some t627)))) else ((dowelref01_order.f k t615 t618).bind fun t628 => (if t628 ≥ 0 then ((dowelref01_Sign.f a0).bind fun t629 => ((dowelref01_minus.f k t615 t618).bind fun t630 => ((dowelref01_text.f k (decide (t629 < 0)) t630).bind fun t633 => (some t633)))) else ((dowelref01_Sign.f a1).bind fun t634 => ((dowelref01_minus.f k t618 t615).bind fun t635 => ((dowelref01_text.f k (decide (t634 < 0)) t635).bind fun t638 => (some t638))))))))))
theorem dowelref01_Add.mono : ∀ a0 a1 k, LeO (dowelref01_Add.f k a0 a1) (dowelref01_Add.f (k + 1) a0 a1) := by
  intro a0 a1 k
  unfold dowelref01_Add.f
  repeat' first
      | (with_reducible exact dowelref01_digits.mono _ _)
      | (with_reducible exact dowelref01_minus.mono _ _ _)
      | (with_reducible exact dowelref01_order.mono _ _ _)
      | (with_reducible exact dowelref01_plus.mono _ _ _)
      | (with_reducible exact dowelref01_text.mono _ _ _)
      | (with_reducible exact LeO.refl _)
      | (with_reducible exact LeO.none _)
      | (with_reducible refine LeO.ite ?_ ?_)
      | (with_reducible refine LeO.bind ?_ (fun _ => ?_))
      | exact dowelref01_digits.mono _ _
      | exact dowelref01_minus.mono _ _ _
      | exact dowelref01_order.mono _ _ _
      | exact dowelref01_plus.mono _ _ _
      | exact dowelref01_text.mono _ _ _
      | exact LeO.none _
      | refine LeO.ite ?_ ?_
      | refine LeO.bind ?_ (fun _ => ?_)
set_option maxHeartbeats 8000000 in
set_option maxRecDepth 100000 in
theorem dowelref01_Add.calls (k : Nat) (a0 : ByteArray) (a1 : ByteArray) (r : ByteArray) (w : World) (h : dowelref01_Add.f k a0 a1 = some r) :
    Calls Tryd.prog 36 #[.string a0, .string a1] w fun e w' => e = .returned (.string r) ∧ Below w.heap.size w w' := by
  have HB := Aside0.mk (Below.refl w.heap.size w)
  have H : ((dowelref01_digits.f k a0).bind fun t615 => ((dowelref01_digits.f k a1).bind fun t618 => ((dowelref01_Sign.f a0).bind fun t621 => ((dowelref01_Sign.f a1).bind fun t622 => (if ((decide (t621 < 0)) == (decide (t622 < 0))) = true then ((dowelref01_Sign.f a0).bind fun t623 => ((dowelref01_plus.f k t615 t618).bind fun t624 => ((dowelref01_text.f k (decide (t623 < 0)) t624).bind fun t627 => (some t627)))) else ((dowelref01_order.f k t615 t618).bind fun t628 => (if t628 ≥ 0 then ((dowelref01_Sign.f a0).bind fun t629 => ((dowelref01_minus.f k t615 t618).bind fun t630 => ((dowelref01_text.f k (decide (t629 < 0)) t630).bind fun t633 => (some t633)))) else ((dowelref01_Sign.f a1).bind fun t634 => ((dowelref01_minus.f k t618 t615).bind fun t635 => ((dowelref01_text.f k (decide (t634 < 0)) t635).bind fun t638 => (some t638))))))))))) = some r := h
  clear h
  replace H := Option.bind_eq_some_iff.mp H
  obtain ⟨t615, A30, H⟩ := H
  replace H : ((dowelref01_digits.f k a1).bind fun t618 => ((dowelref01_Sign.f a0).bind fun t621 => ((dowelref01_Sign.f a1).bind fun t622 => (if ((decide (t621 < 0)) == (decide (t622 < 0))) = true then ((dowelref01_Sign.f a0).bind fun t623 => ((dowelref01_plus.f k t615 t618).bind fun t624 => ((dowelref01_text.f k (decide (t623 < 0)) t624).bind fun t627 => (some t627)))) else ((dowelref01_order.f k t615 t618).bind fun t628 => (if t628 ≥ 0 then ((dowelref01_Sign.f a0).bind fun t629 => ((dowelref01_minus.f k t615 t618).bind fun t630 => ((dowelref01_text.f k (decide (t629 < 0)) t630).bind fun t633 => (some t633)))) else ((dowelref01_Sign.f a1).bind fun t634 => ((dowelref01_minus.f k t618 t615).bind fun t635 => ((dowelref01_text.f k (decide (t634 < 0)) t635).bind fun t638 => (some t638)))))))))) = some r := H
  have A3 := Aside0.mk A30
  clear A30
  replace H := Option.bind_eq_some_iff.mp H
  obtain ⟨t618, A40, H⟩ := H
  replace H : ((dowelref01_Sign.f a0).bind fun t621 => ((dowelref01_Sign.f a1).bind fun t622 => (if ((decide (t621 < 0)) == (decide (t622 < 0))) = true then ((dowelref01_Sign.f a0).bind fun t623 => ((dowelref01_plus.f k t615 t618).bind fun t624 => ((dowelref01_text.f k (decide (t623 < 0)) t624).bind fun t627 => (some t627)))) else ((dowelref01_order.f k t615 t618).bind fun t628 => (if t628 ≥ 0 then ((dowelref01_Sign.f a0).bind fun t629 => ((dowelref01_minus.f k t615 t618).bind fun t630 => ((dowelref01_text.f k (decide (t629 < 0)) t630).bind fun t633 => (some t633)))) else ((dowelref01_Sign.f a1).bind fun t634 => ((dowelref01_minus.f k t618 t615).bind fun t635 => ((dowelref01_text.f k (decide (t634 < 0)) t635).bind fun t638 => (some t638))))))))) = some r := H
  have A4 := Aside0.mk A40
  clear A40
  replace H := Option.bind_eq_some_iff.mp H
  obtain ⟨t621, A50, H⟩ := H
  replace H : ((dowelref01_Sign.f a1).bind fun t622 => (if ((decide (t621 < 0)) == (decide (t622 < 0))) = true then ((dowelref01_Sign.f a0).bind fun t623 => ((dowelref01_plus.f k t615 t618).bind fun t624 => ((dowelref01_text.f k (decide (t623 < 0)) t624).bind fun t627 => (some t627)))) else ((dowelref01_order.f k t615 t618).bind fun t628 => (if t628 ≥ 0 then ((dowelref01_Sign.f a0).bind fun t629 => ((dowelref01_minus.f k t615 t618).bind fun t630 => ((dowelref01_text.f k (decide (t629 < 0)) t630).bind fun t633 => (some t633)))) else ((dowelref01_Sign.f a1).bind fun t634 => ((dowelref01_minus.f k t618 t615).bind fun t635 => ((dowelref01_text.f k (decide (t634 < 0)) t635).bind fun t638 => (some t638)))))))) = some r := H
  have A5 := Aside0.mk A50
  clear A50
  replace H := Option.bind_eq_some_iff.mp H
  obtain ⟨t622, A60, H⟩ := H
  replace H : (if ((decide (t621 < 0)) == (decide (t622 < 0))) = true then ((dowelref01_Sign.f a0).bind fun t623 => ((dowelref01_plus.f k t615 t618).bind fun t624 => ((dowelref01_text.f k (decide (t623 < 0)) t624).bind fun t627 => (some t627)))) else ((dowelref01_order.f k t615 t618).bind fun t628 => (if t628 ≥ 0 then ((dowelref01_Sign.f a0).bind fun t629 => ((dowelref01_minus.f k t615 t618).bind fun t630 => ((dowelref01_text.f k (decide (t629 < 0)) t630).bind fun t633 => (some t633)))) else ((dowelref01_Sign.f a1).bind fun t634 => ((dowelref01_minus.f k t618 t615).bind fun t635 => ((dowelref01_text.f k (decide (t634 < 0)) t635).bind fun t638 => (some t638))))))) = some r := H
  have A6 := Aside0.mk A60
  clear A60
  by_cases c7 : ((decide (t621 < 0)) == (decide (t622 < 0))) = true
  · rw [if_pos c7] at H
    have c7b0 : ((decide (t621 < 0)) == (decide (t622 < 0))) = true := c7
    (try (have c7b1 : decide ((decide (t621 < 0)) = (decide (t622 < 0))) = true := by simpa using c7))
    (try (have c7b2 : ((decide (t621 < 0)) == (decide (t622 < 0))) = true := by simpa using c7))
    clear c7
    replace H := Option.bind_eq_some_iff.mp H
    obtain ⟨t623, A80, H⟩ := H
    replace H : ((dowelref01_plus.f k t615 t618).bind fun t624 => ((dowelref01_text.f k (decide (t623 < 0)) t624).bind fun t627 => (some t627))) = some r := H
    have A8 := Aside0.mk A80
    clear A80
    replace H := Option.bind_eq_some_iff.mp H
    obtain ⟨t624, A90, H⟩ := H
    replace H : ((dowelref01_text.f k (decide (t623 < 0)) t624).bind fun t627 => (some t627)) = some r := H
    have A9 := Aside0.mk A90
    clear A90
    replace H := Option.bind_eq_some_iff.mp H
    obtain ⟨t627, A100, H⟩ := H
    replace H : (some t627) = some r := H
    have A10 := Aside0.mk A100
    clear A100
    obtain rfl := Option.some.inj H
    go_enter Tryd.func36, Tryd.ntmps36
    go_wp2_with (first | ((with_reducible refine gate_callee (f := 58) rfl ?_); refine goesL_ (some 8) rfl rfl Tryd.func58 (by kernel_rfl) rfl #[.string a0] rfl (by (try simp only [List.map_toArray, List.map_cons, List.map_nil]); first | done | rfl | (simp only [List.length_drop, List.length_take]; rfl)) ?_; (with_reducible refine (dowelref01_digits.calls k a0 t615 _ A3.out).mono ?_); rintro e w11 ⟨v616, rfl, ho0, hb⟩; refine ⟨_, rfl, ?_⟩; have n0_ := Aside0.mk (Kd.R_lower ho0 (below_size (by repeat (first | (with_reducible first | exact HB.out | apply below_alloc | apply pw_below_drewN | apply below_drew1) | exact HB.out)))); have n1_ := Aside0.mk (below_step (by repeat (first | (with_reducible first | exact HB.out | apply below_alloc | apply pw_below_drewN | apply below_drew1) | exact HB.out)) hb); clear HB; have HO617 := n0_; have HB := n1_; clear n0_ n1_; (try clear hb); (try clear hb2); (try clear hk); (try clear hi); (try clear ho0)) | ((with_reducible refine gate_callee (f := 58) rfl ?_); refine goesL_ (some 10) rfl rfl Tryd.func58 (by kernel_rfl) rfl #[.string a1] rfl (by (try simp only [List.map_toArray, List.map_cons, List.map_nil]); first | done | rfl | (simp only [List.length_drop, List.length_take]; rfl)) ?_; (with_reducible refine (dowelref01_digits.calls k a1 t618 _ A4.out).mono ?_); rintro e w12 ⟨v619, rfl, ho0, hb⟩; refine ⟨_, rfl, ?_⟩; have n0_ := Aside0.mk (Kd.R_elder' (by (with_reducible repeat (first | apply Kd.R_alloc | apply Kd.R_drewN | apply Kd.R_drew)); exact HO617.out) (Kd.R_base ho0) hb); have n1_ := Aside0.mk (Kd.R_lower (Kd.R_new' ho0 (Kd.R_lt (by (with_reducible repeat (first | apply Kd.R_alloc | apply Kd.R_drewN | apply Kd.R_drew)); exact HO617.out))) (below_size (by repeat (first | (with_reducible first | exact HB.out | apply below_alloc | apply pw_below_drewN | apply below_drew1) | exact HB.out)))); have n2_ := Aside0.mk (below_step (by repeat (first | (with_reducible first | exact HB.out | apply below_alloc | apply pw_below_drewN | apply below_drew1) | exact HB.out)) hb); clear HO617; clear HB; have HO617 := n0_; have HO620 := n1_; have HB := n2_; clear n0_ n1_ n2_; (try clear hb); (try clear hb2); (try clear hk); (try clear hi); (try clear ho0)) | ((with_reducible refine gate_callee (f := 33) rfl ?_); refine goesL_ (some 12) rfl rfl Tryd.func33 (by kernel_rfl) rfl #[.string a0] rfl (by (try simp only [List.map_toArray, List.map_cons, List.map_nil]); first | done | rfl | (simp only [List.length_drop, List.length_take]; rfl)) ?_; (with_reducible refine (dowelref01_Sign.calls a0 t621 _ A5.out).mono ?_); rintro e w' ⟨rfl, ⟨nd, rfl⟩⟩; refine ⟨_, rfl, ?_⟩) | ((with_reducible refine gate_callee (f := 33) rfl ?_); refine goesL_ (some 15) rfl rfl Tryd.func33 (by kernel_rfl) rfl #[.string a1] rfl (by (try simp only [List.map_toArray, List.map_cons, List.map_nil]); first | done | rfl | (simp only [List.length_drop, List.length_take]; rfl)) ?_; (with_reducible refine (dowelref01_Sign.calls a1 t622 _ A6.out).mono ?_); rintro e w' ⟨rfl, ⟨nd, rfl⟩⟩; refine ⟨_, rfl, ?_⟩) | ((with_reducible refine gate_callee (f := 33) rfl ?_); refine goesL_ (some 19) rfl rfl Tryd.func33 (by kernel_rfl) rfl #[.string a0] rfl (by (try simp only [List.map_toArray, List.map_cons, List.map_nil]); first | done | rfl | (simp only [List.length_drop, List.length_take]; rfl)) ?_; (with_reducible refine (dowelref01_Sign.calls a0 t623 _ A8.out).mono ?_); rintro e w' ⟨rfl, ⟨nd, rfl⟩⟩; refine ⟨_, rfl, ?_⟩; obtain ⟨Ao13, co13, eo13⟩ := Kd.R_slice HO617.out; subst eo13; obtain ⟨Ao14, co14, eo14⟩ := Kd.R_slice HO620.out; subst eo14) | ((with_reducible refine gate_callee (f := 65) rfl ?_); refine goesL_ (some 23) rfl rfl Tryd.func65 (by kernel_rfl) rfl #[.slice Ao13 t615.length co13, .slice Ao14 t618.length co14] rfl (by (try simp only [List.map_toArray, List.map_cons, List.map_nil]); first | done | rfl | (simp only [List.length_drop, List.length_take]; rfl)) ?_; (with_reducible refine (dowelref01_plus.calls k _ _ t615 _ _ t618 t624 _ ?side1 ?side2 ?side3 ?side4 A9.out).mono ?_); (case side1 => repeat (first | exact (Kd.R_reads' HO617.out).2.2 | (with_reducible refine Kd.C_alloc ?_ _) | (with_reducible refine Kd.C_drewN ?_ _) | (with_reducible refine Kd.C_drew ?_))); (case side2 => exact (Kd.R_reads' HO617.out).2.1); (case side3 => repeat (first | exact (Kd.R_reads' HO620.out).2.2 | (with_reducible refine Kd.C_alloc ?_ _) | (with_reducible refine Kd.C_drewN ?_ _) | (with_reducible refine Kd.C_drew ?_))); (case side4 => exact (Kd.R_reads' HO620.out).2.1); rintro e w15 ⟨v625, rfl, ho0, hb⟩; refine ⟨_, rfl, ?_⟩; have n0_ := Aside0.mk (Kd.R_elder' (by (with_reducible repeat (first | apply Kd.R_alloc | apply Kd.R_drewN | apply Kd.R_drew)); exact HO617.out) (Kd.R_base ho0) hb); have n1_ := Aside0.mk (Kd.R_elder' (by (with_reducible repeat (first | apply Kd.R_alloc | apply Kd.R_drewN | apply Kd.R_drew)); exact HO620.out) (Kd.R_base ho0) hb); have n2_ := Aside0.mk (Kd.R_lower (Kd.R_new' (Kd.R_new' ho0 (Kd.R_lt (by (with_reducible repeat (first | apply Kd.R_alloc | apply Kd.R_drewN | apply Kd.R_drew)); exact HO617.out))) (Kd.R_lt (by (with_reducible repeat (first | apply Kd.R_alloc | apply Kd.R_drewN | apply Kd.R_drew)); exact HO620.out))) (below_size (by repeat (first | (with_reducible first | exact HB.out | apply below_alloc | apply pw_below_drewN | apply below_drew1) | exact HB.out)))); have n3_ := Aside0.mk (below_step (by repeat (first | (with_reducible first | exact HB.out | apply below_alloc | apply pw_below_drewN | apply below_drew1) | exact HB.out)) hb); clear HO617; clear HO620; clear HB; have HO617 := n0_; have HO620 := n1_; have HO626 := n2_; have HB := n3_; clear n0_ n1_ n2_ n3_; (try clear hb); (try clear hb2); (try clear hk); (try clear hi); (try clear ho0); obtain ⟨Ao16, co16, eo16⟩ := Kd.R_slice HO626.out; subst eo16) | ((with_reducible refine gate_callee (f := 51) rfl ?_); refine goesL_ (some 24) rfl rfl Tryd.func51 (by kernel_rfl) rfl #[.bool (decide (t623 < 0)), .slice Ao16 t624.length co16] rfl (by (try simp only [List.map_toArray, List.map_cons, List.map_nil]); first | done | rfl | (simp only [List.length_drop, List.length_take]; rfl)) ?_; (with_reducible refine (dowelref01_text.calls k (decide (t623 < 0)) (fun k_ => some k_ = (.slice Ao16 t624.length co16 : Value).ownBlock) (.slice Ao16 t624.length co16) t624 t627 w _ ?side1 ?side2 A10.out).mono ?_); (case side1 => repeat (first | (with_reducible first | exact HB.out | apply below_alloc | apply pw_below_drewN | apply below_drew1) | exact HB.out)); (case side2 => exact Kd.R_tight rfl HO626.out); rintro e w17 ⟨rfl, hb, hkp⟩; refine ⟨_, rfl, ?_⟩; have n0_ := Aside0.mk (Kd.R_mono (ok' := fun k_ => some k_ ≠ (.slice Ao14 t618.length co14 : Value).ownBlock) (Kd.R_keptB (HO617.out) hkp (fun k_ hk_ hs_ => (hk_.2) hs_)) (fun k_ hk_ => hk_.1.1.2)); have n1_ := Aside0.mk (Kd.R_mono (ok' := fun k_ => some k_ ≠ (.slice Ao13 t615.length co13 : Value).ownBlock) (Kd.R_keptB (HO620.out) hkp (fun k_ hk_ hs_ => (hk_.2) hs_)) (fun k_ hk_ => hk_.1.1.2)); have n2_ := Aside0.mk (hb); clear HO617; clear HO620; clear HB; clear HO626; have HO617 := n0_; have HO620 := n1_; have HB := n2_; clear n0_ n1_ n2_; (try clear hb); (try clear hkp)))
    go_ret
    exact ⟨by first | rfl | (simp [errW_none, errW_some] <;> rfl) | (simp [*, errW_none, errW_some] <;> rfl), by repeat (first | (with_reducible first | exact HB.out | apply below_alloc | apply pw_below_drewN | apply below_drew1) | exact HB.out)⟩
  · rw [if_neg c7] at H
    have c7b0 : ((decide (t621 < 0)) == (decide (t622 < 0))) = false := by simpa using c7
    (try (have c7b1 : decide ((decide (t621 < 0)) = (decide (t622 < 0))) = false := by simpa using c7))
    (try (have c7b2 : ((decide (t621 < 0)) == (decide (t622 < 0))) = false := by simpa using c7))
    (try (have c7b3 : ¬ ((decide (t621 < 0)) = (decide (t622 < 0))) := by simpa using c7))
    clear c7
    replace H := Option.bind_eq_some_iff.mp H
    obtain ⟨t628, A180, H⟩ := H
    replace H : (if t628 ≥ 0 then ((dowelref01_Sign.f a0).bind fun t629 => ((dowelref01_minus.f k t615 t618).bind fun t630 => ((dowelref01_text.f k (decide (t629 < 0)) t630).bind fun t633 => (some t633)))) else ((dowelref01_Sign.f a1).bind fun t634 => ((dowelref01_minus.f k t618 t615).bind fun t635 => ((dowelref01_text.f k (decide (t634 < 0)) t635).bind fun t638 => (some t638))))) = some r := H
    have A18 := Aside0.mk A180
    clear A180
    by_cases c19 : t628 ≥ 0
    · rw [if_pos c19] at H
      have c19b0 : decide (0 ≤ t628) = true := decide_eq_true c19
      clear c19
      replace H := Option.bind_eq_some_iff.mp H
      obtain ⟨t629, A200, H⟩ := H
      replace H : ((dowelref01_minus.f k t615 t618).bind fun t630 => ((dowelref01_text.f k (decide (t629 < 0)) t630).bind fun t633 => (some t633))) = some r := H
      have A20 := Aside0.mk A200
      clear A200
      replace H := Option.bind_eq_some_iff.mp H
      obtain ⟨t630, A210, H⟩ := H
      replace H : ((dowelref01_text.f k (decide (t629 < 0)) t630).bind fun t633 => (some t633)) = some r := H
      have A21 := Aside0.mk A210
      clear A210
      replace H := Option.bind_eq_some_iff.mp H
      obtain ⟨t633, A220, H⟩ := H
      replace H : (some t633) = some r := H
      have A22 := Aside0.mk A220
      clear A220
      obtain rfl := Option.some.inj H
      go_enter Tryd.func36, Tryd.ntmps36
      go_wp2_with (first | ((with_reducible refine gate_callee (f := 58) rfl ?_); refine goesL_ (some 8) rfl rfl Tryd.func58 (by kernel_rfl) rfl #[.string a0] rfl (by (try simp only [List.map_toArray, List.map_cons, List.map_nil]); first | done | rfl | (simp only [List.length_drop, List.length_take]; rfl)) ?_; (with_reducible refine (dowelref01_digits.calls k a0 t615 _ A3.out).mono ?_); rintro e w23 ⟨v616, rfl, ho0, hb⟩; refine ⟨_, rfl, ?_⟩; have n0_ := Aside0.mk (Kd.R_lower ho0 (below_size (by repeat (first | (with_reducible first | exact HB.out | apply below_alloc | apply pw_below_drewN | apply below_drew1) | exact HB.out)))); have n1_ := Aside0.mk (below_step (by repeat (first | (with_reducible first | exact HB.out | apply below_alloc | apply pw_below_drewN | apply below_drew1) | exact HB.out)) hb); clear HB; have HO617 := n0_; have HB := n1_; clear n0_ n1_; (try clear hb); (try clear hb2); (try clear hk); (try clear hi); (try clear ho0)) | ((with_reducible refine gate_callee (f := 58) rfl ?_); refine goesL_ (some 10) rfl rfl Tryd.func58 (by kernel_rfl) rfl #[.string a1] rfl (by (try simp only [List.map_toArray, List.map_cons, List.map_nil]); first | done | rfl | (simp only [List.length_drop, List.length_take]; rfl)) ?_; (with_reducible refine (dowelref01_digits.calls k a1 t618 _ A4.out).mono ?_); rintro e w24 ⟨v619, rfl, ho0, hb⟩; refine ⟨_, rfl, ?_⟩; have n0_ := Aside0.mk (Kd.R_elder' (by (with_reducible repeat (first | apply Kd.R_alloc | apply Kd.R_drewN | apply Kd.R_drew)); exact HO617.out) (Kd.R_base ho0) hb); have n1_ := Aside0.mk (Kd.R_lower (Kd.R_new' ho0 (Kd.R_lt (by (with_reducible repeat (first | apply Kd.R_alloc | apply Kd.R_drewN | apply Kd.R_drew)); exact HO617.out))) (below_size (by repeat (first | (with_reducible first | exact HB.out | apply below_alloc | apply pw_below_drewN | apply below_drew1) | exact HB.out)))); have n2_ := Aside0.mk (below_step (by repeat (first | (with_reducible first | exact HB.out | apply below_alloc | apply pw_below_drewN | apply below_drew1) | exact HB.out)) hb); clear HO617; clear HB; have HO617 := n0_; have HO620 := n1_; have HB := n2_; clear n0_ n1_ n2_; (try clear hb); (try clear hb2); (try clear hk); (try clear hi); (try clear ho0)) | ((with_reducible refine gate_callee (f := 33) rfl ?_); refine goesL_ (some 12) rfl rfl Tryd.func33 (by kernel_rfl) rfl #[.string a0] rfl (by (try simp only [List.map_toArray, List.map_cons, List.map_nil]); first | done | rfl | (simp only [List.length_drop, List.length_take]; rfl)) ?_; (with_reducible refine (dowelref01_Sign.calls a0 t621 _ A5.out).mono ?_); rintro e w' ⟨rfl, ⟨nd, rfl⟩⟩; refine ⟨_, rfl, ?_⟩) | ((with_reducible refine gate_callee (f := 33) rfl ?_); refine goesL_ (some 15) rfl rfl Tryd.func33 (by kernel_rfl) rfl #[.string a1] rfl (by (try simp only [List.map_toArray, List.map_cons, List.map_nil]); first | done | rfl | (simp only [List.length_drop, List.length_take]; rfl)) ?_; (with_reducible refine (dowelref01_Sign.calls a1 t622 _ A6.out).mono ?_); rintro e w' ⟨rfl, ⟨nd, rfl⟩⟩; refine ⟨_, rfl, ?_⟩; obtain ⟨Ao25, co25, eo25⟩ := Kd.R_slice HO617.out; subst eo25; obtain ⟨Ao26, co26, eo26⟩ := Kd.R_slice HO620.out; subst eo26) | ((with_reducible refine gate_callee (f := 61) rfl ?_); refine goesL_ (some 27) rfl rfl Tryd.func61 (by kernel_rfl) rfl #[.slice Ao25 t615.length co25, .slice Ao26 t618.length co26] rfl (by (try simp only [List.map_toArray, List.map_cons, List.map_nil]); first | done | rfl | (simp only [List.length_drop, List.length_take]; rfl)) ?_; (with_reducible refine (dowelref01_order.calls k _ _ t615 _ _ t618 t628 _ ?side1 ?side2 ?side3 ?side4 A18.out).mono ?_); (case side1 => repeat (first | exact (Kd.R_reads' HO617.out).2.2 | (with_reducible refine Kd.C_alloc ?_ _) | (with_reducible refine Kd.C_drewN ?_ _) | (with_reducible refine Kd.C_drew ?_))); (case side2 => exact (Kd.R_reads' HO617.out).2.1); (case side3 => repeat (first | exact (Kd.R_reads' HO620.out).2.2 | (with_reducible refine Kd.C_alloc ?_ _) | (with_reducible refine Kd.C_drewN ?_ _) | (with_reducible refine Kd.C_drew ?_))); (case side4 => exact (Kd.R_reads' HO620.out).2.1); rintro e w' ⟨rfl, ⟨nd, rfl⟩⟩; refine ⟨_, rfl, ?_⟩) | ((with_reducible refine gate_callee (f := 33) rfl ?_); refine goesL_ (some 30) rfl rfl Tryd.func33 (by kernel_rfl) rfl #[.string a0] rfl (by (try simp only [List.map_toArray, List.map_cons, List.map_nil]); first | done | rfl | (simp only [List.length_drop, List.length_take]; rfl)) ?_; (with_reducible refine (dowelref01_Sign.calls a0 t629 _ A20.out).mono ?_); rintro e w' ⟨rfl, ⟨nd, rfl⟩⟩; refine ⟨_, rfl, ?_⟩) | ((with_reducible refine gate_callee (f := 62) rfl ?_); refine goesL_ (some 34) rfl rfl Tryd.func62 (by kernel_rfl) rfl #[.slice Ao25 t615.length co25, .slice Ao26 t618.length co26] rfl (by (try simp only [List.map_toArray, List.map_cons, List.map_nil]); first | done | rfl | (simp only [List.length_drop, List.length_take]; rfl)) ?_; (with_reducible refine (dowelref01_minus.calls k _ _ t615 _ _ t618 t630 _ ?side1 ?side2 ?side3 ?side4 A21.out).mono ?_); (case side1 => repeat (first | exact (Kd.R_reads' HO617.out).2.2 | (with_reducible refine Kd.C_alloc ?_ _) | (with_reducible refine Kd.C_drewN ?_ _) | (with_reducible refine Kd.C_drew ?_))); (case side2 => exact (Kd.R_reads' HO617.out).2.1); (case side3 => repeat (first | exact (Kd.R_reads' HO620.out).2.2 | (with_reducible refine Kd.C_alloc ?_ _) | (with_reducible refine Kd.C_drewN ?_ _) | (with_reducible refine Kd.C_drew ?_))); (case side4 => exact (Kd.R_reads' HO620.out).2.1); rintro e w27 ⟨v631, rfl, ho0, hb⟩; refine ⟨_, rfl, ?_⟩; have n0_ := Aside0.mk (Kd.R_elder' (by (with_reducible repeat (first | apply Kd.R_alloc | apply Kd.R_drewN | apply Kd.R_drew)); exact HO617.out) (Kd.R_base ho0) hb); have n1_ := Aside0.mk (Kd.R_elder' (by (with_reducible repeat (first | apply Kd.R_alloc | apply Kd.R_drewN | apply Kd.R_drew)); exact HO620.out) (Kd.R_base ho0) hb); have n2_ := Aside0.mk (Kd.R_lower (Kd.R_new' (Kd.R_new' ho0 (Kd.R_lt (by (with_reducible repeat (first | apply Kd.R_alloc | apply Kd.R_drewN | apply Kd.R_drew)); exact HO617.out))) (Kd.R_lt (by (with_reducible repeat (first | apply Kd.R_alloc | apply Kd.R_drewN | apply Kd.R_drew)); exact HO620.out))) (below_size (by repeat (first | (with_reducible first | exact HB.out | apply below_alloc | apply pw_below_drewN | apply below_drew1) | exact HB.out)))); have n3_ := Aside0.mk (below_step (by repeat (first | (with_reducible first | exact HB.out | apply below_alloc | apply pw_below_drewN | apply below_drew1) | exact HB.out)) hb); clear HO617; clear HO620; clear HB; have HO617 := n0_; have HO620 := n1_; have HO632 := n2_; have HB := n3_; clear n0_ n1_ n2_ n3_; (try clear hb); (try clear hb2); (try clear hk); (try clear hi); (try clear ho0); obtain ⟨Ao28, co28, eo28⟩ := Kd.R_slice HO632.out; subst eo28) | ((with_reducible refine gate_callee (f := 51) rfl ?_); refine goesL_ (some 35) rfl rfl Tryd.func51 (by kernel_rfl) rfl #[.bool (decide (t629 < 0)), .slice Ao28 t630.length co28] rfl (by (try simp only [List.map_toArray, List.map_cons, List.map_nil]); first | done | rfl | (simp only [List.length_drop, List.length_take]; rfl)) ?_; (with_reducible refine (dowelref01_text.calls k (decide (t629 < 0)) (fun k_ => some k_ = (.slice Ao28 t630.length co28 : Value).ownBlock) (.slice Ao28 t630.length co28) t630 t633 w _ ?side1 ?side2 A22.out).mono ?_); (case side1 => repeat (first | (with_reducible first | exact HB.out | apply below_alloc | apply pw_below_drewN | apply below_drew1) | exact HB.out)); (case side2 => exact Kd.R_tight rfl HO632.out); rintro e w29 ⟨rfl, hb, hkp⟩; refine ⟨_, rfl, ?_⟩; have n0_ := Aside0.mk (Kd.R_mono (ok' := fun k_ => some k_ ≠ (.slice Ao26 t618.length co26 : Value).ownBlock) (Kd.R_keptB (HO617.out) hkp (fun k_ hk_ hs_ => (hk_.2) hs_)) (fun k_ hk_ => hk_.1.1.2)); have n1_ := Aside0.mk (Kd.R_mono (ok' := fun k_ => some k_ ≠ (.slice Ao25 t615.length co25 : Value).ownBlock) (Kd.R_keptB (HO620.out) hkp (fun k_ hk_ hs_ => (hk_.2) hs_)) (fun k_ hk_ => hk_.1.1.2)); have n2_ := Aside0.mk (hb); clear HO617; clear HO620; clear HB; clear HO632; have HO617 := n0_; have HO620 := n1_; have HB := n2_; clear n0_ n1_ n2_; (try clear hb); (try clear hkp)))
      go_ret
      exact ⟨by first | rfl | (simp [errW_none, errW_some] <;> rfl) | (simp [*, errW_none, errW_some] <;> rfl), by repeat (first | (with_reducible first | exact HB.out | apply below_alloc | apply pw_below_drewN | apply below_drew1) | exact HB.out)⟩
    · rw [if_neg c19] at H
      have c19b0 : decide (0 ≤ t628) = false := decide_eq_false c19
      clear c19
      replace H := Option.bind_eq_some_iff.mp H
      obtain ⟨t634, A300, H⟩ := H
      replace H : ((dowelref01_minus.f k t618 t615).bind fun t635 => ((dowelref01_text.f k (decide (t634 < 0)) t635).bind fun t638 => (some t638))) = some r := H
      have A30 := Aside0.mk A300
      clear A300
      replace H := Option.bind_eq_some_iff.mp H
      obtain ⟨t635, A310, H⟩ := H
      replace H : ((dowelref01_text.f k (decide (t634 < 0)) t635).bind fun t638 => (some t638)) = some r := H
      have A31 := Aside0.mk A310
      clear A310
      replace H := Option.bind_eq_some_iff.mp H
      obtain ⟨t638, A320, H⟩ := H
      replace H : (some t638) = some r := H
      have A32 := Aside0.mk A320
      clear A320
      obtain rfl := Option.some.inj H
      go_enter Tryd.func36, Tryd.ntmps36
      go_wp2_with (first | ((with_reducible refine gate_callee (f := 58) rfl ?_); refine goesL_ (some 8) rfl rfl Tryd.func58 (by kernel_rfl) rfl #[.string a0] rfl (by (try simp only [List.map_toArray, List.map_cons, List.map_nil]); first | done | rfl | (simp only [List.length_drop, List.length_take]; rfl)) ?_; (with_reducible refine (dowelref01_digits.calls k a0 t615 _ A3.out).mono ?_); rintro e w33 ⟨v616, rfl, ho0, hb⟩; refine ⟨_, rfl, ?_⟩; have n0_ := Aside0.mk (Kd.R_lower ho0 (below_size (by repeat (first | (with_reducible first | exact HB.out | apply below_alloc | apply pw_below_drewN | apply below_drew1) | exact HB.out)))); have n1_ := Aside0.mk (below_step (by repeat (first | (with_reducible first | exact HB.out | apply below_alloc | apply pw_below_drewN | apply below_drew1) | exact HB.out)) hb); clear HB; have HO617 := n0_; have HB := n1_; clear n0_ n1_; (try clear hb); (try clear hb2); (try clear hk); (try clear hi); (try clear ho0)) | ((with_reducible refine gate_callee (f := 58) rfl ?_); refine goesL_ (some 10) rfl rfl Tryd.func58 (by kernel_rfl) rfl #[.string a1] rfl (by (try simp only [List.map_toArray, List.map_cons, List.map_nil]); first | done | rfl | (simp only [List.length_drop, List.length_take]; rfl)) ?_; (with_reducible refine (dowelref01_digits.calls k a1 t618 _ A4.out).mono ?_); rintro e w34 ⟨v619, rfl, ho0, hb⟩; refine ⟨_, rfl, ?_⟩; have n0_ := Aside0.mk (Kd.R_elder' (by (with_reducible repeat (first | apply Kd.R_alloc | apply Kd.R_drewN | apply Kd.R_drew)); exact HO617.out) (Kd.R_base ho0) hb); have n1_ := Aside0.mk (Kd.R_lower (Kd.R_new' ho0 (Kd.R_lt (by (with_reducible repeat (first | apply Kd.R_alloc | apply Kd.R_drewN | apply Kd.R_drew)); exact HO617.out))) (below_size (by repeat (first | (with_reducible first | exact HB.out | apply below_alloc | apply pw_below_drewN | apply below_drew1) | exact HB.out)))); have n2_ := Aside0.mk (below_step (by repeat (first | (with_reducible first | exact HB.out | apply below_alloc | apply pw_below_drewN | apply below_drew1) | exact HB.out)) hb); clear HO617; clear HB; have HO617 := n0_; have HO620 := n1_; have HB := n2_; clear n0_ n1_ n2_; (try clear hb); (try clear hb2); (try clear hk); (try clear hi); (try clear ho0)) | ((with_reducible refine gate_callee (f := 33) rfl ?_); refine goesL_ (some 12) rfl rfl Tryd.func33 (by kernel_rfl) rfl #[.string a0] rfl (by (try simp only [List.map_toArray, List.map_cons, List.map_nil]); first | done | rfl | (simp only [List.length_drop, List.length_take]; rfl)) ?_; (with_reducible refine (dowelref01_Sign.calls a0 t621 _ A5.out).mono ?_); rintro e w' ⟨rfl, ⟨nd, rfl⟩⟩; refine ⟨_, rfl, ?_⟩) | ((with_reducible refine gate_callee (f := 33) rfl ?_); refine goesL_ (some 15) rfl rfl Tryd.func33 (by kernel_rfl) rfl #[.string a1] rfl (by (try simp only [List.map_toArray, List.map_cons, List.map_nil]); first | done | rfl | (simp only [List.length_drop, List.length_take]; rfl)) ?_; (with_reducible refine (dowelref01_Sign.calls a1 t622 _ A6.out).mono ?_); rintro e w' ⟨rfl, ⟨nd, rfl⟩⟩; refine ⟨_, rfl, ?_⟩; obtain ⟨Ao35, co35, eo35⟩ := Kd.R_slice HO617.out; subst eo35; obtain ⟨Ao36, co36, eo36⟩ := Kd.R_slice HO620.out; subst eo36) | ((with_reducible refine gate_callee (f := 61) rfl ?_); refine goesL_ (some 27) rfl rfl Tryd.func61 (by kernel_rfl) rfl #[.slice Ao35 t615.length co35, .slice Ao36 t618.length co36] rfl (by (try simp only [List.map_toArray, List.map_cons, List.map_nil]); first | done | rfl | (simp only [List.length_drop, List.length_take]; rfl)) ?_; (with_reducible refine (dowelref01_order.calls k _ _ t615 _ _ t618 t628 _ ?side1 ?side2 ?side3 ?side4 A18.out).mono ?_); (case side1 => repeat (first | exact (Kd.R_reads' HO617.out).2.2 | (with_reducible refine Kd.C_alloc ?_ _) | (with_reducible refine Kd.C_drewN ?_ _) | (with_reducible refine Kd.C_drew ?_))); (case side2 => exact (Kd.R_reads' HO617.out).2.1); (case side3 => repeat (first | exact (Kd.R_reads' HO620.out).2.2 | (with_reducible refine Kd.C_alloc ?_ _) | (with_reducible refine Kd.C_drewN ?_ _) | (with_reducible refine Kd.C_drew ?_))); (case side4 => exact (Kd.R_reads' HO620.out).2.1); rintro e w' ⟨rfl, ⟨nd, rfl⟩⟩; refine ⟨_, rfl, ?_⟩) | ((with_reducible refine gate_callee (f := 33) rfl ?_); refine goesL_ (some 37) rfl rfl Tryd.func33 (by kernel_rfl) rfl #[.string a1] rfl (by (try simp only [List.map_toArray, List.map_cons, List.map_nil]); first | done | rfl | (simp only [List.length_drop, List.length_take]; rfl)) ?_; (with_reducible refine (dowelref01_Sign.calls a1 t634 _ A30.out).mono ?_); rintro e w' ⟨rfl, ⟨nd, rfl⟩⟩; refine ⟨_, rfl, ?_⟩) | ((with_reducible refine gate_callee (f := 62) rfl ?_); refine goesL_ (some 41) rfl rfl Tryd.func62 (by kernel_rfl) rfl #[.slice Ao36 t618.length co36, .slice Ao35 t615.length co35] rfl (by (try simp only [List.map_toArray, List.map_cons, List.map_nil]); first | done | rfl | (simp only [List.length_drop, List.length_take]; rfl)) ?_; (with_reducible refine (dowelref01_minus.calls k _ _ t618 _ _ t615 t635 _ ?side1 ?side2 ?side3 ?side4 A31.out).mono ?_); (case side1 => repeat (first | exact (Kd.R_reads' HO620.out).2.2 | (with_reducible refine Kd.C_alloc ?_ _) | (with_reducible refine Kd.C_drewN ?_ _) | (with_reducible refine Kd.C_drew ?_))); (case side2 => exact (Kd.R_reads' HO620.out).2.1); (case side3 => repeat (first | exact (Kd.R_reads' HO617.out).2.2 | (with_reducible refine Kd.C_alloc ?_ _) | (with_reducible refine Kd.C_drewN ?_ _) | (with_reducible refine Kd.C_drew ?_))); (case side4 => exact (Kd.R_reads' HO617.out).2.1); rintro e w37 ⟨v636, rfl, ho0, hb⟩; refine ⟨_, rfl, ?_⟩; have n0_ := Aside0.mk (Kd.R_elder' (by (with_reducible repeat (first | apply Kd.R_alloc | apply Kd.R_drewN | apply Kd.R_drew)); exact HO617.out) (Kd.R_base ho0) hb); have n1_ := Aside0.mk (Kd.R_elder' (by (with_reducible repeat (first | apply Kd.R_alloc | apply Kd.R_drewN | apply Kd.R_drew)); exact HO620.out) (Kd.R_base ho0) hb); have n2_ := Aside0.mk (Kd.R_lower (Kd.R_new' (Kd.R_new' ho0 (Kd.R_lt (by (with_reducible repeat (first | apply Kd.R_alloc | apply Kd.R_drewN | apply Kd.R_drew)); exact HO617.out))) (Kd.R_lt (by (with_reducible repeat (first | apply Kd.R_alloc | apply Kd.R_drewN | apply Kd.R_drew)); exact HO620.out))) (below_size (by repeat (first | (with_reducible first | exact HB.out | apply below_alloc | apply pw_below_drewN | apply below_drew1) | exact HB.out)))); have n3_ := Aside0.mk (below_step (by repeat (first | (with_reducible first | exact HB.out | apply below_alloc | apply pw_below_drewN | apply below_drew1) | exact HB.out)) hb); clear HO617; clear HO620; clear HB; have HO617 := n0_; have HO620 := n1_; have HO637 := n2_; have HB := n3_; clear n0_ n1_ n2_ n3_; (try clear hb); (try clear hb2); (try clear hk); (try clear hi); (try clear ho0); obtain ⟨Ao38, co38, eo38⟩ := Kd.R_slice HO637.out; subst eo38) | ((with_reducible refine gate_callee (f := 51) rfl ?_); refine goesL_ (some 42) rfl rfl Tryd.func51 (by kernel_rfl) rfl #[.bool (decide (t634 < 0)), .slice Ao38 t635.length co38] rfl (by (try simp only [List.map_toArray, List.map_cons, List.map_nil]); first | done | rfl | (simp only [List.length_drop, List.length_take]; rfl)) ?_; (with_reducible refine (dowelref01_text.calls k (decide (t634 < 0)) (fun k_ => some k_ = (.slice Ao38 t635.length co38 : Value).ownBlock) (.slice Ao38 t635.length co38) t635 t638 w _ ?side1 ?side2 A32.out).mono ?_); (case side1 => repeat (first | (with_reducible first | exact HB.out | apply below_alloc | apply pw_below_drewN | apply below_drew1) | exact HB.out)); (case side2 => exact Kd.R_tight rfl HO637.out); rintro e w39 ⟨rfl, hb, hkp⟩; refine ⟨_, rfl, ?_⟩; have n0_ := Aside0.mk (Kd.R_mono (ok' := fun k_ => some k_ ≠ (.slice Ao36 t618.length co36 : Value).ownBlock) (Kd.R_keptB (HO617.out) hkp (fun k_ hk_ hs_ => (hk_.2) hs_)) (fun k_ hk_ => hk_.1.1.2)); have n1_ := Aside0.mk (Kd.R_mono (ok' := fun k_ => some k_ ≠ (.slice Ao35 t615.length co35 : Value).ownBlock) (Kd.R_keptB (HO620.out) hkp (fun k_ hk_ hs_ => (hk_.2) hs_)) (fun k_ hk_ => hk_.1.1.2)); have n2_ := Aside0.mk (hb); clear HO617; clear HO620; clear HB; clear HO637; have HO617 := n0_; have HO620 := n1_; have HB := n2_; clear n0_ n1_ n2_; (try clear hb); (try clear hkp)))
      go_ret
      exact ⟨by first | rfl | (simp [errW_none, errW_some] <;> rfl) | (simp [*, errW_none, errW_some] <;> rfl), by repeat (first | (with_reducible first | exact HB.out | apply below_alloc | apply pw_below_drewN | apply below_drew1) | exact HB.out)⟩
end Go.Proofs.YtiikfhdmclmjmaaDoor.P
namespace Go.Proofs.YtiikfhdmclmjmaaDoor.P
open Go.RowKit Go.Proofs.YtiikfhdmclmjmaaDoorW.PrintWords Go.Proofs.YtiikfhdmclmjmaaDoorW.PrintLast
set_option linter.unusedVariables false
set_option linter.unusedSimpArgs false
def dowelref01_Neg.f (k : Nat) (a0 : ByteArray) : Option (ByteArray) := (dowelref01_Sign.f a0).bind fun t639 => ((dowelref01_digits.f k a0).bind fun t640 => ((dowelref01_text.f k (decide (t639 > 0)) t640).bind fun t643 => (some t643)))
theorem dowelref01_Neg.mono : ∀ a0 k, LeO (dowelref01_Neg.f k a0) (dowelref01_Neg.f (k + 1) a0) := by
  intro a0 k
  unfold dowelref01_Neg.f
  repeat' first
      | (with_reducible exact dowelref01_digits.mono _ _)
      | (with_reducible exact dowelref01_text.mono _ _ _)
      | (with_reducible exact LeO.refl _)
      | (with_reducible exact LeO.none _)
      | (with_reducible refine LeO.ite ?_ ?_)
      | (with_reducible refine LeO.bind ?_ (fun _ => ?_))
      | exact dowelref01_digits.mono _ _
      | exact dowelref01_text.mono _ _ _
      | exact LeO.none _
      | refine LeO.ite ?_ ?_
      | refine LeO.bind ?_ (fun _ => ?_)
set_option maxHeartbeats 8000000 in
set_option maxRecDepth 100000 in
theorem dowelref01_Neg.calls (k : Nat) (a0 : ByteArray) (r : ByteArray) (w : World) (h : dowelref01_Neg.f k a0 = some r) :
    Calls Tryd.prog 34 #[.string a0] w fun e w' => e = .returned (.string r) ∧ Below w.heap.size w w' := by
  have HB := Aside0.mk (Below.refl w.heap.size w)
  have H : ((dowelref01_Sign.f a0).bind fun t639 => ((dowelref01_digits.f k a0).bind fun t640 => ((dowelref01_text.f k (decide (t639 > 0)) t640).bind fun t643 => (some t643)))) = some r := h
  clear h
  replace H := Option.bind_eq_some_iff.mp H
  obtain ⟨t639, A20, H⟩ := H
  replace H : ((dowelref01_digits.f k a0).bind fun t640 => ((dowelref01_text.f k (decide (t639 > 0)) t640).bind fun t643 => (some t643))) = some r := H
  have A2 := Aside0.mk A20
  clear A20
  replace H := Option.bind_eq_some_iff.mp H
  obtain ⟨t640, A30, H⟩ := H
  replace H : ((dowelref01_text.f k (decide (t639 > 0)) t640).bind fun t643 => (some t643)) = some r := H
  have A3 := Aside0.mk A30
  clear A30
  replace H := Option.bind_eq_some_iff.mp H
  obtain ⟨t643, A40, H⟩ := H
  replace H : (some t643) = some r := H
  have A4 := Aside0.mk A40
  clear A40
  obtain rfl := Option.some.inj H
  go_enter Tryd.func34, Tryd.ntmps34
  go_wp2_with (first | ((with_reducible refine gate_callee (f := 33) rfl ?_); refine goesL_ (some 4) rfl rfl Tryd.func33 (by kernel_rfl) rfl #[.string a0] rfl (by (try simp only [List.map_toArray, List.map_cons, List.map_nil]); first | done | rfl | (simp only [List.length_drop, List.length_take]; rfl)) ?_; (with_reducible refine (dowelref01_Sign.calls a0 t639 _ A2.out).mono ?_); rintro e w' ⟨rfl, ⟨nd, rfl⟩⟩; refine ⟨_, rfl, ?_⟩) | ((with_reducible refine gate_callee (f := 58) rfl ?_); refine goesL_ (some 7) rfl rfl Tryd.func58 (by kernel_rfl) rfl #[.string a0] rfl (by (try simp only [List.map_toArray, List.map_cons, List.map_nil]); first | done | rfl | (simp only [List.length_drop, List.length_take]; rfl)) ?_; (with_reducible refine (dowelref01_digits.calls k a0 t640 _ A3.out).mono ?_); rintro e w5 ⟨v641, rfl, ho0, hb⟩; refine ⟨_, rfl, ?_⟩; have n0_ := Aside0.mk (Kd.R_lower ho0 (below_size (by repeat (first | (with_reducible first | exact HB.out | apply below_alloc | apply pw_below_drewN | apply below_drew1) | exact HB.out)))); have n1_ := Aside0.mk (below_step (by repeat (first | (with_reducible first | exact HB.out | apply below_alloc | apply pw_below_drewN | apply below_drew1) | exact HB.out)) hb); clear HB; have HO642 := n0_; have HB := n1_; clear n0_ n1_; (try clear hb); (try clear hb2); (try clear hk); (try clear hi); (try clear ho0); obtain ⟨Ao6, co6, eo6⟩ := Kd.R_slice HO642.out; subst eo6) | ((with_reducible refine gate_callee (f := 51) rfl ?_); refine goesL_ (some 8) rfl rfl Tryd.func51 (by kernel_rfl) rfl #[.bool (decide (t639 > 0)), .slice Ao6 t640.length co6] rfl (by (try simp only [List.map_toArray, List.map_cons, List.map_nil]); first | done | rfl | (simp only [List.length_drop, List.length_take]; rfl)) ?_; (with_reducible refine (dowelref01_text.calls k (decide (t639 > 0)) (fun k_ => some k_ = (.slice Ao6 t640.length co6 : Value).ownBlock) (.slice Ao6 t640.length co6) t640 t643 w _ ?side1 ?side2 A4.out).mono ?_); (case side1 => repeat (first | (with_reducible first | exact HB.out | apply below_alloc | apply pw_below_drewN | apply below_drew1) | exact HB.out)); (case side2 => exact Kd.R_tight rfl HO642.out); rintro e w7 ⟨rfl, hb, hkp⟩; refine ⟨_, rfl, ?_⟩; have n0_ := Aside0.mk (hb); clear HB; clear HO642; have HB := n0_; clear n0_; (try clear hb); (try clear hkp)))
  go_ret
  exact ⟨by first | rfl | (simp [errW_none, errW_some] <;> rfl) | (simp [*, errW_none, errW_some] <;> rfl), by repeat (first | (with_reducible first | exact HB.out | apply below_alloc | apply pw_below_drewN | apply below_drew1) | exact HB.out)⟩
end Go.Proofs.YtiikfhdmclmjmaaDoor.P
namespace Go.Proofs.YtiikfhdmclmjmaaDoor.P
open Go.RowKit Go.Proofs.YtiikfhdmclmjmaaDoorW.PrintWords Go.Proofs.YtiikfhdmclmjmaaDoorW.PrintLast
set_option linter.unusedVariables false
set_option linter.unusedSimpArgs false
def dowelref01_Sub.f (k : Nat) (a0 : ByteArray) (a1 : ByteArray) : Option (ByteArray) := (dowelref01_Neg.f k a1).bind fun t644 => ((dowelref01_Add.f k a0 t644).bind fun t645 => (some t645))
theorem dowelref01_Sub.mono : ∀ a0 a1 k, LeO (dowelref01_Sub.f k a0 a1) (dowelref01_Sub.f (k + 1) a0 a1) := by
  intro a0 a1 k
  unfold dowelref01_Sub.f
  repeat' first
      | (with_reducible exact dowelref01_Add.mono _ _ _)
      | (with_reducible exact dowelref01_Neg.mono _ _)
      | (with_reducible exact LeO.refl _)
      | (with_reducible exact LeO.none _)
      | (with_reducible refine LeO.ite ?_ ?_)
      | (with_reducible refine LeO.bind ?_ (fun _ => ?_))
      | exact dowelref01_Add.mono _ _ _
      | exact dowelref01_Neg.mono _ _
      | exact LeO.none _
      | refine LeO.ite ?_ ?_
      | refine LeO.bind ?_ (fun _ => ?_)
set_option maxHeartbeats 8000000 in
set_option maxRecDepth 100000 in
theorem dowelref01_Sub.calls (k : Nat) (a0 : ByteArray) (a1 : ByteArray) (r : ByteArray) (w : World) (h : dowelref01_Sub.f k a0 a1 = some r) :
    Calls Tryd.prog 38 #[.string a0, .string a1] w fun e w' => e = .returned (.string r) ∧ Below w.heap.size w w' := by
  have HB := Aside0.mk (Below.refl w.heap.size w)
  have H : ((dowelref01_Neg.f k a1).bind fun t644 => ((dowelref01_Add.f k a0 t644).bind fun t645 => (some t645))) = some r := h
  clear h
  replace H := Option.bind_eq_some_iff.mp H
  obtain ⟨t644, A30, H⟩ := H
  replace H : ((dowelref01_Add.f k a0 t644).bind fun t645 => (some t645)) = some r := H
  have A3 := Aside0.mk A30
  clear A30
  replace H := Option.bind_eq_some_iff.mp H
  obtain ⟨t645, A40, H⟩ := H
  replace H : (some t645) = some r := H
  have A4 := Aside0.mk A40
  clear A40
  obtain rfl := Option.some.inj H
  go_enter Tryd.func38, Tryd.ntmps38
  go_wp2_with (first | ((with_reducible refine gate_callee (f := 34) rfl ?_); refine goesL_ (some 7) rfl rfl Tryd.func34 (by kernel_rfl) rfl #[.string a1] rfl (by (try simp only [List.map_toArray, List.map_cons, List.map_nil]); first | done | rfl | (simp only [List.length_drop, List.length_take]; rfl)) ?_; (with_reducible refine (dowelref01_Neg.calls k a1 t644 _ A3.out).mono ?_); rintro e w5 ⟨rfl, hb⟩; refine ⟨_, rfl, ?_⟩; have n0_ := Aside0.mk (below_step (by repeat (first | (with_reducible first | exact HB.out | apply below_alloc | apply pw_below_drewN | apply below_drew1) | exact HB.out)) hb); clear HB; have HB := n0_; clear n0_; (try clear hb); (try clear hb2); (try clear hk); (try clear hi)) | ((with_reducible refine gate_callee (f := 36) rfl ?_); refine goesL_ (some 8) rfl rfl Tryd.func36 (by kernel_rfl) rfl #[.string a0, .string t644] rfl (by (try simp only [List.map_toArray, List.map_cons, List.map_nil]); first | done | rfl | (simp only [List.length_drop, List.length_take]; rfl)) ?_; (with_reducible refine (dowelref01_Add.calls k a0 t644 t645 _ A4.out).mono ?_); rintro e w6 ⟨rfl, hb⟩; refine ⟨_, rfl, ?_⟩; have n0_ := Aside0.mk (below_step (by repeat (first | (with_reducible first | exact HB.out | apply below_alloc | apply pw_below_drewN | apply below_drew1) | exact HB.out)) hb); clear HB; have HB := n0_; clear n0_; (try clear hb); (try clear hb2); (try clear hk); (try clear hi)))
  go_ret
  exact ⟨by first | rfl | (simp [errW_none, errW_some] <;> rfl) | (simp [*, errW_none, errW_some] <;> rfl), by repeat (first | (with_reducible first | exact HB.out | apply below_alloc | apply pw_below_drewN | apply below_drew1) | exact HB.out)⟩
end Go.Proofs.YtiikfhdmclmjmaaDoor.P
namespace Go.Proofs.YtiikfhdmclmjmaaDoor.P
open Go.RowKit Go.Proofs.YtiikfhdmclmjmaaDoorW.PrintWords Go.Proofs.YtiikfhdmclmjmaaDoorW.PrintLast
set_option linter.unusedVariables false
set_option linter.unusedSimpArgs false
def integer_Abs.f (a0_0 : Bool) (l0_1 : List Int) : Option (Bool × List Int) := some (false, l0_1)
set_option maxHeartbeats 8000000 in
set_option maxRecDepth 100000 in
theorem integer_Abs.calls (a0_0 : Bool) (P0_1_ : Nat → Prop) (A0_1 : Option Addr) (c0_1 : Nat) (l0_1 : List Int) (r1 : Bool) (r2 : List Int) (w : World) (hs0_1 : Kd.V (Kd.int .u32) 60 w w.heap.size (fun k_ => P0_1_ k_) (.slice A0_1 l0_1.length c0_1) l0_1) (h : integer_Abs.f a0_0 l0_1 = some (r1, r2)) :
    Calls Tryd.prog 40 #[.agg #[.bool a0_0, .slice A0_1 l0_1.length c0_1]] w fun e w' => ∃ v1_ : Value, e = .returned (.agg #[.bool r1, v1_]) ∧ Kd.V (Kd.int .u32) 60 w' w.heap.size (fun k_ => (P0_1_ k_ ∨ w.heap.size ≤ k_)) v1_ r2 ∧ Below w.heap.size w w' := by
  have hu25 := Tryd.underlying25
  have HO0_1 := Aside0.mk (show Kd.V (Kd.int .u32) 60 w w.heap.size (fun k_ => (P0_1_ k_ ∨ w.heap.size ≤ k_)) (.slice A0_1 l0_1.length c0_1) l0_1 from Kd.V_mono hs0_1 (fun k_ hk => .inl hk))
  have HB := Aside0.mk (Below.refl w.heap.size w)
  have H : (some (false, l0_1)) = some (r1, r2) := h
  clear h
  simp only [Option.some.injEq, Prod.mk.injEq] at H
  obtain ⟨rfl, rfl⟩ := H
  go_enter Tryd.func40, Tryd.ntmps40
  go_wp2_with (first | ((with_reducible refine gate_dst (N := 1) rfl ?_); refine box_event ?hg (N := 1) ?hd (cs := #[.bool a0_0, .slice A0_1 l0_1.length c0_1]) (t := 25) ?hr ?_; (case hd => rfl); (case hg => rfl); (case hr => first | (go_simp; done) | (go_simp; rfl)); intro gb801 hg w2 hbox hb; have n0_ := Aside0.mk (Kd.V_below (Kd.V_elderB (by (with_reducible repeat (first | apply Kd.V_alloc | apply Kd.V_drewN | apply Kd.V_drew)); exact HO0_1.out) gb801 (Nat.le_of_eq hg.symm)) hb); have n1_ := Aside0.mk (below_step (by repeat (first | (with_reducible first | exact HB.out | apply below_alloc | apply pw_below_drewN | apply below_drew1) | exact HB.out)) hb); have n2_ := Aside0.mk (hbox); have n3_ := Aside0.mk ((by rw [hg]; exact (below_size (by repeat (first | (with_reducible first | exact HB.out | apply below_alloc | apply pw_below_drewN | apply below_drew1) | exact HB.out))) : w.heap.size ≤ gb801)); have n4_ := Aside0.mk ((by rw [hg]; exact (below_size (by repeat (first | (with_reducible first | exact HB.out | apply below_alloc | apply pw_below_drewN | apply below_drew1) | exact HB.out))) : w.heap.size ≤ gb801)); clear HO0_1; clear HB; have HO0_1 := n0_; have HB := n1_; have BK801 := n2_; have GW801 := n3_; have GE801 := n4_; clear n0_ n1_ n2_ n3_ n4_; clear hb hbox hg) | ((with_reducible refine gate_dst (N := 2) rfl ?_); refine box_event ?hg (N := 2) ?hd (cs := #[.bool false, .slice none 0 0]) (t := 25) ?hr ?_; (case hd => rfl); (case hg => rfl); (case hr => first | (go_simp; done) | (go_simp; rfl)); intro gb802 hg w3 hbox hb; have n0_ := Aside0.mk (Kd.V_below (Kd.V_elderB (by (with_reducible repeat (first | apply Kd.V_alloc | apply Kd.V_drewN | apply Kd.V_drew)); exact HO0_1.out) gb802 (Nat.le_of_eq hg.symm)) hb); have n1_ := Aside0.mk (blk_below (g := gb801) (o := .cells #[.bool a0_0, .slice A0_1 l0_1.length c0_1] 25 (0, 0)) (by (with_reducible repeat (first | refine blk_drewN ?_ _ | refine blk_drew ?_ | refine blk_alloc ?_ _)); exact BK801.out) hb); have n2_ := Aside0.mk (below_step (by repeat (first | (with_reducible first | exact HB.out | apply below_alloc | apply pw_below_drewN | apply below_drew1 | refine below_set ?_ GE801.out) | exact HB.out)) hb); have n3_ := Aside0.mk (hbox); have n4_ := Aside0.mk ((by rw [hg]; exact (below_size (by repeat (first | (with_reducible first | exact HB.out | apply below_alloc | apply pw_below_drewN | apply below_drew1 | refine below_set ?_ GE801.out) | exact HB.out))) : w.heap.size ≤ gb802)); have n5_ := Aside0.mk ((by rw [hg]; exact (below_size (by repeat (first | (with_reducible first | exact HB.out | apply below_alloc | apply pw_below_drewN | apply below_drew1 | refine below_set ?_ GE801.out) | exact HB.out))) : w.heap.size ≤ gb802)); have n6_ := Aside0.mk ((by rw [hg]; exact Nat.ne_of_lt (blk_lt (g := gb801) (o := .cells #[.bool a0_0, .slice A0_1 l0_1.length c0_1] 25 (0, 0)) (by (with_reducible repeat (first | refine blk_drewN ?_ _ | refine blk_drew ?_ | refine blk_alloc ?_ _)); exact BK801.out)) : gb801 ≠ gb802)); have n7_ := Aside0.mk ((by rw [hg]; exact Nat.ne_of_gt (blk_lt (g := gb801) (o := .cells #[.bool a0_0, .slice A0_1 l0_1.length c0_1] 25 (0, 0)) (by (with_reducible repeat (first | refine blk_drewN ?_ _ | refine blk_drew ?_ | refine blk_alloc ?_ _)); exact BK801.out)) : gb802 ≠ gb801)); clear HO0_1; clear BK801; clear HB; have HO0_1 := n0_; have BK801 := n1_; have HB := n2_; have BK802 := n3_; have GW802 := n4_; have GE802 := n5_; have NB801_802 := n6_; have NB802_801 := n7_; clear n0_ n1_ n2_ n3_ n4_ n5_ n6_ n7_; clear hb hbox hg; have hnb4 := NB801_802.out; have hnc4 := NB802_801.out; have hcz5_0 : w3.cell? ⟨gb801, 0, none⟩ = some (.bool a0_0) := (blk_cell BK801.out 0).trans rfl; have hcz5_1 : w3.cell? ⟨gb801, 1, none⟩ = some (.slice A0_1 l0_1.length c0_1) := (blk_cell BK801.out 1).trans rfl; have hfz5_0 := blk_frozen BK801.out 0; have hfz5_1 := blk_frozen BK801.out 1; have hcz6_0 : w3.cell? ⟨gb802, 0, none⟩ = some (.bool false) := (blk_cell BK802.out 0).trans rfl; have hcz6_1 : w3.cell? ⟨gb802, 1, none⟩ = some (.slice none 0 0) := (blk_cell BK802.out 1).trans rfl; have hfz6_0 := blk_frozen BK802.out 0; have hfz6_1 := blk_frozen BK802.out 1))
  refine bodyPost_ret (results_cell_row rfl _ _ gb802 25 #[.bool false, .slice A0_1 l0_1.length c0_1] (0, 0) _ rfl (by (with_reducible repeat (first | refine blk_drewN ?_ _ | refine blk_drew ?_ | refine blk_alloc ?_ _)); refine blk_put (cs := #[.bool false, .slice none 0 0]) ?_ 1 _ rfl; (with_reducible repeat (first | refine blk_drewN ?_ _ | refine blk_drew ?_ | refine blk_alloc ?_ _)); refine blk_put (cs := #[.bool false, .slice none 0 0]) ?_ 0 _ rfl; (with_reducible repeat (first | refine blk_drewN ?_ _ | refine blk_drew ?_ | refine blk_alloc ?_ _)); exact BK802.out) Tryd.underlying25 rfl (by kernel_rfl)) rfl ?_
  exact ⟨_, by first | rfl | (simp [errW_none, errW_some] <;> rfl) | (simp [*, errW_none, errW_some] <;> rfl), by (with_reducible repeat (first | apply Kd.V_alloc | apply Kd.V_drewN | apply Kd.V_drew)); exact Kd.V_mono (Kd.V_far (p := ⟨gb802, 1, none⟩) (Kd.V_far (p := ⟨gb802, 0, none⟩) (Kd.V_mono HO0_1.out (fun k_ hk => (⟨hk, hk.2⟩ : _ ∧ k_ ≠ gb802))) (fun _ hk => hk.2) (.bool false)) (fun _ hk => hk.2) (.slice A0_1 l0_1.length c0_1)) (fun _ hk => hk.1.1.1), by repeat (first | (with_reducible first | exact HB.out | apply below_alloc | apply pw_below_drewN | apply below_drew1 | refine below_set ?_ GE801.out | refine below_set ?_ GE802.out) | exact HB.out)⟩
end Go.Proofs.YtiikfhdmclmjmaaDoor.P
namespace Go.Proofs.YtiikfhdmclmjmaaDoor.P
open Go.RowKit Go.Proofs.YtiikfhdmclmjmaaDoorW.PrintWords Go.Proofs.YtiikfhdmclmjmaaDoorW.PrintLast
set_option linter.unusedVariables false
set_option linter.unusedSimpArgs false
mutual
def dowellaw01_IntegerAdds.j0 : Nat → ByteArray → ByteArray → Bool → Option (Bool)
  | 0, _, _, _ => none
  | k + 1, x0, x1, x21 => if x21 = true then ((dowellaw01_known.f k).bind fun t806 => (some t806)) else ((dowellaw01_read.f k x0).bind fun bt807 => ((dowellaw01_read.f k x1).bind fun bt813 => ((dowelref01_Sign.f x0).bind fun t819 => (if t819 < 0 then ((dowelref01_Neg.f k x0).bind fun t820 => (dowellaw01_IntegerAdds.j1 k x0 x1 bt807.2.2 bt813.2.2 t820 bt807.1 bt807.2.1 bt813.1 bt813.2.1)) else (dowellaw01_IntegerAdds.j1 k x0 x1 bt807.2.2 bt813.2.2 x0 bt807.1 bt807.2.1 bt813.1 bt813.2.1)))))
def dowellaw01_IntegerAdds.j1 : Nat → ByteArray → ByteArray → Bool → Bool → ByteArray → Bool → List Int → Bool → List Int → Option (Bool)
  | 0, _, _, _, _, _, _, _, _, _ => none
  | k + 1, x0, x1, x6, x8, x9, x813000, x813001, x819000, x819001 => if x6 = true then (if x8 = true then ((integer_Add.f k x813000 x813001 x819000 x819001).bind fun bt821 => ((integer_Int_Text.f k bt821.1 bt821.2).bind fun t825 => ((dowelref01_Add.f k x0 x1).bind fun t826 => (if t825.toList = t826.toList then ((integer_Sub.f k x813000 x813001 x819000 x819001).bind fun bt827 => ((integer_Int_Text.f k bt827.1 bt827.2).bind fun t831 => ((dowelref01_Sub.f k x0 x1).bind fun t832 => (if t831.toList = t832.toList then ((integer_Neg.f x813000 x813001).bind fun bt833 => ((integer_Int_Text.f k bt833.1 bt833.2).bind fun t837 => ((dowelref01_Neg.f k x0).bind fun t838 => (if t837.toList = t838.toList then ((integer_Abs.f x813000 x813001).bind fun bt839 => ((integer_Int_Text.f k bt839.1 bt839.2).bind fun t843 => (if t843.toList = x9.toList then ((integer_Int_Text.f k x813000 x813001).bind fun t844 => (if t844.toList = x0.toList then ((integer_Int_Text.f k x819000 x819001).bind fun t845 => (some (t845.toList == x1.toList))) else (none))) else (none)))) else (none))))) else (none))))) else (none))))) else (none)) else (none)
end
def dowellaw01_IntegerAdds.f (k : Nat) (a0 : ByteArray) (a1 : ByteArray) : Option (Bool) := (dowellaw01_known.f k).bind fun t803 => (if t803 = true then ((dowellaw01_right.f k a0).bind fun t804 => (if t804 = true then ((dowellaw01_right.f k a1).bind fun t805 => (dowellaw01_IntegerAdds.j0 k a0 a1 (!t805))) else (dowellaw01_IntegerAdds.j0 k a0 a1 true))) else (dowellaw01_IntegerAdds.j0 k a0 a1 true))
theorem dowellaw01_IntegerAdds.mono_l : ∀ k, (∀ y0 y1 y2, LeO (dowellaw01_IntegerAdds.j0 k y0 y1 y2) (dowellaw01_IntegerAdds.j0 (k + 1) y0 y1 y2)) ∧ (∀ y0 y1 y2 y3 y4 y5 y6 y7 y8, LeO (dowellaw01_IntegerAdds.j1 k y0 y1 y2 y3 y4 y5 y6 y7 y8) (dowellaw01_IntegerAdds.j1 (k + 1) y0 y1 y2 y3 y4 y5 y6 y7 y8))
  | 0 => ⟨fun _ _ _ r h => by simp [dowellaw01_IntegerAdds.j0] at h, fun _ _ _ _ _ _ _ _ _ r h => by simp [dowellaw01_IntegerAdds.j1] at h⟩
  | k + 1 => by
    obtain ⟨ih0, ih1⟩ := dowellaw01_IntegerAdds.mono_l k
    refine ⟨?_, ?_⟩
    · intro y0 y1 y2
      unfold dowellaw01_IntegerAdds.j0
      repeat' first
      | (with_reducible exact ih0 _ _ _)
      | (with_reducible exact ih1 _ _ _ _ _ _ _ _ _)
      | (with_reducible exact dowellaw01_known.mono _)
      | (with_reducible exact dowellaw01_read.mono _ _)
      | (with_reducible exact dowellaw01_right.mono _ _)
      | (with_reducible exact dowelref01_Add.mono _ _ _)
      | (with_reducible exact dowelref01_Neg.mono _ _)
      | (with_reducible exact dowelref01_Sub.mono _ _ _)
      | (with_reducible exact integer_Add.mono _ _ _ _ _)
      | (with_reducible exact integer_Int_Text.mono _ _ _)
      | (with_reducible exact integer_Sub.mono _ _ _ _ _)
      | (with_reducible exact LeO.refl _)
      | (with_reducible exact LeO.none _)
      | (with_reducible refine LeO.ite ?_ ?_)
      | (with_reducible refine LeO.bind ?_ (fun _ => ?_))
      | exact ih0 _ _ _
      | exact ih1 _ _ _ _ _ _ _ _ _
      | exact dowellaw01_known.mono _
      | exact dowellaw01_read.mono _ _
      | exact dowellaw01_right.mono _ _
      | exact dowelref01_Add.mono _ _ _
      | exact dowelref01_Neg.mono _ _
      | exact dowelref01_Sub.mono _ _ _
      | exact integer_Add.mono _ _ _ _ _
      | exact integer_Int_Text.mono _ _ _
      | exact integer_Sub.mono _ _ _ _ _
      | exact LeO.none _
      | refine LeO.ite ?_ ?_
      | refine LeO.bind ?_ (fun _ => ?_)
    · intro y0 y1 y2 y3 y4 y5 y6 y7 y8
      unfold dowellaw01_IntegerAdds.j1
      repeat' first
      | (with_reducible exact ih0 _ _ _)
      | (with_reducible exact ih1 _ _ _ _ _ _ _ _ _)
      | (with_reducible exact dowellaw01_known.mono _)
      | (with_reducible exact dowellaw01_read.mono _ _)
      | (with_reducible exact dowellaw01_right.mono _ _)
      | (with_reducible exact dowelref01_Add.mono _ _ _)
      | (with_reducible exact dowelref01_Neg.mono _ _)
      | (with_reducible exact dowelref01_Sub.mono _ _ _)
      | (with_reducible exact integer_Add.mono _ _ _ _ _)
      | (with_reducible exact integer_Int_Text.mono _ _ _)
      | (with_reducible exact integer_Sub.mono _ _ _ _ _)
      | (with_reducible exact LeO.refl _)
      | (with_reducible exact LeO.none _)
      | (with_reducible refine LeO.ite ?_ ?_)
      | (with_reducible refine LeO.bind ?_ (fun _ => ?_))
      | exact ih0 _ _ _
      | exact ih1 _ _ _ _ _ _ _ _ _
      | exact dowellaw01_known.mono _
      | exact dowellaw01_read.mono _ _
      | exact dowellaw01_right.mono _ _
      | exact dowelref01_Add.mono _ _ _
      | exact dowelref01_Neg.mono _ _
      | exact dowelref01_Sub.mono _ _ _
      | exact integer_Add.mono _ _ _ _ _
      | exact integer_Int_Text.mono _ _ _
      | exact integer_Sub.mono _ _ _ _ _
      | exact LeO.none _
      | refine LeO.ite ?_ ?_
      | refine LeO.bind ?_ (fun _ => ?_)
theorem dowellaw01_IntegerAdds.mono : ∀ a0 a1 k, LeO (dowellaw01_IntegerAdds.f k a0 a1) (dowellaw01_IntegerAdds.f (k + 1) a0 a1) := by
  intro a0 a1 k
  obtain ⟨ih0, ih1⟩ := dowellaw01_IntegerAdds.mono_l k
  unfold dowellaw01_IntegerAdds.f
  repeat' first
      | (with_reducible exact ih0 _ _ _)
      | (with_reducible exact ih1 _ _ _ _ _ _ _ _ _)
      | (with_reducible exact dowellaw01_known.mono _)
      | (with_reducible exact dowellaw01_read.mono _ _)
      | (with_reducible exact dowellaw01_right.mono _ _)
      | (with_reducible exact dowelref01_Add.mono _ _ _)
      | (with_reducible exact dowelref01_Neg.mono _ _)
      | (with_reducible exact dowelref01_Sub.mono _ _ _)
      | (with_reducible exact integer_Add.mono _ _ _ _ _)
      | (with_reducible exact integer_Int_Text.mono _ _ _)
      | (with_reducible exact integer_Sub.mono _ _ _ _ _)
      | (with_reducible exact LeO.refl _)
      | (with_reducible exact LeO.none _)
      | (with_reducible refine LeO.ite ?_ ?_)
      | (with_reducible refine LeO.bind ?_ (fun _ => ?_))
      | exact ih0 _ _ _
      | exact ih1 _ _ _ _ _ _ _ _ _
      | exact dowellaw01_known.mono _
      | exact dowellaw01_read.mono _ _
      | exact dowellaw01_right.mono _ _
      | exact dowelref01_Add.mono _ _ _
      | exact dowelref01_Neg.mono _ _
      | exact dowelref01_Sub.mono _ _ _
      | exact integer_Add.mono _ _ _ _ _
      | exact integer_Int_Text.mono _ _ _
      | exact integer_Sub.mono _ _ _ _ _
      | exact LeO.none _
      | refine LeO.ite ?_ ?_
      | refine LeO.bind ?_ (fun _ => ?_)
set_option maxHeartbeats 8000000 in
set_option maxRecDepth 100000 in
theorem dowellaw01_IntegerAdds.calls (k : Nat) (a0 : ByteArray) (a1 : ByteArray) (r : Bool) (w : World) (hG : G w) (h : dowellaw01_IntegerAdds.f k a0 a1 = some r) :
    Calls Tryd.prog 9 #[.string a0, .string a1] w fun e w' => e = .returned (.bool r) ∧ Below w.heap.size w w' := by
  have hu25 := Tryd.underlying25
  have HB := Aside0.mk (Below.refl w.heap.size w)
  have HG := Aside0.mk hG
  clear hG
  have H : ((dowellaw01_known.f k).bind fun t803 => (if t803 = true then ((dowellaw01_right.f k a0).bind fun t804 => (if t804 = true then ((dowellaw01_right.f k a1).bind fun t805 => (dowellaw01_IntegerAdds.j0 k a0 a1 (!t805))) else (dowellaw01_IntegerAdds.j0 k a0 a1 true))) else (dowellaw01_IntegerAdds.j0 k a0 a1 true))) = some r := h
  clear h
  have HC3 := Aside0.mk H
  clear H
  go_enter Tryd.func9, Tryd.ntmps9
  go_upto_region 1 with (fail)
  go_cut [21] (fun v21 wc => ∃ (kq : Nat) (x21_2 : Bool), v21 = .bool x21_2 ∧ Aside0 (dowellaw01_IntegerAdds.j0 kq a0 a1 x21_2 = some r) ∧ Aside0 (kq ≤ k) ∧ Aside0 (Below w.heap.size w wc))
  case first =>
    have H := HC3.out
    clear HC3
    replace H := Option.bind_eq_some_iff.mp H
    obtain ⟨t803, A40, H⟩ := H
    replace H : (if t803 = true then ((dowellaw01_right.f k a0).bind fun t804 => (if t804 = true then ((dowellaw01_right.f k a1).bind fun t805 => (dowellaw01_IntegerAdds.j0 k a0 a1 (!t805))) else (dowellaw01_IntegerAdds.j0 k a0 a1 true))) else (dowellaw01_IntegerAdds.j0 k a0 a1 true)) = some r := H
    have A4 := Aside0.mk A40
    clear A40
    by_cases c5 : t803 = true
    · subst c5
      have H1 : ((dowellaw01_right.f k a0).bind fun t804 => (if t804 = true then ((dowellaw01_right.f k a1).bind fun t805 => (dowellaw01_IntegerAdds.j0 k a0 a1 (!t805))) else (dowellaw01_IntegerAdds.j0 k a0 a1 true))) = some r := by rw [if_pos rfl] at H; exact H
      clear H
      have H := H1
      clear H1
      replace H := Option.bind_eq_some_iff.mp H
      obtain ⟨t804, A60, H⟩ := H
      replace H : (if t804 = true then ((dowellaw01_right.f k a1).bind fun t805 => (dowellaw01_IntegerAdds.j0 k a0 a1 (!t805))) else (dowellaw01_IntegerAdds.j0 k a0 a1 true)) = some r := H
      have A6 := Aside0.mk A60
      clear A60
      by_cases c7 : t804 = true
      · subst c7
        have H1 : ((dowellaw01_right.f k a1).bind fun t805 => (dowellaw01_IntegerAdds.j0 k a0 a1 (!t805))) = some r := by rw [if_pos rfl] at H; exact H
        clear H
        have H := H1
        clear H1
        replace H := Option.bind_eq_some_iff.mp H
        obtain ⟨t805, A80, H⟩ := H
        replace H : (dowellaw01_IntegerAdds.j0 k a0 a1 (!t805)) = some r := H
        have A8 := Aside0.mk A80
        clear A80
        have H' := Aside0.mk H
        clear H
        go_wp2_with (first | ((with_reducible refine gate_callee (f := 14) rfl ?_); refine goesL_ (some 10) rfl rfl Tryd.func14 (by kernel_rfl) rfl #[] rfl (by (try simp only [List.map_toArray, List.map_cons, List.map_nil]); first | done | rfl | (simp only [List.length_drop, List.length_take]; rfl)) ?_; (with_reducible refine (dowellaw01_known.calls k  true _ ?side1 A4.out).mono ?_); (case side1 => exact G_below HG.out (by repeat (first | (with_reducible first | exact HB.out | apply below_alloc | apply pw_below_drewN | apply below_drew1) | exact HB.out))); rintro e w9 ⟨rfl, hb⟩; refine ⟨_, rfl, ?_⟩; have n0_ := Aside0.mk (below_step (by repeat (first | (with_reducible first | exact HB.out | apply below_alloc | apply pw_below_drewN | apply below_drew1) | exact HB.out)) hb); clear HB; have HB := n0_; clear n0_; (try clear hb); (try clear hb2); (try clear hk); (try clear hi)) | (go_at_call 23; (with_reducible refine (dowellaw01_right.calls k a0 true _ A6.out).mono ?_); rintro e w' ⟨rfl, ⟨nd, rfl⟩⟩) | (go_at_call 23; (with_reducible refine (dowellaw01_right.calls k a1 t805 _ A8.out).mono ?_); rintro e w' ⟨rfl, ⟨nd, rfl⟩⟩))
        go_meet
        case rel => exact ⟨_, (!t805), (by first | rfl | (simp; done) | (simp [*]; done) | (simp <;> omega)), H', ⟨by first | omega | exact Nat.le_refl _⟩, ⟨by repeat (first | (with_reducible first | exact HB.out | apply below_alloc | apply pw_below_drewN | apply below_drew1) | exact HB.out)⟩⟩
      · replace c7 := Bool.eq_false_iff.mpr c7
        subst c7
        have H1 : (dowellaw01_IntegerAdds.j0 k a0 a1 true) = some r := by rw [if_neg (show ¬ (false = true) by decide)] at H; exact H
        clear H
        have H := H1
        clear H1
        have H' := Aside0.mk H
        clear H
        go_wp2_with (first | ((with_reducible refine gate_callee (f := 14) rfl ?_); refine goesL_ (some 10) rfl rfl Tryd.func14 (by kernel_rfl) rfl #[] rfl (by (try simp only [List.map_toArray, List.map_cons, List.map_nil]); first | done | rfl | (simp only [List.length_drop, List.length_take]; rfl)) ?_; (with_reducible refine (dowellaw01_known.calls k  true _ ?side1 A4.out).mono ?_); (case side1 => exact G_below HG.out (by repeat (first | (with_reducible first | exact HB.out | apply below_alloc | apply pw_below_drewN | apply below_drew1) | exact HB.out))); rintro e w10 ⟨rfl, hb⟩; refine ⟨_, rfl, ?_⟩; have n0_ := Aside0.mk (below_step (by repeat (first | (with_reducible first | exact HB.out | apply below_alloc | apply pw_below_drewN | apply below_drew1) | exact HB.out)) hb); clear HB; have HB := n0_; clear n0_; (try clear hb); (try clear hb2); (try clear hk); (try clear hi)) | (go_at_call 23; (with_reducible refine (dowellaw01_right.calls k a0 false _ A6.out).mono ?_); rintro e w' ⟨rfl, ⟨nd, rfl⟩⟩))
        go_meet
        case rel => exact ⟨_, (true), (by first | rfl | (simp; done) | (simp [*]; done) | (simp <;> omega)), H', ⟨by first | omega | exact Nat.le_refl _⟩, ⟨by repeat (first | (with_reducible first | exact HB.out | apply below_alloc | apply pw_below_drewN | apply below_drew1) | exact HB.out)⟩⟩
    · replace c5 := Bool.eq_false_iff.mpr c5
      subst c5
      have H1 : (dowellaw01_IntegerAdds.j0 k a0 a1 true) = some r := by rw [if_neg (show ¬ (false = true) by decide)] at H; exact H
      clear H
      have H := H1
      clear H1
      have H' := Aside0.mk H
      clear H
      go_wp2_with (first | ((with_reducible refine gate_callee (f := 14) rfl ?_); refine goesL_ (some 10) rfl rfl Tryd.func14 (by kernel_rfl) rfl #[] rfl (by (try simp only [List.map_toArray, List.map_cons, List.map_nil]); first | done | rfl | (simp only [List.length_drop, List.length_take]; rfl)) ?_; (with_reducible refine (dowellaw01_known.calls k  false _ ?side1 A4.out).mono ?_); (case side1 => exact G_below HG.out (by repeat (first | (with_reducible first | exact HB.out | apply below_alloc | apply pw_below_drewN | apply below_drew1) | exact HB.out))); rintro e w11 ⟨rfl, hb⟩; refine ⟨_, rfl, ?_⟩; have n0_ := Aside0.mk (below_step (by repeat (first | (with_reducible first | exact HB.out | apply below_alloc | apply pw_below_drewN | apply below_drew1) | exact HB.out)) hb); clear HB; have HB := n0_; clear n0_; (try clear hb); (try clear hb2); (try clear hk); (try clear hi)))
      go_meet
      case rel => exact ⟨_, (true), (by first | rfl | (simp; done) | (simp [*]; done) | (simp <;> omega)), H', ⟨by first | omega | exact Nat.le_refl _⟩, ⟨by repeat (first | (with_reducible first | exact HB.out | apply below_alloc | apply pw_below_drewN | apply below_drew1) | exact HB.out)⟩⟩
  case rest =>
    clear HC3
    try clear c1
    try clear p2
    try clear c5
    try clear c7
    try clear c9
    obtain ⟨kq, x21_2, rfl, HA, HJ2, HB⟩ := hcut
    cases kq with
    | zero => exact absurd HA.out (by simp [dowellaw01_IntegerAdds.j0])
    | succ kj2 =>
      have H := HA.out
      clear HA
      simp only [dowellaw01_IntegerAdds.j0] at H
      by_cases c12 : x21_2 = true
      · subst c12
        have H1 : ((dowellaw01_known.f kj2).bind fun t806 => (some t806)) = some r := by rw [if_pos rfl] at H; exact H
        clear H
        have H := H1
        clear H1
        replace H := Option.bind_eq_some_iff.mp H
        obtain ⟨t806, A130, H⟩ := H
        replace H : (some t806) = some r := H
        have A13 := Aside0.mk A130
        clear A130
        obtain rfl := Option.some.inj H
        go_wp2_with (first | ((with_reducible refine gate_callee (f := 14) rfl ?_); refine goesL_ (some 22) rfl rfl Tryd.func14 (by kernel_rfl) rfl #[] rfl (by (try simp only [List.map_toArray, List.map_cons, List.map_nil]); first | done | rfl | (simp only [List.length_drop, List.length_take]; rfl)) ?_; (with_reducible refine (dowellaw01_known.calls kj2  t806 _ ?side1 A13.out).mono ?_); (case side1 => exact G_below HG.out (by repeat (first | (with_reducible first | exact HB.out | apply below_alloc | apply pw_below_drewN | apply below_drew1) | exact HB.out))); rintro e w14 ⟨rfl, hb⟩; refine ⟨_, rfl, ?_⟩; have n0_ := Aside0.mk (below_step (by repeat (first | (with_reducible first | exact HB.out | apply below_alloc | apply pw_below_drewN | apply below_drew1) | exact HB.out)) hb); clear HB; have HB := n0_; clear n0_; (try clear hb); (try clear hb2); (try clear hk); (try clear hi)))
        go_ret
        exact ⟨by first | rfl | (simp [errW_none, errW_some] <;> rfl) | (simp [*, errW_none, errW_some] <;> rfl), by repeat (first | (with_reducible first | exact HB.out | apply below_alloc | apply pw_below_drewN | apply below_drew1) | exact HB.out)⟩
      · replace c12 := Bool.eq_false_iff.mpr c12
        subst c12
        have H1 : ((dowellaw01_read.f kj2 a0).bind fun bt807 => ((dowellaw01_read.f kj2 a1).bind fun bt813 => ((dowelref01_Sign.f a0).bind fun t819 => (if t819 < 0 then ((dowelref01_Neg.f kj2 a0).bind fun t820 => (dowellaw01_IntegerAdds.j1 kj2 a0 a1 bt807.2.2 bt813.2.2 t820 bt807.1 bt807.2.1 bt813.1 bt813.2.1)) else (dowellaw01_IntegerAdds.j1 kj2 a0 a1 bt807.2.2 bt813.2.2 a0 bt807.1 bt807.2.1 bt813.1 bt813.2.1))))) = some r := by rw [if_neg (show ¬ (false = true) by decide)] at H; exact H
        clear H
        have H := H1
        clear H1
        replace H := Option.bind_eq_some_iff.mp H
        obtain ⟨⟨t807, t808, t811⟩, A150, H⟩ := H
        replace H : ((dowellaw01_read.f kj2 a1).bind fun bt813 => ((dowelref01_Sign.f a0).bind fun t819 => (if t819 < 0 then ((dowelref01_Neg.f kj2 a0).bind fun t820 => (dowellaw01_IntegerAdds.j1 kj2 a0 a1 t811 bt813.2.2 t820 t807 t808 bt813.1 bt813.2.1)) else (dowellaw01_IntegerAdds.j1 kj2 a0 a1 t811 bt813.2.2 a0 t807 t808 bt813.1 bt813.2.1)))) = some r := H
        have A15 := Aside0.mk A150
        clear A150
        replace H := Option.bind_eq_some_iff.mp H
        obtain ⟨⟨t813, t814, t817⟩, A160, H⟩ := H
        replace H : ((dowelref01_Sign.f a0).bind fun t819 => (if t819 < 0 then ((dowelref01_Neg.f kj2 a0).bind fun t820 => (dowellaw01_IntegerAdds.j1 kj2 a0 a1 t811 t817 t820 t807 t808 t813 t814)) else (dowellaw01_IntegerAdds.j1 kj2 a0 a1 t811 t817 a0 t807 t808 t813 t814))) = some r := H
        have A16 := Aside0.mk A160
        clear A160
        replace H := Option.bind_eq_some_iff.mp H
        obtain ⟨t819, A170, H⟩ := H
        replace H : (if t819 < 0 then ((dowelref01_Neg.f kj2 a0).bind fun t820 => (dowellaw01_IntegerAdds.j1 kj2 a0 a1 t811 t817 t820 t807 t808 t813 t814)) else (dowellaw01_IntegerAdds.j1 kj2 a0 a1 t811 t817 a0 t807 t808 t813 t814)) = some r := H
        have A17 := Aside0.mk A170
        clear A170
        have HC18 := Aside0.mk H
        clear H
        go_upto_if 36 with (first | ((with_reducible refine gate_callee (f := 24) rfl ?_); refine goesL_ (some 25) rfl rfl Tryd.func24 (by kernel_rfl) rfl #[.string a0] rfl (by (try simp only [List.map_toArray, List.map_cons, List.map_nil]); first | done | rfl | (simp only [List.length_drop, List.length_take]; rfl)) ?_; (with_reducible refine (dowellaw01_read.calls kj2 a0 t807 t808 t811 _ A15.out).mono ?_); rintro e w19 ⟨v809, rfl, ho0, hb⟩; refine ⟨_, rfl, ?_⟩; have n0_ := Aside0.mk (Kd.V_lower (Kd.V_mono (ok' := fun k_ => True) ho0 (fun k_ hk_ => trivial)) (below_size (by repeat (first | (with_reducible first | exact HB.out | apply below_alloc | apply pw_below_drewN | apply below_drew1) | exact HB.out)))); have n1_ := Aside0.mk (below_step (by repeat (first | (with_reducible first | exact HB.out | apply below_alloc | apply pw_below_drewN | apply below_drew1) | exact HB.out)) hb); clear HB; have HO810 := n0_; have HB := n1_; clear n0_ n1_; (try clear hb); (try clear hb2); (try clear hk); (try clear hi); (try clear ho0)) | ((with_reducible refine gate_dst (N := 5) rfl ?_); refine box_event ?hg (N := 5) ?hd (cs := #[.bool false, .slice none 0 0]) (t := 25) ?hr ?_; (case hd => rfl); (case hg => rfl); (case hr => first | (go_simp; done) | (go_simp; rfl)); intro gb812 hg w20 hbox hb; have n0_ := Aside0.mk (Kd.V_below (Kd.V_elderB (by (with_reducible repeat (first | apply Kd.V_alloc | apply Kd.V_drewN | apply Kd.V_drew)); exact HO810.out) gb812 (Nat.le_of_eq hg.symm)) hb); have n1_ := Aside0.mk (below_step (by repeat (first | (with_reducible first | exact HB.out | apply below_alloc | apply pw_below_drewN | apply below_drew1) | exact HB.out)) hb); have n2_ := Aside0.mk (hbox); have n3_ := Aside0.mk ((by rw [hg]; exact (below_size (by repeat (first | (with_reducible first | exact HB.out | apply below_alloc | apply pw_below_drewN | apply below_drew1) | exact HB.out))) : w.heap.size ≤ gb812)); have n4_ := Aside0.mk ((by rw [hg]; exact (below_size (by repeat (first | (with_reducible first | exact HB.out | apply below_alloc | apply pw_below_drewN | apply below_drew1) | exact HB.out))) : w.heap.size ≤ gb812)); clear HO810; clear HB; have HO810 := n0_; have HB := n1_; have BK812 := n2_; have GW812 := n3_; have GE812 := n4_; clear n0_ n1_ n2_ n3_ n4_; clear hb hbox hg; have hcz21_0 : w20.cell? ⟨gb812, 0, none⟩ = some (.bool false) := (blk_cell BK812.out 0).trans rfl; have hcz21_1 : w20.cell? ⟨gb812, 1, none⟩ = some (.slice none 0 0) := (blk_cell BK812.out 1).trans rfl; have hfz21_0 := blk_frozen BK812.out 0; have hfz21_1 := blk_frozen BK812.out 1; obtain ⟨Ao22, co22, eo22⟩ := Kd.V_slice HO810.out; subst eo22) | ((with_reducible refine gate_callee (f := 24) rfl ?_); refine goesL_ (some 30) rfl rfl Tryd.func24 (by kernel_rfl) rfl #[.string a1] rfl (by (try simp only [List.map_toArray, List.map_cons, List.map_nil]); first | done | rfl | (simp only [List.length_drop, List.length_take]; rfl)) ?_; (with_reducible refine (dowellaw01_read.calls kj2 a1 t813 t814 t817 _ A16.out).mono ?_); rintro e w23 ⟨v815, rfl, ho0, hb⟩; refine ⟨_, rfl, ?_⟩; have n0_ := Aside0.mk (Kd.V_below (by (with_reducible repeat (first | apply Kd.V_alloc | apply Kd.V_drewN | apply Kd.V_drew)); exact (Kd.V_mono (Kd.V_far (p := ⟨gb812, 1, none⟩) (Kd.V_far (p := ⟨gb812, 0, none⟩) (Kd.V_mono HO810.out (fun k_ hk => (⟨hk, hk.2⟩ : _ ∧ k_ ≠ gb812))) (fun _ hk => hk.2) (.bool t807)) (fun _ hk => hk.2) (.slice Ao22 t808.length co22)) (fun _ h_ => h_.1))) hb); have n1_ := Aside0.mk (Kd.V_lower (Kd.V_mono (ok' := fun k_ => k_ ≠ gb812) ho0 (fun k_ hk_ => (Kd.freshB (g := gb812) (o := .cells #[.bool t807, .slice Ao22 t808.length co22] 25 (0, 0)) (by (with_reducible repeat (first | refine blk_drewN ?_ _ | refine blk_drew ?_ | refine blk_alloc ?_ _)); refine blk_put (cs := #[.bool t807, .slice none 0 0]) ?_ 1 _ rfl; (with_reducible repeat (first | refine blk_drewN ?_ _ | refine blk_drew ?_ | refine blk_alloc ?_ _)); refine blk_put (cs := #[.bool false, .slice none 0 0]) ?_ 0 _ rfl; (with_reducible repeat (first | refine blk_drewN ?_ _ | refine blk_drew ?_ | refine blk_alloc ?_ _)); exact BK812.out) k_ hk_))) (below_size (by repeat (first | (with_reducible first | exact HB.out | apply below_alloc | apply pw_below_drewN | apply below_drew1 | refine below_set ?_ GE812.out) | exact HB.out)))); have n2_ := Aside0.mk (blk_below (g := gb812) (o := .cells #[.bool t807, .slice Ao22 t808.length co22] 25 (0, 0)) (by (with_reducible repeat (first | refine blk_drewN ?_ _ | refine blk_drew ?_ | refine blk_alloc ?_ _)); refine blk_put (cs := #[.bool t807, .slice none 0 0]) ?_ 1 _ rfl; (with_reducible repeat (first | refine blk_drewN ?_ _ | refine blk_drew ?_ | refine blk_alloc ?_ _)); refine blk_put (cs := #[.bool false, .slice none 0 0]) ?_ 0 _ rfl; (with_reducible repeat (first | refine blk_drewN ?_ _ | refine blk_drew ?_ | refine blk_alloc ?_ _)); exact BK812.out) hb); have n3_ := Aside0.mk (below_step (by repeat (first | (with_reducible first | exact HB.out | apply below_alloc | apply pw_below_drewN | apply below_drew1 | refine below_set ?_ GE812.out) | exact HB.out)) hb); clear HO810; clear BK812; clear HB; have HO810 := n0_; have HO816 := n1_; have BK812 := n2_; have HB := n3_; clear n0_ n1_ n2_ n3_; (try clear hb); (try clear hb2); (try clear hk); (try clear hi); (try clear ho0)) | ((with_reducible refine gate_dst (N := 7) rfl ?_); refine box_event ?hg (N := 7) ?hd (cs := #[.bool false, .slice none 0 0]) (t := 25) ?hr ?_; (case hd => rfl); (case hg => rfl); (case hr => first | (go_simp; done) | (go_simp; rfl)); intro gb818 hg w24 hbox hb; have n0_ := Aside0.mk (Kd.V_below (Kd.V_elderB (by (with_reducible repeat (first | apply Kd.V_alloc | apply Kd.V_drewN | apply Kd.V_drew)); exact HO810.out) gb818 (Nat.le_of_eq hg.symm)) hb); have n1_ := Aside0.mk (Kd.V_below (Kd.V_elderB (by (with_reducible repeat (first | apply Kd.V_alloc | apply Kd.V_drewN | apply Kd.V_drew)); exact HO816.out) gb818 (Nat.le_of_eq hg.symm)) hb); have n2_ := Aside0.mk (blk_below (g := gb812) (o := .cells #[.bool t807, .slice Ao22 t808.length co22] 25 (0, 0)) (by (with_reducible repeat (first | refine blk_drewN ?_ _ | refine blk_drew ?_ | refine blk_alloc ?_ _)); exact BK812.out) hb); have n3_ := Aside0.mk (below_step (by repeat (first | (with_reducible first | exact HB.out | apply below_alloc | apply pw_below_drewN | apply below_drew1 | refine below_set ?_ GE812.out) | exact HB.out)) hb); have n4_ := Aside0.mk (hbox); have n5_ := Aside0.mk ((by rw [hg]; exact (below_size (by repeat (first | (with_reducible first | exact HB.out | apply below_alloc | apply pw_below_drewN | apply below_drew1 | refine below_set ?_ GE812.out) | exact HB.out))) : w.heap.size ≤ gb818)); have n6_ := Aside0.mk ((by rw [hg]; exact (below_size (by repeat (first | (with_reducible first | exact HB.out | apply below_alloc | apply pw_below_drewN | apply below_drew1 | refine below_set ?_ GE812.out) | exact HB.out))) : w.heap.size ≤ gb818)); have n7_ := Aside0.mk ((by rw [hg]; exact Nat.ne_of_lt (blk_lt (g := gb812) (o := .cells #[.bool t807, .slice Ao22 t808.length co22] 25 (0, 0)) (by (with_reducible repeat (first | refine blk_drewN ?_ _ | refine blk_drew ?_ | refine blk_alloc ?_ _)); exact BK812.out)) : gb812 ≠ gb818)); have n8_ := Aside0.mk ((by rw [hg]; exact Nat.ne_of_gt (blk_lt (g := gb812) (o := .cells #[.bool t807, .slice Ao22 t808.length co22] 25 (0, 0)) (by (with_reducible repeat (first | refine blk_drewN ?_ _ | refine blk_drew ?_ | refine blk_alloc ?_ _)); exact BK812.out)) : gb818 ≠ gb812)); clear HO810; clear HO816; clear BK812; clear HB; have HO810 := n0_; have HO816 := n1_; have BK812 := n2_; have HB := n3_; have BK818 := n4_; have GW818 := n5_; have GE818 := n6_; have NB812_818 := n7_; have NB818_812 := n8_; clear n0_ n1_ n2_ n3_ n4_ n5_ n6_ n7_ n8_; clear hb hbox hg; have hnb25 := NB818_812.out; have hnc25 := NB812_818.out; have hcz26_0 : w24.cell? ⟨gb818, 0, none⟩ = some (.bool false) := (blk_cell BK818.out 0).trans rfl; have hcz26_1 : w24.cell? ⟨gb818, 1, none⟩ = some (.slice none 0 0) := (blk_cell BK818.out 1).trans rfl; have hfz26_0 := blk_frozen BK818.out 0; have hfz26_1 := blk_frozen BK818.out 1; obtain ⟨Ao27, co27, eo27⟩ := Kd.V_slice HO816.out; subst eo27) | ((with_reducible refine gate_callee (f := 33) rfl ?_); refine goesL_ (some 35) rfl rfl Tryd.func33 (by kernel_rfl) rfl #[.string a0] rfl (by (try simp only [List.map_toArray, List.map_cons, List.map_nil]); first | done | rfl | (simp only [List.length_drop, List.length_take]; rfl)) ?_; (with_reducible refine (dowelref01_Sign.calls a0 t819 _ A17.out).mono ?_); rintro e w' ⟨rfl, ⟨nd, rfl⟩⟩; refine ⟨_, rfl, ?_⟩))
        (try simp only [Act.put, List.setIfInBounds_toArray, List.set_cons_zero, List.set_cons_succ])
        go_cut [9] (fun v9 wc => ∃ (kq : Nat) (x9_17 : ByteArray), v9 = .string x9_17 ∧ Aside0 (dowellaw01_IntegerAdds.j1 kq a0 a1 t811 t817 x9_17 t807 t808 t813 t814 = some r) ∧ Aside0 (kq ≤ kj2) ∧ Aside0 (Kd.V (Kd.int .u32) 60 wc w.heap.size (fun k_ => k_ ≠ gb812 ∧ k_ ≠ gb818) (.slice Ao22 t808.length co22) t808) ∧ Aside0 (Kd.V (Kd.int .u32) 60 wc w.heap.size (fun k_ => k_ ≠ gb812 ∧ k_ ≠ gb818) (.slice Ao27 t814.length co27) t814) ∧ Aside0 (wc.heap[gb812]? = some (.cells #[.bool t807, (.slice Ao22 t808.length co22)] 25 (0, 0))) ∧ Aside0 (wc.heap[gb818]? = some (.cells #[.bool t813, (.slice Ao27 t814.length co27)] 25 (0, 0))) ∧ Aside0 (Below w.heap.size w wc))
        case first =>
          have H := HC18.out
          clear HC18
          by_cases c28 : t819 < 0
          · rw [if_pos c28] at H
            have c28b0 : decide (t819 < 0) = true := decide_eq_true c28
            clear c28
            (first | rw [c28b0] | (simp only [i64_w, i32_w]; rw [c28b0]) | skip)
            replace H := Option.bind_eq_some_iff.mp H
            obtain ⟨t820, A290, H⟩ := H
            replace H : (dowellaw01_IntegerAdds.j1 kj2 a0 a1 t811 t817 t820 t807 t808 t813 t814) = some r := H
            have A29 := Aside0.mk A290
            clear A290
            have H' := Aside0.mk H
            clear H
            go_wp2_with (first | ((with_reducible refine gate_callee (f := 34) rfl ?_); refine goesL_ (some 38) rfl rfl Tryd.func34 (by kernel_rfl) rfl #[.string a0] rfl (by (try simp only [List.map_toArray, List.map_cons, List.map_nil]); first | done | rfl | (simp only [List.length_drop, List.length_take]; rfl)) ?_; (with_reducible refine (dowelref01_Neg.calls kj2 a0 t820 _ A29.out).mono ?_); rintro e w30 ⟨rfl, hb⟩; refine ⟨_, rfl, ?_⟩; have n0_ := Aside0.mk (Kd.V_below (by (with_reducible repeat (first | apply Kd.V_alloc | apply Kd.V_drewN | apply Kd.V_drew)); exact (Kd.V_mono (Kd.V_far (p := ⟨gb818, 1, none⟩) (Kd.V_far (p := ⟨gb818, 0, none⟩) (Kd.V_mono HO810.out (fun k_ hk => (⟨hk, hk.2⟩ : _ ∧ k_ ≠ gb818))) (fun _ hk => hk.2) (.bool t813)) (fun _ hk => hk.2) (.slice Ao27 t814.length co27)) (fun _ h_ => h_.1))) hb); have n1_ := Aside0.mk (Kd.V_below (by (with_reducible repeat (first | apply Kd.V_alloc | apply Kd.V_drewN | apply Kd.V_drew)); exact (Kd.V_mono (Kd.V_far (p := ⟨gb818, 1, none⟩) (Kd.V_far (p := ⟨gb818, 0, none⟩) (Kd.V_mono HO816.out (fun k_ hk => (⟨hk, hk.2⟩ : _ ∧ k_ ≠ gb818))) (fun _ hk => hk.2) (.bool t813)) (fun _ hk => hk.2) (.slice Ao27 t814.length co27)) (fun _ h_ => h_.1))) hb); have n2_ := Aside0.mk (blk_below (g := gb812) (o := .cells #[.bool t807, .slice Ao22 t808.length co22] 25 (0, 0)) (by (with_reducible repeat (first | refine blk_drewN ?_ _ | refine blk_drew ?_ | refine blk_alloc ?_ _)); refine blk_far ?_ NB812_818.out _; (with_reducible repeat (first | refine blk_drewN ?_ _ | refine blk_drew ?_ | refine blk_alloc ?_ _)); refine blk_far ?_ NB812_818.out _; (with_reducible repeat (first | refine blk_drewN ?_ _ | refine blk_drew ?_ | refine blk_alloc ?_ _)); exact BK812.out) hb); have n3_ := Aside0.mk (blk_below (g := gb818) (o := .cells #[.bool t813, .slice Ao27 t814.length co27] 25 (0, 0)) (by (with_reducible repeat (first | refine blk_drewN ?_ _ | refine blk_drew ?_ | refine blk_alloc ?_ _)); refine blk_put (cs := #[.bool t813, .slice none 0 0]) ?_ 1 _ rfl; (with_reducible repeat (first | refine blk_drewN ?_ _ | refine blk_drew ?_ | refine blk_alloc ?_ _)); refine blk_put (cs := #[.bool false, .slice none 0 0]) ?_ 0 _ rfl; (with_reducible repeat (first | refine blk_drewN ?_ _ | refine blk_drew ?_ | refine blk_alloc ?_ _)); exact BK818.out) hb); have n4_ := Aside0.mk (below_step (by repeat (first | (with_reducible first | exact HB.out | apply below_alloc | apply pw_below_drewN | apply below_drew1 | refine below_set ?_ GE812.out | refine below_set ?_ GE818.out) | exact HB.out)) hb); clear HO810; clear HO816; clear BK812; clear BK818; clear HB; have HO810 := n0_; have HO816 := n1_; have BK812 := n2_; have BK818 := n3_; have HB := n4_; clear n0_ n1_ n2_ n3_ n4_; (try clear hb); (try clear hb2); (try clear hk); (try clear hi)))
            go_meet
            case rel => exact ⟨_, (t820), (by first | rfl | (simp; done) | (simp [*]; done) | (simp <;> omega)), H', ⟨by have := HJ2.out; first | omega | exact Nat.le_refl _⟩, ⟨by (with_reducible repeat (first | apply Kd.V_alloc | apply Kd.V_drewN | apply Kd.V_drew)); exact Kd.V_mono HO810.out (fun _ hk => ⟨hk.1.2, hk.2⟩)⟩, ⟨by (with_reducible repeat (first | apply Kd.V_alloc | apply Kd.V_drewN | apply Kd.V_drew)); exact HO816.out⟩, ⟨by (with_reducible repeat (first | refine blk_drewN ?_ _ | refine blk_drew ?_ | refine blk_alloc ?_ _)); exact BK812.out⟩, ⟨by (with_reducible repeat (first | refine blk_drewN ?_ _ | refine blk_drew ?_ | refine blk_alloc ?_ _)); exact BK818.out⟩, ⟨by repeat (first | (with_reducible first | exact HB.out | apply below_alloc | apply pw_below_drewN | apply below_drew1 | refine below_set ?_ GE812.out | refine below_set ?_ GE818.out) | exact HB.out)⟩⟩
          · rw [if_neg c28] at H
            have c28b0 : decide (t819 < 0) = false := decide_eq_false c28
            clear c28
            (first | rw [c28b0] | (simp only [i64_w, i32_w]; rw [c28b0]) | skip)
            have H' := Aside0.mk H
            clear H
            go_wp2
            go_meet
            case rel => exact ⟨_, (a0), (by first | rfl | (simp; done) | (simp [*]; done) | (simp <;> omega)), H', ⟨by have := HJ2.out; first | omega | exact Nat.le_refl _⟩, ⟨by (with_reducible repeat (first | apply Kd.V_alloc | apply Kd.V_drewN | apply Kd.V_drew)); exact Kd.V_mono (Kd.V_far (p := ⟨gb818, 1, none⟩) (Kd.V_far (p := ⟨gb818, 0, none⟩) (Kd.V_mono HO810.out (fun k_ hk => (⟨hk, hk.2⟩ : _ ∧ k_ ≠ gb818))) (fun _ hk => hk.2) (.bool t813)) (fun _ hk => hk.2) (.slice Ao27 t814.length co27)) (fun _ hk => ⟨hk.1.1.2, hk.1.2⟩)⟩, ⟨by (with_reducible repeat (first | apply Kd.V_alloc | apply Kd.V_drewN | apply Kd.V_drew)); exact Kd.V_mono (Kd.V_far (p := ⟨gb818, 1, none⟩) (Kd.V_far (p := ⟨gb818, 0, none⟩) (Kd.V_mono HO816.out (fun k_ hk => (⟨hk, hk.2⟩ : _ ∧ k_ ≠ gb818))) (fun _ hk => hk.2) (.bool t813)) (fun _ hk => hk.2) (.slice Ao27 t814.length co27)) (fun _ hk => ⟨hk.1.1, hk.1.2⟩)⟩, ⟨by (with_reducible repeat (first | refine blk_drewN ?_ _ | refine blk_drew ?_ | refine blk_alloc ?_ _)); refine blk_far ?_ NB812_818.out _; (with_reducible repeat (first | refine blk_drewN ?_ _ | refine blk_drew ?_ | refine blk_alloc ?_ _)); refine blk_far ?_ NB812_818.out _; (with_reducible repeat (first | refine blk_drewN ?_ _ | refine blk_drew ?_ | refine blk_alloc ?_ _)); exact BK812.out⟩, ⟨by (with_reducible repeat (first | refine blk_drewN ?_ _ | refine blk_drew ?_ | refine blk_alloc ?_ _)); refine blk_put (cs := #[.bool t813, .slice none 0 0]) ?_ 1 _ rfl; (with_reducible repeat (first | refine blk_drewN ?_ _ | refine blk_drew ?_ | refine blk_alloc ?_ _)); refine blk_put (cs := #[.bool false, .slice none 0 0]) ?_ 0 _ rfl; (with_reducible repeat (first | refine blk_drewN ?_ _ | refine blk_drew ?_ | refine blk_alloc ?_ _)); exact BK818.out⟩, ⟨by repeat (first | (with_reducible first | exact HB.out | apply below_alloc | apply pw_below_drewN | apply below_drew1 | refine below_set ?_ GE812.out | refine below_set ?_ GE818.out) | exact HB.out)⟩⟩
        case rest =>
          clear HC18
          try clear c1
          try clear c2
          try clear p2
          try clear c3
          try clear c5
          try clear c7
          try clear c9
          try clear c12
          try clear c14
          try clear c24
          try clear c25
          try clear c28
          try clear c28b0
          try clear hcz21_0
          try clear hcz21_1
          try clear hcz26_0
          try clear hcz26_1
          try clear hfz21_0
          try clear hfz21_1
          try clear hfz26_0
          try clear hfz26_1
          try clear p2
          obtain ⟨kq, x9_17, rfl, HA, HJ17, HO_813001, HO_819001, BK812, BK818, HB⟩ := hcut
          cases kq with
          | zero => exact absurd HA.out (by simp [dowellaw01_IntegerAdds.j1])
          | succ kj17 =>
            have H := HA.out
            clear HA
            simp only [dowellaw01_IntegerAdds.j1] at H
            by_cases c31 : t811 = true
            · subst c31
              have H1 : (if t817 = true then ((integer_Add.f kj17 t807 t808 t813 t814).bind fun bt821 => ((integer_Int_Text.f kj17 bt821.1 bt821.2).bind fun t825 => ((dowelref01_Add.f kj17 a0 a1).bind fun t826 => (if t825.toList = t826.toList then ((integer_Sub.f kj17 t807 t808 t813 t814).bind fun bt827 => ((integer_Int_Text.f kj17 bt827.1 bt827.2).bind fun t831 => ((dowelref01_Sub.f kj17 a0 a1).bind fun t832 => (if t831.toList = t832.toList then ((integer_Neg.f t807 t808).bind fun bt833 => ((integer_Int_Text.f kj17 bt833.1 bt833.2).bind fun t837 => ((dowelref01_Neg.f kj17 a0).bind fun t838 => (if t837.toList = t838.toList then ((integer_Abs.f t807 t808).bind fun bt839 => ((integer_Int_Text.f kj17 bt839.1 bt839.2).bind fun t843 => (if t843.toList = x9_17.toList then ((integer_Int_Text.f kj17 t807 t808).bind fun t844 => (if t844.toList = a0.toList then ((integer_Int_Text.f kj17 t813 t814).bind fun t845 => (some (t845.toList == a1.toList))) else (none))) else (none)))) else (none))))) else (none))))) else (none))))) else (none)) = some r := by rw [if_pos rfl] at H; exact H
              clear H
              have H := H1
              clear H1
              by_cases c32 : t817 = true
              · subst c32
                have H1 : ((integer_Add.f kj17 t807 t808 t813 t814).bind fun bt821 => ((integer_Int_Text.f kj17 bt821.1 bt821.2).bind fun t825 => ((dowelref01_Add.f kj17 a0 a1).bind fun t826 => (if t825.toList = t826.toList then ((integer_Sub.f kj17 t807 t808 t813 t814).bind fun bt827 => ((integer_Int_Text.f kj17 bt827.1 bt827.2).bind fun t831 => ((dowelref01_Sub.f kj17 a0 a1).bind fun t832 => (if t831.toList = t832.toList then ((integer_Neg.f t807 t808).bind fun bt833 => ((integer_Int_Text.f kj17 bt833.1 bt833.2).bind fun t837 => ((dowelref01_Neg.f kj17 a0).bind fun t838 => (if t837.toList = t838.toList then ((integer_Abs.f t807 t808).bind fun bt839 => ((integer_Int_Text.f kj17 bt839.1 bt839.2).bind fun t843 => (if t843.toList = x9_17.toList then ((integer_Int_Text.f kj17 t807 t808).bind fun t844 => (if t844.toList = a0.toList then ((integer_Int_Text.f kj17 t813 t814).bind fun t845 => (some (t845.toList == a1.toList))) else (none))) else (none)))) else (none))))) else (none))))) else (none))))) = some r := by rw [if_pos rfl] at H; exact H
                clear H
                have H := H1
                clear H1
                replace H := Option.bind_eq_some_iff.mp H
                obtain ⟨⟨t821, t822⟩, A330, H⟩ := H
                replace H : ((integer_Int_Text.f kj17 t821 t822).bind fun t825 => ((dowelref01_Add.f kj17 a0 a1).bind fun t826 => (if t825.toList = t826.toList then ((integer_Sub.f kj17 t807 t808 t813 t814).bind fun bt827 => ((integer_Int_Text.f kj17 bt827.1 bt827.2).bind fun t831 => ((dowelref01_Sub.f kj17 a0 a1).bind fun t832 => (if t831.toList = t832.toList then ((integer_Neg.f t807 t808).bind fun bt833 => ((integer_Int_Text.f kj17 bt833.1 bt833.2).bind fun t837 => ((dowelref01_Neg.f kj17 a0).bind fun t838 => (if t837.toList = t838.toList then ((integer_Abs.f t807 t808).bind fun bt839 => ((integer_Int_Text.f kj17 bt839.1 bt839.2).bind fun t843 => (if t843.toList = x9_17.toList then ((integer_Int_Text.f kj17 t807 t808).bind fun t844 => (if t844.toList = a0.toList then ((integer_Int_Text.f kj17 t813 t814).bind fun t845 => (some (t845.toList == a1.toList))) else (none))) else (none)))) else (none))))) else (none))))) else (none)))) = some r := H
                have A33 := Aside0.mk A330
                clear A330
                replace H := Option.bind_eq_some_iff.mp H
                obtain ⟨t825, A340, H⟩ := H
                replace H : ((dowelref01_Add.f kj17 a0 a1).bind fun t826 => (if t825.toList = t826.toList then ((integer_Sub.f kj17 t807 t808 t813 t814).bind fun bt827 => ((integer_Int_Text.f kj17 bt827.1 bt827.2).bind fun t831 => ((dowelref01_Sub.f kj17 a0 a1).bind fun t832 => (if t831.toList = t832.toList then ((integer_Neg.f t807 t808).bind fun bt833 => ((integer_Int_Text.f kj17 bt833.1 bt833.2).bind fun t837 => ((dowelref01_Neg.f kj17 a0).bind fun t838 => (if t837.toList = t838.toList then ((integer_Abs.f t807 t808).bind fun bt839 => ((integer_Int_Text.f kj17 bt839.1 bt839.2).bind fun t843 => (if t843.toList = x9_17.toList then ((integer_Int_Text.f kj17 t807 t808).bind fun t844 => (if t844.toList = a0.toList then ((integer_Int_Text.f kj17 t813 t814).bind fun t845 => (some (t845.toList == a1.toList))) else (none))) else (none)))) else (none))))) else (none))))) else (none))) = some r := H
                have A34 := Aside0.mk A340
                clear A340
                replace H := Option.bind_eq_some_iff.mp H
                obtain ⟨t826, A350, H⟩ := H
                replace H : (if t825.toList = t826.toList then ((integer_Sub.f kj17 t807 t808 t813 t814).bind fun bt827 => ((integer_Int_Text.f kj17 bt827.1 bt827.2).bind fun t831 => ((dowelref01_Sub.f kj17 a0 a1).bind fun t832 => (if t831.toList = t832.toList then ((integer_Neg.f t807 t808).bind fun bt833 => ((integer_Int_Text.f kj17 bt833.1 bt833.2).bind fun t837 => ((dowelref01_Neg.f kj17 a0).bind fun t838 => (if t837.toList = t838.toList then ((integer_Abs.f t807 t808).bind fun bt839 => ((integer_Int_Text.f kj17 bt839.1 bt839.2).bind fun t843 => (if t843.toList = x9_17.toList then ((integer_Int_Text.f kj17 t807 t808).bind fun t844 => (if t844.toList = a0.toList then ((integer_Int_Text.f kj17 t813 t814).bind fun t845 => (some (t845.toList == a1.toList))) else (none))) else (none)))) else (none))))) else (none))))) else (none)) = some r := H
                have A35 := Aside0.mk A350
                clear A350
                by_cases c36 : t825.toList = t826.toList
                · rw [if_pos c36] at H
                  have c36b0 : (t825.toList == t826.toList) = true := beq_iff_eq.mpr c36
                  have c36b1 : (t825.toList != t826.toList) = false := bne_eq_false_iff_eq.mpr c36
                  clear c36
                  replace H := Option.bind_eq_some_iff.mp H
                  obtain ⟨⟨t827, t828⟩, A370, H⟩ := H
                  replace H : ((integer_Int_Text.f kj17 t827 t828).bind fun t831 => ((dowelref01_Sub.f kj17 a0 a1).bind fun t832 => (if t831.toList = t832.toList then ((integer_Neg.f t807 t808).bind fun bt833 => ((integer_Int_Text.f kj17 bt833.1 bt833.2).bind fun t837 => ((dowelref01_Neg.f kj17 a0).bind fun t838 => (if t837.toList = t838.toList then ((integer_Abs.f t807 t808).bind fun bt839 => ((integer_Int_Text.f kj17 bt839.1 bt839.2).bind fun t843 => (if t843.toList = x9_17.toList then ((integer_Int_Text.f kj17 t807 t808).bind fun t844 => (if t844.toList = a0.toList then ((integer_Int_Text.f kj17 t813 t814).bind fun t845 => (some (t845.toList == a1.toList))) else (none))) else (none)))) else (none))))) else (none)))) = some r := H
                  have A37 := Aside0.mk A370
                  clear A370
                  replace H := Option.bind_eq_some_iff.mp H
                  obtain ⟨t831, A380, H⟩ := H
                  replace H : ((dowelref01_Sub.f kj17 a0 a1).bind fun t832 => (if t831.toList = t832.toList then ((integer_Neg.f t807 t808).bind fun bt833 => ((integer_Int_Text.f kj17 bt833.1 bt833.2).bind fun t837 => ((dowelref01_Neg.f kj17 a0).bind fun t838 => (if t837.toList = t838.toList then ((integer_Abs.f t807 t808).bind fun bt839 => ((integer_Int_Text.f kj17 bt839.1 bt839.2).bind fun t843 => (if t843.toList = x9_17.toList then ((integer_Int_Text.f kj17 t807 t808).bind fun t844 => (if t844.toList = a0.toList then ((integer_Int_Text.f kj17 t813 t814).bind fun t845 => (some (t845.toList == a1.toList))) else (none))) else (none)))) else (none))))) else (none))) = some r := H
                  have A38 := Aside0.mk A380
                  clear A380
                  replace H := Option.bind_eq_some_iff.mp H
                  obtain ⟨t832, A390, H⟩ := H
                  replace H : (if t831.toList = t832.toList then ((integer_Neg.f t807 t808).bind fun bt833 => ((integer_Int_Text.f kj17 bt833.1 bt833.2).bind fun t837 => ((dowelref01_Neg.f kj17 a0).bind fun t838 => (if t837.toList = t838.toList then ((integer_Abs.f t807 t808).bind fun bt839 => ((integer_Int_Text.f kj17 bt839.1 bt839.2).bind fun t843 => (if t843.toList = x9_17.toList then ((integer_Int_Text.f kj17 t807 t808).bind fun t844 => (if t844.toList = a0.toList then ((integer_Int_Text.f kj17 t813 t814).bind fun t845 => (some (t845.toList == a1.toList))) else (none))) else (none)))) else (none))))) else (none)) = some r := H
                  have A39 := Aside0.mk A390
                  clear A390
                  by_cases c40 : t831.toList = t832.toList
                  · rw [if_pos c40] at H
                    have c40b0 : (t831.toList == t832.toList) = true := beq_iff_eq.mpr c40
                    have c40b1 : (t831.toList != t832.toList) = false := bne_eq_false_iff_eq.mpr c40
                    clear c40
                    replace H := Option.bind_eq_some_iff.mp H
                    obtain ⟨⟨t833, t834⟩, A410, H⟩ := H
                    replace H : ((integer_Int_Text.f kj17 t833 t834).bind fun t837 => ((dowelref01_Neg.f kj17 a0).bind fun t838 => (if t837.toList = t838.toList then ((integer_Abs.f t807 t808).bind fun bt839 => ((integer_Int_Text.f kj17 bt839.1 bt839.2).bind fun t843 => (if t843.toList = x9_17.toList then ((integer_Int_Text.f kj17 t807 t808).bind fun t844 => (if t844.toList = a0.toList then ((integer_Int_Text.f kj17 t813 t814).bind fun t845 => (some (t845.toList == a1.toList))) else (none))) else (none)))) else (none)))) = some r := H
                    have A41 := Aside0.mk A410
                    clear A410
                    replace H := Option.bind_eq_some_iff.mp H
                    obtain ⟨t837, A420, H⟩ := H
                    replace H : ((dowelref01_Neg.f kj17 a0).bind fun t838 => (if t837.toList = t838.toList then ((integer_Abs.f t807 t808).bind fun bt839 => ((integer_Int_Text.f kj17 bt839.1 bt839.2).bind fun t843 => (if t843.toList = x9_17.toList then ((integer_Int_Text.f kj17 t807 t808).bind fun t844 => (if t844.toList = a0.toList then ((integer_Int_Text.f kj17 t813 t814).bind fun t845 => (some (t845.toList == a1.toList))) else (none))) else (none)))) else (none))) = some r := H
                    have A42 := Aside0.mk A420
                    clear A420
                    replace H := Option.bind_eq_some_iff.mp H
                    obtain ⟨t838, A430, H⟩ := H
                    replace H : (if t837.toList = t838.toList then ((integer_Abs.f t807 t808).bind fun bt839 => ((integer_Int_Text.f kj17 bt839.1 bt839.2).bind fun t843 => (if t843.toList = x9_17.toList then ((integer_Int_Text.f kj17 t807 t808).bind fun t844 => (if t844.toList = a0.toList then ((integer_Int_Text.f kj17 t813 t814).bind fun t845 => (some (t845.toList == a1.toList))) else (none))) else (none)))) else (none)) = some r := H
                    have A43 := Aside0.mk A430
                    clear A430
                    by_cases c44 : t837.toList = t838.toList
                    · rw [if_pos c44] at H
                      have c44b0 : (t837.toList == t838.toList) = true := beq_iff_eq.mpr c44
                      have c44b1 : (t837.toList != t838.toList) = false := bne_eq_false_iff_eq.mpr c44
                      clear c44
                      replace H := Option.bind_eq_some_iff.mp H
                      obtain ⟨⟨t839, t840⟩, A450, H⟩ := H
                      replace H : ((integer_Int_Text.f kj17 t839 t840).bind fun t843 => (if t843.toList = x9_17.toList then ((integer_Int_Text.f kj17 t807 t808).bind fun t844 => (if t844.toList = a0.toList then ((integer_Int_Text.f kj17 t813 t814).bind fun t845 => (some (t845.toList == a1.toList))) else (none))) else (none))) = some r := H
                      have A45 := Aside0.mk A450
                      clear A450
                      replace H := Option.bind_eq_some_iff.mp H
                      obtain ⟨t843, A460, H⟩ := H
                      replace H : (if t843.toList = x9_17.toList then ((integer_Int_Text.f kj17 t807 t808).bind fun t844 => (if t844.toList = a0.toList then ((integer_Int_Text.f kj17 t813 t814).bind fun t845 => (some (t845.toList == a1.toList))) else (none))) else (none)) = some r := H
                      have A46 := Aside0.mk A460
                      clear A460
                      by_cases c47 : t843.toList = x9_17.toList
                      · rw [if_pos c47] at H
                        have c47b0 : (t843.toList == x9_17.toList) = true := beq_iff_eq.mpr c47
                        have c47b1 : (t843.toList != x9_17.toList) = false := bne_eq_false_iff_eq.mpr c47
                        clear c47
                        replace H := Option.bind_eq_some_iff.mp H
                        obtain ⟨t844, A480, H⟩ := H
                        replace H : (if t844.toList = a0.toList then ((integer_Int_Text.f kj17 t813 t814).bind fun t845 => (some (t845.toList == a1.toList))) else (none)) = some r := H
                        have A48 := Aside0.mk A480
                        clear A480
                        by_cases c49 : t844.toList = a0.toList
                        · rw [if_pos c49] at H
                          have c49b0 : (t844.toList == a0.toList) = true := beq_iff_eq.mpr c49
                          have c49b1 : (t844.toList != a0.toList) = false := bne_eq_false_iff_eq.mpr c49
                          clear c49
                          replace H := Option.bind_eq_some_iff.mp H
                          obtain ⟨t845, A500, H⟩ := H
                          replace H : (some (t845.toList == a1.toList)) = some r := H
                          have A50 := Aside0.mk A500
                          clear A500
                          obtain rfl := Option.some.inj H
                          have hnb51 := NB812_818.out
                          have hnc51 := NB818_812.out
                          have hcz52_0 : wc.cell? ⟨gb812, 0, none⟩ = some (.bool t807) := (blk_cell BK812.out 0).trans rfl
                          have hcz52_1 : wc.cell? ⟨gb812, 1, none⟩ = some (.slice Ao22 t808.length co22) := (blk_cell BK812.out 1).trans rfl
                          have hfz52_0 := blk_frozen BK812.out 0
                          have hfz52_1 := blk_frozen BK812.out 1
                          have hcz53_0 : wc.cell? ⟨gb818, 0, none⟩ = some (.bool t813) := (blk_cell BK818.out 0).trans rfl
                          have hcz53_1 : wc.cell? ⟨gb818, 1, none⟩ = some (.slice Ao27 t814.length co27) := (blk_cell BK818.out 1).trans rfl
                          have hfz53_0 := blk_frozen BK818.out 0
                          have hfz53_1 := blk_frozen BK818.out 1
                          go_wp2_with (first | (go_at_call 35; (with_reducible refine (integer_Add.calls kj17 t807 _ _ t808 t813 _ _ t814 t821 t822 _ ?side1 ?side2 ?side3 ?side4 A33.out).mono ?_); (case side1 => repeat (first | exact (Kd.V_reads' HO_813001.out).2.2 | (with_reducible refine Kd.C_alloc ?_ _) | (with_reducible refine Kd.C_drewN ?_ _) | (with_reducible refine Kd.C_drew ?_))); (case side2 => exact (Kd.V_reads' HO_813001.out).2.1); (case side3 => repeat (first | exact (Kd.V_reads' HO_819001.out).2.2 | (with_reducible refine Kd.C_alloc ?_ _) | (with_reducible refine Kd.C_drewN ?_ _) | (with_reducible refine Kd.C_drew ?_))); (case side4 => exact (Kd.V_reads' HO_819001.out).2.1); rintro e w54 ⟨v823, rfl, ho0, hb⟩; have n0_ := Aside0.mk (Kd.V_below (by (with_reducible repeat (first | apply Kd.V_alloc | apply Kd.V_drewN | apply Kd.V_drew)); exact HO_813001.out) hb); have n1_ := Aside0.mk (Kd.V_below (by (with_reducible repeat (first | apply Kd.V_alloc | apply Kd.V_drewN | apply Kd.V_drew)); exact HO_819001.out) hb); have n2_ := Aside0.mk (Kd.V_lower (Kd.V_mono (ok' := fun k_ => k_ ≠ gb812 ∧ k_ ≠ gb818) ho0 (fun k_ hk_ => ⟨(Kd.freshB (g := gb812) (o := .cells #[.bool t807, .slice Ao22 t808.length co22] 25 (0, 0)) (by (with_reducible repeat (first | refine blk_drewN ?_ _ | refine blk_drew ?_ | refine blk_alloc ?_ _)); exact BK812.out) k_ hk_), (Kd.freshB (g := gb818) (o := .cells #[.bool t813, .slice Ao27 t814.length co27] 25 (0, 0)) (by (with_reducible repeat (first | refine blk_drewN ?_ _ | refine blk_drew ?_ | refine blk_alloc ?_ _)); exact BK818.out) k_ hk_)⟩)) (below_size (by repeat (first | (with_reducible first | exact HB.out | apply below_alloc | apply pw_below_drewN | apply below_drew1 | refine below_set ?_ GE812.out | refine below_set ?_ GE818.out) | exact HB.out)))); have n3_ := Aside0.mk (blk_below (g := gb812) (o := .cells #[.bool t807, .slice Ao22 t808.length co22] 25 (0, 0)) (by (with_reducible repeat (first | refine blk_drewN ?_ _ | refine blk_drew ?_ | refine blk_alloc ?_ _)); exact BK812.out) hb); have n4_ := Aside0.mk (blk_below (g := gb818) (o := .cells #[.bool t813, .slice Ao27 t814.length co27] 25 (0, 0)) (by (with_reducible repeat (first | refine blk_drewN ?_ _ | refine blk_drew ?_ | refine blk_alloc ?_ _)); exact BK818.out) hb); have n5_ := Aside0.mk (below_step (by repeat (first | (with_reducible first | exact HB.out | apply below_alloc | apply pw_below_drewN | apply below_drew1 | refine below_set ?_ GE812.out | refine below_set ?_ GE818.out) | exact HB.out)) hb); clear HO_813001; clear HO_819001; clear BK812; clear BK818; clear HB; have HO_813001 := n0_; have HO_819001 := n1_; have HO824 := n2_; have BK812 := n3_; have BK818 := n4_; have HB := n5_; clear n0_ n1_ n2_ n3_ n4_ n5_; (try clear hb); (try clear hb2); (try clear hk); (try clear hi); (try clear ho0); obtain ⟨Ao55, co55, eo55⟩ := Kd.V_slice HO824.out; subst eo55) | (go_at_call 17; (with_reducible refine (integer_Int_Text.calls kj17 t821 (fun k_ => (k_ ≠ gb812 ∧ k_ ≠ gb818)) _ _ t822 t825 _ ?side1 ?side2 A34.out).mono ?_); (case side1 => exact HO824.out); (case side2 => exact G_below HG.out (by repeat (first | (with_reducible first | exact HB.out | apply below_alloc | apply pw_below_drewN | apply below_drew1 | refine below_set ?_ GE812.out | refine below_set ?_ GE818.out) | exact HB.out))); rintro e w56 ⟨rfl, hb⟩; have n0_ := Aside0.mk (Kd.V_below (by (with_reducible repeat (first | apply Kd.V_alloc | apply Kd.V_drewN | apply Kd.V_drew)); exact HO_813001.out) hb); have n1_ := Aside0.mk (Kd.V_below (by (with_reducible repeat (first | apply Kd.V_alloc | apply Kd.V_drewN | apply Kd.V_drew)); exact HO_819001.out) hb); have n2_ := Aside0.mk (Kd.V_below (by (with_reducible repeat (first | apply Kd.V_alloc | apply Kd.V_drewN | apply Kd.V_drew)); exact HO824.out) hb); have n3_ := Aside0.mk (blk_below (g := gb812) (o := .cells #[.bool t807, .slice Ao22 t808.length co22] 25 (0, 0)) (by (with_reducible repeat (first | refine blk_drewN ?_ _ | refine blk_drew ?_ | refine blk_alloc ?_ _)); exact BK812.out) hb); have n4_ := Aside0.mk (blk_below (g := gb818) (o := .cells #[.bool t813, .slice Ao27 t814.length co27] 25 (0, 0)) (by (with_reducible repeat (first | refine blk_drewN ?_ _ | refine blk_drew ?_ | refine blk_alloc ?_ _)); exact BK818.out) hb); have n5_ := Aside0.mk (below_step (by repeat (first | (with_reducible first | exact HB.out | apply below_alloc | apply pw_below_drewN | apply below_drew1 | refine below_set ?_ GE812.out | refine below_set ?_ GE818.out) | exact HB.out)) hb); clear HO_813001; clear HO_819001; clear HO824; clear BK812; clear BK818; clear HB; have HO_813001 := n0_; have HO_819001 := n1_; have HO824 := n2_; have BK812 := n3_; have BK818 := n4_; have HB := n5_; clear n0_ n1_ n2_ n3_ n4_ n5_; (try clear hb); (try clear hb2); (try clear hk); (try clear hi)) | (go_at_call 36; (with_reducible refine (dowelref01_Add.calls kj17 a0 a1 t826 _ A35.out).mono ?_); rintro e w57 ⟨rfl, hb⟩; have n0_ := Aside0.mk (Kd.V_below (by (with_reducible repeat (first | apply Kd.V_alloc | apply Kd.V_drewN | apply Kd.V_drew)); exact HO_813001.out) hb); have n1_ := Aside0.mk (Kd.V_below (by (with_reducible repeat (first | apply Kd.V_alloc | apply Kd.V_drewN | apply Kd.V_drew)); exact HO_819001.out) hb); have n2_ := Aside0.mk (Kd.V_below (by (with_reducible repeat (first | apply Kd.V_alloc | apply Kd.V_drewN | apply Kd.V_drew)); exact HO824.out) hb); have n3_ := Aside0.mk (blk_below (g := gb812) (o := .cells #[.bool t807, .slice Ao22 t808.length co22] 25 (0, 0)) (by (with_reducible repeat (first | refine blk_drewN ?_ _ | refine blk_drew ?_ | refine blk_alloc ?_ _)); exact BK812.out) hb); have n4_ := Aside0.mk (blk_below (g := gb818) (o := .cells #[.bool t813, .slice Ao27 t814.length co27] 25 (0, 0)) (by (with_reducible repeat (first | refine blk_drewN ?_ _ | refine blk_drew ?_ | refine blk_alloc ?_ _)); exact BK818.out) hb); have n5_ := Aside0.mk (below_step (by repeat (first | (with_reducible first | exact HB.out | apply below_alloc | apply pw_below_drewN | apply below_drew1 | refine below_set ?_ GE812.out | refine below_set ?_ GE818.out) | exact HB.out)) hb); clear HO_813001; clear HO_819001; clear HO824; clear BK812; clear BK818; clear HB; have HO_813001 := n0_; have HO_819001 := n1_; have HO824 := n2_; have BK812 := n3_; have BK818 := n4_; have HB := n5_; clear n0_ n1_ n2_ n3_ n4_ n5_; (try clear hb); (try clear hb2); (try clear hk); (try clear hi); have hcz58_0 : w57.cell? ⟨gb812, 0, none⟩ = some (.bool t807) := (blk_cell BK812.out 0).trans rfl; have hcz58_1 : w57.cell? ⟨gb812, 1, none⟩ = some (.slice Ao22 t808.length co22) := (blk_cell BK812.out 1).trans rfl; have hfz58_0 := blk_frozen BK812.out 0; have hfz58_1 := blk_frozen BK812.out 1; have hcz59_0 : w57.cell? ⟨gb818, 0, none⟩ = some (.bool t813) := (blk_cell BK818.out 0).trans rfl; have hcz59_1 : w57.cell? ⟨gb818, 1, none⟩ = some (.slice Ao27 t814.length co27) := (blk_cell BK818.out 1).trans rfl; have hfz59_0 := blk_frozen BK818.out 0; have hfz59_1 := blk_frozen BK818.out 1) | (go_at_call 37; (with_reducible refine (integer_Sub.calls kj17 t807 _ _ t808 t813 (fun k_ => (k_ ≠ gb812 ∧ k_ ≠ gb818)) _ _ t814 t827 t828 _ ?side1 ?side2 ?side3 A37.out).mono ?_); (case side1 => repeat (first | exact (Kd.V_reads' HO_813001.out).2.2 | (with_reducible refine Kd.C_alloc ?_ _) | (with_reducible refine Kd.C_drewN ?_ _) | (with_reducible refine Kd.C_drew ?_))); (case side2 => exact (Kd.V_reads' HO_813001.out).2.1); (case side3 => exact HO_819001.out); rintro e w60 ⟨v829, rfl, ho0, hb⟩; have n0_ := Aside0.mk (Kd.V_below (by (with_reducible repeat (first | apply Kd.V_alloc | apply Kd.V_drewN | apply Kd.V_drew)); exact HO_813001.out) hb); have n1_ := Aside0.mk (Kd.V_below (by (with_reducible repeat (first | apply Kd.V_alloc | apply Kd.V_drewN | apply Kd.V_drew)); exact HO_819001.out) hb); have n2_ := Aside0.mk (Kd.V_below (by (with_reducible repeat (first | apply Kd.V_alloc | apply Kd.V_drewN | apply Kd.V_drew)); exact HO824.out) hb); have n3_ := Aside0.mk (Kd.V_lower (Kd.V_mono (ok' := fun k_ => k_ ≠ gb812 ∧ k_ ≠ gb818) ho0 (fun k_ hk_ => ⟨Or.elim hk_ (fun hs_ => hs_.1) (fun hn_ => (Kd.freshB (g := gb812) (o := .cells #[.bool t807, .slice Ao22 t808.length co22] 25 (0, 0)) (by (with_reducible repeat (first | refine blk_drewN ?_ _ | refine blk_drew ?_ | refine blk_alloc ?_ _)); exact BK812.out) k_ hn_)), Or.elim hk_ (fun hs_ => hs_.2) (fun hn_ => (Kd.freshB (g := gb818) (o := .cells #[.bool t813, .slice Ao27 t814.length co27] 25 (0, 0)) (by (with_reducible repeat (first | refine blk_drewN ?_ _ | refine blk_drew ?_ | refine blk_alloc ?_ _)); exact BK818.out) k_ hn_))⟩)) (below_size (by repeat (first | (with_reducible first | exact HB.out | apply below_alloc | apply pw_below_drewN | apply below_drew1 | refine below_set ?_ GE812.out | refine below_set ?_ GE818.out) | exact HB.out)))); have n4_ := Aside0.mk (blk_below (g := gb812) (o := .cells #[.bool t807, .slice Ao22 t808.length co22] 25 (0, 0)) (by (with_reducible repeat (first | refine blk_drewN ?_ _ | refine blk_drew ?_ | refine blk_alloc ?_ _)); exact BK812.out) hb); have n5_ := Aside0.mk (blk_below (g := gb818) (o := .cells #[.bool t813, .slice Ao27 t814.length co27] 25 (0, 0)) (by (with_reducible repeat (first | refine blk_drewN ?_ _ | refine blk_drew ?_ | refine blk_alloc ?_ _)); exact BK818.out) hb); have n6_ := Aside0.mk (below_step (by repeat (first | (with_reducible first | exact HB.out | apply below_alloc | apply pw_below_drewN | apply below_drew1 | refine below_set ?_ GE812.out | refine below_set ?_ GE818.out) | exact HB.out)) hb); clear HO_813001; clear HO_819001; clear HO824; clear BK812; clear BK818; clear HB; have HO_813001 := n0_; have HO_819001 := n1_; have HO824 := n2_; have HO830 := n3_; have BK812 := n4_; have BK818 := n5_; have HB := n6_; clear n0_ n1_ n2_ n3_ n4_ n5_ n6_; (try clear hb); (try clear hb2); (try clear hk); (try clear hi); (try clear ho0); obtain ⟨Ao61, co61, eo61⟩ := Kd.V_slice HO830.out; subst eo61) | (go_at_call 17; (with_reducible refine (integer_Int_Text.calls kj17 t827 (fun k_ => (k_ ≠ gb812 ∧ k_ ≠ gb818)) _ _ t828 t831 _ ?side1 ?side2 A38.out).mono ?_); (case side1 => exact HO830.out); (case side2 => exact G_below HG.out (by repeat (first | (with_reducible first | exact HB.out | apply below_alloc | apply pw_below_drewN | apply below_drew1 | refine below_set ?_ GE812.out | refine below_set ?_ GE818.out) | exact HB.out))); rintro e w62 ⟨rfl, hb⟩; have n0_ := Aside0.mk (Kd.V_below (by (with_reducible repeat (first | apply Kd.V_alloc | apply Kd.V_drewN | apply Kd.V_drew)); exact HO_813001.out) hb); have n1_ := Aside0.mk (Kd.V_below (by (with_reducible repeat (first | apply Kd.V_alloc | apply Kd.V_drewN | apply Kd.V_drew)); exact HO_819001.out) hb); have n2_ := Aside0.mk (Kd.V_below (by (with_reducible repeat (first | apply Kd.V_alloc | apply Kd.V_drewN | apply Kd.V_drew)); exact HO824.out) hb); have n3_ := Aside0.mk (Kd.V_below (by (with_reducible repeat (first | apply Kd.V_alloc | apply Kd.V_drewN | apply Kd.V_drew)); exact HO830.out) hb); have n4_ := Aside0.mk (blk_below (g := gb812) (o := .cells #[.bool t807, .slice Ao22 t808.length co22] 25 (0, 0)) (by (with_reducible repeat (first | refine blk_drewN ?_ _ | refine blk_drew ?_ | refine blk_alloc ?_ _)); exact BK812.out) hb); have n5_ := Aside0.mk (blk_below (g := gb818) (o := .cells #[.bool t813, .slice Ao27 t814.length co27] 25 (0, 0)) (by (with_reducible repeat (first | refine blk_drewN ?_ _ | refine blk_drew ?_ | refine blk_alloc ?_ _)); exact BK818.out) hb); have n6_ := Aside0.mk (below_step (by repeat (first | (with_reducible first | exact HB.out | apply below_alloc | apply pw_below_drewN | apply below_drew1 | refine below_set ?_ GE812.out | refine below_set ?_ GE818.out) | exact HB.out)) hb); clear HO_813001; clear HO_819001; clear HO824; clear HO830; clear BK812; clear BK818; clear HB; have HO_813001 := n0_; have HO_819001 := n1_; have HO824 := n2_; have HO830 := n3_; have BK812 := n4_; have BK818 := n5_; have HB := n6_; clear n0_ n1_ n2_ n3_ n4_ n5_ n6_; (try clear hb); (try clear hb2); (try clear hk); (try clear hi)) | (go_at_call 38; (with_reducible refine (dowelref01_Sub.calls kj17 a0 a1 t832 _ A39.out).mono ?_); rintro e w63 ⟨rfl, hb⟩; have n0_ := Aside0.mk (Kd.V_below (by (with_reducible repeat (first | apply Kd.V_alloc | apply Kd.V_drewN | apply Kd.V_drew)); exact HO_813001.out) hb); have n1_ := Aside0.mk (Kd.V_below (by (with_reducible repeat (first | apply Kd.V_alloc | apply Kd.V_drewN | apply Kd.V_drew)); exact HO_819001.out) hb); have n2_ := Aside0.mk (Kd.V_below (by (with_reducible repeat (first | apply Kd.V_alloc | apply Kd.V_drewN | apply Kd.V_drew)); exact HO824.out) hb); have n3_ := Aside0.mk (Kd.V_below (by (with_reducible repeat (first | apply Kd.V_alloc | apply Kd.V_drewN | apply Kd.V_drew)); exact HO830.out) hb); have n4_ := Aside0.mk (blk_below (g := gb812) (o := .cells #[.bool t807, .slice Ao22 t808.length co22] 25 (0, 0)) (by (with_reducible repeat (first | refine blk_drewN ?_ _ | refine blk_drew ?_ | refine blk_alloc ?_ _)); exact BK812.out) hb); have n5_ := Aside0.mk (blk_below (g := gb818) (o := .cells #[.bool t813, .slice Ao27 t814.length co27] 25 (0, 0)) (by (with_reducible repeat (first | refine blk_drewN ?_ _ | refine blk_drew ?_ | refine blk_alloc ?_ _)); exact BK818.out) hb); have n6_ := Aside0.mk (below_step (by repeat (first | (with_reducible first | exact HB.out | apply below_alloc | apply pw_below_drewN | apply below_drew1 | refine below_set ?_ GE812.out | refine below_set ?_ GE818.out) | exact HB.out)) hb); clear HO_813001; clear HO_819001; clear HO824; clear HO830; clear BK812; clear BK818; clear HB; have HO_813001 := n0_; have HO_819001 := n1_; have HO824 := n2_; have HO830 := n3_; have BK812 := n4_; have BK818 := n5_; have HB := n6_; clear n0_ n1_ n2_ n3_ n4_ n5_ n6_; (try clear hb); (try clear hb2); (try clear hk); (try clear hi); have hcz64_0 : w63.cell? ⟨gb812, 0, none⟩ = some (.bool t807) := (blk_cell BK812.out 0).trans rfl; have hcz64_1 : w63.cell? ⟨gb812, 1, none⟩ = some (.slice Ao22 t808.length co22) := (blk_cell BK812.out 1).trans rfl; have hfz64_0 := blk_frozen BK812.out 0; have hfz64_1 := blk_frozen BK812.out 1) | (go_at_call 39; (with_reducible refine (integer_Neg.calls t807 (fun k_ => (k_ ≠ gb812 ∧ k_ ≠ gb818)) _ _ t808 t833 t834 _ ?side1 A41.out).mono ?_); (case side1 => exact HO_813001.out); rintro e w65 ⟨v835, rfl, ho0, hb⟩; have n0_ := Aside0.mk (Kd.V_below (by (with_reducible repeat (first | apply Kd.V_alloc | apply Kd.V_drewN | apply Kd.V_drew)); exact HO_813001.out) hb); have n1_ := Aside0.mk (Kd.V_below (by (with_reducible repeat (first | apply Kd.V_alloc | apply Kd.V_drewN | apply Kd.V_drew)); exact HO_819001.out) hb); have n2_ := Aside0.mk (Kd.V_below (by (with_reducible repeat (first | apply Kd.V_alloc | apply Kd.V_drewN | apply Kd.V_drew)); exact HO824.out) hb); have n3_ := Aside0.mk (Kd.V_below (by (with_reducible repeat (first | apply Kd.V_alloc | apply Kd.V_drewN | apply Kd.V_drew)); exact HO830.out) hb); have n4_ := Aside0.mk (Kd.V_lower (Kd.V_mono (ok' := fun k_ => k_ ≠ gb812 ∧ k_ ≠ gb818) ho0 (fun k_ hk_ => ⟨Or.elim hk_ (fun hs_ => hs_.1) (fun hn_ => (Kd.freshB (g := gb812) (o := .cells #[.bool t807, .slice Ao22 t808.length co22] 25 (0, 0)) (by (with_reducible repeat (first | refine blk_drewN ?_ _ | refine blk_drew ?_ | refine blk_alloc ?_ _)); exact BK812.out) k_ hn_)), Or.elim hk_ (fun hs_ => hs_.2) (fun hn_ => (Kd.freshB (g := gb818) (o := .cells #[.bool t813, .slice Ao27 t814.length co27] 25 (0, 0)) (by (with_reducible repeat (first | refine blk_drewN ?_ _ | refine blk_drew ?_ | refine blk_alloc ?_ _)); exact BK818.out) k_ hn_))⟩)) (below_size (by repeat (first | (with_reducible first | exact HB.out | apply below_alloc | apply pw_below_drewN | apply below_drew1 | refine below_set ?_ GE812.out | refine below_set ?_ GE818.out) | exact HB.out)))); have n5_ := Aside0.mk (blk_below (g := gb812) (o := .cells #[.bool t807, .slice Ao22 t808.length co22] 25 (0, 0)) (by (with_reducible repeat (first | refine blk_drewN ?_ _ | refine blk_drew ?_ | refine blk_alloc ?_ _)); exact BK812.out) hb); have n6_ := Aside0.mk (blk_below (g := gb818) (o := .cells #[.bool t813, .slice Ao27 t814.length co27] 25 (0, 0)) (by (with_reducible repeat (first | refine blk_drewN ?_ _ | refine blk_drew ?_ | refine blk_alloc ?_ _)); exact BK818.out) hb); have n7_ := Aside0.mk (below_step (by repeat (first | (with_reducible first | exact HB.out | apply below_alloc | apply pw_below_drewN | apply below_drew1 | refine below_set ?_ GE812.out | refine below_set ?_ GE818.out) | exact HB.out)) hb); clear HO_813001; clear HO_819001; clear HO824; clear HO830; clear BK812; clear BK818; clear HB; have HO_813001 := n0_; have HO_819001 := n1_; have HO824 := n2_; have HO830 := n3_; have HO836 := n4_; have BK812 := n5_; have BK818 := n6_; have HB := n7_; clear n0_ n1_ n2_ n3_ n4_ n5_ n6_ n7_; (try clear hb); (try clear hb2); (try clear hk); (try clear hi); (try clear ho0); obtain ⟨Ao66, co66, eo66⟩ := Kd.V_slice HO836.out; subst eo66) | (go_at_call 17; (with_reducible refine (integer_Int_Text.calls kj17 t833 (fun k_ => (k_ ≠ gb812 ∧ k_ ≠ gb818)) _ _ t834 t837 _ ?side1 ?side2 A42.out).mono ?_); (case side1 => exact HO836.out); (case side2 => exact G_below HG.out (by repeat (first | (with_reducible first | exact HB.out | apply below_alloc | apply pw_below_drewN | apply below_drew1 | refine below_set ?_ GE812.out | refine below_set ?_ GE818.out) | exact HB.out))); rintro e w67 ⟨rfl, hb⟩; have n0_ := Aside0.mk (Kd.V_below (by (with_reducible repeat (first | apply Kd.V_alloc | apply Kd.V_drewN | apply Kd.V_drew)); exact HO_813001.out) hb); have n1_ := Aside0.mk (Kd.V_below (by (with_reducible repeat (first | apply Kd.V_alloc | apply Kd.V_drewN | apply Kd.V_drew)); exact HO_819001.out) hb); have n2_ := Aside0.mk (Kd.V_below (by (with_reducible repeat (first | apply Kd.V_alloc | apply Kd.V_drewN | apply Kd.V_drew)); exact HO824.out) hb); have n3_ := Aside0.mk (Kd.V_below (by (with_reducible repeat (first | apply Kd.V_alloc | apply Kd.V_drewN | apply Kd.V_drew)); exact HO830.out) hb); have n4_ := Aside0.mk (Kd.V_below (by (with_reducible repeat (first | apply Kd.V_alloc | apply Kd.V_drewN | apply Kd.V_drew)); exact HO836.out) hb); have n5_ := Aside0.mk (blk_below (g := gb812) (o := .cells #[.bool t807, .slice Ao22 t808.length co22] 25 (0, 0)) (by (with_reducible repeat (first | refine blk_drewN ?_ _ | refine blk_drew ?_ | refine blk_alloc ?_ _)); exact BK812.out) hb); have n6_ := Aside0.mk (blk_below (g := gb818) (o := .cells #[.bool t813, .slice Ao27 t814.length co27] 25 (0, 0)) (by (with_reducible repeat (first | refine blk_drewN ?_ _ | refine blk_drew ?_ | refine blk_alloc ?_ _)); exact BK818.out) hb); have n7_ := Aside0.mk (below_step (by repeat (first | (with_reducible first | exact HB.out | apply below_alloc | apply pw_below_drewN | apply below_drew1 | refine below_set ?_ GE812.out | refine below_set ?_ GE818.out) | exact HB.out)) hb); clear HO_813001; clear HO_819001; clear HO824; clear HO830; clear HO836; clear BK812; clear BK818; clear HB; have HO_813001 := n0_; have HO_819001 := n1_; have HO824 := n2_; have HO830 := n3_; have HO836 := n4_; have BK812 := n5_; have BK818 := n6_; have HB := n7_; clear n0_ n1_ n2_ n3_ n4_ n5_ n6_ n7_; (try clear hb); (try clear hb2); (try clear hk); (try clear hi)) | (go_at_call 34; (with_reducible refine (dowelref01_Neg.calls kj17 a0 t838 _ A43.out).mono ?_); rintro e w68 ⟨rfl, hb⟩; have n0_ := Aside0.mk (Kd.V_below (by (with_reducible repeat (first | apply Kd.V_alloc | apply Kd.V_drewN | apply Kd.V_drew)); exact HO_813001.out) hb); have n1_ := Aside0.mk (Kd.V_below (by (with_reducible repeat (first | apply Kd.V_alloc | apply Kd.V_drewN | apply Kd.V_drew)); exact HO_819001.out) hb); have n2_ := Aside0.mk (Kd.V_below (by (with_reducible repeat (first | apply Kd.V_alloc | apply Kd.V_drewN | apply Kd.V_drew)); exact HO824.out) hb); have n3_ := Aside0.mk (Kd.V_below (by (with_reducible repeat (first | apply Kd.V_alloc | apply Kd.V_drewN | apply Kd.V_drew)); exact HO830.out) hb); have n4_ := Aside0.mk (Kd.V_below (by (with_reducible repeat (first | apply Kd.V_alloc | apply Kd.V_drewN | apply Kd.V_drew)); exact HO836.out) hb); have n5_ := Aside0.mk (blk_below (g := gb812) (o := .cells #[.bool t807, .slice Ao22 t808.length co22] 25 (0, 0)) (by (with_reducible repeat (first | refine blk_drewN ?_ _ | refine blk_drew ?_ | refine blk_alloc ?_ _)); exact BK812.out) hb); have n6_ := Aside0.mk (blk_below (g := gb818) (o := .cells #[.bool t813, .slice Ao27 t814.length co27] 25 (0, 0)) (by (with_reducible repeat (first | refine blk_drewN ?_ _ | refine blk_drew ?_ | refine blk_alloc ?_ _)); exact BK818.out) hb); have n7_ := Aside0.mk (below_step (by repeat (first | (with_reducible first | exact HB.out | apply below_alloc | apply pw_below_drewN | apply below_drew1 | refine below_set ?_ GE812.out | refine below_set ?_ GE818.out) | exact HB.out)) hb); clear HO_813001; clear HO_819001; clear HO824; clear HO830; clear HO836; clear BK812; clear BK818; clear HB; have HO_813001 := n0_; have HO_819001 := n1_; have HO824 := n2_; have HO830 := n3_; have HO836 := n4_; have BK812 := n5_; have BK818 := n6_; have HB := n7_; clear n0_ n1_ n2_ n3_ n4_ n5_ n6_ n7_; (try clear hb); (try clear hb2); (try clear hk); (try clear hi); have hcz69_0 : w68.cell? ⟨gb812, 0, none⟩ = some (.bool t807) := (blk_cell BK812.out 0).trans rfl; have hcz69_1 : w68.cell? ⟨gb812, 1, none⟩ = some (.slice Ao22 t808.length co22) := (blk_cell BK812.out 1).trans rfl; have hfz69_0 := blk_frozen BK812.out 0; have hfz69_1 := blk_frozen BK812.out 1) | (go_at_call 40; (with_reducible refine (integer_Abs.calls t807 (fun k_ => (k_ ≠ gb812 ∧ k_ ≠ gb818)) _ _ t808 t839 t840 _ ?side1 A45.out).mono ?_); (case side1 => exact HO_813001.out); rintro e w70 ⟨v841, rfl, ho0, hb⟩; have n0_ := Aside0.mk (Kd.V_below (by (with_reducible repeat (first | apply Kd.V_alloc | apply Kd.V_drewN | apply Kd.V_drew)); exact HO_813001.out) hb); have n1_ := Aside0.mk (Kd.V_below (by (with_reducible repeat (first | apply Kd.V_alloc | apply Kd.V_drewN | apply Kd.V_drew)); exact HO_819001.out) hb); have n2_ := Aside0.mk (Kd.V_below (by (with_reducible repeat (first | apply Kd.V_alloc | apply Kd.V_drewN | apply Kd.V_drew)); exact HO824.out) hb); have n3_ := Aside0.mk (Kd.V_below (by (with_reducible repeat (first | apply Kd.V_alloc | apply Kd.V_drewN | apply Kd.V_drew)); exact HO830.out) hb); have n4_ := Aside0.mk (Kd.V_below (by (with_reducible repeat (first | apply Kd.V_alloc | apply Kd.V_drewN | apply Kd.V_drew)); exact HO836.out) hb); have n5_ := Aside0.mk (Kd.V_lower (Kd.V_mono (ok' := fun k_ => k_ ≠ gb812 ∧ k_ ≠ gb818) ho0 (fun k_ hk_ => ⟨Or.elim hk_ (fun hs_ => hs_.1) (fun hn_ => (Kd.freshB (g := gb812) (o := .cells #[.bool t807, .slice Ao22 t808.length co22] 25 (0, 0)) (by (with_reducible repeat (first | refine blk_drewN ?_ _ | refine blk_drew ?_ | refine blk_alloc ?_ _)); exact BK812.out) k_ hn_)), Or.elim hk_ (fun hs_ => hs_.2) (fun hn_ => (Kd.freshB (g := gb818) (o := .cells #[.bool t813, .slice Ao27 t814.length co27] 25 (0, 0)) (by (with_reducible repeat (first | refine blk_drewN ?_ _ | refine blk_drew ?_ | refine blk_alloc ?_ _)); exact BK818.out) k_ hn_))⟩)) (below_size (by repeat (first | (with_reducible first | exact HB.out | apply below_alloc | apply pw_below_drewN | apply below_drew1 | refine below_set ?_ GE812.out | refine below_set ?_ GE818.out) | exact HB.out)))); have n6_ := Aside0.mk (blk_below (g := gb812) (o := .cells #[.bool t807, .slice Ao22 t808.length co22] 25 (0, 0)) (by (with_reducible repeat (first | refine blk_drewN ?_ _ | refine blk_drew ?_ | refine blk_alloc ?_ _)); exact BK812.out) hb); have n7_ := Aside0.mk (blk_below (g := gb818) (o := .cells #[.bool t813, .slice Ao27 t814.length co27] 25 (0, 0)) (by (with_reducible repeat (first | refine blk_drewN ?_ _ | refine blk_drew ?_ | refine blk_alloc ?_ _)); exact BK818.out) hb); have n8_ := Aside0.mk (below_step (by repeat (first | (with_reducible first | exact HB.out | apply below_alloc | apply pw_below_drewN | apply below_drew1 | refine below_set ?_ GE812.out | refine below_set ?_ GE818.out) | exact HB.out)) hb); clear HO_813001; clear HO_819001; clear HO824; clear HO830; clear HO836; clear BK812; clear BK818; clear HB; have HO_813001 := n0_; have HO_819001 := n1_; have HO824 := n2_; have HO830 := n3_; have HO836 := n4_; have HO842 := n5_; have BK812 := n6_; have BK818 := n7_; have HB := n8_; clear n0_ n1_ n2_ n3_ n4_ n5_ n6_ n7_ n8_; (try clear hb); (try clear hb2); (try clear hk); (try clear hi); (try clear ho0); obtain ⟨Ao71, co71, eo71⟩ := Kd.V_slice HO842.out; subst eo71) | (go_at_call 17; (with_reducible refine (integer_Int_Text.calls kj17 t839 (fun k_ => (k_ ≠ gb812 ∧ k_ ≠ gb818)) _ _ t840 t843 _ ?side1 ?side2 A46.out).mono ?_); (case side1 => exact HO842.out); (case side2 => exact G_below HG.out (by repeat (first | (with_reducible first | exact HB.out | apply below_alloc | apply pw_below_drewN | apply below_drew1 | refine below_set ?_ GE812.out | refine below_set ?_ GE818.out) | exact HB.out))); rintro e w72 ⟨rfl, hb⟩; have n0_ := Aside0.mk (Kd.V_below (by (with_reducible repeat (first | apply Kd.V_alloc | apply Kd.V_drewN | apply Kd.V_drew)); exact HO_813001.out) hb); have n1_ := Aside0.mk (Kd.V_below (by (with_reducible repeat (first | apply Kd.V_alloc | apply Kd.V_drewN | apply Kd.V_drew)); exact HO_819001.out) hb); have n2_ := Aside0.mk (Kd.V_below (by (with_reducible repeat (first | apply Kd.V_alloc | apply Kd.V_drewN | apply Kd.V_drew)); exact HO824.out) hb); have n3_ := Aside0.mk (Kd.V_below (by (with_reducible repeat (first | apply Kd.V_alloc | apply Kd.V_drewN | apply Kd.V_drew)); exact HO830.out) hb); have n4_ := Aside0.mk (Kd.V_below (by (with_reducible repeat (first | apply Kd.V_alloc | apply Kd.V_drewN | apply Kd.V_drew)); exact HO836.out) hb); have n5_ := Aside0.mk (Kd.V_below (by (with_reducible repeat (first | apply Kd.V_alloc | apply Kd.V_drewN | apply Kd.V_drew)); exact HO842.out) hb); have n6_ := Aside0.mk (blk_below (g := gb812) (o := .cells #[.bool t807, .slice Ao22 t808.length co22] 25 (0, 0)) (by (with_reducible repeat (first | refine blk_drewN ?_ _ | refine blk_drew ?_ | refine blk_alloc ?_ _)); exact BK812.out) hb); have n7_ := Aside0.mk (blk_below (g := gb818) (o := .cells #[.bool t813, .slice Ao27 t814.length co27] 25 (0, 0)) (by (with_reducible repeat (first | refine blk_drewN ?_ _ | refine blk_drew ?_ | refine blk_alloc ?_ _)); exact BK818.out) hb); have n8_ := Aside0.mk (below_step (by repeat (first | (with_reducible first | exact HB.out | apply below_alloc | apply pw_below_drewN | apply below_drew1 | refine below_set ?_ GE812.out | refine below_set ?_ GE818.out) | exact HB.out)) hb); clear HO_813001; clear HO_819001; clear HO824; clear HO830; clear HO836; clear HO842; clear BK812; clear BK818; clear HB; have HO_813001 := n0_; have HO_819001 := n1_; have HO824 := n2_; have HO830 := n3_; have HO836 := n4_; have HO842 := n5_; have BK812 := n6_; have BK818 := n7_; have HB := n8_; clear n0_ n1_ n2_ n3_ n4_ n5_ n6_ n7_ n8_; (try clear hb); (try clear hb2); (try clear hk); (try clear hi); have hcz73_0 : w72.cell? ⟨gb812, 0, none⟩ = some (.bool t807) := (blk_cell BK812.out 0).trans rfl; have hcz73_1 : w72.cell? ⟨gb812, 1, none⟩ = some (.slice Ao22 t808.length co22) := (blk_cell BK812.out 1).trans rfl; have hfz73_0 := blk_frozen BK812.out 0; have hfz73_1 := blk_frozen BK812.out 1) | (go_at_call 17; (with_reducible refine (integer_Int_Text.calls kj17 t807 (fun k_ => (k_ ≠ gb812 ∧ k_ ≠ gb818)) _ _ t808 t844 _ ?side1 ?side2 A48.out).mono ?_); (case side1 => exact HO_813001.out); (case side2 => exact G_below HG.out (by repeat (first | (with_reducible first | exact HB.out | apply below_alloc | apply pw_below_drewN | apply below_drew1 | refine below_set ?_ GE812.out | refine below_set ?_ GE818.out) | exact HB.out))); rintro e w74 ⟨rfl, hb⟩; have n0_ := Aside0.mk (Kd.V_below (by (with_reducible repeat (first | apply Kd.V_alloc | apply Kd.V_drewN | apply Kd.V_drew)); exact HO_813001.out) hb); have n1_ := Aside0.mk (Kd.V_below (by (with_reducible repeat (first | apply Kd.V_alloc | apply Kd.V_drewN | apply Kd.V_drew)); exact HO_819001.out) hb); have n2_ := Aside0.mk (Kd.V_below (by (with_reducible repeat (first | apply Kd.V_alloc | apply Kd.V_drewN | apply Kd.V_drew)); exact HO824.out) hb); have n3_ := Aside0.mk (Kd.V_below (by (with_reducible repeat (first | apply Kd.V_alloc | apply Kd.V_drewN | apply Kd.V_drew)); exact HO830.out) hb); have n4_ := Aside0.mk (Kd.V_below (by (with_reducible repeat (first | apply Kd.V_alloc | apply Kd.V_drewN | apply Kd.V_drew)); exact HO836.out) hb); have n5_ := Aside0.mk (Kd.V_below (by (with_reducible repeat (first | apply Kd.V_alloc | apply Kd.V_drewN | apply Kd.V_drew)); exact HO842.out) hb); have n6_ := Aside0.mk (blk_below (g := gb812) (o := .cells #[.bool t807, .slice Ao22 t808.length co22] 25 (0, 0)) (by (with_reducible repeat (first | refine blk_drewN ?_ _ | refine blk_drew ?_ | refine blk_alloc ?_ _)); exact BK812.out) hb); have n7_ := Aside0.mk (blk_below (g := gb818) (o := .cells #[.bool t813, .slice Ao27 t814.length co27] 25 (0, 0)) (by (with_reducible repeat (first | refine blk_drewN ?_ _ | refine blk_drew ?_ | refine blk_alloc ?_ _)); exact BK818.out) hb); have n8_ := Aside0.mk (below_step (by repeat (first | (with_reducible first | exact HB.out | apply below_alloc | apply pw_below_drewN | apply below_drew1 | refine below_set ?_ GE812.out | refine below_set ?_ GE818.out) | exact HB.out)) hb); clear HO_813001; clear HO_819001; clear HO824; clear HO830; clear HO836; clear HO842; clear BK812; clear BK818; clear HB; have HO_813001 := n0_; have HO_819001 := n1_; have HO824 := n2_; have HO830 := n3_; have HO836 := n4_; have HO842 := n5_; have BK812 := n6_; have BK818 := n7_; have HB := n8_; clear n0_ n1_ n2_ n3_ n4_ n5_ n6_ n7_ n8_; (try clear hb); (try clear hb2); (try clear hk); (try clear hi); have hcz75_0 : w74.cell? ⟨gb818, 0, none⟩ = some (.bool t813) := (blk_cell BK818.out 0).trans rfl; have hcz75_1 : w74.cell? ⟨gb818, 1, none⟩ = some (.slice Ao27 t814.length co27) := (blk_cell BK818.out 1).trans rfl; have hfz75_0 := blk_frozen BK818.out 0; have hfz75_1 := blk_frozen BK818.out 1) | (go_at_call 17; (with_reducible refine (integer_Int_Text.calls kj17 t813 (fun k_ => (k_ ≠ gb812 ∧ k_ ≠ gb818)) _ _ t814 t845 _ ?side1 ?side2 A50.out).mono ?_); (case side1 => exact HO_819001.out); (case side2 => exact G_below HG.out (by repeat (first | (with_reducible first | exact HB.out | apply below_alloc | apply pw_below_drewN | apply below_drew1 | refine below_set ?_ GE812.out | refine below_set ?_ GE818.out) | exact HB.out))); rintro e w76 ⟨rfl, hb⟩; have n0_ := Aside0.mk (Kd.V_below (by (with_reducible repeat (first | apply Kd.V_alloc | apply Kd.V_drewN | apply Kd.V_drew)); exact HO_813001.out) hb); have n1_ := Aside0.mk (Kd.V_below (by (with_reducible repeat (first | apply Kd.V_alloc | apply Kd.V_drewN | apply Kd.V_drew)); exact HO_819001.out) hb); have n2_ := Aside0.mk (Kd.V_below (by (with_reducible repeat (first | apply Kd.V_alloc | apply Kd.V_drewN | apply Kd.V_drew)); exact HO824.out) hb); have n3_ := Aside0.mk (Kd.V_below (by (with_reducible repeat (first | apply Kd.V_alloc | apply Kd.V_drewN | apply Kd.V_drew)); exact HO830.out) hb); have n4_ := Aside0.mk (Kd.V_below (by (with_reducible repeat (first | apply Kd.V_alloc | apply Kd.V_drewN | apply Kd.V_drew)); exact HO836.out) hb); have n5_ := Aside0.mk (Kd.V_below (by (with_reducible repeat (first | apply Kd.V_alloc | apply Kd.V_drewN | apply Kd.V_drew)); exact HO842.out) hb); have n6_ := Aside0.mk (blk_below (g := gb812) (o := .cells #[.bool t807, .slice Ao22 t808.length co22] 25 (0, 0)) (by (with_reducible repeat (first | refine blk_drewN ?_ _ | refine blk_drew ?_ | refine blk_alloc ?_ _)); exact BK812.out) hb); have n7_ := Aside0.mk (blk_below (g := gb818) (o := .cells #[.bool t813, .slice Ao27 t814.length co27] 25 (0, 0)) (by (with_reducible repeat (first | refine blk_drewN ?_ _ | refine blk_drew ?_ | refine blk_alloc ?_ _)); exact BK818.out) hb); have n8_ := Aside0.mk (below_step (by repeat (first | (with_reducible first | exact HB.out | apply below_alloc | apply pw_below_drewN | apply below_drew1 | refine below_set ?_ GE812.out | refine below_set ?_ GE818.out) | exact HB.out)) hb); clear HO_813001; clear HO_819001; clear HO824; clear HO830; clear HO836; clear HO842; clear BK812; clear BK818; clear HB; have HO_813001 := n0_; have HO_819001 := n1_; have HO824 := n2_; have HO830 := n3_; have HO836 := n4_; have HO842 := n5_; have BK812 := n6_; have BK818 := n7_; have HB := n8_; clear n0_ n1_ n2_ n3_ n4_ n5_ n6_ n7_ n8_; (try clear hb); (try clear hb2); (try clear hk); (try clear hi)))
                          go_ret
                          exact ⟨by first | rfl | (simp [errW_none, errW_some] <;> rfl) | (simp [*, errW_none, errW_some] <;> rfl), by repeat (first | (with_reducible first | exact HB.out | apply below_alloc | apply pw_below_drewN | apply below_drew1 | refine below_set ?_ GE812.out | refine below_set ?_ GE818.out) | exact HB.out)⟩
                        · rw [if_neg c49] at H
                          exact absurd H (by simp)
                      · rw [if_neg c47] at H
                        exact absurd H (by simp)
                    · rw [if_neg c44] at H
                      exact absurd H (by simp)
                  · rw [if_neg c40] at H
                    exact absurd H (by simp)
                · rw [if_neg c36] at H
                  exact absurd H (by simp)
              · replace c32 := Bool.eq_false_iff.mpr c32
                subst c32
                have H1 : (none) = some r := by rw [if_neg (show ¬ (false = true) by decide)] at H; exact H
                clear H
                have H := H1
                clear H1
                exact absurd H (by simp)
            · replace c31 := Bool.eq_false_iff.mpr c31
              subst c31
              have H1 : (none) = some r := by rw [if_neg (show ¬ (false = true) by decide)] at H; exact H
              clear H
              have H := H1
              clear H1
              exact absurd H (by simp)
def dowellaw01_IntegerAdds.Pure : Prop := ∀ (a0 : ByteArray) (a1 : ByteArray), a0.size ≤ 140737488351232 → a1.size ≤ 140737488351232 → ∃ k, dowellaw01_IntegerAdds.f k a0 a1 = some true
theorem dowellaw01_IntegerAdds.walk (P : dowellaw01_IntegerAdds.Pure) (a0 : ByteArray) (a1 : ByteArray) (w : World) (hG : G w) (w0 : a0.size ≤ 140737488351232) (w1 : a1.size ≤ 140737488351232) :
    Calls Tryd.prog 9 #[.string a0, .string a1] w fun e w' => e = .returned (.bool true) ∧ Below w.heap.size w w' := by
  obtain ⟨k, h⟩ := P a0 a1 w0 w1
  refine (dowellaw01_IntegerAdds.calls k a0 a1 true w hG h).mono ?_
  rintro e w' ⟨rfl, hd⟩
  exact ⟨rfl, hd⟩
end Go.Proofs.YtiikfhdmclmjmaaDoor.P
namespace Go.Proofs.YtiikfhdmclmjmaaDoor.Pure
open Go.RowKit Go.Proofs.YtiikfhdmclmjmaaDoorW.PrintWords
set_option linter.unusedVariables false
set_option linter.unusedSimpArgs false
theorem Ev.pos {α : Type} {c : Prop} [Decidable c] {A B : Nat → Option α} {r : α} (h : c) (k : Ev A r) : Ev (fun n => if c then A n else B n) r := by
  obtain ⟨K, k⟩ := k
  exact ⟨K, fun n hn => by show (if c then A n else B n) = some r; rw [if_pos h]; exact k n hn⟩
theorem Ev.neg {α : Type} {c : Prop} [Decidable c] {A B : Nat → Option α} {r : α} (h : ¬ c) (k : Ev B r) : Ev (fun n => if c then A n else B n) r := by
  obtain ⟨K, k⟩ := k
  exact ⟨K, fun n hn => by show (if c then A n else B n) = some r; rw [if_neg h]; exact k n hn⟩
theorem Ev.bind0 {α β : Type} {o : Option α} {f : Nat → α → Option β} {a : α} {r : β} (h : o = some a) (k : Ev (fun n => f n a) r) : Ev (fun n => o.bind (f n)) r := by
  subst h
  exact k
theorem Ev.some_ {α : Type} {a r : α} (h : a = r) : Ev (fun _ => some a) r := h ▸ Ev.now a
theorem Ev.bindS {α β : Type} {f : Nat → α → Option β} {a : α} {r : β} (k : Ev (fun n => f n a) r) : Ev (fun n => (some a).bind (f n)) r := k
theorem w64 (z : Int) (h0 : -9223372036854775808 ≤ z) (h1 : z ≤ 9223372036854775807) : wrap64 z = z := by unfold wrap64; omega
theorem wsucc {j n : Nat} (h : j < n) (hn : n ≤ 9223372036854775807) : wrap64 ((j : Int) + 1) = ((j + 1 : Nat) : Int) := by rw [w64 _ (by omega) (by omega)]; omega
theorem u64 (z : Int) : IntKind.u64.wrap z = z % 18446744073709551616 := rfl
theorem u64s (z : Int) (h0 : 0 ≤ z) (h1 : z < 18446744073709551616) : IntKind.u64.wrap z = z := by rw [u64]; omega
def val (B : Int) : List Int → Int
  | [] => 0
  | d :: l => d + B * val B l
def Digs (B : Int) (l : List Int) : Prop := ∀ d ∈ l, 0 ≤ d ∧ d < B
def Norm (l : List Int) : Prop := ∀ d, l.getLast? = some d → d ≠ 0
theorem Digs.cons {B d : Int} {l : List Int} (h : Digs B (d :: l)) : (0 ≤ d ∧ d < B) ∧ Digs B l := ⟨h d (by simp), fun x hx => h x (by simp [hx])⟩
theorem Digs.mk {B d : Int} {l : List Int} (h0 : 0 ≤ d) (h1 : d < B) (h : Digs B l) : Digs B (d :: l) := by
  intro x hx
  rcases List.mem_cons.1 hx with rfl | hx
  · exact ⟨h0, h1⟩
  · exact h x hx
theorem Digs.nil (B : Int) : Digs B [] := fun d h => by cases h
theorem Digs.app {B : Int} {l m : List Int} (h : Digs B l) (k : Digs B m) : Digs B (l ++ m) := by
  intro x hx
  rcases List.mem_append.1 hx with hx | hx
  · exact h x hx
  · exact k x hx
theorem Digs.left {B : Int} {l m : List Int} (h : Digs B (l ++ m)) : Digs B l := fun x hx => h x (List.mem_append_left _ hx)
theorem Digs.take {B : Int} {l : List Int} (h : Digs B l) (n : Nat) : Digs B (l.take n) := fun x hx => h x (List.mem_of_mem_take hx)
theorem Digs.drop {B : Int} {l : List Int} (h : Digs B l) (n : Nat) : Digs B (l.drop n) := fun x hx => h x (List.mem_of_mem_drop hx)
theorem val_nonneg {B : Int} (hB : 0 < B) : ∀ {l : List Int}, Digs B l → 0 ≤ val B l
  | [], _ => Int.le_refl _
  | d :: l, h => by
    have := val_nonneg hB h.cons.2
    have h1 := h.cons.1.1
    have := Int.mul_nonneg (Int.le_of_lt hB) this
    simp only [val]
    omega
theorem val_app (B : Int) : ∀ (l m : List Int), val B (l ++ m) = val B l + B ^ l.length * val B m
  | [], m => by simp [val]
  | d :: l, m => by
    simp only [List.cons_append, val, List.length_cons]
    rw [val_app B l m, Int.pow_succ, Int.mul_add, Int.mul_comm (B ^ l.length) B, Int.mul_assoc]
    omega
theorem val_lt {B : Int} (hB : 0 < B) : ∀ {l : List Int}, Digs B l → val B l < B ^ l.length
  | [], _ => by simp [val]
  | d :: l, h => by
    have h1 := val_lt hB h.cons.2
    have h2 := h.cons.1.2
    simp only [val, List.length_cons]
    rw [Int.pow_succ, Int.mul_comm (B ^ l.length) B]
    have : B * (val B l + 1) ≤ B * B ^ l.length := Int.mul_le_mul_of_nonneg_left (by omega) (Int.le_of_lt hB)
    rw [Int.mul_add, Int.mul_one] at this
    omega
theorem getLast?_tail {d : Int} {l : List Int} (h : l ≠ []) : (d :: l).getLast? = l.getLast? := by
  cases l with
  | nil => exact absurd rfl h
  | cons a l => rfl
theorem Norm.tail {d : Int} {l : List Int} (h : Norm (d :: l)) : Norm l := by
  intro x hx
  cases l with
  | nil => simp at hx
  | cons a l => exact h x (by rw [getLast?_tail (by simp)]; exact hx)
theorem Norm.nil : Norm [] := fun d h => by simp at h
theorem norm_pos {B : Int} (hB : 0 < B) : ∀ {l : List Int}, Digs B l → Norm l → l ≠ [] → 0 < val B l
  | [], _, _, h => absurd rfl h
  | [d], hd, hn, _ => by
    have h1 := hd.cons.1.1
    have h2 := hn d rfl
    simp only [val]
    omega
  | d :: e :: l, hd, hn, _ => by
    have := norm_pos hB hd.cons.2 hn.tail (by simp)
    have h1 := hd.cons.1.1
    have h2 := Int.mul_pos hB this
    simp only [val] at *
    omega
theorem val_uniq {B : Int} (hB : 0 < B) : ∀ {l m : List Int}, Digs B l → Digs B m → Norm l → Norm m → val B l = val B m → l = m
  | [], [], _, _, _, _, _ => rfl
  | [], b :: m, _, hm, _, nm, h => by
    have := norm_pos hB hm nm (by simp)
    rw [← h] at this
    exact absurd this (by simp [val])
  | a :: l, [], hl, _, nl, _, h => by
    have := norm_pos hB hl nl (by simp)
    rw [h] at this
    exact absurd this (by simp [val])
  | a :: l, b :: m, hl, hm, nl, nm, h => by
    simp only [val] at h
    have ha := hl.cons.1
    have hb := hm.cons.1
    have e1 : a = b := by
      have h1 : (a + B * val B l) % B = a := by rw [Int.add_mul_emod_self_left]; exact Int.emod_eq_of_lt ha.1 ha.2
      have h2 : (b + B * val B m) % B = b := by rw [Int.add_mul_emod_self_left]; exact Int.emod_eq_of_lt hb.1 hb.2
      rw [← h1, ← h2, h]
    subst e1
    have e2 : val B l = val B m := by
      have : B * val B l = B * val B m := by omega
      exact Int.eq_of_mul_eq_mul_left (by omega) this
    rw [val_uniq hB hl.cons.2 hm.cons.2 nl.tail nm.tail e2]
def dgs (B : Nat) (n : Nat) : List Int := if h : n = 0 ∨ B < 2 then [] else ((n % B : Nat) : Int) :: dgs B (n / B)
termination_by n
decreasing_by exact Nat.div_lt_self (by omega) (by omega)
theorem dgs_zero (B : Nat) : dgs B 0 = [] := by rw [dgs]; simp
theorem dgs_pos {B n : Nat} (hB : 2 ≤ B) (hn : 0 < n) : dgs B n = ((n % B : Nat) : Int) :: dgs B (n / B) := by rw [dgs, dif_neg (by omega)]
theorem dgs_all {B : Nat} (hB : 2 ≤ B) (n : Nat) : Digs B (dgs B n) ∧ Norm (dgs B n) ∧ val B (dgs B n) = n := by
  induction n using Nat.strongRecOn with
  | _ n ih =>
    rcases Nat.eq_zero_or_pos n with rfl | h
    · rw [dgs_zero]
      exact ⟨Digs.nil _, Norm.nil, rfl⟩
    · obtain ⟨h1, h2, h3⟩ := ih (n / B) (Nat.div_lt_self h (by omega))
      rw [dgs_pos hB h]
      have hm : n % B < B := Nat.mod_lt _ (by omega)
      refine ⟨Digs.mk (by omega) (by omega) h1, ?_, ?_⟩
      · intro d hd
        by_cases hz : n / B = 0
        · rw [hz, dgs_zero] at hd
          simp at hd
          have := Nat.div_add_mod n B
          rw [hz] at this
          omega
        · have hne : dgs B (n / B) ≠ [] := by rw [dgs_pos hB (Nat.pos_of_ne_zero hz)]; simp
          rw [getLast?_tail hne] at hd
          exact h2 d hd
      · simp only [val]
        rw [h3]
        have := Nat.mod_add_div n B
        exact_mod_cast this
theorem dgs_digs {B : Nat} (hB : 2 ≤ B) (n : Nat) : Digs B (dgs B n) := (dgs_all hB n).1
theorem dgs_norm {B : Nat} (hB : 2 ≤ B) (n : Nat) : Norm (dgs B n) := (dgs_all hB n).2.1
theorem dgs_val {B : Nat} (hB : 2 ≤ B) (n : Nat) : val B (dgs B n) = n := (dgs_all hB n).2.2
theorem dgs_of {B : Nat} (hB : 2 ≤ B) {l : List Int} {n : Nat} (h1 : Digs B l) (h2 : Norm l) (h3 : val B l = n) : l = dgs B n :=
  val_uniq (by omega) h1 (dgs_digs hB n) h2 (dgs_norm hB n) (by rw [h3, dgs_val hB])
theorem dgs_nil {B : Nat} (hB : 2 ≤ B) {n : Nat} : dgs B n = [] ↔ n = 0 := by
  constructor
  · intro h
    rcases Nat.eq_zero_or_pos n with h0 | h0
    · exact h0
    · rw [dgs_pos hB h0] at h
      cases h
  · rintro rfl
    exact dgs_zero B
def trimL (l : List Int) : List Int := (l.reverse.dropWhile (· == 0)).reverse
theorem trimL_snoc0 (l : List Int) : trimL (l ++ [0]) = trimL l := by simp [trimL]
theorem trimL_snoc {d : Int} (l : List Int) (h : d ≠ 0) : trimL (l ++ [d]) = l ++ [d] := by simp [trimL, h]
theorem trimL_ind {P : List Int → List Int → Prop} (h0 : P [] []) (h1 : ∀ l r, P l r → P (l ++ [0]) r) (h2 : ∀ l d, d ≠ 0 → P (l ++ [d]) (l ++ [d])) (l : List Int) : P l (trimL l) := by
  induction hn : l.length generalizing l with
  | zero =>
    obtain rfl := List.length_eq_zero_iff.1 hn
    exact h0
  | succ n ih =>
    obtain ⟨m, d, rfl⟩ : ∃ m d, l = m ++ [d] := ⟨l.dropLast, l.getLast (by intro h; simp [h] at hn), (List.dropLast_concat_getLast _).symm⟩
    by_cases hd : d = 0
    · subst hd
      rw [trimL_snoc0]
      exact h1 m _ (ih m (by simp at hn; omega))
    · rw [trimL_snoc m hd]
      exact h2 m d hd
theorem trimL_val (B : Int) (l : List Int) : val B (trimL l) = val B l :=
  trimL_ind (P := fun l r => val B r = val B l) rfl (fun l r h => by rw [h, val_app]; simp [val]) (fun _ _ _ => rfl) l
theorem trimL_digs {B : Int} {l : List Int} (h : Digs B l) : Digs B (trimL l) :=
  trimL_ind (P := fun l r => Digs B l → Digs B r) (fun h => h) (fun l r k h => k h.left) (fun _ _ _ h => h) l h
theorem trimL_norm (l : List Int) : Norm (trimL l) :=
  trimL_ind (P := fun _ r => Norm r) Norm.nil (fun _ _ h => h) (fun l d hd x hx => by simp at hx; omega) l
theorem trimL_len (l : List Int) : (trimL l).length ≤ l.length :=
  trimL_ind (P := fun l r => r.length ≤ l.length) (Nat.le_refl _) (fun l r h => by simp; omega) (fun _ _ _ => Nat.le_refl _) l
theorem trimL_of_norm {l : List Int} (h : Norm l) : trimL l = l := by
  rcases List.eq_nil_or_concat l with rfl | ⟨m, d, rfl⟩
  · rfl
  · rw [List.concat_eq_append] at *
    exact trimL_snoc m (h d (by simp))
theorem trimL_dgs {B : Nat} (hB : 2 ≤ B) {l : List Int} {n : Nat} (h1 : Digs B l) (h3 : val B l = n) : trimL l = dgs B n :=
  dgs_of hB (trimL_digs h1) (trimL_norm l) (by rw [trimL_val, h3])
theorem dgs_len {B : Nat} (hB : 2 ≤ B) : ∀ (m n : Nat), n < B ^ m → (dgs B n).length ≤ m
  | 0, n, h => by
    have : n = 0 := by simpa using h
    subst this
    simp [dgs_zero]
  | m + 1, n, h => by
    rcases Nat.eq_zero_or_pos n with rfl | hn
    · simp [dgs_zero]
    · rw [dgs_pos hB hn, List.length_cons]
      have : n / B < B ^ m := by
        rw [Nat.pow_succ, Nat.mul_comm] at h
        exact Nat.div_lt_of_lt_mul h
      have := dgs_len hB m (n / B) this
      omega
theorem rd_at {l : List Int} {i : Nat} (h : i < l.length) : rd l (i : Int) = l[i] := by
  unfold rd
  simp [List.getD_eq_getElem?_getD, h]
theorem rd_digs {B : Int} {l : List Int} (hl : Digs B l) {i : Nat} (h : i < l.length) : 0 ≤ rd l (i : Int) ∧ rd l (i : Int) < B := by
  rw [rd_at h]
  exact hl _ (List.getElem_mem h)
theorem drop_at {l : List Int} {i : Nat} (h : i < l.length) : l.drop i = rd l (i : Int) :: l.drop (i + 1) := by
  rw [rd_at h]
  exact List.drop_eq_getElem_cons h
theorem set_at (l : List Int) (z x : Int) (n : Nat) : (l ++ List.replicate (n + 1) z).set l.length x = (l ++ [x]) ++ List.replicate n z := by
  rw [List.set_append_right _ _ (Nat.le_refl _), Nat.sub_self, List.replicate_succ, List.set_cons_zero, List.append_assoc]
  rfl
theorem take_at {l : List Int} {i : Nat} (h : i < l.length) : l.take (i + 1) = l.take i ++ [rd l (i : Int)] := by
  rw [rd_at h, List.take_succ_eq_append_getElem h]
end Go.Proofs.YtiikfhdmclmjmaaDoor.Pure
namespace Go.Proofs.YtiikfhdmclmjmaaDoor.P
open Go.RowKit Go.Proofs.YtiikfhdmclmjmaaDoorW.PrintWords Go.Proofs.YtiikfhdmclmjmaaDoorW.PrintLast
set_option linter.unusedVariables false
set_option linter.unusedSimpArgs false
def integer_Compare.f (k : Nat) (a0_0 : Bool) (l0_1 : List Int) (a1_0 : Bool) (l1_1 : List Int) : Option (Int) := if (a0_0 != a1_0) = true then (if a0_0 = true then (some (-1)) else (some 1)) else (if a0_0 = true then ((integer_order.f k l1_1 l0_1).bind fun t439 => (some t439)) else ((integer_order.f k l0_1 l1_1).bind fun t440 => (some t440)))
theorem integer_Compare.mono : ∀ a0 a1 a2 a3 k, LeO (integer_Compare.f k a0 a1 a2 a3) (integer_Compare.f (k + 1) a0 a1 a2 a3) := by
  intro a0 a1 a2 a3 k
  unfold integer_Compare.f
  repeat' first
      | (with_reducible exact integer_order.mono _ _ _)
      | (with_reducible exact LeO.refl _)
      | (with_reducible exact LeO.none _)
      | (with_reducible refine LeO.ite ?_ ?_)
      | (with_reducible refine LeO.bind ?_ (fun _ => ?_))
      | exact integer_order.mono _ _ _
      | exact LeO.none _
      | refine LeO.ite ?_ ?_
      | refine LeO.bind ?_ (fun _ => ?_)
end Go.Proofs.YtiikfhdmclmjmaaDoor.P
namespace Go.Proofs.YtiikfhdmclmjmaaDoor.Pure
open Go.RowKit Go.Proofs.YtiikfhdmclmjmaaDoorW.PrintWords Go.Proofs.YtiikfhdmclmjmaaDoor.P
set_option linter.unusedVariables false
set_option linter.unusedSimpArgs false
abbrev BB : Nat := 4294967296
theorem BB2 : 2 ≤ BB := by decide
abbrev lm (z : Int) : List Int := dgs BB z.natAbs
theorem lm_digs (z : Int) : Digs 4294967296 (lm z) := dgs_digs BB2 _
theorem lm_norm (z : Int) : Norm (lm z) := dgs_norm BB2 _
theorem lm_val (z : Int) : val 4294967296 (lm z) = z.natAbs := dgs_val BB2 _
theorem lm_nil {z : Int} : lm z = [] ↔ z = 0 := by rw [lm, dgs_nil BB2]; omega
theorem lm_len0 {z : Int} : (lm z).length = 0 ↔ z = 0 := by rw [List.length_eq_zero_iff, lm_nil]
theorem trim_ev (l : List Int) (h : l.length ≤ 4611686018427387904) : Ev (fun k => integer_trim.f k l) (trimL l) := by
  show Ev (fun k => integer_trim.l0 k l) (trimL l)
  revert h
  refine trimL_ind (P := fun l r => l.length ≤ 4611686018427387904 → Ev (fun k => integer_trim.l0 k l) r) ?_ ?_ ?_ l
  · intro _
    exact Ev.step (fun k => integer_trim.l0.eq_2 ..) (Ev.neg (by simp) (Ev.now _))
  · intro l r ih h
    have hq : (l ++ [0]).length = l.length + 1 := by simp
    have e : wrap64 (((l ++ [0]).length : Int) - 1) = (l.length : Int) := by
      rw [w64 _ (by omega) (by omega)]
      omega
    refine Ev.step (fun k => integer_trim.l0.eq_2 ..) ?_
    rw [e]
    refine Ev.pos (by omega) (Ev.pos (by omega) (Ev.pos (by omega) (Ev.pos ?_ (Ev.pos (by omega) ?_))))
    · rw [rd_at (by simp)]; simp
    · have : (l ++ [0]).take ((l.length : Int) : Int).toNat = l := by simp
      rw [this]
      exact ih (by simp at h; omega)
  · intro l d hd h
    have hq : (l ++ [d]).length = l.length + 1 := by simp
    have e : wrap64 (((l ++ [d]).length : Int) - 1) = (l.length : Int) := by
      rw [w64 _ (by omega) (by omega)]
      omega
    refine Ev.step (fun k => integer_trim.l0.eq_2 ..) ?_
    rw [e]
    refine Ev.pos (by omega) (Ev.pos (by omega) (Ev.pos (by omega) (Ev.neg ?_ (Ev.now _))))
    rw [rd_at (by simp)]; simpa using hd
theorem signed_ev (neg : Bool) (l : List Int) (n : Nat) (hl : l.length ≤ 4611686018427387904) (hd : Digs 4294967296 l) (hv : val 4294967296 l = n) :
    Ev (fun k => integer_signed.f k neg l) (decide (neg = true ∧ n ≠ 0), dgs BB n) := by
  have ht : trimL l = dgs BB n := trimL_dgs BB2 hd hv
  refine Ev.bind (trim_ev l hl) ?_
  rw [ht]
  by_cases hn : neg = true
  · refine Ev.pos hn (Ev.some_ ?_)
    have : (0 < (dgs BB n).length) = (neg = true ∧ n ≠ 0) := by
      apply propext
      rw [Nat.pos_iff_ne_zero, Ne, List.length_eq_zero_iff, dgs_nil BB2]
      simp [hn]
    simp only [this]
  · refine Ev.neg hn (Ev.some_ ?_)
    simp [hn]
theorem signed_mk {neg : Bool} {n : Nat} {z : Int} (h : z = if neg = true then -(n : Int) else n) : ((decide (neg = true ∧ n ≠ 0), dgs BB n) : Bool × List Int) = (decide (z < 0), lm z) := by
  have h1 : z.natAbs = n := by split at h <;> omega
  have h2 : (neg = true ∧ n ≠ 0) = (z < 0) := by
    apply propext
    split at h
    · rename_i hn
      simp only [hn, true_and]
      omega
    · rename_i hn
      exact ⟨fun hh => absurd hh.1 hn, fun hh => by omega⟩
  rw [lm, h1]
  simp only [h2]
theorem signed_to (neg : Bool) (l : List Int) (n : Nat) (z : Int) (hl : l.length ≤ 4611686018427387904) (hd : Digs 4294967296 l) (hv : val 4294967296 l = n) (hz : z = if neg = true then -(n : Int) else n) :
    Ev (fun k => integer_signed.f k neg l) (decide (z < 0), lm z) := signed_mk hz ▸ signed_ev neg l n hl hd hv
theorem from_ev (z : Int) (h0 : -9223372036854775808 ≤ z) (h1 : z ≤ 9223372036854775807) : Ev (fun k => integer_From.f k z) (decide (z < 0), lm z) := by
  unfold integer_From.f
  by_cases hz : z < 0
  · refine Ev.pos hz ?_
    have e : IntKind.u64.wrap (-(IntKind.u64.wrap z)) = (z.natAbs : Int) := by simp only [u64]; omega
    rw [e]
    refine Ev.bind (signed_to true _ z.natAbs z (by simp) ?_ ?_ (by simp; omega)) (Ev.some_ (by simp [hz]))
    · exact Digs.mk (by omega) (by omega) (Digs.mk (by omega) (by omega) (Digs.nil _))
    · simp only [val]; omega
  · refine Ev.neg hz ?_
    have e : IntKind.u64.wrap z = (z.natAbs : Int) := by simp only [u64]; omega
    rw [e]
    refine Ev.bind (signed_to false _ z.natAbs z (by simp) ?_ ?_ (by simp; omega)) (Ev.some_ (by simp [hz]))
    · exact Digs.mk (by omega) (by omega) (Digs.mk (by omega) (by omega) (Digs.nil _))
    · simp only [val]; omega
theorem neg_eq (z : Int) : integer_Neg.f (decide (z < 0)) (lm z) = some (decide (-z < 0), lm (-z)) := by
  have e : lm (-z) = lm z := by rw [lm, lm, Int.natAbs_neg]
  unfold integer_Neg.f
  rw [e]
  by_cases h2 : z < 0
  · rw [if_pos (by simpa using h2)]
    have : ¬ (-z < 0) := by omega
    simp only [decide_eq_false this]
  · rw [if_neg (by simpa using h2)]
    have : (0 < (lm z).length) = (-z < 0) := by
      apply propext
      have := lm_len0 (z := z)
      omega
    simp only [this]
theorem abs_eq (z : Int) (b : Bool) : integer_Abs.f b (lm z) = some (decide ((z.natAbs : Int) < 0), lm z.natAbs) := by
  have : ¬ ((z.natAbs : Int) < 0) := by omega
  simp [integer_Abs.f, lm, this]
def ordL : List Int → List Int → Int
  | [], _ => 0
  | _, [] => 0
  | a :: l, b :: m => if ordL l m ≠ 0 then ordL l m else if a = b then 0 else if a < b then -1 else 1
theorem ordL_val {B : Int} (hB : 0 < B) : ∀ {l m : List Int}, l.length = m.length → Digs B l → Digs B m → ordL l m = (val B l - val B m).sign
  | [], [], _, _, _ => rfl
  | a :: l, b :: m, hlen, hl, hm => by
    have ih := ordL_val hB (l := l) (m := m) (by simpa using hlen) hl.cons.2 hm.cons.2
    have ha := hl.cons.1
    have hb := hm.cons.1
    simp only [ordL, val]
    rw [ih]
    rcases Int.lt_trichotomy (val B l) (val B m) with h | h | h
    · have h1 : B * (val B l + 1) ≤ B * val B m := Int.mul_le_mul_of_nonneg_left (by omega) (by omega)
      rw [Int.mul_add, Int.mul_one] at h1
      rw [Int.sign_eq_neg_one_of_neg (show val B l - val B m < 0 by omega), Int.sign_eq_neg_one_of_neg (show a + B * val B l - (b + B * val B m) < 0 by omega)]
      simp
    · rw [h, show val B m - val B m = 0 by omega]
      simp only [Int.sign_zero, ne_eq, not_true, if_false]
      rcases Int.lt_trichotomy a b with k | k | k
      · rw [if_neg (by omega), if_pos k, Int.sign_eq_neg_one_of_neg (by omega)]
      · rw [if_pos k, k, show b + B * val B m - (b + B * val B m) = 0 by omega]; rfl
      · rw [if_neg (by omega), if_neg (by omega), Int.sign_eq_one_of_pos (by omega)]
    · have h1 : B * (val B m + 1) ≤ B * val B l := Int.mul_le_mul_of_nonneg_left (by omega) (by omega)
      rw [Int.mul_add, Int.mul_one] at h1
      rw [Int.sign_eq_one_of_pos (show 0 < val B l - val B m by omega), Int.sign_eq_one_of_pos (show 0 < a + B * val B l - (b + B * val B m) by omega)]
      simp
theorem pow_mono {B : Int} (hB : 0 < B) {i j : Nat} (h : i ≤ j) : B ^ i ≤ B ^ j := by
  obtain ⟨d, rfl⟩ := Nat.exists_eq_add_of_le h
  clear h
  induction d with
  | zero => exact Int.le_refl _
  | succ d ih =>
    rw [← Nat.add_assoc, Int.pow_succ]
    have h1 : 0 < B ^ (i + d) := Int.pow_pos hB
    have := Int.mul_le_mul_of_nonneg_left (show 1 ≤ B by omega) (Int.le_of_lt h1)
    rw [Int.mul_one] at this
    omega
theorem norm_low {B : Int} (hB : 0 < B) : ∀ {l : List Int}, Digs B l → Norm l → l ≠ [] → B ^ (l.length - 1) ≤ val B l
  | [], _, _, h => absurd rfl h
  | [d], hd, hn, _ => by
    have := norm_pos hB hd hn (by simp)
    show B ^ 0 ≤ _
    rw [Int.pow_zero]
    omega
  | d :: e :: l, hd, hn, _ => by
    have ih := norm_low hB hd.cons.2 hn.tail (by simp)
    have h1 := hd.cons.1.1
    simp only [List.length_cons, Nat.add_sub_cancel] at ih ⊢
    rw [Int.pow_succ, Int.mul_comm]
    have := Int.mul_le_mul_of_nonneg_left ih (Int.le_of_lt hB)
    simp only [val] at this ⊢
    omega
theorem len_lt_val {B : Int} (hB : 1 < B) {l m : List Int} (hl : Digs B l) (hm : Digs B m) (nm : Norm m) (h : l.length < m.length) : val B l < val B m := by
  have h1 := val_lt (by omega : 0 < B) hl
  have h2 := norm_low (by omega : 0 < B) hm nm (by intro e; simp [e] at h)
  have h3 : B ^ l.length ≤ B ^ (m.length - 1) := pow_mono (by omega) (by omega)
  omega
theorem order_l0 (l m : List Int) (hlen : l.length = m.length) (hm : l.length ≤ 4611686018427387904) : ∀ i : Nat, i ≤ l.length → ordL (l.drop i) (m.drop i) = 0 → Ev (fun k => integer_order.l0 k l m ((i : Int) - 1)) (ordL l m)
  | 0, _, h => by
    refine Ev.step (fun k => integer_order.l0.eq_2 ..) (Ev.neg (by omega) (Ev.some_ ?_))
    simpa using h.symm
  | i + 1, hi, h => by
    have e : (((i + 1 : Nat) : Int) - 1) = (i : Int) := by omega
    rw [e]
    have hs : ordL (l.drop i) (m.drop i) = if rd l (i : Int) = rd m (i : Int) then 0 else if rd l (i : Int) < rd m (i : Int) then -1 else 1 := by
      rw [drop_at (l := l) (by omega), drop_at (l := m) (by omega)]
      simp [ordL, h]
    refine Ev.step (fun k => integer_order.l0.eq_2 ..) ?_
    refine Ev.pos (by omega) (Ev.pos (by omega) (Ev.pos (by omega) (Ev.pos (by omega) ?_)))
    rw [w64 ((i : Int) - 1) (by omega) (by omega)]
    by_cases hq : rd l (i : Int) = rd m (i : Int)
    · exact Ev.pos hq (order_l0 l m hlen hm i (by omega) (by rw [hs, if_pos hq]))
    · refine Ev.neg hq ?_
      have hne : ordL (l.drop i) (m.drop i) = ordL l m := ordL_drop l m i (by rw [hs, if_neg hq]; split <;> decide)
      rw [if_neg hq] at hs
      rw [← hne, hs]
      by_cases hq2 : rd l (i : Int) < rd m (i : Int)
      · exact Ev.pos hq2 (Ev.some_ (by rw [if_pos hq2]))
      · exact Ev.neg hq2 (Ev.some_ (by rw [if_neg hq2]))
where
  ordL_drop : ∀ (l m : List Int) (i : Nat), ordL (l.drop i) (m.drop i) ≠ 0 → ordL (l.drop i) (m.drop i) = ordL l m
    | l, m, 0, _ => rfl
    | [], m, i + 1, h => by simp [ordL] at h
    | a :: l, [], i + 1, h => by
      rw [List.drop_nil] at h
      cases hq : (a :: l).drop (i + 1) <;> simp [ordL, hq] at h
    | a :: l, b :: m, i + 1, h => by
      have ih := ordL_drop l m i h
      simp only [List.drop_succ_cons] at h ⊢
      rw [ih] at h ⊢
      simp [ordL, h]
theorem order_ev (l m : List Int) (hl : Digs 4294967296 l) (hm : Digs 4294967296 m) (nl : Norm l) (nm : Norm m) (h1 : l.length ≤ 4611686018427387904) (h2 : m.length ≤ 4611686018427387904) :
    Ev (fun k => integer_order.f k l m) (val 4294967296 l - val 4294967296 m).sign := by
  unfold integer_order.f
  by_cases h : (l.length : Int) = (m.length : Int)
  · refine Ev.pos h ?_
    rw [w64 _ (by omega) (by omega), ← ordL_val (by decide) (by omega) hl hm]
    refine order_l0 l m (by omega) h1 l.length (Nat.le_refl _) ?_
    rw [List.drop_of_length_le (Nat.le_refl _)]
    rfl
  · refine Ev.neg h ?_
    by_cases h3 : (l.length : Int) < (m.length : Int)
    · have := len_lt_val (B := 4294967296) (by decide) hl hm nm (by omega)
      exact Ev.pos h3 (Ev.some_ (by rw [Int.sign_eq_neg_one_of_neg (by omega)]))
    · have := len_lt_val (B := 4294967296) (by decide) hm hl nl (by omega)
      exact Ev.neg h3 (Ev.some_ (by rw [Int.sign_eq_one_of_pos (by omega)]))
theorem lorder_ev (x y : Int) (h1 : (lm x).length ≤ 4611686018427387904) (h2 : (lm y).length ≤ 4611686018427387904) :
    Ev (fun k => integer_order.f k (lm x) (lm y)) ((x.natAbs : Int) - y.natAbs).sign := by
  have := order_ev (lm x) (lm y) (lm_digs x) (lm_digs y) (lm_norm x) (lm_norm y) h1 h2
  rwa [lm_val, lm_val] at this
end Go.Proofs.YtiikfhdmclmjmaaDoor.Pure
namespace Go.Proofs.YtiikfhdmclmjmaaDoor.Pure
open Go.RowKit Go.Proofs.YtiikfhdmclmjmaaDoorW.PrintWords Go.Proofs.YtiikfhdmclmjmaaDoor.P
set_option linter.unusedVariables false
set_option linter.unusedSimpArgs false
theorem or_high (x d : Int) (hx : 0 ≤ x) (hx1 : x < 4294967296) (hd : 0 ≤ d) (hd1 : d < 4294967296) : Go.bits .or .u64 (x * 4294967296) d = x * 4294967296 + d :=
  bits_join .u64 64 (by decide) (fun n h0 h1 => u64s n h0 h1) 32 _ d (by omega) (by omega) (by omega) hd hd1 (by omega)
def hd0 : List Int → Int
  | [] => 0
  | a :: _ => a
theorem hd0_digs {B : Int} (hB : 0 < B) {l : List Int} (h : Digs B l) : 0 ≤ hd0 l ∧ hd0 l < B := by
  cases l with
  | nil => exact ⟨Int.le_refl _, hB⟩
  | cons a l => exact h.cons.1
theorem tail_digs {B : Int} {l : List Int} (h : Digs B l) : Digs B l.tail := fun x hx => h x (List.mem_of_mem_tail hx)
theorem val_hd (B : Int) (l : List Int) : val B l = hd0 l + B * val B l.tail := by
  cases l with
  | nil => simp [hd0, val]
  | cons a l => rfl
theorem drop_hd (l : List Int) (i : Nat) : hd0 (l.drop i) = if i < l.length then rd l (i : Int) else 0 := by
  by_cases h : i < l.length
  · rw [if_pos h, drop_at h]; rfl
  · rw [if_neg h, List.drop_of_length_le (by omega)]; rfl
theorem drop_tl (l : List Int) (i : Nat) : (l.drop i).tail = l.drop (i + 1) := by rw [List.tail_drop]
theorem set_mid {l : List Int} {i n : Nat} {z x j : Int} (hi : l.length = i) (hj : j = (i : Int)) (h : 0 < n) : (l ++ List.replicate n z).set j.toNat x = (l ++ [x]) ++ List.replicate (n - 1) z := by
  obtain ⟨m, rfl⟩ : ∃ m, n = m + 1 := ⟨n - 1, by omega⟩
  rw [hj, Int.toNat_natCast, ← hi, set_at]
  rfl
theorem app_cons (p : List Int) (x : Int) (q : List Int) : p ++ x :: q = p ++ [x] ++ q := by simp
def plusR (B : Int) : List Int → List Int → Int → List Int
  | [], _, c => [c % B]
  | a :: l, m, c => ((c + a + hd0 m) % B) :: plusR B l m.tail ((c + a + hd0 m) / B)
theorem plusR_len (B : Int) : ∀ l m c, (plusR B l m c).length = l.length + 1
  | [], _, _ => rfl
  | a :: l, m, c => by simp [plusR, plusR_len B l]
theorem plusR_all : ∀ (l m : List Int) (c : Int), Digs 4294967296 l → Digs 4294967296 m → m.length ≤ l.length → 0 ≤ c → c ≤ 1 → Digs 4294967296 (plusR 4294967296 l m c) ∧ val 4294967296 (plusR 4294967296 l m c) = val 4294967296 l + val 4294967296 m + c
  | [], m, c, _, hm, hlen, h0, h1 => by
    obtain rfl : m = [] := List.length_eq_zero_iff.1 (by simpa using hlen)
    refine ⟨Digs.mk (by omega) (by omega) (Digs.nil _), ?_⟩
    simp only [plusR, val]
    omega
  | a :: l, m, c, hl, hm, hlen, h0, h1 => by
    have ha := hl.cons.1
    have hb := hd0_digs (by decide) hm
    have ih := plusR_all l m.tail ((c + a + hd0 m) / 4294967296) hl.cons.2 (tail_digs hm) (by simp at hlen ⊢; omega) (by omega) (by omega)
    have hv := val_hd 4294967296 m
    refine ⟨Digs.mk (by omega) (by omega) ih.1, ?_⟩
    simp only [plusR, val, ih.2]
    omega
theorem plus_l1 : ∀ k x0 x1 x5 x6 x20 x21 x22, integer_plus.l1 k x0 x1 x5 x6 x20 x21 x22 = integer_plus.l0 k x0 x1 x5 x6 x20 x21 x22
  | 0, _, _, _, _, _, _, _ => rfl
  | k + 1, x0, x1, x5, x6, x20, x21, x22 => by
    rw [integer_plus.l1.eq_2, integer_plus.l0.eq_2]
    simp only [plus_l1 k]
theorem plus_l0 (l m : List Int) (hl : Digs 4294967296 l) (hm : Digs 4294967296 m) (hlen : m.length ≤ l.length) (hmax : l.length ≤ 70368744177663) :
    ∀ (n i : Nat) (p : List Int) (c : Int), l.length - i = n → i ≤ l.length → p.length = i → 0 ≤ c → c ≤ 1 →
      Ev (fun k => integer_plus.l0 k l m (p ++ List.replicate (l.length + 1 - i) 0) c l (l.length : Int) (i : Int)) (p ++ plusR 4294967296 (l.drop i) (m.drop i) c)
  | 0, i, p, c, hn, hi, hp, h0, h1 => by
    obtain rfl : i = l.length := by omega
    have e : l.length + 1 - l.length = 1 := by omega
    rw [e]
    refine Ev.step (fun k => integer_plus.l0.eq_2 ..) (Ev.neg (by omega) (Ev.pos (by omega) (Ev.pos (by rw [List.length_append, List.length_replicate, hp]; omega) (Ev.some_ ?_))))
    rw [set_mid hp rfl (by omega), List.drop_of_length_le (Nat.le_refl _)]
    simp [plusR]
  | n + 1, i, p, c, hn, hi, hp, h0, h1 => by
    have ha := rd_digs hl (show i < l.length by omega)
    have ew : wrap64 ((i : Int) + 1) = ((i + 1 : Nat) : Int) := by rw [w64 _ (by omega) (by omega)]; omega
    have hb := hd0_digs (by decide) (hm.drop i)
    have hlen2 : (p ++ List.replicate (l.length + 1 - i) (0 : Int)).length = l.length + 1 := by simp [hp]; omega
    have es : plusR 4294967296 (l.drop i) (m.drop i) c = ((c + rd l (i : Int) + hd0 (m.drop i)) % 4294967296) :: plusR 4294967296 (l.drop (i + 1)) (m.drop (i + 1)) ((c + rd l (i : Int) + hd0 (m.drop i)) / 4294967296) := by
      rw [drop_at (l := l) (by omega)]
      simp only [plusR, drop_tl]
    have hr : l.length + 1 - i - 1 = l.length + 1 - (i + 1) := by omega
    have ih := plus_l0 l m hl hm hlen hmax n (i + 1) (p ++ [(c + rd l (i : Int) + hd0 (m.drop i)) % 4294967296]) ((c + rd l (i : Int) + hd0 (m.drop i)) / 4294967296) (by omega) (by omega) (by simp [hp]) (by omega) (by omega)
    rw [es, app_cons]
    refine Ev.step (fun k => integer_plus.l0.eq_2 ..) (Ev.pos (by omega) (Ev.pos (by omega) (Ev.pos (by omega) ?_)))
    rw [ew]
    rw [drop_hd] at ih hb
    by_cases hj : i < m.length
    · rw [if_pos hj] at ih hb
      have e1 : IntKind.u64.wrap ((IntKind.u64.wrap (c + (IntKind.u64.wrap (rd l (i : Int))))) + (IntKind.u64.wrap (rd m (i : Int)))) = c + rd l (i : Int) + rd m (i : Int) := by
        simp only [u64]; omega
      refine Ev.pos (by omega) (Ev.pos (by omega) ?_)
      rw [e1, set_mid hp rfl (by omega), hr, drop_hd, if_pos hj]
      exact ih
    · rw [if_neg hj] at ih hb
      have e1 : IntKind.u64.wrap (c + (IntKind.u64.wrap (rd l (i : Int)))) = c + rd l (i : Int) + 0 := by
        simp only [u64]; omega
      refine Ev.neg (by omega) (Ev.pos (by omega) ?_)
      rw [e1, set_mid hp rfl (by omega), hr, drop_hd, if_neg hj]
      exact ih
theorem plus_ev (l m : List Int) (hl : Digs 4294967296 l) (hm : Digs 4294967296 m) (h1 : l.length ≤ 70368744177663) (h2 : m.length ≤ 70368744177663) :
    ∃ r, Ev (fun k => integer_plus.f k l m) r ∧ Digs 4294967296 r ∧ val 4294967296 r = val 4294967296 l + val 4294967296 m ∧ r.length ≤ 70368744177664 := by
  unfold integer_plus.f
  by_cases h : (l.length : Int) < (m.length : Int)
  · have hr := plusR_all m l 0 hm hl (by omega) (by omega) (by omega)
    refine ⟨plusR 4294967296 m l 0, ?_, hr.1, by rw [hr.2]; omega, by rw [plusR_len]; omega⟩
    refine Ev.pos h ?_
    rw [w64 _ (by omega) (by omega)]
    refine Ev.pos (by omega) (Ev.pos (by omega) ?_)
    have := plus_l0 m l hm hl (by omega) h2 m.length 0 [] 0 (by omega) (by omega) rfl (by omega) (by omega)
    rw [show ((m.length : Int) + 1).toNat = m.length + 1 - 0 by omega]
    simpa using this
  · have hr := plusR_all l m 0 hl hm (by omega) (by omega) (by omega)
    refine ⟨plusR 4294967296 l m 0, ?_, hr.1, by rw [hr.2]; omega, by rw [plusR_len]; omega⟩
    refine Ev.neg h ?_
    rw [w64 _ (by omega) (by omega)]
    refine Ev.pos (by omega) (Ev.pos (by omega) ?_)
    have := plus_l0 l m hl hm (by omega) h1 l.length 0 [] 0 (by omega) (by omega) rfl (by omega) (by omega)
    rw [show ((l.length : Int) + 1).toNat = l.length + 1 - 0 by omega]
    simp only [plus_l1]
    simpa using this
def minusR (B : Int) : List Int → List Int → Int → List Int
  | [], _, _ => []
  | a :: l, m, c => ((a - c - hd0 m) % B) :: minusR B l m.tail (if a - c - hd0 m < 0 then 1 else 0)
theorem minusR_len (B : Int) : ∀ l m c, (minusR B l m c).length = l.length
  | [], _, _ => rfl
  | a :: l, m, c => by simp [minusR, minusR_len B l]
theorem minusR_all : ∀ (l m : List Int) (c : Int), Digs 4294967296 l → Digs 4294967296 m → val 4294967296 m + c ≤ val 4294967296 l → 0 ≤ c → c ≤ 1 → Digs 4294967296 (minusR 4294967296 l m c) ∧ val 4294967296 (minusR 4294967296 l m c) = val 4294967296 l - val 4294967296 m - c
  | [], m, c, _, hm, hle, h0, h1 => by
    refine ⟨Digs.nil _, ?_⟩
    have := val_nonneg (B := 4294967296) (by decide) hm
    simp only [minusR, val] at *
    omega
  | a :: l, m, c, hl, hm, hle, h0, h1 => by
    have ha := hl.cons.1
    have hb := hd0_digs (by decide) hm
    have hv := val_hd 4294967296 m
    simp only [val] at hle
    have ih := minusR_all l m.tail (if a - c - hd0 m < 0 then 1 else 0) hl.cons.2 (tail_digs hm) (by split <;> omega) (by split <;> omega) (by split <;> omega)
    refine ⟨Digs.mk (by omega) (by omega) ih.1, ?_⟩
    simp only [minusR, val, ih.2]
    split <;> omega
theorem minus_l0 (l m : List Int) (hl : Digs 4294967296 l) (hm : Digs 4294967296 m) (hmax : l.length ≤ 70368744177664) :
    ∀ (n i : Nat) (p : List Int) (c : Int), l.length - i = n → i ≤ l.length → p.length = i → 0 ≤ c → c ≤ 1 →
      Ev (fun k => integer_minus.l0 k m (p ++ List.replicate (l.length - i) 0) c l (l.length : Int) (i : Int)) (p ++ minusR 4294967296 (l.drop i) (m.drop i) c)
  | 0, i, p, c, hn, hi, hp, h0, h1 => by
    obtain rfl : i = l.length := by omega
    refine Ev.step (fun k => integer_minus.l0.eq_2 ..) (Ev.neg (by omega) (Ev.some_ ?_))
    rw [Nat.sub_self, List.drop_of_length_le (Nat.le_refl _)]
    simp [minusR]
  | n + 1, i, p, c, hn, hi, hp, h0, h1 => by
    have ha := rd_digs hl (show i < l.length by omega)
    have ew : wrap64 ((i : Int) + 1) = ((i + 1 : Nat) : Int) := by rw [w64 _ (by omega) (by omega)]; omega
    have hb := hd0_digs (by decide) (hm.drop i)
    have hlen2 : (p ++ List.replicate (l.length - i) (0 : Int)).length = l.length := by simp [hp]; omega
    have es : minusR 4294967296 (l.drop i) (m.drop i) c = ((rd l (i : Int) - c - hd0 (m.drop i)) % 4294967296) :: minusR 4294967296 (l.drop (i + 1)) (m.drop (i + 1)) (if rd l (i : Int) - c - hd0 (m.drop i) < 0 then 1 else 0) := by
      rw [drop_at (l := l) (by omega)]
      simp only [minusR, drop_tl]
    have hr : l.length - i - 1 = l.length - (i + 1) := by omega
    have ih := minus_l0 l m hl hm hmax n (i + 1) (p ++ [(rd l (i : Int) - c - hd0 (m.drop i)) % 4294967296]) (if rd l (i : Int) - c - hd0 (m.drop i) < 0 then 1 else 0) (by omega) (by omega) (by simp [hp]) (by split <;> omega) (by split <;> omega)
    rw [es, app_cons]
    refine Ev.step (fun k => integer_minus.l0.eq_2 ..) (Ev.pos (by omega) (Ev.pos (by omega) (Ev.pos (by omega) ?_)))
    rw [ew]
    rw [drop_hd] at ih hb
    by_cases hj : i < m.length
    · rw [if_pos hj] at ih hb
      have e1 : wrap64 ((wrap64 ((wrap64 (rd l (i : Int))) - c)) - (wrap64 (rd m (i : Int)))) = rd l (i : Int) - c - rd m (i : Int) := by
        rw [w64 (rd l (i : Int)) (by omega) (by omega), w64 (rd l (i : Int) - c) (by omega) (by omega), w64 (rd m (i : Int)) (by omega) (by omega), w64 _ (by omega) (by omega)]
      refine Ev.pos (by omega) ?_
      rw [e1, drop_hd, if_pos hj, set_mid hp rfl (by omega), hr]
      by_cases hs : rd l (i : Int) - c - rd m (i : Int) < 0
      · rw [if_pos hs] at ih ⊢
        exact Ev.pos hs (Ev.pos (by omega) ih)
      · rw [if_neg hs] at ih ⊢
        exact Ev.neg hs (Ev.pos (by omega) ih)
    · rw [if_neg hj] at ih hb
      have e1 : wrap64 ((wrap64 (rd l (i : Int))) - c) = rd l (i : Int) - c - 0 := by
        rw [w64 (rd l (i : Int)) (by omega) (by omega), w64 (rd l (i : Int) - c) (by omega) (by omega)]; omega
      refine Ev.neg (by omega) ?_
      rw [e1, drop_hd, if_neg hj, set_mid hp rfl (by omega), hr]
      by_cases hs : rd l (i : Int) - c - 0 < 0
      · rw [if_pos hs] at ih ⊢
        exact Ev.pos hs (Ev.pos (by omega) ih)
      · rw [if_neg hs] at ih ⊢
        exact Ev.neg hs (Ev.pos (by omega) ih)
theorem minus_ev (l m : List Int) (hl : Digs 4294967296 l) (hm : Digs 4294967296 m) (h1 : l.length ≤ 70368744177664) (hle : val 4294967296 m ≤ val 4294967296 l) :
    ∃ r, Ev (fun k => integer_minus.f k l m) r ∧ Digs 4294967296 r ∧ val 4294967296 r = val 4294967296 l - val 4294967296 m ∧ r.length = l.length := by
  unfold integer_minus.f
  have hr := minusR_all l m 0 hl hm (by omega) (by omega) (by omega)
  refine ⟨minusR 4294967296 l m 0, ?_, hr.1, by rw [hr.2]; omega, by rw [minusR_len]⟩
  refine Ev.pos (by omega) (Ev.pos (by omega) ?_)
  have := minus_l0 l m hl hm h1 l.length 0 [] 0 (by omega) (by omega) rfl (by omega) (by omega)
  rw [show ((l.length : Int) : Int).toNat = l.length - 0 by omega]
  simpa using this
theorem add_ev (x y : Int) (h1 : (lm x).length ≤ 70368744177663) (h2 : (lm y).length ≤ 70368744177663) :
    Ev (fun k => integer_Add.f k (decide (x < 0)) (lm x) (decide (y < 0)) (lm y)) (decide (x + y < 0), lm (x + y)) := by
  unfold integer_Add.f
  have hx := lm_val x
  have hy := lm_val y
  by_cases h : (decide (x < 0)) = (decide (y < 0))
  · have hxy : x < 0 ↔ y < 0 := by simpa using h
    refine Ev.pos (by simpa using h) ?_
    obtain ⟨r, hr, hd, hv, hl⟩ := plus_ev (lm x) (lm y) (lm_digs x) (lm_digs y) h1 h2
    refine Ev.bind hr (Ev.bind (signed_to _ r (x + y).natAbs (x + y) (by omega) hd (by omega) ?_) (Ev.now _))
    by_cases hx0 : x < 0
    · rw [if_pos (by simpa using hx0)]; omega
    · rw [if_neg (by simpa using hx0)]; omega
  · have hxy : ¬ (x < 0 ↔ y < 0) := by simpa using h
    refine Ev.neg (by simpa using h) ?_
    refine Ev.bind (lorder_ev x y (by omega) (by omega)) ?_
    by_cases ho : (y.natAbs : Int) ≤ x.natAbs
    · refine Ev.pos (by have := Int.sign_nonneg_iff.2 (show (0:Int) ≤ (x.natAbs : Int) - y.natAbs by omega); omega) ?_
      obtain ⟨r, hr, hd, hv, hl⟩ := minus_ev (lm x) (lm y) (lm_digs x) (lm_digs y) (by omega) (by omega)
      refine Ev.bind hr (Ev.bind (signed_to _ r (x + y).natAbs (x + y) (by omega) hd (by omega) ?_) (Ev.now _))
      by_cases hx0 : x < 0
      · rw [if_pos (by simpa using hx0)]; omega
      · rw [if_neg (by simpa using hx0)]; omega
    · refine Ev.neg (by rw [Int.sign_eq_neg_one_of_neg (by omega)]; omega) ?_
      obtain ⟨r, hr, hd, hv, hl⟩ := minus_ev (lm y) (lm x) (lm_digs y) (lm_digs x) (by omega) (by omega)
      refine Ev.bind hr (Ev.bind (signed_to _ r (x + y).natAbs (x + y) (by omega) hd (by omega) ?_) (Ev.now _))
      by_cases hy0 : y < 0
      · rw [if_pos (by simpa using hy0)]; omega
      · rw [if_neg (by simpa using hy0)]; omega
theorem sub_ev (x y : Int) (h1 : (lm x).length ≤ 70368744177663) (h2 : (lm y).length ≤ 70368744177663) :
    Ev (fun k => integer_Sub.f k (decide (x < 0)) (lm x) (decide (y < 0)) (lm y)) (decide (x - y < 0), lm (x - y)) := by
  unfold integer_Sub.f
  refine Ev.bind0 (neg_eq y) ?_
  have e : (lm (-y)).length = (lm y).length := by rw [lm, lm, Int.natAbs_neg]
  have := add_ev x (-y) h1 (by omega)
  rw [← Int.sub_eq_add_neg] at this
  exact Ev.bind this (Ev.now _)
end Go.Proofs.YtiikfhdmclmjmaaDoor.Pure
