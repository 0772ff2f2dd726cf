/- Part 5 of the proof of IntegerInts: what the program's functions compute, told as plain functions, and what these answer. Conditions: none beside the statement's own. Gathered by the session's program merge.py out of its own and the printed texts; no declaration that the proof does not name is left in. -/
import Derived.Test.YtiikfhdmclmjmaaDoorIInt4
import Derived.Lib.ItoaNum
set_option linter.unusedVariables false
set_option linter.unusedSimpArgs false
namespace Go.Proofs.YtiikfhdmclmjmaaDoor.P
open Go.RowKit Go.Proofs.YtiikfhdmclmjmaaDoorW.PrintWords Go.Proofs.YtiikfhdmclmjmaaDoorW.PrintLast
def dowelref01_From.l0 : Nat → Int → List Int → Int → Option (ByteArray)
 | 0, _, _, _ => none
 | k + 1, x0, x3, x4 => if x4 = 0 then ((dowelref01_text.f k (decide (x0 < 0)) x3).bind fun t460 => (some t460)) else (if (Int.tmod x4 10) < 0 then (if x3.length < 17592186044416 then (dowelref01_From.l0 k x0 (x3 ++ [wrap64 (-(Int.tmod x4 10))]) (wrap64 (Int.tdiv x4 10))) else (none)) else (if x3.length < 17592186044416 then (dowelref01_From.l0 k x0 (x3 ++ [Int.tmod x4 10]) (wrap64 (Int.tdiv x4 10))) else (none)))
def dowelref01_From.f (k : Nat) (a0 : Int) : Option (ByteArray) := dowelref01_From.l0 k a0 ([] : List Int) a0
theorem dowelref01_From.mono_l : ∀ k, (∀ y0 y1 y2, LeO (dowelref01_From.l0 k y0 y1 y2) (dowelref01_From.l0 (k + 1) y0 y1 y2))
 | 0 => fun _ _ _ r h => by simp [dowelref01_From.l0] at h
 | k + 1 => by
  have ih0 := dowelref01_From.mono_l k
  ·
   intro y0 y1 y2
   unfold dowelref01_From.l0
   repeat' first
   | (with_reducible exact ih0 _ _ _)
   | (with_reducible exact dowelref01_text.mono _ _ _)
   | (with_reducible exact LeO.refl _)
   | (with_reducible exact LeO.none _)
   | (with_reducible refine LeO.ite ?_ ?_)
   | (with_reducible refine LeO.bind ?_ (fun _ => ?_))
theorem dowelref01_From.mono : ∀ a0 k, LeO (dowelref01_From.f k a0) (dowelref01_From.f (k + 1) a0) := by
 intro a0 k
 have ih0 := dowelref01_From.mono_l k
 unfold dowelref01_From.f
 repeat' first
   | (with_reducible exact ih0 _ _ _)
   | (with_reducible exact dowelref01_text.mono _ _ _)
   | (with_reducible exact LeO.refl _)
   | (with_reducible exact LeO.none _)
   | (with_reducible refine LeO.ite ?_ ?_)
   | (with_reducible refine LeO.bind ?_ (fun _ => ?_))
set_option maxHeartbeats 8000000 in
set_option maxRecDepth 100000 in
theorem dowelref01_From.calls (k : Nat) (a0 : Int) (r : ByteArray) (w : World) (h : dowelref01_From.f k a0 = some r) :
  Calls Tryd.prog 18 #[.int .i64 a0] w fun e w' => e = .returned (.string r) ∧ Below w.heap.size w w' := by
 have HB := Aside0.mk (Below.refl w.heap.size w)
 have H := h
 unfold dowelref01_From.f at H
 clear h
 have H' := Aside0.mk H
 clear H
 go_enter Tryd.func18, Tryd.ntmps18
 go_wp2
 go_loopg [3, 4] k (fun kq v3 v4 w' => ∃ (x3_1 : List Int) (x4_1 : Int), v4 = .int .i64 x4_1 ∧ Aside0 (dowelref01_From.l0 kq a0 x3_1 x4_1 = some r) ∧ Aside0 (kq ≤ k) ∧ Aside0 (Kd.R (Kd.int .i64) 3 w' w.heap.size (fun _ => True) v3 x3_1) ∧ Aside0 (Below w.heap.size w w'))
 case atStart => exact ⟨(([] : List Int)), (a0), (by first | rfl | (simp; done) | (simp [*]; done) | (simp <;> omega)), H', ⟨Nat.le_refl _⟩, ⟨by first | exact Kd.R_nil _ _ _ _ _ | exact Kd.N_nil _ _ _ _ _ | exact Kd.V_nil _ _ _ _ _ | exact Kd.Q_nil _ _ _ _ _ | exact Kd.S_nil _ _ _ _ _⟩, ⟨below_up HB.out⟩⟩
 case round =>
  clear H'
  obtain ⟨x3_1, x4_1, rfl, HA, HK1, HO_3, HB⟩ := hrel
  cases gk with
  | zero => exact absurd HA.out (by simp [dowelref01_From.l0])
  | succ k1 =>
   have H := HA.out
   clear HA
   simp only [dowelref01_From.l0] at H
   by_cases c2 : x4_1 = 0
   ·
    rw [if_pos c2] at H
    have c2b0 : (x4_1 == 0) = true := beq_iff_eq.mpr c2
    have c2b1 : (x4_1 != 0) = false := bne_eq_false_iff_eq.mpr c2
    clear c2
    replace H := Option.bind_eq_some_iff.mp H
    obtain ⟨t460, A30, H⟩ := H
    try dsimp only at H
    have A3 := Aside0.mk A30
    clear A30
    obtain rfl := Option.some.inj H
    obtain ⟨Ao4, co4, eo4⟩ := Kd.R_slice HO_3.out
    subst eo4
    go_wp2_with (first | ((with_reducible refine gate_callee (f := 51) rfl ?_); refine gl_ (some 24) Tryd.func51 #[.bool (decide (a0 < 0)), .slice Ao4 x3_1.length co4] ?_; (with_reducible refine (dowelref01_text.calls k1 (decide (a0 < 0)) (fun k_ => some k_ = (.slice Ao4 x3_1.length co4 : Value).ownBlock) (.slice Ao4 x3_1.length co4) x3_1 t460 w _ ?side1 ?side2 A3.out).mono ?_); (case side1 => exact below_up HB.out); (case side2 => exact Kd.R_tight rfl HO_3.out); rintro e w5 ⟨rfl, hb, hkp⟩; refine ⟨_, rfl, ?_⟩; replace HB := Aside0.mk (hb); clear HO_3; (try clear hb); (try clear hkp)))
    go_ret
    exact ⟨by first | rfl | (simp [errW_none, errW_some] <;> rfl) | (simp [*, errW_none, errW_some] <;> rfl), below_up HB.out⟩
   ·
    rw [if_neg c2] at H
    have c2b0 : (x4_1 == 0) = false := beq_eq_false_iff_ne.mpr c2
    have c2b1 : (x4_1 != 0) = true := bne_iff_ne.mpr c2
    by_cases c6 : (Int.tmod x4_1 10) < 0
    ·
     rw [if_pos c6] at H
     have c6b0 := decide_eq_true c6
     clear c6
     obtain ⟨c7, H⟩ := ite_some H
     have LMc7 := Aside0.mk c7
     clear c7
     obtain ⟨y461, hy461⟩ : ∃ y_ : List Int, y_ = (x3_1 ++ [wrap64 (-(Int.tmod x4_1 10))]) := ⟨_, rfl⟩
     replace H : (dowelref01_From.l0 k1 a0 y461 (wrap64 (Int.tdiv x4_1 10))) = some r := by first | (rw [hy461]; exact H) | exact H
     have Ny461 := Aside0.mk hy461
     clear hy461
     have H' := Aside0.mk H
     clear H
     go_wp2_with (first | ((with_reducible refine gate_builtin (b := .append) (xs := #[.tmp 17, .tmp 19]) rfl ?_); at_builtin; refine Kd.R_append (Kd.int .i64) (w0 := w) w.heap.size rfl (.tmp 17) (.tmp 19) 67 3 (.int .i64 0) 8 rfl Tryd.underlying67 info3 rfl (by decide) (by omega) u3 x3_1 (wrap64 (-(Int.tmod x4_1 10))) [.int .i64 (wrap64 (-(Int.tmod x4_1 10)))] (fun _ => True) (fun _ => False) rfl rfl ?aP (fun _ hk => hk.elim) ?aF ?aO ?aB ?aS ?aL ?_; (case aP => exact rfl); (case aB => exact (below_up HB.out)); (case aF => exact (fun _ _ => trivial)); (case aO => exact (Kd.R_up HO_3.out)); (case aS => exact (below_size (below_up HB.out))); (case aL => have := LMc7.out; omega); intro v462 w8 ho hb hg hat; rw [← Ny461.out] at ho; replace HB := Aside0.mk (hb); have HO463 := Aside0.mk (ho); clear HO_3 ho hb hg hat))
     go_roundg k1
     case measure => have := HK1.out; omega
     case rel => exact ⟨(y461), (wrap64 (Int.tdiv x4_1 10)), (by first | rfl | (simp; done) | (simp [*]; done) | (simp <;> omega)), H', ⟨by have := HK1.out; omega⟩, ⟨Kd.R_up HO463.out⟩, ⟨below_up HB.out⟩⟩
    ·
     rw [if_neg c6] at H
     have c6b0 := decide_eq_false c6
     clear c6
     by_cases c9 : x3_1.length < 17592186044416
     ·
      rw [if_pos c9] at H
      have LMc9 := Aside0.mk c9
      clear c9
      obtain ⟨y464, hy464⟩ : ∃ y_ : List Int, y_ = (x3_1 ++ [Int.tmod x4_1 10]) := ⟨_, rfl⟩
      replace H : (dowelref01_From.l0 k1 a0 y464 (wrap64 (Int.tdiv x4_1 10))) = some r := by first | (rw [hy464]; exact H) | exact H
      have Ny464 := Aside0.mk hy464
      clear hy464
      have H' := Aside0.mk H
      clear H
      go_wp2_with (first | ((with_reducible refine gate_builtin (b := .append) (xs := #[.tmp 17, .tmp 19]) rfl ?_); at_builtin; refine Kd.R_append (Kd.int .i64) (w0 := w) w.heap.size rfl (.tmp 17) (.tmp 19) 67 3 (.int .i64 0) 8 rfl Tryd.underlying67 info3 rfl (by decide) (by omega) u3 x3_1 (Int.tmod x4_1 10) [.int .i64 (Int.tmod x4_1 10)] (fun _ => True) (fun _ => False) rfl rfl ?aP (fun _ hk => hk.elim) ?aF ?aO ?aB ?aS ?aL ?_; (case aP => exact rfl); (case aB => exact (below_up HB.out)); (case aF => exact (fun _ _ => trivial)); (case aO => exact (Kd.R_up HO_3.out)); (case aS => exact (below_size (below_up HB.out))); (case aL => have := LMc9.out; omega); intro v465 w10 ho hb hg hat; rw [← Ny464.out] at ho; replace HB := Aside0.mk (hb); have HO466 := Aside0.mk (ho); clear HO_3 ho hb hg hat))
      go_roundg k1
      case measure => have := HK1.out; omega
      case rel => exact ⟨(y464), (wrap64 (Int.tdiv x4_1 10)), (by first | rfl | (simp; done) | (simp [*]; done) | (simp <;> omega)), H', ⟨by have := HK1.out; omega⟩, ⟨Kd.R_up HO466.out⟩, ⟨below_up HB.out⟩⟩
     ·
      rw [if_neg c9] at H
      exact absurd H (by simp)
mutual
def dowelref01_Check.j0 : Nat → ByteArray → ByteArray → Bool → Option (Int)
 | 0, _, _, _ => none
 | k + 1, x0, x3, x16 => if x16 = true then (if 1 ≤ (x3.size : Int) then (dowelref01_Check.j1 k x0 (x3.extract 1 x3.size)) else (none)) else (dowelref01_Check.j1 k x0 x3)
def dowelref01_Check.j1 : Nat → ByteArray → ByteArray → Option (Int)
 | 0, _, _ => none
 | k + 1, x0, x3 => if (x3.size : Int) = 0 then (some 14) else (dowelref01_Check.l0 k x0 x3 0)
def dowelref01_Check.l0 : Nat → ByteArray → ByteArray → Int → Option (Int)
 | 0, _, _, _ => none
 | k + 1, x0, x3, x4 => if x4 < (x3.size : Int) then (if 0 ≤ x4 then (if (bt x3 x4) < 48 then (some 14) else (if (bt x3 x4) > 57 then (some 14) else (dowelref01_Check.l0 k x0 x3 (wrap64 (x4 + 1))))) else (none)) else (if 0 < (x3.size : Int) then (if (bt x3 0) = 48 then (if (x3.size : Int) > 1 then (some 3) else (if (x0.size : Int) > 1 then (some 3) else (some 0))) else (some 0)) else (none))
end
def dowelref01_Check.f (k : Nat) (a0 : ByteArray) : Option (Int) := if (a0.size : Int) > 65536 then (some 5) else (if (a0.size : Int) > 0 then (if 0 < (a0.size : Int) then (dowelref01_Check.j0 k a0 a0 ((bt a0 0) == 45)) else (none)) else (dowelref01_Check.j0 k a0 a0 false))
theorem dowelref01_Check.mono_l : ∀ k, (∀ y0 y1 y2, LeO (dowelref01_Check.j0 k y0 y1 y2) (dowelref01_Check.j0 (k + 1) y0 y1 y2)) ∧ (∀ y0 y1, LeO (dowelref01_Check.j1 k y0 y1) (dowelref01_Check.j1 (k + 1) y0 y1)) ∧ (∀ y0 y1 y2, LeO (dowelref01_Check.l0 k y0 y1 y2) (dowelref01_Check.l0 (k + 1) y0 y1 y2))
 | 0 => ⟨fun _ _ _ r h => by simp [dowelref01_Check.j0] at h, fun _ _ r h => by simp [dowelref01_Check.j1] at h, fun _ _ _ r h => by simp [dowelref01_Check.l0] at h⟩
 | k + 1 => by
  obtain ⟨ih0, ih1, ih2⟩ := dowelref01_Check.mono_l k
  refine ⟨?_, ?_, ?_⟩
  ·
   intro y0 y1 y2
   unfold dowelref01_Check.j0
   repeat' first
   | (with_reducible exact ih0 _ _ _)
   | (with_reducible exact ih1 _ _)
   | (with_reducible exact ih2 _ _ _)
   | (with_reducible exact LeO.refl _)
   | (with_reducible exact LeO.none _)
   | (with_reducible refine LeO.ite ?_ ?_)
   | (with_reducible refine LeO.bind ?_ (fun _ => ?_))
  ·
   intro y0 y1
   unfold dowelref01_Check.j1
   repeat' first
   | (with_reducible exact ih0 _ _ _)
   | (with_reducible exact ih1 _ _)
   | (with_reducible exact ih2 _ _ _)
   | (with_reducible exact LeO.refl _)
   | (with_reducible exact LeO.none _)
   | (with_reducible refine LeO.ite ?_ ?_)
   | (with_reducible refine LeO.bind ?_ (fun _ => ?_))
  ·
   intro y0 y1 y2
   unfold dowelref01_Check.l0
   repeat' first
   | (with_reducible exact ih0 _ _ _)
   | (with_reducible exact ih1 _ _)
   | (with_reducible exact ih2 _ _ _)
   | (with_reducible exact LeO.refl _)
   | (with_reducible exact LeO.none _)
   | (with_reducible refine LeO.ite ?_ ?_)
   | (with_reducible refine LeO.bind ?_ (fun _ => ?_))
theorem dowelref01_Check.mono : ∀ a0 k, LeO (dowelref01_Check.f k a0) (dowelref01_Check.f (k + 1) a0) := by
 intro a0 k
 obtain ⟨ih0, ih1, ih2⟩ := dowelref01_Check.mono_l k
 unfold dowelref01_Check.f
 repeat' first
   | (with_reducible exact ih0 _ _ _)
   | (with_reducible exact ih1 _ _)
   | (with_reducible exact ih2 _ _ _)
   | (with_reducible exact LeO.refl _)
   | (with_reducible exact LeO.none _)
   | (with_reducible refine LeO.ite ?_ ?_)
   | (with_reducible refine LeO.bind ?_ (fun _ => ?_))
set_option maxHeartbeats 8000000 in
set_option maxRecDepth 100000 in
theorem dowelref01_Check.calls (k : Nat) (a0 : ByteArray) (r : Int) (w : World) (h : dowelref01_Check.f k a0 = some r) :
  Calls Tryd.prog 22 #[.string a0] w fun e w' => e = .returned (.int .i64 r) ∧ Drawn0 w w' := by
 have H := h
 unfold dowelref01_Check.f at H
 clear h
 by_cases c2 : (a0.size : Int) > 65536
 ·
  rw [if_pos c2] at H
  have c2b0 := decide_eq_true c2
  have c2b1 : decide (65536 < a0.size) = true := decide_eq_true (by omega)
  clear c2
  obtain rfl := Option.some.inj H
  go_enter Tryd.func22, Tryd.ntmps22
  go_wp2
  go_ret
  exact ⟨by first | rfl | (simp; done) | (simp [*]; done) | (simp <;> omega), by repeat (first | exact Drawn0.refl _ | apply Drawn0.step)⟩
 ·
  rw [if_neg c2] at H
  have c2b0 := decide_eq_false c2
  have c2b1 : decide (65536 < a0.size) = false := decide_eq_false (by omega)
  clear c2
  have HC3 := Aside0.mk H
  clear H
  go_enter Tryd.func22, Tryd.ntmps22
  go_upto_region 4 with (fail)
  go_cut [16] (fun v16 wc => ∃ (kq : Nat) (x16_2 : Bool), v16 = .bool x16_2 ∧ Aside0 (dowelref01_Check.j0 kq a0 a0 x16_2 = some r) ∧ Aside0 (kq ≤ k) ∧ Drawn0 w wc)
  case first =>
   have H := HC3.out
   clear HC3
   by_cases c4 : (a0.size : Int) > 0
   ·
    rw [if_pos c4] at H
    have c4b0 := decide_eq_true c4
    have c4b1 : decide (0 < a0.size) = true := decide_eq_true (by omega)
    clear c4
    (first | rw [c4b0] | (simp only [i64_w, i32_w]; rw [c4b0]) | skip)
    obtain ⟨c5, H⟩ := ite_some H
    have c5b0 := decide_eq_true c5
    have c5b1 : decide (0 < a0.size) = true := decide_eq_true (by omega)
    clear c5
    have H' := Aside0.mk H
    clear H
    have p6 : 0 ≤ (0 : Int) := (by omega)
    have q6 : 0 < a0.size := (by have : (0 : Int) < (a0.size : Int) := of_decide_eq_true (by assumption); omega)
    have hx6 : ∀ h : 0 < a0.size, ((a0[0]'h).toNat : Int) = bt a0 0 := bt_at a0 0
    clear p6
    have qi6 : (0 < (a0.size : Int)) = True := eq_true (of_decide_eq_true (by assumption))
    replace q6 := eq_true q6
    go_wp2
    go_meet
    case rel => exact ⟨_, (((bt a0 0) == 45)), (by first | rfl | (simp; done) | (simp [*]; done) | (simp <;> omega)), H', ⟨by first | omega | exact Nat.le_refl _⟩, by repeat (first | exact Drawn0.refl _ | apply Drawn0.step)⟩
   ·
    rw [if_neg c4] at H
    have c4b0 := decide_eq_false c4
    have c4b1 : decide (0 < a0.size) = false := decide_eq_false (by omega)
    clear c4
    (first | rw [c4b0] | (simp only [i64_w, i32_w]; rw [c4b0]) | skip)
    have H' := Aside0.mk H
    clear H
    go_wp2
    go_meet
    case rel => exact ⟨_, (false), (by first | rfl | (simp; done) | (simp [*]; done) | (simp <;> omega)), H', ⟨by first | omega | exact Nat.le_refl _⟩, by repeat (first | exact Drawn0.refl _ | apply Drawn0.step)⟩
  case rest =>
   clear HC3
   obtain ⟨kq, x16_2, rfl, HA, HJ2, ⟨mc2, rfl⟩⟩ := hcut
   cases kq with
   | zero => exact absurd HA.out (by simp [dowelref01_Check.j0])
   | succ kj2 =>
    have H := HA.out
    clear HA
    simp only [dowelref01_Check.j0] at H
    have HC7 := Aside0.mk H
    clear H
    go_upto_if 16 with (fail)
    go_cut [3] (fun v3 wc => ∃ (kq : Nat) (x3_6 : ByteArray), v3 = .string x3_6 ∧ Aside0 (dowelref01_Check.j1 kq a0 x3_6 = some r) ∧ Aside0 (kq ≤ kj2) ∧ Drawn0 w wc)
    case first =>
     have H := HC7.out
     clear HC7
     by_cases c8 : x16_2 = true
     ·
      subst c8
      have H1 : (if 1 ≤ (a0.size : Int) then (dowelref01_Check.j1 kj2 a0 (a0.extract 1 a0.size)) else (none)) = some r := by rw [if_pos rfl] at H; exact H
      clear H
      have H := H1
      clear H1
      obtain ⟨c9, H⟩ := ite_some H
      have c9b0 := eq_true c9
      have c9b1 := decide_eq_true c9
      clear c9
      have H' := Aside0.mk H
      clear H
      go_wp2
      go_meet
      case rel => exact ⟨_, (a0.extract 1 a0.size), (by first | rfl | (simp; done) | (simp [*]; done) | (simp <;> omega)), H', ⟨by have := HJ2.out; first | omega | exact Nat.le_refl _⟩, by repeat (first | exact Drawn0.refl _ | apply Drawn0.step)⟩
     ·
      replace c8 := Bool.eq_false_iff.mpr c8
      subst c8
      have H1 : (dowelref01_Check.j1 kj2 a0 a0) = some r := by rw [if_neg (show ¬ (false = true) by decide)] at H; exact H
      clear H
      have H := H1
      clear H1
      have H' := Aside0.mk H
      clear H
      go_wp2
      go_meet
      case rel => exact ⟨_, (a0), (by first | rfl | (simp; done) | (simp [*]; done) | (simp <;> omega)), H', ⟨by have := HJ2.out; first | omega | exact Nat.le_refl _⟩, by repeat (first | exact Drawn0.refl _ | apply Drawn0.step)⟩
    case rest =>
     clear HC7
     obtain ⟨kq, x3_6, rfl, HA, HJ6, ⟨mc6, rfl⟩⟩ := hcut
     cases kq with
     | zero => exact absurd HA.out (by simp [dowelref01_Check.j1])
     | succ kj6 =>
      have H := HA.out
      clear HA
      simp only [dowelref01_Check.j1] at H
      by_cases c10 : (x3_6.size : Int) = 0
      ·
       rw [if_pos c10] at H
       have c10b0 : ((x3_6.size : Int) == 0) = true := beq_iff_eq.mpr c10
       have c10b1 : ((x3_6.size : Int) != 0) = false := bne_eq_false_iff_eq.mpr c10
       clear c10
       obtain rfl := Option.some.inj H
       go_wp2
       go_ret
       exact ⟨by first | rfl | (simp; done) | (simp [*]; done) | (simp <;> omega), by repeat (first | exact Drawn0.refl _ | apply Drawn0.step)⟩
      ·
       rw [if_neg c10] at H
       have c10b0 : ((x3_6.size : Int) == 0) = false := beq_eq_false_iff_ne.mpr c10
       have c10b1 : ((x3_6.size : Int) != 0) = true := bne_iff_ne.mpr c10
       have H' := Aside0.mk H
       clear H
       go_wp2
       go_loopg [4] kj6 (fun kq v4 w' => ∃ (x4_3 : Int), v4 = .int .i64 x4_3 ∧ Aside0 (dowelref01_Check.l0 kq a0 x3_6 x4_3 = some r) ∧ Aside0 (kq ≤ kj6) ∧ Drawn0 w w')
       case atStart => exact ⟨(0), (by first | rfl | (simp; done) | (simp [*]; done) | (simp <;> omega)), H', ⟨Nat.le_refl _⟩, by repeat (first | exact Drawn0.refl _ | apply Drawn0.step)⟩
       case round =>
        clear H'
        obtain ⟨x4_3, rfl, HA, HK3, ⟨m3, rfl⟩⟩ := hrel
        cases gk with
        | zero => exact absurd HA.out (by simp [dowelref01_Check.l0])
        | succ k3 =>
         have H := HA.out
         clear HA
         simp only [dowelref01_Check.l0] at H
         by_cases c11 : x4_3 < (x3_6.size : Int)
         ·
          rw [if_pos c11] at H
          have c11b0 := decide_eq_true c11
          clear c11
          obtain ⟨c12, H⟩ := ite_some H
          have c12b0 := decide_eq_true c12
          clear c12
          by_cases c14 : (bt x3_6 x4_3) < 48
          ·
           rw [if_pos c14] at H
           have c14b0 := decide_eq_true c14
           clear c14
           obtain rfl := Option.some.inj H
           have p13 : 0 ≤ (x4_3 : Int) := of_decide_eq_true (by assumption)
           have q13 : x4_3 < (x3_6.size : Int) := of_decide_eq_true (by assumption)
           have hx13 := bt_at x3_6 x4_3
           replace p13 := eq_true p13
           replace q13 := eq_true q13
           go_wp2
           go_ret
           exact ⟨by first | rfl | (simp; done) | (simp [*]; done) | (simp <;> omega), by repeat (first | exact Drawn0.refl _ | apply Drawn0.step)⟩
          ·
           rw [if_neg c14] at H
           have c14b0 := decide_eq_false c14
           clear c14
           by_cases c16 : (bt x3_6 x4_3) > 57
           ·
            rw [if_pos c16] at H
            have c16b0 := decide_eq_true c16
            clear c16
            obtain rfl := Option.some.inj H
            have p13 : 0 ≤ (x4_3 : Int) := of_decide_eq_true (by assumption)
            have q13 : x4_3 < (x3_6.size : Int) := of_decide_eq_true (by assumption)
            have hx13 := bt_at x3_6 x4_3
            replace p13 := eq_true p13
            replace q13 := eq_true q13
            have p15 : 0 ≤ (x4_3 : Int) := of_decide_eq_true (by assumption)
            have q15 : x4_3 < (x3_6.size : Int) := of_decide_eq_true (by assumption)
            have hx15 := bt_at x3_6 x4_3
            replace p15 := eq_true p15
            replace q15 := eq_true q15
            go_wp2
            go_ret
            exact ⟨by first | rfl | (simp; done) | (simp [*]; done) | (simp <;> omega), by repeat (first | exact Drawn0.refl _ | apply Drawn0.step)⟩
           ·
            rw [if_neg c16] at H
            have c16b0 := decide_eq_false c16
            clear c16
            have H' := Aside0.mk H
            clear H
            have p13 : 0 ≤ (x4_3 : Int) := of_decide_eq_true (by assumption)
            have q13 : x4_3 < (x3_6.size : Int) := of_decide_eq_true (by assumption)
            have hx13 := bt_at x3_6 x4_3
            replace p13 := eq_true p13
            replace q13 := eq_true q13
            have p15 : 0 ≤ (x4_3 : Int) := of_decide_eq_true (by assumption)
            have q15 : x4_3 < (x3_6.size : Int) := of_decide_eq_true (by assumption)
            have hx15 := bt_at x3_6 x4_3
            replace p15 := eq_true p15
            replace q15 := eq_true q15
            go_wp2
            go_roundg k3
            case measure => have := HJ2.out; have := HJ6.out; have := HK3.out; omega
            case rel => exact ⟨(wrap64 (x4_3 + 1)), (by first | rfl | (simp; done) | (simp [*]; done) | (simp <;> omega)), H', ⟨by have := HJ2.out; have := HJ6.out; have := HK3.out; omega⟩, by repeat (first | exact Drawn0.refl _ | apply Drawn0.step)⟩
         ·
          rw [if_neg c11] at H
          have c11b0 := decide_eq_false c11
          clear c11
          by_cases c17 : 0 < (x3_6.size : Int)
          ·
           rw [if_pos c17] at H
           have c17b0 := decide_eq_true c17
           have c17b1 : decide (0 < x3_6.size) = true := decide_eq_true (by omega)
           clear c17
           by_cases c19 : (bt x3_6 0) = 48
           ·
            rw [if_pos c19] at H
            have c19b0 : ((bt x3_6 0) == 48) = true := beq_iff_eq.mpr c19
            have c19b1 : ((bt x3_6 0) != 48) = false := bne_eq_false_iff_eq.mpr c19
            clear c19
            by_cases c20 : (x3_6.size : Int) > 1
            ·
             rw [if_pos c20] at H
             have c20b0 := decide_eq_true c20
             have c20b1 : decide (1 < x3_6.size) = true := decide_eq_true (by omega)
             clear c20
             obtain rfl := Option.some.inj H
             have p18 : 0 ≤ (0 : Int) := (by omega)
             have q18 : 0 < x3_6.size := (by have : (0 : Int) < (x3_6.size : Int) := of_decide_eq_true (by assumption); omega)
             have hx18 : ∀ h : 0 < x3_6.size, ((x3_6[0]'h).toNat : Int) = bt x3_6 0 := bt_at x3_6 0
             clear p18
             have qi18 : (0 < (x3_6.size : Int)) = True := eq_true (of_decide_eq_true (by assumption))
             replace q18 := eq_true q18
             go_wp2
             go_ret
             exact ⟨by first | rfl | (simp; done) | (simp [*]; done) | (simp <;> omega), by repeat (first | exact Drawn0.refl _ | apply Drawn0.step)⟩
            ·
             rw [if_neg c20] at H
             have c20b0 := decide_eq_false c20
             have c20b1 : decide (1 < x3_6.size) = false := decide_eq_false (by omega)
             clear c20
             by_cases c21 : (a0.size : Int) > 1
             ·
              rw [if_pos c21] at H
              have c21b0 := decide_eq_true c21
              have c21b1 : decide (1 < a0.size) = true := decide_eq_true (by omega)
              clear c21
              obtain rfl := Option.some.inj H
              have p18 : 0 ≤ (0 : Int) := (by omega)
              have q18 : 0 < x3_6.size := (by have : (0 : Int) < (x3_6.size : Int) := of_decide_eq_true (by assumption); omega)
              have hx18 : ∀ h : 0 < x3_6.size, ((x3_6[0]'h).toNat : Int) = bt x3_6 0 := bt_at x3_6 0
              clear p18
              have qi18 : (0 < (x3_6.size : Int)) = True := eq_true (of_decide_eq_true (by assumption))
              replace q18 := eq_true q18
              go_wp2
              go_ret
              exact ⟨by first | rfl | (simp; done) | (simp [*]; done) | (simp <;> omega), by repeat (first | exact Drawn0.refl _ | apply Drawn0.step)⟩
             ·
              rw [if_neg c21] at H
              have c21b0 := decide_eq_false c21
              have c21b1 : decide (1 < a0.size) = false := decide_eq_false (by omega)
              clear c21
              obtain rfl := Option.some.inj H
              have p18 : 0 ≤ (0 : Int) := (by omega)
              have q18 : 0 < x3_6.size := (by have : (0 : Int) < (x3_6.size : Int) := of_decide_eq_true (by assumption); omega)
              have hx18 : ∀ h : 0 < x3_6.size, ((x3_6[0]'h).toNat : Int) = bt x3_6 0 := bt_at x3_6 0
              clear p18
              have qi18 : (0 < (x3_6.size : Int)) = True := eq_true (of_decide_eq_true (by assumption))
              replace q18 := eq_true q18
              go_wp2
              go_ret
              exact ⟨by first | rfl | (simp; done) | (simp [*]; done) | (simp <;> omega), by repeat (first | exact Drawn0.refl _ | apply Drawn0.step)⟩
           ·
            rw [if_neg c19] at H
            have c19b0 : ((bt x3_6 0) == 48) = false := beq_eq_false_iff_ne.mpr c19
            have c19b1 : ((bt x3_6 0) != 48) = true := bne_iff_ne.mpr c19
            obtain rfl := Option.some.inj H
            have p18 : 0 ≤ (0 : Int) := (by omega)
            have q18 : 0 < x3_6.size := (by have : (0 : Int) < (x3_6.size : Int) := of_decide_eq_true (by assumption); omega)
            have hx18 : ∀ h : 0 < x3_6.size, ((x3_6[0]'h).toNat : Int) = bt x3_6 0 := bt_at x3_6 0
            clear p18
            have qi18 : (0 < (x3_6.size : Int)) = True := eq_true (of_decide_eq_true (by assumption))
            replace q18 := eq_true q18
            go_wp2
            go_ret
            exact ⟨by first | rfl | (simp; done) | (simp [*]; done) | (simp <;> omega), by repeat (first | exact Drawn0.refl _ | apply Drawn0.step)⟩
          ·
           rw [if_neg c17] at H
           exact absurd H (by simp)
def dowellaw01_right.f (k : Nat) (a0 : ByteArray) : Option (Bool) := if (a0.size : Int) ≤ 120 then ((dowelref01_Check.f k a0).bind fun t549 => (some (t549 == 0))) else (some false)
theorem dowellaw01_right.mono : ∀ a0 k, LeO (dowellaw01_right.f k a0) (dowellaw01_right.f (k + 1) a0) := by
 intro a0 k
 unfold dowellaw01_right.f
 repeat' first
   | (with_reducible exact dowelref01_Check.mono _ _)
   | (with_reducible exact LeO.refl _)
   | (with_reducible exact LeO.none _)
   | (with_reducible refine LeO.ite ?_ ?_)
   | (with_reducible refine LeO.bind ?_ (fun _ => ?_))
set_option maxHeartbeats 8000000 in
set_option maxRecDepth 100000 in
theorem dowellaw01_right.calls (k : Nat) (a0 : ByteArray) (r : Bool) (w : World) (h : dowellaw01_right.f k a0 = some r) :
  Calls Tryd.prog 23 #[.string a0] w fun e w' => e = .returned (.bool r) ∧ Drawn0 w w' := by
 have H := h
 unfold dowellaw01_right.f at H
 clear h
 by_cases c2 : (a0.size : Int) ≤ 120
 ·
  rw [if_pos c2] at H
  have c2b0 := decide_eq_true c2
  have c2b1 : decide (a0.size ≤ 120) = true := decide_eq_true (by omega)
  clear c2
  replace H := Option.bind_eq_some_iff.mp H
  obtain ⟨t549, A30, H⟩ := H
  try dsimp only at H
  have A3 := Aside0.mk A30
  clear A30
  obtain rfl := Option.some.inj H
  go_enter Tryd.func23, Tryd.ntmps23
  go_wp2_with (first | (go_at_call 22; (with_reducible refine (dowelref01_Check.calls k a0 t549 _ A3.out).mono ?_); rintro e w' ⟨rfl, ⟨nd, rfl⟩⟩))
  go_ret
  exact ⟨by first | rfl | (simp; done) | (simp [*]; done) | (simp <;> omega), by repeat (first | exact Drawn0.refl _ | apply Drawn0.step)⟩
 ·
  rw [if_neg c2] at H
  have c2b0 := decide_eq_false c2
  have c2b1 : decide (a0.size ≤ 120) = false := decide_eq_false (by omega)
  clear c2
  obtain rfl := Option.some.inj H
  go_enter Tryd.func23, Tryd.ntmps23
  go_wp2
  go_ret
  exact ⟨by first | rfl | (simp; done) | (simp [*]; done) | (simp <;> omega), by repeat (first | exact Drawn0.refl _ | apply Drawn0.step)⟩
def stringslite_HasPrefix.f (a0 : ByteArray) (a1 : ByteArray) : Option (Bool) := if (a0.size : Int) ≥ (a1.size : Int) then (if 0 ≤ (a1.size : Int) then (if (a1.size : Int) ≤ (a0.size : Int) then (some ((a0.extract 0 ((a1.size : Int) : Int).toNat).toList == a1.toList)) else (none)) else (none)) else (some false)
set_option maxHeartbeats 8000000 in
set_option maxRecDepth 100000 in
theorem stringslite_HasPrefix.calls (a0 : ByteArray) (a1 : ByteArray) (r : Bool) (w : World) (h : stringslite_HasPrefix.f a0 a1 = some r) :
  Calls Tryd.prog 86 #[.string a0, .string a1] w fun e w' => e = .returned (.bool r) ∧ Drawn0 w w' := by
 have H := h
 unfold stringslite_HasPrefix.f at H
 clear h
 by_cases c3 : (a0.size : Int) ≥ (a1.size : Int)
 ·
  rw [if_pos c3] at H
  have c3b0 := decide_eq_true c3
  have c3b1 : decide (a1.size ≤ a0.size) = true := decide_eq_true (Int.ofNat_le.mp c3)
  clear c3
  obtain ⟨c4, H⟩ := ite_some H
  have c4b0 := eq_true c4
  have c4b1 := decide_eq_true c4
  clear c4
  obtain ⟨c5, H⟩ := ite_some H
  have c5b0 := eq_true c5
  have c5b1 := decide_eq_true c5
  clear c5
  obtain rfl := Option.some.inj H
  go_enter Tryd.func86, Tryd.ntmps86
  go_wp2
  go_ret
  exact ⟨by first | rfl | (simp; done) | (simp [*]; done) | (simp <;> omega), by repeat (first | exact Drawn0.refl _ | apply Drawn0.step)⟩
 ·
  rw [if_neg c3] at H
  have c3b0 := decide_eq_false c3
  have c3b1 : decide (a1.size ≤ a0.size) = false := decide_eq_false (fun h => c3 (Int.ofNat_le.mpr h))
  clear c3
  obtain rfl := Option.some.inj H
  go_enter Tryd.func86, Tryd.ntmps86
  go_wp2
  go_ret
  exact ⟨by first | rfl | (simp; done) | (simp [*]; done) | (simp <;> omega), by repeat (first | exact Drawn0.refl _ | apply Drawn0.step)⟩
def stringslite_CutPrefix.f (a0 : ByteArray) (a1 : ByteArray) : Option (ByteArray × Bool) := (stringslite_HasPrefix.f a0 a1).bind fun t489 => (if t489 = true then (if 0 ≤ (a1.size : Int) then (if (a1.size : Int) ≤ (a0.size : Int) then (some (a0.extract ((a1.size : Int) : Int).toNat a0.size, true)) else (none)) else (none)) else (some (a0, false)))
set_option maxHeartbeats 8000000 in
set_option maxRecDepth 100000 in
theorem stringslite_CutPrefix.calls (a0 : ByteArray) (a1 : ByteArray) (r1 : ByteArray) (r2 : Bool) (w : World) (h : stringslite_CutPrefix.f a0 a1 = some (r1, r2)) :
  Calls Tryd.prog 75 #[.string a0, .string a1] w fun e w' => e = .returned (.tuple #[.string r1, .bool r2]) ∧ Drawn0 w w' := by
 have H := h
 unfold stringslite_CutPrefix.f at H
 clear h
 replace H := Option.bind_eq_some_iff.mp H
 obtain ⟨t489, A30, H⟩ := H
 try dsimp only at H
 have A3 := Aside0.mk A30
 clear A30
 by_cases c4 : t489 = true
 ·
  subst c4
  have H1 : (if 0 ≤ (a1.size : Int) then (if (a1.size : Int) ≤ (a0.size : Int) then (some (a0.extract ((a1.size : Int) : Int).toNat a0.size, true)) else (none)) else (none)) = some (r1, r2) := by rw [if_pos rfl] at H; exact H
  clear H
  have H := H1
  clear H1
  obtain ⟨c5, H⟩ := ite_some H
  have c5b0 := eq_true c5
  have c5b1 := decide_eq_true c5
  clear c5
  obtain ⟨c6, H⟩ := ite_some H
  have c6b0 := eq_true c6
  have c6b1 := decide_eq_true c6
  clear c6
  simp only [Option.some.injEq, Prod.mk.injEq] at H
  obtain ⟨rfl, rfl⟩ := H
  go_enter Tryd.func75, Tryd.ntmps75
  go_wp2_with (first | ((with_reducible refine gate_callee (f := 86) rfl ?_); refine gl_ (some 8) Tryd.func86 #[.string a0, .string a1] ?_; (with_reducible refine (stringslite_HasPrefix.calls a0 a1 true _ A3.out).mono ?_); rintro e w' ⟨rfl, ⟨nd, rfl⟩⟩; refine ⟨_, rfl, ?_⟩))
  go_ret2
  exact ⟨by first | rfl | (simp; done) | (simp [*]; done) | (simp <;> omega), by repeat (first | exact Drawn0.refl _ | apply Drawn0.step)⟩
 ·
  replace c4 := Bool.eq_false_iff.mpr c4
  subst c4
  have H1 : (some (a0, false)) = some (r1, r2) := by rw [if_neg (show ¬ (false = true) by decide)] at H; exact H
  clear H
  have H := H1
  clear H1
  simp only [Option.some.injEq, Prod.mk.injEq] at H
  obtain ⟨rfl, rfl⟩ := H
  go_enter Tryd.func75, Tryd.ntmps75
  go_wp2_with (first | ((with_reducible refine gate_callee (f := 86) rfl ?_); refine gl_ (some 8) Tryd.func86 #[.string a0, .string a1] ?_; (with_reducible refine (stringslite_HasPrefix.calls a0 a1 false _ A3.out).mono ?_); rintro e w' ⟨rfl, ⟨nd, rfl⟩⟩; refine ⟨_, rfl, ?_⟩))
  go_ret2
  exact ⟨by first | rfl | (simp; done) | (simp [*]; done) | (simp <;> omega), by repeat (first | exact Drawn0.refl _ | apply Drawn0.step)⟩
def strings_CutPrefix.f (a0 : ByteArray) (a1 : ByteArray) : Option (ByteArray × Bool) := (stringslite_CutPrefix.f a0 a1).bind fun bt490 => (some (bt490.1, bt490.2))
set_option maxHeartbeats 8000000 in
set_option maxRecDepth 100000 in
theorem strings_CutPrefix.calls (a0 : ByteArray) (a1 : ByteArray) (r1 : ByteArray) (r2 : Bool) (w : World) (h : strings_CutPrefix.f a0 a1 = some (r1, r2)) :
  Calls Tryd.prog 53 #[.string a0, .string a1] w fun e w' => e = .returned (.tuple #[.string r1, .bool r2]) ∧ Drawn0 w w' := by
 have H := h
 unfold strings_CutPrefix.f at H
 clear h
 replace H := Option.bind_eq_some_iff.mp H
 obtain ⟨⟨t490, t491⟩, A30, H⟩ := H
 try dsimp only at H
 have A3 := Aside0.mk A30
 clear A30
 simp only [Option.some.injEq, Prod.mk.injEq] at H
 obtain ⟨rfl, rfl⟩ := H
 go_enter Tryd.func53, Tryd.ntmps53
 go_wp2_with (first | ((with_reducible refine gate_callee (f := 75) rfl ?_); refine gl_ (some 8) Tryd.func75 #[.string a0, .string a1] ?_; (with_reducible refine (stringslite_CutPrefix.calls a0 a1 t490 t491 _ A3.out).mono ?_); rintro e w' ⟨rfl, ⟨nd, rfl⟩⟩; refine ⟨_, rfl, ?_⟩))
 go_ret2
 exact ⟨by first | rfl | (simp; done) | (simp [*]; done) | (simp <;> omega), by repeat (first | exact Drawn0.refl _ | apply Drawn0.step)⟩
def integer_Parse_1.f (a0 : Int) : Option (Bool) := if a0 < 48 then (some true) else (some (decide (a0 > 57)))
set_option maxHeartbeats 8000000 in
set_option maxRecDepth 100000 in
theorem integer_Parse_1.calls (a0 : Int) (r : Bool) (w : World) (h : integer_Parse_1.f a0 = some r) :
  Calls Tryd.prog 55 #[.int .i32 a0] w fun e w' => e = .returned (.bool r) ∧ Drawn0 w w' := by
 have H := h
 unfold integer_Parse_1.f at H
 clear h
 by_cases c2 : a0 < 48
 ·
  rw [if_pos c2] at H
  have c2b0 := decide_eq_true c2
  clear c2
  obtain rfl := Option.some.inj H
  go_enter Tryd.func55, Tryd.ntmps55
  go_wp2
  go_ret
  exact ⟨by first | rfl | (simp; done) | (simp [*]; done) | (simp <;> omega), by repeat (first | exact Drawn0.refl _ | apply Drawn0.step)⟩
 ·
  rw [if_neg c2] at H
  have c2b0 := decide_eq_false c2
  clear c2
  obtain rfl := Option.some.inj H
  go_enter Tryd.func55, Tryd.ntmps55
  go_wp2
  go_ret
  exact ⟨by first | rfl | (simp; done) | (simp [*]; done) | (simp <;> omega), by repeat (first | exact Drawn0.refl _ | apply Drawn0.step)⟩
def strings_ContainsFunc_Parse1.f (a0 : ByteArray) : Option Bool := some (decide (0 ≤ Lib.idxFunc (fun x => decide (x < 48) || decide (57 < x)) true a0))
theorem strings_ContainsFunc_Parse1.pays (w : World) : PredAt Tryd.prog 55 #[] encR (fun x => decide (x < 48) || decide (57 < x)) w := fun W x _ => by
 refine (integer_Parse_1.calls (x : Int) (decide (x < 48) || decide (57 < x)) W ?_).mono ?_
 ·
  unfold integer_Parse_1.f
  by_cases h1 : x < 48
  ·
   rw [if_pos (by omega)]; simp [h1]
  ·
   rw [if_neg (by omega)]; simp [h1]
   omega
 ·
  rintro e w' ⟨rfl, hd⟩
  exact ⟨rfl, hd.out⟩
theorem strings_ContainsFunc_Parse1.calls (a0 : ByteArray) (r : Bool) (w : World) (h : strings_ContainsFunc_Parse1.f a0 = some r) :
  Calls Tryd.prog 54 #[.string a0, .func (.func 55) #[] #[]] w fun e w' => e = .returned (.bool r) ∧ Below w.heap.size w w' := by
 unfold strings_ContainsFunc_Parse1.f at h
 simp only [Option.some.injEq] at h
 subst h
 exact Tryd.strings_ContainsFunc 55 #[] (enters_of Tryd.func55 (by kernel_rfl) rfl) _ a0 w (strings_ContainsFunc_Parse1.pays w)
def strconv_ParseUint_56.f (a0 : ByteArray) (a1 a2 : Int) : Option (Int × Option Int) :=
 if a1 = 10 ∧ a2 = 32 ∧ a0.size ≤ 9223372036854775806 then (match Lib.parseUintB 32 a0.data.toList with | .ok u => some ((u : Int), none) | _ => none) else none
theorem strconv_ParseUint_56.calls (a0 : ByteArray) (a1 a2 : Int) (r1 : Int) (r2 : Option Int) (w : World) (h : strconv_ParseUint_56.f a0 a1 a2 = some (r1, r2)) :
  Calls Tryd.prog 56 #[.string a0, .int .i64 a1, .int .i64 a2] w fun e w' => e = .returned (.tuple #[.int .u64 r1, errW r2]) ∧ Below w.heap.size w w' := by
 unfold strconv_ParseUint_56.f at h
 split at h
 ·
  rename_i hb
  obtain ⟨rfl, rfl, hs⟩ := hb
  split at h
  ·
   rename_i u hu
   simp only [Option.some.injEq, Prod.mk.injEq] at h
   obtain ⟨rfl, rfl⟩ := h
   refine (Tryd.strconv_ParseUint_10_at32_ok a0 hs u hu w).mono ?_
   rintro e w' ⟨rfl, rfl | rfl⟩
   ·
    exact ⟨rfl, Below.refl _ _⟩
   ·
    exact ⟨rfl, Lib.bytesWorld_below _ _ _⟩
  ·
   cases h
 ·
  cases h
def integer_scale.l0 : Nat → List Int → Int → List Int → Int → List Int → Int → Int → Option (List Int)
 | 0, _, _, _, _, _, _, _ => none
 | k + 1, x0, x1, x7, x8, x17, x18, x19 => if x19 < x18 then (if 0 ≤ x19 then (if x19 < (x17.length : Int) then (if x19 < (x7.length : Int) then (integer_scale.l0 k x0 x1 (x7.set (x19 : Int).toNat ((IntKind.u64.wrap (x8 + (IntKind.u64.wrap ((IntKind.u64.wrap (rd x17 x19)) * (IntKind.u64.wrap (x1)))))) % 4294967296)) ((IntKind.u64.wrap (x8 + (IntKind.u64.wrap ((IntKind.u64.wrap (rd x17 x19)) * (IntKind.u64.wrap (x1)))))) / 4294967296) x17 x18 (wrap64 (x19 + 1))) else (none)) else (none)) else (none)) else (if 0 ≤ (x0.length : Int) then (if (x0.length : Int) < (x7.length : Int) then ((integer_trim.f k (x7.set ((x0.length : Int) : Int).toNat ((x8) % 4294967296))).bind fun t513 => (some t513)) else (none)) else (none))
def integer_scale.f (k : Nat) (l0 : List Int) (a1 : Int) (a2 : Int) : Option (List Int) := if 0 ≤ (wrap64 ((l0.length : Int) + 1)) then (if (wrap64 ((l0.length : Int) + 1) : Int).toNat ≤ 70368744177664 then (integer_scale.l0 k l0 a1 (List.replicate (wrap64 ((l0.length : Int) + 1) : Int).toNat 0) (IntKind.u64.wrap (a2)) l0 (l0.length : Int) 0) else (none)) else (none)
theorem integer_scale.mono_l : ∀ k, (∀ y0 y1 y2 y3 y4 y5 y6, LeO (integer_scale.l0 k y0 y1 y2 y3 y4 y5 y6) (integer_scale.l0 (k + 1) y0 y1 y2 y3 y4 y5 y6))
 | 0 => fun _ _ _ _ _ _ _ r h => by simp [integer_scale.l0] at h
 | k + 1 => by
  have ih0 := integer_scale.mono_l k
  ·
   intro y0 y1 y2 y3 y4 y5 y6
   unfold integer_scale.l0
   repeat' first
   | (with_reducible exact ih0 _ _ _ _ _ _ _)
   | (with_reducible exact integer_trim.mono _ _)
   | (with_reducible exact LeO.refl _)
   | (with_reducible exact LeO.none _)
   | (with_reducible refine LeO.ite ?_ ?_)
   | (with_reducible refine LeO.bind ?_ (fun _ => ?_))
theorem integer_scale.mono : ∀ a0 a1 a2 k, LeO (integer_scale.f k a0 a1 a2) (integer_scale.f (k + 1) a0 a1 a2) := by
 intro a0 a1 a2 k
 have ih0 := integer_scale.mono_l k
 unfold integer_scale.f
 repeat' first
   | (with_reducible exact ih0 _ _ _ _ _ _ _)
   | (with_reducible exact integer_trim.mono _ _)
   | (with_reducible exact LeO.refl _)
   | (with_reducible exact LeO.none _)
   | (with_reducible refine LeO.ite ?_ ?_)
   | (with_reducible refine LeO.bind ?_ (fun _ => ?_))
set_option maxHeartbeats 8000000 in
set_option maxRecDepth 100000 in
theorem integer_scale.calls (k : Nat) (A0 : Option Addr) (c0 : Nat) (l0 : List Int) (a1 : Int) (a2 : Int) (r : List Int) (w : World) (hr0 : Kd.C (Kd.int .u32) w A0 l0.length l0) (hc0 : l0.length ≤ c0) (h : integer_scale.f k l0 a1 a2 = some r) :
  Calls Tryd.prog 57 #[.slice A0 l0.length c0, .int .u32 a1, .int .u32 a2] w fun e w' => ∃ v0_ : Value, e = .returned (v0_) ∧ Kd.V (Kd.int .u32) 60 w' w.heap.size (fun k_ => (w.heap.size ≤ k_)) v0_ r ∧ Below w.heap.size w w' := by
 have HR0 := Aside0.mk hr0
 have HC0 := Aside0.mk hc0
 clear hr0 hc0
 have HB := Aside0.mk (Below.refl w.heap.size w)
 have H := h
 unfold integer_scale.f at H
 clear h
 obtain ⟨ji4, hji4⟩ : ∃ j_ : Int, (wrap64 ((l0.length : Int) + 1)) = j_ := ⟨_, rfl⟩
 replace H : (if 0 ≤ (ji4) then (if (ji4 : Int).toNat ≤ 70368744177664 then (integer_scale.l0 k l0 a1 (List.replicate (ji4 : Int).toNat 0) (IntKind.u64.wrap (a2)) l0 (l0.length : Int) 0) else (none)) else (none)) = some r := by first | (rw [hji4] at H; exact H) | (simp only [hji4] at H ⊢; exact H)
 have hji4w : (IntKind.i64.wrap ((l0.length : Int) + 1)) = ji4 := (i64_w _).trans hji4
 by_cases c5 : 0 ≤ (ji4)
 ·
  rw [if_pos c5] at H
  have c5b0 := eq_true c5
  have c5b1 := decide_eq_true c5
  clear c5
  obtain ⟨c6, H⟩ := ite_some H
  have c6b0 := eq_true c6
  have c6b1 := decide_eq_true c6
  clear c6
  obtain ⟨y507, hy507⟩ : ∃ y_ : List Int, y_ = (List.replicate (ji4 : Int).toNat 0) := ⟨_, rfl⟩
  replace H : (integer_scale.l0 k l0 a1 y507 (IntKind.u64.wrap (a2)) l0 (l0.length : Int) 0) = some r := by first | (rw [hy507]; exact H) | exact H
  have Ny507 := Aside0.mk hy507
  clear hy507
  have H' := Aside0.mk H
  clear H
  go_enter Tryd.func57, Tryd.ntmps57
  go_wp2_with (first | ((with_reducible refine gate_dst (N := 14) rfl ?_); refine Kd.R_make (Kd.int .u32) _ 60 rfl (N := 14) rfl 23 _ _ rfl ji4 rfl rfl Tryd.underlying23 (.int .u32 0) 4 info60 rfl (by decide) (by omega) 0 (ok := fun _ => True) (okp := fun _ => True) rfl (fun _ hk => hk) trivial (of_decide_eq_true (by assumption)) (Nat.le_trans (Nat.mul_le_mul_right _ (of_decide_eq_true (by assumption) : ji4.toNat ≤ 70368744177664)) (by omega)) (Below.refl _ _) (Nat.le_refl _) ?_; intro v508 w7 ho8 hb hg_ hnew_; clear hg_ hnew_; (first | rw [← Ny507.out] at ho8 | (simp only [Int.reduceToNat] at ho8; rw [← Ny507.out] at ho8)); have HO509 := Aside0.mk (Kd.R_lower (Kd.R_newM (M := fun k_ => (w.heap.size ≤ k_)) ho8 (below_size (below_up HB.out)) (fun k_ h_ => h_)) (below_size (below_up HB.out))); replace HB := Aside0.mk (below_step (below_up HB.out) hb); clear hb ho8))
  go_loopg [8, 19] k (fun kq v8 v19 w' => ∃ (x7_1 : List Int) (x8_1 : Int) (x19_1 : Int), v8 = .int .u64 x8_1 ∧ v19 = .int .i64 x19_1 ∧ Aside0 (integer_scale.l0 kq l0 a1 x7_1 x8_1 l0 (l0.length : Int) x19_1 = some r) ∧ Aside0 (kq ≤ k) ∧ Aside0 (Kd.R (Kd.int .u32) 60 w' w.heap.size (fun k_ => (w.heap.size ≤ k_)) v508 x7_1) ∧ Aside0 (Below w.heap.size w w'))
  case atStart => exact ⟨(y507), (IntKind.u64.wrap (a2)), (0), (by first | rfl | (simp; done) | (simp [*]; done) | (simp <;> omega)), (by first | rfl | (simp; done) | (simp [*]; done) | (simp <;> omega)), H', ⟨Nat.le_refl _⟩, ⟨Kd.R_up (Kd.R_mono HO509.out (fun _ hk => hk.1))⟩, ⟨below_up HB.out⟩⟩
  case round =>
   clear H'
   obtain ⟨x7_1, x8_1, x19_1, rfl, rfl, HA, HK1, HO_7, HB⟩ := hrel
   cases gk with
   | zero => exact absurd HA.out (by simp [integer_scale.l0])
   | succ k1 =>
    have H := HA.out
    clear HA
    simp only [integer_scale.l0] at H
    by_cases c9 : x19_1 < (l0.length : Int)
    ·
     rw [if_pos c9] at H
     have c9b0 := decide_eq_true c9
     clear c9
     obtain ⟨c10, H⟩ := ite_some H
     have c10b0 := decide_eq_true c10
     clear c10
     obtain ⟨c11, H⟩ := ite_some H
     have c11b0 := decide_eq_true c11
     clear c11
     obtain ⟨c12, H⟩ := ite_some H
     have c12b0 := decide_eq_true c12
     clear c12
     obtain ⟨y511, hy511⟩ : ∃ y_ : List Int, y_ = (x7_1.set (x19_1 : Int).toNat ((IntKind.u64.wrap (x8_1 + (IntKind.u64.wrap ((IntKind.u64.wrap (rd l0 x19_1)) * (IntKind.u64.wrap (a1)))))) % 4294967296)) := ⟨_, rfl⟩
     replace H : (integer_scale.l0 k1 l0 a1 y511 ((IntKind.u64.wrap (x8_1 + (IntKind.u64.wrap ((IntKind.u64.wrap (rd l0 x19_1)) * (IntKind.u64.wrap (a1)))))) / 4294967296) l0 (l0.length : Int) (wrap64 (x19_1 + 1))) = some r := by first | (rw [hy511]; exact H) | exact H
     have Ny511 := Aside0.mk hy511
     clear hy511
     have H' := Aside0.mk H
     clear H
     have p510 : 0 ≤ (x19_1 : Int) := of_decide_eq_true (by assumption)
     have q510 : x19_1 < (l0.length : Int) := of_decide_eq_true (by assumption)
     obtain ⟨ad510, e510, hx510_0⟩ := Kd.at_int HR0.out x19_1 p510 q510
     cases e510
     replace hx510_0 := (HB.out.cell (World.block_lt_of_cell? w _ hx510_0)).trans hx510_0
     replace p510 := eq_true p510
     replace q510 := eq_true q510
     have p13 : 0 ≤ (x19_1 : Int) := of_decide_eq_true (by assumption)
     have q13 : (x19_1 : Int) < ((x7_1.length : Int) : Int) := of_decide_eq_true (by assumption)
     obtain ⟨go13, co13, eo13, gb13, gl13, cl13, HG13⟩ := Kd.R_form HO_7.out (by omega)
     (first | cases eo13 | (injection eo13 with ea_ en_ ec_; (first | subst ea_ | (injection ea_ with ea_; subst ea_)); subst ec_; clear en_))
     have GB13 := Aside0.mk gb13
     have GG13 := Aside0.mk HG13
     clear gb13 gl13 HG13
     obtain ⟨hx13_0, hf13_0⟩ := Kd.R_celln 0 HO_7.out (x19_1 : Int) p13 q13
     replace p13 := eq_true p13
     replace q13 := eq_true q13
     have HP14 := Kd.R_putg HO_7.out (x19_1 : Int) ((IntKind.u64.wrap (x8_1 + (IntKind.u64.wrap ((IntKind.u64.wrap (rd l0 x19_1)) * (IntKind.u64.wrap (a1)))))) % 4294967296)
     go_wp2_with (first | ((with_reducible refine gate_store (t := 60) (p := 35) rfl ?_); refine store_event (t := 60) (p := 35) (v := ?vo_w15) (w1 := (wr.setCell ⟨go13, (x19_1 : Int).toNat, none⟩ (.int .u32 ((IntKind.u64.wrap (x8_1 + (IntKind.u64.wrap ((IntKind.u64.wrap (rd l0 x19_1)) * (IntKind.u64.wrap (a1)))))) % 4294967296)))) ?hg ?ho ?hn ?hr ?_; (case ho => rfl); (case hg => rfl); (case hn => rfl); (case hr => first | (go_simp; done) | (go_simp; rfl)); intro w15 hw; have hg : wr.grownBy w15 (some go13) := (by rw [hw]; exact HP14.2); have hp_ : Kd.R (Kd.int .u32) 60 w15 w.heap.size (fun k_ => (w.heap.size ≤ k_)) (.slice (some ⟨go13, 0, none⟩) x7_1.length co13) y511 := (by rw [hw, Ny511.out]; exact HP14.1); clear HP14; replace HO_7 := Aside0.mk (hp_); replace HB := Aside0.mk ((by rw [hw]; exact below_set (HB.out) GB13.out : Below w.heap.size w w15)); clear hg hw hp_))
     go_roundg k1
     case measure => have := HK1.out; omega
     case rel => exact ⟨(y511), ((IntKind.u64.wrap (x8_1 + (IntKind.u64.wrap ((IntKind.u64.wrap (rd l0 x19_1)) * (IntKind.u64.wrap (a1)))))) / 4294967296), (wrap64 (x19_1 + 1)), (by first | rfl | (simp; done) | (simp [*]; done) | (simp <;> omega)), (by first | rfl | (simp; done) | (simp [*]; done) | (simp <;> omega)), H', ⟨by have := HK1.out; omega⟩, ⟨Kd.R_up HO_7.out⟩, ⟨below_up HB.out⟩⟩
    ·
     rw [if_neg c9] at H
     have c9b0 := decide_eq_false c9
     clear c9
     obtain ⟨c16, H⟩ := ite_some H
     have c16b0 := decide_eq_true c16
     have c16b1 : decide (0 ≤ l0.length) = true := decide_eq_true (by omega)
     clear c16
     obtain ⟨c17, H⟩ := ite_some H
     have c17b0 := decide_eq_true c17
     have c17b1 : decide (l0.length < x7_1.length) = true := decide_eq_true (Int.ofNat_lt.mp c17)
     clear c17
     obtain ⟨y512, hy512⟩ : ∃ y_ : List Int, y_ = (x7_1.set ((l0.length : Int) : Int).toNat ((x8_1) % 4294967296)) := ⟨_, rfl⟩
     replace H : ((integer_trim.f k1 y512).bind fun t513 => (some t513)) = some r := by first | (rw [hy512]; exact H) | exact H
     have Ny512 := Aside0.mk hy512
     clear hy512
     replace H := Option.bind_eq_some_iff.mp H
     obtain ⟨t513, A190, H⟩ := H
     try dsimp only at H
     have A19 := Aside0.mk A190
     clear A190
     obtain rfl := Option.some.inj H
     have p18 : 0 ≤ ((l0.length : Int) : Int) := of_decide_eq_true (by assumption)
     have q18 : ((l0.length : Int) : Int) < ((x7_1.length : Int) : Int) := of_decide_eq_true (by assumption)
     obtain ⟨go18, co18, eo18, gb18, gl18, cl18, HG18⟩ := Kd.R_form HO_7.out (by omega)
     (first | cases eo18 | (injection eo18 with ea_ en_ ec_; (first | subst ea_ | (injection ea_ with ea_; subst ea_)); subst ec_; clear en_))
     have GB18 := Aside0.mk gb18
     have GG18 := Aside0.mk HG18
     clear gb18 gl18 HG18
     obtain ⟨hx18_0, hf18_0⟩ := Kd.R_celln 0 HO_7.out ((l0.length : Int) : Int) p18 q18
     (try simp only [Go.IntWalk.toNatUp] at hx18_0 hf18_0)
     replace p18 := eq_true p18
     replace q18 := eq_true q18
     have HP20 := Kd.R_putg HO_7.out ((l0.length : Int) : Int) ((x8_1) % 4294967296)
     go_wp2_with (first | ((with_reducible refine gate_store (t := 60) (p := 44) rfl ?_); refine store_event (t := 60) (p := 44) (v := ?vo_w21) (w1 := (wr.setCell ⟨go18, ((l0.length : Int) : Int).toNat, none⟩ (.int .u32 ((x8_1) % 4294967296)))) ?hg ?ho ?hn ?hr ?_; (case ho => rfl); (case hg => rfl); (case hn => rfl); (case hr => first | (go_simp; done) | (go_simp; rfl)); intro w21 hw; have hg : wr.grownBy w21 (some go18) := (by rw [hw]; exact HP20.2); have hp_ : Kd.R (Kd.int .u32) 60 w21 w.heap.size (fun k_ => (w.heap.size ≤ k_)) (.slice (some ⟨go18, 0, none⟩) x7_1.length co18) y512 := (by rw [hw, Ny512.out]; exact HP20.1); clear HP20; replace HO_7 := Aside0.mk (hp_); replace HB := Aside0.mk ((by rw [hw]; exact below_set (HB.out) GB18.out : Below w.heap.size w w21)); clear hg hw hp_) | ((with_reducible refine gate_callee (f := 67) rfl ?_); refine goesL_ (some 46) rfl rfl Tryd.func67 (by kernel_rfl) rfl #[.slice (some ⟨go18, 0, none⟩) y512.length co18] rfl (by (try simp only [List.map_toArray, List.map_cons, List.map_nil]); first | done | (rw [show y512.length = x7_1.length from (Kd.R_reads' HO_7.out).1.symm] <;> rfl) | rfl | (simp only [List.length_drop, List.length_take]; rfl)) ?_; (with_reducible refine (integer_trim.calls k1 (fun k_ => some k_ = (.slice (some ⟨go18, 0, none⟩) x7_1.length co18 : Value).ownBlock) _ _ y512 t513 _ ?side1 A19.out).mono ?_); (case side1 => rw [show y512.length = x7_1.length from (Kd.R_reads' HO_7.out).1.symm]; exact Kd.R_V (Kd.R_tight rfl (HO_7.out))); rintro e w22 ⟨v514, rfl, ho0, hb⟩; refine ⟨_, rfl, ?_⟩; have n1_ := Aside0.mk (Kd.V_lower (Kd.V_mono (ok' := fun k_ => (w.heap.size ≤ k_)) ho0 (fun k_ hk_ => Or.elim hk_ (fun hs_ => ((HO_7.out).1 k_ hs_.symm)) (fun hn_ => (Nat.le_trans (below_size (below_up HB.out)) hn_)))) (below_size (below_up HB.out))); have n2_ := Aside0.mk (below_step (below_up HB.out) hb); (try clear HO_7); clear HB; have HO515 := n1_; have HB := n2_; clear n1_ n2_; (try clear hb); (try clear hb2); (try clear hk); (try clear hi); (try clear ho0)))
     go_ret
     exact ⟨_, by first | rfl | (simp [errW_none, errW_some] <;> rfl) | (simp only [← hji4]; first | rfl | (simp [errW_none, errW_some] <;> rfl)) | (simp [*, errW_none, errW_some] <;> rfl), Kd.V_up HO515.out, below_up HB.out⟩
 ·
  rw [if_neg c5] at H
  exact absurd H (by simp)
mutual
def integer_Parse.j0 : Nat → ByteArray → Bool → Bool → Option (Bool × List Int × Int)
 | 0, _, _, _ => none
 | k + 1, x4, x5, x25 => if x25 = true then (some (false, ([] : List Int), 14)) else (if 0 < (x4.size : Int) then (if (bt x4 0) = 48 then (if (x4.size : Int) > 1 then (integer_Parse.j1 k x4 x5 true) else (integer_Parse.j1 k x4 x5 x5)) else (integer_Parse.j1 k x4 x5 false)) else (none))
def integer_Parse.j1 : Nat → ByteArray → Bool → Bool → Option (Bool × List Int × Int)
 | 0, _, _, _ => none
 | k + 1, x4, x5, x37 => if x37 = true then (some (false, ([] : List Int), 3)) else (integer_Parse.l0 k x4 x5 ([] : List Int))
def integer_Parse.l0 : Nat → ByteArray → Bool → List Int → Option (Bool × List Int × Int)
 | 0, _, _, _ => none
 | k + 1, x4, x5, x6 => if (x4.size : Int) > 0 then (integer_Parse.l1 k x4 x5 x6 (wrap64 ((Int.tmod (wrap64 ((x4.size : Int) - 1)) 9) + 1)) 1 (wrap64 ((Int.tmod (wrap64 ((x4.size : Int) - 1)) 9) + 1)) 0) else ((integer_signed.f k x5 x6).bind fun bt520 => (some (bt520.1, bt520.2, 0)))
def integer_Parse.l1 : Nat → ByteArray → Bool → List Int → Int → Int → Int → Int → Option (Bool × List Int × Int)
 | 0, _, _, _, _, _, _, _ => none
 | k + 1, x4, x5, x6, x7, x8, x47, x48 => if x48 < x47 then (integer_Parse.l1 k x4 x5 x6 x7 ((x8 * 10) % 4294967296) x47 (wrap64 (x48 + 1))) else (if 0 ≤ x7 then (if x7 ≤ (x4.size : Int) then ((strconv_ParseUint_56.f (x4.extract 0 (x7 : Int).toNat) 10 32).bind fun bt524 => ((integer_scale.f k x6 x8 ((bt524.1) % 4294967296)).bind fun t526 => (integer_Parse.l0 k (x4.extract (x7 : Int).toNat x4.size) x5 t526))) else (none)) else (none))
end
def integer_Parse.f (k : Nat) (a0 : ByteArray) : Option (Bool × List Int × Int) := if (a0.size : Int) > 65536 then (some (false, ([] : List Int), 5)) else ((strings_CutPrefix.f a0 (⟨#[45]⟩ : ByteArray)).bind fun bt517 => (if bt517.1.toList = ([] : List UInt8) then (integer_Parse.j0 k bt517.1 bt517.2 true) else ((strings_ContainsFunc_Parse1.f bt517.1).bind fun t519 => (integer_Parse.j0 k bt517.1 bt517.2 t519))))
theorem integer_Parse.mono_l : ∀ k, (∀ y0 y1 y2, LeO (integer_Parse.j0 k y0 y1 y2) (integer_Parse.j0 (k + 1) y0 y1 y2)) ∧ (∀ y0 y1 y2, LeO (integer_Parse.j1 k y0 y1 y2) (integer_Parse.j1 (k + 1) y0 y1 y2)) ∧ (∀ y0 y1 y2, LeO (integer_Parse.l0 k y0 y1 y2) (integer_Parse.l0 (k + 1) y0 y1 y2)) ∧ (∀ y0 y1 y2 y3 y4 y5 y6, LeO (integer_Parse.l1 k y0 y1 y2 y3 y4 y5 y6) (integer_Parse.l1 (k + 1) y0 y1 y2 y3 y4 y5 y6))
 | 0 => ⟨fun _ _ _ r h => by simp [integer_Parse.j0] at h, fun _ _ _ r h => by simp [integer_Parse.j1] at h, fun _ _ _ r h => by simp [integer_Parse.l0] at h, fun _ _ _ _ _ _ _ r h => by simp [integer_Parse.l1] at h⟩
 | k + 1 => by
  obtain ⟨ih0, ih1, ih2, ih3⟩ := integer_Parse.mono_l k
  refine ⟨?_, ?_, ?_, ?_⟩
  ·
   intro y0 y1 y2
   unfold integer_Parse.j0
   repeat' first
   | (with_reducible exact ih0 _ _ _)
   | (with_reducible exact ih1 _ _ _)
   | (with_reducible exact ih2 _ _ _)
   | (with_reducible exact ih3 _ _ _ _ _ _ _)
   | (with_reducible exact integer_scale.mono _ _ _ _)
   | (with_reducible exact integer_signed.mono _ _ _)
   | (with_reducible exact LeO.refl _)
   | (with_reducible exact LeO.none _)
   | (with_reducible refine LeO.ite ?_ ?_)
   | (with_reducible refine LeO.bind ?_ (fun _ => ?_))
  ·
   intro y0 y1 y2
   unfold integer_Parse.j1
   repeat' first
   | (with_reducible exact ih0 _ _ _)
   | (with_reducible exact ih1 _ _ _)
   | (with_reducible exact ih2 _ _ _)
   | (with_reducible exact ih3 _ _ _ _ _ _ _)
   | (with_reducible exact integer_scale.mono _ _ _ _)
   | (with_reducible exact integer_signed.mono _ _ _)
   | (with_reducible exact LeO.refl _)
   | (with_reducible exact LeO.none _)
   | (with_reducible refine LeO.ite ?_ ?_)
   | (with_reducible refine LeO.bind ?_ (fun _ => ?_))
  ·
   intro y0 y1 y2
   unfold integer_Parse.l0
   repeat' first
   | (with_reducible exact ih0 _ _ _)
   | (with_reducible exact ih1 _ _ _)
   | (with_reducible exact ih2 _ _ _)
   | (with_reducible exact ih3 _ _ _ _ _ _ _)
   | (with_reducible exact integer_scale.mono _ _ _ _)
   | (with_reducible exact integer_signed.mono _ _ _)
   | (with_reducible exact LeO.refl _)
   | (with_reducible exact LeO.none _)
   | (with_reducible refine LeO.ite ?_ ?_)
   | (with_reducible refine LeO.bind ?_ (fun _ => ?_))
  ·
   intro y0 y1 y2 y3 y4 y5 y6
   unfold integer_Parse.l1
   repeat' first
   | (with_reducible exact ih0 _ _ _)
   | (with_reducible exact ih1 _ _ _)
   | (with_reducible exact ih2 _ _ _)
   | (with_reducible exact ih3 _ _ _ _ _ _ _)
   | (with_reducible exact integer_scale.mono _ _ _ _)
   | (with_reducible exact integer_signed.mono _ _ _)
   | (with_reducible exact LeO.refl _)
   | (with_reducible exact LeO.none _)
   | (with_reducible refine LeO.ite ?_ ?_)
   | (with_reducible refine LeO.bind ?_ (fun _ => ?_))
theorem integer_Parse.mono : ∀ a0 k, LeO (integer_Parse.f k a0) (integer_Parse.f (k + 1) a0) := by
 intro a0 k
 obtain ⟨ih0, ih1, ih2, ih3⟩ := integer_Parse.mono_l k
 unfold integer_Parse.f
 repeat' first
   | (with_reducible exact ih0 _ _ _)
   | (with_reducible exact ih1 _ _ _)
   | (with_reducible exact ih2 _ _ _)
   | (with_reducible exact ih3 _ _ _ _ _ _ _)
   | (with_reducible exact integer_scale.mono _ _ _ _)
   | (with_reducible exact integer_signed.mono _ _ _)
   | (with_reducible exact LeO.refl _)
   | (with_reducible exact LeO.none _)
   | (with_reducible refine LeO.ite ?_ ?_)
   | (with_reducible refine LeO.bind ?_ (fun _ => ?_))
set_option maxHeartbeats 8000000 in
set_option maxRecDepth 100000 in
theorem integer_Parse.calls (k : Nat) (a0 : ByteArray) (r1 : Bool) (r2 : List Int) (r3 : Int) (w : World) (h : integer_Parse.f k a0 = some (r1, r2, r3)) :
  Calls Tryd.prog 21 #[.string a0] w fun e w' => ∃ v1_ : Value, e = .returned (.tuple #[.agg #[.bool r1, v1_], .int .i64 r3]) ∧ Kd.V (Kd.int .u32) 60 w' w.heap.size (fun k_ => (w.heap.size ≤ k_)) v1_ r2 ∧ Below w.heap.size w w' := by
 have hu25 := Tryd.underlying25
 have HB := Aside0.mk (Below.refl w.heap.size w)
 have H := h
 unfold integer_Parse.f at H
 clear h
 by_cases c2 : (a0.size : Int) > 65536
 ·
  rw [if_pos c2] at H
  have c2b0 := decide_eq_true c2
  have c2b1 : decide (65536 < a0.size) = true := decide_eq_true (by omega)
  clear c2
  simp only [Option.some.injEq, Prod.mk.injEq] at H
  obtain ⟨rfl, rfl, rfl⟩ := H
  go_enter Tryd.func21, Tryd.ntmps21
  go_wp2_with (first | ((with_reducible refine gate_dst (N := 2) rfl ?_); (try (refine gate_guard (by rfl) ?_; dsimp only)); refine box_event ?hg (N := 2) ?hd (cs := #[.bool false, .slice none 0 0]) (t := 25) ?hr ?_; (case hd => rfl); (case hg => rfl); (case hr => first | (go_simp; done) | (go_simp; rfl)); intro gb516 hg w3 hbox hb; have BK516 := Aside0.mk (hbox); have GE516 := Aside0.mk ((size_up hg HB.out : w.heap.size ≤ gb516)); replace HB := Aside0.mk (below_step (below_up HB.out) hb); clear hb hbox hg; have hcz4_0 : w3.cell? ⟨gb516, 0, none⟩ = some (.bool false) := (blk_cell BK516.out 0).trans rfl; have hcz4_1 : w3.cell? ⟨gb516, 1, none⟩ = some (.slice none 0 0) := (blk_cell BK516.out 1).trans rfl; have hfz4_0 := blk_frozen BK516.out 0; have hfz4_1 := blk_frozen BK516.out 1))
  refine bodyPost_ret (results_ct rfl _ _ gb516 25 #[.bool false, .slice none 0 0] (0, 0) _ rfl (by refine blk_ups ?_; refine blk_put (cs := #[.bool false, .slice none 0 0]) ?_ 1 _ rfl; refine blk_ups ?_; refine blk_put (cs := #[.bool false, .slice none 0 0]) ?_ 0 _ rfl; exact blk_up BK516.out) Tryd.underlying25 rfl (by kernel_rfl)) rfl ?_
  exact ⟨_, by first | rfl | (simp [errW_none, errW_some] <;> rfl) | (simp [*, errW_none, errW_some] <;> rfl), by first | exact Kd.R_nil _ _ _ _ _ | exact Kd.N_nil _ _ _ _ _ | exact Kd.V_nil _ _ _ _ _ | exact Kd.Q_nil _ _ _ _ _ | exact Kd.S_nil _ _ _ _ _, by repeat (first | (with_reducible first | exact HB.out | apply below_alloc | apply pw_below_drewN | apply below_drew1 | refine below_set ?_ GE516.out) | exact HB.out)⟩
 ·
  rw [if_neg c2] at H
  have c2b0 := decide_eq_false c2
  have c2b1 : decide (65536 < a0.size) = false := decide_eq_false (by omega)
  clear c2
  replace H := Option.bind_eq_some_iff.mp H
  obtain ⟨⟨t517, t518⟩, A50, H⟩ := H
  try dsimp only at H
  have A5 := Aside0.mk A50
  clear A50
  have HC6 := Aside0.mk H
  clear H
  go_enter Tryd.func21, Tryd.ntmps21
  go_upto_region 4 with (first | ((with_reducible refine gate_dst (N := 2) rfl ?_); (try (refine gate_guard (by rfl) ?_; dsimp only)); refine box_event ?hg (N := 2) ?hd (cs := #[.bool false, .slice none 0 0]) (t := 25) ?hr ?_; (case hd => rfl); (case hg => rfl); (case hr => first | (go_simp; done) | (go_simp; rfl)); intro gb516 hg w7 hbox hb; have BK516 := Aside0.mk (hbox); have GE516 := Aside0.mk ((size_up hg HB.out : w.heap.size ≤ gb516)); replace HB := Aside0.mk (below_step (below_up HB.out) hb); clear hb hbox hg) | ((with_reducible refine gate_callee (f := 53) rfl ?_); refine gl_ (some 17) Tryd.func53 #[.string a0, .string (⟨#[45]⟩ : ByteArray)] ?_; (with_reducible refine (strings_CutPrefix.calls a0 (⟨#[45]⟩ : ByteArray) t517 t518 _ A5.out).mono ?_); rintro e w' ⟨rfl, ⟨nd, rfl⟩⟩; refine ⟨_, rfl, ?_⟩))
  (try simp only [Act.put, List.setIfInBounds_toArray, List.set_cons_zero, List.set_cons_succ])
  go_cut [25] (fun v25 wc => ∃ (kq : Nat) (x25_5 : Bool), v25 = .bool x25_5 ∧ Aside0 (integer_Parse.j0 kq t517 t518 x25_5 = some (r1, r2, r3)) ∧ Aside0 (kq ≤ k) ∧ Aside0 (wc.heap[gb516]? = some (.cells #[.bool false, (.slice none 0 0)] 25 (0, 0))) ∧ Aside0 (Below w.heap.size w wc))
  case first =>
   have H := HC6.out
   clear HC6
   by_cases c8 : t517.toList = ([] : List UInt8)
   ·
    rw [if_pos c8] at H
    have c8b0 : (t517.toList == ([] : List UInt8)) = true := beq_iff_eq.mpr c8
    have c8b1 : (t517.toList != ([] : List UInt8)) = false := bne_eq_false_iff_eq.mpr c8
    clear c8
    (first | rw [c8b0] | (simp only [i64_w, i32_w]; rw [c8b0]) | skip)
    have H' := Aside0.mk H
    clear H
    go_wp2
    go_meet
    case rel => exact ⟨_, (true), (by first | rfl | (simp; done) | (simp [*]; done) | (simp <;> omega)), H', ⟨by first | omega | exact Nat.le_refl _⟩, ⟨by (with_reducible repeat (first | refine blk_drewN ?_ _ | refine blk_drew ?_ | refine blk_alloc ?_ _)); exact BK516.out⟩, ⟨by repeat (first | (with_reducible first | exact HB.out | apply below_alloc | apply pw_below_drewN | apply below_drew1 | refine below_set ?_ GE516.out) | exact HB.out)⟩⟩
   ·
    rw [if_neg c8] at H
    have c8b0 : (t517.toList == ([] : List UInt8)) = false := beq_eq_false_iff_ne.mpr c8
    have c8b1 : (t517.toList != ([] : List UInt8)) = true := bne_iff_ne.mpr c8
    (first | rw [c8b0] | (simp only [i64_w, i32_w]; rw [c8b0]) | skip)
    replace H := Option.bind_eq_some_iff.mp H
    obtain ⟨t519, A90, H⟩ := H
    try dsimp only at H
    have A9 := Aside0.mk A90
    clear A90
    have H' := Aside0.mk H
    clear H
    go_wp2_with (first | (go_at_call 54; (with_reducible refine (strings_ContainsFunc_Parse1.calls t517 t519 _ A9.out).mono ?_); rintro e w10 ⟨rfl, hb⟩; replace BK516 := Aside0.mk (blk_below (g := gb516) (o := .cells #[.bool false, .slice none 0 0] 25 (0, 0)) (blk_up BK516.out) hb); replace HB := Aside0.mk (below_step (by repeat (first | (with_reducible first | exact HB.out | apply below_alloc | apply pw_below_drewN | apply below_drew1 | refine below_set ?_ GE516.out) | exact HB.out)) hb); (try clear hb); (try clear hb2); (try clear hk); (try clear hi)))
    go_meet
    case rel => exact ⟨_, (t519), (by first | rfl | (simp; done) | (simp [*]; done) | (simp <;> omega)), H', ⟨by first | omega | exact Nat.le_refl _⟩, ⟨by (with_reducible repeat (first | refine blk_drewN ?_ _ | refine blk_drew ?_ | refine blk_alloc ?_ _)); exact BK516.out⟩, ⟨by repeat (first | (with_reducible first | exact HB.out | apply below_alloc | apply pw_below_drewN | apply below_drew1 | refine below_set ?_ GE516.out) | exact HB.out)⟩⟩
  case rest =>
   clear HC6
   obtain ⟨kq, x25_5, rfl, HA, HJ5, BK516, HB⟩ := hcut
   cases kq with
   | zero => exact absurd HA.out (by simp [integer_Parse.j0])
   | succ kj5 =>
    have H := HA.out
    clear HA
    simp only [integer_Parse.j0] at H
    by_cases c11 : x25_5 = true
    ·
     subst c11
     have H1 : (some (false, ([] : List Int), 14)) = some (r1, r2, r3) := by rw [if_pos rfl] at H; exact H
     clear H
     have H := H1
     clear H1
     simp only [Option.some.injEq, Prod.mk.injEq] at H
     obtain ⟨rfl, rfl, rfl⟩ := H
     have hcz12_0 : wc.cell? ⟨gb516, 0, none⟩ = some (.bool false) := (blk_cell BK516.out 0).trans rfl
     have hcz12_1 : wc.cell? ⟨gb516, 1, none⟩ = some (.slice none 0 0) := (blk_cell BK516.out 1).trans rfl
     have hfz12_0 := blk_frozen BK516.out 0
     have hfz12_1 := blk_frozen BK516.out 1
     go_wp2
     refine bodyPost_ret (results_ct rfl _ _ gb516 25 #[.bool false, .slice none 0 0] (0, 0) _ rfl (by refine blk_ups ?_; refine blk_put (cs := #[.bool false, .slice none 0 0]) ?_ 1 _ rfl; refine blk_ups ?_; refine blk_put (cs := #[.bool false, .slice none 0 0]) ?_ 0 _ rfl; exact blk_up BK516.out) Tryd.underlying25 rfl (by kernel_rfl)) rfl ?_
     exact ⟨_, by first | rfl | (simp [errW_none, errW_some] <;> rfl) | (simp [*, errW_none, errW_some] <;> rfl), by first | exact Kd.R_nil _ _ _ _ _ | exact Kd.N_nil _ _ _ _ _ | exact Kd.V_nil _ _ _ _ _ | exact Kd.Q_nil _ _ _ _ _ | exact Kd.S_nil _ _ _ _ _, by repeat (first | (with_reducible first | exact HB.out | apply below_alloc | apply pw_below_drewN | apply below_drew1 | refine below_set ?_ GE516.out) | exact HB.out)⟩
    ·
     replace c11 := Bool.eq_false_iff.mpr c11
     subst c11
     have H1 : (if 0 < (t517.size : Int) then (if (bt t517 0) = 48 then (if (t517.size : Int) > 1 then (integer_Parse.j1 kj5 t517 t518 true) else (integer_Parse.j1 kj5 t517 t518 t518)) else (integer_Parse.j1 kj5 t517 t518 false)) else (none)) = some (r1, r2, r3) := by rw [if_neg (show ¬ (false = true) by decide)] at H; exact H
     clear H
     have H := H1
     clear H1
     have HC13 := Aside0.mk H
     clear H
     go_upto_region 6 with (fail)
     go_cut [37] (fun v37 wc => ∃ (kq : Nat) (x37_12 : Bool), v37 = .bool x37_12 ∧ Aside0 (integer_Parse.j1 kq t517 t518 x37_12 = some (r1, r2, r3)) ∧ Aside0 (kq ≤ kj5) ∧ Aside0 (wc.heap[gb516]? = some (.cells #[.bool false, (.slice none 0 0)] 25 (0, 0))) ∧ Aside0 (Below w.heap.size w wc))
     case first =>
      have H := HC13.out
      clear HC13
      obtain ⟨c14, H⟩ := ite_some H
      have c14b0 := decide_eq_true c14
      have c14b1 : decide (0 < t517.size) = true := decide_eq_true (by omega)
      clear c14
      (first | rw [c14b0] | (simp only [i64_w, i32_w]; rw [c14b0]) | skip)
      by_cases c16 : (bt t517 0) = 48
      ·
       rw [if_pos c16] at H
       have c16b0 : ((bt t517 0) == 48) = true := beq_iff_eq.mpr c16
       have c16b1 : ((bt t517 0) != 48) = false := bne_eq_false_iff_eq.mpr c16
       clear c16
       by_cases c17 : (t517.size : Int) > 1
       ·
        rw [if_pos c17] at H
        have c17b0 := decide_eq_true c17
        have c17b1 : decide (1 < t517.size) = true := decide_eq_true (by omega)
        clear c17
        have H' := Aside0.mk H
        clear H
        have p15 : 0 ≤ (0 : Int) := (by omega)
        have q15 : 0 < t517.size := (by have : (0 : Int) < (t517.size : Int) := of_decide_eq_true (by assumption); omega)
        have hx15 : ∀ h : 0 < t517.size, ((t517[0]'h).toNat : Int) = bt t517 0 := bt_at t517 0
        clear p15
        have qi15 : (0 < (t517.size : Int)) = True := eq_true (of_decide_eq_true (by assumption))
        replace q15 := eq_true q15
        go_wp2
        go_meet
        case rel => exact ⟨_, (true), (by first | rfl | (simp; done) | (simp [*]; done) | (simp <;> omega)), H', ⟨by have := HJ5.out; first | omega | exact Nat.le_refl _⟩, ⟨by (with_reducible repeat (first | refine blk_drewN ?_ _ | refine blk_drew ?_ | refine blk_alloc ?_ _)); exact BK516.out⟩, ⟨by repeat (first | (with_reducible first | exact HB.out | apply below_alloc | apply pw_below_drewN | apply below_drew1 | refine below_set ?_ GE516.out) | exact HB.out)⟩⟩
       ·
        rw [if_neg c17] at H
        have c17b0 := decide_eq_false c17
        have c17b1 : decide (1 < t517.size) = false := decide_eq_false (by omega)
        clear c17
        have H' := Aside0.mk H
        clear H
        have p15 : 0 ≤ (0 : Int) := (by omega)
        have q15 : 0 < t517.size := (by have : (0 : Int) < (t517.size : Int) := of_decide_eq_true (by assumption); omega)
        have hx15 : ∀ h : 0 < t517.size, ((t517[0]'h).toNat : Int) = bt t517 0 := bt_at t517 0
        clear p15
        have qi15 : (0 < (t517.size : Int)) = True := eq_true (of_decide_eq_true (by assumption))
        replace q15 := eq_true q15
        go_wp2
        go_meet
        case rel => exact ⟨_, (t518), (by first | rfl | (simp; done) | (simp [*]; done) | (simp <;> omega)), H', ⟨by have := HJ5.out; first | omega | exact Nat.le_refl _⟩, ⟨by (with_reducible repeat (first | refine blk_drewN ?_ _ | refine blk_drew ?_ | refine blk_alloc ?_ _)); exact BK516.out⟩, ⟨by repeat (first | (with_reducible first | exact HB.out | apply below_alloc | apply pw_below_drewN | apply below_drew1 | refine below_set ?_ GE516.out) | exact HB.out)⟩⟩
      ·
       rw [if_neg c16] at H
       have c16b0 : ((bt t517 0) == 48) = false := beq_eq_false_iff_ne.mpr c16
       have c16b1 : ((bt t517 0) != 48) = true := bne_iff_ne.mpr c16
       have H' := Aside0.mk H
       clear H
       have p15 : 0 ≤ (0 : Int) := (by omega)
       have q15 : 0 < t517.size := (by have : (0 : Int) < (t517.size : Int) := of_decide_eq_true (by assumption); omega)
       have hx15 : ∀ h : 0 < t517.size, ((t517[0]'h).toNat : Int) = bt t517 0 := bt_at t517 0
       clear p15
       have qi15 : (0 < (t517.size : Int)) = True := eq_true (of_decide_eq_true (by assumption))
       replace q15 := eq_true q15
       go_wp2
       go_meet
       case rel => exact ⟨_, (false), (by first | rfl | (simp; done) | (simp [*]; done) | (simp <;> omega)), H', ⟨by have := HJ5.out; first | omega | exact Nat.le_refl _⟩, ⟨by (with_reducible repeat (first | refine blk_drewN ?_ _ | refine blk_drew ?_ | refine blk_alloc ?_ _)); exact BK516.out⟩, ⟨by repeat (first | (with_reducible first | exact HB.out | apply below_alloc | apply pw_below_drewN | apply below_drew1 | refine below_set ?_ GE516.out) | exact HB.out)⟩⟩
     case rest =>
      clear HC13
      obtain ⟨kq, x37_12, rfl, HA, HJ12, BK516, HB⟩ := hcut
      cases kq with
      | zero => exact absurd HA.out (by simp [integer_Parse.j1])
      | succ kj12 =>
       have H := HA.out
       clear HA
       simp only [integer_Parse.j1] at H
       by_cases c18 : x37_12 = true
       ·
        subst c18
        have H1 : (some (false, ([] : List Int), 3)) = some (r1, r2, r3) := by rw [if_pos rfl] at H; exact H
        clear H
        have H := H1
        clear H1
        simp only [Option.some.injEq, Prod.mk.injEq] at H
        obtain ⟨rfl, rfl, rfl⟩ := H
        have hcz19_0 : wc.cell? ⟨gb516, 0, none⟩ = some (.bool false) := (blk_cell BK516.out 0).trans rfl
        have hcz19_1 : wc.cell? ⟨gb516, 1, none⟩ = some (.slice none 0 0) := (blk_cell BK516.out 1).trans rfl
        have hfz19_0 := blk_frozen BK516.out 0
        have hfz19_1 := blk_frozen BK516.out 1
        go_wp2
        refine bodyPost_ret (results_ct rfl _ _ gb516 25 #[.bool false, .slice none 0 0] (0, 0) _ rfl (by refine blk_ups ?_; refine blk_put (cs := #[.bool false, .slice none 0 0]) ?_ 1 _ rfl; refine blk_ups ?_; refine blk_put (cs := #[.bool false, .slice none 0 0]) ?_ 0 _ rfl; exact blk_up BK516.out) Tryd.underlying25 rfl (by kernel_rfl)) rfl ?_
        exact ⟨_, by first | rfl | (simp [errW_none, errW_some] <;> rfl) | (simp [*, errW_none, errW_some] <;> rfl), by first | exact Kd.R_nil _ _ _ _ _ | exact Kd.N_nil _ _ _ _ _ | exact Kd.V_nil _ _ _ _ _ | exact Kd.Q_nil _ _ _ _ _ | exact Kd.S_nil _ _ _ _ _, by repeat (first | (with_reducible first | exact HB.out | apply below_alloc | apply pw_below_drewN | apply below_drew1 | refine below_set ?_ GE516.out) | exact HB.out)⟩
       ·
        replace c18 := Bool.eq_false_iff.mpr c18
        subst c18
        have H1 : (integer_Parse.l0 kj12 t517 t518 ([] : List Int)) = some (r1, r2, r3) := by rw [if_neg (show ¬ (false = true) by decide)] at H; exact H
        clear H
        have H := H1
        clear H1
        have H' := Aside0.mk H
        clear H
        go_wp2
        go_loopg [4, 6] kj12 (fun kq v4 v6 w' => ∃ (x4_3 : ByteArray) (x6_3 : List Int), v4 = .string x4_3 ∧ Aside0 (integer_Parse.l0 kq x4_3 t518 x6_3 = some (r1, r2, r3)) ∧ Aside0 (kq ≤ kj12) ∧ Aside0 (Kd.V (Kd.int .u32) 60 w' w.heap.size (fun k_ => (w.heap.size ≤ k_) ∧ k_ ≠ gb516) v6 x6_3) ∧ Aside0 (w'.heap[gb516]? = some (.cells #[.bool false, (.slice none 0 0)] 25 (0, 0))) ∧ Aside0 (Below w.heap.size w w'))
        case atStart => exact ⟨(t517), (([] : List Int)), (by first | rfl | (simp; done) | (simp [*]; done) | (simp <;> omega)), H', ⟨Nat.le_refl _⟩, ⟨by first | exact Kd.R_nil _ _ _ _ _ | exact Kd.N_nil _ _ _ _ _ | exact Kd.V_nil _ _ _ _ _ | exact Kd.Q_nil _ _ _ _ _ | exact Kd.S_nil _ _ _ _ _⟩, ⟨by (with_reducible repeat (first | refine blk_drewN ?_ _ | refine blk_drew ?_ | refine blk_alloc ?_ _)); exact BK516.out⟩, ⟨by repeat (first | (with_reducible first | exact HB.out | apply below_alloc | apply pw_below_drewN | apply below_drew1 | refine below_set ?_ GE516.out) | exact HB.out)⟩⟩
        case round =>
         clear H'
         obtain ⟨x4_3, x6_3, rfl, HA, HK3, HO_6, BK516, HB⟩ := hrel
         cases gk with
         | zero => exact absurd HA.out (by simp [integer_Parse.l0])
         | succ k3 =>
          have H := HA.out
          clear HA
          simp only [integer_Parse.l0] at H
          by_cases c20 : (x4_3.size : Int) > 0
          ·
           rw [if_pos c20] at H
           have c20b0 := decide_eq_true c20
           have c20b1 : decide (0 < x4_3.size) = true := decide_eq_true (by omega)
           clear c20
           have H' := Aside0.mk H
           clear H
           go_wp2
           go_loopg [8, 48] k3 (fun kq v8 v48 w' => ∃ (x8_4 : Int) (x48_4 : Int), v8 = .int .u32 x8_4 ∧ v48 = .int .i64 x48_4 ∧ Aside0 (integer_Parse.l1 kq x4_3 t518 x6_3 (wrap64 ((Int.tmod (wrap64 ((x4_3.size : Int) - 1)) 9) + 1)) x8_4 (wrap64 ((Int.tmod (wrap64 ((x4_3.size : Int) - 1)) 9) + 1)) x48_4 = some (r1, r2, r3)) ∧ Aside0 (kq ≤ k3) ∧ Aside0 (Kd.V (Kd.int .u32) 60 w' w.heap.size (fun k_ => (w.heap.size ≤ k_) ∧ k_ ≠ gb516) u6 x6_3) ∧ Aside0 (w'.heap[gb516]? = some (.cells #[.bool false, (.slice none 0 0)] 25 (0, 0))) ∧ Aside0 (Below w.heap.size w w'))
           case atStart => exact ⟨(1), (0), (by first | rfl | (simp; done) | (simp [*]; done) | (simp <;> omega)), (by first | rfl | (simp; done) | (simp [*]; done) | (simp <;> omega)), H', ⟨Nat.le_refl _⟩, ⟨Kd.V_up HO_6.out⟩, ⟨by (with_reducible repeat (first | refine blk_drewN ?_ _ | refine blk_drew ?_ | refine blk_alloc ?_ _)); exact BK516.out⟩, ⟨by repeat (first | (with_reducible first | exact HB.out | apply below_alloc | apply pw_below_drewN | apply below_drew1 | refine below_set ?_ GE516.out) | exact HB.out)⟩⟩
           case round =>
            clear H'
            obtain ⟨x8_4, x48_4, rfl, rfl, HA, HK4, HO_6, BK516, HB⟩ := hrel
            cases gk with
            | zero => exact absurd HA.out (by simp [integer_Parse.l1])
            | succ k4 =>
             have H := HA.out
             clear HA
             simp only [integer_Parse.l1] at H
             by_cases c21 : x48_4 < (wrap64 ((Int.tmod (wrap64 ((x4_3.size : Int) - 1)) 9) + 1))
             ·
              rw [if_pos c21] at H
              have c21b0 := decide_eq_true c21
              clear c21
              have H' := Aside0.mk H
              clear H
              go_wp2
              go_roundg k4
              case measure => have := HJ5.out; have := HJ12.out; have := HK3.out; have := HK4.out; omega
              case rel => exact ⟨((x8_4 * 10) % 4294967296), (wrap64 (x48_4 + 1)), (by first | rfl | (simp; done) | (simp [*]; done) | (simp <;> omega)), (by first | rfl | (simp; done) | (simp [*]; done) | (simp <;> omega)), H', ⟨by have := HJ5.out; have := HJ12.out; have := HK3.out; have := HK4.out; omega⟩, ⟨Kd.V_up HO_6.out⟩, ⟨by (with_reducible repeat (first | refine blk_drewN ?_ _ | refine blk_drew ?_ | refine blk_alloc ?_ _)); exact BK516.out⟩, ⟨by repeat (first | (with_reducible first | exact HB.out | apply below_alloc | apply pw_below_drewN | apply below_drew1 | refine below_set ?_ GE516.out) | exact HB.out)⟩⟩
             ·
              rw [if_neg c21] at H
              have c21b0 := decide_eq_false c21
              clear c21
              obtain ⟨ji22, hji22⟩ : ∃ j_ : Int, (wrap64 ((Int.tmod (wrap64 ((x4_3.size : Int) - 1)) 9) + 1)) = j_ := ⟨_, rfl⟩
              replace H : (if 0 ≤ (ji22) then (if (ji22) ≤ (x4_3.size : Int) then ((strconv_ParseUint_56.f (x4_3.extract 0 ((ji22) : Int).toNat) 10 32).bind fun bt524 => ((integer_scale.f k4 x6_3 x8_4 ((bt524.1) % 4294967296)).bind fun t526 => (integer_Parse.l0 k4 (x4_3.extract ((ji22) : Int).toNat x4_3.size) t518 t526))) else (none)) else (none)) = some (r1, r2, r3) := by first | (rw [hji22] at H; exact H) | (simp only [hji22] at H ⊢; exact H)
              (try rw [hji22] at c21b0)
              have hji22w : (IntKind.i64.wrap ((Int.tmod (wrap64 ((x4_3.size : Int) - 1)) 9) + 1)) = ji22 := (i64_w _).trans hji22
              obtain ⟨c23, H⟩ := ite_some H
              have c23b0 := eq_true c23
              have c23b1 := decide_eq_true c23
              clear c23
              obtain ⟨c24, H⟩ := ite_some H
              have c24b0 := eq_true c24
              have c24b1 := decide_eq_true c24
              clear c24
              replace H := Option.bind_eq_some_iff.mp H
              obtain ⟨⟨t524, t525⟩, A250, H⟩ := H
              try dsimp only at H
              have A25 := Aside0.mk A250
              clear A250
              replace H := Option.bind_eq_some_iff.mp H
              obtain ⟨t526, A260, H⟩ := H
              try dsimp only at H
              have A26 := Aside0.mk A260
              clear A260
              have c27b0 := eq_true (of_decide_eq_true (by assumption) : 0 ≤ (ji22))
              have c28b0 := eq_true (of_decide_eq_true (by assumption) : (ji22) ≤ (x4_3.size : Int))
              have H' := Aside0.mk H
              clear H
              go_wp2_with (first | ((with_reducible refine gate_callee (f := 56) rfl ?_); refine goesL_ (some 57) rfl rfl Tryd.func56 (by kernel_rfl) rfl #[.string (x4_3.extract 0 ((ji22) : Int).toNat), .int .i64 10, .int .i64 32] rfl (by (try simp only [List.map_toArray, List.map_cons, List.map_nil]); first | done | (simp only [hji22]; rfl) | rfl | (simp only [List.length_drop, List.length_take]; rfl)) ?_; (with_reducible refine (strconv_ParseUint_56.calls (x4_3.extract 0 ((ji22) : Int).toNat) 10 32 t524 t525 _ A25.out).mono ?_); rintro e w29 ⟨rfl, hb⟩; refine ⟨_, rfl, ?_⟩; replace HO_6 := Aside0.mk (Kd.V_below (Kd.V_up HO_6.out) hb); replace BK516 := Aside0.mk (blk_below (g := gb516) (o := .cells #[.bool false, .slice none 0 0] 25 (0, 0)) (blk_up BK516.out) hb); replace HB := Aside0.mk (below_step (by repeat (first | (with_reducible first | exact HB.out | apply below_alloc | apply pw_below_drewN | apply below_drew1 | refine below_set ?_ GE516.out) | exact HB.out)) hb); (try clear hb); (try clear hb2); (try clear hk); (try clear hi); (try simp only [errW_none, errW_some]); obtain ⟨Ao30, co30, eo30⟩ := Kd.V_slice HO_6.out; subst eo30) | ((with_reducible refine gate_callee (f := 57) rfl ?_); refine gl_ (some 64) Tryd.func57 #[.slice Ao30 x6_3.length co30, .int .u32 x8_4, .int .u32 ((t524) % 4294967296)] ?_; (with_reducible refine (integer_scale.calls k4 _ _ x6_3 x8_4 ((t524) % 4294967296) t526 _ ?side1 ?side2 A26.out).mono ?_); (case side1 => repeat (first | exact (Kd.V_reads' HO_6.out).2.2 | (with_reducible refine Kd.C_alloc ?_ _) | (with_reducible refine Kd.C_drewN ?_ _) | (with_reducible refine Kd.C_drew ?_))); (case side2 => exact (Kd.V_reads' HO_6.out).2.1); rintro e w31 ⟨v527, rfl, ho0, hb⟩; refine ⟨_, rfl, ?_⟩; replace HO_6 := Aside0.mk (Kd.V_below (Kd.V_up HO_6.out) hb); have HO528 := Aside0.mk (Kd.V_lower (Kd.V_mono (ok' := fun k_ => (w.heap.size ≤ k_) ∧ k_ ≠ gb516) ho0 (fun k_ hk_ => ⟨(Nat.le_trans (below_size (by repeat (first | (with_reducible first | exact HB.out | apply below_alloc | apply pw_below_drewN | apply below_drew1 | refine below_set ?_ GE516.out) | exact HB.out))) hk_), (Kd.freshB (g := gb516) (o := .cells #[.bool false, .slice none 0 0] 25 (0, 0)) (blk_up BK516.out) k_ hk_)⟩)) (below_size (by repeat (first | (with_reducible first | exact HB.out | apply below_alloc | apply pw_below_drewN | apply below_drew1 | refine below_set ?_ GE516.out) | exact HB.out)))); replace BK516 := Aside0.mk (blk_below (g := gb516) (o := .cells #[.bool false, .slice none 0 0] 25 (0, 0)) (blk_up BK516.out) hb); replace HB := Aside0.mk (below_step (by repeat (first | (with_reducible first | exact HB.out | apply below_alloc | apply pw_below_drewN | apply below_drew1 | refine below_set ?_ GE516.out) | exact HB.out)) hb); (try clear hb); (try clear hb2); (try clear hk); (try clear hi); (try clear ho0)))
              go_roundg k4
              case measure => have := HJ5.out; have := HJ12.out; have := HK3.out; have := HK4.out; omega
              case rel => exact ⟨(x4_3.extract ((ji22) : Int).toNat x4_3.size), (t526), (by first | rfl | (simp; done) | (simp only [← hji22] <;> (first | rfl | simp)) | (simp [*]; done)), H', ⟨by have := HJ5.out; have := HJ12.out; have := HK3.out; have := HK4.out; omega⟩, ⟨Kd.V_up HO528.out⟩, ⟨by (with_reducible repeat (first | refine blk_drewN ?_ _ | refine blk_drew ?_ | refine blk_alloc ?_ _)); exact BK516.out⟩, ⟨by repeat (first | (with_reducible first | exact HB.out | apply below_alloc | apply pw_below_drewN | apply below_drew1 | refine below_set ?_ GE516.out) | exact HB.out)⟩⟩
          ·
           rw [if_neg c20] at H
           have c20b0 := decide_eq_false c20
           have c20b1 : decide (0 < x4_3.size) = false := decide_eq_false (by omega)
           clear c20
           replace H := Option.bind_eq_some_iff.mp H
           obtain ⟨⟨t520, t521⟩, A320, H⟩ := H
           try dsimp only at H
           have A32 := Aside0.mk A320
           clear A320
           simp only [Option.some.injEq, Prod.mk.injEq] at H
           obtain ⟨rfl, rfl, rfl⟩ := H
           obtain ⟨Ao33, co33, eo33⟩ := Kd.V_slice HO_6.out
           subst eo33
           go_wp2_with (first | ((with_reducible refine gate_callee (f := 45) rfl ?_); refine gl_ (some 70) Tryd.func45 #[.bool t518, .slice Ao33 x6_3.length co33] ?_; (with_reducible refine (integer_signed.calls k3 t518 (fun k_ => ((w.heap.size ≤ k_) ∧ k_ ≠ gb516)) _ _ x6_3 t520 t521 _ ?side1 A32.out).mono ?_); (case side1 => exact HO_6.out); rintro e w34 ⟨v522, rfl, ho0, hb⟩; refine ⟨_, rfl, ?_⟩; have n1_ := Aside0.mk (Kd.V_lower (Kd.V_mono (ok' := fun k_ => (w.heap.size ≤ k_) ∧ k_ ≠ gb516) ho0 (fun k_ hk_ => ⟨Or.elim hk_ (fun hs_ => hs_.1) (fun hn_ => (Nat.le_trans (below_size (by repeat (first | (with_reducible first | exact HB.out | apply below_alloc | apply pw_below_drewN | apply below_drew1 | refine below_set ?_ GE516.out) | exact HB.out))) hn_)), Or.elim hk_ (fun hs_ => hs_.2) (fun hn_ => (Kd.freshB (g := gb516) (o := .cells #[.bool false, .slice none 0 0] 25 (0, 0)) (blk_up BK516.out) k_ hn_))⟩)) (below_size (by repeat (first | (with_reducible first | exact HB.out | apply below_alloc | apply pw_below_drewN | apply below_drew1 | refine below_set ?_ GE516.out) | exact HB.out)))); have n2_ := Aside0.mk (blk_below (g := gb516) (o := .cells #[.bool false, .slice none 0 0] 25 (0, 0)) (blk_up BK516.out) hb); have n3_ := Aside0.mk (below_step (by repeat (first | (with_reducible first | exact HB.out | apply below_alloc | apply pw_below_drewN | apply below_drew1 | refine below_set ?_ GE516.out) | exact HB.out)) hb); (try clear HO_6); clear BK516 HB; have HO523 := n1_; have BK516 := n2_; have HB := n3_; clear n1_ n2_ n3_; (try clear hb); (try clear hb2); (try clear hk); (try clear hi); (try clear ho0); have hcz35_0 : w34.cell? ⟨gb516, 0, none⟩ = some (.bool false) := (blk_cell BK516.out 0).trans rfl; have hcz35_1 : w34.cell? ⟨gb516, 1, none⟩ = some (.slice none 0 0) := (blk_cell BK516.out 1).trans rfl; have hfz35_0 := blk_frozen BK516.out 0; have hfz35_1 := blk_frozen BK516.out 1; obtain ⟨Ao36, co36, eo36⟩ := Kd.V_slice HO523.out; subst eo36))
           refine bodyPost_ret (results_ct rfl _ _ gb516 25 #[.bool t520, .slice Ao36 t521.length co36] (0, 0) _ rfl (by refine blk_ups ?_; refine blk_put (cs := #[.bool t520, .slice none 0 0]) ?_ 1 _ rfl; refine blk_ups ?_; refine blk_put (cs := #[.bool false, .slice none 0 0]) ?_ 0 _ rfl; exact blk_up BK516.out) Tryd.underlying25 rfl (by kernel_rfl)) rfl ?_
           exact ⟨_, by first | rfl | (simp [errW_none, errW_some] <;> rfl) | (simp [*, errW_none, errW_some] <;> rfl), Kd.V_up (Kd.V_mono (Kd.V_far (p := ⟨gb516, 1, none⟩) (Kd.V_far (p := ⟨gb516, 0, none⟩) (Kd.V_mono HO523.out (fun k_ hk => (⟨hk, hk.2⟩ : _ ∧ k_ ≠ gb516))) (fun _ hk => hk.2) (.bool t520)) (fun _ hk => hk.2) (.slice Ao36 t521.length co36)) (fun _ hk => hk.1.1)), by repeat (first | (with_reducible first | exact HB.out | apply below_alloc | apply pw_below_drewN | apply below_drew1 | refine below_set ?_ GE516.out) | exact HB.out)⟩
def dowellaw01_read.f (k : Nat) (a0 : ByteArray) : Option (Bool × List Int × Bool) := if (a0.size : Int) > 120 then (some (false, ([] : List Int), false)) else ((dowelref01_Check.f k a0).bind fun t551 => (if t551 = 0 then ((integer_Parse.f k a0).bind fun bt552 => (some (bt552.1, bt552.2.1, (bt552.2.2 == 0)))) else (some (false, ([] : List Int), false))))
theorem dowellaw01_read.mono : ∀ a0 k, LeO (dowellaw01_read.f k a0) (dowellaw01_read.f (k + 1) a0) := by
 intro a0 k
 unfold dowellaw01_read.f
 repeat' first
   | (with_reducible exact dowelref01_Check.mono _ _)
   | (with_reducible exact integer_Parse.mono _ _)
   | (with_reducible exact LeO.refl _)
   | (with_reducible exact LeO.none _)
   | (with_reducible refine LeO.ite ?_ ?_)
   | (with_reducible refine LeO.bind ?_ (fun _ => ?_))
set_option maxHeartbeats 8000000 in
set_option maxRecDepth 100000 in
theorem dowellaw01_read.calls (k : Nat) (a0 : ByteArray) (r1 : Bool) (r2 : List Int) (r3 : Bool) (w : World) (h : dowellaw01_read.f k a0 = some (r1, r2, r3)) :
  Calls Tryd.prog 24 #[.string a0] w fun e w' => ∃ v1_ : Value, e = .returned (.tuple #[.agg #[.bool r1, v1_], .bool r3]) ∧ Kd.V (Kd.int .u32) 60 w' w.heap.size (fun k_ => (w.heap.size ≤ k_)) v1_ r2 ∧ Below w.heap.size w w' := by
 have hu25 := Tryd.underlying25
 have HB := Aside0.mk (Below.refl w.heap.size w)
 have H := h
 unfold dowellaw01_read.f at H
 clear h
 by_cases c2 : (a0.size : Int) > 120
 ·
  rw [if_pos c2] at H
  have c2b0 := decide_eq_true c2
  have c2b1 : decide (120 < a0.size) = true := decide_eq_true (by omega)
  clear c2
  simp only [Option.some.injEq, Prod.mk.injEq] at H
  obtain ⟨rfl, rfl, rfl⟩ := H
  go_enter Tryd.func24, Tryd.ntmps24
  go_wp2_with (first | ((with_reducible refine gate_dst (N := 2) rfl ?_); refine box_event ?hg (N := 2) ?hd (cs := #[.bool false, .slice none 0 0]) (t := 25) ?hr ?_; (case hd => rfl); (case hg => rfl); (case hr => first | (go_simp; done) | (go_simp; rfl)); intro gb550 hg w3 hbox hb; have BK550 := Aside0.mk (hbox); have GE550 := Aside0.mk ((size_up hg HB.out : w.heap.size ≤ gb550)); replace HB := Aside0.mk (below_step (below_up HB.out) hb); clear hb hbox hg; have hcz4_0 : w3.cell? ⟨gb550, 0, none⟩ = some (.bool false) := (blk_cell BK550.out 0).trans rfl; have hcz4_1 : w3.cell? ⟨gb550, 1, none⟩ = some (.slice none 0 0) := (blk_cell BK550.out 1).trans rfl; have hfz4_0 := blk_frozen BK550.out 0; have hfz4_1 := blk_frozen BK550.out 1))
  refine bodyPost_ret (results_ct rfl _ _ gb550 25 #[.bool false, .slice none 0 0] (0, 0) _ rfl (by refine blk_ups ?_; refine blk_put (cs := #[.bool false, .slice none 0 0]) ?_ 1 _ rfl; refine blk_ups ?_; refine blk_put (cs := #[.bool false, .slice none 0 0]) ?_ 0 _ rfl; exact blk_up BK550.out) Tryd.underlying25 rfl (by kernel_rfl)) rfl ?_
  exact ⟨_, by first | rfl | (simp [errW_none, errW_some] <;> rfl) | (simp [*, errW_none, errW_some] <;> rfl), by first | exact Kd.R_nil _ _ _ _ _ | exact Kd.N_nil _ _ _ _ _ | exact Kd.V_nil _ _ _ _ _ | exact Kd.Q_nil _ _ _ _ _ | exact Kd.S_nil _ _ _ _ _, by repeat (first | (with_reducible first | exact HB.out | apply below_alloc | apply pw_below_drewN | apply below_drew1 | refine below_set ?_ GE550.out) | exact HB.out)⟩
 ·
  rw [if_neg c2] at H
  have c2b0 := decide_eq_false c2
  have c2b1 : decide (120 < a0.size) = false := decide_eq_false (by omega)
  clear c2
  replace H := Option.bind_eq_some_iff.mp H
  obtain ⟨t551, A50, H⟩ := H
  try dsimp only at H
  have A5 := Aside0.mk A50
  clear A50
  by_cases c6 : t551 = 0
  ·
   rw [if_pos c6] at H
   have c6b0 : (t551 == 0) = true := beq_iff_eq.mpr c6
   have c6b1 : (t551 != 0) = false := bne_eq_false_iff_eq.mpr c6
   clear c6
   replace H := Option.bind_eq_some_iff.mp H
   obtain ⟨⟨t552, t553, t556⟩, A70, H⟩ := H
   try dsimp only at H
   have A7 := Aside0.mk A70
   clear A70
   simp only [Option.some.injEq, Prod.mk.injEq] at H
   obtain ⟨rfl, rfl, rfl⟩ := H
   go_enter Tryd.func24, Tryd.ntmps24
   go_wp2_with (first | ((with_reducible refine gate_dst (N := 2) rfl ?_); refine box_event ?hg (N := 2) ?hd (cs := #[.bool false, .slice none 0 0]) (t := 25) ?hr ?_; (case hd => rfl); (case hg => rfl); (case hr => first | (go_simp; done) | (go_simp; rfl)); intro gb550 hg w8 hbox hb; have BK550 := Aside0.mk (hbox); have GE550 := Aside0.mk ((size_up hg HB.out : w.heap.size ≤ gb550)); replace HB := Aside0.mk (below_step (below_up HB.out) hb); clear hb hbox hg) | (go_at_call 22; (with_reducible refine (dowelref01_Check.calls k a0 t551 _ A5.out).mono ?_); rintro e w' ⟨rfl, ⟨nd, rfl⟩⟩; (try (rw [drewN_self w8]; generalize hq_ : World.drewN w8 _ = w8; have n0_ : Aside0 (w8.heap[gb550]? = some (.cells #[.bool false, .slice none 0 0] 25 (0, 0))) := ⟨by rw [← hq_]; exact (blk_up BK550.out)⟩; have n1_ : Aside0 (Below w.heap.size w w8) := ⟨by rw [← hq_]; exact (by repeat (first | (with_reducible first | exact HB.out | apply below_alloc | apply pw_below_drewN | apply below_drew1 | refine below_set ?_ GE550.out) | exact HB.out))⟩; clear BK550 HB hq_; have BK550 := n0_; have HB := n1_; clear n0_ n1_))) | ((with_reducible refine gate_callee (f := 21) rfl ?_); refine gl_ (some 17) Tryd.func21 #[.string a0] ?_; (with_reducible refine (integer_Parse.calls k a0 t552 t553 t556 _ A7.out).mono ?_); rintro e w9 ⟨v554, rfl, ho0, hb⟩; refine ⟨_, rfl, ?_⟩; have HO555 := Aside0.mk (Kd.V_lower (Kd.V_mono (ok' := fun k_ => (w.heap.size ≤ k_) ∧ k_ ≠ gb550) ho0 (fun k_ hk_ => ⟨(Nat.le_trans (below_size (by repeat (first | (with_reducible first | exact HB.out | apply below_alloc | apply pw_below_drewN | apply below_drew1 | refine below_set ?_ GE550.out) | exact HB.out))) hk_), (Kd.freshB (g := gb550) (o := .cells #[.bool false, .slice none 0 0] 25 (0, 0)) (blk_up BK550.out) k_ hk_)⟩)) (below_size (by repeat (first | (with_reducible first | exact HB.out | apply below_alloc | apply pw_below_drewN | apply below_drew1 | refine below_set ?_ GE550.out) | exact HB.out)))); replace BK550 := Aside0.mk (blk_below (g := gb550) (o := .cells #[.bool false, .slice none 0 0] 25 (0, 0)) (blk_up BK550.out) hb); replace HB := Aside0.mk (below_step (by repeat (first | (with_reducible first | exact HB.out | apply below_alloc | apply pw_below_drewN | apply below_drew1 | refine below_set ?_ GE550.out) | exact HB.out)) hb); (try clear hb); (try clear hb2); (try clear hk); (try clear hi); (try clear ho0)) | ((with_reducible refine gate_dst (N := 4) rfl ?_); refine box_event ?hg (N := 4) ?hd (cs := #[.bool false, .slice none 0 0]) (t := 25) ?hr ?_; (case hd => rfl); (case hg => rfl); (case hr => first | (go_simp; done) | (go_simp; rfl)); intro gb557 hg w10 hbox hb; replace HO555 := Aside0.mk (Kd.V_below (Kd.V_elderB (Kd.V_up HO555.out) gb557 (Nat.le_of_eq hg.symm)) hb); have BK557 := Aside0.mk (hbox); have GE557 := Aside0.mk ((by rw [hg]; exact (below_size (by repeat (first | (with_reducible first | exact HB.out | apply below_alloc | apply pw_below_drewN | apply below_drew1 | refine below_set ?_ GE550.out) | exact HB.out))) : w.heap.size ≤ gb557)); replace HB := Aside0.mk (below_step (by repeat (first | (with_reducible first | exact HB.out | apply below_alloc | apply pw_below_drewN | apply below_drew1 | refine below_set ?_ GE550.out) | exact HB.out)) hb); have NB550_557 := Aside0.mk ((blk_nw hg BK550.out : gb550 ≠ gb557)); have NB557_550 := Aside0.mk ((nw_blk hg BK550.out : gb557 ≠ gb550)); replace BK550 := Aside0.mk (blk_below (g := gb550) (o := .cells #[.bool false, .slice none 0 0] 25 (0, 0)) (blk_up BK550.out) hb); clear hb hbox hg; have hnb11 := NB557_550.out; have hnc11 := NB550_557.out; have hcz12_0 : w10.cell? ⟨gb557, 0, none⟩ = some (.bool false) := (blk_cell BK557.out 0).trans rfl; have hcz12_1 : w10.cell? ⟨gb557, 1, none⟩ = some (.slice none 0 0) := (blk_cell BK557.out 1).trans rfl; have hfz12_0 := blk_frozen BK557.out 0; have hfz12_1 := blk_frozen BK557.out 1; obtain ⟨Ao13, co13, eo13⟩ := Kd.V_slice HO555.out; subst eo13; have hcz14_0 : w10.cell? ⟨gb550, 0, none⟩ = some (.bool false) := (blk_cell BK550.out 0).trans rfl; have hcz14_1 : w10.cell? ⟨gb550, 1, none⟩ = some (.slice none 0 0) := (blk_cell BK550.out 1).trans rfl; have hfz14_0 := blk_frozen BK550.out 0; have hfz14_1 := blk_frozen BK550.out 1))
   refine bodyPost_ret (results_ct rfl _ _ gb550 25 #[.bool t552, .slice Ao13 t553.length co13] (0, 0) _ rfl (by refine blk_ups ?_; refine blk_put (cs := #[.bool t552, .slice none 0 0]) ?_ 1 _ rfl; refine blk_ups ?_; refine blk_put (cs := #[.bool false, .slice none 0 0]) ?_ 0 _ rfl; refine blk_ups ?_; refine blk_far ?_ NB550_557.out _; refine blk_ups ?_; refine blk_far ?_ NB550_557.out _; exact blk_up BK550.out) Tryd.underlying25 rfl (by kernel_rfl)) rfl ?_
   exact ⟨_, by first | rfl | (simp [errW_none, errW_some] <;> rfl) | (simp [*, errW_none, errW_some] <;> rfl), Kd.V_up (Kd.V_mono (Kd.V_far (p := ⟨gb550, 1, none⟩) (Kd.V_far (p := ⟨gb550, 0, none⟩) (Kd.V_far (p := ⟨gb557, 1, none⟩) (Kd.V_far (p := ⟨gb557, 0, none⟩) (Kd.V_mono (Kd.V_mono HO555.out (fun k_ hk => (⟨hk, hk.2⟩ : _ ∧ k_ ≠ gb557))) (fun k_ hk => (⟨hk, hk.1.1.2⟩ : _ ∧ k_ ≠ gb550))) (fun _ hk => hk.1.2) (.bool t552)) (fun _ hk => hk.1.2) (.slice Ao13 t553.length co13)) (fun _ hk => hk.2) (.bool t552)) (fun _ hk => hk.2) (.slice Ao13 t553.length co13)) (fun _ hk => hk.1.1.1.1)), by repeat (first | (with_reducible first | exact HB.out | apply below_alloc | apply pw_below_drewN | apply below_drew1 | refine below_set ?_ GE550.out | refine below_set ?_ GE557.out) | exact HB.out)⟩
  ·
   rw [if_neg c6] at H
   have c6b0 : (t551 == 0) = false := beq_eq_false_iff_ne.mpr c6
   have c6b1 : (t551 != 0) = true := bne_iff_ne.mpr c6
   simp only [Option.some.injEq, Prod.mk.injEq] at H
   obtain ⟨rfl, rfl, rfl⟩ := H
   go_enter Tryd.func24, Tryd.ntmps24
   go_wp2_with (first | ((with_reducible refine gate_dst (N := 2) rfl ?_); refine box_event ?hg (N := 2) ?hd (cs := #[.bool false, .slice none 0 0]) (t := 25) ?hr ?_; (case hd => rfl); (case hg => rfl); (case hr => first | (go_simp; done) | (go_simp; rfl)); intro gb550 hg w15 hbox hb; have BK550 := Aside0.mk (hbox); have GE550 := Aside0.mk ((size_up hg HB.out : w.heap.size ≤ gb550)); replace HB := Aside0.mk (below_step (below_up HB.out) hb); clear hb hbox hg) | (go_at_call 22; (with_reducible refine (dowelref01_Check.calls k a0 t551 _ A5.out).mono ?_); rintro e w' ⟨rfl, ⟨nd, rfl⟩⟩; (try (rw [drewN_self w15]; generalize hq_ : World.drewN w15 _ = w15; have n0_ : Aside0 (w15.heap[gb550]? = some (.cells #[.bool false, .slice none 0 0] 25 (0, 0))) := ⟨by rw [← hq_]; exact (blk_up BK550.out)⟩; have n1_ : Aside0 (Below w.heap.size w w15) := ⟨by rw [← hq_]; exact (by repeat (first | (with_reducible first | exact HB.out | apply below_alloc | apply pw_below_drewN | apply below_drew1 | refine below_set ?_ GE550.out) | exact HB.out))⟩; clear BK550 HB hq_; have BK550 := n0_; have HB := n1_; clear n0_ n1_)); have hcz16_0 : w15.cell? ⟨gb550, 0, none⟩ = some (.bool false) := (blk_cell BK550.out 0).trans rfl; have hcz16_1 : w15.cell? ⟨gb550, 1, none⟩ = some (.slice none 0 0) := (blk_cell BK550.out 1).trans rfl; have hfz16_0 := blk_frozen BK550.out 0; have hfz16_1 := blk_frozen BK550.out 1))
   refine bodyPost_ret (results_ct rfl _ _ gb550 25 #[.bool false, .slice none 0 0] (0, 0) _ rfl (by refine blk_ups ?_; refine blk_put (cs := #[.bool false, .slice none 0 0]) ?_ 1 _ rfl; refine blk_ups ?_; refine blk_put (cs := #[.bool false, .slice none 0 0]) ?_ 0 _ rfl; exact blk_up BK550.out) Tryd.underlying25 rfl (by kernel_rfl)) rfl ?_
   exact ⟨_, by first | rfl | (simp [errW_none, errW_some] <;> rfl) | (simp [*, errW_none, errW_some] <;> rfl), by first | exact Kd.R_nil _ _ _ _ _ | exact Kd.N_nil _ _ _ _ _ | exact Kd.V_nil _ _ _ _ _ | exact Kd.Q_nil _ _ _ _ _ | exact Kd.S_nil _ _ _ _ _, by repeat (first | (with_reducible first | exact HB.out | apply below_alloc | apply pw_below_drewN | apply below_drew1 | refine below_set ?_ GE550.out) | exact HB.out)⟩
def dowelref01_Sign.f (a0 : ByteArray) : Option (Int) := if a0.toList = ([48] : List UInt8) then (some 0) else (if 0 < (a0.size : Int) then (if (bt a0 0) = 45 then (some (-1)) else (some 1)) else (none))
set_option maxHeartbeats 8000000 in
set_option maxRecDepth 100000 in
theorem dowelref01_Sign.calls (a0 : ByteArray) (r : Int) (w : World) (h : dowelref01_Sign.f a0 = some r) :
  Calls Tryd.prog 33 #[.string a0] w fun e w' => e = .returned (.int .i64 r) ∧ Drawn0 w w' := by
 have H := h
 unfold dowelref01_Sign.f at H
 clear h
 by_cases c2 : a0.toList = ([48] : List UInt8)
 ·
  rw [if_pos c2] at H
  have c2b0 : (a0.toList == ([48] : List UInt8)) = true := beq_iff_eq.mpr c2
  have c2b1 : (a0.toList != ([48] : List UInt8)) = false := bne_eq_false_iff_eq.mpr c2
  clear c2
  obtain rfl := Option.some.inj H
  go_enter Tryd.func33, Tryd.ntmps33
  go_wp2
  go_ret
  exact ⟨by first | rfl | (simp; done) | (simp [*]; done) | (simp <;> omega), by repeat (first | exact Drawn0.refl _ | apply Drawn0.step)⟩
 ·
  rw [if_neg c2] at H
  have c2b0 : (a0.toList == ([48] : List UInt8)) = false := beq_eq_false_iff_ne.mpr c2
  have c2b1 : (a0.toList != ([48] : List UInt8)) = true := bne_iff_ne.mpr c2
  by_cases c3 : 0 < (a0.size : Int)
  ·
   rw [if_pos c3] at H
   have c3b0 := decide_eq_true c3
   have c3b1 : decide (0 < a0.size) = true := decide_eq_true (by omega)
   clear c3
   by_cases c5 : (bt a0 0) = 45
   ·
    rw [if_pos c5] at H
    have c5b0 : ((bt a0 0) == 45) = true := beq_iff_eq.mpr c5
    have c5b1 : ((bt a0 0) != 45) = false := bne_eq_false_iff_eq.mpr c5
    clear c5
    obtain rfl := Option.some.inj H
    have p4 : 0 ≤ (0 : Int) := (by omega)
    have q4 : 0 < a0.size := (by have : (0 : Int) < (a0.size : Int) := of_decide_eq_true (by assumption); omega)
    have hx4 : ∀ h : 0 < a0.size, ((a0[0]'h).toNat : Int) = bt a0 0 := bt_at a0 0
    clear p4
    have qi4 : (0 < (a0.size : Int)) = True := eq_true (of_decide_eq_true (by assumption))
    replace q4 := eq_true q4
    go_enter Tryd.func33, Tryd.ntmps33
    go_wp2
    go_ret
    exact ⟨by first | rfl | (simp; done) | (simp [*]; done) | (simp <;> omega), by repeat (first | exact Drawn0.refl _ | apply Drawn0.step)⟩
   ·
    rw [if_neg c5] at H
    have c5b0 : ((bt a0 0) == 45) = false := beq_eq_false_iff_ne.mpr c5
    have c5b1 : ((bt a0 0) != 45) = true := bne_iff_ne.mpr c5
    obtain rfl := Option.some.inj H
    have p4 : 0 ≤ (0 : Int) := (by omega)
    have q4 : 0 < a0.size := (by have : (0 : Int) < (a0.size : Int) := of_decide_eq_true (by assumption); omega)
    have hx4 : ∀ h : 0 < a0.size, ((a0[0]'h).toNat : Int) = bt a0 0 := bt_at a0 0
    clear p4
    have qi4 : (0 < (a0.size : Int)) = True := eq_true (of_decide_eq_true (by assumption))
    replace q4 := eq_true q4
    go_enter Tryd.func33, Tryd.ntmps33
    go_wp2
    go_ret
    exact ⟨by first | rfl | (simp; done) | (simp [*]; done) | (simp <;> omega), by repeat (first | exact Drawn0.refl _ | apply Drawn0.step)⟩
  ·
   rw [if_neg c3] at H
   exact absurd H (by simp)
def dowelref01_digits.l0 : Nat → ByteArray → List Int → Int → Option (List Int)
 | 0, _, _, _ => none
 | k + 1, x0, x3, x4 => if x4 ≥ 0 then (if 0 ≤ x4 then (if x4 < (x0.size : Int) then (if (bt x0 x4) = 45 then (dowelref01_digits.l0 k x0 x3 (wrap64 (x4 - 1))) else (if x3.length < 17592186044416 then (dowelref01_digits.l0 k x0 (x3 ++ [wrap64 ((wrap64 (bt x0 x4)) - 48)]) (wrap64 (x4 - 1))) else (none))) else (none)) else (none)) else ((dowelref01_trim.f k x3).bind fun t561 => (some t561))
def dowelref01_digits.f (k : Nat) (a0 : ByteArray) : Option (List Int) := dowelref01_digits.l0 k a0 ([] : List Int) (wrap64 ((a0.size : Int) - 1))
theorem dowelref01_digits.mono_l : ∀ k, (∀ y0 y1 y2, LeO (dowelref01_digits.l0 k y0 y1 y2) (dowelref01_digits.l0 (k + 1) y0 y1 y2))
 | 0 => fun _ _ _ r h => by simp [dowelref01_digits.l0] at h
 | k + 1 => by
  have ih0 := dowelref01_digits.mono_l k
  ·
   intro y0 y1 y2
   unfold dowelref01_digits.l0
   repeat' first
   | (with_reducible exact ih0 _ _ _)
   | (with_reducible exact dowelref01_trim.mono _ _)
   | (with_reducible exact LeO.refl _)
   | (with_reducible exact LeO.none _)
   | (with_reducible refine LeO.ite ?_ ?_)
   | (with_reducible refine LeO.bind ?_ (fun _ => ?_))
theorem dowelref01_digits.mono : ∀ a0 k, LeO (dowelref01_digits.f k a0) (dowelref01_digits.f (k + 1) a0) := by
 intro a0 k
 have ih0 := dowelref01_digits.mono_l k
 unfold dowelref01_digits.f
 repeat' first
   | (with_reducible exact ih0 _ _ _)
   | (with_reducible exact dowelref01_trim.mono _ _)
   | (with_reducible exact LeO.refl _)
   | (with_reducible exact LeO.none _)
   | (with_reducible refine LeO.ite ?_ ?_)
   | (with_reducible refine LeO.bind ?_ (fun _ => ?_))
set_option maxHeartbeats 8000000 in
set_option maxRecDepth 100000 in
theorem dowelref01_digits.calls (k : Nat) (a0 : ByteArray) (r : List Int) (w : World) (h : dowelref01_digits.f k a0 = some r) :
  Calls Tryd.prog 58 #[.string a0] w fun e w' => ∃ v0_ : Value, e = .returned (v0_) ∧ Kd.R (Kd.int .i64) 3 w' w.heap.size (fun _ => True) v0_ r ∧ Below w.heap.size w w' := by
 have HB := Aside0.mk (Below.refl w.heap.size w)
 have H := h
 unfold dowelref01_digits.f at H
 clear h
 have H' := Aside0.mk H
 clear H
 go_enter Tryd.func58, Tryd.ntmps58
 go_wp2
 go_loopg [3, 4] k (fun kq v3 v4 w' => ∃ (x3_1 : List Int) (x4_1 : Int), v4 = .int .i64 x4_1 ∧ Aside0 (dowelref01_digits.l0 kq a0 x3_1 x4_1 = some r) ∧ Aside0 (kq ≤ k) ∧ Aside0 (Kd.R (Kd.int .i64) 3 w' w.heap.size (fun _ => True) v3 x3_1) ∧ Aside0 (Below w.heap.size w w'))
 case atStart => exact ⟨(([] : List Int)), (wrap64 ((a0.size : Int) - 1)), (by first | rfl | (simp; done) | (simp [*]; done) | (simp <;> omega)), H', ⟨Nat.le_refl _⟩, ⟨by first | exact Kd.R_nil _ _ _ _ _ | exact Kd.N_nil _ _ _ _ _ | exact Kd.V_nil _ _ _ _ _ | exact Kd.Q_nil _ _ _ _ _ | exact Kd.S_nil _ _ _ _ _⟩, ⟨below_up HB.out⟩⟩
 case round =>
  clear H'
  obtain ⟨x3_1, x4_1, rfl, HA, HK1, HO_3, HB⟩ := hrel
  cases gk with
  | zero => exact absurd HA.out (by simp [dowelref01_digits.l0])
  | succ k1 =>
   have H := HA.out
   clear HA
   simp only [dowelref01_digits.l0] at H
   by_cases c2 : x4_1 ≥ 0
   ·
    rw [if_pos c2] at H
    have c2b0 := decide_eq_true c2
    clear c2
    obtain ⟨c3, H⟩ := ite_some H
    have c3b0 := decide_eq_true c3
    clear c3
    obtain ⟨c4, H⟩ := ite_some H
    have c4b0 := decide_eq_true c4
    clear c4
    by_cases c6 : (bt a0 x4_1) = 45
    ·
     rw [if_pos c6] at H
     have c6b0 : ((bt a0 x4_1) == 45) = true := beq_iff_eq.mpr c6
     have c6b1 : ((bt a0 x4_1) != 45) = false := bne_eq_false_iff_eq.mpr c6
     clear c6
     have H' := Aside0.mk H
     clear H
     have p5 : 0 ≤ (x4_1 : Int) := of_decide_eq_true (by assumption)
     have q5 : x4_1 < (a0.size : Int) := of_decide_eq_true (by assumption)
     have hx5 := bt_at a0 x4_1
     replace p5 := eq_true p5
     replace q5 := eq_true q5
     go_wp2
     go_roundg k1
     case measure => have := HK1.out; omega
     case rel => exact ⟨(x3_1), (wrap64 (x4_1 - 1)), (by first | rfl | (simp; done) | (simp [*]; done) | (simp <;> omega)), H', ⟨by have := HK1.out; omega⟩, ⟨Kd.R_up HO_3.out⟩, ⟨below_up HB.out⟩⟩
    ·
     rw [if_neg c6] at H
     have c6b0 : ((bt a0 x4_1) == 45) = false := beq_eq_false_iff_ne.mpr c6
     have c6b1 : ((bt a0 x4_1) != 45) = true := bne_iff_ne.mpr c6
     obtain ⟨c8, H⟩ := ite_some H
     have LMc8 := Aside0.mk c8
     clear c8
     obtain ⟨y558, hy558⟩ : ∃ y_ : List Int, y_ = (x3_1 ++ [wrap64 ((wrap64 (bt a0 x4_1)) - 48)]) := ⟨_, rfl⟩
     replace H : (dowelref01_digits.l0 k1 a0 y558 (wrap64 (x4_1 - 1))) = some r := by first | (rw [hy558]; exact H) | exact H
     have Ny558 := Aside0.mk hy558
     clear hy558
     have H' := Aside0.mk H
     clear H
     have p5 : 0 ≤ (x4_1 : Int) := of_decide_eq_true (by assumption)
     have q5 : x4_1 < (a0.size : Int) := of_decide_eq_true (by assumption)
     have hx5 := bt_at a0 x4_1
     replace p5 := eq_true p5
     replace q5 := eq_true q5
     have p7 : 0 ≤ (x4_1 : Int) := of_decide_eq_true (by assumption)
     have q7 : x4_1 < (a0.size : Int) := of_decide_eq_true (by assumption)
     have hx7 := bt_at a0 x4_1
     replace p7 := eq_true p7
     replace q7 := eq_true q7
     go_wp2_with (first | ((with_reducible refine gate_builtin (b := .append) (xs := #[.tmp 16, .tmp 22]) rfl ?_); at_builtin; refine Kd.R_append (Kd.int .i64) (w0 := w) w.heap.size rfl (.tmp 16) (.tmp 22) 67 3 (.int .i64 0) 8 rfl Tryd.underlying67 info3 rfl (by decide) (by omega) u3 x3_1 (wrap64 ((wrap64 (bt a0 x4_1)) - 48)) [.int .i64 (wrap64 ((wrap64 (bt a0 x4_1)) - 48))] (fun _ => True) (fun _ => False) rfl rfl ?aP (fun _ hk => hk.elim) ?aF ?aO ?aB ?aS ?aL ?_; (case aP => exact rfl); (case aB => exact (below_up HB.out)); (case aF => exact (fun _ _ => trivial)); (case aO => exact (Kd.R_up HO_3.out)); (case aS => exact (below_size (below_up HB.out))); (case aL => have := LMc8.out; omega); intro v559 w9 ho hb hg hat; rw [← Ny558.out] at ho; replace HB := Aside0.mk (hb); have HO560 := Aside0.mk (ho); clear HO_3 ho hb hg hat))
     go_roundg k1
     case measure => have := HK1.out; omega
     case rel => exact ⟨(y558), (wrap64 (x4_1 - 1)), (by first | rfl | (simp; done) | (simp [*]; done) | (simp <;> omega)), H', ⟨by have := HK1.out; omega⟩, ⟨Kd.R_up HO560.out⟩, ⟨below_up HB.out⟩⟩
   ·
    rw [if_neg c2] at H
    have c2b0 := decide_eq_false c2
    clear c2
    replace H := Option.bind_eq_some_iff.mp H
    obtain ⟨t561, A100, H⟩ := H
    try dsimp only at H
    have A10 := Aside0.mk A100
    clear A100
    obtain rfl := Option.some.inj H
    obtain ⟨Ao11, co11, eo11⟩ := Kd.R_slice HO_3.out
    subst eo11
    go_wp2_with (first | ((with_reducible refine gate_callee (f := 60) rfl ?_); refine gl_ (some 25) Tryd.func60 #[.slice Ao11 x3_1.length co11] ?_; (with_reducible refine (dowelref01_trim.calls k1 (fun k_ => some k_ = (.slice Ao11 x3_1.length co11 : Value).ownBlock) (.slice Ao11 x3_1.length co11) x3_1 t561 w _ ?side1 ?side2 A10.out).mono ?_); (case side1 => exact below_up HB.out); (case side2 => exact Kd.R_tight rfl HO_3.out); rintro e w12 ⟨v562, rfl, ho0, hb, hkp⟩; refine ⟨_, rfl, ?_⟩; have HO563 := Aside0.mk (Kd.R_mono (ok' := fun k_ => True) ho0 (fun k_ hk_ => trivial)); replace HB := Aside0.mk (hb); clear HO_3; (try clear hb); (try clear hkp); (try clear ho0)))
    go_ret
    exact ⟨_, by first | rfl | (simp [errW_none, errW_some] <;> rfl) | (simp [*, errW_none, errW_some] <;> rfl), Kd.R_up HO563.out, below_up HB.out⟩
def dowelref01_order.l0 : Nat → List Int → List Int → Int → Option (Int)
 | 0, _, _, _ => none
 | k + 1, x0, x1, x5 => if x5 ≥ 0 then (if 0 ≤ x5 then (if x5 < (x0.length : Int) then (if x5 < (x1.length : Int) then (if (rd x0 x5) < (rd x1 x5) then (some (-1)) else (if (rd x0 x5) > (rd x1 x5) then (some 1) else (dowelref01_order.l0 k x0 x1 (wrap64 (x5 - 1))))) else (none)) else (none)) else (none)) else (some 0)
def dowelref01_order.f (k : Nat) (l0 : List Int) (l1 : List Int) : Option (Int) := if (l0.length : Int) = (l1.length : Int) then (dowelref01_order.l0 k l0 l1 (wrap64 ((l0.length : Int) - 1))) else (if (l0.length : Int) < (l1.length : Int) then (some (-1)) else (some 1))
theorem dowelref01_order.mono_l : ∀ k, (∀ y0 y1 y2, LeO (dowelref01_order.l0 k y0 y1 y2) (dowelref01_order.l0 (k + 1) y0 y1 y2))
 | 0 => fun _ _ _ r h => by simp [dowelref01_order.l0] at h
 | k + 1 => by
  have ih0 := dowelref01_order.mono_l k
  ·
   intro y0 y1 y2
   unfold dowelref01_order.l0
   repeat' first
   | (with_reducible exact ih0 _ _ _)
   | (with_reducible exact LeO.refl _)
   | (with_reducible exact LeO.none _)
   | (with_reducible refine LeO.ite ?_ ?_)
   | (with_reducible refine LeO.bind ?_ (fun _ => ?_))
theorem dowelref01_order.mono : ∀ a0 a1 k, LeO (dowelref01_order.f k a0 a1) (dowelref01_order.f (k + 1) a0 a1) := by
 intro a0 a1 k
 have ih0 := dowelref01_order.mono_l k
 unfold dowelref01_order.f
 repeat' first
   | (with_reducible exact ih0 _ _ _)
   | (with_reducible exact LeO.refl _)
   | (with_reducible exact LeO.none _)
   | (with_reducible refine LeO.ite ?_ ?_)
   | (with_reducible refine LeO.bind ?_ (fun _ => ?_))
set_option maxHeartbeats 8000000 in
set_option maxRecDepth 100000 in
theorem dowelref01_order.calls (k : Nat) (A0 : Option Addr) (c0 : Nat) (l0 : List Int) (A1 : Option Addr) (c1 : Nat) (l1 : List Int) (r : Int) (w : World) (hr0 : Kd.C (Kd.int .i64) w A0 l0.length l0) (hc0 : l0.length ≤ c0) (hr1 : Kd.C (Kd.int .i64) w A1 l1.length l1) (hc1 : l1.length ≤ c1) (h : dowelref01_order.f k l0 l1 = some r) :
  Calls Tryd.prog 61 #[.slice A0 l0.length c0, .slice A1 l1.length c1] w fun e w' => e = .returned (.int .i64 r) ∧ Drawn0 w w' := by
 have HR0 := Aside0.mk hr0
 have HC0 := Aside0.mk hc0
 clear hr0 hc0
 have HR1 := Aside0.mk hr1
 have HC1 := Aside0.mk hc1
 clear hr1 hc1
 have H := h
 unfold dowelref01_order.f at H
 clear h
 by_cases c3 : (l0.length : Int) = (l1.length : Int)
 ·
  rw [if_pos c3] at H
  have c3b0 : ((l0.length : Int) == (l1.length : Int)) = true := beq_iff_eq.mpr c3
  have c3b1 : ((l0.length : Int) != (l1.length : Int)) = false := bne_eq_false_iff_eq.mpr c3
  have c3b2 : (l0.length == l1.length) = true := by first | simpa using c3 | (simp at c3 ⊢; omega)
  clear c3
  have H' := Aside0.mk H
  clear H
  go_enter Tryd.func61, Tryd.ntmps61
  go_wp2
  repeat (go_quiet (fail); try go_wp2)
  go_loopg [5] k (fun kq v5 w' => ∃ (x5_1 : Int), v5 = .int .i64 x5_1 ∧ Aside0 (dowelref01_order.l0 kq l0 l1 x5_1 = some r) ∧ Aside0 (kq ≤ k) ∧ Drawn0 w w')
  case atStart => exact ⟨(wrap64 ((l0.length : Int) - 1)), (by first | rfl | (simp; done) | (simp [*]; done) | (simp <;> omega)), H', ⟨Nat.le_refl _⟩, by repeat (first | exact Drawn0.refl _ | apply Drawn0.step)⟩
  case round =>
   clear H'
   obtain ⟨x5_1, rfl, HA, HK1, ⟨m1, rfl⟩⟩ := hrel
   cases gk with
   | zero => exact absurd HA.out (by simp [dowelref01_order.l0])
   | succ k1 =>
    have H := HA.out
    clear HA
    simp only [dowelref01_order.l0] at H
    by_cases c4 : x5_1 ≥ 0
    ·
     rw [if_pos c4] at H
     have c4b0 := decide_eq_true c4
     clear c4
     obtain ⟨c5, H⟩ := ite_some H
     have c5b0 := decide_eq_true c5
     clear c5
     obtain ⟨c6, H⟩ := ite_some H
     have c6b0 := decide_eq_true c6
     clear c6
     obtain ⟨c7, H⟩ := ite_some H
     have c7b0 := decide_eq_true c7
     clear c7
     by_cases c8 : (rd l0 x5_1) < (rd l1 x5_1)
     ·
      rw [if_pos c8] at H
      have c8b0 := decide_eq_true c8
      clear c8
      obtain rfl := Option.some.inj H
      have p609 : 0 ≤ (x5_1 : Int) := of_decide_eq_true (by assumption)
      have q609 : x5_1 < (l0.length : Int) := of_decide_eq_true (by assumption)
      obtain ⟨ad609, e609, hx609_0⟩ := Kd.at_int HR0.out x5_1 p609 q609
      cases e609
      replace p609 := eq_true p609
      replace q609 := eq_true q609
      have p610 : 0 ≤ (x5_1 : Int) := of_decide_eq_true (by assumption)
      have q610 : x5_1 < (l1.length : Int) := of_decide_eq_true (by assumption)
      obtain ⟨ad610, e610, hx610_0⟩ := Kd.at_int HR1.out x5_1 p610 q610
      cases e610
      replace p610 := eq_true p610
      replace q610 := eq_true q610
      go_wp2
      repeat (go_quiet (fail); try go_wp2)
      go_ret
      exact ⟨by first | rfl | (simp; done) | (simp [*]; done) | (simp <;> omega), by repeat (first | exact Drawn0.refl _ | apply Drawn0.step)⟩
     ·
      rw [if_neg c8] at H
      have c8b0 := decide_eq_false c8
      clear c8
      by_cases c9 : (rd l0 x5_1) > (rd l1 x5_1)
      ·
       rw [if_pos c9] at H
       have c9b0 := decide_eq_true c9
       clear c9
       obtain rfl := Option.some.inj H
       have p609 : 0 ≤ (x5_1 : Int) := of_decide_eq_true (by assumption)
       have q609 : x5_1 < (l0.length : Int) := of_decide_eq_true (by assumption)
       obtain ⟨ad609, e609, hx609_0⟩ := Kd.at_int HR0.out x5_1 p609 q609
       cases e609
       replace p609 := eq_true p609
       replace q609 := eq_true q609
       have p610 : 0 ≤ (x5_1 : Int) := of_decide_eq_true (by assumption)
       have q610 : x5_1 < (l1.length : Int) := of_decide_eq_true (by assumption)
       obtain ⟨ad610, e610, hx610_0⟩ := Kd.at_int HR1.out x5_1 p610 q610
       cases e610
       replace p610 := eq_true p610
       replace q610 := eq_true q610
       have p611 : 0 ≤ (x5_1 : Int) := of_decide_eq_true (by assumption)
       have q611 : x5_1 < (l0.length : Int) := of_decide_eq_true (by assumption)
       obtain ⟨ad611, e611, hx611_0⟩ := Kd.at_int HR0.out x5_1 p611 q611
       obtain rfl : ad609 = ad611 := (by injection e611)
       replace p611 := eq_true p611
       replace q611 := eq_true q611
       have p612 : 0 ≤ (x5_1 : Int) := of_decide_eq_true (by assumption)
       have q612 : x5_1 < (l1.length : Int) := of_decide_eq_true (by assumption)
       obtain ⟨ad612, e612, hx612_0⟩ := Kd.at_int HR1.out x5_1 p612 q612
       obtain rfl : ad610 = ad612 := (by injection e612)
       replace p612 := eq_true p612
       replace q612 := eq_true q612
       go_wp2
       repeat (go_quiet (fail); try go_wp2)
       go_ret
       exact ⟨by first | rfl | (simp; done) | (simp [*]; done) | (simp <;> omega), by repeat (first | exact Drawn0.refl _ | apply Drawn0.step)⟩
      ·
       rw [if_neg c9] at H
       have c9b0 := decide_eq_false c9
       clear c9
       have H' := Aside0.mk H
       clear H
       have p609 : 0 ≤ (x5_1 : Int) := of_decide_eq_true (by assumption)
       have q609 : x5_1 < (l0.length : Int) := of_decide_eq_true (by assumption)
       obtain ⟨ad609, e609, hx609_0⟩ := Kd.at_int HR0.out x5_1 p609 q609
       cases e609
       replace p609 := eq_true p609
       replace q609 := eq_true q609
       have p610 : 0 ≤ (x5_1 : Int) := of_decide_eq_true (by assumption)
       have q610 : x5_1 < (l1.length : Int) := of_decide_eq_true (by assumption)
       obtain ⟨ad610, e610, hx610_0⟩ := Kd.at_int HR1.out x5_1 p610 q610
       cases e610
       replace p610 := eq_true p610
       replace q610 := eq_true q610
       have p611 : 0 ≤ (x5_1 : Int) := of_decide_eq_true (by assumption)
       have q611 : x5_1 < (l0.length : Int) := of_decide_eq_true (by assumption)
       obtain ⟨ad611, e611, hx611_0⟩ := Kd.at_int HR0.out x5_1 p611 q611
       obtain rfl : ad609 = ad611 := (by injection e611)
       replace p611 := eq_true p611
       replace q611 := eq_true q611
       have p612 : 0 ≤ (x5_1 : Int) := of_decide_eq_true (by assumption)
       have q612 : x5_1 < (l1.length : Int) := of_decide_eq_true (by assumption)
       obtain ⟨ad612, e612, hx612_0⟩ := Kd.at_int HR1.out x5_1 p612 q612
       obtain rfl : ad610 = ad612 := (by injection e612)
       replace p612 := eq_true p612
       replace q612 := eq_true q612
       go_wp2
       repeat (go_quiet (fail); try go_wp2)
       go_roundg k1
       case measure => have := HK1.out; omega
       case rel => exact ⟨(wrap64 (x5_1 - 1)), (by first | rfl | (simp; done) | (simp [*]; done) | (simp <;> omega)), H', ⟨by have := HK1.out; omega⟩, by repeat (first | exact Drawn0.refl _ | apply Drawn0.step)⟩
    ·
     rw [if_neg c4] at H
     have c4b0 := decide_eq_false c4
     clear c4
     obtain rfl := Option.some.inj H
     go_wp2
     repeat (go_quiet (fail); try go_wp2)
     go_ret
     exact ⟨by first | rfl | (simp; done) | (simp [*]; done) | (simp <;> omega), by repeat (first | exact Drawn0.refl _ | apply Drawn0.step)⟩
 ·
  rw [if_neg c3] at H
  have c3b0 : ((l0.length : Int) == (l1.length : Int)) = false := beq_eq_false_iff_ne.mpr c3
  have c3b1 : ((l0.length : Int) != (l1.length : Int)) = true := bne_iff_ne.mpr c3
  have c3b2 : (l0.length == l1.length) = false := by first | simpa using c3 | (simp at c3 ⊢; omega)
  by_cases c10 : (l0.length : Int) < (l1.length : Int)
  ·
   rw [if_pos c10] at H
   have c10b0 := decide_eq_true c10
   have c10b1 : decide (l0.length < l1.length) = true := decide_eq_true (Int.ofNat_lt.mp c10)
   clear c10
   obtain rfl := Option.some.inj H
   go_enter Tryd.func61, Tryd.ntmps61
   go_wp2
   repeat (go_quiet (fail); try go_wp2)
   go_ret
   exact ⟨by first | rfl | (simp; done) | (simp [*]; done) | (simp <;> omega), by repeat (first | exact Drawn0.refl _ | apply Drawn0.step)⟩
  ·
   rw [if_neg c10] at H
   have c10b0 := decide_eq_false c10
   have c10b1 : decide (l0.length < l1.length) = false := decide_eq_false (fun h => c10 (Int.ofNat_lt.mpr h))
   clear c10
   obtain rfl := Option.some.inj H
   go_enter Tryd.func61, Tryd.ntmps61
   go_wp2
   repeat (go_quiet (fail); try go_wp2)
   go_ret
   exact ⟨by first | rfl | (simp; done) | (simp [*]; done) | (simp <;> omega), by repeat (first | exact Drawn0.refl _ | apply Drawn0.step)⟩
def dowelref01_Compare.f (k : Nat) (a0 : ByteArray) (a1 : ByteArray) : Option (Int) := (dowelref01_Sign.f a0).bind fun t876 => ((dowelref01_Sign.f a1).bind fun t877 => (if t876 < t877 then (some (-1)) else (if t876 > t877 then (some 1) else (if t876 < 0 then ((dowelref01_digits.f k a1).bind fun t878 => ((dowelref01_digits.f k a0).bind fun t881 => ((dowelref01_order.f k t878 t881).bind fun t884 => (some t884)))) else ((dowelref01_digits.f k a0).bind fun t885 => ((dowelref01_digits.f k a1).bind fun t888 => ((dowelref01_order.f k t885 t888).bind fun t891 => (some t891))))))))
theorem dowelref01_Compare.mono : ∀ a0 a1 k, LeO (dowelref01_Compare.f k a0 a1) (dowelref01_Compare.f (k + 1) a0 a1) := by
 intro a0 a1 k
 unfold dowelref01_Compare.f
 repeat' first
   | (with_reducible exact dowelref01_digits.mono _ _)
   | (with_reducible exact dowelref01_order.mono _ _ _)
   | (with_reducible exact LeO.refl _)
   | (with_reducible exact LeO.none _)
   | (with_reducible refine LeO.ite ?_ ?_)
   | (with_reducible refine LeO.bind ?_ (fun _ => ?_))
set_option maxHeartbeats 8000000 in
set_option maxRecDepth 100000 in
theorem dowelref01_Compare.calls (k : Nat) (a0 : ByteArray) (a1 : ByteArray) (r : Int) (w : World) (h : dowelref01_Compare.f k a0 a1 = some r) :
  Calls Tryd.prog 41 #[.string a0, .string a1] w fun e w' => e = .returned (.int .i64 r) ∧ Below w.heap.size w w' := by
 have HB := Aside0.mk (Below.refl w.heap.size w)
 have H := h
 unfold dowelref01_Compare.f at H
 clear h
 replace H := Option.bind_eq_some_iff.mp H
 obtain ⟨t876, A30, H⟩ := H
 try dsimp only at H
 have A3 := Aside0.mk A30
 clear A30
 replace H := Option.bind_eq_some_iff.mp H
 obtain ⟨t877, A40, H⟩ := H
 try dsimp only at H
 have A4 := Aside0.mk A40
 clear A40
 by_cases c5 : t876 < t877
 ·
  rw [if_pos c5] at H
  have c5b0 := decide_eq_true c5
  clear c5
  obtain rfl := Option.some.inj H
  go_enter Tryd.func41, Tryd.ntmps41
  go_wp2_with (first | ((with_reducible refine gate_callee (f := 33) rfl ?_); refine gl_ (some 8) Tryd.func33 #[.string a0] ?_; (with_reducible refine (dowelref01_Sign.calls a0 t876 _ A3.out).mono ?_); rintro e w' ⟨rfl, ⟨nd, rfl⟩⟩; refine ⟨_, rfl, ?_⟩) | ((with_reducible refine gate_callee (f := 33) rfl ?_); refine gl_ (some 10) Tryd.func33 #[.string a1] ?_; (with_reducible refine (dowelref01_Sign.calls a1 t877 _ A4.out).mono ?_); rintro e w' ⟨rfl, ⟨nd, rfl⟩⟩; refine ⟨_, rfl, ?_⟩))
  go_ret
  exact ⟨by first | rfl | (simp [errW_none, errW_some] <;> rfl) | (simp [*, errW_none, errW_some] <;> rfl), below_up HB.out⟩
 ·
  rw [if_neg c5] at H
  have c5b0 := decide_eq_false c5
  clear c5
  by_cases c6 : t876 > t877
  ·
   rw [if_pos c6] at H
   have c6b0 := decide_eq_true c6
   clear c6
   obtain rfl := Option.some.inj H
   go_enter Tryd.func41, Tryd.ntmps41
   go_wp2_with (first | ((with_reducible refine gate_callee (f := 33) rfl ?_); refine gl_ (some 8) Tryd.func33 #[.string a0] ?_; (with_reducible refine (dowelref01_Sign.calls a0 t876 _ A3.out).mono ?_); rintro e w' ⟨rfl, ⟨nd, rfl⟩⟩; refine ⟨_, rfl, ?_⟩) | ((with_reducible refine gate_callee (f := 33) rfl ?_); refine gl_ (some 10) Tryd.func33 #[.string a1] ?_; (with_reducible refine (dowelref01_Sign.calls a1 t877 _ A4.out).mono ?_); rintro e w' ⟨rfl, ⟨nd, rfl⟩⟩; refine ⟨_, rfl, ?_⟩))
   go_ret
   exact ⟨by first | rfl | (simp [errW_none, errW_some] <;> rfl) | (simp [*, errW_none, errW_some] <;> rfl), below_up HB.out⟩
  ·
   rw [if_neg c6] at H
   have c6b0 := decide_eq_false c6
   clear c6
   by_cases c7 : t876 < 0
   ·
    rw [if_pos c7] at H
    have c7b0 := decide_eq_true c7
    clear c7
    replace H := Option.bind_eq_some_iff.mp H
    obtain ⟨t878, A80, H⟩ := H
    try dsimp only at H
    have A8 := Aside0.mk A80
    clear A80
    replace H := Option.bind_eq_some_iff.mp H
    obtain ⟨t881, A90, H⟩ := H
    try dsimp only at H
    have A9 := Aside0.mk A90
    clear A90
    replace H := Option.bind_eq_some_iff.mp H
    obtain ⟨t884, A100, H⟩ := H
    try dsimp only at H
    have A10 := Aside0.mk A100
    clear A100
    obtain rfl := Option.some.inj H
    go_enter Tryd.func41, Tryd.ntmps41
    go_wp2_with (first | ((with_reducible refine gate_callee (f := 33) rfl ?_); refine gl_ (some 8) Tryd.func33 #[.string a0] ?_; (with_reducible refine (dowelref01_Sign.calls a0 t876 _ A3.out).mono ?_); rintro e w' ⟨rfl, ⟨nd, rfl⟩⟩; refine ⟨_, rfl, ?_⟩) | ((with_reducible refine gate_callee (f := 33) rfl ?_); refine gl_ (some 10) Tryd.func33 #[.string a1] ?_; (with_reducible refine (dowelref01_Sign.calls a1 t877 _ A4.out).mono ?_); rintro e w' ⟨rfl, ⟨nd, rfl⟩⟩; refine ⟨_, rfl, ?_⟩) | ((with_reducible refine gate_callee (f := 58) rfl ?_); refine gl_ (some 23) Tryd.func58 #[.string a1] ?_; (with_reducible refine (dowelref01_digits.calls k a1 t878 _ A8.out).mono ?_); rintro e w11 ⟨v879, rfl, ho0, hb⟩; refine ⟨_, rfl, ?_⟩; have HO880 := Aside0.mk (Kd.R_lower ho0 (below_size (below_up HB.out))); replace HB := Aside0.mk (below_step (below_up HB.out) hb); (try clear hb); (try clear hb2); (try clear hk); (try clear hi); (try clear ho0)) | ((with_reducible refine gate_callee (f := 58) rfl ?_); refine gl_ (some 25) Tryd.func58 #[.string a0] ?_; (with_reducible refine (dowelref01_digits.calls k a0 t881 _ A9.out).mono ?_); rintro e w12 ⟨v882, rfl, ho0, hb⟩; refine ⟨_, rfl, ?_⟩; have HO883 := Aside0.mk (Kd.R_lower (Kd.R_new' ho0 (Kd.R_lt (Kd.R_up HO880.out))) (below_size (below_up HB.out))); replace HO880 := Aside0.mk (Kd.R_elder' (Kd.R_up HO880.out) (Kd.R_base ho0) hb); replace HB := Aside0.mk (below_step (below_up HB.out) hb); (try clear hb); (try clear hb2); (try clear hk); (try clear hi); (try clear ho0); obtain ⟨Ao13, co13, eo13⟩ := Kd.R_slice HO880.out; subst eo13; obtain ⟨Ao14, co14, eo14⟩ := Kd.R_slice HO883.out; subst eo14) | ((with_reducible refine gate_callee (f := 61) rfl ?_); refine gl_ (some 26) Tryd.func61 #[.slice Ao13 t878.length co13, .slice Ao14 t881.length co14] ?_; (with_reducible refine (dowelref01_order.calls k _ _ t878 _ _ t881 t884 _ ?side1 ?side2 ?side3 ?side4 A10.out).mono ?_); (case side1 => repeat (first | exact (Kd.R_reads' HO880.out).2.2 | (with_reducible refine Kd.C_alloc ?_ _) | (with_reducible refine Kd.C_drewN ?_ _) | (with_reducible refine Kd.C_drew ?_))); (case side2 => exact (Kd.R_reads' HO880.out).2.1); (case side3 => repeat (first | exact (Kd.R_reads' HO883.out).2.2 | (with_reducible refine Kd.C_alloc ?_ _) | (with_reducible refine Kd.C_drewN ?_ _) | (with_reducible refine Kd.C_drew ?_))); (case side4 => exact (Kd.R_reads' HO883.out).2.1); rintro e w' ⟨rfl, ⟨nd, rfl⟩⟩; refine ⟨_, rfl, ?_⟩))
    go_ret
    exact ⟨by first | rfl | (simp [errW_none, errW_some] <;> rfl) | (simp [*, errW_none, errW_some] <;> rfl), below_up HB.out⟩
   ·
    rw [if_neg c7] at H
    have c7b0 := decide_eq_false c7
    clear c7
    replace H := Option.bind_eq_some_iff.mp H
    obtain ⟨t885, A150, H⟩ := H
    try dsimp only at H
    have A15 := Aside0.mk A150
    clear A150
    replace H := Option.bind_eq_some_iff.mp H
    obtain ⟨t888, A160, H⟩ := H
    try dsimp only at H
    have A16 := Aside0.mk A160
    clear A160
    replace H := Option.bind_eq_some_iff.mp H
    obtain ⟨t891, A170, H⟩ := H
    try dsimp only at H
    have A17 := Aside0.mk A170
    clear A170
    obtain rfl := Option.some.inj H
    go_enter Tryd.func41, Tryd.ntmps41
    go_wp2_with (first | ((with_reducible refine gate_callee (f := 33) rfl ?_); refine gl_ (some 8) Tryd.func33 #[.string a0] ?_; (with_reducible refine (dowelref01_Sign.calls a0 t876 _ A3.out).mono ?_); rintro e w' ⟨rfl, ⟨nd, rfl⟩⟩; refine ⟨_, rfl, ?_⟩) | ((with_reducible refine gate_callee (f := 33) rfl ?_); refine gl_ (some 10) Tryd.func33 #[.string a1] ?_; (with_reducible refine (dowelref01_Sign.calls a1 t877 _ A4.out).mono ?_); rintro e w' ⟨rfl, ⟨nd, rfl⟩⟩; refine ⟨_, rfl, ?_⟩) | ((with_reducible refine gate_callee (f := 58) rfl ?_); refine gl_ (some 28) Tryd.func58 #[.string a0] ?_; (with_reducible refine (dowelref01_digits.calls k a0 t885 _ A15.out).mono ?_); rintro e w18 ⟨v886, rfl, ho0, hb⟩; refine ⟨_, rfl, ?_⟩; have HO887 := Aside0.mk (Kd.R_lower ho0 (below_size (below_up HB.out))); replace HB := Aside0.mk (below_step (below_up HB.out) hb); (try clear hb); (try clear hb2); (try clear hk); (try clear hi); (try clear ho0)) | ((with_reducible refine gate_callee (f := 58) rfl ?_); refine gl_ (some 30) Tryd.func58 #[.string a1] ?_; (with_reducible refine (dowelref01_digits.calls k a1 t888 _ A16.out).mono ?_); rintro e w19 ⟨v889, rfl, ho0, hb⟩; refine ⟨_, rfl, ?_⟩; have HO890 := Aside0.mk (Kd.R_lower (Kd.R_new' ho0 (Kd.R_lt (Kd.R_up HO887.out))) (below_size (below_up HB.out))); replace HO887 := Aside0.mk (Kd.R_elder' (Kd.R_up HO887.out) (Kd.R_base ho0) hb); replace HB := Aside0.mk (below_step (below_up HB.out) hb); (try clear hb); (try clear hb2); (try clear hk); (try clear hi); (try clear ho0); obtain ⟨Ao20, co20, eo20⟩ := Kd.R_slice HO887.out; subst eo20; obtain ⟨Ao21, co21, eo21⟩ := Kd.R_slice HO890.out; subst eo21) | ((with_reducible refine gate_callee (f := 61) rfl ?_); refine gl_ (some 31) Tryd.func61 #[.slice Ao20 t885.length co20, .slice Ao21 t888.length co21] ?_; (with_reducible refine (dowelref01_order.calls k _ _ t885 _ _ t888 t891 _ ?side1 ?side2 ?side3 ?side4 A17.out).mono ?_); (case side1 => repeat (first | exact (Kd.R_reads' HO887.out).2.2 | (with_reducible refine Kd.C_alloc ?_ _) | (with_reducible refine Kd.C_drewN ?_ _) | (with_reducible refine Kd.C_drew ?_))); (case side2 => exact (Kd.R_reads' HO887.out).2.1); (case side3 => repeat (first | exact (Kd.R_reads' HO890.out).2.2 | (with_reducible refine Kd.C_alloc ?_ _) | (with_reducible refine Kd.C_drewN ?_ _) | (with_reducible refine Kd.C_drew ?_))); (case side4 => exact (Kd.R_reads' HO890.out).2.1); rintro e w' ⟨rfl, ⟨nd, rfl⟩⟩; refine ⟨_, rfl, ?_⟩))
    go_ret
    exact ⟨by first | rfl | (simp [errW_none, errW_some] <;> rfl) | (simp [*, errW_none, errW_some] <;> rfl), below_up HB.out⟩
def dowelref01_minus.l0 : Nat → List Int → List Int → List Int → Int → Int → Option (List Int)
 | 0, _, _, _, _, _ => none
 | k + 1, x0, x1, x5, x6, x7 => if x7 < (x0.length : Int) then (if 0 ≤ x7 then (if x7 < (x1.length : Int) then (if (wrap64 ((wrap64 ((rd x0 x7) - x6)) - (rd x1 x7))) < 0 then (if x5.length < 17592186044416 then (dowelref01_minus.l0 k x0 x1 (x5 ++ [wrap64 ((wrap64 ((wrap64 ((rd x0 x7) - x6)) - (rd x1 x7))) + 10)]) 1 (wrap64 (x7 + 1))) else (none)) else (if x5.length < 17592186044416 then (dowelref01_minus.l0 k x0 x1 (x5 ++ [wrap64 ((wrap64 ((rd x0 x7) - x6)) - (rd x1 x7))]) 0 (wrap64 (x7 + 1))) else (none))) else (if (wrap64 ((rd x0 x7) - x6)) < 0 then (if x5.length < 17592186044416 then (dowelref01_minus.l0 k x0 x1 (x5 ++ [wrap64 ((wrap64 ((rd x0 x7) - x6)) + 10)]) 1 (wrap64 (x7 + 1))) else (none)) else (if x5.length < 17592186044416 then (dowelref01_minus.l0 k x0 x1 (x5 ++ [wrap64 ((rd x0 x7) - x6)]) 0 (wrap64 (x7 + 1))) else (none)))) else (none)) else ((dowelref01_trim.f k x5).bind fun t613 => (some t613))
def dowelref01_minus.f (k : Nat) (l0 : List Int) (l1 : List Int) : Option (List Int) := dowelref01_minus.l0 k l0 l1 ([] : List Int) 0 0
theorem dowelref01_minus.mono_l : ∀ k, (∀ y0 y1 y2 y3 y4, LeO (dowelref01_minus.l0 k y0 y1 y2 y3 y4) (dowelref01_minus.l0 (k + 1) y0 y1 y2 y3 y4))
 | 0 => fun _ _ _ _ _ r h => by simp [dowelref01_minus.l0] at h
 | k + 1 => by
  have ih0 := dowelref01_minus.mono_l k
  ·
   intro y0 y1 y2 y3 y4
   unfold dowelref01_minus.l0
   repeat' first
   | (with_reducible exact ih0 _ _ _ _ _)
   | (with_reducible exact dowelref01_trim.mono _ _)
   | (with_reducible exact LeO.refl _)
   | (with_reducible exact LeO.none _)
   | (with_reducible refine LeO.ite ?_ ?_)
   | (with_reducible refine LeO.bind ?_ (fun _ => ?_))
theorem dowelref01_minus.mono : ∀ a0 a1 k, LeO (dowelref01_minus.f k a0 a1) (dowelref01_minus.f (k + 1) a0 a1) := by
 intro a0 a1 k
 have ih0 := dowelref01_minus.mono_l k
 unfold dowelref01_minus.f
 repeat' first
   | (with_reducible exact ih0 _ _ _ _ _)
   | (with_reducible exact dowelref01_trim.mono _ _)
   | (with_reducible exact LeO.refl _)
   | (with_reducible exact LeO.none _)
   | (with_reducible refine LeO.ite ?_ ?_)
   | (with_reducible refine LeO.bind ?_ (fun _ => ?_))
set_option maxHeartbeats 8000000 in
set_option maxRecDepth 100000 in
theorem dowelref01_minus.calls (k : Nat) (A0 : Option Addr) (c0 : Nat) (l0 : List Int) (A1 : Option Addr) (c1 : Nat) (l1 : List Int) (r : List Int) (w : World) (hr0 : Kd.C (Kd.int .i64) w A0 l0.length l0) (hc0 : l0.length ≤ c0) (hr1 : Kd.C (Kd.int .i64) w A1 l1.length l1) (hc1 : l1.length ≤ c1) (h : dowelref01_minus.f k l0 l1 = some r) :
  Calls Tryd.prog 62 #[.slice A0 l0.length c0, .slice A1 l1.length c1] w fun e w' => ∃ v0_ : Value, e = .returned (v0_) ∧ Kd.R (Kd.int .i64) 3 w' w.heap.size (fun _ => True) v0_ r ∧ Below w.heap.size w w' := by
 have HR0 := Aside0.mk hr0
 have HC0 := Aside0.mk hc0
 clear hr0 hc0
 have HR1 := Aside0.mk hr1
 have HC1 := Aside0.mk hc1
 clear hr1 hc1
 have HB := Aside0.mk (Below.refl w.heap.size w)
 have H := h
 unfold dowelref01_minus.f at H
 clear h
 have H' := Aside0.mk H
 clear H
 go_enter Tryd.func62, Tryd.ntmps62
 go_wp2
 go_loopg [5, 6, 7] k (fun kq v5 v6 v7 w' => ∃ (x5_1 : List Int) (x6_1 : Int) (x7_1 : Int), v6 = .int .i64 x6_1 ∧ v7 = .int .i64 x7_1 ∧ Aside0 (dowelref01_minus.l0 kq l0 l1 x5_1 x6_1 x7_1 = some r) ∧ Aside0 (kq ≤ k) ∧ Aside0 (Kd.R (Kd.int .i64) 3 w' w.heap.size (fun _ => True) v5 x5_1) ∧ Aside0 (Below w.heap.size w w'))
 case atStart => exact ⟨(([] : List Int)), (0), (0), (by first | rfl | (simp; done) | (simp [*]; done) | (simp <;> omega)), (by first | rfl | (simp; done) | (simp [*]; done) | (simp <;> omega)), H', ⟨Nat.le_refl _⟩, ⟨by first | exact Kd.R_nil _ _ _ _ _ | exact Kd.N_nil _ _ _ _ _ | exact Kd.V_nil _ _ _ _ _ | exact Kd.Q_nil _ _ _ _ _ | exact Kd.S_nil _ _ _ _ _⟩, ⟨below_up HB.out⟩⟩
 case round =>
  clear H'
  obtain ⟨x5_1, x6_1, x7_1, rfl, rfl, HA, HK1, HO_5, HB⟩ := hrel
  cases gk with
  | zero => exact absurd HA.out (by simp [dowelref01_minus.l0])
  | succ k1 =>
   have H := HA.out
   clear HA
   simp only [dowelref01_minus.l0] at H
   by_cases c3 : x7_1 < (l0.length : Int)
   ·
    rw [if_pos c3] at H
    have c3b0 := decide_eq_true c3
    clear c3
    obtain ⟨c4, H⟩ := ite_some H
    have c4b0 := decide_eq_true c4
    clear c4
    by_cases c5 : x7_1 < (l1.length : Int)
    ·
     rw [if_pos c5] at H
     have c5b0 := decide_eq_true c5
     clear c5
     by_cases c6 : (wrap64 ((wrap64 ((rd l0 x7_1) - x6_1)) - (rd l1 x7_1))) < 0
     ·
      rw [if_pos c6] at H
      have c6b0 := decide_eq_true c6
      clear c6
      obtain ⟨c7, H⟩ := ite_some H
      have LMc7 := Aside0.mk c7
      clear c7
      obtain ⟨y618, hy618⟩ : ∃ y_ : List Int, y_ = (x5_1 ++ [wrap64 ((wrap64 ((wrap64 ((rd l0 x7_1) - x6_1)) - (rd l1 x7_1))) + 10)]) := ⟨_, rfl⟩
      replace H : (dowelref01_minus.l0 k1 l0 l1 y618 1 (wrap64 (x7_1 + 1))) = some r := by first | (rw [hy618]; exact H) | exact H
      have Ny618 := Aside0.mk hy618
      clear hy618
      have H' := Aside0.mk H
      clear H
      have p616 : 0 ≤ (x7_1 : Int) := of_decide_eq_true (by assumption)
      have q616 : x7_1 < (l0.length : Int) := of_decide_eq_true (by assumption)
      obtain ⟨ad616, e616, hx616_0⟩ := Kd.at_int HR0.out x7_1 p616 q616
      cases e616
      replace hx616_0 := (HB.out.cell (World.block_lt_of_cell? w _ hx616_0)).trans hx616_0
      replace p616 := eq_true p616
      replace q616 := eq_true q616
      have p617 : 0 ≤ (x7_1 : Int) := of_decide_eq_true (by assumption)
      have q617 : x7_1 < (l1.length : Int) := of_decide_eq_true (by assumption)
      obtain ⟨ad617, e617, hx617_0⟩ := Kd.at_int HR1.out x7_1 p617 q617
      cases e617
      replace hx617_0 := (HB.out.cell (World.block_lt_of_cell? w _ hx617_0)).trans hx617_0
      replace p617 := eq_true p617
      replace q617 := eq_true q617
      go_wp2_with (first | ((with_reducible refine gate_builtin (b := .append) (xs := #[.tmp 35, .tmp 37]) rfl ?_); at_builtin; refine Kd.R_append (Kd.int .i64) (w0 := w) w.heap.size rfl (.tmp 35) (.tmp 37) 67 3 (.int .i64 0) 8 rfl Tryd.underlying67 info3 rfl (by decide) (by omega) u5 x5_1 (wrap64 ((wrap64 ((wrap64 ((rd l0 x7_1) - x6_1)) - (rd l1 x7_1))) + 10)) [.int .i64 (wrap64 ((wrap64 ((wrap64 ((rd l0 x7_1) - x6_1)) - (rd l1 x7_1))) + 10))] (fun _ => True) (fun _ => False) rfl rfl ?aP (fun _ hk => hk.elim) ?aF ?aO ?aB ?aS ?aL ?_; (case aP => exact rfl); (case aB => exact (below_up HB.out)); (case aF => exact (fun _ _ => trivial)); (case aO => exact (Kd.R_up HO_5.out)); (case aS => exact (below_size (below_up HB.out))); (case aL => have := LMc7.out; omega); intro v619 w8 ho hb hg hat; rw [← Ny618.out] at ho; replace HB := Aside0.mk (hb); have HO620 := Aside0.mk (ho); clear HO_5 ho hb hg hat))
      go_roundg k1
      case measure => have := HK1.out; omega
      case rel => exact ⟨(y618), (1), (wrap64 (x7_1 + 1)), (by first | rfl | (simp; done) | (simp [*]; done) | (simp <;> omega)), (by first | rfl | (simp; done) | (simp [*]; done) | (simp <;> omega)), H', ⟨by have := HK1.out; omega⟩, ⟨Kd.R_up HO620.out⟩, ⟨below_up HB.out⟩⟩
     ·
      rw [if_neg c6] at H
      have c6b0 := decide_eq_false c6
      clear c6
      obtain ⟨c9, H⟩ := ite_some H
      have LMc9 := Aside0.mk c9
      clear c9
      obtain ⟨y621, hy621⟩ : ∃ y_ : List Int, y_ = (x5_1 ++ [wrap64 ((wrap64 ((rd l0 x7_1) - x6_1)) - (rd l1 x7_1))]) := ⟨_, rfl⟩
      replace H : (dowelref01_minus.l0 k1 l0 l1 y621 0 (wrap64 (x7_1 + 1))) = some r := by first | (rw [hy621]; exact H) | exact H
      have Ny621 := Aside0.mk hy621
      clear hy621
      have H' := Aside0.mk H
      clear H
      have p616 : 0 ≤ (x7_1 : Int) := of_decide_eq_true (by assumption)
      have q616 : x7_1 < (l0.length : Int) := of_decide_eq_true (by assumption)
      obtain ⟨ad616, e616, hx616_0⟩ := Kd.at_int HR0.out x7_1 p616 q616
      cases e616
      replace hx616_0 := (HB.out.cell (World.block_lt_of_cell? w _ hx616_0)).trans hx616_0
      replace p616 := eq_true p616
      replace q616 := eq_true q616
      have p617 : 0 ≤ (x7_1 : Int) := of_decide_eq_true (by assumption)
      have q617 : x7_1 < (l1.length : Int) := of_decide_eq_true (by assumption)
      obtain ⟨ad617, e617, hx617_0⟩ := Kd.at_int HR1.out x7_1 p617 q617
      cases e617
      replace hx617_0 := (HB.out.cell (World.block_lt_of_cell? w _ hx617_0)).trans hx617_0
      replace p617 := eq_true p617
      replace q617 := eq_true q617
      go_wp2_with (first | ((with_reducible refine gate_builtin (b := .append) (xs := #[.tmp 35, .tmp 37]) rfl ?_); at_builtin; refine Kd.R_append (Kd.int .i64) (w0 := w) w.heap.size rfl (.tmp 35) (.tmp 37) 67 3 (.int .i64 0) 8 rfl Tryd.underlying67 info3 rfl (by decide) (by omega) u5 x5_1 (wrap64 ((wrap64 ((rd l0 x7_1) - x6_1)) - (rd l1 x7_1))) [.int .i64 (wrap64 ((wrap64 ((rd l0 x7_1) - x6_1)) - (rd l1 x7_1)))] (fun _ => True) (fun _ => False) rfl rfl ?aP (fun _ hk => hk.elim) ?aF ?aO ?aB ?aS ?aL ?_; (case aP => exact rfl); (case aB => exact (below_up HB.out)); (case aF => exact (fun _ _ => trivial)); (case aO => exact (Kd.R_up HO_5.out)); (case aS => exact (below_size (below_up HB.out))); (case aL => have := LMc9.out; omega); intro v622 w10 ho hb hg hat; rw [← Ny621.out] at ho; replace HB := Aside0.mk (hb); have HO623 := Aside0.mk (ho); clear HO_5 ho hb hg hat))
      go_roundg k1
      case measure => have := HK1.out; omega
      case rel => exact ⟨(y621), (0), (wrap64 (x7_1 + 1)), (by first | rfl | (simp; done) | (simp [*]; done) | (simp <;> omega)), (by first | rfl | (simp; done) | (simp [*]; done) | (simp <;> omega)), H', ⟨by have := HK1.out; omega⟩, ⟨Kd.R_up HO623.out⟩, ⟨below_up HB.out⟩⟩
    ·
     rw [if_neg c5] at H
     have c5b0 := decide_eq_false c5
     clear c5
     by_cases c11 : (wrap64 ((rd l0 x7_1) - x6_1)) < 0
     ·
      rw [if_pos c11] at H
      have c11b0 := decide_eq_true c11
      clear c11
      obtain ⟨c12, H⟩ := ite_some H
      have LMc12 := Aside0.mk c12
      clear c12
      obtain ⟨y624, hy624⟩ : ∃ y_ : List Int, y_ = (x5_1 ++ [wrap64 ((wrap64 ((rd l0 x7_1) - x6_1)) + 10)]) := ⟨_, rfl⟩
      replace H : (dowelref01_minus.l0 k1 l0 l1 y624 1 (wrap64 (x7_1 + 1))) = some r := by first | (rw [hy624]; exact H) | exact H
      have Ny624 := Aside0.mk hy624
      clear hy624
      have H' := Aside0.mk H
      clear H
      have p616 : 0 ≤ (x7_1 : Int) := of_decide_eq_true (by assumption)
      have q616 : x7_1 < (l0.length : Int) := of_decide_eq_true (by assumption)
      obtain ⟨ad616, e616, hx616_0⟩ := Kd.at_int HR0.out x7_1 p616 q616
      cases e616
      replace hx616_0 := (HB.out.cell (World.block_lt_of_cell? w _ hx616_0)).trans hx616_0
      replace p616 := eq_true p616
      replace q616 := eq_true q616
      go_wp2_with (first | ((with_reducible refine gate_builtin (b := .append) (xs := #[.tmp 35, .tmp 37]) rfl ?_); at_builtin; refine Kd.R_append (Kd.int .i64) (w0 := w) w.heap.size rfl (.tmp 35) (.tmp 37) 67 3 (.int .i64 0) 8 rfl Tryd.underlying67 info3 rfl (by decide) (by omega) u5 x5_1 (wrap64 ((wrap64 ((rd l0 x7_1) - x6_1)) + 10)) [.int .i64 (wrap64 ((wrap64 ((rd l0 x7_1) - x6_1)) + 10))] (fun _ => True) (fun _ => False) rfl rfl ?aP (fun _ hk => hk.elim) ?aF ?aO ?aB ?aS ?aL ?_; (case aP => exact rfl); (case aB => exact (below_up HB.out)); (case aF => exact (fun _ _ => trivial)); (case aO => exact (Kd.R_up HO_5.out)); (case aS => exact (below_size (below_up HB.out))); (case aL => have := LMc12.out; omega); intro v625 w13 ho hb hg hat; rw [← Ny624.out] at ho; replace HB := Aside0.mk (hb); have HO626 := Aside0.mk (ho); clear HO_5 ho hb hg hat))
      go_roundg k1
      case measure => have := HK1.out; omega
      case rel => exact ⟨(y624), (1), (wrap64 (x7_1 + 1)), (by first | rfl | (simp; done) | (simp [*]; done) | (simp <;> omega)), (by first | rfl | (simp; done) | (simp [*]; done) | (simp <;> omega)), H', ⟨by have := HK1.out; omega⟩, ⟨Kd.R_up HO626.out⟩, ⟨below_up HB.out⟩⟩
     ·
      rw [if_neg c11] at H
      have c11b0 := decide_eq_false c11
      clear c11
      obtain ⟨c14, H⟩ := ite_some H
      have LMc14 := Aside0.mk c14
      clear c14
      obtain ⟨y627, hy627⟩ : ∃ y_ : List Int, y_ = (x5_1 ++ [wrap64 ((rd l0 x7_1) - x6_1)]) := ⟨_, rfl⟩
      replace H : (dowelref01_minus.l0 k1 l0 l1 y627 0 (wrap64 (x7_1 + 1))) = some r := by first | (rw [hy627]; exact H) | exact H
      have Ny627 := Aside0.mk hy627
      clear hy627
      have H' := Aside0.mk H
      clear H
      have p616 : 0 ≤ (x7_1 : Int) := of_decide_eq_true (by assumption)
      have q616 : x7_1 < (l0.length : Int) := of_decide_eq_true (by assumption)
      obtain ⟨ad616, e616, hx616_0⟩ := Kd.at_int HR0.out x7_1 p616 q616
      cases e616
      replace hx616_0 := (HB.out.cell (World.block_lt_of_cell? w _ hx616_0)).trans hx616_0
      replace p616 := eq_true p616
      replace q616 := eq_true q616
      go_wp2_with (first | ((with_reducible refine gate_builtin (b := .append) (xs := #[.tmp 35, .tmp 37]) rfl ?_); at_builtin; refine Kd.R_append (Kd.int .i64) (w0 := w) w.heap.size rfl (.tmp 35) (.tmp 37) 67 3 (.int .i64 0) 8 rfl Tryd.underlying67 info3 rfl (by decide) (by omega) u5 x5_1 (wrap64 ((rd l0 x7_1) - x6_1)) [.int .i64 (wrap64 ((rd l0 x7_1) - x6_1))] (fun _ => True) (fun _ => False) rfl rfl ?aP (fun _ hk => hk.elim) ?aF ?aO ?aB ?aS ?aL ?_; (case aP => exact rfl); (case aB => exact (below_up HB.out)); (case aF => exact (fun _ _ => trivial)); (case aO => exact (Kd.R_up HO_5.out)); (case aS => exact (below_size (below_up HB.out))); (case aL => have := LMc14.out; omega); intro v628 w15 ho hb hg hat; rw [← Ny627.out] at ho; replace HB := Aside0.mk (hb); have HO629 := Aside0.mk (ho); clear HO_5 ho hb hg hat))
      go_roundg k1
      case measure => have := HK1.out; omega
      case rel => exact ⟨(y627), (0), (wrap64 (x7_1 + 1)), (by first | rfl | (simp; done) | (simp [*]; done) | (simp <;> omega)), (by first | rfl | (simp; done) | (simp [*]; done) | (simp <;> omega)), H', ⟨by have := HK1.out; omega⟩, ⟨Kd.R_up HO629.out⟩, ⟨below_up HB.out⟩⟩
   ·
    rw [if_neg c3] at H
    have c3b0 := decide_eq_false c3
    clear c3
    replace H := Option.bind_eq_some_iff.mp H
    obtain ⟨t613, A160, H⟩ := H
    try dsimp only at H
    have A16 := Aside0.mk A160
    clear A160
    obtain rfl := Option.some.inj H
    obtain ⟨Ao17, co17, eo17⟩ := Kd.R_slice HO_5.out
    subst eo17
    go_wp2_with (first | ((with_reducible refine gate_callee (f := 60) rfl ?_); refine gl_ (some 40) Tryd.func60 #[.slice Ao17 x5_1.length co17] ?_; (with_reducible refine (dowelref01_trim.calls k1 (fun k_ => some k_ = (.slice Ao17 x5_1.length co17 : Value).ownBlock) (.slice Ao17 x5_1.length co17) x5_1 t613 w _ ?side1 ?side2 A16.out).mono ?_); (case side1 => exact below_up HB.out); (case side2 => exact Kd.R_tight rfl HO_5.out); rintro e w18 ⟨v614, rfl, ho0, hb, hkp⟩; refine ⟨_, rfl, ?_⟩; have HO615 := Aside0.mk (Kd.R_mono (ok' := fun k_ => True) ho0 (fun k_ hk_ => trivial)); replace HB := Aside0.mk (hb); clear HO_5; (try clear hb); (try clear hkp); (try clear ho0)))
    go_ret
    exact ⟨_, by first | rfl | (simp [errW_none, errW_some] <;> rfl) | (simp [*, errW_none, errW_some] <;> rfl), Kd.R_up HO615.out, below_up HB.out⟩
mutual
def dowelref01_plus.l0 : Nat → List Int → List Int → List Int → Int → Int → Option (List Int)
 | 0, _, _, _, _, _ => none
 | k + 1, x0, x1, x5, x6, x7 => if x7 < (x0.length : Int) then (dowelref01_plus.j1 k x0 x1 x5 x6 x7 true) else (if x7 < (x1.length : Int) then (dowelref01_plus.j1 k x0 x1 x5 x6 x7 true) else (dowelref01_plus.j1 k x0 x1 x5 x6 x7 (decide (x6 > 0))))
def dowelref01_plus.j1 : Nat → List Int → List Int → List Int → Int → Int → Bool → Option (List Int)
 | 0, _, _, _, _, _, _ => none
 | k + 1, x0, x1, x5, x6, x7, x22 => if x22 = true then (if x7 < (x0.length : Int) then (if 0 ≤ x7 then (if x7 < (x1.length : Int) then (if x5.length < 17592186044416 then (dowelref01_plus.l0 k x0 x1 (x5 ++ [Int.tmod (wrap64 ((wrap64 (x6 + (rd x0 x7))) + (rd x1 x7))) 10]) (wrap64 (Int.tdiv (wrap64 ((wrap64 (x6 + (rd x0 x7))) + (rd x1 x7))) 10)) (wrap64 (x7 + 1))) else (none)) else (if x5.length < 17592186044416 then (dowelref01_plus.l0 k x0 x1 (x5 ++ [Int.tmod (wrap64 (x6 + (rd x0 x7))) 10]) (wrap64 (Int.tdiv (wrap64 (x6 + (rd x0 x7))) 10)) (wrap64 (x7 + 1))) else (none))) else (none)) else (if x7 < (x1.length : Int) then (if 0 ≤ x7 then (if x5.length < 17592186044416 then (dowelref01_plus.l0 k x0 x1 (x5 ++ [Int.tmod (wrap64 (x6 + (rd x1 x7))) 10]) (wrap64 (Int.tdiv (wrap64 (x6 + (rd x1 x7))) 10)) (wrap64 (x7 + 1))) else (none)) else (none)) else (if x5.length < 17592186044416 then (dowelref01_plus.l0 k x0 x1 (x5 ++ [Int.tmod x6 10]) (wrap64 (Int.tdiv x6 10)) (wrap64 (x7 + 1))) else (none)))) else (some x5)
end
def dowelref01_plus.f (k : Nat) (l0 : List Int) (l1 : List Int) : Option (List Int) := dowelref01_plus.l0 k l0 l1 ([] : List Int) 0 0
theorem dowelref01_plus.mono_l : ∀ k, (∀ y0 y1 y2 y3 y4, LeO (dowelref01_plus.l0 k y0 y1 y2 y3 y4) (dowelref01_plus.l0 (k + 1) y0 y1 y2 y3 y4)) ∧ (∀ y0 y1 y2 y3 y4 y5, LeO (dowelref01_plus.j1 k y0 y1 y2 y3 y4 y5) (dowelref01_plus.j1 (k + 1) y0 y1 y2 y3 y4 y5))
 | 0 => ⟨fun _ _ _ _ _ r h => by simp [dowelref01_plus.l0] at h, fun _ _ _ _ _ _ r h => by simp [dowelref01_plus.j1] at h⟩
 | k + 1 => by
  obtain ⟨ih0, ih1⟩ := dowelref01_plus.mono_l k
  refine ⟨?_, ?_⟩
  ·
   intro y0 y1 y2 y3 y4
   unfold dowelref01_plus.l0
   repeat' first
   | (with_reducible exact ih0 _ _ _ _ _)
   | (with_reducible exact ih1 _ _ _ _ _ _)
   | (with_reducible exact LeO.refl _)
   | (with_reducible exact LeO.none _)
   | (with_reducible refine LeO.ite ?_ ?_)
   | (with_reducible refine LeO.bind ?_ (fun _ => ?_))
  ·
   intro y0 y1 y2 y3 y4 y5
   unfold dowelref01_plus.j1
   repeat' first
   | (with_reducible exact ih0 _ _ _ _ _)
   | (with_reducible exact ih1 _ _ _ _ _ _)
   | (with_reducible exact LeO.refl _)
   | (with_reducible exact LeO.none _)
   | (with_reducible refine LeO.ite ?_ ?_)
   | (with_reducible refine LeO.bind ?_ (fun _ => ?_))
theorem dowelref01_plus.mono : ∀ a0 a1 k, LeO (dowelref01_plus.f k a0 a1) (dowelref01_plus.f (k + 1) a0 a1) := by
 intro a0 a1 k
 obtain ⟨ih0, ih1⟩ := dowelref01_plus.mono_l k
 unfold dowelref01_plus.f
 repeat' first
   | (with_reducible exact ih0 _ _ _ _ _)
   | (with_reducible exact ih1 _ _ _ _ _ _)
   | (with_reducible exact LeO.refl _)
   | (with_reducible exact LeO.none _)
   | (with_reducible refine LeO.ite ?_ ?_)
   | (with_reducible refine LeO.bind ?_ (fun _ => ?_))
set_option maxHeartbeats 8000000 in
set_option maxRecDepth 100000 in
theorem dowelref01_plus.calls (k : Nat) (A0 : Option Addr) (c0 : Nat) (l0 : List Int) (A1 : Option Addr) (c1 : Nat) (l1 : List Int) (r : List Int) (w : World) (hr0 : Kd.C (Kd.int .i64) w A0 l0.length l0) (hc0 : l0.length ≤ c0) (hr1 : Kd.C (Kd.int .i64) w A1 l1.length l1) (hc1 : l1.length ≤ c1) (h : dowelref01_plus.f k l0 l1 = some r) :
  Calls Tryd.prog 65 #[.slice A0 l0.length c0, .slice A1 l1.length c1] w fun e w' => ∃ v0_ : Value, e = .returned (v0_) ∧ Kd.R (Kd.int .i64) 3 w' w.heap.size (fun _ => True) v0_ r ∧ Below w.heap.size w w' := by
 have HR0 := Aside0.mk hr0
 have HC0 := Aside0.mk hc0
 clear hr0 hc0
 have HR1 := Aside0.mk hr1
 have HC1 := Aside0.mk hc1
 clear hr1 hc1
 have HB := Aside0.mk (Below.refl w.heap.size w)
 have H := h
 unfold dowelref01_plus.f at H
 clear h
 have H' := Aside0.mk H
 clear H
 go_enter Tryd.func65, Tryd.ntmps65
 go_wp2
 go_loopg [5, 6, 7] k (fun kq v5 v6 v7 w' => ∃ (x5_1 : List Int) (x6_1 : Int) (x7_1 : Int), v6 = .int .i64 x6_1 ∧ v7 = .int .i64 x7_1 ∧ Aside0 (dowelref01_plus.l0 kq l0 l1 x5_1 x6_1 x7_1 = some r) ∧ Aside0 (kq ≤ k) ∧ Aside0 (Kd.R (Kd.int .i64) 3 w' w.heap.size (fun _ => True) v5 x5_1) ∧ Aside0 (Below w.heap.size w w'))
 case atStart => exact ⟨(([] : List Int)), (0), (0), (by first | rfl | (simp; done) | (simp [*]; done) | (simp <;> omega)), (by first | rfl | (simp; done) | (simp [*]; done) | (simp <;> omega)), H', ⟨Nat.le_refl _⟩, ⟨by first | exact Kd.R_nil _ _ _ _ _ | exact Kd.N_nil _ _ _ _ _ | exact Kd.V_nil _ _ _ _ _ | exact Kd.Q_nil _ _ _ _ _ | exact Kd.S_nil _ _ _ _ _⟩, ⟨below_up HB.out⟩⟩
 case round =>
  clear H'
  obtain ⟨x5_1, x6_1, x7_1, rfl, rfl, HA, HK1, HO_5, HB⟩ := hrel
  cases gk with
  | zero => exact absurd HA.out (by simp [dowelref01_plus.l0])
  | succ k1 =>
   have H := HA.out
   clear HA
   simp only [dowelref01_plus.l0] at H
   have HC3 := Aside0.mk H
   clear H
   go_upto_region 4 with (fail)
   go_cut [22] (fun v22 wc => ∃ (kq : Nat) (x22_2 : Bool), v22 = .bool x22_2 ∧ Aside0 (dowelref01_plus.j1 kq l0 l1 x5_1 x6_1 x7_1 x22_2 = some r) ∧ Aside0 (kq ≤ k1) ∧ Aside0 (Kd.R (Kd.int .i64) 3 wc w.heap.size (fun _ => True) u5 x5_1) ∧ Aside0 (Below w.heap.size w wc))
   case first =>
    have H := HC3.out
    clear HC3
    by_cases c4 : x7_1 < (l0.length : Int)
    ·
     rw [if_pos c4] at H
     have c4b0 := decide_eq_true c4
     clear c4
     (first | rw [c4b0] | (simp only [i64_w, i32_w]; rw [c4b0]) | skip)
     have H' := Aside0.mk H
     clear H
     go_wp2
     go_meet
     case rel => exact ⟨_, (true), (by first | rfl | (simp; done) | (simp [*]; done) | (simp <;> omega)), H', ⟨by have := HK1.out; first | omega | exact Nat.le_refl _⟩, ⟨Kd.R_up HO_5.out⟩, ⟨below_up HB.out⟩⟩
    ·
     rw [if_neg c4] at H
     have c4b0 := decide_eq_false c4
     clear c4
     (first | rw [c4b0] | (simp only [i64_w, i32_w]; rw [c4b0]) | skip)
     by_cases c5 : x7_1 < (l1.length : Int)
     ·
      rw [if_pos c5] at H
      have c5b0 := decide_eq_true c5
      clear c5
      have H' := Aside0.mk H
      clear H
      go_wp2
      go_meet
      case rel => exact ⟨_, (true), (by first | rfl | (simp; done) | (simp [*]; done) | (simp <;> omega)), H', ⟨by have := HK1.out; first | omega | exact Nat.le_refl _⟩, ⟨Kd.R_up HO_5.out⟩, ⟨below_up HB.out⟩⟩
     ·
      rw [if_neg c5] at H
      have c5b0 := decide_eq_false c5
      clear c5
      have H' := Aside0.mk H
      clear H
      go_wp2
      go_meet
      case rel => exact ⟨_, (decide (x6_1 > 0)), (by first | rfl | (simp; done) | (simp [*]; done) | (simp <;> omega)), H', ⟨by have := HK1.out; first | omega | exact Nat.le_refl _⟩, ⟨Kd.R_up HO_5.out⟩, ⟨below_up HB.out⟩⟩
   case rest =>
    clear HC3
    obtain ⟨kq, x22_2, rfl, HA, HJ2, HO_5, HB⟩ := hcut
    cases kq with
    | zero => exact absurd HA.out (by simp [dowelref01_plus.j1])
    | succ kj2 =>
     have H := HA.out
     clear HA
     simp only [dowelref01_plus.j1] at H
     by_cases c6 : x22_2 = true
     ·
      subst c6
      have H1 : (if x7_1 < (l0.length : Int) then (if 0 ≤ x7_1 then (if x7_1 < (l1.length : Int) then (if x5_1.length < 17592186044416 then (dowelref01_plus.l0 kj2 l0 l1 (x5_1 ++ [Int.tmod (wrap64 ((wrap64 (x6_1 + (rd l0 x7_1))) + (rd l1 x7_1))) 10]) (wrap64 (Int.tdiv (wrap64 ((wrap64 (x6_1 + (rd l0 x7_1))) + (rd l1 x7_1))) 10)) (wrap64 (x7_1 + 1))) else (none)) else (if x5_1.length < 17592186044416 then (dowelref01_plus.l0 kj2 l0 l1 (x5_1 ++ [Int.tmod (wrap64 (x6_1 + (rd l0 x7_1))) 10]) (wrap64 (Int.tdiv (wrap64 (x6_1 + (rd l0 x7_1))) 10)) (wrap64 (x7_1 + 1))) else (none))) else (none)) else (if x7_1 < (l1.length : Int) then (if 0 ≤ x7_1 then (if x5_1.length < 17592186044416 then (dowelref01_plus.l0 kj2 l0 l1 (x5_1 ++ [Int.tmod (wrap64 (x6_1 + (rd l1 x7_1))) 10]) (wrap64 (Int.tdiv (wrap64 (x6_1 + (rd l1 x7_1))) 10)) (wrap64 (x7_1 + 1))) else (none)) else (none)) else (if x5_1.length < 17592186044416 then (dowelref01_plus.l0 kj2 l0 l1 (x5_1 ++ [Int.tmod x6_1 10]) (wrap64 (Int.tdiv x6_1 10)) (wrap64 (x7_1 + 1))) else (none)))) = some r := by rw [if_pos rfl] at H; exact H
      clear H
      have H := H1
      clear H1
      by_cases c7 : x7_1 < (l0.length : Int)
      ·
       rw [if_pos c7] at H
       have c7b0 := decide_eq_true c7
       clear c7
       obtain ⟨c8, H⟩ := ite_some H
       have c8b0 := decide_eq_true c8
       clear c8
       by_cases c9 : x7_1 < (l1.length : Int)
       ·
        rw [if_pos c9] at H
        have c9b0 := decide_eq_true c9
        clear c9
        obtain ⟨c10, H⟩ := ite_some H
        have LMc10 := Aside0.mk c10
        clear c10
        obtain ⟨y632, hy632⟩ : ∃ y_ : List Int, y_ = (x5_1 ++ [Int.tmod (wrap64 ((wrap64 (x6_1 + (rd l0 x7_1))) + (rd l1 x7_1))) 10]) := ⟨_, rfl⟩
        replace H : (dowelref01_plus.l0 kj2 l0 l1 y632 (wrap64 (Int.tdiv (wrap64 ((wrap64 (x6_1 + (rd l0 x7_1))) + (rd l1 x7_1))) 10)) (wrap64 (x7_1 + 1))) = some r := by first | (rw [hy632]; exact H) | exact H
        have Ny632 := Aside0.mk hy632
        clear hy632
        have H' := Aside0.mk H
        clear H
        have p630 : 0 ≤ (x7_1 : Int) := of_decide_eq_true (by assumption)
        have q630 : x7_1 < (l0.length : Int) := of_decide_eq_true (by assumption)
        obtain ⟨ad630, e630, hx630_0⟩ := Kd.at_int HR0.out x7_1 p630 q630
        cases e630
        replace hx630_0 := (HB.out.cell (World.block_lt_of_cell? w _ hx630_0)).trans hx630_0
        replace p630 := eq_true p630
        replace q630 := eq_true q630
        have p631 : 0 ≤ (x7_1 : Int) := of_decide_eq_true (by assumption)
        have q631 : x7_1 < (l1.length : Int) := of_decide_eq_true (by assumption)
        obtain ⟨ad631, e631, hx631_0⟩ := Kd.at_int HR1.out x7_1 p631 q631
        cases e631
        replace hx631_0 := (HB.out.cell (World.block_lt_of_cell? w _ hx631_0)).trans hx631_0
        replace p631 := eq_true p631
        replace q631 := eq_true q631
        go_wp2_with (first | ((with_reducible refine gate_builtin (b := .append) (xs := #[.tmp 46, .tmp 49]) rfl ?_); (try (refine gate_guard (by rfl) ?_; dsimp only)); at_builtin; refine Kd.R_append (Kd.int .i64) (w0 := w) w.heap.size rfl (.tmp 46) (.tmp 49) 67 3 (.int .i64 0) 8 rfl Tryd.underlying67 info3 rfl (by decide) (by omega) u5 x5_1 (Int.tmod (wrap64 ((wrap64 (x6_1 + (rd l0 x7_1))) + (rd l1 x7_1))) 10) [.int .i64 (Int.tmod (wrap64 ((wrap64 (x6_1 + (rd l0 x7_1))) + (rd l1 x7_1))) 10)] (fun _ => True) (fun _ => False) rfl rfl ?aP (fun _ hk => hk.elim) ?aF ?aO ?aB ?aS ?aL ?_; (case aP => exact rfl); (case aB => exact (below_up HB.out)); (case aF => exact (fun _ _ => trivial)); (case aO => exact (Kd.R_up HO_5.out)); (case aS => exact (below_size (below_up HB.out))); (case aL => have := LMc10.out; omega); intro v633 w11 ho hb hg hat; rw [← Ny632.out] at ho; replace HB := Aside0.mk (hb); have HO634 := Aside0.mk (ho); clear HO_5 ho hb hg hat))
        go_roundg kj2
        case measure => have := HK1.out; have := HJ2.out; omega
        case rel => exact ⟨(y632), (wrap64 (Int.tdiv (wrap64 ((wrap64 (x6_1 + (rd l0 x7_1))) + (rd l1 x7_1))) 10)), (wrap64 (x7_1 + 1)), (by first | rfl | (simp; done) | (simp [*]; done) | (simp <;> omega)), (by first | rfl | (simp; done) | (simp [*]; done) | (simp <;> omega)), H', ⟨by have := HK1.out; have := HJ2.out; omega⟩, ⟨Kd.R_up HO634.out⟩, ⟨below_up HB.out⟩⟩
       ·
        rw [if_neg c9] at H
        have c9b0 := decide_eq_false c9
        clear c9
        obtain ⟨c12, H⟩ := ite_some H
        have LMc12 := Aside0.mk c12
        clear c12
        obtain ⟨y635, hy635⟩ : ∃ y_ : List Int, y_ = (x5_1 ++ [Int.tmod (wrap64 (x6_1 + (rd l0 x7_1))) 10]) := ⟨_, rfl⟩
        replace H : (dowelref01_plus.l0 kj2 l0 l1 y635 (wrap64 (Int.tdiv (wrap64 (x6_1 + (rd l0 x7_1))) 10)) (wrap64 (x7_1 + 1))) = some r := by first | (rw [hy635]; exact H) | exact H
        have Ny635 := Aside0.mk hy635
        clear hy635
        have H' := Aside0.mk H
        clear H
        have p630 : 0 ≤ (x7_1 : Int) := of_decide_eq_true (by assumption)
        have q630 : x7_1 < (l0.length : Int) := of_decide_eq_true (by assumption)
        obtain ⟨ad630, e630, hx630_0⟩ := Kd.at_int HR0.out x7_1 p630 q630
        cases e630
        replace hx630_0 := (HB.out.cell (World.block_lt_of_cell? w _ hx630_0)).trans hx630_0
        replace p630 := eq_true p630
        replace q630 := eq_true q630
        go_wp2_with (first | ((with_reducible refine gate_builtin (b := .append) (xs := #[.tmp 46, .tmp 49]) rfl ?_); (try (refine gate_guard (by rfl) ?_; dsimp only)); at_builtin; refine Kd.R_append (Kd.int .i64) (w0 := w) w.heap.size rfl (.tmp 46) (.tmp 49) 67 3 (.int .i64 0) 8 rfl Tryd.underlying67 info3 rfl (by decide) (by omega) u5 x5_1 (Int.tmod (wrap64 (x6_1 + (rd l0 x7_1))) 10) [.int .i64 (Int.tmod (wrap64 (x6_1 + (rd l0 x7_1))) 10)] (fun _ => True) (fun _ => False) rfl rfl ?aP (fun _ hk => hk.elim) ?aF ?aO ?aB ?aS ?aL ?_; (case aP => exact rfl); (case aB => exact (below_up HB.out)); (case aF => exact (fun _ _ => trivial)); (case aO => exact (Kd.R_up HO_5.out)); (case aS => exact (below_size (below_up HB.out))); (case aL => have := LMc12.out; omega); intro v636 w13 ho hb hg hat; rw [← Ny635.out] at ho; replace HB := Aside0.mk (hb); have HO637 := Aside0.mk (ho); clear HO_5 ho hb hg hat))
        go_roundg kj2
        case measure => have := HK1.out; have := HJ2.out; omega
        case rel => exact ⟨(y635), (wrap64 (Int.tdiv (wrap64 (x6_1 + (rd l0 x7_1))) 10)), (wrap64 (x7_1 + 1)), (by first | rfl | (simp; done) | (simp [*]; done) | (simp <;> omega)), (by first | rfl | (simp; done) | (simp [*]; done) | (simp <;> omega)), H', ⟨by have := HK1.out; have := HJ2.out; omega⟩, ⟨Kd.R_up HO637.out⟩, ⟨below_up HB.out⟩⟩
      ·
       rw [if_neg c7] at H
       have c7b0 := decide_eq_false c7
       clear c7
       by_cases c14 : x7_1 < (l1.length : Int)
       ·
        rw [if_pos c14] at H
        have c14b0 := decide_eq_true c14
        clear c14
        obtain ⟨c15, H⟩ := ite_some H
        have c15b0 := decide_eq_true c15
        clear c15
        obtain ⟨c16, H⟩ := ite_some H
        have LMc16 := Aside0.mk c16
        clear c16
        obtain ⟨y639, hy639⟩ : ∃ y_ : List Int, y_ = (x5_1 ++ [Int.tmod (wrap64 (x6_1 + (rd l1 x7_1))) 10]) := ⟨_, rfl⟩
        replace H : (dowelref01_plus.l0 kj2 l0 l1 y639 (wrap64 (Int.tdiv (wrap64 (x6_1 + (rd l1 x7_1))) 10)) (wrap64 (x7_1 + 1))) = some r := by first | (rw [hy639]; exact H) | exact H
        have Ny639 := Aside0.mk hy639
        clear hy639
        have H' := Aside0.mk H
        clear H
        have p638 : 0 ≤ (x7_1 : Int) := of_decide_eq_true (by assumption)
        have q638 : x7_1 < (l1.length : Int) := of_decide_eq_true (by assumption)
        obtain ⟨ad638, e638, hx638_0⟩ := Kd.at_int HR1.out x7_1 p638 q638
        cases e638
        replace hx638_0 := (HB.out.cell (World.block_lt_of_cell? w _ hx638_0)).trans hx638_0
        replace p638 := eq_true p638
        replace q638 := eq_true q638
        go_wp2_with (first | ((with_reducible refine gate_builtin (b := .append) (xs := #[.tmp 46, .tmp 49]) rfl ?_); (try (refine gate_guard (by rfl) ?_; dsimp only)); at_builtin; refine Kd.R_append (Kd.int .i64) (w0 := w) w.heap.size rfl (.tmp 46) (.tmp 49) 67 3 (.int .i64 0) 8 rfl Tryd.underlying67 info3 rfl (by decide) (by omega) u5 x5_1 (Int.tmod (wrap64 (x6_1 + (rd l1 x7_1))) 10) [.int .i64 (Int.tmod (wrap64 (x6_1 + (rd l1 x7_1))) 10)] (fun _ => True) (fun _ => False) rfl rfl ?aP (fun _ hk => hk.elim) ?aF ?aO ?aB ?aS ?aL ?_; (case aP => exact rfl); (case aB => exact (below_up HB.out)); (case aF => exact (fun _ _ => trivial)); (case aO => exact (Kd.R_up HO_5.out)); (case aS => exact (below_size (below_up HB.out))); (case aL => have := LMc16.out; omega); intro v640 w17 ho hb hg hat; rw [← Ny639.out] at ho; replace HB := Aside0.mk (hb); have HO641 := Aside0.mk (ho); clear HO_5 ho hb hg hat))
        go_roundg kj2
        case measure => have := HK1.out; have := HJ2.out; omega
        case rel => exact ⟨(y639), (wrap64 (Int.tdiv (wrap64 (x6_1 + (rd l1 x7_1))) 10)), (wrap64 (x7_1 + 1)), (by first | rfl | (simp; done) | (simp [*]; done) | (simp <;> omega)), (by first | rfl | (simp; done) | (simp [*]; done) | (simp <;> omega)), H', ⟨by have := HK1.out; have := HJ2.out; omega⟩, ⟨Kd.R_up HO641.out⟩, ⟨below_up HB.out⟩⟩
       ·
        rw [if_neg c14] at H
        have c14b0 := decide_eq_false c14
        clear c14
        obtain ⟨c18, H⟩ := ite_some H
        have LMc18 := Aside0.mk c18
        clear c18
        obtain ⟨y642, hy642⟩ : ∃ y_ : List Int, y_ = (x5_1 ++ [Int.tmod x6_1 10]) := ⟨_, rfl⟩
        replace H : (dowelref01_plus.l0 kj2 l0 l1 y642 (wrap64 (Int.tdiv x6_1 10)) (wrap64 (x7_1 + 1))) = some r := by first | (rw [hy642]; exact H) | exact H
        have Ny642 := Aside0.mk hy642
        clear hy642
        have H' := Aside0.mk H
        clear H
        go_wp2_with (first | ((with_reducible refine gate_builtin (b := .append) (xs := #[.tmp 46, .tmp 49]) rfl ?_); (try (refine gate_guard (by rfl) ?_; dsimp only)); at_builtin; refine Kd.R_append (Kd.int .i64) (w0 := w) w.heap.size rfl (.tmp 46) (.tmp 49) 67 3 (.int .i64 0) 8 rfl Tryd.underlying67 info3 rfl (by decide) (by omega) u5 x5_1 (Int.tmod x6_1 10) [.int .i64 (Int.tmod x6_1 10)] (fun _ => True) (fun _ => False) rfl rfl ?aP (fun _ hk => hk.elim) ?aF ?aO ?aB ?aS ?aL ?_; (case aP => exact rfl); (case aB => exact (below_up HB.out)); (case aF => exact (fun _ _ => trivial)); (case aO => exact (Kd.R_up HO_5.out)); (case aS => exact (below_size (below_up HB.out))); (case aL => have := LMc18.out; omega); intro v643 w19 ho hb hg hat; rw [← Ny642.out] at ho; replace HB := Aside0.mk (hb); have HO644 := Aside0.mk (ho); clear HO_5 ho hb hg hat))
        go_roundg kj2
        case measure => have := HK1.out; have := HJ2.out; omega
        case rel => exact ⟨(y642), (wrap64 (Int.tdiv x6_1 10)), (wrap64 (x7_1 + 1)), (by first | rfl | (simp; done) | (simp [*]; done) | (simp <;> omega)), (by first | rfl | (simp; done) | (simp [*]; done) | (simp <;> omega)), H', ⟨by have := HK1.out; have := HJ2.out; omega⟩, ⟨Kd.R_up HO644.out⟩, ⟨below_up HB.out⟩⟩
     ·
      replace c6 := Bool.eq_false_iff.mpr c6
      subst c6
      have H1 : (some x5_1) = some r := by rw [if_neg (show ¬ (false = true) by decide)] at H; exact H
      clear H
      have H := H1
      clear H1
      obtain rfl := Option.some.inj H
      go_wp2
      go_ret
      exact ⟨_, by first | rfl | (simp [errW_none, errW_some] <;> rfl) | (simp [*, errW_none, errW_some] <;> rfl), Kd.R_up HO_5.out, below_up HB.out⟩
def dowelref01_Add.f (k : Nat) (a0 : ByteArray) (a1 : ByteArray) : Option (ByteArray) := (dowelref01_digits.f k a0).bind fun t645 => ((dowelref01_digits.f k a1).bind fun t648 => ((dowelref01_Sign.f a0).bind fun t651 => ((dowelref01_Sign.f a1).bind fun t652 => (if ((decide (t651 < 0)) == (decide (t652 < 0))) = true then ((dowelref01_Sign.f a0).bind fun t653 => ((dowelref01_plus.f k t645 t648).bind fun t654 => ((dowelref01_text.f k (decide (t653 < 0)) t654).bind fun t657 => (some t657)))) else ((dowelref01_order.f k t645 t648).bind fun t658 => (if t658 ≥ 0 then ((dowelref01_Sign.f a0).bind fun t659 => ((dowelref01_minus.f k t645 t648).bind fun t660 => ((dowelref01_text.f k (decide (t659 < 0)) t660).bind fun t663 => (some t663)))) else ((dowelref01_Sign.f a1).bind fun t664 => ((dowelref01_minus.f k t648 t645).bind fun t665 => ((dowelref01_text.f k (decide (t664 < 0)) t665).bind fun t668 => (some t668))))))))))
theorem dowelref01_Add.mono : ∀ a0 a1 k, LeO (dowelref01_Add.f k a0 a1) (dowelref01_Add.f (k + 1) a0 a1) := by
 intro a0 a1 k
 unfold dowelref01_Add.f
 repeat' first
   | (with_reducible exact dowelref01_digits.mono _ _)
   | (with_reducible exact dowelref01_minus.mono _ _ _)
   | (with_reducible exact dowelref01_order.mono _ _ _)
   | (with_reducible exact dowelref01_plus.mono _ _ _)
   | (with_reducible exact dowelref01_text.mono _ _ _)
   | (with_reducible exact LeO.refl _)
   | (with_reducible exact LeO.none _)
   | (with_reducible refine LeO.ite ?_ ?_)
   | (with_reducible refine LeO.bind ?_ (fun _ => ?_))
set_option maxHeartbeats 8000000 in
set_option maxRecDepth 100000 in
theorem dowelref01_Add.calls (k : Nat) (a0 : ByteArray) (a1 : ByteArray) (r : ByteArray) (w : World) (h : dowelref01_Add.f k a0 a1 = some r) :
  Calls Tryd.prog 36 #[.string a0, .string a1] w fun e w' => e = .returned (.string r) ∧ Below w.heap.size w w' := by
 have HB := Aside0.mk (Below.refl w.heap.size w)
 have H := h
 unfold dowelref01_Add.f at H
 clear h
 replace H := Option.bind_eq_some_iff.mp H
 obtain ⟨t645, A30, H⟩ := H
 try dsimp only at H
 have A3 := Aside0.mk A30
 clear A30
 replace H := Option.bind_eq_some_iff.mp H
 obtain ⟨t648, A40, H⟩ := H
 try dsimp only at H
 have A4 := Aside0.mk A40
 clear A40
 replace H := Option.bind_eq_some_iff.mp H
 obtain ⟨t651, A50, H⟩ := H
 try dsimp only at H
 have A5 := Aside0.mk A50
 clear A50
 replace H := Option.bind_eq_some_iff.mp H
 obtain ⟨t652, A60, H⟩ := H
 try dsimp only at H
 have A6 := Aside0.mk A60
 clear A60
 by_cases c7 : ((decide (t651 < 0)) == (decide (t652 < 0))) = true
 ·
  rw [if_pos c7] at H
  have c7b0 : ((decide (t651 < 0)) == (decide (t652 < 0))) = true := c7
  (try (have c7b1 : decide ((decide (t651 < 0)) = (decide (t652 < 0))) = true := by simpa using c7))
  (try (have c7b2 : ((decide (t651 < 0)) == (decide (t652 < 0))) = true := by simpa using c7))
  clear c7
  replace H := Option.bind_eq_some_iff.mp H
  obtain ⟨t653, A80, H⟩ := H
  try dsimp only at H
  have A8 := Aside0.mk A80
  clear A80
  replace H := Option.bind_eq_some_iff.mp H
  obtain ⟨t654, A90, H⟩ := H
  try dsimp only at H
  have A9 := Aside0.mk A90
  clear A90
  replace H := Option.bind_eq_some_iff.mp H
  obtain ⟨t657, A100, H⟩ := H
  try dsimp only at H
  have A10 := Aside0.mk A100
  clear A100
  obtain rfl := Option.some.inj H
  go_enter Tryd.func36, Tryd.ntmps36
  go_wp2_with (first | ((with_reducible refine gate_callee (f := 58) rfl ?_); refine gl_ (some 8) Tryd.func58 #[.string a0] ?_; (with_reducible refine (dowelref01_digits.calls k a0 t645 _ A3.out).mono ?_); rintro e w11 ⟨v646, rfl, ho0, hb⟩; refine ⟨_, rfl, ?_⟩; have HO647 := Aside0.mk (Kd.R_lower ho0 (below_size (below_up HB.out))); replace HB := Aside0.mk (below_step (below_up HB.out) hb); (try clear hb); (try clear hb2); (try clear hk); (try clear hi); (try clear ho0)) | ((with_reducible refine gate_callee (f := 58) rfl ?_); refine gl_ (some 10) Tryd.func58 #[.string a1] ?_; (with_reducible refine (dowelref01_digits.calls k a1 t648 _ A4.out).mono ?_); rintro e w12 ⟨v649, rfl, ho0, hb⟩; refine ⟨_, rfl, ?_⟩; have HO650 := Aside0.mk (Kd.R_lower (Kd.R_new' ho0 (Kd.R_lt (Kd.R_up HO647.out))) (below_size (below_up HB.out))); replace HO647 := Aside0.mk (Kd.R_elder' (Kd.R_up HO647.out) (Kd.R_base ho0) hb); replace HB := Aside0.mk (below_step (below_up HB.out) hb); (try clear hb); (try clear hb2); (try clear hk); (try clear hi); (try clear ho0)) | ((with_reducible refine gate_callee (f := 33) rfl ?_); refine gl_ (some 12) Tryd.func33 #[.string a0] ?_; (with_reducible refine (dowelref01_Sign.calls a0 t651 _ A5.out).mono ?_); rintro e w' ⟨rfl, ⟨nd, rfl⟩⟩; refine ⟨_, rfl, ?_⟩) | ((with_reducible refine gate_callee (f := 33) rfl ?_); refine gl_ (some 15) Tryd.func33 #[.string a1] ?_; (with_reducible refine (dowelref01_Sign.calls a1 t652 _ A6.out).mono ?_); rintro e w' ⟨rfl, ⟨nd, rfl⟩⟩; refine ⟨_, rfl, ?_⟩) | ((with_reducible refine gate_callee (f := 33) rfl ?_); refine gl_ (some 19) Tryd.func33 #[.string a0] ?_; (with_reducible refine (dowelref01_Sign.calls a0 t653 _ A8.out).mono ?_); rintro e w' ⟨rfl, ⟨nd, rfl⟩⟩; refine ⟨_, rfl, ?_⟩; obtain ⟨Ao13, co13, eo13⟩ := Kd.R_slice HO647.out; subst eo13; obtain ⟨Ao14, co14, eo14⟩ := Kd.R_slice HO650.out; subst eo14) | ((with_reducible refine gate_callee (f := 65) rfl ?_); refine gl_ (some 23) Tryd.func65 #[.slice Ao13 t645.length co13, .slice Ao14 t648.length co14] ?_; (with_reducible refine (dowelref01_plus.calls k _ _ t645 _ _ t648 t654 _ ?side1 ?side2 ?side3 ?side4 A9.out).mono ?_); (case side1 => repeat (first | exact (Kd.R_reads' HO647.out).2.2 | (with_reducible refine Kd.C_alloc ?_ _) | (with_reducible refine Kd.C_drewN ?_ _) | (with_reducible refine Kd.C_drew ?_))); (case side2 => exact (Kd.R_reads' HO647.out).2.1); (case side3 => repeat (first | exact (Kd.R_reads' HO650.out).2.2 | (with_reducible refine Kd.C_alloc ?_ _) | (with_reducible refine Kd.C_drewN ?_ _) | (with_reducible refine Kd.C_drew ?_))); (case side4 => exact (Kd.R_reads' HO650.out).2.1); rintro e w15 ⟨v655, rfl, ho0, hb⟩; refine ⟨_, rfl, ?_⟩; have HO656 := Aside0.mk (Kd.R_lower (Kd.R_new' (Kd.R_new' ho0 (Kd.R_lt (Kd.R_up HO647.out))) (Kd.R_lt (Kd.R_up HO650.out))) (below_size (below_up HB.out))); replace HO647 := Aside0.mk (Kd.R_elder' (Kd.R_up HO647.out) (Kd.R_base ho0) hb); replace HO650 := Aside0.mk (Kd.R_elder' (Kd.R_up HO650.out) (Kd.R_base ho0) hb); replace HB := Aside0.mk (below_step (below_up HB.out) hb); (try clear hb); (try clear hb2); (try clear hk); (try clear hi); (try clear ho0); obtain ⟨Ao16, co16, eo16⟩ := Kd.R_slice HO656.out; subst eo16) | ((with_reducible refine gate_callee (f := 51) rfl ?_); refine gl_ (some 24) Tryd.func51 #[.bool (decide (t653 < 0)), .slice Ao16 t654.length co16] ?_; (with_reducible refine (dowelref01_text.calls k (decide (t653 < 0)) (fun k_ => some k_ = (.slice Ao16 t654.length co16 : Value).ownBlock) (.slice Ao16 t654.length co16) t654 t657 w _ ?side1 ?side2 A10.out).mono ?_); (case side1 => exact below_up HB.out); (case side2 => exact Kd.R_tight rfl HO656.out); rintro e w17 ⟨rfl, hb, hkp⟩; refine ⟨_, rfl, ?_⟩; replace HO647 := Aside0.mk (Kd.R_mono (ok' := fun k_ => some k_ ≠ (.slice Ao14 t648.length co14 : Value).ownBlock) (Kd.R_keptB (HO647.out) hkp (fun k_ hk_ hs_ => (hk_.2) hs_)) (fun k_ hk_ => hk_.1.1.2)); replace HO650 := Aside0.mk (Kd.R_mono (ok' := fun k_ => some k_ ≠ (.slice Ao13 t645.length co13 : Value).ownBlock) (Kd.R_keptB (HO650.out) hkp (fun k_ hk_ hs_ => (hk_.2) hs_)) (fun k_ hk_ => hk_.1.1.2)); replace HB := Aside0.mk (hb); clear HO656; (try clear hb); (try clear hkp)))
  go_ret
  exact ⟨by first | rfl | (simp [errW_none, errW_some] <;> rfl) | (simp [*, errW_none, errW_some] <;> rfl), below_up HB.out⟩
 ·
  rw [if_neg c7] at H
  have c7b0 : ((decide (t651 < 0)) == (decide (t652 < 0))) = false := by simpa using c7
  (try (have c7b1 : decide ((decide (t651 < 0)) = (decide (t652 < 0))) = false := by simpa using c7))
  (try (have c7b2 : ((decide (t651 < 0)) == (decide (t652 < 0))) = false := by simpa using c7))
  (try (have c7b3 : ¬ ((decide (t651 < 0)) = (decide (t652 < 0))) := by simpa using c7))
  clear c7
  replace H := Option.bind_eq_some_iff.mp H
  obtain ⟨t658, A180, H⟩ := H
  try dsimp only at H
  have A18 := Aside0.mk A180
  clear A180
  by_cases c19 : t658 ≥ 0
  ·
   rw [if_pos c19] at H
   have c19b0 := decide_eq_true c19
   clear c19
   replace H := Option.bind_eq_some_iff.mp H
   obtain ⟨t659, A200, H⟩ := H
   try dsimp only at H
   have A20 := Aside0.mk A200
   clear A200
   replace H := Option.bind_eq_some_iff.mp H
   obtain ⟨t660, A210, H⟩ := H
   try dsimp only at H
   have A21 := Aside0.mk A210
   clear A210
   replace H := Option.bind_eq_some_iff.mp H
   obtain ⟨t663, A220, H⟩ := H
   try dsimp only at H
   have A22 := Aside0.mk A220
   clear A220
   obtain rfl := Option.some.inj H
   go_enter Tryd.func36, Tryd.ntmps36
   go_wp2_with (first | ((with_reducible refine gate_callee (f := 58) rfl ?_); refine gl_ (some 8) Tryd.func58 #[.string a0] ?_; (with_reducible refine (dowelref01_digits.calls k a0 t645 _ A3.out).mono ?_); rintro e w23 ⟨v646, rfl, ho0, hb⟩; refine ⟨_, rfl, ?_⟩; have HO647 := Aside0.mk (Kd.R_lower ho0 (below_size (below_up HB.out))); replace HB := Aside0.mk (below_step (below_up HB.out) hb); (try clear hb); (try clear hb2); (try clear hk); (try clear hi); (try clear ho0)) | ((with_reducible refine gate_callee (f := 58) rfl ?_); refine gl_ (some 10) Tryd.func58 #[.string a1] ?_; (with_reducible refine (dowelref01_digits.calls k a1 t648 _ A4.out).mono ?_); rintro e w24 ⟨v649, rfl, ho0, hb⟩; refine ⟨_, rfl, ?_⟩; have HO650 := Aside0.mk (Kd.R_lower (Kd.R_new' ho0 (Kd.R_lt (Kd.R_up HO647.out))) (below_size (below_up HB.out))); replace HO647 := Aside0.mk (Kd.R_elder' (Kd.R_up HO647.out) (Kd.R_base ho0) hb); replace HB := Aside0.mk (below_step (below_up HB.out) hb); (try clear hb); (try clear hb2); (try clear hk); (try clear hi); (try clear ho0)) | ((with_reducible refine gate_callee (f := 33) rfl ?_); refine gl_ (some 12) Tryd.func33 #[.string a0] ?_; (with_reducible refine (dowelref01_Sign.calls a0 t651 _ A5.out).mono ?_); rintro e w' ⟨rfl, ⟨nd, rfl⟩⟩; refine ⟨_, rfl, ?_⟩) | ((with_reducible refine gate_callee (f := 33) rfl ?_); refine gl_ (some 15) Tryd.func33 #[.string a1] ?_; (with_reducible refine (dowelref01_Sign.calls a1 t652 _ A6.out).mono ?_); rintro e w' ⟨rfl, ⟨nd, rfl⟩⟩; refine ⟨_, rfl, ?_⟩; obtain ⟨Ao25, co25, eo25⟩ := Kd.R_slice HO647.out; subst eo25; obtain ⟨Ao26, co26, eo26⟩ := Kd.R_slice HO650.out; subst eo26) | ((with_reducible refine gate_callee (f := 61) rfl ?_); refine gl_ (some 27) Tryd.func61 #[.slice Ao25 t645.length co25, .slice Ao26 t648.length co26] ?_; (with_reducible refine (dowelref01_order.calls k _ _ t645 _ _ t648 t658 _ ?side1 ?side2 ?side3 ?side4 A18.out).mono ?_); (case side1 => repeat (first | exact (Kd.R_reads' HO647.out).2.2 | (with_reducible refine Kd.C_alloc ?_ _) | (with_reducible refine Kd.C_drewN ?_ _) | (with_reducible refine Kd.C_drew ?_))); (case side2 => exact (Kd.R_reads' HO647.out).2.1); (case side3 => repeat (first | exact (Kd.R_reads' HO650.out).2.2 | (with_reducible refine Kd.C_alloc ?_ _) | (with_reducible refine Kd.C_drewN ?_ _) | (with_reducible refine Kd.C_drew ?_))); (case side4 => exact (Kd.R_reads' HO650.out).2.1); rintro e w' ⟨rfl, ⟨nd, rfl⟩⟩; refine ⟨_, rfl, ?_⟩) | ((with_reducible refine gate_callee (f := 33) rfl ?_); refine gl_ (some 30) Tryd.func33 #[.string a0] ?_; (with_reducible refine (dowelref01_Sign.calls a0 t659 _ A20.out).mono ?_); rintro e w' ⟨rfl, ⟨nd, rfl⟩⟩; refine ⟨_, rfl, ?_⟩) | ((with_reducible refine gate_callee (f := 62) rfl ?_); refine gl_ (some 34) Tryd.func62 #[.slice Ao25 t645.length co25, .slice Ao26 t648.length co26] ?_; (with_reducible refine (dowelref01_minus.calls k _ _ t645 _ _ t648 t660 _ ?side1 ?side2 ?side3 ?side4 A21.out).mono ?_); (case side1 => repeat (first | exact (Kd.R_reads' HO647.out).2.2 | (with_reducible refine Kd.C_alloc ?_ _) | (with_reducible refine Kd.C_drewN ?_ _) | (with_reducible refine Kd.C_drew ?_))); (case side2 => exact (Kd.R_reads' HO647.out).2.1); (case side3 => repeat (first | exact (Kd.R_reads' HO650.out).2.2 | (with_reducible refine Kd.C_alloc ?_ _) | (with_reducible refine Kd.C_drewN ?_ _) | (with_reducible refine Kd.C_drew ?_))); (case side4 => exact (Kd.R_reads' HO650.out).2.1); rintro e w27 ⟨v661, rfl, ho0, hb⟩; refine ⟨_, rfl, ?_⟩; have HO662 := Aside0.mk (Kd.R_lower (Kd.R_new' (Kd.R_new' ho0 (Kd.R_lt (Kd.R_up HO647.out))) (Kd.R_lt (Kd.R_up HO650.out))) (below_size (below_up HB.out))); replace HO647 := Aside0.mk (Kd.R_elder' (Kd.R_up HO647.out) (Kd.R_base ho0) hb); replace HO650 := Aside0.mk (Kd.R_elder' (Kd.R_up HO650.out) (Kd.R_base ho0) hb); replace HB := Aside0.mk (below_step (below_up HB.out) hb); (try clear hb); (try clear hb2); (try clear hk); (try clear hi); (try clear ho0); obtain ⟨Ao28, co28, eo28⟩ := Kd.R_slice HO662.out; subst eo28) | ((with_reducible refine gate_callee (f := 51) rfl ?_); refine gl_ (some 35) Tryd.func51 #[.bool (decide (t659 < 0)), .slice Ao28 t660.length co28] ?_; (with_reducible refine (dowelref01_text.calls k (decide (t659 < 0)) (fun k_ => some k_ = (.slice Ao28 t660.length co28 : Value).ownBlock) (.slice Ao28 t660.length co28) t660 t663 w _ ?side1 ?side2 A22.out).mono ?_); (case side1 => exact below_up HB.out); (case side2 => exact Kd.R_tight rfl HO662.out); rintro e w29 ⟨rfl, hb, hkp⟩; refine ⟨_, rfl, ?_⟩; replace HO647 := Aside0.mk (Kd.R_mono (ok' := fun k_ => some k_ ≠ (.slice Ao26 t648.length co26 : Value).ownBlock) (Kd.R_keptB (HO647.out) hkp (fun k_ hk_ hs_ => (hk_.2) hs_)) (fun k_ hk_ => hk_.1.1.2)); replace HO650 := Aside0.mk (Kd.R_mono (ok' := fun k_ => some k_ ≠ (.slice Ao25 t645.length co25 : Value).ownBlock) (Kd.R_keptB (HO650.out) hkp (fun k_ hk_ hs_ => (hk_.2) hs_)) (fun k_ hk_ => hk_.1.1.2)); replace HB := Aside0.mk (hb); clear HO662; (try clear hb); (try clear hkp)))
   go_ret
   exact ⟨by first | rfl | (simp [errW_none, errW_some] <;> rfl) | (simp [*, errW_none, errW_some] <;> rfl), below_up HB.out⟩
  ·
   rw [if_neg c19] at H
   have c19b0 := decide_eq_false c19
   clear c19
   replace H := Option.bind_eq_some_iff.mp H
   obtain ⟨t664, A300, H⟩ := H
   try dsimp only at H
   have A30 := Aside0.mk A300
   clear A300
   replace H := Option.bind_eq_some_iff.mp H
   obtain ⟨t665, A310, H⟩ := H
   try dsimp only at H
   have A31 := Aside0.mk A310
   clear A310
   replace H := Option.bind_eq_some_iff.mp H
   obtain ⟨t668, A320, H⟩ := H
   try dsimp only at H
   have A32 := Aside0.mk A320
   clear A320
   obtain rfl := Option.some.inj H
   go_enter Tryd.func36, Tryd.ntmps36
   go_wp2_with (first | ((with_reducible refine gate_callee (f := 58) rfl ?_); refine gl_ (some 8) Tryd.func58 #[.string a0] ?_; (with_reducible refine (dowelref01_digits.calls k a0 t645 _ A3.out).mono ?_); rintro e w33 ⟨v646, rfl, ho0, hb⟩; refine ⟨_, rfl, ?_⟩; have HO647 := Aside0.mk (Kd.R_lower ho0 (below_size (below_up HB.out))); replace HB := Aside0.mk (below_step (below_up HB.out) hb); (try clear hb); (try clear hb2); (try clear hk); (try clear hi); (try clear ho0)) | ((with_reducible refine gate_callee (f := 58) rfl ?_); refine gl_ (some 10) Tryd.func58 #[.string a1] ?_; (with_reducible refine (dowelref01_digits.calls k a1 t648 _ A4.out).mono ?_); rintro e w34 ⟨v649, rfl, ho0, hb⟩; refine ⟨_, rfl, ?_⟩; have HO650 := Aside0.mk (Kd.R_lower (Kd.R_new' ho0 (Kd.R_lt (Kd.R_up HO647.out))) (below_size (below_up HB.out))); replace HO647 := Aside0.mk (Kd.R_elder' (Kd.R_up HO647.out) (Kd.R_base ho0) hb); replace HB := Aside0.mk (below_step (below_up HB.out) hb); (try clear hb); (try clear hb2); (try clear hk); (try clear hi); (try clear ho0)) | ((with_reducible refine gate_callee (f := 33) rfl ?_); refine gl_ (some 12) Tryd.func33 #[.string a0] ?_; (with_reducible refine (dowelref01_Sign.calls a0 t651 _ A5.out).mono ?_); rintro e w' ⟨rfl, ⟨nd, rfl⟩⟩; refine ⟨_, rfl, ?_⟩) | ((with_reducible refine gate_callee (f := 33) rfl ?_); refine gl_ (some 15) Tryd.func33 #[.string a1] ?_; (with_reducible refine (dowelref01_Sign.calls a1 t652 _ A6.out).mono ?_); rintro e w' ⟨rfl, ⟨nd, rfl⟩⟩; refine ⟨_, rfl, ?_⟩; obtain ⟨Ao35, co35, eo35⟩ := Kd.R_slice HO647.out; subst eo35; obtain ⟨Ao36, co36, eo36⟩ := Kd.R_slice HO650.out; subst eo36) | ((with_reducible refine gate_callee (f := 61) rfl ?_); refine gl_ (some 27) Tryd.func61 #[.slice Ao35 t645.length co35, .slice Ao36 t648.length co36] ?_; (with_reducible refine (dowelref01_order.calls k _ _ t645 _ _ t648 t658 _ ?side1 ?side2 ?side3 ?side4 A18.out).mono ?_); (case side1 => repeat (first | exact (Kd.R_reads' HO647.out).2.2 | (with_reducible refine Kd.C_alloc ?_ _) | (with_reducible refine Kd.C_drewN ?_ _) | (with_reducible refine Kd.C_drew ?_))); (case side2 => exact (Kd.R_reads' HO647.out).2.1); (case side3 => repeat (first | exact (Kd.R_reads' HO650.out).2.2 | (with_reducible refine Kd.C_alloc ?_ _) | (with_reducible refine Kd.C_drewN ?_ _) | (with_reducible refine Kd.C_drew ?_))); (case side4 => exact (Kd.R_reads' HO650.out).2.1); rintro e w' ⟨rfl, ⟨nd, rfl⟩⟩; refine ⟨_, rfl, ?_⟩) | ((with_reducible refine gate_callee (f := 33) rfl ?_); refine gl_ (some 37) Tryd.func33 #[.string a1] ?_; (with_reducible refine (dowelref01_Sign.calls a1 t664 _ A30.out).mono ?_); rintro e w' ⟨rfl, ⟨nd, rfl⟩⟩; refine ⟨_, rfl, ?_⟩) | ((with_reducible refine gate_callee (f := 62) rfl ?_); refine gl_ (some 41) Tryd.func62 #[.slice Ao36 t648.length co36, .slice Ao35 t645.length co35] ?_; (with_reducible refine (dowelref01_minus.calls k _ _ t648 _ _ t645 t665 _ ?side1 ?side2 ?side3 ?side4 A31.out).mono ?_); (case side1 => repeat (first | exact (Kd.R_reads' HO650.out).2.2 | (with_reducible refine Kd.C_alloc ?_ _) | (with_reducible refine Kd.C_drewN ?_ _) | (with_reducible refine Kd.C_drew ?_))); (case side2 => exact (Kd.R_reads' HO650.out).2.1); (case side3 => repeat (first | exact (Kd.R_reads' HO647.out).2.2 | (with_reducible refine Kd.C_alloc ?_ _) | (with_reducible refine Kd.C_drewN ?_ _) | (with_reducible refine Kd.C_drew ?_))); (case side4 => exact (Kd.R_reads' HO647.out).2.1); rintro e w37 ⟨v666, rfl, ho0, hb⟩; refine ⟨_, rfl, ?_⟩; have n2_ := Aside0.mk (Kd.R_lower (Kd.R_new' (Kd.R_new' ho0 (Kd.R_lt (Kd.R_up HO647.out))) (Kd.R_lt (Kd.R_up HO650.out))) (below_size (below_up HB.out))); have n3_ := Aside0.mk (below_step (below_up HB.out) hb); (try clear HO647); (try clear HO650); clear HB; have HO667 := n2_; have HB := n3_; clear n2_ n3_; (try clear hb); (try clear hb2); (try clear hk); (try clear hi); (try clear ho0); obtain ⟨Ao38, co38, eo38⟩ := Kd.R_slice HO667.out; subst eo38) | ((with_reducible refine gate_callee (f := 51) rfl ?_); refine gl_ (some 42) Tryd.func51 #[.bool (decide (t664 < 0)), .slice Ao38 t665.length co38] ?_; (with_reducible refine (dowelref01_text.calls k (decide (t664 < 0)) (fun k_ => some k_ = (.slice Ao38 t665.length co38 : Value).ownBlock) (.slice Ao38 t665.length co38) t665 t668 w _ ?side1 ?side2 A32.out).mono ?_); (case side1 => exact below_up HB.out); (case side2 => exact Kd.R_tight rfl HO667.out); rintro e w39 ⟨rfl, hb, hkp⟩; refine ⟨_, rfl, ?_⟩; have n2_ := Aside0.mk (hb); clear HB HO667; have HB := n2_; clear n2_; (try clear hb); (try clear hkp)))
   go_ret
   exact ⟨by first | rfl | (simp [errW_none, errW_some] <;> rfl) | (simp [*, errW_none, errW_some] <;> rfl), below_up HB.out⟩
def dowelref01_Neg.f (k : Nat) (a0 : ByteArray) : Option (ByteArray) := (dowelref01_Sign.f a0).bind fun t669 => ((dowelref01_digits.f k a0).bind fun t670 => ((dowelref01_text.f k (decide (t669 > 0)) t670).bind fun t673 => (some t673)))
theorem dowelref01_Neg.mono : ∀ a0 k, LeO (dowelref01_Neg.f k a0) (dowelref01_Neg.f (k + 1) a0) := by
 intro a0 k
 unfold dowelref01_Neg.f
 repeat' first
   | (with_reducible exact dowelref01_digits.mono _ _)
   | (with_reducible exact dowelref01_text.mono _ _ _)
   | (with_reducible exact LeO.refl _)
   | (with_reducible exact LeO.none _)
   | (with_reducible refine LeO.ite ?_ ?_)
   | (with_reducible refine LeO.bind ?_ (fun _ => ?_))
set_option maxHeartbeats 8000000 in
set_option maxRecDepth 100000 in
theorem dowelref01_Neg.calls (k : Nat) (a0 : ByteArray) (r : ByteArray) (w : World) (h : dowelref01_Neg.f k a0 = some r) :
  Calls Tryd.prog 34 #[.string a0] w fun e w' => e = .returned (.string r) ∧ Below w.heap.size w w' := by
 have HB := Aside0.mk (Below.refl w.heap.size w)
 have H := h
 unfold dowelref01_Neg.f at H
 clear h
 replace H := Option.bind_eq_some_iff.mp H
 obtain ⟨t669, A20, H⟩ := H
 try dsimp only at H
 have A2 := Aside0.mk A20
 clear A20
 replace H := Option.bind_eq_some_iff.mp H
 obtain ⟨t670, A30, H⟩ := H
 try dsimp only at H
 have A3 := Aside0.mk A30
 clear A30
 replace H := Option.bind_eq_some_iff.mp H
 obtain ⟨t673, A40, H⟩ := H
 try dsimp only at H
 have A4 := Aside0.mk A40
 clear A40
 obtain rfl := Option.some.inj H
 go_enter Tryd.func34, Tryd.ntmps34
 go_wp2_with (first | ((with_reducible refine gate_callee (f := 33) rfl ?_); refine gl_ (some 4) Tryd.func33 #[.string a0] ?_; (with_reducible refine (dowelref01_Sign.calls a0 t669 _ A2.out).mono ?_); rintro e w' ⟨rfl, ⟨nd, rfl⟩⟩; refine ⟨_, rfl, ?_⟩) | ((with_reducible refine gate_callee (f := 58) rfl ?_); refine gl_ (some 7) Tryd.func58 #[.string a0] ?_; (with_reducible refine (dowelref01_digits.calls k a0 t670 _ A3.out).mono ?_); rintro e w5 ⟨v671, rfl, ho0, hb⟩; refine ⟨_, rfl, ?_⟩; have HO672 := Aside0.mk (Kd.R_lower ho0 (below_size (below_up HB.out))); replace HB := Aside0.mk (below_step (below_up HB.out) hb); (try clear hb); (try clear hb2); (try clear hk); (try clear hi); (try clear ho0); obtain ⟨Ao6, co6, eo6⟩ := Kd.R_slice HO672.out; subst eo6) | ((with_reducible refine gate_callee (f := 51) rfl ?_); refine gl_ (some 8) Tryd.func51 #[.bool (decide (t669 > 0)), .slice Ao6 t670.length co6] ?_; (with_reducible refine (dowelref01_text.calls k (decide (t669 > 0)) (fun k_ => some k_ = (.slice Ao6 t670.length co6 : Value).ownBlock) (.slice Ao6 t670.length co6) t670 t673 w _ ?side1 ?side2 A4.out).mono ?_); (case side1 => exact below_up HB.out); (case side2 => exact Kd.R_tight rfl HO672.out); rintro e w7 ⟨rfl, hb, hkp⟩; refine ⟨_, rfl, ?_⟩; replace HB := Aside0.mk (hb); clear HO672; (try clear hb); (try clear hkp)))
 go_ret
 exact ⟨by first | rfl | (simp [errW_none, errW_some] <;> rfl) | (simp [*, errW_none, errW_some] <;> rfl), below_up HB.out⟩
def dowelref01_Sub.f (k : Nat) (a0 : ByteArray) (a1 : ByteArray) : Option (ByteArray) := (dowelref01_Neg.f k a1).bind fun t674 => ((dowelref01_Add.f k a0 t674).bind fun t675 => (some t675))
theorem dowelref01_Sub.mono : ∀ a0 a1 k, LeO (dowelref01_Sub.f k a0 a1) (dowelref01_Sub.f (k + 1) a0 a1) := by
 intro a0 a1 k
 unfold dowelref01_Sub.f
 repeat' first
   | (with_reducible exact dowelref01_Add.mono _ _ _)
   | (with_reducible exact dowelref01_Neg.mono _ _)
   | (with_reducible exact LeO.refl _)
   | (with_reducible exact LeO.none _)
   | (with_reducible refine LeO.ite ?_ ?_)
   | (with_reducible refine LeO.bind ?_ (fun _ => ?_))
set_option maxHeartbeats 8000000 in
set_option maxRecDepth 100000 in
theorem dowelref01_Sub.calls (k : Nat) (a0 : ByteArray) (a1 : ByteArray) (r : ByteArray) (w : World) (h : dowelref01_Sub.f k a0 a1 = some r) :
  Calls Tryd.prog 38 #[.string a0, .string a1] w fun e w' => e = .returned (.string r) ∧ Below w.heap.size w w' := by
 have HB := Aside0.mk (Below.refl w.heap.size w)
 have H := h
 unfold dowelref01_Sub.f at H
 clear h
 replace H := Option.bind_eq_some_iff.mp H
 obtain ⟨t674, A30, H⟩ := H
 try dsimp only at H
 have A3 := Aside0.mk A30
 clear A30
 replace H := Option.bind_eq_some_iff.mp H
 obtain ⟨t675, A40, H⟩ := H
 try dsimp only at H
 have A4 := Aside0.mk A40
 clear A40
 obtain rfl := Option.some.inj H
 go_enter Tryd.func38, Tryd.ntmps38
 go_wp2_with (first | ((with_reducible refine gate_callee (f := 34) rfl ?_); refine gl_ (some 7) Tryd.func34 #[.string a1] ?_; (with_reducible refine (dowelref01_Neg.calls k a1 t674 _ A3.out).mono ?_); rintro e w5 ⟨rfl, hb⟩; refine ⟨_, rfl, ?_⟩; replace HB := Aside0.mk (below_step (below_up HB.out) hb); (try clear hb); (try clear hb2); (try clear hk); (try clear hi)) | ((with_reducible refine gate_callee (f := 36) rfl ?_); refine gl_ (some 8) Tryd.func36 #[.string a0, .string t674] ?_; (with_reducible refine (dowelref01_Add.calls k a0 t674 t675 _ A4.out).mono ?_); rintro e w6 ⟨rfl, hb⟩; refine ⟨_, rfl, ?_⟩; replace HB := Aside0.mk (below_step (below_up HB.out) hb); (try clear hb); (try clear hb2); (try clear hk); (try clear hi)))
 go_ret
 exact ⟨by first | rfl | (simp [errW_none, errW_some] <;> rfl) | (simp [*, errW_none, errW_some] <;> rfl), below_up HB.out⟩
mutual
def dowelref01_DivMod.l0 : Nat → ByteArray → ByteArray → List Int → List Int → List Int → List Int → Int → Option (ByteArray × ByteArray)
 | 0, _, _, _, _, _, _, _ => none
 | k + 1, x0, x1, x6, x7, x8, x9, x10 => if x10 ≥ 0 then (if 0 ≤ x10 then (if x10 < (x6.length : Int) then ((some (([rd x6 x10] : List Int) : List Int)).bind fun y686 => (if y686.length + x8.length < 17592186044416 then ((dowelref01_trim.f k (y686 ++ x8)).bind fun t692 => (dowelref01_DivMod.l1 k x0 x1 x6 x7 t692 x9 x10)) else (none))) else (none)) else (none)) else ((dowelref01_Sign.f x0).bind fun t701 => ((dowelref01_Sign.f x1).bind fun t702 => ((dowelref01_text.f k (decide ((wrap64 (t701 * t702)) < 0)) x9).bind fun t703 => ((dowelref01_Sign.f x0).bind fun t704 => ((dowelref01_text.f k (decide (t704 < 0)) x8).bind fun t705 => (if t705.toList = ([48] : List UInt8) then (dowelref01_DivMod.j2 k x1 t703 t705 false) else ((dowelref01_Sign.f t705).bind fun t706 => ((dowelref01_Sign.f x1).bind fun t707 => (dowelref01_DivMod.j2 k x1 t703 t705 (t706 != t707))))))))))
def dowelref01_DivMod.l1 : Nat → ByteArray → ByteArray → List Int → List Int → List Int → List Int → Int → Option (ByteArray × ByteArray)
 | 0, _, _, _, _, _, _, _ => none
 | k + 1, x0, x1, x6, x7, x8, x9, x10 => (dowelref01_order.f k x8 x7).bind fun t695 => (if t695 ≥ 0 then ((dowelref01_minus.f k x8 x7).bind fun t696 => (if 0 ≤ x10 then (if x10 < (x9.length : Int) then (dowelref01_DivMod.l1 k x0 x1 x6 x7 t696 (x9.set (x10 : Int).toNat (wrap64 ((rd x9 x10) + 1))) x10) else (none)) else (none))) else (dowelref01_DivMod.l0 k x0 x1 x6 x7 x8 x9 (wrap64 (x10 - 1))))
def dowelref01_DivMod.j2 : Nat → ByteArray → ByteArray → ByteArray → Bool → Option (ByteArray × ByteArray)
 | 0, _, _, _, _ => none
 | k + 1, x1, x4, x5, x67 => if x67 = true then ((dowelref01_Sub.f k x4 (⟨#[49]⟩ : ByteArray)).bind fun t708 => ((dowelref01_Add.f k x5 x1).bind fun t709 => (some (t708, t709)))) else (some (x4, x5))
end
def dowelref01_DivMod.f (k : Nat) (a0 : ByteArray) (a1 : ByteArray) : Option (ByteArray × ByteArray) := (dowelref01_digits.f k a0).bind fun t676 => ((dowelref01_digits.f k a1).bind fun t679 => (if 0 ≤ (t676.length : Int) then (if ((t676.length : Int) : Int).toNat ≤ 35184372088832 then (dowelref01_DivMod.l0 k a0 a1 t676 t679 ([] : List Int) (List.replicate ((t676.length : Int) : Int).toNat 0) (wrap64 ((t676.length : Int) - 1))) else (none)) else (none)))
theorem dowelref01_DivMod.mono_l : ∀ k, (∀ y0 y1 y2 y3 y4 y5 y6, LeO (dowelref01_DivMod.l0 k y0 y1 y2 y3 y4 y5 y6) (dowelref01_DivMod.l0 (k + 1) y0 y1 y2 y3 y4 y5 y6)) ∧ (∀ y0 y1 y2 y3 y4 y5 y6, LeO (dowelref01_DivMod.l1 k y0 y1 y2 y3 y4 y5 y6) (dowelref01_DivMod.l1 (k + 1) y0 y1 y2 y3 y4 y5 y6)) ∧ (∀ y0 y1 y2 y3, LeO (dowelref01_DivMod.j2 k y0 y1 y2 y3) (dowelref01_DivMod.j2 (k + 1) y0 y1 y2 y3))
 | 0 => ⟨fun _ _ _ _ _ _ _ r h => by simp [dowelref01_DivMod.l0] at h, fun _ _ _ _ _ _ _ r h => by simp [dowelref01_DivMod.l1] at h, fun _ _ _ _ r h => by simp [dowelref01_DivMod.j2] at h⟩
 | k + 1 => by
  obtain ⟨ih0, ih1, ih2⟩ := dowelref01_DivMod.mono_l k
  refine ⟨?_, ?_, ?_⟩
  ·
   intro y0 y1 y2 y3 y4 y5 y6
   unfold dowelref01_DivMod.l0
   repeat' first
   | (with_reducible exact ih0 _ _ _ _ _ _ _)
   | (with_reducible exact ih1 _ _ _ _ _ _ _)
   | (with_reducible exact ih2 _ _ _ _)
   | (with_reducible exact dowelref01_Add.mono _ _ _)
   | (with_reducible exact dowelref01_Sub.mono _ _ _)
   | (with_reducible exact dowelref01_digits.mono _ _)
   | (with_reducible exact dowelref01_minus.mono _ _ _)
   | (with_reducible exact dowelref01_order.mono _ _ _)
   | (with_reducible exact dowelref01_text.mono _ _ _)
   | (with_reducible exact dowelref01_trim.mono _ _)
   | (with_reducible exact LeO.refl _)
   | (with_reducible exact LeO.none _)
   | (with_reducible refine LeO.ite ?_ ?_)
   | (with_reducible refine LeO.bind ?_ (fun _ => ?_))
  ·
   intro y0 y1 y2 y3 y4 y5 y6
   unfold dowelref01_DivMod.l1
   repeat' first
   | (with_reducible exact ih0 _ _ _ _ _ _ _)
   | (with_reducible exact ih1 _ _ _ _ _ _ _)
   | (with_reducible exact ih2 _ _ _ _)
   | (with_reducible exact dowelref01_Add.mono _ _ _)
   | (with_reducible exact dowelref01_Sub.mono _ _ _)
   | (with_reducible exact dowelref01_digits.mono _ _)
   | (with_reducible exact dowelref01_minus.mono _ _ _)
   | (with_reducible exact dowelref01_order.mono _ _ _)
   | (with_reducible exact dowelref01_text.mono _ _ _)
   | (with_reducible exact dowelref01_trim.mono _ _)
   | (with_reducible exact LeO.refl _)
   | (with_reducible exact LeO.none _)
   | (with_reducible refine LeO.ite ?_ ?_)
   | (with_reducible refine LeO.bind ?_ (fun _ => ?_))
  ·
   intro y0 y1 y2 y3
   unfold dowelref01_DivMod.j2
   repeat' first
   | (with_reducible exact ih0 _ _ _ _ _ _ _)
   | (with_reducible exact ih1 _ _ _ _ _ _ _)
   | (with_reducible exact ih2 _ _ _ _)
   | (with_reducible exact dowelref01_Add.mono _ _ _)
   | (with_reducible exact dowelref01_Sub.mono _ _ _)
   | (with_reducible exact dowelref01_digits.mono _ _)
   | (with_reducible exact dowelref01_minus.mono _ _ _)
   | (with_reducible exact dowelref01_order.mono _ _ _)
   | (with_reducible exact dowelref01_text.mono _ _ _)
   | (with_reducible exact dowelref01_trim.mono _ _)
   | (with_reducible exact LeO.refl _)
   | (with_reducible exact LeO.none _)
   | (with_reducible refine LeO.ite ?_ ?_)
   | (with_reducible refine LeO.bind ?_ (fun _ => ?_))
theorem dowelref01_DivMod.mono : ∀ a0 a1 k, LeO (dowelref01_DivMod.f k a0 a1) (dowelref01_DivMod.f (k + 1) a0 a1) := by
 intro a0 a1 k
 obtain ⟨ih0, ih1, ih2⟩ := dowelref01_DivMod.mono_l k
 unfold dowelref01_DivMod.f
 repeat' first
   | (with_reducible exact ih0 _ _ _ _ _ _ _)
   | (with_reducible exact ih1 _ _ _ _ _ _ _)
   | (with_reducible exact ih2 _ _ _ _)
   | (with_reducible exact dowelref01_Add.mono _ _ _)
   | (with_reducible exact dowelref01_Sub.mono _ _ _)
   | (with_reducible exact dowelref01_digits.mono _ _)
   | (with_reducible exact dowelref01_minus.mono _ _ _)
   | (with_reducible exact dowelref01_order.mono _ _ _)
   | (with_reducible exact dowelref01_text.mono _ _ _)
   | (with_reducible exact dowelref01_trim.mono _ _)
   | (with_reducible exact LeO.refl _)
   | (with_reducible exact LeO.none _)
   | (with_reducible refine LeO.ite ?_ ?_)
   | (with_reducible refine LeO.bind ?_ (fun _ => ?_))
set_option maxHeartbeats 8000000 in
set_option maxRecDepth 100000 in
theorem dowelref01_DivMod.calls (k : Nat) (a0 : ByteArray) (a1 : ByteArray) (r1 : ByteArray) (r2 : ByteArray) (w : World) (h : dowelref01_DivMod.f k a0 a1 = some (r1, r2)) :
  Calls Tryd.prog 28 #[.string a0, .string a1] w fun e w' => e = .returned (.tuple #[.string r1, .string r2]) ∧ Below w.heap.size w w' := by
 have HB := Aside0.mk (Below.refl w.heap.size w)
 have H := h
 unfold dowelref01_DivMod.f at H
 clear h
 replace H := Option.bind_eq_some_iff.mp H
 obtain ⟨t676, A30, H⟩ := H
 try dsimp only at H
 have A3 := Aside0.mk A30
 clear A30
 replace H := Option.bind_eq_some_iff.mp H
 obtain ⟨t679, A40, H⟩ := H
 try dsimp only at H
 have A4 := Aside0.mk A40
 clear A40
 by_cases c5 : 0 ≤ (t676.length : Int)
 ·
  rw [if_pos c5] at H
  have c5b0 := eq_true c5
  have c5b1 := decide_eq_true c5
  clear c5
  obtain ⟨c6, H⟩ := ite_some H
  have c6b0 := eq_true c6
  have c6b1 := decide_eq_true c6
  clear c6
  obtain ⟨y682, hy682⟩ : ∃ y_ : List Int, y_ = (List.replicate ((t676.length : Int) : Int).toNat 0) := ⟨_, rfl⟩
  replace H : (dowelref01_DivMod.l0 k a0 a1 t676 t679 ([] : List Int) y682 (wrap64 ((t676.length : Int) - 1))) = some (r1, r2) := by first | (rw [hy682]; exact H) | exact H
  have Ny682 := Aside0.mk hy682
  clear hy682
  have H' := Aside0.mk H
  clear H
  go_enter Tryd.func28, Tryd.ntmps28
  go_wp2_with (first | ((with_reducible refine gate_callee (f := 58) rfl ?_); refine gl_ (some 12) Tryd.func58 #[.string a0] ?_; (with_reducible refine (dowelref01_digits.calls k a0 t676 _ A3.out).mono ?_); rintro e w7 ⟨v677, rfl, ho0, hb⟩; refine ⟨_, rfl, ?_⟩; have HO678 := Aside0.mk (Kd.R_lower ho0 (below_size (below_up HB.out))); replace HB := Aside0.mk (below_step (below_up HB.out) hb); (try clear hb); (try clear hb2); (try clear hk); (try clear hi); (try clear ho0)) | ((with_reducible refine gate_callee (f := 58) rfl ?_); refine gl_ (some 14) Tryd.func58 #[.string a1] ?_; (with_reducible refine (dowelref01_digits.calls k a1 t679 _ A4.out).mono ?_); rintro e w8 ⟨v680, rfl, ho0, hb⟩; refine ⟨_, rfl, ?_⟩; have HO681 := Aside0.mk (Kd.R_lower (Kd.R_new' ho0 (Kd.R_lt (Kd.R_up HO678.out))) (below_size (below_up HB.out))); replace HO678 := Aside0.mk (Kd.R_elder' (Kd.R_up HO678.out) (Kd.R_base ho0) hb); replace HB := Aside0.mk (below_step (below_up HB.out) hb); (try clear hb); (try clear hb2); (try clear hk); (try clear hi); (try clear ho0); obtain ⟨Ao9, co9, eo9⟩ := Kd.R_slice HO678.out; subst eo9) | ((with_reducible refine gate_dst (N := 17) rfl ?_); refine Kd.R_make (Kd.int .i64) _ 3 rfl (N := 17) rfl 67 _ _ rfl (t676.length : Int) rfl rfl Tryd.underlying67 (.int .i64 0) 8 info3 rfl (by decide) (by omega) 0 (ok := fun _ => True) (okp := fun _ => True) rfl (fun _ hk => hk) trivial (of_decide_eq_true (by assumption)) (Nat.le_trans (Nat.mul_le_mul_right _ (of_decide_eq_true (by assumption) : (t676.length : Int).toNat ≤ 35184372088832)) (by omega)) (Below.refl _ _) (Nat.le_refl _) ?_; intro v683 w10 ho11 hb hg_ hnew_; clear hg_ hnew_; (first | rw [← Ny682.out] at ho11 | (simp only [Int.reduceToNat] at ho11; rw [← Ny682.out] at ho11)); have HO684 := Aside0.mk (Kd.R_lower (Kd.R_new' (Kd.R_new' ho11 (Kd.R_lt (Kd.R_up HO678.out))) (Kd.R_lt (Kd.R_up HO681.out))) (below_size (below_up HB.out))); replace HO678 := Aside0.mk (Kd.R_elder' (Kd.R_up HO678.out) (Kd.R_base ho11) hb); replace HO681 := Aside0.mk (Kd.R_elder' (Kd.R_up HO681.out) (Kd.R_base ho11) hb); replace HB := Aside0.mk (below_step (below_up HB.out) hb); clear hb ho11))
  go_loopg [8, 10] k (fun kq v8 v10 w' => ∃ (x8_1 : List Int) (x9_1 : List Int) (x10_1 : Int), v10 = .int .i64 x10_1 ∧ Aside0 (dowelref01_DivMod.l0 kq a0 a1 t676 t679 x8_1 x9_1 x10_1 = some (r1, r2)) ∧ Aside0 (kq ≤ k) ∧ Aside0 (Kd.R (Kd.int .i64) 3 w' w.heap.size (fun k_ => some k_ ≠ (v680 : Value).ownBlock ∧ some k_ ≠ (v8 : Value).ownBlock ∧ some k_ ≠ (v683 : Value).ownBlock) (.slice Ao9 t676.length co9) t676) ∧ Aside0 (Kd.R (Kd.int .i64) 3 w' w.heap.size (fun k_ => some k_ ≠ ((.slice Ao9 t676.length co9) : Value).ownBlock ∧ some k_ ≠ (v8 : Value).ownBlock ∧ some k_ ≠ (v683 : Value).ownBlock) v680 t679) ∧ Aside0 (Kd.R (Kd.int .i64) 3 w' w.heap.size (fun k_ => some k_ ≠ ((.slice Ao9 t676.length co9) : Value).ownBlock ∧ some k_ ≠ (v680 : Value).ownBlock ∧ some k_ ≠ (v683 : Value).ownBlock) v8 x8_1) ∧ Aside0 (Kd.R (Kd.int .i64) 3 w' w.heap.size (fun k_ => some k_ ≠ ((.slice Ao9 t676.length co9) : Value).ownBlock ∧ some k_ ≠ (v680 : Value).ownBlock ∧ some k_ ≠ (v8 : Value).ownBlock) v683 x9_1) ∧ Aside0 (Below w.heap.size w w'))
  case atStart => exact ⟨(([] : List Int)), (y682), (wrap64 ((t676.length : Int) - 1)), (by first | rfl | (simp; done) | (simp [*]; done) | (simp <;> omega)), H', ⟨Nat.le_refl _⟩, ⟨Kd.R_up (Kd.R_mono HO678.out (fun _ hk => ⟨hk.1.2, ⟨(by simp [Value.ownBlock]), hk.2⟩⟩))⟩, ⟨Kd.R_up (Kd.R_mono HO681.out (fun _ hk => ⟨hk.1.2, ⟨(by simp [Value.ownBlock]), hk.2⟩⟩))⟩, ⟨by first | exact Kd.R_nil _ _ _ _ _ | exact Kd.N_nil _ _ _ _ _ | exact Kd.V_nil _ _ _ _ _ | exact Kd.Q_nil _ _ _ _ _ | exact Kd.S_nil _ _ _ _ _⟩, ⟨Kd.R_up (Kd.R_mono HO684.out (fun _ hk => ⟨hk.1.2, ⟨hk.2, (by simp [Value.ownBlock])⟩⟩))⟩, ⟨below_up HB.out⟩⟩
  case round =>
   clear H'
   obtain ⟨x8_1, x9_1, x10_1, rfl, HA, HK1, HO_6, HO_7, HO_8, HO_9, HB⟩ := hrel
   cases gk with
   | zero => exact absurd HA.out (by simp [dowelref01_DivMod.l0])
   | succ k1 =>
    have H := HA.out
    clear HA
    simp only [dowelref01_DivMod.l0] at H
    by_cases c12 : x10_1 ≥ 0
    ·
     rw [if_pos c12] at H
     have c12b0 := decide_eq_true c12
     clear c12
     obtain ⟨c13, H⟩ := ite_some H
     have c13b0 := decide_eq_true c13
     clear c13
     obtain ⟨c14, H⟩ := ite_some H
     have c14b0 := decide_eq_true c14
     clear c14
     obtain ⟨y686, hy686⟩ : ∃ y_ : List Int, y_ = (([rd t676 x10_1] : List Int)) := ⟨_, rfl⟩
     replace H : (if y686.length + x8_1.length < 17592186044416 then ((dowelref01_trim.f k1 (y686 ++ x8_1)).bind fun t692 => (dowelref01_DivMod.l1 k1 a0 a1 t676 t679 t692 x9_1 x10_1)) else (none)) = some (r1, r2) := by first | (rw [hy686]; exact H) | exact H
     have Ny686 := Aside0.mk hy686
     clear hy686
     obtain ⟨c15, H⟩ := ite_some H
     have LMc15 := Aside0.mk c15
     clear c15
     obtain ⟨y689, hy689⟩ : ∃ y_ : List Int, y_ = (y686 ++ x8_1) := ⟨_, rfl⟩
     replace H : ((dowelref01_trim.f k1 y689).bind fun t692 => (dowelref01_DivMod.l1 k1 a0 a1 t676 t679 t692 x9_1 x10_1)) = some (r1, r2) := by first | (rw [hy689]; exact H) | exact H
     have Ny689 := Aside0.mk hy689
     clear hy689
     replace H := Option.bind_eq_some_iff.mp H
     obtain ⟨t692, A160, H⟩ := H
     try dsimp only at H
     have A16 := Aside0.mk A160
     clear A160
     have H' := Aside0.mk H
     clear H
     have p685 : 0 ≤ (x10_1 : Int) := of_decide_eq_true (by assumption)
     have q685 : x10_1 < (t676.length : Int) := of_decide_eq_true (by assumption)
     obtain ⟨ad685, e685, hx685_0⟩ := Kd.at_int (Kd.R_reads' HO_6.out).2.2 x10_1 p685 q685
     cases e685
     replace p685 := eq_true p685
     replace q685 := eq_true q685
     go_wp2_with (first | ((with_reducible refine gate_dst (N := 29) rfl ?_); refine Kd.R_lit (Kd.int .i64) _ 3 ?hg (N := 29) ?hd (xs := ([rd t676 x10_1] : List Int)) (inner := [.int .i64 (rd t676 x10_1)]) (ok := fun _ => True) (okp := fun _ => True) ?hr ?hp (fun _ hk => hk) trivial (Below.refl _ _) (Nat.le_refl _) (by simp) ?_; (case hd => rfl); (case hg => rfl); (case hr => first | (go_simp; done) | (go_simp; rfl)); (case hp => exact (Reps.one (show Kd.M (Kd.int .i64) _ _ _ (rd t676 x10_1) [.int .i64 (rd t676 x10_1)] from rfl) (Reps.none _ _))); intro v687 w17 ho18 hb hg_ hnew_; clear hg_ hnew_; (first | rw [← Ny686.out] at ho18 | (simp only [Int.reduceToNat] at ho18; rw [← Ny686.out] at ho18)); have HO688 := Aside0.mk (Kd.R_lower (Kd.R_new' (Kd.R_new' (Kd.R_new' (Kd.R_new' ho18 (Kd.R_lt (Kd.R_up HO_6.out))) (Kd.R_lt (Kd.R_up HO_7.out))) (Kd.R_lt (Kd.R_up HO_8.out))) (Kd.R_lt (Kd.R_up HO_9.out))) (below_size (below_up HB.out))); replace HO_6 := Aside0.mk (Kd.R_elder' (Kd.R_up HO_6.out) (Kd.R_base ho18) hb); replace HO_7 := Aside0.mk (Kd.R_elder' (Kd.R_up HO_7.out) (Kd.R_base ho18) hb); replace HO_8 := Aside0.mk (Kd.R_elder' (Kd.R_up HO_8.out) (Kd.R_base ho18) hb); replace HO_9 := Aside0.mk (Kd.R_elder' (Kd.R_up HO_9.out) (Kd.R_base ho18) hb); replace HB := Aside0.mk (below_step (below_up HB.out) hb); clear hb ho18; obtain ⟨Ao20, co20, eo20⟩ := Kd.R_slice HO_8.out; subst eo20) | ((with_reducible refine gate_builtin (b := .append) (xs := #[.tmp 29, .tmp 30]) rfl ?_); at_builtin; refine Kd.R_append_rows (Kd.int .i64) (w0 := w) w.heap.size rfl (.tmp 29) (.tmp 30) 67 3 (.int .i64 0) 8 rfl Tryd.underlying67 info3 rfl (by decide) (by omega) v687 y686 x8_1 _ _ _ (fun k_ => some k_ ≠ (.slice (some ad685) t676.length co9 : Value).ownBlock ∧ some k_ ≠ (v680 : Value).ownBlock ∧ some k_ ≠ (.slice Ao20 x8_1.length co20 : Value).ownBlock ∧ some k_ ≠ (v683 : Value).ownBlock) (fun _ => False) rfl rfl ?aO ?aR (fun _ _ h => h) (fun _ h => h.elim) ?aF ?aB ?aS ?aL ?_; (case aR => repeat (first | exact (Kd.R_reads' HO_8.out).2.2 | (with_reducible refine Kd.C_alloc ?_ _) | (with_reducible refine Kd.C_drewN ?_ _) | (with_reducible refine Kd.C_drew ?_))); (case aB => exact (below_up HB.out)); (case aF => exact (fun k_ hk => ⟨Kd.fresh' (Kd.R_lt (Kd.R_up HO_6.out)) k_ hk, Kd.fresh' (Kd.R_lt (Kd.R_up HO_7.out)) k_ hk, Kd.fresh' (Kd.R_lt (Kd.R_up HO_8.out)) k_ hk, Kd.fresh' (Kd.R_lt (Kd.R_up HO_9.out)) k_ hk⟩)); (case aO => exact (Kd.R_up (Kd.R_mono HO688.out (fun _ hk => ⟨hk.1.1.1.2, ⟨hk.1.1.2, ⟨hk.1.2, hk.2⟩⟩⟩)))); (case aS => exact (below_size (below_up HB.out))); (case aL => have := LMc15.out; omega); intro v690 w19 ho hb hg hat; rw [← Ny689.out] at ho; replace HO_6 := Aside0.mk (Kd.R_after (ok := (fun k_ => some k_ ≠ (v680 : Value).ownBlock ∧ some k_ ≠ (.slice Ao20 x8_1.length co20 : Value).ownBlock ∧ some k_ ≠ (v683 : Value).ownBlock)) (Kd.R_up HO_6.out) hg hat); replace HO_7 := Aside0.mk (Kd.R_after (ok := (fun k_ => some k_ ≠ (.slice (some ad685) t676.length co9 : Value).ownBlock ∧ some k_ ≠ (.slice Ao20 x8_1.length co20 : Value).ownBlock ∧ some k_ ≠ (v683 : Value).ownBlock)) (Kd.R_up HO_7.out) hg hat); replace HO_8 := Aside0.mk (Kd.R_after (ok := (fun k_ => some k_ ≠ (.slice (some ad685) t676.length co9 : Value).ownBlock ∧ some k_ ≠ (v680 : Value).ownBlock ∧ some k_ ≠ (v683 : Value).ownBlock)) (Kd.R_up HO_8.out) hg hat); replace HO_9 := Aside0.mk (Kd.R_after (ok := (fun k_ => some k_ ≠ (.slice (some ad685) t676.length co9 : Value).ownBlock ∧ some k_ ≠ (v680 : Value).ownBlock ∧ some k_ ≠ (.slice Ao20 x8_1.length co20 : Value).ownBlock)) (Kd.R_up HO_9.out) hg hat); replace HB := Aside0.mk (hb); have HO691 := Aside0.mk (ho); clear HO688 ho hb hg hat; obtain ⟨Ao21, co21, eo21⟩ := Kd.R_slice HO691.out; subst eo21) | ((with_reducible refine gate_callee (f := 60) rfl ?_); refine gl_ (some 32) Tryd.func60 #[.slice Ao21 y689.length co21] ?_; (with_reducible refine (dowelref01_trim.calls k1 (fun k_ => some k_ = (.slice Ao21 y689.length co21 : Value).ownBlock) (.slice Ao21 y689.length co21) y689 t692 w _ ?side1 ?side2 A16.out).mono ?_); (case side1 => exact below_up HB.out); (case side2 => exact Kd.R_tight rfl HO691.out); rintro e w22 ⟨v693, rfl, ho0, hb, hkp⟩; refine ⟨_, rfl, ?_⟩; have HO694 := Aside0.mk (Kd.R_mono (ok' := fun k_ => some k_ ≠ (.slice (some ad685) t676.length co9 : Value).ownBlock ∧ some k_ ≠ (v680 : Value).ownBlock ∧ some k_ ≠ (.slice Ao20 x8_1.length co20 : Value).ownBlock ∧ some k_ ≠ (v683 : Value).ownBlock) ho0 (fun k_ hk_ => ⟨Or.elim hk_ (fun hs_ => fun e_ => (((HO_6.out).1 k_ e_.symm).2) hs_) (fun hn_ => (Kd.fresh' (Kd.R_lt (Kd.R_up HO_6.out)) k_ hn_)), Or.elim hk_ (fun hs_ => fun e_ => (((HO_7.out).1 k_ e_.symm).2) hs_) (fun hn_ => (Kd.fresh' (Kd.R_lt (Kd.R_up HO_7.out)) k_ hn_)), Or.elim hk_ (fun hs_ => fun e_ => (((HO_8.out).1 k_ e_.symm).2) hs_) (fun hn_ => (Kd.fresh' (Kd.R_lt (Kd.R_up HO_8.out)) k_ hn_)), Or.elim hk_ (fun hs_ => fun e_ => (((HO_9.out).1 k_ e_.symm).2) hs_) (fun hn_ => (Kd.fresh' (Kd.R_lt (Kd.R_up HO_9.out)) k_ hn_))⟩)); replace HO_6 := Aside0.mk (Kd.R_mono (ok' := fun k_ => some k_ ≠ (v680 : Value).ownBlock ∧ some k_ ≠ (.slice Ao20 x8_1.length co20 : Value).ownBlock ∧ some k_ ≠ (v683 : Value).ownBlock ∧ some k_ ≠ (v693 : Value).ownBlock) (Kd.R_keptB (HO_6.out) hkp (fun k_ hk_ hs_ => (hk_.2) hs_)) (fun k_ hk_ => ⟨hk_.1.1.1, hk_.1.1.2.1, hk_.1.1.2.2, fun e_ => Or.elim (ho0.1 k_ e_.symm) (fun hs_ => hk_.2.1 hs_) (fun hn_ => Nat.not_le.2 hk_.2.2 hn_)⟩)); replace HO_7 := Aside0.mk (Kd.R_mono (ok' := fun k_ => some k_ ≠ (.slice (some ad685) t676.length co9 : Value).ownBlock ∧ some k_ ≠ (.slice Ao20 x8_1.length co20 : Value).ownBlock ∧ some k_ ≠ (v683 : Value).ownBlock ∧ some k_ ≠ (v693 : Value).ownBlock) (Kd.R_keptB (HO_7.out) hkp (fun k_ hk_ hs_ => (hk_.2) hs_)) (fun k_ hk_ => ⟨hk_.1.1.1, hk_.1.1.2.1, hk_.1.1.2.2, fun e_ => Or.elim (ho0.1 k_ e_.symm) (fun hs_ => hk_.2.1 hs_) (fun hn_ => Nat.not_le.2 hk_.2.2 hn_)⟩)); replace HO_8 := Aside0.mk (Kd.R_mono (ok' := fun k_ => some k_ ≠ (.slice (some ad685) t676.length co9 : Value).ownBlock ∧ some k_ ≠ (v680 : Value).ownBlock ∧ some k_ ≠ (v683 : Value).ownBlock ∧ some k_ ≠ (v693 : Value).ownBlock) (Kd.R_keptB (HO_8.out) hkp (fun k_ hk_ hs_ => (hk_.2) hs_)) (fun k_ hk_ => ⟨hk_.1.1.1, hk_.1.1.2.1, hk_.1.1.2.2, fun e_ => Or.elim (ho0.1 k_ e_.symm) (fun hs_ => hk_.2.1 hs_) (fun hn_ => Nat.not_le.2 hk_.2.2 hn_)⟩)); replace HO_9 := Aside0.mk (Kd.R_mono (ok' := fun k_ => some k_ ≠ (.slice (some ad685) t676.length co9 : Value).ownBlock ∧ some k_ ≠ (v680 : Value).ownBlock ∧ some k_ ≠ (.slice Ao20 x8_1.length co20 : Value).ownBlock ∧ some k_ ≠ (v693 : Value).ownBlock) (Kd.R_keptB (HO_9.out) hkp (fun k_ hk_ hs_ => (hk_.2) hs_)) (fun k_ hk_ => ⟨hk_.1.1.1, hk_.1.1.2.1, hk_.1.1.2.2, fun e_ => Or.elim (ho0.1 k_ e_.symm) (fun hs_ => hk_.2.1 hs_) (fun hn_ => Nat.not_le.2 hk_.2.2 hn_)⟩)); replace HB := Aside0.mk (hb); clear HO691; (try clear hb); (try clear hkp); (try clear ho0)))
     go_loopg [8] k1 (fun kq v8 w' => ∃ (x8_2 : List Int) (x9_2 : List Int), Aside0 (dowelref01_DivMod.l1 kq a0 a1 t676 t679 x8_2 x9_2 x10_1 = some (r1, r2)) ∧ Aside0 (kq ≤ k1) ∧ Aside0 (Kd.R (Kd.int .i64) 3 w' w.heap.size (fun k_ => some k_ ≠ (v680 : Value).ownBlock ∧ some k_ ≠ (v8 : Value).ownBlock ∧ some k_ ≠ (v683 : Value).ownBlock) (.slice (some ad685) t676.length co9) t676) ∧ Aside0 (Kd.R (Kd.int .i64) 3 w' w.heap.size (fun k_ => some k_ ≠ ((.slice (some ad685) t676.length co9) : Value).ownBlock ∧ some k_ ≠ (v8 : Value).ownBlock ∧ some k_ ≠ (v683 : Value).ownBlock) v680 t679) ∧ Aside0 (Kd.R (Kd.int .i64) 3 w' w.heap.size (fun k_ => some k_ ≠ ((.slice (some ad685) t676.length co9) : Value).ownBlock ∧ some k_ ≠ (v680 : Value).ownBlock ∧ some k_ ≠ (v683 : Value).ownBlock) v8 x8_2) ∧ Aside0 (Kd.R (Kd.int .i64) 3 w' w.heap.size (fun k_ => some k_ ≠ ((.slice (some ad685) t676.length co9) : Value).ownBlock ∧ some k_ ≠ (v680 : Value).ownBlock ∧ some k_ ≠ (v8 : Value).ownBlock) v683 x9_2) ∧ Aside0 (Below w.heap.size w w'))
     case atStart => exact ⟨(t692), (x9_1), H', ⟨Nat.le_refl _⟩, ⟨Kd.R_up (Kd.R_mono HO_6.out (fun _ hk => ⟨hk.1, ⟨hk.2.2.2, hk.2.2.1⟩⟩))⟩, ⟨Kd.R_up (Kd.R_mono HO_7.out (fun _ hk => ⟨hk.1, ⟨hk.2.2.2, hk.2.2.1⟩⟩))⟩, ⟨Kd.R_up (Kd.R_mono HO694.out (fun _ hk => ⟨hk.1, ⟨hk.2.1, hk.2.2.2⟩⟩))⟩, ⟨Kd.R_up (Kd.R_mono HO_9.out (fun _ hk => ⟨hk.1, ⟨hk.2.1, hk.2.2.2⟩⟩))⟩, ⟨below_up HB.out⟩⟩
     case round =>
      clear H'
      obtain ⟨x8_2, x9_2, HA, HK2, HO_6, HO_7, HO_8, HO_9, HB⟩ := hrel
      cases gk with
      | zero => exact absurd HA.out (by simp [dowelref01_DivMod.l1])
      | succ k2 =>
       have H := HA.out
       clear HA
       simp only [dowelref01_DivMod.l1] at H
       replace H := Option.bind_eq_some_iff.mp H
       obtain ⟨t695, A230, H⟩ := H
       try dsimp only at H
       have A23 := Aside0.mk A230
       clear A230
       by_cases c24 : t695 ≥ 0
       ·
        rw [if_pos c24] at H
        have c24b0 := decide_eq_true c24
        clear c24
        replace H := Option.bind_eq_some_iff.mp H
        obtain ⟨t696, A250, H⟩ := H
        try dsimp only at H
        have A25 := Aside0.mk A250
        clear A250
        obtain ⟨c26, H⟩ := ite_some H
        have c26b0 := decide_eq_true c26
        clear c26
        obtain ⟨c27, H⟩ := ite_some H
        have c27b0 := decide_eq_true c27
        clear c27
        obtain ⟨y700, hy700⟩ : ∃ y_ : List Int, y_ = (x9_2.set (x10_1 : Int).toNat (wrap64 ((rd x9_2 x10_1) + 1))) := ⟨_, rfl⟩
        replace H : (dowelref01_DivMod.l1 k2 a0 a1 t676 t679 t696 y700 x10_1) = some (r1, r2) := by first | (rw [hy700]; exact H) | exact H
        have Ny700 := Aside0.mk hy700
        clear hy700
        have H' := Aside0.mk H
        clear H
        obtain ⟨Ao29, co29, eo29⟩ := Kd.R_slice HO_8.out
        subst eo29
        obtain ⟨Ao30, co30, eo30⟩ := Kd.R_slice HO_7.out
        subst eo30
        go_wp2_with (first | ((with_reducible refine gate_callee (f := 61) rfl ?_); refine gl_ (some 35) Tryd.func61 #[.slice Ao29 x8_2.length co29, .slice Ao30 t679.length co30] ?_; (with_reducible refine (dowelref01_order.calls k2 _ _ x8_2 _ _ t679 t695 _ ?side1 ?side2 ?side3 ?side4 A23.out).mono ?_); (case side1 => repeat (first | exact (Kd.R_reads' HO_8.out).2.2 | (with_reducible refine Kd.C_alloc ?_ _) | (with_reducible refine Kd.C_drewN ?_ _) | (with_reducible refine Kd.C_drew ?_))); (case side2 => exact (Kd.R_reads' HO_8.out).2.1); (case side3 => repeat (first | exact (Kd.R_reads' HO_7.out).2.2 | (with_reducible refine Kd.C_alloc ?_ _) | (with_reducible refine Kd.C_drewN ?_ _) | (with_reducible refine Kd.C_drew ?_))); (case side4 => exact (Kd.R_reads' HO_7.out).2.1); rintro e w' ⟨rfl, ⟨nd, rfl⟩⟩; refine ⟨_, rfl, ?_⟩; (try (rw [drewN_self wr]; generalize hq_ : World.drewN wr _ = wr; have n0_ : Aside0 (Kd.R (Kd.int .i64) 3 wr w.heap.size (fun k_ => some k_ ≠ (.slice Ao30 t679.length co30 : Value).ownBlock ∧ some k_ ≠ (.slice Ao29 x8_2.length co29 : Value).ownBlock ∧ some k_ ≠ (v683 : Value).ownBlock) (.slice (some ad685) t676.length co9) t676) := ⟨by rw [← hq_]; exact (Kd.R_up HO_6.out)⟩; have n1_ : Aside0 (Kd.R (Kd.int .i64) 3 wr w.heap.size (fun k_ => some k_ ≠ (.slice (some ad685) t676.length co9 : Value).ownBlock ∧ some k_ ≠ (.slice Ao29 x8_2.length co29 : Value).ownBlock ∧ some k_ ≠ (v683 : Value).ownBlock) (.slice Ao30 t679.length co30) t679) := ⟨by rw [← hq_]; exact (Kd.R_up HO_7.out)⟩; have n2_ : Aside0 (Kd.R (Kd.int .i64) 3 wr w.heap.size (fun k_ => some k_ ≠ (.slice (some ad685) t676.length co9 : Value).ownBlock ∧ some k_ ≠ (.slice Ao30 t679.length co30 : Value).ownBlock ∧ some k_ ≠ (v683 : Value).ownBlock) (.slice Ao29 x8_2.length co29) x8_2) := ⟨by rw [← hq_]; exact (Kd.R_up HO_8.out)⟩; have n3_ : Aside0 (Kd.R (Kd.int .i64) 3 wr w.heap.size (fun k_ => some k_ ≠ (.slice (some ad685) t676.length co9 : Value).ownBlock ∧ some k_ ≠ (.slice Ao30 t679.length co30 : Value).ownBlock ∧ some k_ ≠ (.slice Ao29 x8_2.length co29 : Value).ownBlock) v683 x9_2) := ⟨by rw [← hq_]; exact (Kd.R_up HO_9.out)⟩; have n4_ : Aside0 (Below w.heap.size w wr) := ⟨by rw [← hq_]; exact (below_up HB.out)⟩; clear HO_6 HO_7 HO_8 HO_9 HB hq_; have HO_6 := n0_; have HO_7 := n1_; have HO_8 := n2_; have HO_9 := n3_; have HB := n4_; clear n0_ n1_ n2_ n3_ n4_))) | ((with_reducible refine gate_callee (f := 62) rfl ?_); refine gl_ (some 39) Tryd.func62 #[.slice Ao29 x8_2.length co29, .slice Ao30 t679.length co30] ?_; (with_reducible refine (dowelref01_minus.calls k2 _ _ x8_2 _ _ t679 t696 _ ?side1 ?side2 ?side3 ?side4 A25.out).mono ?_); (case side1 => repeat (first | exact (Kd.R_reads' HO_8.out).2.2 | (with_reducible refine Kd.C_alloc ?_ _) | (with_reducible refine Kd.C_drewN ?_ _) | (with_reducible refine Kd.C_drew ?_))); (case side2 => exact (Kd.R_reads' HO_8.out).2.1); (case side3 => repeat (first | exact (Kd.R_reads' HO_7.out).2.2 | (with_reducible refine Kd.C_alloc ?_ _) | (with_reducible refine Kd.C_drewN ?_ _) | (with_reducible refine Kd.C_drew ?_))); (case side4 => exact (Kd.R_reads' HO_7.out).2.1); rintro e w31 ⟨v697, rfl, ho0, hb⟩; refine ⟨_, rfl, ?_⟩; have HO698 := Aside0.mk (Kd.R_lower (Kd.R_new' (Kd.R_new' (Kd.R_new' (Kd.R_new' ho0 (Kd.R_lt (Kd.R_up HO_6.out))) (Kd.R_lt (Kd.R_up HO_7.out))) (Kd.R_lt (Kd.R_up HO_8.out))) (Kd.R_lt (Kd.R_up HO_9.out))) (below_size (below_up HB.out))); replace HO_6 := Aside0.mk (Kd.R_elder' (Kd.R_up HO_6.out) (Kd.R_base ho0) hb); replace HO_7 := Aside0.mk (Kd.R_elder' (Kd.R_up HO_7.out) (Kd.R_base ho0) hb); replace HO_8 := Aside0.mk (Kd.R_elder' (Kd.R_up HO_8.out) (Kd.R_base ho0) hb); replace HO_9 := Aside0.mk (Kd.R_elder' (Kd.R_up HO_9.out) (Kd.R_base ho0) hb); replace HB := Aside0.mk (below_step (below_up HB.out) hb); (try clear hb); (try clear hb2); (try clear hk); (try clear hi); (try clear ho0); obtain ⟨Ao32, co32, eo32⟩ := Kd.R_slice HO_9.out; subst eo32; have p699 : 0 ≤ (x10_1 : Int) := of_decide_eq_true (by assumption); have q699 : x10_1 < (x9_2.length : Int) := of_decide_eq_true (by assumption); obtain ⟨ad699, e699, hx699_0⟩ := Kd.at_int (Kd.R_reads' HO_9.out).2.2 x10_1 p699 q699; cases e699; replace p699 := eq_true p699; replace q699 := eq_true q699; have p28 : 0 ≤ (x10_1 : Int) := of_decide_eq_true (by assumption); have q28 : (x10_1 : Int) < ((x9_2.length : Int) : Int) := of_decide_eq_true (by assumption); obtain ⟨go28, co28, eo28, gb28, gl28, cl28, HG28⟩ := Kd.R_form HO_9.out (by omega); (first | cases eo28 | (injection eo28 with ea_ en_ ec_; (first | subst ea_ | (injection ea_ with ea_; subst ea_)); subst ec_; clear en_)); have GB28 := Aside0.mk gb28; have GG28 := Aside0.mk HG28; clear gb28 gl28 HG28; (first | simp only [add_plain] at hx699_0 | skip); obtain ⟨hx28_0, hf28_0⟩ := Kd.R_celln 0 HO_9.out (x10_1 : Int) p28 q28; replace p28 := eq_true p28; replace q28 := eq_true q28; have n_ := Aside0.mk (Kd.R_mono (ok' := (fun k_ => some k_ ≠ (.slice (some ad685) t676.length co9 : Value).ownBlock ∧ some k_ ≠ (.slice Ao30 t679.length co30 : Value).ownBlock ∧ some k_ ≠ (.slice Ao29 x8_2.length co29 : Value).ownBlock ∧ some k_ ≠ (v697 : Value).ownBlock)) HO_9.out (fun k_ hk => ⟨hk.1.1, ⟨hk.1.2.1, ⟨hk.1.2.2, hk.2⟩⟩⟩)); clear HO_9; have HO_9 := n_; clear n_; obtain ⟨hy33_, hz33_⟩ := Kd.R_celln 0 HO_9.out (x10_1 : Int) (of_decide_eq_true (by assumption)) (of_decide_eq_true (by assumption)); have HP33 := Kd.R_putg HO_9.out (x10_1 : Int) (wrap64 ((rd x9_2 x10_1) + 1))) | ((with_reducible refine gate_store (t := 3) (p := 45) rfl ?_); refine store_event (t := 3) (p := 45) (v := ?vo_w34) (w1 := (w31.setCell ⟨go28, (x10_1 : Int).toNat, none⟩ (.int .i64 (wrap64 ((rd x9_2 x10_1) + 1))))) ?hg ?ho ?hn ?hr ?_; (case ho => rfl); (case hg => rfl); (case hn => rfl); (case hr => first | (go_simp; done) | (go_simp; rfl)); intro w34 hw; have hg : w31.grownBy w34 (some go28) := (by rw [hw]; exact HP33.2); have hp_ : Kd.R (Kd.int .i64) 3 w34 w.heap.size (fun k_ => some k_ ≠ (.slice (some ad685) t676.length co9 : Value).ownBlock ∧ some k_ ≠ (.slice Ao30 t679.length co30 : Value).ownBlock ∧ some k_ ≠ (.slice Ao29 x8_2.length co29 : Value).ownBlock ∧ some k_ ≠ (v697 : Value).ownBlock) (.slice (some ⟨go28, 0, none⟩) x9_2.length co32) y700 := (by rw [hw, Ny700.out]; exact HP33.1); clear HP33; replace HO_6 := Aside0.mk (Kd.R_after (v := (.slice (some ⟨go28, 0, none⟩) x9_2.length co32)) (v1 := (.slice (some ⟨go28, 0, none⟩) x9_2.length co32)) (ok := (fun k_ => some k_ ≠ (.slice Ao30 t679.length co30 : Value).ownBlock ∧ some k_ ≠ (.slice Ao29 x8_2.length co29 : Value).ownBlock ∧ some k_ ≠ (v697 : Value).ownBlock)) (Kd.R_up (Kd.R_mono HO_6.out (fun _ hk => ⟨⟨hk.1.1, ⟨hk.1.2.1, hk.2⟩⟩, hk.1.2.2⟩))) hg (.inl rfl)); replace HO_7 := Aside0.mk (Kd.R_after (v := (.slice (some ⟨go28, 0, none⟩) x9_2.length co32)) (v1 := (.slice (some ⟨go28, 0, none⟩) x9_2.length co32)) (ok := (fun k_ => some k_ ≠ (.slice (some ad685) t676.length co9 : Value).ownBlock ∧ some k_ ≠ (.slice Ao29 x8_2.length co29 : Value).ownBlock ∧ some k_ ≠ (v697 : Value).ownBlock)) (Kd.R_up (Kd.R_mono HO_7.out (fun _ hk => ⟨⟨hk.1.1, ⟨hk.1.2.1, hk.2⟩⟩, hk.1.2.2⟩))) hg (.inl rfl)); replace HO_8 := Aside0.mk (Kd.R_after (v := (.slice (some ⟨go28, 0, none⟩) x9_2.length co32)) (v1 := (.slice (some ⟨go28, 0, none⟩) x9_2.length co32)) (ok := (fun k_ => some k_ ≠ (.slice (some ad685) t676.length co9 : Value).ownBlock ∧ some k_ ≠ (.slice Ao30 t679.length co30 : Value).ownBlock ∧ some k_ ≠ (v697 : Value).ownBlock)) (Kd.R_up (Kd.R_mono HO_8.out (fun _ hk => ⟨⟨hk.1.1, ⟨hk.1.2.1, hk.2⟩⟩, hk.1.2.2⟩))) hg (.inl rfl)); replace HO_9 := Aside0.mk (hp_); replace HO698 := Aside0.mk (Kd.R_after (v := (.slice (some ⟨go28, 0, none⟩) x9_2.length co32)) (v1 := (.slice (some ⟨go28, 0, none⟩) x9_2.length co32)) (ok := (fun k_ => some k_ ≠ (.slice (some ad685) t676.length co9 : Value).ownBlock ∧ some k_ ≠ (.slice Ao30 t679.length co30 : Value).ownBlock ∧ some k_ ≠ (.slice Ao29 x8_2.length co29 : Value).ownBlock)) (Kd.R_up (Kd.R_mono HO698.out (fun _ hk => ⟨⟨hk.1.1.1.2, ⟨hk.1.1.2, hk.1.2⟩⟩, hk.2⟩))) hg (.inl rfl)); replace HB := Aside0.mk ((by rw [hw]; exact below_set (HB.out) GB28.out : Below w.heap.size w w34)); clear hg hw hp_))
        go_roundg k2
        case measure => have := HK1.out; have := HK2.out; omega
        case rel => exact ⟨(t696), (y700), H', ⟨by have := HK1.out; have := HK2.out; omega⟩, ⟨Kd.R_up (Kd.R_mono HO_6.out (fun _ hk => ⟨hk.1.1, ⟨hk.1.2.2, hk.2⟩⟩))⟩, ⟨Kd.R_up (Kd.R_mono HO_7.out (fun _ hk => ⟨hk.1.1, ⟨hk.1.2.2, hk.2⟩⟩))⟩, ⟨Kd.R_up (Kd.R_mono HO698.out (fun _ hk => ⟨hk.1.1, ⟨hk.1.2.1, hk.2⟩⟩))⟩, ⟨Kd.R_up (Kd.R_mono HO_9.out (fun _ hk => ⟨hk.1, ⟨hk.2.1, hk.2.2.2⟩⟩))⟩, ⟨below_up HB.out⟩⟩
       ·
        rw [if_neg c24] at H
        have c24b0 := decide_eq_false c24
        clear c24
        have H' := Aside0.mk H
        clear H
        obtain ⟨Ao35, co35, eo35⟩ := Kd.R_slice HO_8.out
        subst eo35
        obtain ⟨Ao36, co36, eo36⟩ := Kd.R_slice HO_7.out
        subst eo36
        go_wp2_with (first | ((with_reducible refine gate_callee (f := 61) rfl ?_); refine gl_ (some 35) Tryd.func61 #[.slice Ao35 x8_2.length co35, .slice Ao36 t679.length co36] ?_; (with_reducible refine (dowelref01_order.calls k2 _ _ x8_2 _ _ t679 t695 _ ?side1 ?side2 ?side3 ?side4 A23.out).mono ?_); (case side1 => repeat (first | exact (Kd.R_reads' HO_8.out).2.2 | (with_reducible refine Kd.C_alloc ?_ _) | (with_reducible refine Kd.C_drewN ?_ _) | (with_reducible refine Kd.C_drew ?_))); (case side2 => exact (Kd.R_reads' HO_8.out).2.1); (case side3 => repeat (first | exact (Kd.R_reads' HO_7.out).2.2 | (with_reducible refine Kd.C_alloc ?_ _) | (with_reducible refine Kd.C_drewN ?_ _) | (with_reducible refine Kd.C_drew ?_))); (case side4 => exact (Kd.R_reads' HO_7.out).2.1); rintro e w' ⟨rfl, ⟨nd, rfl⟩⟩; refine ⟨_, rfl, ?_⟩))
        go_roundg k2
        case measure => have := HK1.out; have := HK2.out; omega
        case rel => exact ⟨(x8_2), (x9_2), (wrap64 (x10_1 - 1)), (by first | rfl | (simp; done) | (simp [*]; done) | (simp <;> omega)), H', ⟨by have := HK1.out; have := HK2.out; omega⟩, ⟨Kd.R_up HO_6.out⟩, ⟨Kd.R_up HO_7.out⟩, ⟨Kd.R_up HO_8.out⟩, ⟨Kd.R_up HO_9.out⟩, ⟨below_up HB.out⟩⟩
    ·
     rw [if_neg c12] at H
     have c12b0 := decide_eq_false c12
     clear c12
     replace H := Option.bind_eq_some_iff.mp H
     obtain ⟨t701, A370, H⟩ := H
     try dsimp only at H
     have A37 := Aside0.mk A370
     clear A370
     replace H := Option.bind_eq_some_iff.mp H
     obtain ⟨t702, A380, H⟩ := H
     try dsimp only at H
     have A38 := Aside0.mk A380
     clear A380
     replace H := Option.bind_eq_some_iff.mp H
     obtain ⟨t703, A390, H⟩ := H
     try dsimp only at H
     have A39 := Aside0.mk A390
     clear A390
     replace H := Option.bind_eq_some_iff.mp H
     obtain ⟨t704, A400, H⟩ := H
     try dsimp only at H
     have A40 := Aside0.mk A400
     clear A400
     replace H := Option.bind_eq_some_iff.mp H
     obtain ⟨t705, A410, H⟩ := H
     try dsimp only at H
     have A41 := Aside0.mk A410
     clear A410
     have HC42 := Aside0.mk H
     clear H
     go_upto_region 12 with (first | ((with_reducible refine gate_callee (f := 33) rfl ?_); refine gl_ (some 47) Tryd.func33 #[.string a0] ?_; (with_reducible refine (dowelref01_Sign.calls a0 t701 _ A37.out).mono ?_); rintro e w' ⟨rfl, ⟨nd, rfl⟩⟩; refine ⟨_, rfl, ?_⟩) | ((with_reducible refine gate_callee (f := 33) rfl ?_); refine gl_ (some 49) Tryd.func33 #[.string a1] ?_; (with_reducible refine (dowelref01_Sign.calls a1 t702 _ A38.out).mono ?_); rintro e w' ⟨rfl, ⟨nd, rfl⟩⟩; refine ⟨_, rfl, ?_⟩; obtain ⟨Ao43, co43, eo43⟩ := Kd.R_slice HO_9.out; subst eo43) | ((with_reducible refine gate_callee (f := 51) rfl ?_); refine goesL_ (some 53) rfl rfl Tryd.func51 (by kernel_rfl) rfl #[.bool (decide ((wrap64 (t701 * t702)) < 0)), .slice Ao43 x9_1.length co43] rfl (by (try simp only [List.map_toArray, List.map_cons, List.map_nil]); first | done | rfl | (simp only [List.length_drop, List.length_take]; rfl) | (rw [show wrap64 (t701 * t702) = (t701 * t702) from wrap64_of_ _ (by omega) (by omega)]; rfl)) ?_; (with_reducible refine (dowelref01_text.calls k1 (decide ((wrap64 (t701 * t702)) < 0)) (fun k_ => some k_ = (.slice Ao43 x9_1.length co43 : Value).ownBlock) (.slice Ao43 x9_1.length co43) x9_1 t703 w _ ?side1 ?side2 A39.out).mono ?_); (case side1 => exact below_up HB.out); (case side2 => exact Kd.R_tight rfl HO_9.out); rintro e w44 ⟨rfl, hb, hkp⟩; refine ⟨_, rfl, ?_⟩; have n2_ := Aside0.mk (Kd.R_mono (ok' := fun k_ => some k_ ≠ (.slice Ao9 t676.length co9 : Value).ownBlock ∧ some k_ ≠ (v680 : Value).ownBlock) (Kd.R_keptB (HO_8.out) hkp (fun k_ hk_ hs_ => (hk_.2.2) hs_)) (fun k_ hk_ => ⟨hk_.1.1, hk_.1.2.1⟩)); have n3_ := Aside0.mk (hb); (try clear HO_6); (try clear HO_7); clear HO_8 HB HO_9; have HO_8 := n2_; have HB := n3_; clear n2_ n3_; (try clear hb); (try clear hkp)) | ((with_reducible refine gate_callee (f := 33) rfl ?_); refine gl_ (some 55) Tryd.func33 #[.string a0] ?_; (with_reducible refine (dowelref01_Sign.calls a0 t704 _ A40.out).mono ?_); rintro e w' ⟨rfl, ⟨nd, rfl⟩⟩; refine ⟨_, rfl, ?_⟩; obtain ⟨Ao45, co45, eo45⟩ := Kd.R_slice HO_8.out; subst eo45) | ((with_reducible refine gate_callee (f := 51) rfl ?_); refine gl_ (some 58) Tryd.func51 #[.bool (decide (t704 < 0)), .slice Ao45 x8_1.length co45] ?_; (with_reducible refine (dowelref01_text.calls k1 (decide (t704 < 0)) (fun k_ => some k_ = (.slice Ao45 x8_1.length co45 : Value).ownBlock) (.slice Ao45 x8_1.length co45) x8_1 t705 w _ ?side1 ?side2 A41.out).mono ?_); (case side1 => exact below_up HB.out); (case side2 => exact Kd.R_tight rfl HO_8.out); rintro e w46 ⟨rfl, hb, hkp⟩; refine ⟨_, rfl, ?_⟩; have n2_ := Aside0.mk (hb); clear HB HO_8; have HB := n2_; clear n2_; (try clear hb); (try clear hkp)))
     (try simp only [Act.put, List.setIfInBounds_toArray, List.set_cons_zero, List.set_cons_succ])
     go_cut [67] (fun v67 wc => ∃ (kq : Nat) (x67_41 : Bool), v67 = .bool x67_41 ∧ Aside0 (dowelref01_DivMod.j2 kq a1 t703 t705 x67_41 = some (r1, r2)) ∧ Aside0 (kq ≤ k1) ∧ Aside0 (Below w.heap.size w wc))
     case first =>
      have H := HC42.out
      clear HC42
      by_cases c47 : t705.toList = ([48] : List UInt8)
      ·
       rw [if_pos c47] at H
       have c47b0 : (t705.toList == ([48] : List UInt8)) = true := beq_iff_eq.mpr c47
       have c47b1 : (t705.toList != ([48] : List UInt8)) = false := bne_eq_false_iff_eq.mpr c47
       clear c47
       (first | rw [c47b0] | (simp only [i64_w, i32_w]; rw [c47b0]) | skip)
       have H' := Aside0.mk H
       clear H
       go_wp2
       go_meet
       case rel => exact ⟨_, (false), (by first | rfl | (simp; done) | (simp [*]; done) | (simp <;> omega)), H', ⟨by have := HK1.out; first | omega | exact Nat.le_refl _⟩, ⟨below_up HB.out⟩⟩
      ·
       rw [if_neg c47] at H
       have c47b0 : (t705.toList == ([48] : List UInt8)) = false := beq_eq_false_iff_ne.mpr c47
       have c47b1 : (t705.toList != ([48] : List UInt8)) = true := bne_iff_ne.mpr c47
       (first | rw [c47b0] | (simp only [i64_w, i32_w]; rw [c47b0]) | skip)
       replace H := Option.bind_eq_some_iff.mp H
       obtain ⟨t706, A480, H⟩ := H
       try dsimp only at H
       have A48 := Aside0.mk A480
       clear A480
       replace H := Option.bind_eq_some_iff.mp H
       obtain ⟨t707, A490, H⟩ := H
       try dsimp only at H
       have A49 := Aside0.mk A490
       clear A490
       have H' := Aside0.mk H
       clear H
       go_wp2_with (first | (go_at_call 33; (with_reducible refine (dowelref01_Sign.calls t705 t706 _ A48.out).mono ?_); rintro e w' ⟨rfl, ⟨nd, rfl⟩⟩) | (go_at_call 33; (with_reducible refine (dowelref01_Sign.calls a1 t707 _ A49.out).mono ?_); rintro e w' ⟨rfl, ⟨nd, rfl⟩⟩))
       go_meet
       case rel => exact ⟨_, ((t706 != t707)), (by first | rfl | (simp; done) | (simp [*]; done) | (simp <;> omega)), H', ⟨by have := HK1.out; first | omega | exact Nat.le_refl _⟩, ⟨below_up HB.out⟩⟩
     case rest =>
      clear HC42
      obtain ⟨kq, x67_41, rfl, HA, HJ41, HB⟩ := hcut
      cases kq with
      | zero => exact absurd HA.out (by simp [dowelref01_DivMod.j2])
      | succ kj41 =>
       have H := HA.out
       clear HA
       simp only [dowelref01_DivMod.j2] at H
       by_cases c50 : x67_41 = true
       ·
        subst c50
        have H1 : ((dowelref01_Sub.f kj41 t703 (⟨#[49]⟩ : ByteArray)).bind fun t708 => ((dowelref01_Add.f kj41 t705 a1).bind fun t709 => (some (t708, t709)))) = some (r1, r2) := by rw [if_pos rfl] at H; exact H
        clear H
        have H := H1
        clear H1
        replace H := Option.bind_eq_some_iff.mp H
        obtain ⟨t708, A510, H⟩ := H
        try dsimp only at H
        have A51 := Aside0.mk A510
        clear A510
        replace H := Option.bind_eq_some_iff.mp H
        obtain ⟨t709, A520, H⟩ := H
        try dsimp only at H
        have A52 := Aside0.mk A520
        clear A520
        simp only [Option.some.injEq, Prod.mk.injEq] at H
        obtain ⟨rfl, rfl⟩ := H
        go_wp2_with (first | ((with_reducible refine gate_callee (f := 38) rfl ?_); refine gl_ (some 69) Tryd.func38 #[.string t703, .string (⟨#[49]⟩ : ByteArray)] ?_; (with_reducible refine (dowelref01_Sub.calls kj41 t703 (⟨#[49]⟩ : ByteArray) t708 _ A51.out).mono ?_); rintro e w53 ⟨rfl, hb⟩; refine ⟨_, rfl, ?_⟩; replace HB := Aside0.mk (below_step (below_up HB.out) hb); (try clear hb); (try clear hb2); (try clear hk); (try clear hi)) | ((with_reducible refine gate_callee (f := 36) rfl ?_); refine gl_ (some 72) Tryd.func36 #[.string t705, .string a1] ?_; (with_reducible refine (dowelref01_Add.calls kj41 t705 a1 t709 _ A52.out).mono ?_); rintro e w54 ⟨rfl, hb⟩; refine ⟨_, rfl, ?_⟩; replace HB := Aside0.mk (below_step (below_up HB.out) hb); (try clear hb); (try clear hb2); (try clear hk); (try clear hi)))
        go_ret2
        exact ⟨by first | rfl | (simp [errW_none, errW_some] <;> rfl) | (simp [*, errW_none, errW_some] <;> rfl), below_up HB.out⟩
       ·
        replace c50 := Bool.eq_false_iff.mpr c50
        subst c50
        have H1 : (some (t703, t705)) = some (r1, r2) := by rw [if_neg (show ¬ (false = true) by decide)] at H; exact H
        clear H
        have H := H1
        clear H1
        simp only [Option.some.injEq, Prod.mk.injEq] at H
        obtain ⟨rfl, rfl⟩ := H
        go_wp2
        go_ret2
        exact ⟨by first | rfl | (simp [errW_none, errW_some] <;> rfl) | (simp [*, errW_none, errW_some] <;> rfl), below_up HB.out⟩
 ·
  rw [if_neg c5] at H
  exact absurd H (by simp)
def dowelref01_Bits.l0 : Nat → ByteArray → Int → Option (Int)
 | 0, _, _ => none
 | k + 1, x3, x4 => if x3.toList = ([48] : List UInt8) then (some x4) else ((dowelref01_DivMod.f k x3 (⟨#[50]⟩ : ByteArray)).bind fun bt969 => (dowelref01_Bits.l0 k bt969.1 (wrap64 (x4 + 1))))
def dowelref01_Bits.f (k : Nat) (a0 : ByteArray) : Option (Int) := (dowelref01_digits.f k a0).bind fun t965 => ((dowelref01_text.f k false t965).bind fun t968 => (dowelref01_Bits.l0 k t968 0))
theorem dowelref01_Bits.mono_l : ∀ k, (∀ y0 y1, LeO (dowelref01_Bits.l0 k y0 y1) (dowelref01_Bits.l0 (k + 1) y0 y1))
 | 0 => fun _ _ r h => by simp [dowelref01_Bits.l0] at h
 | k + 1 => by
  have ih0 := dowelref01_Bits.mono_l k
  ·
   intro y0 y1
   unfold dowelref01_Bits.l0
   repeat' first
   | (with_reducible exact ih0 _ _)
   | (with_reducible exact dowelref01_DivMod.mono _ _ _)
   | (with_reducible exact dowelref01_digits.mono _ _)
   | (with_reducible exact dowelref01_text.mono _ _ _)
   | (with_reducible exact LeO.refl _)
   | (with_reducible exact LeO.none _)
   | (with_reducible refine LeO.ite ?_ ?_)
   | (with_reducible refine LeO.bind ?_ (fun _ => ?_))
theorem dowelref01_Bits.mono : ∀ a0 k, LeO (dowelref01_Bits.f k a0) (dowelref01_Bits.f (k + 1) a0) := by
 intro a0 k
 have ih0 := dowelref01_Bits.mono_l k
 unfold dowelref01_Bits.f
 repeat' first
   | (with_reducible exact ih0 _ _)
   | (with_reducible exact dowelref01_DivMod.mono _ _ _)
   | (with_reducible exact dowelref01_digits.mono _ _)
   | (with_reducible exact dowelref01_text.mono _ _ _)
   | (with_reducible exact LeO.refl _)
   | (with_reducible exact LeO.none _)
   | (with_reducible refine LeO.ite ?_ ?_)
   | (with_reducible refine LeO.bind ?_ (fun _ => ?_))
set_option maxHeartbeats 8000000 in
set_option maxRecDepth 100000 in
theorem dowelref01_Bits.calls (k : Nat) (a0 : ByteArray) (r : Int) (w : World) (h : dowelref01_Bits.f k a0 = some r) :
  Calls Tryd.prog 43 #[.string a0] w fun e w' => e = .returned (.int .i64 r) ∧ Below w.heap.size w w' := by
 have HB := Aside0.mk (Below.refl w.heap.size w)
 have H := h
 unfold dowelref01_Bits.f at H
 clear h
 replace H := Option.bind_eq_some_iff.mp H
 obtain ⟨t965, A20, H⟩ := H
 try dsimp only at H
 have A2 := Aside0.mk A20
 clear A20
 replace H := Option.bind_eq_some_iff.mp H
 obtain ⟨t968, A30, H⟩ := H
 try dsimp only at H
 have A3 := Aside0.mk A30
 clear A30
 have H' := Aside0.mk H
 clear H
 go_enter Tryd.func43, Tryd.ntmps43
 go_wp2_with (first | ((with_reducible refine gate_callee (f := 58) rfl ?_); refine gl_ (some 6) Tryd.func58 #[.string a0] ?_; (with_reducible refine (dowelref01_digits.calls k a0 t965 _ A2.out).mono ?_); rintro e w4 ⟨v966, rfl, ho0, hb⟩; refine ⟨_, rfl, ?_⟩; have HO967 := Aside0.mk (Kd.R_lower ho0 (below_size (below_up HB.out))); replace HB := Aside0.mk (below_step (below_up HB.out) hb); (try clear hb); (try clear hb2); (try clear hk); (try clear hi); (try clear ho0); obtain ⟨Ao5, co5, eo5⟩ := Kd.R_slice HO967.out; subst eo5) | ((with_reducible refine gate_callee (f := 51) rfl ?_); refine gl_ (some 7) Tryd.func51 #[.bool false, .slice Ao5 t965.length co5] ?_; (with_reducible refine (dowelref01_text.calls k false (fun k_ => some k_ = (.slice Ao5 t965.length co5 : Value).ownBlock) (.slice Ao5 t965.length co5) t965 t968 w _ ?side1 ?side2 A3.out).mono ?_); (case side1 => exact below_up HB.out); (case side2 => exact Kd.R_tight rfl HO967.out); rintro e w6 ⟨rfl, hb, hkp⟩; refine ⟨_, rfl, ?_⟩; replace HB := Aside0.mk (hb); clear HO967; (try clear hb); (try clear hkp)))
 go_loopg [3, 4] k (fun kq v3 v4 w' => ∃ (x3_1 : ByteArray) (x4_1 : Int), v3 = .string x3_1 ∧ v4 = .int .i64 x4_1 ∧ Aside0 (dowelref01_Bits.l0 kq x3_1 x4_1 = some r) ∧ Aside0 (kq ≤ k) ∧ Aside0 (Below w.heap.size w w'))
 case atStart => exact ⟨(t968), (0), (by first | rfl | (simp; done) | (simp [*]; done) | (simp <;> omega)), (by first | rfl | (simp; done) | (simp [*]; done) | (simp <;> omega)), H', ⟨Nat.le_refl _⟩, ⟨below_up HB.out⟩⟩
 case round =>
  clear H'
  obtain ⟨x3_1, x4_1, rfl, rfl, HA, HK1, HB⟩ := hrel
  cases gk with
  | zero => exact absurd HA.out (by simp [dowelref01_Bits.l0])
  | succ k1 =>
   have H := HA.out
   clear HA
   simp only [dowelref01_Bits.l0] at H
   by_cases c7 : x3_1.toList = ([48] : List UInt8)
   ·
    rw [if_pos c7] at H
    have c7b0 : (x3_1.toList == ([48] : List UInt8)) = true := beq_iff_eq.mpr c7
    have c7b1 : (x3_1.toList != ([48] : List UInt8)) = false := bne_eq_false_iff_eq.mpr c7
    clear c7
    obtain rfl := Option.some.inj H
    go_wp2
    go_ret
    exact ⟨by first | rfl | (simp [errW_none, errW_some] <;> rfl) | (simp [*, errW_none, errW_some] <;> rfl), below_up HB.out⟩
   ·
    rw [if_neg c7] at H
    have c7b0 : (x3_1.toList == ([48] : List UInt8)) = false := beq_eq_false_iff_ne.mpr c7
    have c7b1 : (x3_1.toList != ([48] : List UInt8)) = true := bne_iff_ne.mpr c7
    replace H := Option.bind_eq_some_iff.mp H
    obtain ⟨⟨t969, t970⟩, A80, H⟩ := H
    try dsimp only at H
    have A8 := Aside0.mk A80
    clear A80
    have H' := Aside0.mk H
    clear H
    go_wp2_with (first | ((with_reducible refine gate_callee (f := 28) rfl ?_); refine gl_ (some 12) Tryd.func28 #[.string x3_1, .string (⟨#[50]⟩ : ByteArray)] ?_; (with_reducible refine (dowelref01_DivMod.calls k1 x3_1 (⟨#[50]⟩ : ByteArray) t969 t970 _ A8.out).mono ?_); rintro e w9 ⟨rfl, hb⟩; refine ⟨_, rfl, ?_⟩; replace HB := Aside0.mk (below_step (below_up HB.out) hb); (try clear hb); (try clear hb2); (try clear hk); (try clear hi)))
    go_roundg k1
    case measure => have := HK1.out; omega
    case rel => exact ⟨(t969), (wrap64 (x4_1 + 1)), (by first | rfl | (simp; done) | (simp [*]; done) | (simp <;> omega)), (by first | rfl | (simp; done) | (simp [*]; done) | (simp <;> omega)), H', ⟨by have := HK1.out; omega⟩, ⟨below_up HB.out⟩⟩
mutual
def dowellaw01_IntegerInts.j0 : Nat → ByteArray → Bool → Option (Bool)
 | 0, _, _ => none
 | k + 1, x0, x15 => if x15 = true then ((dowellaw01_known.f k).bind fun t973 => (some t973)) else ((dowellaw01_read.f k x0).bind fun bt974 => ((integer_Int_Int.f k bt974.1 bt974.2.1).bind fun bt980 => (if bt974.2.2 = true then ((integer_Int_Bits.f bt974.1 bt974.2.1).bind fun t982 => ((dowelref01_Bits.f k x0).bind fun t983 => (dowellaw01_IntegerInts.j1 k x0 bt980.1 bt980.2 (t982 != t983)))) else (dowellaw01_IntegerInts.j1 k x0 bt980.1 bt980.2 true))))
def dowellaw01_IntegerInts.j1 : Nat → ByteArray → Int → Bool → Bool → Option (Bool)
 | 0, _, _, _, _ => none
 | k + 1, x0, x5, x6, x35 => if x35 = true then (none) else ((dowelref01_From.f k (-9223372036854775808)).bind fun t984 => ((dowelref01_From.f k 9223372036854775807).bind fun t985 => ((dowelref01_Compare.f k x0 t984).bind fun t986 => (if t986 < 0 then (if x5 = 0 then (some (!x6)) else (none)) else ((dowelref01_Compare.f k x0 t985).bind fun t987 => (if t987 > 0 then (if x5 = 0 then (some (!x6)) else (none)) else (if x6 = true then ((dowelref01_From.f k x5).bind fun t988 => (some (t988.toList == x0.toList))) else (none))))))))
end
def dowellaw01_IntegerInts.f (k : Nat) (a0 : ByteArray) : Option (Bool) := (dowellaw01_known.f k).bind fun t971 => (if t971 = true then ((dowellaw01_right.f k a0).bind fun t972 => (dowellaw01_IntegerInts.j0 k a0 (!t972))) else (dowellaw01_IntegerInts.j0 k a0 true))
theorem dowellaw01_IntegerInts.mono_l : ∀ k, (∀ y0 y1, LeO (dowellaw01_IntegerInts.j0 k y0 y1) (dowellaw01_IntegerInts.j0 (k + 1) y0 y1)) ∧ (∀ y0 y1 y2 y3, LeO (dowellaw01_IntegerInts.j1 k y0 y1 y2 y3) (dowellaw01_IntegerInts.j1 (k + 1) y0 y1 y2 y3))
 | 0 => ⟨fun _ _ r h => by simp [dowellaw01_IntegerInts.j0] at h, fun _ _ _ _ r h => by simp [dowellaw01_IntegerInts.j1] at h⟩
 | k + 1 => by
  obtain ⟨ih0, ih1⟩ := dowellaw01_IntegerInts.mono_l k
  refine ⟨?_, ?_⟩
  ·
   intro y0 y1
   unfold dowellaw01_IntegerInts.j0
   repeat' first
   | (with_reducible exact ih0 _ _)
   | (with_reducible exact ih1 _ _ _ _)
   | (with_reducible exact dowellaw01_known.mono _)
   | (with_reducible exact dowellaw01_read.mono _ _)
   | (with_reducible exact dowellaw01_right.mono _ _)
   | (with_reducible exact dowelref01_Bits.mono _ _)
   | (with_reducible exact dowelref01_Compare.mono _ _ _)
   | (with_reducible exact dowelref01_From.mono _ _)
   | (with_reducible exact integer_Int_Int.mono _ _ _)
   | (with_reducible exact LeO.refl _)
   | (with_reducible exact LeO.none _)
   | (with_reducible refine LeO.ite ?_ ?_)
   | (with_reducible refine LeO.bind ?_ (fun _ => ?_))
  ·
   intro y0 y1 y2 y3
   unfold dowellaw01_IntegerInts.j1
   repeat' first
   | (with_reducible exact ih0 _ _)
   | (with_reducible exact ih1 _ _ _ _)
   | (with_reducible exact dowellaw01_known.mono _)
   | (with_reducible exact dowellaw01_read.mono _ _)
   | (with_reducible exact dowellaw01_right.mono _ _)
   | (with_reducible exact dowelref01_Bits.mono _ _)
   | (with_reducible exact dowelref01_Compare.mono _ _ _)
   | (with_reducible exact dowelref01_From.mono _ _)
   | (with_reducible exact integer_Int_Int.mono _ _ _)
   | (with_reducible exact LeO.refl _)
   | (with_reducible exact LeO.none _)
   | (with_reducible refine LeO.ite ?_ ?_)
   | (with_reducible refine LeO.bind ?_ (fun _ => ?_))
theorem dowellaw01_IntegerInts.mono : ∀ a0 k, LeO (dowellaw01_IntegerInts.f k a0) (dowellaw01_IntegerInts.f (k + 1) a0) := by
 intro a0 k
 obtain ⟨ih0, ih1⟩ := dowellaw01_IntegerInts.mono_l k
 unfold dowellaw01_IntegerInts.f
 repeat' first
   | (with_reducible exact ih0 _ _)
   | (with_reducible exact ih1 _ _ _ _)
   | (with_reducible exact dowellaw01_known.mono _)
   | (with_reducible exact dowellaw01_read.mono _ _)
   | (with_reducible exact dowellaw01_right.mono _ _)
   | (with_reducible exact dowelref01_Bits.mono _ _)
   | (with_reducible exact dowelref01_Compare.mono _ _ _)
   | (with_reducible exact dowelref01_From.mono _ _)
   | (with_reducible exact integer_Int_Int.mono _ _ _)
   | (with_reducible exact LeO.refl _)
   | (with_reducible exact LeO.none _)
   | (with_reducible refine LeO.ite ?_ ?_)
   | (with_reducible refine LeO.bind ?_ (fun _ => ?_))
set_option maxHeartbeats 8000000 in
set_option maxRecDepth 100000 in
theorem dowellaw01_IntegerInts.calls (k : Nat) (a0 : ByteArray) (r : Bool) (w : World) (hG : G w) (h : dowellaw01_IntegerInts.f k a0 = some r) :
  Calls Tryd.prog 12 #[.string a0] w fun e w' => e = .returned (.bool r) ∧ Below w.heap.size w w' := by
 have hu25 := Tryd.underlying25
 have HB := Aside0.mk (Below.refl w.heap.size w)
 have HG := Aside0.mk hG
 clear hG
 have H := h
 unfold dowellaw01_IntegerInts.f at H
 clear h
 have HC2 := Aside0.mk H
 clear H
 go_enter Tryd.func12, Tryd.ntmps12
 go_upto_region 1 with (fail)
 go_cut [15] (fun v15 wc => ∃ (kq : Nat) (x15_1 : Bool), v15 = .bool x15_1 ∧ Aside0 (dowellaw01_IntegerInts.j0 kq a0 x15_1 = some r) ∧ Aside0 (kq ≤ k) ∧ Aside0 (Below w.heap.size w wc))
 case first =>
  have H := HC2.out
  clear HC2
  replace H := Option.bind_eq_some_iff.mp H
  obtain ⟨t971, A30, H⟩ := H
  try dsimp only at H
  have A3 := Aside0.mk A30
  clear A30
  by_cases c4 : t971 = true
  ·
   subst c4
   have H1 : ((dowellaw01_right.f k a0).bind fun t972 => (dowellaw01_IntegerInts.j0 k a0 (!t972))) = some r := by rw [if_pos rfl] at H; exact H
   clear H
   have H := H1
   clear H1
   replace H := Option.bind_eq_some_iff.mp H
   obtain ⟨t972, A50, H⟩ := H
   try dsimp only at H
   have A5 := Aside0.mk A50
   clear A50
   have H' := Aside0.mk H
   clear H
   go_wp2_with (first | ((with_reducible refine gate_callee (f := 14) rfl ?_); refine gl_ (some 9) Tryd.func14 #[] ?_; (with_reducible refine (dowellaw01_known.calls k  true _ ?side1 A3.out).mono ?_); (case side1 => exact G_below HG.out (below_up HB.out)); rintro e w6 ⟨rfl, hb⟩; refine ⟨_, rfl, ?_⟩; replace HB := Aside0.mk (below_step (below_up HB.out) hb); (try clear hb); (try clear hb2); (try clear hk); (try clear hi)) | (go_at_call 23; (with_reducible refine (dowellaw01_right.calls k a0 t972 _ A5.out).mono ?_); rintro e w' ⟨rfl, ⟨nd, rfl⟩⟩))
   go_meet
   case rel => exact ⟨_, (!t972), (by first | rfl | (simp; done) | (simp [*]; done) | (simp <;> omega)), H', ⟨by first | omega | exact Nat.le_refl _⟩, ⟨below_up HB.out⟩⟩
  ·
   replace c4 := Bool.eq_false_iff.mpr c4
   subst c4
   have H1 : (dowellaw01_IntegerInts.j0 k a0 true) = some r := by rw [if_neg (show ¬ (false = true) by decide)] at H; exact H
   clear H
   have H := H1
   clear H1
   have H' := Aside0.mk H
   clear H
   go_wp2_with (first | ((with_reducible refine gate_callee (f := 14) rfl ?_); refine gl_ (some 9) Tryd.func14 #[] ?_; (with_reducible refine (dowellaw01_known.calls k  false _ ?side1 A3.out).mono ?_); (case side1 => exact G_below HG.out (below_up HB.out)); rintro e w7 ⟨rfl, hb⟩; refine ⟨_, rfl, ?_⟩; replace HB := Aside0.mk (below_step (below_up HB.out) hb); (try clear hb); (try clear hb2); (try clear hk); (try clear hi)))
   go_meet
   case rel => exact ⟨_, (true), (by first | rfl | (simp; done) | (simp [*]; done) | (simp <;> omega)), H', ⟨by first | omega | exact Nat.le_refl _⟩, ⟨below_up HB.out⟩⟩
 case rest =>
  clear HC2
  obtain ⟨kq, x15_1, rfl, HA, HJ1, HB⟩ := hcut
  cases kq with
  | zero => exact absurd HA.out (by simp [dowellaw01_IntegerInts.j0])
  | succ kj1 =>
   have H := HA.out
   clear HA
   simp only [dowellaw01_IntegerInts.j0] at H
   by_cases c8 : x15_1 = true
   ·
    subst c8
    have H1 : ((dowellaw01_known.f kj1).bind fun t973 => (some t973)) = some r := by rw [if_pos rfl] at H; exact H
    clear H
    have H := H1
    clear H1
    replace H := Option.bind_eq_some_iff.mp H
    obtain ⟨t973, A90, H⟩ := H
    try dsimp only at H
    have A9 := Aside0.mk A90
    clear A90
    obtain rfl := Option.some.inj H
    go_wp2_with (first | ((with_reducible refine gate_callee (f := 14) rfl ?_); refine gl_ (some 16) Tryd.func14 #[] ?_; (with_reducible refine (dowellaw01_known.calls kj1  t973 _ ?side1 A9.out).mono ?_); (case side1 => exact G_below HG.out (below_up HB.out)); rintro e w10 ⟨rfl, hb⟩; refine ⟨_, rfl, ?_⟩; replace HB := Aside0.mk (below_step (below_up HB.out) hb); (try clear hb); (try clear hb2); (try clear hk); (try clear hi)))
    go_ret
    exact ⟨by first | rfl | (simp [errW_none, errW_some] <;> rfl) | (simp [*, errW_none, errW_some] <;> rfl), below_up HB.out⟩
   ·
    replace c8 := Bool.eq_false_iff.mpr c8
    subst c8
    have H1 : ((dowellaw01_read.f kj1 a0).bind fun bt974 => ((integer_Int_Int.f kj1 bt974.1 bt974.2.1).bind fun bt980 => (if bt974.2.2 = true then ((integer_Int_Bits.f bt974.1 bt974.2.1).bind fun t982 => ((dowelref01_Bits.f kj1 a0).bind fun t983 => (dowellaw01_IntegerInts.j1 kj1 a0 bt980.1 bt980.2 (t982 != t983)))) else (dowellaw01_IntegerInts.j1 kj1 a0 bt980.1 bt980.2 true)))) = some r := by rw [if_neg (show ¬ (false = true) by decide)] at H; exact H
    clear H
    have H := H1
    clear H1
    replace H := Option.bind_eq_some_iff.mp H
    obtain ⟨⟨t974, t975, t978⟩, A110, H⟩ := H
    try dsimp only at H
    have A11 := Aside0.mk A110
    clear A110
    replace H := Option.bind_eq_some_iff.mp H
    obtain ⟨⟨t980, t981⟩, A120, H⟩ := H
    try dsimp only at H
    have A12 := Aside0.mk A120
    clear A120
    have HC13 := Aside0.mk H
    clear H
    go_upto_region 5 with (first | ((with_reducible refine gate_callee (f := 24) rfl ?_); refine gl_ (some 19) Tryd.func24 #[.string a0] ?_; (with_reducible refine (dowellaw01_read.calls kj1 a0 t974 t975 t978 _ A11.out).mono ?_); rintro e w14 ⟨v976, rfl, ho0, hb⟩; refine ⟨_, rfl, ?_⟩; have HO977 := Aside0.mk (Kd.V_lower (Kd.V_mono (ok' := fun k_ => True) ho0 (fun k_ hk_ => trivial)) (below_size (below_up HB.out))); replace HB := Aside0.mk (below_step (below_up HB.out) hb); (try clear hb); (try clear hb2); (try clear hk); (try clear hi); (try clear ho0)) | ((with_reducible refine gate_dst (N := 3) rfl ?_); refine box_event ?hg (N := 3) ?hd (cs := #[.bool false, .slice none 0 0]) (t := 25) ?hr ?_; (case hd => rfl); (case hg => rfl); (case hr => first | (go_simp; done) | (go_simp; rfl)); intro gb979 hg w15 hbox hb; replace HO977 := Aside0.mk (Kd.V_below (Kd.V_elderB (Kd.V_up HO977.out) gb979 (Nat.le_of_eq hg.symm)) hb); have BK979 := Aside0.mk (hbox); have GE979 := Aside0.mk ((size_up hg HB.out : w.heap.size ≤ gb979)); replace HB := Aside0.mk (below_step (below_up HB.out) hb); clear hb hbox hg; have hcz16_0 : w15.cell? ⟨gb979, 0, none⟩ = some (.bool false) := (blk_cell BK979.out 0).trans rfl; have hcz16_1 : w15.cell? ⟨gb979, 1, none⟩ = some (.slice none 0 0) := (blk_cell BK979.out 1).trans rfl; have hfz16_0 := blk_frozen BK979.out 0; have hfz16_1 := blk_frozen BK979.out 1; obtain ⟨Ao17, co17, eo17⟩ := Kd.V_slice HO977.out; subst eo17) | ((with_reducible refine gate_callee (f := 16) rfl ?_); refine gl_ (some 24) Tryd.func16 #[.agg #[.bool t974, .slice Ao17 t975.length co17]] ?_; (with_reducible refine (integer_Int_Int.calls kj1 t974 _ _ t975 t980 t981 _ ?side1 ?side2 A12.out).mono ?_); (case side1 => refine (Kd.V_reads' (e := 60) (base := w.heap.size) (ok := fun k_ => (True ∧ k_ ≠ gb979)) (n := t975.length) (c := co17) ?_).2.2; exact (Kd.V_up ((Kd.V_mono (Kd.V_far (p := ⟨gb979, 1, none⟩) (Kd.V_far (p := ⟨gb979, 0, none⟩) (Kd.V_mono HO977.out (fun k_ hk => (⟨hk, hk.2⟩ : _ ∧ k_ ≠ gb979))) (fun _ hk => hk.2) (.bool t974)) (fun _ hk => hk.2) (.slice Ao17 t975.length co17)) (fun _ h_ => h_.1))))); (case side2 => exact (Kd.V_reads' HO977.out).2.1); rintro e w18 ⟨rfl, hb⟩; refine ⟨_, rfl, ?_⟩; replace HO977 := Aside0.mk (Kd.V_below (Kd.V_up ((Kd.V_mono (Kd.V_far (p := ⟨gb979, 1, none⟩) (Kd.V_far (p := ⟨gb979, 0, none⟩) (Kd.V_mono HO977.out (fun k_ hk => (⟨hk, hk.2⟩ : _ ∧ k_ ≠ gb979))) (fun _ hk => hk.2) (.bool t974)) (fun _ hk => hk.2) (.slice Ao17 t975.length co17)) (fun _ h_ => h_.1)))) hb); replace BK979 := Aside0.mk (blk_below (g := gb979) (o := .cells #[.bool t974, .slice Ao17 t975.length co17] 25 (0, 0)) (by refine blk_ups ?_; refine blk_put (cs := #[.bool t974, .slice none 0 0]) ?_ 1 _ rfl; refine blk_ups ?_; refine blk_put (cs := #[.bool false, .slice none 0 0]) ?_ 0 _ rfl; exact blk_up BK979.out) hb); replace HB := Aside0.mk (below_step (by repeat (first | (with_reducible first | exact HB.out | apply below_alloc | apply pw_below_drewN | apply below_drew1 | refine below_set ?_ GE979.out) | exact HB.out)) hb); (try clear hb); (try clear hb2); (try clear hk); (try clear hi)))
    (try simp only [Act.put, List.setIfInBounds_toArray, List.set_cons_zero, List.set_cons_succ])
    go_cut [35] (fun v35 wc => ∃ (kq : Nat) (x35_12 : Bool), v35 = .bool x35_12 ∧ Aside0 (dowellaw01_IntegerInts.j1 kq a0 t980 t981 x35_12 = some r) ∧ Aside0 (kq ≤ kj1) ∧ Aside0 (Kd.V (Kd.int .u32) 60 wc w.heap.size (fun k_ => k_ ≠ gb979) (.slice Ao17 t975.length co17) t975) ∧ Aside0 (wc.heap[gb979]? = some (.cells #[.bool t974, (.slice Ao17 t975.length co17)] 25 (0, 0))) ∧ Aside0 (Below w.heap.size w wc))
    case first =>
     have H := HC13.out
     clear HC13
     by_cases c19 : t978 = true
     ·
      subst c19
      have H1 : ((integer_Int_Bits.f t974 t975).bind fun t982 => ((dowelref01_Bits.f kj1 a0).bind fun t983 => (dowellaw01_IntegerInts.j1 kj1 a0 t980 t981 (t982 != t983)))) = some r := by rw [if_pos rfl] at H; exact H
      clear H
      have H := H1
      clear H1
      replace H := Option.bind_eq_some_iff.mp H
      obtain ⟨t982, A200, H⟩ := H
      try dsimp only at H
      have A20 := Aside0.mk A200
      clear A200
      replace H := Option.bind_eq_some_iff.mp H
      obtain ⟨t983, A210, H⟩ := H
      try dsimp only at H
      have A21 := Aside0.mk A210
      clear A210
      have H' := Aside0.mk H
      clear H
      have hcz22_0 : w18.cell? ⟨gb979, 0, none⟩ = some (.bool t974) := (blk_cell BK979.out 0).trans rfl
      have hcz22_1 : w18.cell? ⟨gb979, 1, none⟩ = some (.slice Ao17 t975.length co17) := (blk_cell BK979.out 1).trans rfl
      have hfz22_0 := blk_frozen BK979.out 0
      have hfz22_1 := blk_frozen BK979.out 1
      go_wp2_with (first | (go_at_call 42; (with_reducible refine (integer_Int_Bits.calls t974 _ _ t975 t982 _ ?side1 ?side2 A20.out).mono ?_); (case side1 => repeat (first | exact (Kd.V_reads' HO977.out).2.2 | (with_reducible refine Kd.C_alloc ?_ _) | (with_reducible refine Kd.C_drewN ?_ _) | (with_reducible refine Kd.C_drew ?_))); (case side2 => exact (Kd.V_reads' HO977.out).2.1); rintro e w23 ⟨rfl, hb⟩; replace HO977 := Aside0.mk (Kd.V_below (Kd.V_up HO977.out) hb); replace BK979 := Aside0.mk (blk_below (g := gb979) (o := .cells #[.bool t974, .slice Ao17 t975.length co17] 25 (0, 0)) (blk_up BK979.out) hb); replace HB := Aside0.mk (below_step (by repeat (first | (with_reducible first | exact HB.out | apply below_alloc | apply pw_below_drewN | apply below_drew1 | refine below_set ?_ GE979.out) | exact HB.out)) hb); (try clear hb); (try clear hb2); (try clear hk); (try clear hi)) | (go_at_call 43; (with_reducible refine (dowelref01_Bits.calls kj1 a0 t983 _ A21.out).mono ?_); rintro e w24 ⟨rfl, hb⟩; replace HO977 := Aside0.mk (Kd.V_below (Kd.V_up HO977.out) hb); replace BK979 := Aside0.mk (blk_below (g := gb979) (o := .cells #[.bool t974, .slice Ao17 t975.length co17] 25 (0, 0)) (blk_up BK979.out) hb); replace HB := Aside0.mk (below_step (by repeat (first | (with_reducible first | exact HB.out | apply below_alloc | apply pw_below_drewN | apply below_drew1 | refine below_set ?_ GE979.out) | exact HB.out)) hb); (try clear hb); (try clear hb2); (try clear hk); (try clear hi)))
      go_meet
      case rel => exact ⟨_, ((t982 != t983)), (by first | rfl | (simp; done) | (simp [*]; done) | (simp <;> omega)), H', ⟨by have := HJ1.out; first | omega | exact Nat.le_refl _⟩, ⟨Kd.V_up (Kd.V_mono HO977.out (fun _ hk => hk.2))⟩, ⟨by (with_reducible repeat (first | refine blk_drewN ?_ _ | refine blk_drew ?_ | refine blk_alloc ?_ _)); exact BK979.out⟩, ⟨by repeat (first | (with_reducible first | exact HB.out | apply below_alloc | apply pw_below_drewN | apply below_drew1 | refine below_set ?_ GE979.out) | exact HB.out)⟩⟩
     ·
      replace c19 := Bool.eq_false_iff.mpr c19
      subst c19
      have H1 : (dowellaw01_IntegerInts.j1 kj1 a0 t980 t981 true) = some r := by rw [if_neg (show ¬ (false = true) by decide)] at H; exact H
      clear H
      have H := H1
      clear H1
      have H' := Aside0.mk H
      clear H
      go_wp2
      go_meet
      case rel => exact ⟨_, (true), (by first | rfl | (simp; done) | (simp [*]; done) | (simp <;> omega)), H', ⟨by have := HJ1.out; first | omega | exact Nat.le_refl _⟩, ⟨Kd.V_up (Kd.V_mono HO977.out (fun _ hk => hk.2))⟩, ⟨by (with_reducible repeat (first | refine blk_drewN ?_ _ | refine blk_drew ?_ | refine blk_alloc ?_ _)); exact BK979.out⟩, ⟨by repeat (first | (with_reducible first | exact HB.out | apply below_alloc | apply pw_below_drewN | apply below_drew1 | refine below_set ?_ GE979.out) | exact HB.out)⟩⟩
    case rest =>
     clear HC13
     obtain ⟨kq, x35_12, rfl, HA, HJ12, HO_980001, BK979, HB⟩ := hcut
     cases kq with
     | zero => exact absurd HA.out (by simp [dowellaw01_IntegerInts.j1])
     | succ kj12 =>
      have H := HA.out
      clear HA
      simp only [dowellaw01_IntegerInts.j1] at H
      by_cases c25 : x35_12 = true
      ·
       subst c25
       have H1 : (none) = some r := by rw [if_pos rfl] at H; exact H
       clear H
       have H := H1
       clear H1
       exact absurd H (by simp)
      ·
       replace c25 := Bool.eq_false_iff.mpr c25
       subst c25
       have H1 : ((dowelref01_From.f kj12 (-9223372036854775808)).bind fun t984 => ((dowelref01_From.f kj12 9223372036854775807).bind fun t985 => ((dowelref01_Compare.f kj12 a0 t984).bind fun t986 => (if t986 < 0 then (if t980 = 0 then (some (!t981)) else (none)) else ((dowelref01_Compare.f kj12 a0 t985).bind fun t987 => (if t987 > 0 then (if t980 = 0 then (some (!t981)) else (none)) else (if t981 = true then ((dowelref01_From.f kj12 t980).bind fun t988 => (some (t988.toList == a0.toList))) else (none)))))))) = some r := by rw [if_neg (show ¬ (false = true) by decide)] at H; exact H
       clear H
       have H := H1
       clear H1
       replace H := Option.bind_eq_some_iff.mp H
       obtain ⟨t984, A260, H⟩ := H
       try dsimp only at H
       have A26 := Aside0.mk A260
       clear A260
       replace H := Option.bind_eq_some_iff.mp H
       obtain ⟨t985, A270, H⟩ := H
       try dsimp only at H
       have A27 := Aside0.mk A270
       clear A270
       replace H := Option.bind_eq_some_iff.mp H
       obtain ⟨t986, A280, H⟩ := H
       try dsimp only at H
       have A28 := Aside0.mk A280
       clear A280
       by_cases c29 : t986 < 0
       ·
        rw [if_pos c29] at H
        have c29b0 := decide_eq_true c29
        clear c29
        obtain ⟨c30, H⟩ := ite_some H
        have c30b0 : (t980 == 0) = true := beq_iff_eq.mpr c30
        have c30b1 : (t980 != 0) = false := bne_eq_false_iff_eq.mpr c30
        clear c30
        obtain rfl := Option.some.inj H
        go_wp2_with (first | ((with_reducible refine gate_callee (f := 18) rfl ?_); refine gl_ (some 36) Tryd.func18 #[.int .i64 (-9223372036854775808)] ?_; (with_reducible refine (dowelref01_From.calls kj12 (-9223372036854775808) t984 _ A26.out).mono ?_); rintro e w31 ⟨rfl, hb⟩; refine ⟨_, rfl, ?_⟩; have n2_ := Aside0.mk (below_step (by repeat (first | (with_reducible first | exact HB.out | apply below_alloc | apply pw_below_drewN | apply below_drew1 | refine below_set ?_ GE979.out) | exact HB.out)) hb); (try clear HO_980001); (try clear BK979); clear HB; have HB := n2_; clear n2_; (try clear hb); (try clear hb2); (try clear hk); (try clear hi)) | ((with_reducible refine gate_callee (f := 18) rfl ?_); refine gl_ (some 37) Tryd.func18 #[.int .i64 9223372036854775807] ?_; (with_reducible refine (dowelref01_From.calls kj12 9223372036854775807 t985 _ A27.out).mono ?_); rintro e w32 ⟨rfl, hb⟩; refine ⟨_, rfl, ?_⟩; have n2_ := Aside0.mk (below_step (by repeat (first | (with_reducible first | exact HB.out | apply below_alloc | apply pw_below_drewN | apply below_drew1 | refine below_set ?_ GE979.out) | exact HB.out)) hb); clear HB; have HB := n2_; clear n2_; (try clear hb); (try clear hb2); (try clear hk); (try clear hi)) | ((with_reducible refine gate_callee (f := 41) rfl ?_); refine gl_ (some 40) Tryd.func41 #[.string a0, .string t984] ?_; (with_reducible refine (dowelref01_Compare.calls kj12 a0 t984 t986 _ A28.out).mono ?_); rintro e w33 ⟨rfl, hb⟩; refine ⟨_, rfl, ?_⟩; have n2_ := Aside0.mk (below_step (by repeat (first | (with_reducible first | exact HB.out | apply below_alloc | apply pw_below_drewN | apply below_drew1 | refine below_set ?_ GE979.out) | exact HB.out)) hb); clear HB; have HB := n2_; clear n2_; (try clear hb); (try clear hb2); (try clear hk); (try clear hi)))
        go_ret
        exact ⟨by first | rfl | (simp [errW_none, errW_some] <;> rfl) | (simp [*, errW_none, errW_some] <;> rfl), by repeat (first | (with_reducible first | exact HB.out | apply below_alloc | apply pw_below_drewN | apply below_drew1 | refine below_set ?_ GE979.out) | exact HB.out)⟩
       ·
        rw [if_neg c29] at H
        have c29b0 := decide_eq_false c29
        clear c29
        replace H := Option.bind_eq_some_iff.mp H
        obtain ⟨t987, A340, H⟩ := H
        try dsimp only at H
        have A34 := Aside0.mk A340
        clear A340
        by_cases c35 : t987 > 0
        ·
         rw [if_pos c35] at H
         have c35b0 := decide_eq_true c35
         clear c35
         obtain ⟨c36, H⟩ := ite_some H
         have c36b0 : (t980 == 0) = true := beq_iff_eq.mpr c36
         have c36b1 : (t980 != 0) = false := bne_eq_false_iff_eq.mpr c36
         clear c36
         obtain rfl := Option.some.inj H
         go_wp2_with (first | ((with_reducible refine gate_callee (f := 18) rfl ?_); refine gl_ (some 36) Tryd.func18 #[.int .i64 (-9223372036854775808)] ?_; (with_reducible refine (dowelref01_From.calls kj12 (-9223372036854775808) t984 _ A26.out).mono ?_); rintro e w37 ⟨rfl, hb⟩; refine ⟨_, rfl, ?_⟩; have n2_ := Aside0.mk (below_step (by repeat (first | (with_reducible first | exact HB.out | apply below_alloc | apply pw_below_drewN | apply below_drew1 | refine below_set ?_ GE979.out) | exact HB.out)) hb); clear HB; have HB := n2_; clear n2_; (try clear hb); (try clear hb2); (try clear hk); (try clear hi)) | ((with_reducible refine gate_callee (f := 18) rfl ?_); refine gl_ (some 37) Tryd.func18 #[.int .i64 9223372036854775807] ?_; (with_reducible refine (dowelref01_From.calls kj12 9223372036854775807 t985 _ A27.out).mono ?_); rintro e w38 ⟨rfl, hb⟩; refine ⟨_, rfl, ?_⟩; have n2_ := Aside0.mk (below_step (by repeat (first | (with_reducible first | exact HB.out | apply below_alloc | apply pw_below_drewN | apply below_drew1 | refine below_set ?_ GE979.out) | exact HB.out)) hb); clear HB; have HB := n2_; clear n2_; (try clear hb); (try clear hb2); (try clear hk); (try clear hi)) | ((with_reducible refine gate_callee (f := 41) rfl ?_); refine gl_ (some 40) Tryd.func41 #[.string a0, .string t984] ?_; (with_reducible refine (dowelref01_Compare.calls kj12 a0 t984 t986 _ A28.out).mono ?_); rintro e w39 ⟨rfl, hb⟩; refine ⟨_, rfl, ?_⟩; have n2_ := Aside0.mk (below_step (by repeat (first | (with_reducible first | exact HB.out | apply below_alloc | apply pw_below_drewN | apply below_drew1 | refine below_set ?_ GE979.out) | exact HB.out)) hb); clear HB; have HB := n2_; clear n2_; (try clear hb); (try clear hb2); (try clear hk); (try clear hi)) | (go_at_call 41; (with_reducible refine (dowelref01_Compare.calls kj12 a0 t985 t987 _ A34.out).mono ?_); rintro e w40 ⟨rfl, hb⟩; have n2_ := Aside0.mk (below_step (by repeat (first | (with_reducible first | exact HB.out | apply below_alloc | apply pw_below_drewN | apply below_drew1 | refine below_set ?_ GE979.out) | exact HB.out)) hb); clear HB; have HB := n2_; clear n2_; (try clear hb); (try clear hb2); (try clear hk); (try clear hi)))
         go_ret
         exact ⟨by first | rfl | (simp [errW_none, errW_some] <;> rfl) | (simp [*, errW_none, errW_some] <;> rfl), by repeat (first | (with_reducible first | exact HB.out | apply below_alloc | apply pw_below_drewN | apply below_drew1 | refine below_set ?_ GE979.out) | exact HB.out)⟩
        ·
         rw [if_neg c35] at H
         have c35b0 := decide_eq_false c35
         clear c35
         by_cases c41 : t981 = true
         ·
          subst c41
          have H1 : ((dowelref01_From.f kj12 t980).bind fun t988 => (some (t988.toList == a0.toList))) = some r := by rw [if_pos rfl] at H; exact H
          clear H
          have H := H1
          clear H1
          replace H := Option.bind_eq_some_iff.mp H
          obtain ⟨t988, A420, H⟩ := H
          try dsimp only at H
          have A42 := Aside0.mk A420
          clear A420
          obtain rfl := Option.some.inj H
          go_wp2_with (first | ((with_reducible refine gate_callee (f := 18) rfl ?_); refine gl_ (some 36) Tryd.func18 #[.int .i64 (-9223372036854775808)] ?_; (with_reducible refine (dowelref01_From.calls kj12 (-9223372036854775808) t984 _ A26.out).mono ?_); rintro e w43 ⟨rfl, hb⟩; refine ⟨_, rfl, ?_⟩; have n2_ := Aside0.mk (below_step (by repeat (first | (with_reducible first | exact HB.out | apply below_alloc | apply pw_below_drewN | apply below_drew1 | refine below_set ?_ GE979.out) | exact HB.out)) hb); clear HB; have HB := n2_; clear n2_; (try clear hb); (try clear hb2); (try clear hk); (try clear hi)) | ((with_reducible refine gate_callee (f := 18) rfl ?_); refine gl_ (some 37) Tryd.func18 #[.int .i64 9223372036854775807] ?_; (with_reducible refine (dowelref01_From.calls kj12 9223372036854775807 t985 _ A27.out).mono ?_); rintro e w44 ⟨rfl, hb⟩; refine ⟨_, rfl, ?_⟩; have n2_ := Aside0.mk (below_step (by repeat (first | (with_reducible first | exact HB.out | apply below_alloc | apply pw_below_drewN | apply below_drew1 | refine below_set ?_ GE979.out) | exact HB.out)) hb); clear HB; have HB := n2_; clear n2_; (try clear hb); (try clear hb2); (try clear hk); (try clear hi)) | ((with_reducible refine gate_callee (f := 41) rfl ?_); refine gl_ (some 40) Tryd.func41 #[.string a0, .string t984] ?_; (with_reducible refine (dowelref01_Compare.calls kj12 a0 t984 t986 _ A28.out).mono ?_); rintro e w45 ⟨rfl, hb⟩; refine ⟨_, rfl, ?_⟩; have n2_ := Aside0.mk (below_step (by repeat (first | (with_reducible first | exact HB.out | apply below_alloc | apply pw_below_drewN | apply below_drew1 | refine below_set ?_ GE979.out) | exact HB.out)) hb); clear HB; have HB := n2_; clear n2_; (try clear hb); (try clear hb2); (try clear hk); (try clear hi)) | (go_at_call 41; (with_reducible refine (dowelref01_Compare.calls kj12 a0 t985 t987 _ A34.out).mono ?_); rintro e w46 ⟨rfl, hb⟩; have n2_ := Aside0.mk (below_step (by repeat (first | (with_reducible first | exact HB.out | apply below_alloc | apply pw_below_drewN | apply below_drew1 | refine below_set ?_ GE979.out) | exact HB.out)) hb); clear HB; have HB := n2_; clear n2_; (try clear hb); (try clear hb2); (try clear hk); (try clear hi)) | (go_at_call 18; (with_reducible refine (dowelref01_From.calls kj12 t980 t988 _ A42.out).mono ?_); rintro e w47 ⟨rfl, hb⟩; have n2_ := Aside0.mk (below_step (by repeat (first | (with_reducible first | exact HB.out | apply below_alloc | apply pw_below_drewN | apply below_drew1 | refine below_set ?_ GE979.out) | exact HB.out)) hb); clear HB; have HB := n2_; clear n2_; (try clear hb); (try clear hb2); (try clear hk); (try clear hi)))
          go_ret
          exact ⟨by first | rfl | (simp [errW_none, errW_some] <;> rfl) | (simp [*, errW_none, errW_some] <;> rfl), by repeat (first | (with_reducible first | exact HB.out | apply below_alloc | apply pw_below_drewN | apply below_drew1 | refine below_set ?_ GE979.out) | exact HB.out)⟩
         ·
          replace c41 := Bool.eq_false_iff.mpr c41
          subst c41
          have H1 : (none) = some r := by rw [if_neg (show ¬ (false = true) by decide)] at H; exact H
          clear H
          have H := H1
          clear H1
          exact absurd H (by simp)
def dowellaw01_IntegerInts.Pure : Prop := ∀ (a0 : ByteArray), a0.size ≤ 140737488351232 → ∃ k, dowellaw01_IntegerInts.f k a0 = some true
theorem dowellaw01_IntegerInts.walk (P : dowellaw01_IntegerInts.Pure) (a0 : ByteArray) (w : World) (hG : G w) (w0 : a0.size ≤ 140737488351232) :
  Calls Tryd.prog 12 #[.string a0] w fun e w' => e = .returned (.bool true) ∧ Below w.heap.size w w' := by
 obtain ⟨k, h⟩ := P a0 w0
 refine (dowellaw01_IntegerInts.calls k a0 true w hG h).mono ?_
 rintro e w' ⟨rfl, hd⟩
 exact ⟨rfl, hd⟩
end Go.Proofs.YtiikfhdmclmjmaaDoor.P
namespace Go.Proofs.YtiikfhdmclmjmaaDoor.Pure
open Go.RowKit Go.Proofs.YtiikfhdmclmjmaaDoorW.PrintWords
theorem Ev.pos {α : Type} {c : Prop} [Decidable c] {A B : Nat → Option α} {r : α} (h : c) (k : Ev A r) : Ev (fun n => if c then A n else B n) r := by
 obtain ⟨K, k⟩ := k
 exact ⟨K, fun n hn => by show (if c then A n else B n) = some r; rw [if_pos h]; exact k n hn⟩
theorem Ev.neg {α : Type} {c : Prop} [Decidable c] {A B : Nat → Option α} {r : α} (h : ¬ c) (k : Ev B r) : Ev (fun n => if c then A n else B n) r := by
 obtain ⟨K, k⟩ := k
 exact ⟨K, fun n hn => by show (if c then A n else B n) = some r; rw [if_neg h]; exact k n hn⟩
theorem Ev.bind0 {α β : Type} {o : Option α} {f : Nat → α → Option β} {a : α} {r : β} (h : o = some a) (k : Ev (fun n => f n a) r) : Ev (fun n => o.bind (f n)) r := by
 subst h
 exact k
theorem Ev.some_ {α : Type} {a r : α} (h : a = r) : Ev (fun _ => some a) r := h ▸ Ev.now a
theorem Ev.bindS {α β : Type} {f : Nat → α → Option β} {a : α} {r : β} (k : Ev (fun n => f n a) r) : Ev (fun n => (some a).bind (f n)) r := k
theorem w64 (z : Int) (h0 : -9223372036854775808 ≤ z) (h1 : z ≤ 9223372036854775807) : wrap64 z = z := by unfold wrap64; omega
theorem wsucc {j n : Nat} (h : j < n) (hn : n ≤ 9223372036854775807) : wrap64 ((j : Int) + 1) = ((j + 1 : Nat) : Int) := by rw [w64 _ (by omega) (by omega)]; omega
theorem u64 (z : Int) : IntKind.u64.wrap z = z % 18446744073709551616 := rfl
theorem u64s (z : Int) (h0 : 0 ≤ z) (h1 : z < 18446744073709551616) : IntKind.u64.wrap z = z := by rw [u64]; omega
def val (B : Int) : List Int → Int
 | [] => 0
 | d :: l => d + B * val B l
def Digs (B : Int) (l : List Int) : Prop := ∀ d ∈ l, 0 ≤ d ∧ d < B
def Norm (l : List Int) : Prop := ∀ d, l.getLast? = some d → d ≠ 0
theorem Digs.cons {B d : Int} {l : List Int} (h : Digs B (d :: l)) : (0 ≤ d ∧ d < B) ∧ Digs B l := ⟨h d (by simp), fun x hx => h x (by simp [hx])⟩
theorem Digs.mk {B d : Int} {l : List Int} (h0 : 0 ≤ d) (h1 : d < B) (h : Digs B l) : Digs B (d :: l) := by
 intro x hx
 rcases List.mem_cons.1 hx with rfl | hx
 ·
  exact ⟨h0, h1⟩
 ·
  exact h x hx
theorem Digs.nil (B : Int) : Digs B [] := fun d h => by cases h
theorem Digs.app {B : Int} {l m : List Int} (h : Digs B l) (k : Digs B m) : Digs B (l ++ m) := by
 intro x hx
 rcases List.mem_append.1 hx with hx | hx
 ·
  exact h x hx
 ·
  exact k x hx
theorem Digs.left {B : Int} {l m : List Int} (h : Digs B (l ++ m)) : Digs B l := fun x hx => h x (List.mem_append_left _ hx)
theorem Digs.right {B : Int} {l m : List Int} (h : Digs B (l ++ m)) : Digs B m := fun x hx => h x (List.mem_append_right _ hx)
theorem Digs.take {B : Int} {l : List Int} (h : Digs B l) (n : Nat) : Digs B (l.take n) := fun x hx => h x (List.mem_of_mem_take hx)
theorem Digs.drop {B : Int} {l : List Int} (h : Digs B l) (n : Nat) : Digs B (l.drop n) := fun x hx => h x (List.mem_of_mem_drop hx)
theorem val_nonneg {B : Int} (hB : 0 < B) : ∀ {l : List Int}, Digs B l → 0 ≤ val B l
 | [], _ => Int.le_refl _
 | d :: l, h => by
  have := val_nonneg hB h.cons.2
  have h1 := h.cons.1.1
  have := Int.mul_nonneg (Int.le_of_lt hB) this
  simp only [val]
  omega
theorem val_app (B : Int) : ∀ (l m : List Int), val B (l ++ m) = val B l + B ^ l.length * val B m
 | [], m => by simp [val]
 | d :: l, m => by
  simp only [List.cons_append, val, List.length_cons]
  rw [val_app B l m, Int.pow_succ, Int.mul_add, Int.mul_comm (B ^ l.length) B, Int.mul_assoc]
  omega
theorem val_lt {B : Int} (hB : 0 < B) : ∀ {l : List Int}, Digs B l → val B l < B ^ l.length
 | [], _ => by simp [val]
 | d :: l, h => by
  have h1 := val_lt hB h.cons.2
  have h2 := h.cons.1.2
  simp only [val, List.length_cons]
  rw [Int.pow_succ, Int.mul_comm (B ^ l.length) B]
  have : B * (val B l + 1) ≤ B * B ^ l.length := Int.mul_le_mul_of_nonneg_left (by omega) (Int.le_of_lt hB)
  rw [Int.mul_add, Int.mul_one] at this
  omega
theorem getLast?_tail {d : Int} {l : List Int} (h : l ≠ []) : (d :: l).getLast? = l.getLast? := by
 cases l with
 | nil => exact absurd rfl h
 | cons a l => rfl
theorem Norm.tail {d : Int} {l : List Int} (h : Norm (d :: l)) : Norm l := by
 intro x hx
 cases l with
 | nil => simp at hx
 | cons a l => exact h x (by rw [getLast?_tail (by simp)]; exact hx)
theorem Norm.nil : Norm [] := fun d h => by simp at h
theorem norm_pos {B : Int} (hB : 0 < B) : ∀ {l : List Int}, Digs B l → Norm l → l ≠ [] → 0 < val B l
 | [], _, _, h => absurd rfl h
 | [d], hd, hn, _ => by
  have h1 := hd.cons.1.1
  have h2 := hn d rfl
  simp only [val]
  omega
 | d :: e :: l, hd, hn, _ => by
  have := norm_pos hB hd.cons.2 hn.tail (by simp)
  have h1 := hd.cons.1.1
  have h2 := Int.mul_pos hB this
  simp only [val] at *
  omega
theorem val_uniq {B : Int} (hB : 0 < B) : ∀ {l m : List Int}, Digs B l → Digs B m → Norm l → Norm m → val B l = val B m → l = m
 | [], [], _, _, _, _, _ => rfl
 | [], b :: m, _, hm, _, nm, h => by
  have := norm_pos hB hm nm (by simp)
  rw [← h] at this
  exact absurd this (by simp [val])
 | a :: l, [], hl, _, nl, _, h => by
  have := norm_pos hB hl nl (by simp)
  rw [h] at this
  exact absurd this (by simp [val])
 | a :: l, b :: m, hl, hm, nl, nm, h => by
  simp only [val] at h
  have ha := hl.cons.1
  have hb := hm.cons.1
  have e1 : a = b := by
   have h1 : (a + B * val B l) % B = a := by rw [Int.add_mul_emod_self_left]; exact Int.emod_eq_of_lt ha.1 ha.2
   have h2 : (b + B * val B m) % B = b := by rw [Int.add_mul_emod_self_left]; exact Int.emod_eq_of_lt hb.1 hb.2
   rw [← h1, ← h2, h]
  subst e1
  have e2 : val B l = val B m := by
   have : B * val B l = B * val B m := by omega
   exact Int.eq_of_mul_eq_mul_left (by omega) this
  rw [val_uniq hB hl.cons.2 hm.cons.2 nl.tail nm.tail e2]
def dgs (B : Nat) (n : Nat) : List Int := if h : n = 0 ∨ B < 2 then [] else ((n % B : Nat) : Int) :: dgs B (n / B)
termination_by n
decreasing_by exact Nat.div_lt_self (by omega) (by omega)
theorem dgs_zero (B : Nat) : dgs B 0 = [] := by rw [dgs]; simp
theorem dgs_pos {B n : Nat} (hB : 2 ≤ B) (hn : 0 < n) : dgs B n = ((n % B : Nat) : Int) :: dgs B (n / B) := by rw [dgs, dif_neg (by omega)]
theorem dgs_all {B : Nat} (hB : 2 ≤ B) (n : Nat) : Digs B (dgs B n) ∧ Norm (dgs B n) ∧ val B (dgs B n) = n := by
 induction n using Nat.strongRecOn with
 | _ n ih =>
  rcases Nat.eq_zero_or_pos n with rfl | h
  ·
   rw [dgs_zero]
   exact ⟨Digs.nil _, Norm.nil, rfl⟩
  ·
   obtain ⟨h1, h2, h3⟩ := ih (n / B) (Nat.div_lt_self h (by omega))
   rw [dgs_pos hB h]
   have hm : n % B < B := Nat.mod_lt _ (by omega)
   refine ⟨Digs.mk (by omega) (by omega) h1, ?_, ?_⟩
   ·
    intro d hd
    by_cases hz : n / B = 0
    ·
     rw [hz, dgs_zero] at hd
     simp at hd
     have := Nat.div_add_mod n B
     rw [hz] at this
     omega
    ·
     have hne : dgs B (n / B) ≠ [] := by rw [dgs_pos hB (Nat.pos_of_ne_zero hz)]; simp
     rw [getLast?_tail hne] at hd
     exact h2 d hd
   ·
    simp only [val]
    rw [h3]
    have := Nat.mod_add_div n B
    exact_mod_cast this
theorem dgs_digs {B : Nat} (hB : 2 ≤ B) (n : Nat) : Digs B (dgs B n) := (dgs_all hB n).1
theorem dgs_norm {B : Nat} (hB : 2 ≤ B) (n : Nat) : Norm (dgs B n) := (dgs_all hB n).2.1
theorem dgs_val {B : Nat} (hB : 2 ≤ B) (n : Nat) : val B (dgs B n) = n := (dgs_all hB n).2.2
theorem dgs_of {B : Nat} (hB : 2 ≤ B) {l : List Int} {n : Nat} (h1 : Digs B l) (h2 : Norm l) (h3 : val B l = n) : l = dgs B n :=
 val_uniq (by omega) h1 (dgs_digs hB n) h2 (dgs_norm hB n) (by rw [h3, dgs_val hB])
theorem dgs_nil {B : Nat} (hB : 2 ≤ B) {n : Nat} : dgs B n = [] ↔ n = 0 := by
 constructor
 ·
  intro h
  rcases Nat.eq_zero_or_pos n with h0 | h0
  ·
   exact h0
  ·
   rw [dgs_pos hB h0] at h
   cases h
 ·
  rintro rfl
  exact dgs_zero B
def trimL (l : List Int) : List Int := (l.reverse.dropWhile (· == 0)).reverse
theorem trimL_snoc0 (l : List Int) : trimL (l ++ [0]) = trimL l := by simp [trimL]
theorem trimL_snoc {d : Int} (l : List Int) (h : d ≠ 0) : trimL (l ++ [d]) = l ++ [d] := by simp [trimL, h]
theorem trimL_ind {P : List Int → List Int → Prop} (h0 : P [] []) (h1 : ∀ l r, P l r → P (l ++ [0]) r) (h2 : ∀ l d, d ≠ 0 → P (l ++ [d]) (l ++ [d])) (l : List Int) : P l (trimL l) := by
 induction hn : l.length generalizing l with
 | zero =>
  obtain rfl := List.length_eq_zero_iff.1 hn
  exact h0
 | succ n ih =>
  obtain ⟨m, d, rfl⟩ : ∃ m d, l = m ++ [d] := ⟨l.dropLast, l.getLast (by intro h; simp [h] at hn), (List.dropLast_concat_getLast _).symm⟩
  by_cases hd : d = 0
  ·
   subst hd
   rw [trimL_snoc0]
   exact h1 m _ (ih m (by simp at hn; omega))
  ·
   rw [trimL_snoc m hd]
   exact h2 m d hd
theorem trimL_val (B : Int) (l : List Int) : val B (trimL l) = val B l :=
 trimL_ind (P := fun l r => val B r = val B l) rfl (fun l r h => by rw [h, val_app]; simp [val]) (fun _ _ _ => rfl) l
theorem trimL_digs {B : Int} {l : List Int} (h : Digs B l) : Digs B (trimL l) :=
 trimL_ind (P := fun l r => Digs B l → Digs B r) (fun h => h) (fun l r k h => k h.left) (fun _ _ _ h => h) l h
theorem trimL_norm (l : List Int) : Norm (trimL l) :=
 trimL_ind (P := fun _ r => Norm r) Norm.nil (fun _ _ h => h) (fun l d hd x hx => by simp at hx; omega) l
theorem trimL_len (l : List Int) : (trimL l).length ≤ l.length :=
 trimL_ind (P := fun l r => r.length ≤ l.length) (Nat.le_refl _) (fun l r h => by simp; omega) (fun _ _ _ => Nat.le_refl _) l
theorem trimL_of_norm {l : List Int} (h : Norm l) : trimL l = l := by
 rcases List.eq_nil_or_concat l with rfl | ⟨m, d, rfl⟩
 ·
  rfl
 ·
  rw [List.concat_eq_append] at *
  exact trimL_snoc m (h d (by simp))
theorem trimL_dgs {B : Nat} (hB : 2 ≤ B) {l : List Int} {n : Nat} (h1 : Digs B l) (h3 : val B l = n) : trimL l = dgs B n :=
 dgs_of hB (trimL_digs h1) (trimL_norm l) (by rw [trimL_val, h3])
theorem dgs_len {B : Nat} (hB : 2 ≤ B) : ∀ (m n : Nat), n < B ^ m → (dgs B n).length ≤ m
 | 0, n, h => by
  have : n = 0 := by simpa using h
  subst this
  simp [dgs_zero]
 | m + 1, n, h => by
  rcases Nat.eq_zero_or_pos n with rfl | hn
  ·
   simp [dgs_zero]
  ·
   rw [dgs_pos hB hn, List.length_cons]
   have : n / B < B ^ m := by
    rw [Nat.pow_succ, Nat.mul_comm] at h
    exact Nat.div_lt_of_lt_mul h
   have := dgs_len hB m (n / B) this
   omega
theorem rd_at {l : List Int} {i : Nat} (h : i < l.length) : rd l (i : Int) = l[i] := by
 unfold rd
 simp [List.getD_eq_getElem?_getD, h]
theorem rd_digs {B : Int} {l : List Int} (hl : Digs B l) {i : Nat} (h : i < l.length) : 0 ≤ rd l (i : Int) ∧ rd l (i : Int) < B := by
 rw [rd_at h]
 exact hl _ (List.getElem_mem h)
theorem drop_at {l : List Int} {i : Nat} (h : i < l.length) : l.drop i = rd l (i : Int) :: l.drop (i + 1) := by
 rw [rd_at h]
 exact List.drop_eq_getElem_cons h
theorem set_at (l : List Int) (z x : Int) (n : Nat) : (l ++ List.replicate (n + 1) z).set l.length x = (l ++ [x]) ++ List.replicate n z := by
 rw [List.set_append_right _ _ (Nat.le_refl _), Nat.sub_self, List.replicate_succ, List.set_cons_zero, List.append_assoc]
 rfl
theorem take_at {l : List Int} {i : Nat} (h : i < l.length) : l.take (i + 1) = l.take i ++ [rd l (i : Int)] := by
 rw [rd_at h, List.take_succ_eq_append_getElem h]
end Go.Proofs.YtiikfhdmclmjmaaDoor.Pure
