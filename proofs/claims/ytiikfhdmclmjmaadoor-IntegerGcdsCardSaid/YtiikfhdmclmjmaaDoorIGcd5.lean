/- Part 5 of the proof of IntegerGcds: what the program's functions compute, told as plain functions, and what these answer. Conditions: none beside the statement's own. Gathered by the session's program merge.py out of its own and the printed texts; no declaration that the proof does not name is left in. -/
import Derived.Test.YtiikfhdmclmjmaaDoorIGcd4
import Derived.Lib.ItoaNum
import Derived.Laws.BitsLemmas
import Derived.Laws.Bits64b
set_option linter.unusedVariables false
set_option linter.unusedSimpArgs false
namespace Go.Proofs.YtiikfhdmclmjmaaDoor.P
open Go.RowKit Go.Proofs.YtiikfhdmclmjmaaDoorW.PrintWords Go.Proofs.YtiikfhdmclmjmaaDoorW.PrintLast
mutual
def dowelref01_plus.l0 : Nat → List Int → List Int → List Int → Int → Int → Option (List Int)
 | 0, _, _, _, _, _ => none
 | k + 1, x0, x1, x5, x6, x7 => if x7 < (x0.length : Int) then (dowelref01_plus.j1 k x0 x1 x5 x6 x7 true) else (if x7 < (x1.length : Int) then (dowelref01_plus.j1 k x0 x1 x5 x6 x7 true) else (dowelref01_plus.j1 k x0 x1 x5 x6 x7 (decide (x6 > 0))))
def dowelref01_plus.j1 : Nat → List Int → List Int → List Int → Int → Int → Bool → Option (List Int)
 | 0, _, _, _, _, _, _ => none
 | k + 1, x0, x1, x5, x6, x7, x22 => if x22 = true then (if x7 < (x0.length : Int) then (if 0 ≤ x7 then (if x7 < (x1.length : Int) then (if x5.length < 17592186044416 then (dowelref01_plus.l0 k x0 x1 (x5 ++ [Int.tmod (wrap64 ((wrap64 (x6 + (rd x0 x7))) + (rd x1 x7))) 10]) (wrap64 (Int.tdiv (wrap64 ((wrap64 (x6 + (rd x0 x7))) + (rd x1 x7))) 10)) (wrap64 (x7 + 1))) else (none)) else (if x5.length < 17592186044416 then (dowelref01_plus.l0 k x0 x1 (x5 ++ [Int.tmod (wrap64 (x6 + (rd x0 x7))) 10]) (wrap64 (Int.tdiv (wrap64 (x6 + (rd x0 x7))) 10)) (wrap64 (x7 + 1))) else (none))) else (none)) else (if x7 < (x1.length : Int) then (if 0 ≤ x7 then (if x5.length < 17592186044416 then (dowelref01_plus.l0 k x0 x1 (x5 ++ [Int.tmod (wrap64 (x6 + (rd x1 x7))) 10]) (wrap64 (Int.tdiv (wrap64 (x6 + (rd x1 x7))) 10)) (wrap64 (x7 + 1))) else (none)) else (none)) else (if x5.length < 17592186044416 then (dowelref01_plus.l0 k x0 x1 (x5 ++ [Int.tmod x6 10]) (wrap64 (Int.tdiv x6 10)) (wrap64 (x7 + 1))) else (none)))) else (some x5)
end
def dowelref01_plus.f (k : Nat) (l0 : List Int) (l1 : List Int) : Option (List Int) := dowelref01_plus.l0 k l0 l1 ([] : List Int) 0 0
theorem dowelref01_plus.mono_l : ∀ k, (∀ y0 y1 y2 y3 y4, LeO (dowelref01_plus.l0 k y0 y1 y2 y3 y4) (dowelref01_plus.l0 (k + 1) y0 y1 y2 y3 y4)) ∧ (∀ y0 y1 y2 y3 y4 y5, LeO (dowelref01_plus.j1 k y0 y1 y2 y3 y4 y5) (dowelref01_plus.j1 (k + 1) y0 y1 y2 y3 y4 y5))
 | 0 => ⟨fun _ _ _ _ _ r h => by simp [dowelref01_plus.l0] at h, fun _ _ _ _ _ _ r h => by simp [dowelref01_plus.j1] at h⟩
 | k + 1 => by
  obtain ⟨ih0, ih1⟩ := dowelref01_plus.mono_l k
  refine ⟨?_, ?_⟩
  ·
   intro y0 y1 y2 y3 y4
   unfold dowelref01_plus.l0
   repeat' with_reducible first | exact ih0 _ _ _ _ _ | exact ih1 _ _ _ _ _ _ | exact LeO.refl _ | exact LeO.none _ | refine LeO.ite ?_ ?_ | refine LeO.bind ?_ (fun _ => ?_)
  ·
   intro y0 y1 y2 y3 y4 y5
   unfold dowelref01_plus.j1
   repeat' with_reducible first | exact ih0 _ _ _ _ _ | exact ih1 _ _ _ _ _ _ | exact LeO.refl _ | exact LeO.none _ | refine LeO.ite ?_ ?_ | refine LeO.bind ?_ (fun _ => ?_)
theorem dowelref01_plus.mono : ∀ a0 a1 k, LeO (dowelref01_plus.f k a0 a1) (dowelref01_plus.f (k + 1) a0 a1) := by
 intro a0 a1 k
 obtain ⟨ih0, ih1⟩ := dowelref01_plus.mono_l k
 unfold dowelref01_plus.f
 repeat' with_reducible first | exact ih0 _ _ _ _ _ | exact ih1 _ _ _ _ _ _ | exact LeO.refl _ | exact LeO.none _ | refine LeO.ite ?_ ?_ | refine LeO.bind ?_ (fun _ => ?_)
set_option maxHeartbeats 8000000 in
set_option maxRecDepth 100000 in
theorem dowelref01_plus.calls (k : Nat) (A0 : Option Addr) (c0 : Nat) (l0 : List Int) (A1 : Option Addr) (c1 : Nat) (l1 : List Int) (r : List Int) (w : World) (hr0 : Kd.C (Kd.int .i64) w A0 l0.length l0) (hc0 : l0.length ≤ c0) (hr1 : Kd.C (Kd.int .i64) w A1 l1.length l1) (hc1 : l1.length ≤ c1) (h : dowelref01_plus.f k l0 l1 = some r) :
  Calls Tryd.prog 65 #[.slice A0 l0.length c0, .slice A1 l1.length c1] w fun e w' => ∃ v0_ : Value, e = .returned (v0_) ∧ Kd.R (Kd.int .i64) 3 w' w.heap.size (fun _ => True) v0_ r ∧ Below w.heap.size w w' := by
 have HR0 := Aside0.mk hr0
 have HC0 := Aside0.mk hc0
 clear hr0 hc0
 have HR1 := Aside0.mk hr1
 have HC1 := Aside0.mk hc1
 clear hr1 hc1
 have HB := Aside0.mk (Below.refl w.heap.size w)
 have H := h
 unfold dowelref01_plus.f at H
 clear h
 have H' := Aside0.mk H
 clear H
 go_enter Tryd.func65, Tryd.ntmps65
 go_wp2
 go_loopg [5, 6, 7] k (fun kq v5 v6 v7 w' => ∃ (x5_1 : List Int) (x6_1 : Int) (x7_1 : Int), v6 = .int .i64 x6_1 ∧ v7 = .int .i64 x7_1 ∧ Aside0 (dowelref01_plus.l0 kq l0 l1 x5_1 x6_1 x7_1 = some r) ∧ Aside0 (kq ≤ k) ∧ Aside0 (Kd.R (Kd.int .i64) 3 w' w.heap.size (fun _ => True) v5 x5_1) ∧ Aside0 (Below w.heap.size w w'))
 case atStart => exact ⟨(([] : List Int)), (0), (0), (by first | rfl | (simp; done) | (simp [*]; done) | (simp <;> omega)), (by first | rfl | (simp; done) | (simp [*]; done) | (simp <;> omega)), H', ⟨Nat.le_refl _⟩, ⟨by first | exact Kd.R_nil _ _ _ _ _ | exact Kd.N_nil _ _ _ _ _ | exact Kd.V_nil _ _ _ _ _ | exact Kd.Q_nil _ _ _ _ _ | exact Kd.S_nil _ _ _ _ _⟩, ⟨below_up HB.out⟩⟩
 case round =>
  clear H'
  obtain ⟨x5_1, x6_1, x7_1, rfl, rfl, HA, HK1, HO_5, HB⟩ := hrel
  cases gk with
  | zero => exact absurd HA.out (by simp [dowelref01_plus.l0])
  | succ k1 =>
   have H := HA.out
   clear HA
   simp only [dowelref01_plus.l0] at H
   have HC3 := Aside0.mk H
   clear H
   go_upto_region 4 with (fail)
   go_cut [22] (fun v22 wc => ∃ (kq : Nat) (x22_2 : Bool), v22 = .bool x22_2 ∧ Aside0 (dowelref01_plus.j1 kq l0 l1 x5_1 x6_1 x7_1 x22_2 = some r) ∧ Aside0 (kq ≤ k1) ∧ Aside0 (Kd.R (Kd.int .i64) 3 wc w.heap.size (fun _ => True) u5 x5_1) ∧ Aside0 (Below w.heap.size w wc))
   case first =>
    have H := HC3.out
    clear HC3
    by_cases c4 : x7_1 < (l0.length : Int)
    ·
     rw [if_pos c4] at H
     have c4b0 := decide_eq_true c4
     clear c4
     (first | rw [c4b0] | (simp only [i64_w, i32_w]; rw [c4b0]) | skip)
     have H' := Aside0.mk H
     clear H
     go_wp2
     go_meet
     case rel => exact ⟨_, (true), (by first | rfl | (simp; done) | (simp [*]; done) | (simp <;> omega)), H', ⟨by have := HK1.out; first | omega | exact Nat.le_refl _⟩, ⟨Kd.R_up HO_5.out⟩, ⟨below_up HB.out⟩⟩
    ·
     rw [if_neg c4] at H
     have c4b0 := decide_eq_false c4
     clear c4
     (first | rw [c4b0] | (simp only [i64_w, i32_w]; rw [c4b0]) | skip)
     by_cases c5 : x7_1 < (l1.length : Int)
     ·
      rw [if_pos c5] at H
      have c5b0 := decide_eq_true c5
      clear c5
      have H' := Aside0.mk H
      clear H
      go_wp2
      go_meet
      case rel => exact ⟨_, (true), (by first | rfl | (simp; done) | (simp [*]; done) | (simp <;> omega)), H', ⟨by have := HK1.out; first | omega | exact Nat.le_refl _⟩, ⟨Kd.R_up HO_5.out⟩, ⟨below_up HB.out⟩⟩
     ·
      rw [if_neg c5] at H
      have c5b0 := decide_eq_false c5
      clear c5
      have H' := Aside0.mk H
      clear H
      go_wp2
      go_meet
      case rel => exact ⟨_, (decide (x6_1 > 0)), (by first | rfl | (simp; done) | (simp [*]; done) | (simp <;> omega)), H', ⟨by have := HK1.out; first | omega | exact Nat.le_refl _⟩, ⟨Kd.R_up HO_5.out⟩, ⟨below_up HB.out⟩⟩
   case rest =>
    clear HC3
    obtain ⟨kq, x22_2, rfl, HA, HJ2, HO_5, HB⟩ := hcut
    cases kq with
    | zero => exact absurd HA.out (by simp [dowelref01_plus.j1])
    | succ kj2 =>
     have H := HA.out
     clear HA
     simp only [dowelref01_plus.j1] at H
     by_cases c6 : x22_2 = true
     ·
      subst c6
      have H1 : (if x7_1 < (l0.length : Int) then (if 0 ≤ x7_1 then (if x7_1 < (l1.length : Int) then (if x5_1.length < 17592186044416 then (dowelref01_plus.l0 kj2 l0 l1 (x5_1 ++ [Int.tmod (wrap64 ((wrap64 (x6_1 + (rd l0 x7_1))) + (rd l1 x7_1))) 10]) (wrap64 (Int.tdiv (wrap64 ((wrap64 (x6_1 + (rd l0 x7_1))) + (rd l1 x7_1))) 10)) (wrap64 (x7_1 + 1))) else (none)) else (if x5_1.length < 17592186044416 then (dowelref01_plus.l0 kj2 l0 l1 (x5_1 ++ [Int.tmod (wrap64 (x6_1 + (rd l0 x7_1))) 10]) (wrap64 (Int.tdiv (wrap64 (x6_1 + (rd l0 x7_1))) 10)) (wrap64 (x7_1 + 1))) else (none))) else (none)) else (if x7_1 < (l1.length : Int) then (if 0 ≤ x7_1 then (if x5_1.length < 17592186044416 then (dowelref01_plus.l0 kj2 l0 l1 (x5_1 ++ [Int.tmod (wrap64 (x6_1 + (rd l1 x7_1))) 10]) (wrap64 (Int.tdiv (wrap64 (x6_1 + (rd l1 x7_1))) 10)) (wrap64 (x7_1 + 1))) else (none)) else (none)) else (if x5_1.length < 17592186044416 then (dowelref01_plus.l0 kj2 l0 l1 (x5_1 ++ [Int.tmod x6_1 10]) (wrap64 (Int.tdiv x6_1 10)) (wrap64 (x7_1 + 1))) else (none)))) = some r := by rw [if_pos rfl] at H; exact H
      clear H
      have H := H1
      clear H1
      by_cases c7 : x7_1 < (l0.length : Int)
      ·
       rw [if_pos c7] at H
       have c7b0 := decide_eq_true c7
       clear c7
       obtain ⟨c8, H⟩ := ite_some H
       have c8b0 := decide_eq_true c8
       clear c8
       by_cases c9 : x7_1 < (l1.length : Int)
       ·
        rw [if_pos c9] at H
        have c9b0 := decide_eq_true c9
        clear c9
        obtain ⟨c10, H⟩ := ite_some H
        have LMc10 := Aside0.mk c10
        clear c10
        obtain ⟨y632, hy632⟩ : ∃ y_ : List Int, y_ = (x5_1 ++ [Int.tmod (wrap64 ((wrap64 (x6_1 + (rd l0 x7_1))) + (rd l1 x7_1))) 10]) := ⟨_, rfl⟩
        replace H : (dowelref01_plus.l0 kj2 l0 l1 y632 (wrap64 (Int.tdiv (wrap64 ((wrap64 (x6_1 + (rd l0 x7_1))) + (rd l1 x7_1))) 10)) (wrap64 (x7_1 + 1))) = some r := by first | (rw [hy632]; exact H) | exact H
        have Ny632 := Aside0.mk hy632
        clear hy632
        have H' := Aside0.mk H
        clear H
        have p630 : 0 ≤ (x7_1 : Int) := of_decide_eq_true (by assumption)
        have q630 : x7_1 < (l0.length : Int) := of_decide_eq_true (by assumption)
        obtain ⟨ad630, e630, hx630_0⟩ := Kd.at_int HR0.out x7_1 p630 q630
        cases e630
        replace hx630_0 := (HB.out.cell (World.block_lt_of_cell? w _ hx630_0)).trans hx630_0
        replace p630 := eq_true p630
        replace q630 := eq_true q630
        have p631 : 0 ≤ (x7_1 : Int) := of_decide_eq_true (by assumption)
        have q631 : x7_1 < (l1.length : Int) := of_decide_eq_true (by assumption)
        obtain ⟨ad631, e631, hx631_0⟩ := Kd.at_int HR1.out x7_1 p631 q631
        cases e631
        replace hx631_0 := (HB.out.cell (World.block_lt_of_cell? w _ hx631_0)).trans hx631_0
        replace p631 := eq_true p631
        replace q631 := eq_true q631
        go_wp2_with (first | ((with_reducible refine gate_builtin (b := .append) (xs := #[.tmp 46, .tmp 49]) rfl ?_); (try (refine gate_guard (by rfl) ?_; dsimp only)); at_builtin; refine Kd.R_append (Kd.int .i64) (w0 := w) w.heap.size rfl (.tmp 46) (.tmp 49) 67 3 (.int .i64 0) 8 rfl Tryd.underlying67 info3 rfl (by decide) (by omega) u5 x5_1 (Int.tmod (wrap64 ((wrap64 (x6_1 + (rd l0 x7_1))) + (rd l1 x7_1))) 10) [.int .i64 (Int.tmod (wrap64 ((wrap64 (x6_1 + (rd l0 x7_1))) + (rd l1 x7_1))) 10)] (fun _ => True) (fun _ => False) rfl rfl ?aP (fun _ hk => hk.elim) ?aF ?aO ?aB ?aS ?aL ?_; (case aP => exact rfl); (case aB => exact (below_up HB.out)); (case aF => exact (fun _ _ => trivial)); (case aO => exact (Kd.R_up HO_5.out)); (case aS => exact (below_size (below_up HB.out))); (case aL => have := LMc10.out; omega); intro v633 w11 ho hb hg hat; rw [← Ny632.out] at ho; replace HB := Aside0.mk (hb); have HO634 := Aside0.mk (ho); clear HO_5 ho hb hg hat))
        go_roundg kj2
        case measure => have := HK1.out; have := HJ2.out; omega
        case rel => exact ⟨(y632), (wrap64 (Int.tdiv (wrap64 ((wrap64 (x6_1 + (rd l0 x7_1))) + (rd l1 x7_1))) 10)), (wrap64 (x7_1 + 1)), (by first | rfl | (simp; done) | (simp [*]; done) | (simp <;> omega)), (by first | rfl | (simp; done) | (simp [*]; done) | (simp <;> omega)), H', ⟨by have := HK1.out; have := HJ2.out; omega⟩, ⟨Kd.R_up HO634.out⟩, ⟨below_up HB.out⟩⟩
       ·
        rw [if_neg c9] at H
        have c9b0 := decide_eq_false c9
        clear c9
        obtain ⟨c12, H⟩ := ite_some H
        have LMc12 := Aside0.mk c12
        clear c12
        obtain ⟨y635, hy635⟩ : ∃ y_ : List Int, y_ = (x5_1 ++ [Int.tmod (wrap64 (x6_1 + (rd l0 x7_1))) 10]) := ⟨_, rfl⟩
        replace H : (dowelref01_plus.l0 kj2 l0 l1 y635 (wrap64 (Int.tdiv (wrap64 (x6_1 + (rd l0 x7_1))) 10)) (wrap64 (x7_1 + 1))) = some r := by first | (rw [hy635]; exact H) | exact H
        have Ny635 := Aside0.mk hy635
        clear hy635
        have H' := Aside0.mk H
        clear H
        have p630 : 0 ≤ (x7_1 : Int) := of_decide_eq_true (by assumption)
        have q630 : x7_1 < (l0.length : Int) := of_decide_eq_true (by assumption)
        obtain ⟨ad630, e630, hx630_0⟩ := Kd.at_int HR0.out x7_1 p630 q630
        cases e630
        replace hx630_0 := (HB.out.cell (World.block_lt_of_cell? w _ hx630_0)).trans hx630_0
        replace p630 := eq_true p630
        replace q630 := eq_true q630
        go_wp2_with (first | ((with_reducible refine gate_builtin (b := .append) (xs := #[.tmp 46, .tmp 49]) rfl ?_); (try (refine gate_guard (by rfl) ?_; dsimp only)); at_builtin; refine Kd.R_append (Kd.int .i64) (w0 := w) w.heap.size rfl (.tmp 46) (.tmp 49) 67 3 (.int .i64 0) 8 rfl Tryd.underlying67 info3 rfl (by decide) (by omega) u5 x5_1 (Int.tmod (wrap64 (x6_1 + (rd l0 x7_1))) 10) [.int .i64 (Int.tmod (wrap64 (x6_1 + (rd l0 x7_1))) 10)] (fun _ => True) (fun _ => False) rfl rfl ?aP (fun _ hk => hk.elim) ?aF ?aO ?aB ?aS ?aL ?_; (case aP => exact rfl); (case aB => exact (below_up HB.out)); (case aF => exact (fun _ _ => trivial)); (case aO => exact (Kd.R_up HO_5.out)); (case aS => exact (below_size (below_up HB.out))); (case aL => have := LMc12.out; omega); intro v636 w13 ho hb hg hat; rw [← Ny635.out] at ho; replace HB := Aside0.mk (hb); have HO637 := Aside0.mk (ho); clear HO_5 ho hb hg hat))
        go_roundg kj2
        case measure => have := HK1.out; have := HJ2.out; omega
        case rel => exact ⟨(y635), (wrap64 (Int.tdiv (wrap64 (x6_1 + (rd l0 x7_1))) 10)), (wrap64 (x7_1 + 1)), (by first | rfl | (simp; done) | (simp [*]; done) | (simp <;> omega)), (by first | rfl | (simp; done) | (simp [*]; done) | (simp <;> omega)), H', ⟨by have := HK1.out; have := HJ2.out; omega⟩, ⟨Kd.R_up HO637.out⟩, ⟨below_up HB.out⟩⟩
      ·
       rw [if_neg c7] at H
       have c7b0 := decide_eq_false c7
       clear c7
       by_cases c14 : x7_1 < (l1.length : Int)
       ·
        rw [if_pos c14] at H
        have c14b0 := decide_eq_true c14
        clear c14
        obtain ⟨c15, H⟩ := ite_some H
        have c15b0 := decide_eq_true c15
        clear c15
        obtain ⟨c16, H⟩ := ite_some H
        have LMc16 := Aside0.mk c16
        clear c16
        obtain ⟨y639, hy639⟩ : ∃ y_ : List Int, y_ = (x5_1 ++ [Int.tmod (wrap64 (x6_1 + (rd l1 x7_1))) 10]) := ⟨_, rfl⟩
        replace H : (dowelref01_plus.l0 kj2 l0 l1 y639 (wrap64 (Int.tdiv (wrap64 (x6_1 + (rd l1 x7_1))) 10)) (wrap64 (x7_1 + 1))) = some r := by first | (rw [hy639]; exact H) | exact H
        have Ny639 := Aside0.mk hy639
        clear hy639
        have H' := Aside0.mk H
        clear H
        have p638 : 0 ≤ (x7_1 : Int) := of_decide_eq_true (by assumption)
        have q638 : x7_1 < (l1.length : Int) := of_decide_eq_true (by assumption)
        obtain ⟨ad638, e638, hx638_0⟩ := Kd.at_int HR1.out x7_1 p638 q638
        cases e638
        replace hx638_0 := (HB.out.cell (World.block_lt_of_cell? w _ hx638_0)).trans hx638_0
        replace p638 := eq_true p638
        replace q638 := eq_true q638
        go_wp2_with (first | ((with_reducible refine gate_builtin (b := .append) (xs := #[.tmp 46, .tmp 49]) rfl ?_); (try (refine gate_guard (by rfl) ?_; dsimp only)); at_builtin; refine Kd.R_append (Kd.int .i64) (w0 := w) w.heap.size rfl (.tmp 46) (.tmp 49) 67 3 (.int .i64 0) 8 rfl Tryd.underlying67 info3 rfl (by decide) (by omega) u5 x5_1 (Int.tmod (wrap64 (x6_1 + (rd l1 x7_1))) 10) [.int .i64 (Int.tmod (wrap64 (x6_1 + (rd l1 x7_1))) 10)] (fun _ => True) (fun _ => False) rfl rfl ?aP (fun _ hk => hk.elim) ?aF ?aO ?aB ?aS ?aL ?_; (case aP => exact rfl); (case aB => exact (below_up HB.out)); (case aF => exact (fun _ _ => trivial)); (case aO => exact (Kd.R_up HO_5.out)); (case aS => exact (below_size (below_up HB.out))); (case aL => have := LMc16.out; omega); intro v640 w17 ho hb hg hat; rw [← Ny639.out] at ho; replace HB := Aside0.mk (hb); have HO641 := Aside0.mk (ho); clear HO_5 ho hb hg hat))
        go_roundg kj2
        case measure => have := HK1.out; have := HJ2.out; omega
        case rel => exact ⟨(y639), (wrap64 (Int.tdiv (wrap64 (x6_1 + (rd l1 x7_1))) 10)), (wrap64 (x7_1 + 1)), (by first | rfl | (simp; done) | (simp [*]; done) | (simp <;> omega)), (by first | rfl | (simp; done) | (simp [*]; done) | (simp <;> omega)), H', ⟨by have := HK1.out; have := HJ2.out; omega⟩, ⟨Kd.R_up HO641.out⟩, ⟨below_up HB.out⟩⟩
       ·
        rw [if_neg c14] at H
        have c14b0 := decide_eq_false c14
        clear c14
        obtain ⟨c18, H⟩ := ite_some H
        have LMc18 := Aside0.mk c18
        clear c18
        obtain ⟨y642, hy642⟩ : ∃ y_ : List Int, y_ = (x5_1 ++ [Int.tmod x6_1 10]) := ⟨_, rfl⟩
        replace H : (dowelref01_plus.l0 kj2 l0 l1 y642 (wrap64 (Int.tdiv x6_1 10)) (wrap64 (x7_1 + 1))) = some r := by first | (rw [hy642]; exact H) | exact H
        have Ny642 := Aside0.mk hy642
        clear hy642
        have H' := Aside0.mk H
        clear H
        go_wp2_with (first | ((with_reducible refine gate_builtin (b := .append) (xs := #[.tmp 46, .tmp 49]) rfl ?_); (try (refine gate_guard (by rfl) ?_; dsimp only)); at_builtin; refine Kd.R_append (Kd.int .i64) (w0 := w) w.heap.size rfl (.tmp 46) (.tmp 49) 67 3 (.int .i64 0) 8 rfl Tryd.underlying67 info3 rfl (by decide) (by omega) u5 x5_1 (Int.tmod x6_1 10) [.int .i64 (Int.tmod x6_1 10)] (fun _ => True) (fun _ => False) rfl rfl ?aP (fun _ hk => hk.elim) ?aF ?aO ?aB ?aS ?aL ?_; (case aP => exact rfl); (case aB => exact (below_up HB.out)); (case aF => exact (fun _ _ => trivial)); (case aO => exact (Kd.R_up HO_5.out)); (case aS => exact (below_size (below_up HB.out))); (case aL => have := LMc18.out; omega); intro v643 w19 ho hb hg hat; rw [← Ny642.out] at ho; replace HB := Aside0.mk (hb); have HO644 := Aside0.mk (ho); clear HO_5 ho hb hg hat))
        go_roundg kj2
        case measure => have := HK1.out; have := HJ2.out; omega
        case rel => exact ⟨(y642), (wrap64 (Int.tdiv x6_1 10)), (wrap64 (x7_1 + 1)), (by first | rfl | (simp; done) | (simp [*]; done) | (simp <;> omega)), (by first | rfl | (simp; done) | (simp [*]; done) | (simp <;> omega)), H', ⟨by have := HK1.out; have := HJ2.out; omega⟩, ⟨Kd.R_up HO644.out⟩, ⟨below_up HB.out⟩⟩
     ·
      replace c6 := Bool.eq_false_iff.mpr c6
      subst c6
      have H1 : (some x5_1) = some r := by rw [if_neg (show ¬ (false = true) by decide)] at H; exact H
      clear H
      have H := H1
      clear H1
      obtain rfl := Option.some.inj H
      go_wp2
      go_ret
      exact ⟨_, by first | rfl | (simp [errW_none, errW_some] <;> rfl) | (simp [*, errW_none, errW_some] <;> rfl), Kd.R_up HO_5.out, below_up HB.out⟩
def dowelref01_Add.f (k : Nat) (a0 : ByteArray) (a1 : ByteArray) : Option (ByteArray) := (dowelref01_digits.f k a0).bind fun t645 => ((dowelref01_digits.f k a1).bind fun t648 => ((dowelref01_Sign.f a0).bind fun t651 => ((dowelref01_Sign.f a1).bind fun t652 => (if ((decide (t651 < 0)) == (decide (t652 < 0))) = true then ((dowelref01_Sign.f a0).bind fun t653 => ((dowelref01_plus.f k t645 t648).bind fun t654 => ((dowelref01_text.f k (decide (t653 < 0)) t654).bind fun t657 => (some t657)))) else ((dowelref01_order.f k t645 t648).bind fun t658 => (if t658 ≥ 0 then ((dowelref01_Sign.f a0).bind fun t659 => ((dowelref01_minus.f k t645 t648).bind fun t660 => ((dowelref01_text.f k (decide (t659 < 0)) t660).bind fun t663 => (some t663)))) else ((dowelref01_Sign.f a1).bind fun t664 => ((dowelref01_minus.f k t648 t645).bind fun t665 => ((dowelref01_text.f k (decide (t664 < 0)) t665).bind fun t668 => (some t668))))))))))
theorem dowelref01_Add.mono : ∀ a0 a1 k, LeO (dowelref01_Add.f k a0 a1) (dowelref01_Add.f (k + 1) a0 a1) := by
 intro a0 a1 k
 unfold dowelref01_Add.f
 repeat' with_reducible first | exact dowelref01_digits.mono _ _ | exact dowelref01_minus.mono _ _ _ | exact dowelref01_order.mono _ _ _ | exact dowelref01_plus.mono _ _ _ | exact dowelref01_text.mono _ _ _ | exact LeO.refl _ | exact LeO.none _ | refine LeO.ite ?_ ?_ | refine LeO.bind ?_ (fun _ => ?_)
set_option maxHeartbeats 8000000 in
set_option maxRecDepth 100000 in
theorem dowelref01_Add.calls (k : Nat) (a0 : ByteArray) (a1 : ByteArray) (r : ByteArray) (w : World) (h : dowelref01_Add.f k a0 a1 = some r) :
  Calls Tryd.prog 36 #[.string a0, .string a1] w fun e w' => e = .returned (.string r) ∧ Below w.heap.size w w' := by
 have HB := Aside0.mk (Below.refl w.heap.size w)
 have H := h
 unfold dowelref01_Add.f at H
 clear h
 replace H := Option.bind_eq_some_iff.mp H
 obtain ⟨t645, A30, H⟩ := H
 try dsimp only at H
 have A3 := Aside0.mk A30
 clear A30
 replace H := Option.bind_eq_some_iff.mp H
 obtain ⟨t648, A40, H⟩ := H
 try dsimp only at H
 have A4 := Aside0.mk A40
 clear A40
 replace H := Option.bind_eq_some_iff.mp H
 obtain ⟨t651, A50, H⟩ := H
 try dsimp only at H
 have A5 := Aside0.mk A50
 clear A50
 replace H := Option.bind_eq_some_iff.mp H
 obtain ⟨t652, A60, H⟩ := H
 try dsimp only at H
 have A6 := Aside0.mk A60
 clear A60
 by_cases c7 : ((decide (t651 < 0)) == (decide (t652 < 0))) = true
 ·
  rw [if_pos c7] at H
  have c7b0 : ((decide (t651 < 0)) == (decide (t652 < 0))) = true := c7
  (try (have c7b1 : decide ((decide (t651 < 0)) = (decide (t652 < 0))) = true := by simpa using c7))
  (try (have c7b2 : ((decide (t651 < 0)) == (decide (t652 < 0))) = true := by simpa using c7))
  clear c7
  replace H := Option.bind_eq_some_iff.mp H
  obtain ⟨t653, A80, H⟩ := H
  try dsimp only at H
  have A8 := Aside0.mk A80
  clear A80
  replace H := Option.bind_eq_some_iff.mp H
  obtain ⟨t654, A90, H⟩ := H
  try dsimp only at H
  have A9 := Aside0.mk A90
  clear A90
  replace H := Option.bind_eq_some_iff.mp H
  obtain ⟨t657, A100, H⟩ := H
  try dsimp only at H
  have A10 := Aside0.mk A100
  clear A100
  obtain rfl := Option.some.inj H
  go_enter Tryd.func36, Tryd.ntmps36
  go_wp2_with (first | ((with_reducible refine gate_callee (f := 58) rfl ?_); refine gl_ (some 8) Tryd.func58 #[.string a0] ?_; (with_reducible refine (dowelref01_digits.calls k a0 t645 _ A3.out).mono ?_); rintro e w11 ⟨v646, rfl, ho0, hb⟩; refine ⟨_, rfl, ?_⟩; have HO647 := Aside0.mk (Kd.R_lower ho0 (below_size (below_up HB.out))); replace HB := Aside0.mk (below_step (below_up HB.out) hb); (try clear hb); (try clear hb2); (try clear hk); (try clear hi); (try clear ho0)) | ((with_reducible refine gate_callee (f := 58) rfl ?_); refine gl_ (some 10) Tryd.func58 #[.string a1] ?_; (with_reducible refine (dowelref01_digits.calls k a1 t648 _ A4.out).mono ?_); rintro e w12 ⟨v649, rfl, ho0, hb⟩; refine ⟨_, rfl, ?_⟩; have HO650 := Aside0.mk (Kd.R_lower (Kd.R_new' ho0 (Kd.R_lt (Kd.R_up HO647.out))) (below_size (below_up HB.out))); replace HO647 := Aside0.mk (Kd.R_elder' (Kd.R_up HO647.out) (Kd.R_base ho0) hb); replace HB := Aside0.mk (below_step (below_up HB.out) hb); (try clear hb); (try clear hb2); (try clear hk); (try clear hi); (try clear ho0)) | ((with_reducible refine gate_callee (f := 33) rfl ?_); refine gl_ (some 12) Tryd.func33 #[.string a0] ?_; (with_reducible refine (dowelref01_Sign.calls a0 t651 _ A5.out).mono ?_); rintro e w' ⟨rfl, ⟨nd, rfl⟩⟩; refine ⟨_, rfl, ?_⟩) | ((with_reducible refine gate_callee (f := 33) rfl ?_); refine gl_ (some 15) Tryd.func33 #[.string a1] ?_; (with_reducible refine (dowelref01_Sign.calls a1 t652 _ A6.out).mono ?_); rintro e w' ⟨rfl, ⟨nd, rfl⟩⟩; refine ⟨_, rfl, ?_⟩) | ((with_reducible refine gate_callee (f := 33) rfl ?_); refine gl_ (some 19) Tryd.func33 #[.string a0] ?_; (with_reducible refine (dowelref01_Sign.calls a0 t653 _ A8.out).mono ?_); rintro e w' ⟨rfl, ⟨nd, rfl⟩⟩; refine ⟨_, rfl, ?_⟩; obtain ⟨Ao13, co13, eo13⟩ := Kd.R_slice HO647.out; subst eo13; obtain ⟨Ao14, co14, eo14⟩ := Kd.R_slice HO650.out; subst eo14) | ((with_reducible refine gate_callee (f := 65) rfl ?_); refine gl_ (some 23) Tryd.func65 #[.slice Ao13 t645.length co13, .slice Ao14 t648.length co14] ?_; (with_reducible refine (dowelref01_plus.calls k _ _ t645 _ _ t648 t654 _ ?side1 ?side2 ?side3 ?side4 A9.out).mono ?_); (case side1 => repeat (first | exact (Kd.R_reads' HO647.out).2.2 | (with_reducible refine Kd.C_alloc ?_ _) | (with_reducible refine Kd.C_drewN ?_ _) | (with_reducible refine Kd.C_drew ?_))); (case side2 => exact (Kd.R_reads' HO647.out).2.1); (case side3 => repeat (first | exact (Kd.R_reads' HO650.out).2.2 | (with_reducible refine Kd.C_alloc ?_ _) | (with_reducible refine Kd.C_drewN ?_ _) | (with_reducible refine Kd.C_drew ?_))); (case side4 => exact (Kd.R_reads' HO650.out).2.1); rintro e w15 ⟨v655, rfl, ho0, hb⟩; refine ⟨_, rfl, ?_⟩; have HO656 := Aside0.mk (Kd.R_lower (Kd.R_new' (Kd.R_new' ho0 (Kd.R_lt (Kd.R_up HO647.out))) (Kd.R_lt (Kd.R_up HO650.out))) (below_size (below_up HB.out))); replace HO647 := Aside0.mk (Kd.R_elder' (Kd.R_up HO647.out) (Kd.R_base ho0) hb); replace HO650 := Aside0.mk (Kd.R_elder' (Kd.R_up HO650.out) (Kd.R_base ho0) hb); replace HB := Aside0.mk (below_step (below_up HB.out) hb); (try clear hb); (try clear hb2); (try clear hk); (try clear hi); (try clear ho0); obtain ⟨Ao16, co16, eo16⟩ := Kd.R_slice HO656.out; subst eo16) | ((with_reducible refine gate_callee (f := 51) rfl ?_); refine gl_ (some 24) Tryd.func51 #[.bool (decide (t653 < 0)), .slice Ao16 t654.length co16] ?_; (with_reducible refine (dowelref01_text.calls k (decide (t653 < 0)) (fun k_ => some k_ = (.slice Ao16 t654.length co16 : Value).ownBlock) (.slice Ao16 t654.length co16) t654 t657 w _ ?side1 ?side2 A10.out).mono ?_); (case side1 => exact below_up HB.out); (case side2 => exact Kd.R_tight rfl HO656.out); rintro e w17 ⟨rfl, hb, hkp⟩; refine ⟨_, rfl, ?_⟩; replace HO647 := Aside0.mk (Kd.R_mono (ok' := fun k_ => some k_ ≠ (.slice Ao14 t648.length co14 : Value).ownBlock) (Kd.R_keptB (HO647.out) hkp (fun k_ hk_ hs_ => (hk_.2) hs_)) (fun k_ hk_ => hk_.1.1.2)); replace HO650 := Aside0.mk (Kd.R_mono (ok' := fun k_ => some k_ ≠ (.slice Ao13 t645.length co13 : Value).ownBlock) (Kd.R_keptB (HO650.out) hkp (fun k_ hk_ hs_ => (hk_.2) hs_)) (fun k_ hk_ => hk_.1.1.2)); replace HB := Aside0.mk (hb); clear HO656; (try clear hb); (try clear hkp)))
  go_ret
  exact ⟨by first | rfl | (simp [errW_none, errW_some] <;> rfl) | (simp [*, errW_none, errW_some] <;> rfl), below_up HB.out⟩
 ·
  rw [if_neg c7] at H
  have c7b0 : ((decide (t651 < 0)) == (decide (t652 < 0))) = false := by simpa using c7
  (try (have c7b1 : decide ((decide (t651 < 0)) = (decide (t652 < 0))) = false := by simpa using c7))
  (try (have c7b2 : ((decide (t651 < 0)) == (decide (t652 < 0))) = false := by simpa using c7))
  (try (have c7b3 : ¬ ((decide (t651 < 0)) = (decide (t652 < 0))) := by simpa using c7))
  clear c7
  replace H := Option.bind_eq_some_iff.mp H
  obtain ⟨t658, A180, H⟩ := H
  try dsimp only at H
  have A18 := Aside0.mk A180
  clear A180
  by_cases c19 : t658 ≥ 0
  ·
   rw [if_pos c19] at H
   have c19b0 := decide_eq_true c19
   clear c19
   replace H := Option.bind_eq_some_iff.mp H
   obtain ⟨t659, A200, H⟩ := H
   try dsimp only at H
   have A20 := Aside0.mk A200
   clear A200
   replace H := Option.bind_eq_some_iff.mp H
   obtain ⟨t660, A210, H⟩ := H
   try dsimp only at H
   have A21 := Aside0.mk A210
   clear A210
   replace H := Option.bind_eq_some_iff.mp H
   obtain ⟨t663, A220, H⟩ := H
   try dsimp only at H
   have A22 := Aside0.mk A220
   clear A220
   obtain rfl := Option.some.inj H
   go_enter Tryd.func36, Tryd.ntmps36
   go_wp2_with (first | ((with_reducible refine gate_callee (f := 58) rfl ?_); refine gl_ (some 8) Tryd.func58 #[.string a0] ?_; (with_reducible refine (dowelref01_digits.calls k a0 t645 _ A3.out).mono ?_); rintro e w23 ⟨v646, rfl, ho0, hb⟩; refine ⟨_, rfl, ?_⟩; have HO647 := Aside0.mk (Kd.R_lower ho0 (below_size (below_up HB.out))); replace HB := Aside0.mk (below_step (below_up HB.out) hb); (try clear hb); (try clear hb2); (try clear hk); (try clear hi); (try clear ho0)) | ((with_reducible refine gate_callee (f := 58) rfl ?_); refine gl_ (some 10) Tryd.func58 #[.string a1] ?_; (with_reducible refine (dowelref01_digits.calls k a1 t648 _ A4.out).mono ?_); rintro e w24 ⟨v649, rfl, ho0, hb⟩; refine ⟨_, rfl, ?_⟩; have HO650 := Aside0.mk (Kd.R_lower (Kd.R_new' ho0 (Kd.R_lt (Kd.R_up HO647.out))) (below_size (below_up HB.out))); replace HO647 := Aside0.mk (Kd.R_elder' (Kd.R_up HO647.out) (Kd.R_base ho0) hb); replace HB := Aside0.mk (below_step (below_up HB.out) hb); (try clear hb); (try clear hb2); (try clear hk); (try clear hi); (try clear ho0)) | ((with_reducible refine gate_callee (f := 33) rfl ?_); refine gl_ (some 12) Tryd.func33 #[.string a0] ?_; (with_reducible refine (dowelref01_Sign.calls a0 t651 _ A5.out).mono ?_); rintro e w' ⟨rfl, ⟨nd, rfl⟩⟩; refine ⟨_, rfl, ?_⟩) | ((with_reducible refine gate_callee (f := 33) rfl ?_); refine gl_ (some 15) Tryd.func33 #[.string a1] ?_; (with_reducible refine (dowelref01_Sign.calls a1 t652 _ A6.out).mono ?_); rintro e w' ⟨rfl, ⟨nd, rfl⟩⟩; refine ⟨_, rfl, ?_⟩; obtain ⟨Ao25, co25, eo25⟩ := Kd.R_slice HO647.out; subst eo25; obtain ⟨Ao26, co26, eo26⟩ := Kd.R_slice HO650.out; subst eo26) | ((with_reducible refine gate_callee (f := 61) rfl ?_); refine gl_ (some 27) Tryd.func61 #[.slice Ao25 t645.length co25, .slice Ao26 t648.length co26] ?_; (with_reducible refine (dowelref01_order.calls k _ _ t645 _ _ t648 t658 _ ?side1 ?side2 ?side3 ?side4 A18.out).mono ?_); (case side1 => repeat (first | exact (Kd.R_reads' HO647.out).2.2 | (with_reducible refine Kd.C_alloc ?_ _) | (with_reducible refine Kd.C_drewN ?_ _) | (with_reducible refine Kd.C_drew ?_))); (case side2 => exact (Kd.R_reads' HO647.out).2.1); (case side3 => repeat (first | exact (Kd.R_reads' HO650.out).2.2 | (with_reducible refine Kd.C_alloc ?_ _) | (with_reducible refine Kd.C_drewN ?_ _) | (with_reducible refine Kd.C_drew ?_))); (case side4 => exact (Kd.R_reads' HO650.out).2.1); rintro e w' ⟨rfl, ⟨nd, rfl⟩⟩; refine ⟨_, rfl, ?_⟩) | ((with_reducible refine gate_callee (f := 33) rfl ?_); refine gl_ (some 30) Tryd.func33 #[.string a0] ?_; (with_reducible refine (dowelref01_Sign.calls a0 t659 _ A20.out).mono ?_); rintro e w' ⟨rfl, ⟨nd, rfl⟩⟩; refine ⟨_, rfl, ?_⟩) | ((with_reducible refine gate_callee (f := 62) rfl ?_); refine gl_ (some 34) Tryd.func62 #[.slice Ao25 t645.length co25, .slice Ao26 t648.length co26] ?_; (with_reducible refine (dowelref01_minus.calls k _ _ t645 _ _ t648 t660 _ ?side1 ?side2 ?side3 ?side4 A21.out).mono ?_); (case side1 => repeat (first | exact (Kd.R_reads' HO647.out).2.2 | (with_reducible refine Kd.C_alloc ?_ _) | (with_reducible refine Kd.C_drewN ?_ _) | (with_reducible refine Kd.C_drew ?_))); (case side2 => exact (Kd.R_reads' HO647.out).2.1); (case side3 => repeat (first | exact (Kd.R_reads' HO650.out).2.2 | (with_reducible refine Kd.C_alloc ?_ _) | (with_reducible refine Kd.C_drewN ?_ _) | (with_reducible refine Kd.C_drew ?_))); (case side4 => exact (Kd.R_reads' HO650.out).2.1); rintro e w27 ⟨v661, rfl, ho0, hb⟩; refine ⟨_, rfl, ?_⟩; have HO662 := Aside0.mk (Kd.R_lower (Kd.R_new' (Kd.R_new' ho0 (Kd.R_lt (Kd.R_up HO647.out))) (Kd.R_lt (Kd.R_up HO650.out))) (below_size (below_up HB.out))); replace HO647 := Aside0.mk (Kd.R_elder' (Kd.R_up HO647.out) (Kd.R_base ho0) hb); replace HO650 := Aside0.mk (Kd.R_elder' (Kd.R_up HO650.out) (Kd.R_base ho0) hb); replace HB := Aside0.mk (below_step (below_up HB.out) hb); (try clear hb); (try clear hb2); (try clear hk); (try clear hi); (try clear ho0); obtain ⟨Ao28, co28, eo28⟩ := Kd.R_slice HO662.out; subst eo28) | ((with_reducible refine gate_callee (f := 51) rfl ?_); refine gl_ (some 35) Tryd.func51 #[.bool (decide (t659 < 0)), .slice Ao28 t660.length co28] ?_; (with_reducible refine (dowelref01_text.calls k (decide (t659 < 0)) (fun k_ => some k_ = (.slice Ao28 t660.length co28 : Value).ownBlock) (.slice Ao28 t660.length co28) t660 t663 w _ ?side1 ?side2 A22.out).mono ?_); (case side1 => exact below_up HB.out); (case side2 => exact Kd.R_tight rfl HO662.out); rintro e w29 ⟨rfl, hb, hkp⟩; refine ⟨_, rfl, ?_⟩; replace HO647 := Aside0.mk (Kd.R_mono (ok' := fun k_ => some k_ ≠ (.slice Ao26 t648.length co26 : Value).ownBlock) (Kd.R_keptB (HO647.out) hkp (fun k_ hk_ hs_ => (hk_.2) hs_)) (fun k_ hk_ => hk_.1.1.2)); replace HO650 := Aside0.mk (Kd.R_mono (ok' := fun k_ => some k_ ≠ (.slice Ao25 t645.length co25 : Value).ownBlock) (Kd.R_keptB (HO650.out) hkp (fun k_ hk_ hs_ => (hk_.2) hs_)) (fun k_ hk_ => hk_.1.1.2)); replace HB := Aside0.mk (hb); clear HO662; (try clear hb); (try clear hkp)))
   go_ret
   exact ⟨by first | rfl | (simp [errW_none, errW_some] <;> rfl) | (simp [*, errW_none, errW_some] <;> rfl), below_up HB.out⟩
  ·
   rw [if_neg c19] at H
   have c19b0 := decide_eq_false c19
   clear c19
   replace H := Option.bind_eq_some_iff.mp H
   obtain ⟨t664, A300, H⟩ := H
   try dsimp only at H
   have A30 := Aside0.mk A300
   clear A300
   replace H := Option.bind_eq_some_iff.mp H
   obtain ⟨t665, A310, H⟩ := H
   try dsimp only at H
   have A31 := Aside0.mk A310
   clear A310
   replace H := Option.bind_eq_some_iff.mp H
   obtain ⟨t668, A320, H⟩ := H
   try dsimp only at H
   have A32 := Aside0.mk A320
   clear A320
   obtain rfl := Option.some.inj H
   go_enter Tryd.func36, Tryd.ntmps36
   go_wp2_with (first | ((with_reducible refine gate_callee (f := 58) rfl ?_); refine gl_ (some 8) Tryd.func58 #[.string a0] ?_; (with_reducible refine (dowelref01_digits.calls k a0 t645 _ A3.out).mono ?_); rintro e w33 ⟨v646, rfl, ho0, hb⟩; refine ⟨_, rfl, ?_⟩; have HO647 := Aside0.mk (Kd.R_lower ho0 (below_size (below_up HB.out))); replace HB := Aside0.mk (below_step (below_up HB.out) hb); (try clear hb); (try clear hb2); (try clear hk); (try clear hi); (try clear ho0)) | ((with_reducible refine gate_callee (f := 58) rfl ?_); refine gl_ (some 10) Tryd.func58 #[.string a1] ?_; (with_reducible refine (dowelref01_digits.calls k a1 t648 _ A4.out).mono ?_); rintro e w34 ⟨v649, rfl, ho0, hb⟩; refine ⟨_, rfl, ?_⟩; have HO650 := Aside0.mk (Kd.R_lower (Kd.R_new' ho0 (Kd.R_lt (Kd.R_up HO647.out))) (below_size (below_up HB.out))); replace HO647 := Aside0.mk (Kd.R_elder' (Kd.R_up HO647.out) (Kd.R_base ho0) hb); replace HB := Aside0.mk (below_step (below_up HB.out) hb); (try clear hb); (try clear hb2); (try clear hk); (try clear hi); (try clear ho0)) | ((with_reducible refine gate_callee (f := 33) rfl ?_); refine gl_ (some 12) Tryd.func33 #[.string a0] ?_; (with_reducible refine (dowelref01_Sign.calls a0 t651 _ A5.out).mono ?_); rintro e w' ⟨rfl, ⟨nd, rfl⟩⟩; refine ⟨_, rfl, ?_⟩) | ((with_reducible refine gate_callee (f := 33) rfl ?_); refine gl_ (some 15) Tryd.func33 #[.string a1] ?_; (with_reducible refine (dowelref01_Sign.calls a1 t652 _ A6.out).mono ?_); rintro e w' ⟨rfl, ⟨nd, rfl⟩⟩; refine ⟨_, rfl, ?_⟩; obtain ⟨Ao35, co35, eo35⟩ := Kd.R_slice HO647.out; subst eo35; obtain ⟨Ao36, co36, eo36⟩ := Kd.R_slice HO650.out; subst eo36) | ((with_reducible refine gate_callee (f := 61) rfl ?_); refine gl_ (some 27) Tryd.func61 #[.slice Ao35 t645.length co35, .slice Ao36 t648.length co36] ?_; (with_reducible refine (dowelref01_order.calls k _ _ t645 _ _ t648 t658 _ ?side1 ?side2 ?side3 ?side4 A18.out).mono ?_); (case side1 => repeat (first | exact (Kd.R_reads' HO647.out).2.2 | (with_reducible refine Kd.C_alloc ?_ _) | (with_reducible refine Kd.C_drewN ?_ _) | (with_reducible refine Kd.C_drew ?_))); (case side2 => exact (Kd.R_reads' HO647.out).2.1); (case side3 => repeat (first | exact (Kd.R_reads' HO650.out).2.2 | (with_reducible refine Kd.C_alloc ?_ _) | (with_reducible refine Kd.C_drewN ?_ _) | (with_reducible refine Kd.C_drew ?_))); (case side4 => exact (Kd.R_reads' HO650.out).2.1); rintro e w' ⟨rfl, ⟨nd, rfl⟩⟩; refine ⟨_, rfl, ?_⟩) | ((with_reducible refine gate_callee (f := 33) rfl ?_); refine gl_ (some 37) Tryd.func33 #[.string a1] ?_; (with_reducible refine (dowelref01_Sign.calls a1 t664 _ A30.out).mono ?_); rintro e w' ⟨rfl, ⟨nd, rfl⟩⟩; refine ⟨_, rfl, ?_⟩) | ((with_reducible refine gate_callee (f := 62) rfl ?_); refine gl_ (some 41) Tryd.func62 #[.slice Ao36 t648.length co36, .slice Ao35 t645.length co35] ?_; (with_reducible refine (dowelref01_minus.calls k _ _ t648 _ _ t645 t665 _ ?side1 ?side2 ?side3 ?side4 A31.out).mono ?_); (case side1 => repeat (first | exact (Kd.R_reads' HO650.out).2.2 | (with_reducible refine Kd.C_alloc ?_ _) | (with_reducible refine Kd.C_drewN ?_ _) | (with_reducible refine Kd.C_drew ?_))); (case side2 => exact (Kd.R_reads' HO650.out).2.1); (case side3 => repeat (first | exact (Kd.R_reads' HO647.out).2.2 | (with_reducible refine Kd.C_alloc ?_ _) | (with_reducible refine Kd.C_drewN ?_ _) | (with_reducible refine Kd.C_drew ?_))); (case side4 => exact (Kd.R_reads' HO647.out).2.1); rintro e w37 ⟨v666, rfl, ho0, hb⟩; refine ⟨_, rfl, ?_⟩; have n2_ := Aside0.mk (Kd.R_lower (Kd.R_new' (Kd.R_new' ho0 (Kd.R_lt (Kd.R_up HO647.out))) (Kd.R_lt (Kd.R_up HO650.out))) (below_size (below_up HB.out))); have n3_ := Aside0.mk (below_step (below_up HB.out) hb); (try clear HO647); (try clear HO650); clear HB; have HO667 := n2_; have HB := n3_; clear n2_ n3_; (try clear hb); (try clear hb2); (try clear hk); (try clear hi); (try clear ho0); obtain ⟨Ao38, co38, eo38⟩ := Kd.R_slice HO667.out; subst eo38) | ((with_reducible refine gate_callee (f := 51) rfl ?_); refine gl_ (some 42) Tryd.func51 #[.bool (decide (t664 < 0)), .slice Ao38 t665.length co38] ?_; (with_reducible refine (dowelref01_text.calls k (decide (t664 < 0)) (fun k_ => some k_ = (.slice Ao38 t665.length co38 : Value).ownBlock) (.slice Ao38 t665.length co38) t665 t668 w _ ?side1 ?side2 A32.out).mono ?_); (case side1 => exact below_up HB.out); (case side2 => exact Kd.R_tight rfl HO667.out); rintro e w39 ⟨rfl, hb, hkp⟩; refine ⟨_, rfl, ?_⟩; have n2_ := Aside0.mk (hb); clear HB HO667; have HB := n2_; clear n2_; (try clear hb); (try clear hkp)))
   go_ret
   exact ⟨by first | rfl | (simp [errW_none, errW_some] <;> rfl) | (simp [*, errW_none, errW_some] <;> rfl), below_up HB.out⟩
def dowelref01_Neg.f (k : Nat) (a0 : ByteArray) : Option (ByteArray) := (dowelref01_Sign.f a0).bind fun t669 => ((dowelref01_digits.f k a0).bind fun t670 => ((dowelref01_text.f k (decide (t669 > 0)) t670).bind fun t673 => (some t673)))
theorem dowelref01_Neg.mono : ∀ a0 k, LeO (dowelref01_Neg.f k a0) (dowelref01_Neg.f (k + 1) a0) := by
 intro a0 k
 unfold dowelref01_Neg.f
 repeat' with_reducible first | exact dowelref01_digits.mono _ _ | exact dowelref01_text.mono _ _ _ | exact LeO.refl _ | exact LeO.none _ | refine LeO.ite ?_ ?_ | refine LeO.bind ?_ (fun _ => ?_)
set_option maxHeartbeats 8000000 in
set_option maxRecDepth 100000 in
theorem dowelref01_Neg.calls (k : Nat) (a0 : ByteArray) (r : ByteArray) (w : World) (h : dowelref01_Neg.f k a0 = some r) :
  Calls Tryd.prog 34 #[.string a0] w fun e w' => e = .returned (.string r) ∧ Below w.heap.size w w' := by
 have HB := Aside0.mk (Below.refl w.heap.size w)
 have H := h
 unfold dowelref01_Neg.f at H
 clear h
 replace H := Option.bind_eq_some_iff.mp H
 obtain ⟨t669, A20, H⟩ := H
 try dsimp only at H
 have A2 := Aside0.mk A20
 clear A20
 replace H := Option.bind_eq_some_iff.mp H
 obtain ⟨t670, A30, H⟩ := H
 try dsimp only at H
 have A3 := Aside0.mk A30
 clear A30
 replace H := Option.bind_eq_some_iff.mp H
 obtain ⟨t673, A40, H⟩ := H
 try dsimp only at H
 have A4 := Aside0.mk A40
 clear A40
 obtain rfl := Option.some.inj H
 go_enter Tryd.func34, Tryd.ntmps34
 go_wp2_with (first | ((with_reducible refine gate_callee (f := 33) rfl ?_); refine gl_ (some 4) Tryd.func33 #[.string a0] ?_; (with_reducible refine (dowelref01_Sign.calls a0 t669 _ A2.out).mono ?_); rintro e w' ⟨rfl, ⟨nd, rfl⟩⟩; refine ⟨_, rfl, ?_⟩) | ((with_reducible refine gate_callee (f := 58) rfl ?_); refine gl_ (some 7) Tryd.func58 #[.string a0] ?_; (with_reducible refine (dowelref01_digits.calls k a0 t670 _ A3.out).mono ?_); rintro e w5 ⟨v671, rfl, ho0, hb⟩; refine ⟨_, rfl, ?_⟩; have HO672 := Aside0.mk (Kd.R_lower ho0 (below_size (below_up HB.out))); replace HB := Aside0.mk (below_step (below_up HB.out) hb); (try clear hb); (try clear hb2); (try clear hk); (try clear hi); (try clear ho0); obtain ⟨Ao6, co6, eo6⟩ := Kd.R_slice HO672.out; subst eo6) | ((with_reducible refine gate_callee (f := 51) rfl ?_); refine gl_ (some 8) Tryd.func51 #[.bool (decide (t669 > 0)), .slice Ao6 t670.length co6] ?_; (with_reducible refine (dowelref01_text.calls k (decide (t669 > 0)) (fun k_ => some k_ = (.slice Ao6 t670.length co6 : Value).ownBlock) (.slice Ao6 t670.length co6) t670 t673 w _ ?side1 ?side2 A4.out).mono ?_); (case side1 => exact below_up HB.out); (case side2 => exact Kd.R_tight rfl HO672.out); rintro e w7 ⟨rfl, hb, hkp⟩; refine ⟨_, rfl, ?_⟩; replace HB := Aside0.mk (hb); clear HO672; (try clear hb); (try clear hkp)))
 go_ret
 exact ⟨by first | rfl | (simp [errW_none, errW_some] <;> rfl) | (simp [*, errW_none, errW_some] <;> rfl), below_up HB.out⟩
def dowelref01_Sub.f (k : Nat) (a0 : ByteArray) (a1 : ByteArray) : Option (ByteArray) := (dowelref01_Neg.f k a1).bind fun t674 => ((dowelref01_Add.f k a0 t674).bind fun t675 => (some t675))
theorem dowelref01_Sub.mono : ∀ a0 a1 k, LeO (dowelref01_Sub.f k a0 a1) (dowelref01_Sub.f (k + 1) a0 a1) := by
 intro a0 a1 k
 unfold dowelref01_Sub.f
 repeat' with_reducible first | exact dowelref01_Add.mono _ _ _ | exact dowelref01_Neg.mono _ _ | exact LeO.refl _ | exact LeO.none _ | refine LeO.ite ?_ ?_ | refine LeO.bind ?_ (fun _ => ?_)
set_option maxHeartbeats 8000000 in
set_option maxRecDepth 100000 in
theorem dowelref01_Sub.calls (k : Nat) (a0 : ByteArray) (a1 : ByteArray) (r : ByteArray) (w : World) (h : dowelref01_Sub.f k a0 a1 = some r) :
  Calls Tryd.prog 38 #[.string a0, .string a1] w fun e w' => e = .returned (.string r) ∧ Below w.heap.size w w' := by
 have HB := Aside0.mk (Below.refl w.heap.size w)
 have H := h
 unfold dowelref01_Sub.f at H
 clear h
 replace H := Option.bind_eq_some_iff.mp H
 obtain ⟨t674, A30, H⟩ := H
 try dsimp only at H
 have A3 := Aside0.mk A30
 clear A30
 replace H := Option.bind_eq_some_iff.mp H
 obtain ⟨t675, A40, H⟩ := H
 try dsimp only at H
 have A4 := Aside0.mk A40
 clear A40
 obtain rfl := Option.some.inj H
 go_enter Tryd.func38, Tryd.ntmps38
 go_wp2_with (first | ((with_reducible refine gate_callee (f := 34) rfl ?_); refine gl_ (some 7) Tryd.func34 #[.string a1] ?_; (with_reducible refine (dowelref01_Neg.calls k a1 t674 _ A3.out).mono ?_); rintro e w5 ⟨rfl, hb⟩; refine ⟨_, rfl, ?_⟩; replace HB := Aside0.mk (below_step (below_up HB.out) hb); (try clear hb); (try clear hb2); (try clear hk); (try clear hi)) | ((with_reducible refine gate_callee (f := 36) rfl ?_); refine gl_ (some 8) Tryd.func36 #[.string a0, .string t674] ?_; (with_reducible refine (dowelref01_Add.calls k a0 t674 t675 _ A4.out).mono ?_); rintro e w6 ⟨rfl, hb⟩; refine ⟨_, rfl, ?_⟩; replace HB := Aside0.mk (below_step (below_up HB.out) hb); (try clear hb); (try clear hb2); (try clear hk); (try clear hi)))
 go_ret
 exact ⟨by first | rfl | (simp [errW_none, errW_some] <;> rfl) | (simp [*, errW_none, errW_some] <;> rfl), below_up HB.out⟩
mutual
def dowelref01_DivMod.l0 : Nat → ByteArray → ByteArray → List Int → List Int → List Int → List Int → Int → Option (ByteArray × ByteArray)
 | 0, _, _, _, _, _, _, _ => none
 | k + 1, x0, x1, x6, x7, x8, x9, x10 => if x10 ≥ 0 then (if 0 ≤ x10 then (if x10 < (x6.length : Int) then ((some (([rd x6 x10] : List Int) : List Int)).bind fun y686 => (if y686.length + x8.length < 17592186044416 then ((dowelref01_trim.f k (y686 ++ x8)).bind fun t692 => (dowelref01_DivMod.l1 k x0 x1 x6 x7 t692 x9 x10)) else (none))) else (none)) else (none)) else ((dowelref01_Sign.f x0).bind fun t701 => ((dowelref01_Sign.f x1).bind fun t702 => ((dowelref01_text.f k (decide ((wrap64 (t701 * t702)) < 0)) x9).bind fun t703 => ((dowelref01_Sign.f x0).bind fun t704 => ((dowelref01_text.f k (decide (t704 < 0)) x8).bind fun t705 => (if t705.toList = ([48] : List UInt8) then (dowelref01_DivMod.j2 k x1 t703 t705 false) else ((dowelref01_Sign.f t705).bind fun t706 => ((dowelref01_Sign.f x1).bind fun t707 => (dowelref01_DivMod.j2 k x1 t703 t705 (t706 != t707))))))))))
def dowelref01_DivMod.l1 : Nat → ByteArray → ByteArray → List Int → List Int → List Int → List Int → Int → Option (ByteArray × ByteArray)
 | 0, _, _, _, _, _, _, _ => none
 | k + 1, x0, x1, x6, x7, x8, x9, x10 => (dowelref01_order.f k x8 x7).bind fun t695 => (if t695 ≥ 0 then ((dowelref01_minus.f k x8 x7).bind fun t696 => (if 0 ≤ x10 then (if x10 < (x9.length : Int) then (dowelref01_DivMod.l1 k x0 x1 x6 x7 t696 (x9.set (x10 : Int).toNat (wrap64 ((rd x9 x10) + 1))) x10) else (none)) else (none))) else (dowelref01_DivMod.l0 k x0 x1 x6 x7 x8 x9 (wrap64 (x10 - 1))))
def dowelref01_DivMod.j2 : Nat → ByteArray → ByteArray → ByteArray → Bool → Option (ByteArray × ByteArray)
 | 0, _, _, _, _ => none
 | k + 1, x1, x4, x5, x67 => if x67 = true then ((dowelref01_Sub.f k x4 (⟨#[49]⟩ : ByteArray)).bind fun t708 => ((dowelref01_Add.f k x5 x1).bind fun t709 => (some (t708, t709)))) else (some (x4, x5))
end
def dowelref01_DivMod.f (k : Nat) (a0 : ByteArray) (a1 : ByteArray) : Option (ByteArray × ByteArray) := (dowelref01_digits.f k a0).bind fun t676 => ((dowelref01_digits.f k a1).bind fun t679 => (if 0 ≤ (t676.length : Int) then (if ((t676.length : Int) : Int).toNat ≤ 35184372088832 then (dowelref01_DivMod.l0 k a0 a1 t676 t679 ([] : List Int) (List.replicate ((t676.length : Int) : Int).toNat 0) (wrap64 ((t676.length : Int) - 1))) else (none)) else (none)))
theorem dowelref01_DivMod.mono_l : ∀ k, (∀ y0 y1 y2 y3 y4 y5 y6, LeO (dowelref01_DivMod.l0 k y0 y1 y2 y3 y4 y5 y6) (dowelref01_DivMod.l0 (k + 1) y0 y1 y2 y3 y4 y5 y6)) ∧ (∀ y0 y1 y2 y3 y4 y5 y6, LeO (dowelref01_DivMod.l1 k y0 y1 y2 y3 y4 y5 y6) (dowelref01_DivMod.l1 (k + 1) y0 y1 y2 y3 y4 y5 y6)) ∧ (∀ y0 y1 y2 y3, LeO (dowelref01_DivMod.j2 k y0 y1 y2 y3) (dowelref01_DivMod.j2 (k + 1) y0 y1 y2 y3))
 | 0 => ⟨fun _ _ _ _ _ _ _ r h => by simp [dowelref01_DivMod.l0] at h, fun _ _ _ _ _ _ _ r h => by simp [dowelref01_DivMod.l1] at h, fun _ _ _ _ r h => by simp [dowelref01_DivMod.j2] at h⟩
 | k + 1 => by
  obtain ⟨ih0, ih1, ih2⟩ := dowelref01_DivMod.mono_l k
  refine ⟨?_, ?_, ?_⟩
  ·
   intro y0 y1 y2 y3 y4 y5 y6
   unfold dowelref01_DivMod.l0
   repeat' with_reducible first | exact ih0 _ _ _ _ _ _ _ | exact ih1 _ _ _ _ _ _ _ | exact ih2 _ _ _ _ | exact dowelref01_Add.mono _ _ _ | exact dowelref01_Sub.mono _ _ _ | exact dowelref01_digits.mono _ _ | exact dowelref01_minus.mono _ _ _ | exact dowelref01_order.mono _ _ _ | exact dowelref01_text.mono _ _ _ | exact dowelref01_trim.mono _ _ | exact LeO.refl _ | exact LeO.none _ | refine LeO.ite ?_ ?_ | refine LeO.bind ?_ (fun _ => ?_)
  ·
   intro y0 y1 y2 y3 y4 y5 y6
   unfold dowelref01_DivMod.l1
   repeat' with_reducible first | exact ih0 _ _ _ _ _ _ _ | exact ih1 _ _ _ _ _ _ _ | exact ih2 _ _ _ _ | exact dowelref01_Add.mono _ _ _ | exact dowelref01_Sub.mono _ _ _ | exact dowelref01_digits.mono _ _ | exact dowelref01_minus.mono _ _ _ | exact dowelref01_order.mono _ _ _ | exact dowelref01_text.mono _ _ _ | exact dowelref01_trim.mono _ _ | exact LeO.refl _ | exact LeO.none _ | refine LeO.ite ?_ ?_ | refine LeO.bind ?_ (fun _ => ?_)
  ·
   intro y0 y1 y2 y3
   unfold dowelref01_DivMod.j2
   repeat' with_reducible first | exact ih0 _ _ _ _ _ _ _ | exact ih1 _ _ _ _ _ _ _ | exact ih2 _ _ _ _ | exact dowelref01_Add.mono _ _ _ | exact dowelref01_Sub.mono _ _ _ | exact dowelref01_digits.mono _ _ | exact dowelref01_minus.mono _ _ _ | exact dowelref01_order.mono _ _ _ | exact dowelref01_text.mono _ _ _ | exact dowelref01_trim.mono _ _ | exact LeO.refl _ | exact LeO.none _ | refine LeO.ite ?_ ?_ | refine LeO.bind ?_ (fun _ => ?_)
theorem dowelref01_DivMod.mono : ∀ a0 a1 k, LeO (dowelref01_DivMod.f k a0 a1) (dowelref01_DivMod.f (k + 1) a0 a1) := by
 intro a0 a1 k
 obtain ⟨ih0, ih1, ih2⟩ := dowelref01_DivMod.mono_l k
 unfold dowelref01_DivMod.f
 repeat' with_reducible first | exact ih0 _ _ _ _ _ _ _ | exact ih1 _ _ _ _ _ _ _ | exact ih2 _ _ _ _ | exact dowelref01_Add.mono _ _ _ | exact dowelref01_Sub.mono _ _ _ | exact dowelref01_digits.mono _ _ | exact dowelref01_minus.mono _ _ _ | exact dowelref01_order.mono _ _ _ | exact dowelref01_text.mono _ _ _ | exact dowelref01_trim.mono _ _ | exact LeO.refl _ | exact LeO.none _ | refine LeO.ite ?_ ?_ | refine LeO.bind ?_ (fun _ => ?_)
set_option maxHeartbeats 8000000 in
set_option maxRecDepth 100000 in
theorem dowelref01_DivMod.calls (k : Nat) (a0 : ByteArray) (a1 : ByteArray) (r1 : ByteArray) (r2 : ByteArray) (w : World) (h : dowelref01_DivMod.f k a0 a1 = some (r1, r2)) :
  Calls Tryd.prog 28 #[.string a0, .string a1] w fun e w' => e = .returned (.tuple #[.string r1, .string r2]) ∧ Below w.heap.size w w' := by
 have HB := Aside0.mk (Below.refl w.heap.size w)
 have H := h
 unfold dowelref01_DivMod.f at H
 clear h
 replace H := Option.bind_eq_some_iff.mp H
 obtain ⟨t676, A30, H⟩ := H
 try dsimp only at H
 have A3 := Aside0.mk A30
 clear A30
 replace H := Option.bind_eq_some_iff.mp H
 obtain ⟨t679, A40, H⟩ := H
 try dsimp only at H
 have A4 := Aside0.mk A40
 clear A40
 by_cases c5 : 0 ≤ (t676.length : Int)
 ·
  rw [if_pos c5] at H
  have c5b0 := eq_true c5
  have c5b1 := decide_eq_true c5
  clear c5
  obtain ⟨c6, H⟩ := ite_some H
  have c6b0 := eq_true c6
  have c6b1 := decide_eq_true c6
  clear c6
  obtain ⟨y682, hy682⟩ : ∃ y_ : List Int, y_ = (List.replicate ((t676.length : Int) : Int).toNat 0) := ⟨_, rfl⟩
  replace H : (dowelref01_DivMod.l0 k a0 a1 t676 t679 ([] : List Int) y682 (wrap64 ((t676.length : Int) - 1))) = some (r1, r2) := by first | (rw [hy682]; exact H) | exact H
  have Ny682 := Aside0.mk hy682
  clear hy682
  have H' := Aside0.mk H
  clear H
  go_enter Tryd.func28, Tryd.ntmps28
  go_wp2_with (first | ((with_reducible refine gate_callee (f := 58) rfl ?_); refine gl_ (some 12) Tryd.func58 #[.string a0] ?_; (with_reducible refine (dowelref01_digits.calls k a0 t676 _ A3.out).mono ?_); rintro e w7 ⟨v677, rfl, ho0, hb⟩; refine ⟨_, rfl, ?_⟩; have HO678 := Aside0.mk (Kd.R_lower ho0 (below_size (below_up HB.out))); replace HB := Aside0.mk (below_step (below_up HB.out) hb); (try clear hb); (try clear hb2); (try clear hk); (try clear hi); (try clear ho0)) | ((with_reducible refine gate_callee (f := 58) rfl ?_); refine gl_ (some 14) Tryd.func58 #[.string a1] ?_; (with_reducible refine (dowelref01_digits.calls k a1 t679 _ A4.out).mono ?_); rintro e w8 ⟨v680, rfl, ho0, hb⟩; refine ⟨_, rfl, ?_⟩; have HO681 := Aside0.mk (Kd.R_lower (Kd.R_new' ho0 (Kd.R_lt (Kd.R_up HO678.out))) (below_size (below_up HB.out))); replace HO678 := Aside0.mk (Kd.R_elder' (Kd.R_up HO678.out) (Kd.R_base ho0) hb); replace HB := Aside0.mk (below_step (below_up HB.out) hb); (try clear hb); (try clear hb2); (try clear hk); (try clear hi); (try clear ho0); obtain ⟨Ao9, co9, eo9⟩ := Kd.R_slice HO678.out; subst eo9) | ((with_reducible refine gate_dst (N := 17) rfl ?_); refine Kd.R_make (Kd.int .i64) _ 3 rfl (N := 17) rfl 67 _ _ rfl (t676.length : Int) rfl rfl Tryd.underlying67 (.int .i64 0) 8 info3 rfl (by decide) (by omega) 0 (ok := fun _ => True) (okp := fun _ => True) rfl (fun _ hk => hk) trivial (of_decide_eq_true (by assumption)) (Nat.le_trans (Nat.mul_le_mul_right _ (of_decide_eq_true (by assumption) : (t676.length : Int).toNat ≤ 35184372088832)) (by omega)) (Below.refl _ _) (Nat.le_refl _) ?_; intro v683 w10 ho11 hb hg_ hnew_; clear hg_ hnew_; (first | rw [← Ny682.out] at ho11 | (simp only [Int.reduceToNat] at ho11; rw [← Ny682.out] at ho11)); have HO684 := Aside0.mk (Kd.R_lower (Kd.R_new' (Kd.R_new' ho11 (Kd.R_lt (Kd.R_up HO678.out))) (Kd.R_lt (Kd.R_up HO681.out))) (below_size (below_up HB.out))); replace HO678 := Aside0.mk (Kd.R_elder' (Kd.R_up HO678.out) (Kd.R_base ho11) hb); replace HO681 := Aside0.mk (Kd.R_elder' (Kd.R_up HO681.out) (Kd.R_base ho11) hb); replace HB := Aside0.mk (below_step (below_up HB.out) hb); clear hb ho11))
  go_loopg [8, 10] k (fun kq v8 v10 w' => ∃ (x8_1 : List Int) (x9_1 : List Int) (x10_1 : Int), v10 = .int .i64 x10_1 ∧ Aside0 (dowelref01_DivMod.l0 kq a0 a1 t676 t679 x8_1 x9_1 x10_1 = some (r1, r2)) ∧ Aside0 (kq ≤ k) ∧ Aside0 (Kd.R (Kd.int .i64) 3 w' w.heap.size (fun k_ => some k_ ≠ (v680 : Value).ownBlock ∧ some k_ ≠ (v8 : Value).ownBlock ∧ some k_ ≠ (v683 : Value).ownBlock) (.slice Ao9 t676.length co9) t676) ∧ Aside0 (Kd.R (Kd.int .i64) 3 w' w.heap.size (fun k_ => some k_ ≠ ((.slice Ao9 t676.length co9) : Value).ownBlock ∧ some k_ ≠ (v8 : Value).ownBlock ∧ some k_ ≠ (v683 : Value).ownBlock) v680 t679) ∧ Aside0 (Kd.R (Kd.int .i64) 3 w' w.heap.size (fun k_ => some k_ ≠ ((.slice Ao9 t676.length co9) : Value).ownBlock ∧ some k_ ≠ (v680 : Value).ownBlock ∧ some k_ ≠ (v683 : Value).ownBlock) v8 x8_1) ∧ Aside0 (Kd.R (Kd.int .i64) 3 w' w.heap.size (fun k_ => some k_ ≠ ((.slice Ao9 t676.length co9) : Value).ownBlock ∧ some k_ ≠ (v680 : Value).ownBlock ∧ some k_ ≠ (v8 : Value).ownBlock) v683 x9_1) ∧ Aside0 (Below w.heap.size w w'))
  case atStart => exact ⟨(([] : List Int)), (y682), (wrap64 ((t676.length : Int) - 1)), (by first | rfl | (simp; done) | (simp [*]; done) | (simp <;> omega)), H', ⟨Nat.le_refl _⟩, ⟨Kd.R_up (Kd.R_mono HO678.out (fun _ hk => ⟨hk.1.2, ⟨(by simp [Value.ownBlock]), hk.2⟩⟩))⟩, ⟨Kd.R_up (Kd.R_mono HO681.out (fun _ hk => ⟨hk.1.2, ⟨(by simp [Value.ownBlock]), hk.2⟩⟩))⟩, ⟨by first | exact Kd.R_nil _ _ _ _ _ | exact Kd.N_nil _ _ _ _ _ | exact Kd.V_nil _ _ _ _ _ | exact Kd.Q_nil _ _ _ _ _ | exact Kd.S_nil _ _ _ _ _⟩, ⟨Kd.R_up (Kd.R_mono HO684.out (fun _ hk => ⟨hk.1.2, ⟨hk.2, (by simp [Value.ownBlock])⟩⟩))⟩, ⟨below_up HB.out⟩⟩
  case round =>
   clear H'
   obtain ⟨x8_1, x9_1, x10_1, rfl, HA, HK1, HO_6, HO_7, HO_8, HO_9, HB⟩ := hrel
   cases gk with
   | zero => exact absurd HA.out (by simp [dowelref01_DivMod.l0])
   | succ k1 =>
    have H := HA.out
    clear HA
    simp only [dowelref01_DivMod.l0] at H
    by_cases c12 : x10_1 ≥ 0
    ·
     rw [if_pos c12] at H
     have c12b0 := decide_eq_true c12
     clear c12
     obtain ⟨c13, H⟩ := ite_some H
     have c13b0 := decide_eq_true c13
     clear c13
     obtain ⟨c14, H⟩ := ite_some H
     have c14b0 := decide_eq_true c14
     clear c14
     obtain ⟨y686, hy686⟩ : ∃ y_ : List Int, y_ = (([rd t676 x10_1] : List Int)) := ⟨_, rfl⟩
     replace H : (if y686.length + x8_1.length < 17592186044416 then ((dowelref01_trim.f k1 (y686 ++ x8_1)).bind fun t692 => (dowelref01_DivMod.l1 k1 a0 a1 t676 t679 t692 x9_1 x10_1)) else (none)) = some (r1, r2) := by first | (rw [hy686]; exact H) | exact H
     have Ny686 := Aside0.mk hy686
     clear hy686
     obtain ⟨c15, H⟩ := ite_some H
     have LMc15 := Aside0.mk c15
     clear c15
     obtain ⟨y689, hy689⟩ : ∃ y_ : List Int, y_ = (y686 ++ x8_1) := ⟨_, rfl⟩
     replace H : ((dowelref01_trim.f k1 y689).bind fun t692 => (dowelref01_DivMod.l1 k1 a0 a1 t676 t679 t692 x9_1 x10_1)) = some (r1, r2) := by first | (rw [hy689]; exact H) | exact H
     have Ny689 := Aside0.mk hy689
     clear hy689
     replace H := Option.bind_eq_some_iff.mp H
     obtain ⟨t692, A160, H⟩ := H
     try dsimp only at H
     have A16 := Aside0.mk A160
     clear A160
     have H' := Aside0.mk H
     clear H
     have p685 : 0 ≤ (x10_1 : Int) := of_decide_eq_true (by assumption)
     have q685 : x10_1 < (t676.length : Int) := of_decide_eq_true (by assumption)
     obtain ⟨ad685, e685, hx685_0⟩ := Kd.at_int (Kd.R_reads' HO_6.out).2.2 x10_1 p685 q685
     cases e685
     replace p685 := eq_true p685
     replace q685 := eq_true q685
     go_wp2_with (first | ((with_reducible refine gate_dst (N := 29) rfl ?_); refine Kd.R_lit (Kd.int .i64) _ 3 ?hg (N := 29) ?hd (xs := ([rd t676 x10_1] : List Int)) (inner := [.int .i64 (rd t676 x10_1)]) (ok := fun _ => True) (okp := fun _ => True) ?hr ?hp (fun _ hk => hk) trivial (Below.refl _ _) (Nat.le_refl _) (by simp) ?_; (case hd => rfl); (case hg => rfl); (case hr => first | (go_simp; done) | (go_simp; rfl)); (case hp => exact (Reps.one (show Kd.M (Kd.int .i64) _ _ _ (rd t676 x10_1) [.int .i64 (rd t676 x10_1)] from rfl) (Reps.none _ _))); intro v687 w17 ho18 hb hg_ hnew_; clear hg_ hnew_; (first | rw [← Ny686.out] at ho18 | (simp only [Int.reduceToNat] at ho18; rw [← Ny686.out] at ho18)); have HO688 := Aside0.mk (Kd.R_lower (Kd.R_new' (Kd.R_new' (Kd.R_new' (Kd.R_new' ho18 (Kd.R_lt (Kd.R_up HO_6.out))) (Kd.R_lt (Kd.R_up HO_7.out))) (Kd.R_lt (Kd.R_up HO_8.out))) (Kd.R_lt (Kd.R_up HO_9.out))) (below_size (below_up HB.out))); replace HO_6 := Aside0.mk (Kd.R_elder' (Kd.R_up HO_6.out) (Kd.R_base ho18) hb); replace HO_7 := Aside0.mk (Kd.R_elder' (Kd.R_up HO_7.out) (Kd.R_base ho18) hb); replace HO_8 := Aside0.mk (Kd.R_elder' (Kd.R_up HO_8.out) (Kd.R_base ho18) hb); replace HO_9 := Aside0.mk (Kd.R_elder' (Kd.R_up HO_9.out) (Kd.R_base ho18) hb); replace HB := Aside0.mk (below_step (below_up HB.out) hb); clear hb ho18; obtain ⟨Ao20, co20, eo20⟩ := Kd.R_slice HO_8.out; subst eo20) | ((with_reducible refine gate_builtin (b := .append) (xs := #[.tmp 29, .tmp 30]) rfl ?_); at_builtin; refine Kd.R_append_rows (Kd.int .i64) (w0 := w) w.heap.size rfl (.tmp 29) (.tmp 30) 67 3 (.int .i64 0) 8 rfl Tryd.underlying67 info3 rfl (by decide) (by omega) v687 y686 x8_1 _ _ _ (fun k_ => some k_ ≠ (.slice (some ad685) t676.length co9 : Value).ownBlock ∧ some k_ ≠ (v680 : Value).ownBlock ∧ some k_ ≠ (.slice Ao20 x8_1.length co20 : Value).ownBlock ∧ some k_ ≠ (v683 : Value).ownBlock) (fun _ => False) rfl rfl ?aO ?aR (fun _ _ h => h) (fun _ h => h.elim) ?aF ?aB ?aS ?aL ?_; (case aR => repeat (first | exact (Kd.R_reads' HO_8.out).2.2 | (with_reducible refine Kd.C_alloc ?_ _) | (with_reducible refine Kd.C_drewN ?_ _) | (with_reducible refine Kd.C_drew ?_))); (case aB => exact (below_up HB.out)); (case aF => exact (fun k_ hk => ⟨Kd.fresh' (Kd.R_lt (Kd.R_up HO_6.out)) k_ hk, Kd.fresh' (Kd.R_lt (Kd.R_up HO_7.out)) k_ hk, Kd.fresh' (Kd.R_lt (Kd.R_up HO_8.out)) k_ hk, Kd.fresh' (Kd.R_lt (Kd.R_up HO_9.out)) k_ hk⟩)); (case aO => exact (Kd.R_up (Kd.R_mono HO688.out (fun _ hk => ⟨hk.1.1.1.2, ⟨hk.1.1.2, ⟨hk.1.2, hk.2⟩⟩⟩)))); (case aS => exact (below_size (below_up HB.out))); (case aL => have := LMc15.out; omega); intro v690 w19 ho hb hg hat; rw [← Ny689.out] at ho; replace HO_6 := Aside0.mk (Kd.R_after (ok := (fun k_ => some k_ ≠ (v680 : Value).ownBlock ∧ some k_ ≠ (.slice Ao20 x8_1.length co20 : Value).ownBlock ∧ some k_ ≠ (v683 : Value).ownBlock)) (Kd.R_up HO_6.out) hg hat); replace HO_7 := Aside0.mk (Kd.R_after (ok := (fun k_ => some k_ ≠ (.slice (some ad685) t676.length co9 : Value).ownBlock ∧ some k_ ≠ (.slice Ao20 x8_1.length co20 : Value).ownBlock ∧ some k_ ≠ (v683 : Value).ownBlock)) (Kd.R_up HO_7.out) hg hat); replace HO_8 := Aside0.mk (Kd.R_after (ok := (fun k_ => some k_ ≠ (.slice (some ad685) t676.length co9 : Value).ownBlock ∧ some k_ ≠ (v680 : Value).ownBlock ∧ some k_ ≠ (v683 : Value).ownBlock)) (Kd.R_up HO_8.out) hg hat); replace HO_9 := Aside0.mk (Kd.R_after (ok := (fun k_ => some k_ ≠ (.slice (some ad685) t676.length co9 : Value).ownBlock ∧ some k_ ≠ (v680 : Value).ownBlock ∧ some k_ ≠ (.slice Ao20 x8_1.length co20 : Value).ownBlock)) (Kd.R_up HO_9.out) hg hat); replace HB := Aside0.mk (hb); have HO691 := Aside0.mk (ho); clear HO688 ho hb hg hat; obtain ⟨Ao21, co21, eo21⟩ := Kd.R_slice HO691.out; subst eo21) | ((with_reducible refine gate_callee (f := 60) rfl ?_); refine gl_ (some 32) Tryd.func60 #[.slice Ao21 y689.length co21] ?_; (with_reducible refine (dowelref01_trim.calls k1 (fun k_ => some k_ = (.slice Ao21 y689.length co21 : Value).ownBlock) (.slice Ao21 y689.length co21) y689 t692 w _ ?side1 ?side2 A16.out).mono ?_); (case side1 => exact below_up HB.out); (case side2 => exact Kd.R_tight rfl HO691.out); rintro e w22 ⟨v693, rfl, ho0, hb, hkp⟩; refine ⟨_, rfl, ?_⟩; have HO694 := Aside0.mk (Kd.R_mono (ok' := fun k_ => some k_ ≠ (.slice (some ad685) t676.length co9 : Value).ownBlock ∧ some k_ ≠ (v680 : Value).ownBlock ∧ some k_ ≠ (.slice Ao20 x8_1.length co20 : Value).ownBlock ∧ some k_ ≠ (v683 : Value).ownBlock) ho0 (fun k_ hk_ => ⟨Or.elim hk_ (fun hs_ => fun e_ => (((HO_6.out).1 k_ e_.symm).2) hs_) (fun hn_ => (Kd.fresh' (Kd.R_lt (Kd.R_up HO_6.out)) k_ hn_)), Or.elim hk_ (fun hs_ => fun e_ => (((HO_7.out).1 k_ e_.symm).2) hs_) (fun hn_ => (Kd.fresh' (Kd.R_lt (Kd.R_up HO_7.out)) k_ hn_)), Or.elim hk_ (fun hs_ => fun e_ => (((HO_8.out).1 k_ e_.symm).2) hs_) (fun hn_ => (Kd.fresh' (Kd.R_lt (Kd.R_up HO_8.out)) k_ hn_)), Or.elim hk_ (fun hs_ => fun e_ => (((HO_9.out).1 k_ e_.symm).2) hs_) (fun hn_ => (Kd.fresh' (Kd.R_lt (Kd.R_up HO_9.out)) k_ hn_))⟩)); replace HO_6 := Aside0.mk (Kd.R_mono (ok' := fun k_ => some k_ ≠ (v680 : Value).ownBlock ∧ some k_ ≠ (.slice Ao20 x8_1.length co20 : Value).ownBlock ∧ some k_ ≠ (v683 : Value).ownBlock ∧ some k_ ≠ (v693 : Value).ownBlock) (Kd.R_keptB (HO_6.out) hkp (fun k_ hk_ hs_ => (hk_.2) hs_)) (fun k_ hk_ => ⟨hk_.1.1.1, hk_.1.1.2.1, hk_.1.1.2.2, fun e_ => Or.elim (ho0.1 k_ e_.symm) (fun hs_ => hk_.2.1 hs_) (fun hn_ => Nat.not_le.2 hk_.2.2 hn_)⟩)); replace HO_7 := Aside0.mk (Kd.R_mono (ok' := fun k_ => some k_ ≠ (.slice (some ad685) t676.length co9 : Value).ownBlock ∧ some k_ ≠ (.slice Ao20 x8_1.length co20 : Value).ownBlock ∧ some k_ ≠ (v683 : Value).ownBlock ∧ some k_ ≠ (v693 : Value).ownBlock) (Kd.R_keptB (HO_7.out) hkp (fun k_ hk_ hs_ => (hk_.2) hs_)) (fun k_ hk_ => ⟨hk_.1.1.1, hk_.1.1.2.1, hk_.1.1.2.2, fun e_ => Or.elim (ho0.1 k_ e_.symm) (fun hs_ => hk_.2.1 hs_) (fun hn_ => Nat.not_le.2 hk_.2.2 hn_)⟩)); replace HO_8 := Aside0.mk (Kd.R_mono (ok' := fun k_ => some k_ ≠ (.slice (some ad685) t676.length co9 : Value).ownBlock ∧ some k_ ≠ (v680 : Value).ownBlock ∧ some k_ ≠ (v683 : Value).ownBlock ∧ some k_ ≠ (v693 : Value).ownBlock) (Kd.R_keptB (HO_8.out) hkp (fun k_ hk_ hs_ => (hk_.2) hs_)) (fun k_ hk_ => ⟨hk_.1.1.1, hk_.1.1.2.1, hk_.1.1.2.2, fun e_ => Or.elim (ho0.1 k_ e_.symm) (fun hs_ => hk_.2.1 hs_) (fun hn_ => Nat.not_le.2 hk_.2.2 hn_)⟩)); replace HO_9 := Aside0.mk (Kd.R_mono (ok' := fun k_ => some k_ ≠ (.slice (some ad685) t676.length co9 : Value).ownBlock ∧ some k_ ≠ (v680 : Value).ownBlock ∧ some k_ ≠ (.slice Ao20 x8_1.length co20 : Value).ownBlock ∧ some k_ ≠ (v693 : Value).ownBlock) (Kd.R_keptB (HO_9.out) hkp (fun k_ hk_ hs_ => (hk_.2) hs_)) (fun k_ hk_ => ⟨hk_.1.1.1, hk_.1.1.2.1, hk_.1.1.2.2, fun e_ => Or.elim (ho0.1 k_ e_.symm) (fun hs_ => hk_.2.1 hs_) (fun hn_ => Nat.not_le.2 hk_.2.2 hn_)⟩)); replace HB := Aside0.mk (hb); clear HO691; (try clear hb); (try clear hkp); (try clear ho0)))
     go_loopg [8] k1 (fun kq v8 w' => ∃ (x8_2 : List Int) (x9_2 : List Int), Aside0 (dowelref01_DivMod.l1 kq a0 a1 t676 t679 x8_2 x9_2 x10_1 = some (r1, r2)) ∧ Aside0 (kq ≤ k1) ∧ Aside0 (Kd.R (Kd.int .i64) 3 w' w.heap.size (fun k_ => some k_ ≠ (v680 : Value).ownBlock ∧ some k_ ≠ (v8 : Value).ownBlock ∧ some k_ ≠ (v683 : Value).ownBlock) (.slice (some ad685) t676.length co9) t676) ∧ Aside0 (Kd.R (Kd.int .i64) 3 w' w.heap.size (fun k_ => some k_ ≠ ((.slice (some ad685) t676.length co9) : Value).ownBlock ∧ some k_ ≠ (v8 : Value).ownBlock ∧ some k_ ≠ (v683 : Value).ownBlock) v680 t679) ∧ Aside0 (Kd.R (Kd.int .i64) 3 w' w.heap.size (fun k_ => some k_ ≠ ((.slice (some ad685) t676.length co9) : Value).ownBlock ∧ some k_ ≠ (v680 : Value).ownBlock ∧ some k_ ≠ (v683 : Value).ownBlock) v8 x8_2) ∧ Aside0 (Kd.R (Kd.int .i64) 3 w' w.heap.size (fun k_ => some k_ ≠ ((.slice (some ad685) t676.length co9) : Value).ownBlock ∧ some k_ ≠ (v680 : Value).ownBlock ∧ some k_ ≠ (v8 : Value).ownBlock) v683 x9_2) ∧ Aside0 (Below w.heap.size w w'))
     case atStart => exact ⟨(t692), (x9_1), H', ⟨Nat.le_refl _⟩, ⟨Kd.R_up (Kd.R_mono HO_6.out (fun _ hk => ⟨hk.1, ⟨hk.2.2.2, hk.2.2.1⟩⟩))⟩, ⟨Kd.R_up (Kd.R_mono HO_7.out (fun _ hk => ⟨hk.1, ⟨hk.2.2.2, hk.2.2.1⟩⟩))⟩, ⟨Kd.R_up (Kd.R_mono HO694.out (fun _ hk => ⟨hk.1, ⟨hk.2.1, hk.2.2.2⟩⟩))⟩, ⟨Kd.R_up (Kd.R_mono HO_9.out (fun _ hk => ⟨hk.1, ⟨hk.2.1, hk.2.2.2⟩⟩))⟩, ⟨below_up HB.out⟩⟩
     case round =>
      clear H'
      obtain ⟨x8_2, x9_2, HA, HK2, HO_6, HO_7, HO_8, HO_9, HB⟩ := hrel
      cases gk with
      | zero => exact absurd HA.out (by simp [dowelref01_DivMod.l1])
      | succ k2 =>
       have H := HA.out
       clear HA
       simp only [dowelref01_DivMod.l1] at H
       replace H := Option.bind_eq_some_iff.mp H
       obtain ⟨t695, A230, H⟩ := H
       try dsimp only at H
       have A23 := Aside0.mk A230
       clear A230
       by_cases c24 : t695 ≥ 0
       ·
        rw [if_pos c24] at H
        have c24b0 := decide_eq_true c24
        clear c24
        replace H := Option.bind_eq_some_iff.mp H
        obtain ⟨t696, A250, H⟩ := H
        try dsimp only at H
        have A25 := Aside0.mk A250
        clear A250
        obtain ⟨c26, H⟩ := ite_some H
        have c26b0 := decide_eq_true c26
        clear c26
        obtain ⟨c27, H⟩ := ite_some H
        have c27b0 := decide_eq_true c27
        clear c27
        obtain ⟨y700, hy700⟩ : ∃ y_ : List Int, y_ = (x9_2.set (x10_1 : Int).toNat (wrap64 ((rd x9_2 x10_1) + 1))) := ⟨_, rfl⟩
        replace H : (dowelref01_DivMod.l1 k2 a0 a1 t676 t679 t696 y700 x10_1) = some (r1, r2) := by first | (rw [hy700]; exact H) | exact H
        have Ny700 := Aside0.mk hy700
        clear hy700
        have H' := Aside0.mk H
        clear H
        obtain ⟨Ao29, co29, eo29⟩ := Kd.R_slice HO_8.out
        subst eo29
        obtain ⟨Ao30, co30, eo30⟩ := Kd.R_slice HO_7.out
        subst eo30
        go_wp2_with (first | ((with_reducible refine gate_callee (f := 61) rfl ?_); refine gl_ (some 35) Tryd.func61 #[.slice Ao29 x8_2.length co29, .slice Ao30 t679.length co30] ?_; (with_reducible refine (dowelref01_order.calls k2 _ _ x8_2 _ _ t679 t695 _ ?side1 ?side2 ?side3 ?side4 A23.out).mono ?_); (case side1 => repeat (first | exact (Kd.R_reads' HO_8.out).2.2 | (with_reducible refine Kd.C_alloc ?_ _) | (with_reducible refine Kd.C_drewN ?_ _) | (with_reducible refine Kd.C_drew ?_))); (case side2 => exact (Kd.R_reads' HO_8.out).2.1); (case side3 => repeat (first | exact (Kd.R_reads' HO_7.out).2.2 | (with_reducible refine Kd.C_alloc ?_ _) | (with_reducible refine Kd.C_drewN ?_ _) | (with_reducible refine Kd.C_drew ?_))); (case side4 => exact (Kd.R_reads' HO_7.out).2.1); rintro e w' ⟨rfl, ⟨nd, rfl⟩⟩; refine ⟨_, rfl, ?_⟩; (try (rw [drewN_self wr]; generalize hq_ : World.drewN wr _ = wr; have n0_ : Aside0 (Kd.R (Kd.int .i64) 3 wr w.heap.size (fun k_ => some k_ ≠ (.slice Ao30 t679.length co30 : Value).ownBlock ∧ some k_ ≠ (.slice Ao29 x8_2.length co29 : Value).ownBlock ∧ some k_ ≠ (v683 : Value).ownBlock) (.slice (some ad685) t676.length co9) t676) := ⟨by rw [← hq_]; exact (Kd.R_up HO_6.out)⟩; have n1_ : Aside0 (Kd.R (Kd.int .i64) 3 wr w.heap.size (fun k_ => some k_ ≠ (.slice (some ad685) t676.length co9 : Value).ownBlock ∧ some k_ ≠ (.slice Ao29 x8_2.length co29 : Value).ownBlock ∧ some k_ ≠ (v683 : Value).ownBlock) (.slice Ao30 t679.length co30) t679) := ⟨by rw [← hq_]; exact (Kd.R_up HO_7.out)⟩; have n2_ : Aside0 (Kd.R (Kd.int .i64) 3 wr w.heap.size (fun k_ => some k_ ≠ (.slice (some ad685) t676.length co9 : Value).ownBlock ∧ some k_ ≠ (.slice Ao30 t679.length co30 : Value).ownBlock ∧ some k_ ≠ (v683 : Value).ownBlock) (.slice Ao29 x8_2.length co29) x8_2) := ⟨by rw [← hq_]; exact (Kd.R_up HO_8.out)⟩; have n3_ : Aside0 (Kd.R (Kd.int .i64) 3 wr w.heap.size (fun k_ => some k_ ≠ (.slice (some ad685) t676.length co9 : Value).ownBlock ∧ some k_ ≠ (.slice Ao30 t679.length co30 : Value).ownBlock ∧ some k_ ≠ (.slice Ao29 x8_2.length co29 : Value).ownBlock) v683 x9_2) := ⟨by rw [← hq_]; exact (Kd.R_up HO_9.out)⟩; have n4_ : Aside0 (Below w.heap.size w wr) := ⟨by rw [← hq_]; exact (below_up HB.out)⟩; clear HO_6 HO_7 HO_8 HO_9 HB hq_; have HO_6 := n0_; have HO_7 := n1_; have HO_8 := n2_; have HO_9 := n3_; have HB := n4_; clear n0_ n1_ n2_ n3_ n4_))) | ((with_reducible refine gate_callee (f := 62) rfl ?_); refine gl_ (some 39) Tryd.func62 #[.slice Ao29 x8_2.length co29, .slice Ao30 t679.length co30] ?_; (with_reducible refine (dowelref01_minus.calls k2 _ _ x8_2 _ _ t679 t696 _ ?side1 ?side2 ?side3 ?side4 A25.out).mono ?_); (case side1 => repeat (first | exact (Kd.R_reads' HO_8.out).2.2 | (with_reducible refine Kd.C_alloc ?_ _) | (with_reducible refine Kd.C_drewN ?_ _) | (with_reducible refine Kd.C_drew ?_))); (case side2 => exact (Kd.R_reads' HO_8.out).2.1); (case side3 => repeat (first | exact (Kd.R_reads' HO_7.out).2.2 | (with_reducible refine Kd.C_alloc ?_ _) | (with_reducible refine Kd.C_drewN ?_ _) | (with_reducible refine Kd.C_drew ?_))); (case side4 => exact (Kd.R_reads' HO_7.out).2.1); rintro e w31 ⟨v697, rfl, ho0, hb⟩; refine ⟨_, rfl, ?_⟩; have HO698 := Aside0.mk (Kd.R_lower (Kd.R_new' (Kd.R_new' (Kd.R_new' (Kd.R_new' ho0 (Kd.R_lt (Kd.R_up HO_6.out))) (Kd.R_lt (Kd.R_up HO_7.out))) (Kd.R_lt (Kd.R_up HO_8.out))) (Kd.R_lt (Kd.R_up HO_9.out))) (below_size (below_up HB.out))); replace HO_6 := Aside0.mk (Kd.R_elder' (Kd.R_up HO_6.out) (Kd.R_base ho0) hb); replace HO_7 := Aside0.mk (Kd.R_elder' (Kd.R_up HO_7.out) (Kd.R_base ho0) hb); replace HO_8 := Aside0.mk (Kd.R_elder' (Kd.R_up HO_8.out) (Kd.R_base ho0) hb); replace HO_9 := Aside0.mk (Kd.R_elder' (Kd.R_up HO_9.out) (Kd.R_base ho0) hb); replace HB := Aside0.mk (below_step (below_up HB.out) hb); (try clear hb); (try clear hb2); (try clear hk); (try clear hi); (try clear ho0); obtain ⟨Ao32, co32, eo32⟩ := Kd.R_slice HO_9.out; subst eo32; have p699 : 0 ≤ (x10_1 : Int) := of_decide_eq_true (by assumption); have q699 : x10_1 < (x9_2.length : Int) := of_decide_eq_true (by assumption); obtain ⟨ad699, e699, hx699_0⟩ := Kd.at_int (Kd.R_reads' HO_9.out).2.2 x10_1 p699 q699; cases e699; replace p699 := eq_true p699; replace q699 := eq_true q699; have p28 : 0 ≤ (x10_1 : Int) := of_decide_eq_true (by assumption); have q28 : (x10_1 : Int) < ((x9_2.length : Int) : Int) := of_decide_eq_true (by assumption); obtain ⟨go28, co28, eo28, gb28, gl28, cl28, HG28⟩ := Kd.R_form HO_9.out (by omega); (first | cases eo28 | (injection eo28 with ea_ en_ ec_; (first | subst ea_ | (injection ea_ with ea_; subst ea_)); subst ec_; clear en_)); have GB28 := Aside0.mk gb28; have GG28 := Aside0.mk HG28; clear gb28 gl28 HG28; (first | simp only [add_plain] at hx699_0 | skip); obtain ⟨hx28_0, hf28_0⟩ := Kd.R_celln 0 HO_9.out (x10_1 : Int) p28 q28; replace p28 := eq_true p28; replace q28 := eq_true q28; have n_ := Aside0.mk (Kd.R_mono (ok' := (fun k_ => some k_ ≠ (.slice (some ad685) t676.length co9 : Value).ownBlock ∧ some k_ ≠ (.slice Ao30 t679.length co30 : Value).ownBlock ∧ some k_ ≠ (.slice Ao29 x8_2.length co29 : Value).ownBlock ∧ some k_ ≠ (v697 : Value).ownBlock)) HO_9.out (fun k_ hk => ⟨hk.1.1, ⟨hk.1.2.1, ⟨hk.1.2.2, hk.2⟩⟩⟩)); clear HO_9; have HO_9 := n_; clear n_; obtain ⟨hy33_, hz33_⟩ := Kd.R_celln 0 HO_9.out (x10_1 : Int) (of_decide_eq_true (by assumption)) (of_decide_eq_true (by assumption)); have HP33 := Kd.R_putg HO_9.out (x10_1 : Int) (wrap64 ((rd x9_2 x10_1) + 1))) | ((with_reducible refine gate_store (t := 3) (p := 45) rfl ?_); refine store_event (t := 3) (p := 45) (v := ?vo_w34) (w1 := (w31.setCell ⟨go28, (x10_1 : Int).toNat, none⟩ (.int .i64 (wrap64 ((rd x9_2 x10_1) + 1))))) ?hg ?ho ?hn ?hr ?_; (case ho => rfl); (case hg => rfl); (case hn => rfl); (case hr => first | (go_simp; done) | (go_simp; rfl)); intro w34 hw; have hg : w31.grownBy w34 (some go28) := (by rw [hw]; exact HP33.2); have hp_ : Kd.R (Kd.int .i64) 3 w34 w.heap.size (fun k_ => some k_ ≠ (.slice (some ad685) t676.length co9 : Value).ownBlock ∧ some k_ ≠ (.slice Ao30 t679.length co30 : Value).ownBlock ∧ some k_ ≠ (.slice Ao29 x8_2.length co29 : Value).ownBlock ∧ some k_ ≠ (v697 : Value).ownBlock) (.slice (some ⟨go28, 0, none⟩) x9_2.length co32) y700 := (by rw [hw, Ny700.out]; exact HP33.1); clear HP33; replace HO_6 := Aside0.mk (Kd.R_after (v := (.slice (some ⟨go28, 0, none⟩) x9_2.length co32)) (v1 := (.slice (some ⟨go28, 0, none⟩) x9_2.length co32)) (ok := (fun k_ => some k_ ≠ (.slice Ao30 t679.length co30 : Value).ownBlock ∧ some k_ ≠ (.slice Ao29 x8_2.length co29 : Value).ownBlock ∧ some k_ ≠ (v697 : Value).ownBlock)) (Kd.R_up (Kd.R_mono HO_6.out (fun _ hk => ⟨⟨hk.1.1, ⟨hk.1.2.1, hk.2⟩⟩, hk.1.2.2⟩))) hg (.inl rfl)); replace HO_7 := Aside0.mk (Kd.R_after (v := (.slice (some ⟨go28, 0, none⟩) x9_2.length co32)) (v1 := (.slice (some ⟨go28, 0, none⟩) x9_2.length co32)) (ok := (fun k_ => some k_ ≠ (.slice (some ad685) t676.length co9 : Value).ownBlock ∧ some k_ ≠ (.slice Ao29 x8_2.length co29 : Value).ownBlock ∧ some k_ ≠ (v697 : Value).ownBlock)) (Kd.R_up (Kd.R_mono HO_7.out (fun _ hk => ⟨⟨hk.1.1, ⟨hk.1.2.1, hk.2⟩⟩, hk.1.2.2⟩))) hg (.inl rfl)); replace HO_8 := Aside0.mk (Kd.R_after (v := (.slice (some ⟨go28, 0, none⟩) x9_2.length co32)) (v1 := (.slice (some ⟨go28, 0, none⟩) x9_2.length co32)) (ok := (fun k_ => some k_ ≠ (.slice (some ad685) t676.length co9 : Value).ownBlock ∧ some k_ ≠ (.slice Ao30 t679.length co30 : Value).ownBlock ∧ some k_ ≠ (v697 : Value).ownBlock)) (Kd.R_up (Kd.R_mono HO_8.out (fun _ hk => ⟨⟨hk.1.1, ⟨hk.1.2.1, hk.2⟩⟩, hk.1.2.2⟩))) hg (.inl rfl)); replace HO_9 := Aside0.mk (hp_); replace HO698 := Aside0.mk (Kd.R_after (v := (.slice (some ⟨go28, 0, none⟩) x9_2.length co32)) (v1 := (.slice (some ⟨go28, 0, none⟩) x9_2.length co32)) (ok := (fun k_ => some k_ ≠ (.slice (some ad685) t676.length co9 : Value).ownBlock ∧ some k_ ≠ (.slice Ao30 t679.length co30 : Value).ownBlock ∧ some k_ ≠ (.slice Ao29 x8_2.length co29 : Value).ownBlock)) (Kd.R_up (Kd.R_mono HO698.out (fun _ hk => ⟨⟨hk.1.1.1.2, ⟨hk.1.1.2, hk.1.2⟩⟩, hk.2⟩))) hg (.inl rfl)); replace HB := Aside0.mk ((by rw [hw]; exact below_set (HB.out) GB28.out : Below w.heap.size w w34)); clear hg hw hp_))
        go_roundg k2
        case measure => have := HK1.out; have := HK2.out; omega
        case rel => exact ⟨(t696), (y700), H', ⟨by have := HK1.out; have := HK2.out; omega⟩, ⟨Kd.R_up (Kd.R_mono HO_6.out (fun _ hk => ⟨hk.1.1, ⟨hk.1.2.2, hk.2⟩⟩))⟩, ⟨Kd.R_up (Kd.R_mono HO_7.out (fun _ hk => ⟨hk.1.1, ⟨hk.1.2.2, hk.2⟩⟩))⟩, ⟨Kd.R_up (Kd.R_mono HO698.out (fun _ hk => ⟨hk.1.1, ⟨hk.1.2.1, hk.2⟩⟩))⟩, ⟨Kd.R_up (Kd.R_mono HO_9.out (fun _ hk => ⟨hk.1, ⟨hk.2.1, hk.2.2.2⟩⟩))⟩, ⟨below_up HB.out⟩⟩
       ·
        rw [if_neg c24] at H
        have c24b0 := decide_eq_false c24
        clear c24
        have H' := Aside0.mk H
        clear H
        obtain ⟨Ao35, co35, eo35⟩ := Kd.R_slice HO_8.out
        subst eo35
        obtain ⟨Ao36, co36, eo36⟩ := Kd.R_slice HO_7.out
        subst eo36
        go_wp2_with (first | ((with_reducible refine gate_callee (f := 61) rfl ?_); refine gl_ (some 35) Tryd.func61 #[.slice Ao35 x8_2.length co35, .slice Ao36 t679.length co36] ?_; (with_reducible refine (dowelref01_order.calls k2 _ _ x8_2 _ _ t679 t695 _ ?side1 ?side2 ?side3 ?side4 A23.out).mono ?_); (case side1 => repeat (first | exact (Kd.R_reads' HO_8.out).2.2 | (with_reducible refine Kd.C_alloc ?_ _) | (with_reducible refine Kd.C_drewN ?_ _) | (with_reducible refine Kd.C_drew ?_))); (case side2 => exact (Kd.R_reads' HO_8.out).2.1); (case side3 => repeat (first | exact (Kd.R_reads' HO_7.out).2.2 | (with_reducible refine Kd.C_alloc ?_ _) | (with_reducible refine Kd.C_drewN ?_ _) | (with_reducible refine Kd.C_drew ?_))); (case side4 => exact (Kd.R_reads' HO_7.out).2.1); rintro e w' ⟨rfl, ⟨nd, rfl⟩⟩; refine ⟨_, rfl, ?_⟩))
        go_roundg k2
        case measure => have := HK1.out; have := HK2.out; omega
        case rel => exact ⟨(x8_2), (x9_2), (wrap64 (x10_1 - 1)), (by first | rfl | (simp; done) | (simp [*]; done) | (simp <;> omega)), H', ⟨by have := HK1.out; have := HK2.out; omega⟩, ⟨Kd.R_up HO_6.out⟩, ⟨Kd.R_up HO_7.out⟩, ⟨Kd.R_up HO_8.out⟩, ⟨Kd.R_up HO_9.out⟩, ⟨below_up HB.out⟩⟩
    ·
     rw [if_neg c12] at H
     have c12b0 := decide_eq_false c12
     clear c12
     replace H := Option.bind_eq_some_iff.mp H
     obtain ⟨t701, A370, H⟩ := H
     try dsimp only at H
     have A37 := Aside0.mk A370
     clear A370
     replace H := Option.bind_eq_some_iff.mp H
     obtain ⟨t702, A380, H⟩ := H
     try dsimp only at H
     have A38 := Aside0.mk A380
     clear A380
     replace H := Option.bind_eq_some_iff.mp H
     obtain ⟨t703, A390, H⟩ := H
     try dsimp only at H
     have A39 := Aside0.mk A390
     clear A390
     replace H := Option.bind_eq_some_iff.mp H
     obtain ⟨t704, A400, H⟩ := H
     try dsimp only at H
     have A40 := Aside0.mk A400
     clear A400
     replace H := Option.bind_eq_some_iff.mp H
     obtain ⟨t705, A410, H⟩ := H
     try dsimp only at H
     have A41 := Aside0.mk A410
     clear A410
     have HC42 := Aside0.mk H
     clear H
     go_upto_region 12 with (first | ((with_reducible refine gate_callee (f := 33) rfl ?_); refine gl_ (some 47) Tryd.func33 #[.string a0] ?_; (with_reducible refine (dowelref01_Sign.calls a0 t701 _ A37.out).mono ?_); rintro e w' ⟨rfl, ⟨nd, rfl⟩⟩; refine ⟨_, rfl, ?_⟩) | ((with_reducible refine gate_callee (f := 33) rfl ?_); refine gl_ (some 49) Tryd.func33 #[.string a1] ?_; (with_reducible refine (dowelref01_Sign.calls a1 t702 _ A38.out).mono ?_); rintro e w' ⟨rfl, ⟨nd, rfl⟩⟩; refine ⟨_, rfl, ?_⟩; obtain ⟨Ao43, co43, eo43⟩ := Kd.R_slice HO_9.out; subst eo43) | ((with_reducible refine gate_callee (f := 51) rfl ?_); refine goesL_ (some 53) rfl rfl Tryd.func51 (by kernel_rfl) rfl #[.bool (decide ((wrap64 (t701 * t702)) < 0)), .slice Ao43 x9_1.length co43] rfl (by (try simp only [List.map_toArray, List.map_cons, List.map_nil]); first | done | rfl | (simp only [List.length_drop, List.length_take]; rfl) | (rw [show wrap64 (t701 * t702) = (t701 * t702) from wrap64_of_ _ (by omega) (by omega)]; rfl)) ?_; (with_reducible refine (dowelref01_text.calls k1 (decide ((wrap64 (t701 * t702)) < 0)) (fun k_ => some k_ = (.slice Ao43 x9_1.length co43 : Value).ownBlock) (.slice Ao43 x9_1.length co43) x9_1 t703 w _ ?side1 ?side2 A39.out).mono ?_); (case side1 => exact below_up HB.out); (case side2 => exact Kd.R_tight rfl HO_9.out); rintro e w44 ⟨rfl, hb, hkp⟩; refine ⟨_, rfl, ?_⟩; have n2_ := Aside0.mk (Kd.R_mono (ok' := fun k_ => some k_ ≠ (.slice Ao9 t676.length co9 : Value).ownBlock ∧ some k_ ≠ (v680 : Value).ownBlock) (Kd.R_keptB (HO_8.out) hkp (fun k_ hk_ hs_ => (hk_.2.2) hs_)) (fun k_ hk_ => ⟨hk_.1.1, hk_.1.2.1⟩)); have n3_ := Aside0.mk (hb); (try clear HO_6); (try clear HO_7); clear HO_8 HB HO_9; have HO_8 := n2_; have HB := n3_; clear n2_ n3_; (try clear hb); (try clear hkp)) | ((with_reducible refine gate_callee (f := 33) rfl ?_); refine gl_ (some 55) Tryd.func33 #[.string a0] ?_; (with_reducible refine (dowelref01_Sign.calls a0 t704 _ A40.out).mono ?_); rintro e w' ⟨rfl, ⟨nd, rfl⟩⟩; refine ⟨_, rfl, ?_⟩; obtain ⟨Ao45, co45, eo45⟩ := Kd.R_slice HO_8.out; subst eo45) | ((with_reducible refine gate_callee (f := 51) rfl ?_); refine gl_ (some 58) Tryd.func51 #[.bool (decide (t704 < 0)), .slice Ao45 x8_1.length co45] ?_; (with_reducible refine (dowelref01_text.calls k1 (decide (t704 < 0)) (fun k_ => some k_ = (.slice Ao45 x8_1.length co45 : Value).ownBlock) (.slice Ao45 x8_1.length co45) x8_1 t705 w _ ?side1 ?side2 A41.out).mono ?_); (case side1 => exact below_up HB.out); (case side2 => exact Kd.R_tight rfl HO_8.out); rintro e w46 ⟨rfl, hb, hkp⟩; refine ⟨_, rfl, ?_⟩; have n2_ := Aside0.mk (hb); clear HB HO_8; have HB := n2_; clear n2_; (try clear hb); (try clear hkp)))
     (try simp only [Act.put, List.setIfInBounds_toArray, List.set_cons_zero, List.set_cons_succ])
     go_cut [67] (fun v67 wc => ∃ (kq : Nat) (x67_41 : Bool), v67 = .bool x67_41 ∧ Aside0 (dowelref01_DivMod.j2 kq a1 t703 t705 x67_41 = some (r1, r2)) ∧ Aside0 (kq ≤ k1) ∧ Aside0 (Below w.heap.size w wc))
     case first =>
      have H := HC42.out
      clear HC42
      by_cases c47 : t705.toList = ([48] : List UInt8)
      ·
       rw [if_pos c47] at H
       have c47b0 : (t705.toList == ([48] : List UInt8)) = true := beq_iff_eq.mpr c47
       have c47b1 : (t705.toList != ([48] : List UInt8)) = false := bne_eq_false_iff_eq.mpr c47
       clear c47
       (first | rw [c47b0] | (simp only [i64_w, i32_w]; rw [c47b0]) | skip)
       have H' := Aside0.mk H
       clear H
       go_wp2
       go_meet
       case rel => exact ⟨_, (false), (by first | rfl | (simp; done) | (simp [*]; done) | (simp <;> omega)), H', ⟨by have := HK1.out; first | omega | exact Nat.le_refl _⟩, ⟨below_up HB.out⟩⟩
      ·
       rw [if_neg c47] at H
       have c47b0 : (t705.toList == ([48] : List UInt8)) = false := beq_eq_false_iff_ne.mpr c47
       have c47b1 : (t705.toList != ([48] : List UInt8)) = true := bne_iff_ne.mpr c47
       (first | rw [c47b0] | (simp only [i64_w, i32_w]; rw [c47b0]) | skip)
       replace H := Option.bind_eq_some_iff.mp H
       obtain ⟨t706, A480, H⟩ := H
       try dsimp only at H
       have A48 := Aside0.mk A480
       clear A480
       replace H := Option.bind_eq_some_iff.mp H
       obtain ⟨t707, A490, H⟩ := H
       try dsimp only at H
       have A49 := Aside0.mk A490
       clear A490
       have H' := Aside0.mk H
       clear H
       go_wp2_with (first | (go_at_call 33; (with_reducible refine (dowelref01_Sign.calls t705 t706 _ A48.out).mono ?_); rintro e w' ⟨rfl, ⟨nd, rfl⟩⟩) | (go_at_call 33; (with_reducible refine (dowelref01_Sign.calls a1 t707 _ A49.out).mono ?_); rintro e w' ⟨rfl, ⟨nd, rfl⟩⟩))
       go_meet
       case rel => exact ⟨_, ((t706 != t707)), (by first | rfl | (simp; done) | (simp [*]; done) | (simp <;> omega)), H', ⟨by have := HK1.out; first | omega | exact Nat.le_refl _⟩, ⟨below_up HB.out⟩⟩
     case rest =>
      clear HC42
      obtain ⟨kq, x67_41, rfl, HA, HJ41, HB⟩ := hcut
      cases kq with
      | zero => exact absurd HA.out (by simp [dowelref01_DivMod.j2])
      | succ kj41 =>
       have H := HA.out
       clear HA
       simp only [dowelref01_DivMod.j2] at H
       by_cases c50 : x67_41 = true
       ·
        subst c50
        have H1 : ((dowelref01_Sub.f kj41 t703 (⟨#[49]⟩ : ByteArray)).bind fun t708 => ((dowelref01_Add.f kj41 t705 a1).bind fun t709 => (some (t708, t709)))) = some (r1, r2) := by rw [if_pos rfl] at H; exact H
        clear H
        have H := H1
        clear H1
        replace H := Option.bind_eq_some_iff.mp H
        obtain ⟨t708, A510, H⟩ := H
        try dsimp only at H
        have A51 := Aside0.mk A510
        clear A510
        replace H := Option.bind_eq_some_iff.mp H
        obtain ⟨t709, A520, H⟩ := H
        try dsimp only at H
        have A52 := Aside0.mk A520
        clear A520
        simp only [Option.some.injEq, Prod.mk.injEq] at H
        obtain ⟨rfl, rfl⟩ := H
        go_wp2_with (first | ((with_reducible refine gate_callee (f := 38) rfl ?_); refine gl_ (some 69) Tryd.func38 #[.string t703, .string (⟨#[49]⟩ : ByteArray)] ?_; (with_reducible refine (dowelref01_Sub.calls kj41 t703 (⟨#[49]⟩ : ByteArray) t708 _ A51.out).mono ?_); rintro e w53 ⟨rfl, hb⟩; refine ⟨_, rfl, ?_⟩; replace HB := Aside0.mk (below_step (below_up HB.out) hb); (try clear hb); (try clear hb2); (try clear hk); (try clear hi)) | ((with_reducible refine gate_callee (f := 36) rfl ?_); refine gl_ (some 72) Tryd.func36 #[.string t705, .string a1] ?_; (with_reducible refine (dowelref01_Add.calls kj41 t705 a1 t709 _ A52.out).mono ?_); rintro e w54 ⟨rfl, hb⟩; refine ⟨_, rfl, ?_⟩; replace HB := Aside0.mk (below_step (below_up HB.out) hb); (try clear hb); (try clear hb2); (try clear hk); (try clear hi)))
        go_ret2
        exact ⟨by first | rfl | (simp [errW_none, errW_some] <;> rfl) | (simp [*, errW_none, errW_some] <;> rfl), below_up HB.out⟩
       ·
        replace c50 := Bool.eq_false_iff.mpr c50
        subst c50
        have H1 : (some (t703, t705)) = some (r1, r2) := by rw [if_neg (show ¬ (false = true) by decide)] at H; exact H
        clear H
        have H := H1
        clear H1
        simp only [Option.some.injEq, Prod.mk.injEq] at H
        obtain ⟨rfl, rfl⟩ := H
        go_wp2
        go_ret2
        exact ⟨by first | rfl | (simp [errW_none, errW_some] <;> rfl) | (simp [*, errW_none, errW_some] <;> rfl), below_up HB.out⟩
 ·
  rw [if_neg c5] at H
  exact absurd H (by simp)
def dowelref01_Gcd.l0 : Nat → ByteArray → ByteArray → Option (ByteArray)
 | 0, _, _ => none
 | k + 1, x5, x6 => if x6.toList = ([48] : List UInt8) then (some x5) else ((dowelref01_DivMod.f k x5 x6).bind fun bt751 => (dowelref01_Gcd.l0 k x6 bt751.2))
def dowelref01_Gcd.f (k : Nat) (a0 : ByteArray) (a1 : ByteArray) : Option (ByteArray) := (dowelref01_digits.f k a0).bind fun t743 => ((dowelref01_text.f k false t743).bind fun t746 => ((dowelref01_digits.f k a1).bind fun t747 => ((dowelref01_text.f k false t747).bind fun t750 => (dowelref01_Gcd.l0 k t746 t750))))
theorem dowelref01_Gcd.mono_l : ∀ k, (∀ y0 y1, LeO (dowelref01_Gcd.l0 k y0 y1) (dowelref01_Gcd.l0 (k + 1) y0 y1))
 | 0 => fun _ _ r h => by simp [dowelref01_Gcd.l0] at h
 | k + 1 => by
  have ih0 := dowelref01_Gcd.mono_l k
  ·
   intro y0 y1
   unfold dowelref01_Gcd.l0
   repeat' with_reducible first | exact ih0 _ _ | exact dowelref01_DivMod.mono _ _ _ | exact dowelref01_digits.mono _ _ | exact dowelref01_text.mono _ _ _ | exact LeO.refl _ | exact LeO.none _ | refine LeO.ite ?_ ?_ | refine LeO.bind ?_ (fun _ => ?_)
theorem dowelref01_Gcd.mono : ∀ a0 a1 k, LeO (dowelref01_Gcd.f k a0 a1) (dowelref01_Gcd.f (k + 1) a0 a1) := by
 intro a0 a1 k
 have ih0 := dowelref01_Gcd.mono_l k
 unfold dowelref01_Gcd.f
 repeat' with_reducible first | exact ih0 _ _ | exact dowelref01_DivMod.mono _ _ _ | exact dowelref01_digits.mono _ _ | exact dowelref01_text.mono _ _ _ | exact LeO.refl _ | exact LeO.none _ | refine LeO.ite ?_ ?_ | refine LeO.bind ?_ (fun _ => ?_)
set_option maxHeartbeats 8000000 in
set_option maxRecDepth 100000 in
theorem dowelref01_Gcd.calls (k : Nat) (a0 : ByteArray) (a1 : ByteArray) (r : ByteArray) (w : World) (h : dowelref01_Gcd.f k a0 a1 = some r) :
  Calls Tryd.prog 30 #[.string a0, .string a1] w fun e w' => e = .returned (.string r) ∧ Below w.heap.size w w' := by
 have HB := Aside0.mk (Below.refl w.heap.size w)
 have H := h
 unfold dowelref01_Gcd.f at H
 clear h
 replace H := Option.bind_eq_some_iff.mp H
 obtain ⟨t743, A30, H⟩ := H
 try dsimp only at H
 have A3 := Aside0.mk A30
 clear A30
 replace H := Option.bind_eq_some_iff.mp H
 obtain ⟨t746, A40, H⟩ := H
 try dsimp only at H
 have A4 := Aside0.mk A40
 clear A40
 replace H := Option.bind_eq_some_iff.mp H
 obtain ⟨t747, A50, H⟩ := H
 try dsimp only at H
 have A5 := Aside0.mk A50
 clear A50
 replace H := Option.bind_eq_some_iff.mp H
 obtain ⟨t750, A60, H⟩ := H
 try dsimp only at H
 have A6 := Aside0.mk A60
 clear A60
 have H' := Aside0.mk H
 clear H
 go_enter Tryd.func30, Tryd.ntmps30
 go_wp2_with (first | ((with_reducible refine gate_callee (f := 58) rfl ?_); refine gl_ (some 10) Tryd.func58 #[.string a0] ?_; (with_reducible refine (dowelref01_digits.calls k a0 t743 _ A3.out).mono ?_); rintro e w7 ⟨v744, rfl, ho0, hb⟩; refine ⟨_, rfl, ?_⟩; have HO745 := Aside0.mk (Kd.R_lower ho0 (below_size (below_up HB.out))); replace HB := Aside0.mk (below_step (below_up HB.out) hb); (try clear hb); (try clear hb2); (try clear hk); (try clear hi); (try clear ho0); obtain ⟨Ao8, co8, eo8⟩ := Kd.R_slice HO745.out; subst eo8) | ((with_reducible refine gate_callee (f := 51) rfl ?_); refine gl_ (some 11) Tryd.func51 #[.bool false, .slice Ao8 t743.length co8] ?_; (with_reducible refine (dowelref01_text.calls k false (fun k_ => some k_ = (.slice Ao8 t743.length co8 : Value).ownBlock) (.slice Ao8 t743.length co8) t743 t746 w _ ?side1 ?side2 A4.out).mono ?_); (case side1 => exact below_up HB.out); (case side2 => exact Kd.R_tight rfl HO745.out); rintro e w9 ⟨rfl, hb, hkp⟩; refine ⟨_, rfl, ?_⟩; replace HB := Aside0.mk (hb); clear HO745; (try clear hb); (try clear hkp)) | ((with_reducible refine gate_callee (f := 58) rfl ?_); refine gl_ (some 13) Tryd.func58 #[.string a1] ?_; (with_reducible refine (dowelref01_digits.calls k a1 t747 _ A5.out).mono ?_); rintro e w10 ⟨v748, rfl, ho0, hb⟩; refine ⟨_, rfl, ?_⟩; have HO749 := Aside0.mk (Kd.R_lower ho0 (below_size (below_up HB.out))); replace HB := Aside0.mk (below_step (below_up HB.out) hb); (try clear hb); (try clear hb2); (try clear hk); (try clear hi); (try clear ho0); obtain ⟨Ao11, co11, eo11⟩ := Kd.R_slice HO749.out; subst eo11) | ((with_reducible refine gate_callee (f := 51) rfl ?_); refine gl_ (some 14) Tryd.func51 #[.bool false, .slice Ao11 t747.length co11] ?_; (with_reducible refine (dowelref01_text.calls k false (fun k_ => some k_ = (.slice Ao11 t747.length co11 : Value).ownBlock) (.slice Ao11 t747.length co11) t747 t750 w _ ?side1 ?side2 A6.out).mono ?_); (case side1 => exact below_up HB.out); (case side2 => exact Kd.R_tight rfl HO749.out); rintro e w12 ⟨rfl, hb, hkp⟩; refine ⟨_, rfl, ?_⟩; replace HB := Aside0.mk (hb); clear HO749; (try clear hb); (try clear hkp)))
 go_loopg [5, 6] k (fun kq v5 v6 w' => ∃ (x5_1 : ByteArray) (x6_1 : ByteArray), v5 = .string x5_1 ∧ v6 = .string x6_1 ∧ Aside0 (dowelref01_Gcd.l0 kq x5_1 x6_1 = some r) ∧ Aside0 (kq ≤ k) ∧ Aside0 (Below w.heap.size w w'))
 case atStart => exact ⟨(t746), (t750), (by first | rfl | (simp; done) | (simp [*]; done) | (simp <;> omega)), (by first | rfl | (simp; done) | (simp [*]; done) | (simp <;> omega)), H', ⟨Nat.le_refl _⟩, ⟨below_up HB.out⟩⟩
 case round =>
  clear H'
  obtain ⟨x5_1, x6_1, rfl, rfl, HA, HK1, HB⟩ := hrel
  cases gk with
  | zero => exact absurd HA.out (by simp [dowelref01_Gcd.l0])
  | succ k1 =>
   have H := HA.out
   clear HA
   simp only [dowelref01_Gcd.l0] at H
   by_cases c13 : x6_1.toList = ([48] : List UInt8)
   ·
    rw [if_pos c13] at H
    have c13b0 : (x6_1.toList == ([48] : List UInt8)) = true := beq_iff_eq.mpr c13
    have c13b1 : (x6_1.toList != ([48] : List UInt8)) = false := bne_eq_false_iff_eq.mpr c13
    clear c13
    obtain rfl := Option.some.inj H
    go_wp2
    go_ret
    exact ⟨by first | rfl | (simp [errW_none, errW_some] <;> rfl) | (simp [*, errW_none, errW_some] <;> rfl), below_up HB.out⟩
   ·
    rw [if_neg c13] at H
    have c13b0 : (x6_1.toList == ([48] : List UInt8)) = false := beq_eq_false_iff_ne.mpr c13
    have c13b1 : (x6_1.toList != ([48] : List UInt8)) = true := bne_iff_ne.mpr c13
    replace H := Option.bind_eq_some_iff.mp H
    obtain ⟨⟨t751, t752⟩, A140, H⟩ := H
    try dsimp only at H
    have A14 := Aside0.mk A140
    clear A140
    have H' := Aside0.mk H
    clear H
    go_wp2_with (first | ((with_reducible refine gate_callee (f := 28) rfl ?_); refine gl_ (some 20) Tryd.func28 #[.string x5_1, .string x6_1] ?_; (with_reducible refine (dowelref01_DivMod.calls k1 x5_1 x6_1 t751 t752 _ A14.out).mono ?_); rintro e w15 ⟨rfl, hb⟩; refine ⟨_, rfl, ?_⟩; replace HB := Aside0.mk (below_step (below_up HB.out) hb); (try clear hb); (try clear hb2); (try clear hk); (try clear hi)))
    go_roundg k1
    case measure => have := HK1.out; omega
    case rel => exact ⟨(x6_1), (t752), (by first | rfl | (simp; done) | (simp [*]; done) | (simp <;> omega)), (by first | rfl | (simp; done) | (simp [*]; done) | (simp <;> omega)), H', ⟨by have := HK1.out; omega⟩, ⟨below_up HB.out⟩⟩
mutual
def dowellaw01_IntegerGcds.j0 : Nat → ByteArray → ByteArray → Bool → Option (Bool)
 | 0, _, _, _ => none
 | k + 1, x0, x1, x37 => if x37 = true then ((dowellaw01_known.f k).bind fun t756 => (some t756)) else ((dowellaw01_read.f k x0).bind fun bt757 => ((dowellaw01_read.f k x1).bind fun bt763 => ((integer_Gcd.f k bt757.1 bt757.2.1 bt763.1 bt763.2.1).bind fun bt769 => (if bt757.2.2 = true then (if bt763.2.2 = true then ((integer_Int_Text.f k bt769.1 bt769.2).bind fun t774 => ((dowelref01_Gcd.f k x0 x1).bind fun t775 => (if t774.toList = t775.toList then ((integer_Gcd.f k bt763.1 bt763.2.1 bt757.1 bt757.2.1).bind fun bt776 => ((integer_Int_Text.f k bt776.1 bt776.2).bind fun t780 => ((integer_Int_Text.f k bt769.1 bt769.2).bind fun t781 => (dowellaw01_IntegerGcds.j1 k x0 x1 (t780.toList != t781.toList) bt757.1 bt757.2.1 bt763.1 bt763.2.1 bt769.1 bt769.2)))) else (none)))) else (none)) else (none)))))
def dowellaw01_IntegerGcds.j1 : Nat → ByteArray → ByteArray → Bool → Bool → List Int → Bool → List Int → Bool → List Int → Option (Bool)
 | 0, _, _, _, _, _, _, _, _, _ => none
 | k + 1, x0, x1, x74, x763000, x763001, x769000, x769001, x774000, x774001 => if x74 = true then (none) else ((integer_Int_Sign.f x774000 x774001).bind fun t782 => (if t782 = 0 then (if x0.toList = ([48] : List UInt8) then (some (x1.toList == ([48] : List UInt8))) else (none)) else ((integer_DivMod.f k x763000 x763001 x774000 x774001).bind fun bt783 => ((integer_DivMod.f k x769000 x769001 x774000 x774001).bind fun bt794 => (if bt783.2.2.2.2 = 0 then (if bt794.2.2.2.2 = 0 then ((integer_Int_Sign.f bt783.2.2.1 bt783.2.2.2.1).bind fun t805 => (if t805 = 0 then ((integer_Int_Sign.f bt794.2.2.1 bt794.2.2.2.1).bind fun t806 => (if t806 = 0 then ((integer_Gcd.f k bt783.1 bt783.2.1 bt794.1 bt794.2.1).bind fun bt807 => ((integer_Int_Text.f k bt807.1 bt807.2).bind fun t811 => (some (t811.toList == ([49] : List UInt8))))) else (none))) else (none))) else (none)) else (none))))))
end
def dowellaw01_IntegerGcds.f (k : Nat) (a0 : ByteArray) (a1 : ByteArray) : Option (Bool) := (dowellaw01_known.f k).bind fun t753 => (if t753 = true then ((dowellaw01_right.f k a0).bind fun t754 => (if t754 = true then ((dowellaw01_right.f k a1).bind fun t755 => (if t755 = true then (if (a0.size : Int) > 60 then (dowellaw01_IntegerGcds.j0 k a0 a1 true) else (dowellaw01_IntegerGcds.j0 k a0 a1 (decide (60 < a1.size)))) else (dowellaw01_IntegerGcds.j0 k a0 a1 true))) else (dowellaw01_IntegerGcds.j0 k a0 a1 true))) else (dowellaw01_IntegerGcds.j0 k a0 a1 true))
theorem dowellaw01_IntegerGcds.mono_l : ∀ k, (∀ y0 y1 y2, LeO (dowellaw01_IntegerGcds.j0 k y0 y1 y2) (dowellaw01_IntegerGcds.j0 (k + 1) y0 y1 y2)) ∧ (∀ y0 y1 y2 y3 y4 y5 y6 y7 y8, LeO (dowellaw01_IntegerGcds.j1 k y0 y1 y2 y3 y4 y5 y6 y7 y8) (dowellaw01_IntegerGcds.j1 (k + 1) y0 y1 y2 y3 y4 y5 y6 y7 y8))
 | 0 => ⟨fun _ _ _ r h => by simp [dowellaw01_IntegerGcds.j0] at h, fun _ _ _ _ _ _ _ _ _ r h => by simp [dowellaw01_IntegerGcds.j1] at h⟩
 | k + 1 => by
  obtain ⟨ih0, ih1⟩ := dowellaw01_IntegerGcds.mono_l k
  refine ⟨?_, ?_⟩
  ·
   intro y0 y1 y2
   unfold dowellaw01_IntegerGcds.j0
   repeat' with_reducible first | exact ih0 _ _ _ | exact ih1 _ _ _ _ _ _ _ _ _ | exact dowellaw01_known.mono _ | exact dowellaw01_read.mono _ _ | exact dowellaw01_right.mono _ _ | exact dowelref01_Gcd.mono _ _ _ | exact integer_DivMod.mono _ _ _ _ _ | exact integer_Gcd.mono _ _ _ _ _ | exact integer_Int_Text.mono _ _ _ | exact LeO.refl _ | exact LeO.none _ | refine LeO.ite ?_ ?_ | refine LeO.bind ?_ (fun _ => ?_)
  ·
   intro y0 y1 y2 y3 y4 y5 y6 y7 y8
   unfold dowellaw01_IntegerGcds.j1
   repeat' with_reducible first | exact ih0 _ _ _ | exact ih1 _ _ _ _ _ _ _ _ _ | exact dowellaw01_known.mono _ | exact dowellaw01_read.mono _ _ | exact dowellaw01_right.mono _ _ | exact dowelref01_Gcd.mono _ _ _ | exact integer_DivMod.mono _ _ _ _ _ | exact integer_Gcd.mono _ _ _ _ _ | exact integer_Int_Text.mono _ _ _ | exact LeO.refl _ | exact LeO.none _ | refine LeO.ite ?_ ?_ | refine LeO.bind ?_ (fun _ => ?_)
theorem dowellaw01_IntegerGcds.mono : ∀ a0 a1 k, LeO (dowellaw01_IntegerGcds.f k a0 a1) (dowellaw01_IntegerGcds.f (k + 1) a0 a1) := by
 intro a0 a1 k
 obtain ⟨ih0, ih1⟩ := dowellaw01_IntegerGcds.mono_l k
 unfold dowellaw01_IntegerGcds.f
 repeat' with_reducible first | exact ih0 _ _ _ | exact ih1 _ _ _ _ _ _ _ _ _ | exact dowellaw01_known.mono _ | exact dowellaw01_read.mono _ _ | exact dowellaw01_right.mono _ _ | exact dowelref01_Gcd.mono _ _ _ | exact integer_DivMod.mono _ _ _ _ _ | exact integer_Gcd.mono _ _ _ _ _ | exact integer_Int_Text.mono _ _ _ | exact LeO.refl _ | exact LeO.none _ | refine LeO.ite ?_ ?_ | refine LeO.bind ?_ (fun _ => ?_)
def dowellaw01_IntegerGcds.T6 : Bool × List (List Nat × List Nat) := (true, [([], []), ([0], [0]), ([1], [1]), ([2], [2]), ([3, 2], [2, 3]), ([2, 4], [2, 4]), ([5, 2], [5]), ([6], [6]), ([7, 6, 6], [6, 7]), ([6], [6]), ([6], [6]), ([9, 10, 8, 6], [6, 9, 10]), ([8, 11, 6], [6, 8, 11]), ([6, 12], [6, 12]), ([13, 11], [13]), ([14], [14]), ([14], [14]), ([15, 16, 14, 14], [14, 15, 16]), ([17, 17, 14], [14, 17]), ([14], [14]), ([19, 18, 14], [14, 19]), ([18, 20, 14], [14, 18, 20]), ([14, 21], [14, 21])])
def dowellaw01_IntegerGcds.B6 : List Nat := [0, 1, 3, 7, 15, 31, 63, 127, 255, 127, 127, 2047, 4095, 8191, 16383, 32767, 32767, 131071, 262143, 32767, 1048575, 2097151, 4194303]
theorem dowellaw01_IntegerGcds.tab6 : rtab .any (opsOf Tryd.f7 6) = dowellaw01_IntegerGcds.T6 := by kernel_rfl
theorem dowellaw01_IntegerGcds.bits6 : waitsOk dowellaw01_IntegerGcds.T6.2 dowellaw01_IntegerGcds.B6 = true := by kernel_rfl
set_option maxHeartbeats 8000000 in
set_option maxRecDepth 100000 in
theorem dowellaw01_IntegerGcds.calls (k : Nat) (a0 : ByteArray) (a1 : ByteArray) (r : Bool) (w : World) (hG : G w) (h : dowellaw01_IntegerGcds.f k a0 a1 = some r) :
  Calls Tryd.prog 7 #[.string a0, .string a1] w fun e w' => e = .returned (.bool r) ∧ Below w.heap.size w w' := by
 have hu25 := Tryd.underlying25
 have HB := Aside0.mk (Below.refl w.heap.size w)
 have HG := Aside0.mk hG
 clear hG
 have H := h
 unfold dowellaw01_IntegerGcds.f at H
 clear h
 have HC3 := Aside0.mk H
 clear H
 go_enter Tryd.func7, Tryd.ntmps7
 go_upto_region 1 with (fail)
 go_cut [37] (fun v37 wc => ∃ (kq : Nat) (x37_2 : Bool), v37 = .bool x37_2 ∧ Aside0 (dowellaw01_IntegerGcds.j0 kq a0 a1 x37_2 = some r) ∧ Aside0 (kq ≤ k) ∧ Aside0 (Below w.heap.size w wc))
 case first =>
  have H := HC3.out
  clear HC3
  replace H := Option.bind_eq_some_iff.mp H
  obtain ⟨t753, A40, H⟩ := H
  try dsimp only at H
  have A4 := Aside0.mk A40
  clear A40
  by_cases c5 : t753 = true
  ·
   subst c5
   have H1 : ((dowellaw01_right.f k a0).bind fun t754 => (if t754 = true then ((dowellaw01_right.f k a1).bind fun t755 => (if t755 = true then (if (a0.size : Int) > 60 then (dowellaw01_IntegerGcds.j0 k a0 a1 true) else (dowellaw01_IntegerGcds.j0 k a0 a1 (decide (60 < a1.size)))) else (dowellaw01_IntegerGcds.j0 k a0 a1 true))) else (dowellaw01_IntegerGcds.j0 k a0 a1 true))) = some r := by rw [if_pos rfl] at H; exact H
   clear H
   have H := H1
   clear H1
   replace H := Option.bind_eq_some_iff.mp H
   obtain ⟨t754, A60, H⟩ := H
   try dsimp only at H
   have A6 := Aside0.mk A60
   clear A60
   by_cases c7 : t754 = true
   ·
    subst c7
    have H1 : ((dowellaw01_right.f k a1).bind fun t755 => (if t755 = true then (if (a0.size : Int) > 60 then (dowellaw01_IntegerGcds.j0 k a0 a1 true) else (dowellaw01_IntegerGcds.j0 k a0 a1 (decide (60 < a1.size)))) else (dowellaw01_IntegerGcds.j0 k a0 a1 true))) = some r := by rw [if_pos rfl] at H; exact H
    clear H
    have H := H1
    clear H1
    replace H := Option.bind_eq_some_iff.mp H
    obtain ⟨t755, A80, H⟩ := H
    try dsimp only at H
    have A8 := Aside0.mk A80
    clear A80
    by_cases c9 : t755 = true
    ·
     subst c9
     have H1 : (if (a0.size : Int) > 60 then (dowellaw01_IntegerGcds.j0 k a0 a1 true) else (dowellaw01_IntegerGcds.j0 k a0 a1 (decide (60 < a1.size)))) = some r := by rw [if_pos rfl] at H; exact H
     clear H
     have H := H1
     clear H1
     by_cases c10 : (a0.size : Int) > 60
     ·
      rw [if_pos c10] at H
      have c10b0 := decide_eq_true c10
      have c10b1 : decide (60 < a0.size) = true := decide_eq_true (by omega)
      clear c10
      (first | rw [c10b0] | (simp only [i64_w, i32_w]; rw [c10b0]) | skip)
      have H' := Aside0.mk H
      clear H
      go_wp2_with (first | ((with_reducible refine gate_callee (f := 14) rfl ?_); refine gl_ (some 16) Tryd.func14 #[] ?_; (with_reducible refine (dowellaw01_known.calls k  true _ ?side1 A4.out).mono ?_); (case side1 => exact G_below HG.out (below_up HB.out)); rintro e w11 ⟨rfl, hb⟩; refine ⟨_, rfl, ?_⟩; replace HB := Aside0.mk (below_step (below_up HB.out) hb); (try clear hb); (try clear hb2); (try clear hk); (try clear hi)) | (go_at_call 23; (with_reducible refine (dowellaw01_right.calls k a0 true _ A6.out).mono ?_); rintro e w' ⟨rfl, ⟨nd, rfl⟩⟩) | (go_at_call 23; (with_reducible refine (dowellaw01_right.calls k a1 true _ A8.out).mono ?_); rintro e w' ⟨rfl, ⟨nd, rfl⟩⟩))
      go_meet
      case rel => exact ⟨_, (true), (by first | rfl | (simp; done) | (simp [*]; done) | (simp <;> omega)), H', ⟨by first | omega | exact Nat.le_refl _⟩, ⟨below_up HB.out⟩⟩
     ·
      rw [if_neg c10] at H
      have c10b0 := decide_eq_false c10
      have c10b1 : decide (60 < a0.size) = false := decide_eq_false (by omega)
      clear c10
      (first | rw [c10b0] | (simp only [i64_w, i32_w]; rw [c10b0]) | skip)
      have H' := Aside0.mk H
      clear H
      go_wp2_with (first | ((with_reducible refine gate_callee (f := 14) rfl ?_); refine gl_ (some 16) Tryd.func14 #[] ?_; (with_reducible refine (dowellaw01_known.calls k  true _ ?side1 A4.out).mono ?_); (case side1 => exact G_below HG.out (below_up HB.out)); rintro e w12 ⟨rfl, hb⟩; refine ⟨_, rfl, ?_⟩; replace HB := Aside0.mk (below_step (below_up HB.out) hb); (try clear hb); (try clear hb2); (try clear hk); (try clear hi)) | (go_at_call 23; (with_reducible refine (dowellaw01_right.calls k a0 true _ A6.out).mono ?_); rintro e w' ⟨rfl, ⟨nd, rfl⟩⟩) | (go_at_call 23; (with_reducible refine (dowellaw01_right.calls k a1 true _ A8.out).mono ?_); rintro e w' ⟨rfl, ⟨nd, rfl⟩⟩))
      go_meet
      case rel => exact ⟨_, (decide (60 < a1.size)), (by first | rfl | (simp; done) | (simp [*]; done) | (simp <;> omega)), H', ⟨by first | omega | exact Nat.le_refl _⟩, ⟨below_up HB.out⟩⟩
    ·
     replace c9 := Bool.eq_false_iff.mpr c9
     subst c9
     have H1 : (dowellaw01_IntegerGcds.j0 k a0 a1 true) = some r := by rw [if_neg (show ¬ (false = true) by decide)] at H; exact H
     clear H
     have H := H1
     clear H1
     have H' := Aside0.mk H
     clear H
     go_wp2_with (first | ((with_reducible refine gate_callee (f := 14) rfl ?_); refine gl_ (some 16) Tryd.func14 #[] ?_; (with_reducible refine (dowellaw01_known.calls k  true _ ?side1 A4.out).mono ?_); (case side1 => exact G_below HG.out (below_up HB.out)); rintro e w13 ⟨rfl, hb⟩; refine ⟨_, rfl, ?_⟩; replace HB := Aside0.mk (below_step (below_up HB.out) hb); (try clear hb); (try clear hb2); (try clear hk); (try clear hi)) | (go_at_call 23; (with_reducible refine (dowellaw01_right.calls k a0 true _ A6.out).mono ?_); rintro e w' ⟨rfl, ⟨nd, rfl⟩⟩) | (go_at_call 23; (with_reducible refine (dowellaw01_right.calls k a1 false _ A8.out).mono ?_); rintro e w' ⟨rfl, ⟨nd, rfl⟩⟩))
     go_meet
     case rel => exact ⟨_, (true), (by first | rfl | (simp; done) | (simp [*]; done) | (simp <;> omega)), H', ⟨by first | omega | exact Nat.le_refl _⟩, ⟨below_up HB.out⟩⟩
   ·
    replace c7 := Bool.eq_false_iff.mpr c7
    subst c7
    have H1 : (dowellaw01_IntegerGcds.j0 k a0 a1 true) = some r := by rw [if_neg (show ¬ (false = true) by decide)] at H; exact H
    clear H
    have H := H1
    clear H1
    have H' := Aside0.mk H
    clear H
    go_wp2_with (first | ((with_reducible refine gate_callee (f := 14) rfl ?_); refine gl_ (some 16) Tryd.func14 #[] ?_; (with_reducible refine (dowellaw01_known.calls k  true _ ?side1 A4.out).mono ?_); (case side1 => exact G_below HG.out (below_up HB.out)); rintro e w14 ⟨rfl, hb⟩; refine ⟨_, rfl, ?_⟩; replace HB := Aside0.mk (below_step (below_up HB.out) hb); (try clear hb); (try clear hb2); (try clear hk); (try clear hi)) | (go_at_call 23; (with_reducible refine (dowellaw01_right.calls k a0 false _ A6.out).mono ?_); rintro e w' ⟨rfl, ⟨nd, rfl⟩⟩))
    go_meet
    case rel => exact ⟨_, (true), (by first | rfl | (simp; done) | (simp [*]; done) | (simp <;> omega)), H', ⟨by first | omega | exact Nat.le_refl _⟩, ⟨below_up HB.out⟩⟩
  ·
   replace c5 := Bool.eq_false_iff.mpr c5
   subst c5
   have H1 : (dowellaw01_IntegerGcds.j0 k a0 a1 true) = some r := by rw [if_neg (show ¬ (false = true) by decide)] at H; exact H
   clear H
   have H := H1
   clear H1
   have H' := Aside0.mk H
   clear H
   go_wp2_with (first | ((with_reducible refine gate_callee (f := 14) rfl ?_); refine gl_ (some 16) Tryd.func14 #[] ?_; (with_reducible refine (dowellaw01_known.calls k  false _ ?side1 A4.out).mono ?_); (case side1 => exact G_below HG.out (below_up HB.out)); rintro e w15 ⟨rfl, hb⟩; refine ⟨_, rfl, ?_⟩; replace HB := Aside0.mk (below_step (below_up HB.out) hb); (try clear hb); (try clear hb2); (try clear hk); (try clear hi)))
   go_meet
   case rel => exact ⟨_, (true), (by first | rfl | (simp; done) | (simp [*]; done) | (simp <;> omega)), H', ⟨by first | omega | exact Nat.le_refl _⟩, ⟨below_up HB.out⟩⟩
 case rest =>
  clear HC3
  obtain ⟨kq, x37_2, rfl, HA, HJ2, HB⟩ := hcut
  cases kq with
  | zero => exact absurd HA.out (by simp [dowellaw01_IntegerGcds.j0])
  | succ kj2 =>
   have H := HA.out
   clear HA
   simp only [dowellaw01_IntegerGcds.j0] at H
   by_cases c16 : x37_2 = true
   ·
    subst c16
    have H1 : ((dowellaw01_known.f kj2).bind fun t756 => (some t756)) = some r := by rw [if_pos rfl] at H; exact H
    clear H
    have H := H1
    clear H1
    replace H := Option.bind_eq_some_iff.mp H
    obtain ⟨t756, A170, H⟩ := H
    try dsimp only at H
    have A17 := Aside0.mk A170
    clear A170
    obtain rfl := Option.some.inj H
    go_wp2_with (first | ((with_reducible refine gate_callee (f := 14) rfl ?_); refine gl_ (some 38) Tryd.func14 #[] ?_; (with_reducible refine (dowellaw01_known.calls kj2  t756 _ ?side1 A17.out).mono ?_); (case side1 => exact G_below HG.out (below_up HB.out)); rintro e w18 ⟨rfl, hb⟩; refine ⟨_, rfl, ?_⟩; replace HB := Aside0.mk (below_step (below_up HB.out) hb); (try clear hb); (try clear hb2); (try clear hk); (try clear hi)))
    go_ret
    exact ⟨by first | rfl | (simp [errW_none, errW_some] <;> rfl) | (simp [*, errW_none, errW_some] <;> rfl), below_up HB.out⟩
   ·
    replace c16 := Bool.eq_false_iff.mpr c16
    subst c16
    have H1 : ((dowellaw01_read.f kj2 a0).bind fun bt757 => ((dowellaw01_read.f kj2 a1).bind fun bt763 => ((integer_Gcd.f kj2 bt757.1 bt757.2.1 bt763.1 bt763.2.1).bind fun bt769 => (if bt757.2.2 = true then (if bt763.2.2 = true then ((integer_Int_Text.f kj2 bt769.1 bt769.2).bind fun t774 => ((dowelref01_Gcd.f kj2 a0 a1).bind fun t775 => (if t774.toList = t775.toList then ((integer_Gcd.f kj2 bt763.1 bt763.2.1 bt757.1 bt757.2.1).bind fun bt776 => ((integer_Int_Text.f kj2 bt776.1 bt776.2).bind fun t780 => ((integer_Int_Text.f kj2 bt769.1 bt769.2).bind fun t781 => (dowellaw01_IntegerGcds.j1 kj2 a0 a1 (t780.toList != t781.toList) bt757.1 bt757.2.1 bt763.1 bt763.2.1 bt769.1 bt769.2)))) else (none)))) else (none)) else (none))))) = some r := by rw [if_neg (show ¬ (false = true) by decide)] at H; exact H
    clear H
    have H := H1
    clear H1
    replace H := Option.bind_eq_some_iff.mp H
    obtain ⟨⟨t757, t758, t761⟩, A190, H⟩ := H
    try dsimp only at H
    have A19 := Aside0.mk A190
    clear A190
    replace H := Option.bind_eq_some_iff.mp H
    obtain ⟨⟨t763, t764, t767⟩, A200, H⟩ := H
    try dsimp only at H
    have A20 := Aside0.mk A200
    clear A200
    replace H := Option.bind_eq_some_iff.mp H
    obtain ⟨⟨t769, t770⟩, A210, H⟩ := H
    try dsimp only at H
    have A21 := Aside0.mk A210
    clear A210
    have HC22 := Aside0.mk H
    clear H
    go_upto_region 6 with (first | ((with_reducible refine gate_callee (f := 24) rfl ?_); refine gl_ (some 41) Tryd.func24 #[.string a0] ?_; (with_reducible refine (dowellaw01_read.calls kj2 a0 t757 t758 t761 _ A19.out).mono ?_); rintro e w23 ⟨v759, rfl, ho0, hb⟩; refine ⟨_, rfl, ?_⟩; have HO760 := Aside0.mk (Kd.V_lower (Kd.V_mono (ok' := fun k_ => True) ho0 (fun k_ hk_ => trivial)) (below_size (below_up HB.out))); replace HB := Aside0.mk (below_step (below_up HB.out) hb); (try clear hb); (try clear hb2); (try clear hk); (try clear hi); (try clear ho0)) | ((with_reducible refine gate_dst (N := 5) rfl ?_); (try (refine gate_guard (by rfl) ?_; dsimp only)); refine box_event ?hg (N := 5) ?hd (cs := #[.bool false, .slice none 0 0]) (t := 25) ?hr ?_; (case hd => rfl); (case hg => rfl); (case hr => first | (go_simp; done) | (go_simp; rfl)); intro gb762 hg w24 hbox hb; replace HO760 := Aside0.mk (Kd.V_below (Kd.V_elderB (Kd.V_up HO760.out) gb762 (Nat.le_of_eq hg.symm)) hb); have BK762 := Aside0.mk (hbox); have GE762 := Aside0.mk ((size_up hg HB.out : w.heap.size ≤ gb762)); replace HB := Aside0.mk (below_step (below_up HB.out) hb); clear hb hbox hg; have hcz25_0 : w24.cell? ⟨gb762, 0, none⟩ = some (.bool false) := (blk_cell BK762.out 0).trans rfl; have hcz25_1 : w24.cell? ⟨gb762, 1, none⟩ = some (.slice none 0 0) := (blk_cell BK762.out 1).trans rfl; have hfz25_0 := blk_frozen BK762.out 0; have hfz25_1 := blk_frozen BK762.out 1; obtain ⟨Ao26, co26, eo26⟩ := Kd.V_slice HO760.out; subst eo26) | ((with_reducible refine gate_callee (f := 24) rfl ?_); refine gl_ (some 46) Tryd.func24 #[.string a1] ?_; (with_reducible refine (dowellaw01_read.calls kj2 a1 t763 t764 t767 _ A20.out).mono ?_); rintro e w27 ⟨v765, rfl, ho0, hb⟩; refine ⟨_, rfl, ?_⟩; replace HO760 := Aside0.mk (Kd.V_below (Kd.V_up ((Kd.V_mono (Kd.V_far (p := ⟨gb762, 1, none⟩) (Kd.V_far (p := ⟨gb762, 0, none⟩) (Kd.V_mono HO760.out (fun k_ hk => (⟨hk, hk.2⟩ : _ ∧ k_ ≠ gb762))) (fun _ hk => hk.2) (.bool t757)) (fun _ hk => hk.2) (.slice Ao26 t758.length co26)) (fun _ h_ => h_.1)))) hb); have HO766 := Aside0.mk (Kd.V_lower (Kd.V_mono (ok' := fun k_ => k_ ≠ gb762) ho0 (fun k_ hk_ => (Kd.freshB (g := gb762) (o := .cells #[.bool t757, .slice Ao26 t758.length co26] 25 (0, 0)) (by refine blk_ups ?_; refine blk_put (cs := #[.bool t757, .slice none 0 0]) ?_ 1 _ rfl; refine blk_ups ?_; refine blk_put (cs := #[.bool false, .slice none 0 0]) ?_ 0 _ rfl; exact blk_up BK762.out) k_ hk_))) (below_size (by with_reducible repeat first | exact HB.out | apply below_alloc | apply pw_below_drewN | apply below_drew1 | refine below_set ?_ GE762.out))); replace BK762 := Aside0.mk (blk_below (g := gb762) (o := .cells #[.bool t757, .slice Ao26 t758.length co26] 25 (0, 0)) (by refine blk_ups ?_; refine blk_put (cs := #[.bool t757, .slice none 0 0]) ?_ 1 _ rfl; refine blk_ups ?_; refine blk_put (cs := #[.bool false, .slice none 0 0]) ?_ 0 _ rfl; exact blk_up BK762.out) hb); replace HB := Aside0.mk (below_step (by with_reducible repeat first | exact HB.out | apply below_alloc | apply pw_below_drewN | apply below_drew1 | refine below_set ?_ GE762.out) hb); (try clear hb); (try clear hb2); (try clear hk); (try clear hi); (try clear ho0)) | ((with_reducible refine gate_dst (N := 7) rfl ?_); (try (refine gate_guard (by rfl) ?_; dsimp only)); refine box_event ?hg (N := 7) ?hd (cs := #[.bool false, .slice none 0 0]) (t := 25) ?hr ?_; (case hd => rfl); (case hg => rfl); (case hr => first | (go_simp; done) | (go_simp; rfl)); intro gb768 hg w28 hbox hb; replace HO760 := Aside0.mk (Kd.V_below (Kd.V_elderB (Kd.V_up HO760.out) gb768 (Nat.le_of_eq hg.symm)) hb); replace HO766 := Aside0.mk (Kd.V_below (Kd.V_elderB (Kd.V_up HO766.out) gb768 (Nat.le_of_eq hg.symm)) hb); have BK768 := Aside0.mk (hbox); have GE768 := Aside0.mk ((by rw [hg]; exact (below_size (by with_reducible repeat first | exact HB.out | apply below_alloc | apply pw_below_drewN | apply below_drew1 | refine below_set ?_ GE762.out)) : w.heap.size ≤ gb768)); replace HB := Aside0.mk (below_step (by with_reducible repeat first | exact HB.out | apply below_alloc | apply pw_below_drewN | apply below_drew1 | refine below_set ?_ GE762.out) hb); have NB762_768 := Aside0.mk ((blk_nw hg BK762.out : gb762 ≠ gb768)); have NB768_762 := Aside0.mk ((nw_blk hg BK762.out : gb768 ≠ gb762)); replace BK762 := Aside0.mk (blk_below (blk_up BK762.out) hb); clear hb hbox hg; have hnb29 := NB768_762.out; have hnc29 := NB762_768.out; have hcz30_0 : w28.cell? ⟨gb768, 0, none⟩ = some (.bool false) := (blk_cell BK768.out 0).trans rfl; have hcz30_1 : w28.cell? ⟨gb768, 1, none⟩ = some (.slice none 0 0) := (blk_cell BK768.out 1).trans rfl; have hfz30_0 := blk_frozen BK768.out 0; have hfz30_1 := blk_frozen BK768.out 1; obtain ⟨Ao31, co31, eo31⟩ := Kd.V_slice HO766.out; subst eo31) | ((with_reducible refine gate_store (t := 25) (p := 7) rfl ?_); refine store_event (t := 25) (p := 7) (v := ?vo_w32) (w1 := ((w28.setCell ⟨gb768, 0, none⟩ (.bool t763)).setCell ⟨gb768, 1, none⟩ (.slice Ao31 t764.length co31))) ?hg ?ho ?hn ?hr ?_; (case ho => rfl); (case hg => rfl); (case hn => rfl); (case hr => first | (go_simp; done) | (go_simp; rfl)); intro w32 hw; replace HO760 : Aside0 (Kd.V (Kd.int .u32) 60 w32 w.heap.size (fun k_ => k_ ≠ gb762 ∧ k_ ≠ gb768) (.slice Ao26 t758.length co26) t758) := ⟨(by rw [hw]; exact (Kd.V_up (Kd.V_mono (Kd.V_far (p := ⟨gb768, 1, none⟩) (Kd.V_far (p := ⟨gb768, 0, none⟩) (Kd.V_mono HO760.out (fun k_ hk => (⟨hk, hk.2⟩ : _ ∧ k_ ≠ gb768))) (fun _ hk => hk.2) (.bool t763)) (fun _ hk => hk.2) (.slice Ao31 t764.length co31)) (fun _ hk => ⟨hk.1.1.2, hk.1.2⟩))))⟩; replace HO766 : Aside0 (Kd.V (Kd.int .u32) 60 w32 w.heap.size (fun k_ => k_ ≠ gb762 ∧ k_ ≠ gb768) (.slice Ao31 t764.length co31) t764) := ⟨(by rw [hw]; exact (Kd.V_up (Kd.V_mono (Kd.V_far (p := ⟨gb768, 1, none⟩) (Kd.V_far (p := ⟨gb768, 0, none⟩) (Kd.V_mono HO766.out (fun k_ hk => (⟨hk, hk.2⟩ : _ ∧ k_ ≠ gb768))) (fun _ hk => hk.2) (.bool t763)) (fun _ hk => hk.2) (.slice Ao31 t764.length co31)) (fun _ hk => ⟨hk.1.1, hk.1.2⟩))))⟩; replace BK762 : Aside0 (w32.heap[gb762]? = some (.cells #[.bool t757, .slice Ao26 t758.length co26] 25 (0, 0))) := ⟨(by rw [hw]; exact (by refine blk_ups ?_; refine blk_far ?_ NB762_768.out _; refine blk_ups ?_; refine blk_far ?_ NB762_768.out _; exact blk_up BK762.out))⟩; replace BK768 : Aside0 (w32.heap[gb768]? = some (.cells #[.bool t763, .slice Ao31 t764.length co31] 25 (0, 0))) := ⟨(by rw [hw]; exact (by refine blk_ups ?_; refine blk_put (cs := #[.bool t763, .slice none 0 0]) ?_ 1 _ rfl; refine blk_ups ?_; refine blk_put (cs := #[.bool false, .slice none 0 0]) ?_ 0 _ rfl; exact blk_up BK768.out))⟩; replace HB : Aside0 (Below w.heap.size w w32) := ⟨(by rw [hw]; exact (by with_reducible repeat first | exact HB.out | apply below_alloc | apply pw_below_drewN | apply below_drew1 | refine below_set ?_ GE762.out | refine below_set ?_ GE768.out))⟩; clear hw; have hcz33_0 : w32.cell? ⟨gb762, 0, none⟩ = some (.bool t757) := (blk_cell BK762.out 0).trans rfl; have hcz33_1 : w32.cell? ⟨gb762, 1, none⟩ = some (.slice Ao26 t758.length co26) := (blk_cell BK762.out 1).trans rfl; have hfz33_0 := blk_frozen BK762.out 0; have hfz33_1 := blk_frozen BK762.out 1; have hcz34_0 : w32.cell? ⟨gb768, 0, none⟩ = some (.bool t763) := (blk_cell BK768.out 0).trans rfl; have hcz34_1 : w32.cell? ⟨gb768, 1, none⟩ = some (.slice Ao31 t764.length co31) := (blk_cell BK768.out 1).trans rfl; have hfz34_0 := blk_frozen BK768.out 0; have hfz34_1 := blk_frozen BK768.out 1) | ((with_reducible refine gate_callee (f := 29) rfl ?_); refine gl_ (some 51) Tryd.func29 #[.agg #[.bool t757, .slice Ao26 t758.length co26], .agg #[.bool t763, .slice Ao31 t764.length co31]] ?_; (with_reducible refine (integer_Gcd.calls kj2 t757 (fun k_ => (k_ ≠ gb762 ∧ k_ ≠ gb768)) _ _ t758 t763 (fun k_ => (k_ ≠ gb762 ∧ k_ ≠ gb768)) _ _ t764 t769 t770 _ ?side1 ?side2 A21.out).mono ?_); (case side1 => exact HO760.out); (case side2 => exact HO766.out); rintro e w35 ⟨v771, rfl, ho0, hb⟩; refine ⟨_, rfl, ?_⟩; replace HO760 := Aside0.mk (Kd.V_below (Kd.V_up HO760.out) hb); replace HO766 := Aside0.mk (Kd.V_below (Kd.V_up HO766.out) hb); have HO772 := Aside0.mk (Kd.V_lower (Kd.V_mono (ok' := fun k_ => k_ ≠ gb762 ∧ k_ ≠ gb768) ho0 (fun k_ hk_ => ⟨Or.elim hk_ (fun hs_ => Or.elim hs_ (fun hs_ => hs_.1) (fun hs_ => hs_.1)) (fun hn_ => (Kd.freshB (g := gb762) (o := .cells #[.bool t757, .slice Ao26 t758.length co26] 25 (0, 0)) (blk_up BK762.out) k_ hn_)), Or.elim hk_ (fun hs_ => Or.elim hs_ (fun hs_ => hs_.2) (fun hs_ => hs_.2)) (fun hn_ => (Kd.freshB (g := gb768) (o := .cells #[.bool t763, .slice Ao31 t764.length co31] 25 (0, 0)) (blk_up BK768.out) k_ hn_))⟩)) (below_size (by with_reducible repeat first | exact HB.out | apply below_alloc | apply pw_below_drewN | apply below_drew1 | refine below_set ?_ GE762.out | refine below_set ?_ GE768.out))); replace BK762 := Aside0.mk (blk_below (blk_up BK762.out) hb); replace BK768 := Aside0.mk (blk_below (blk_up BK768.out) hb); replace HB := Aside0.mk (below_step (by with_reducible repeat first | exact HB.out | apply below_alloc | apply pw_below_drewN | apply below_drew1 | refine below_set ?_ GE762.out | refine below_set ?_ GE768.out) hb); (try clear hb); (try clear hb2); (try clear hk); (try clear hi); (try clear ho0)) | ((with_reducible refine gate_dst (N := 9) rfl ?_); (try (refine gate_guard (by rfl) ?_; dsimp only)); refine box_event ?hg (N := 9) ?hd (cs := #[.bool false, .slice none 0 0]) (t := 25) ?hr ?_; (case hd => rfl); (case hg => rfl); (case hr => first | (go_simp; done) | (go_simp; rfl)); intro gb773 hg w36 hbox hb; replace HO760 := Aside0.mk (Kd.V_below (Kd.V_elderB (Kd.V_up HO760.out) gb773 (Nat.le_of_eq hg.symm)) hb); replace HO766 := Aside0.mk (Kd.V_below (Kd.V_elderB (Kd.V_up HO766.out) gb773 (Nat.le_of_eq hg.symm)) hb); replace HO772 := Aside0.mk (Kd.V_below (Kd.V_elderB (Kd.V_up HO772.out) gb773 (Nat.le_of_eq hg.symm)) hb); have BK773 := Aside0.mk (hbox); have GE773 := Aside0.mk ((by rw [hg]; exact (below_size (by with_reducible repeat first | exact HB.out | apply below_alloc | apply pw_below_drewN | apply below_drew1 | refine below_set ?_ GE762.out | refine below_set ?_ GE768.out)) : w.heap.size ≤ gb773)); replace HB := Aside0.mk (below_step (by with_reducible repeat first | exact HB.out | apply below_alloc | apply pw_below_drewN | apply below_drew1 | refine below_set ?_ GE762.out | refine below_set ?_ GE768.out) hb); have NB762_773 := Aside0.mk ((blk_nw hg BK762.out : gb762 ≠ gb773)); have NB773_762 := Aside0.mk ((nw_blk hg BK762.out : gb773 ≠ gb762)); replace BK762 := Aside0.mk (blk_below (blk_up BK762.out) hb); have NB768_773 := Aside0.mk ((blk_nw hg BK768.out : gb768 ≠ gb773)); have NB773_768 := Aside0.mk ((nw_blk hg BK768.out : gb773 ≠ gb768)); replace BK768 := Aside0.mk (blk_below (blk_up BK768.out) hb); clear hb hbox hg; have hnb37 := NB773_762.out; have hnc37 := NB762_773.out; have hnb38 := NB773_768.out; have hnc38 := NB768_773.out; have hcz39_0 : w36.cell? ⟨gb773, 0, none⟩ = some (.bool false) := (blk_cell BK773.out 0).trans rfl; have hcz39_1 : w36.cell? ⟨gb773, 1, none⟩ = some (.slice none 0 0) := (blk_cell BK773.out 1).trans rfl; have hfz39_0 := blk_frozen BK773.out 0; have hfz39_1 := blk_frozen BK773.out 1; obtain ⟨Ao40, co40, eo40⟩ := Kd.V_slice HO772.out; subst eo40))
    (try simp only [Act.put, List.setIfInBounds_toArray, List.set_cons_zero, List.set_cons_succ])
    go_cut [74] (fun v74 wc => ∃ (kq : Nat) (x74_21 : Bool), v74 = .bool x74_21 ∧ Aside0 (dowellaw01_IntegerGcds.j1 kq a0 a1 x74_21 t757 t758 t763 t764 t769 t770 = some r) ∧ Aside0 (kq ≤ kj2) ∧ Aside0 (Kd.V (Kd.int .u32) 60 wc w.heap.size (fun k_ => k_ ≠ gb762 ∧ k_ ≠ gb768 ∧ k_ ≠ gb773) (.slice Ao26 t758.length co26) t758) ∧ Aside0 (Kd.V (Kd.int .u32) 60 wc w.heap.size (fun k_ => k_ ≠ gb762 ∧ k_ ≠ gb768 ∧ k_ ≠ gb773) (.slice Ao31 t764.length co31) t764) ∧ Aside0 (Kd.V (Kd.int .u32) 60 wc w.heap.size (fun k_ => k_ ≠ gb762 ∧ k_ ≠ gb768 ∧ k_ ≠ gb773) (.slice Ao40 t770.length co40) t770) ∧ Aside0 (wc.heap[gb762]? = some (.cells #[.bool t757, (.slice Ao26 t758.length co26)] 25 (0, 0))) ∧ Aside0 (wc.heap[gb768]? = some (.cells #[.bool t763, (.slice Ao31 t764.length co31)] 25 (0, 0))) ∧ Aside0 (wc.heap[gb773]? = some (.cells #[.bool t769, (.slice Ao40 t770.length co40)] 25 (0, 0))) ∧ Aside0 (Below w.heap.size w wc))
    case first =>
     have H := HC22.out
     clear HC22
     by_cases c41 : t761 = true
     ·
      subst c41
      have H1 : (if t767 = true then ((integer_Int_Text.f kj2 t769 t770).bind fun t774 => ((dowelref01_Gcd.f kj2 a0 a1).bind fun t775 => (if t774.toList = t775.toList then ((integer_Gcd.f kj2 t763 t764 t757 t758).bind fun bt776 => ((integer_Int_Text.f kj2 bt776.1 bt776.2).bind fun t780 => ((integer_Int_Text.f kj2 t769 t770).bind fun t781 => (dowellaw01_IntegerGcds.j1 kj2 a0 a1 (t780.toList != t781.toList) t757 t758 t763 t764 t769 t770)))) else (none)))) else (none)) = some r := by rw [if_pos rfl] at H; exact H
      clear H
      have H := H1
      clear H1
      by_cases c42 : t767 = true
      ·
       subst c42
       have H1 : ((integer_Int_Text.f kj2 t769 t770).bind fun t774 => ((dowelref01_Gcd.f kj2 a0 a1).bind fun t775 => (if t774.toList = t775.toList then ((integer_Gcd.f kj2 t763 t764 t757 t758).bind fun bt776 => ((integer_Int_Text.f kj2 bt776.1 bt776.2).bind fun t780 => ((integer_Int_Text.f kj2 t769 t770).bind fun t781 => (dowellaw01_IntegerGcds.j1 kj2 a0 a1 (t780.toList != t781.toList) t757 t758 t763 t764 t769 t770)))) else (none)))) = some r := by rw [if_pos rfl] at H; exact H
       clear H
       have H := H1
       clear H1
       replace H := Option.bind_eq_some_iff.mp H
       obtain ⟨t774, A430, H⟩ := H
       try dsimp only at H
       have A43 := Aside0.mk A430
       clear A430
       replace H := Option.bind_eq_some_iff.mp H
       obtain ⟨t775, A440, H⟩ := H
       try dsimp only at H
       have A44 := Aside0.mk A440
       clear A440
       obtain ⟨c45, H⟩ := ite_some H
       have c45b0 : (t774.toList == t775.toList) = true := beq_iff_eq.mpr c45
       have c45b1 : (t774.toList != t775.toList) = false := bne_eq_false_iff_eq.mpr c45
       clear c45
       (first | rw [c45b0] | (simp only [i64_w, i32_w]; rw [c45b0]) | skip)
       replace H := Option.bind_eq_some_iff.mp H
       obtain ⟨⟨t776, t777⟩, A460, H⟩ := H
       try dsimp only at H
       have A46 := Aside0.mk A460
       clear A460
       replace H := Option.bind_eq_some_iff.mp H
       obtain ⟨t780, A470, H⟩ := H
       try dsimp only at H
       have A47 := Aside0.mk A470
       clear A470
       replace H := Option.bind_eq_some_iff.mp H
       obtain ⟨t781, A480, H⟩ := H
       try dsimp only at H
       have A48 := Aside0.mk A480
       clear A480
       have H' := Aside0.mk H
       clear H
       try go_wp2
       have n0_ : Aside0 (Kd.V (Kd.int .u32) 60 ((w36.setCell ⟨gb773, 0, none⟩ (.bool t769)).setCell ⟨gb773, 1, none⟩ (.slice Ao40 t770.length co40)) w.heap.size (fun k_ => k_ ≠ gb762 ∧ k_ ≠ gb768 ∧ k_ ≠ gb773) (.slice Ao26 t758.length co26) t758) := ⟨Kd.V_up (Kd.V_mono (Kd.V_far (p := ⟨gb773, 1, none⟩) (Kd.V_far (p := ⟨gb773, 0, none⟩) (Kd.V_mono HO760.out (fun k_ hk => (⟨hk, hk.2⟩ : _ ∧ k_ ≠ gb773))) (fun _ hk => hk.2) (.bool t769)) (fun _ hk => hk.2) (.slice Ao40 t770.length co40)) (fun _ hk => ⟨hk.1.1.1, ⟨hk.1.1.2, hk.1.2⟩⟩))⟩
       have n1_ : Aside0 (Kd.V (Kd.int .u32) 60 ((w36.setCell ⟨gb773, 0, none⟩ (.bool t769)).setCell ⟨gb773, 1, none⟩ (.slice Ao40 t770.length co40)) w.heap.size (fun k_ => k_ ≠ gb762 ∧ k_ ≠ gb768 ∧ k_ ≠ gb773) (.slice Ao31 t764.length co31) t764) := ⟨Kd.V_up (Kd.V_mono (Kd.V_far (p := ⟨gb773, 1, none⟩) (Kd.V_far (p := ⟨gb773, 0, none⟩) (Kd.V_mono HO766.out (fun k_ hk => (⟨hk, hk.2⟩ : _ ∧ k_ ≠ gb773))) (fun _ hk => hk.2) (.bool t769)) (fun _ hk => hk.2) (.slice Ao40 t770.length co40)) (fun _ hk => ⟨hk.1.1.1, ⟨hk.1.1.2, hk.1.2⟩⟩))⟩
       have n2_ : Aside0 (Kd.V (Kd.int .u32) 60 ((w36.setCell ⟨gb773, 0, none⟩ (.bool t769)).setCell ⟨gb773, 1, none⟩ (.slice Ao40 t770.length co40)) w.heap.size (fun k_ => k_ ≠ gb762 ∧ k_ ≠ gb768 ∧ k_ ≠ gb773) (.slice Ao40 t770.length co40) t770) := ⟨Kd.V_up (Kd.V_mono (Kd.V_far (p := ⟨gb773, 1, none⟩) (Kd.V_far (p := ⟨gb773, 0, none⟩) (Kd.V_mono HO772.out (fun k_ hk => (⟨hk, hk.2⟩ : _ ∧ k_ ≠ gb773))) (fun _ hk => hk.2) (.bool t769)) (fun _ hk => hk.2) (.slice Ao40 t770.length co40)) (fun _ hk => ⟨hk.1.1.1, ⟨hk.1.1.2, hk.1.2⟩⟩))⟩
       have n3_ : Aside0 (((w36.setCell ⟨gb773, 0, none⟩ (.bool t769)).setCell ⟨gb773, 1, none⟩ (.slice Ao40 t770.length co40)).heap[gb762]? = some (.cells #[.bool t757, .slice Ao26 t758.length co26] 25 (0, 0))) := ⟨by (with_reducible repeat (first | refine blk_drewN ?_ _ | refine blk_drew ?_ | refine blk_alloc ?_ _)); refine blk_far ?_ NB762_773.out _; refine blk_ups ?_; refine blk_far ?_ NB762_773.out _; exact blk_up BK762.out⟩
       have n4_ : Aside0 (((w36.setCell ⟨gb773, 0, none⟩ (.bool t769)).setCell ⟨gb773, 1, none⟩ (.slice Ao40 t770.length co40)).heap[gb768]? = some (.cells #[.bool t763, .slice Ao31 t764.length co31] 25 (0, 0))) := ⟨by (with_reducible repeat (first | refine blk_drewN ?_ _ | refine blk_drew ?_ | refine blk_alloc ?_ _)); refine blk_far ?_ NB768_773.out _; refine blk_ups ?_; refine blk_far ?_ NB768_773.out _; exact blk_up BK768.out⟩
       have n5_ : Aside0 (((w36.setCell ⟨gb773, 0, none⟩ (.bool t769)).setCell ⟨gb773, 1, none⟩ (.slice Ao40 t770.length co40)).heap[gb773]? = some (.cells #[.bool t769, .slice Ao40 t770.length co40] 25 (0, 0))) := ⟨by (with_reducible repeat (first | refine blk_drewN ?_ _ | refine blk_drew ?_ | refine blk_alloc ?_ _)); refine blk_put (cs := #[.bool t769, .slice none 0 0]) ?_ 1 _ rfl; refine blk_ups ?_; refine blk_put (cs := #[.bool false, .slice none 0 0]) ?_ 0 _ rfl; exact blk_up BK773.out⟩
       have n6_ : Aside0 (Below w.heap.size w ((w36.setCell ⟨gb773, 0, none⟩ (.bool t769)).setCell ⟨gb773, 1, none⟩ (.slice Ao40 t770.length co40))) := ⟨by with_reducible repeat first | exact HB.out | apply below_alloc | apply pw_below_drewN | apply below_drew1 | refine below_set ?_ GE762.out | refine below_set ?_ GE768.out | refine below_set ?_ GE773.out⟩
       (try clear HO760)
       (try clear HO766)
       (try clear HO772)
       (try clear BK762)
       (try clear BK768)
       (try clear BK773)
       (try clear HB)
       generalize ((w36.setCell ⟨gb773, 0, none⟩ (.bool t769)).setCell ⟨gb773, 1, none⟩ (.slice Ao40 t770.length co40)) = w49 at n0_ n1_ n2_ n3_ n4_ n5_ n6_ ⊢
       have HO760 := n0_
       have HO766 := n1_
       have HO772 := n2_
       have BK762 := n3_
       have BK768 := n4_
       have BK773 := n5_
       have HB := n6_
       clear n0_ n1_ n2_ n3_ n4_ n5_ n6_
       replace HO760 := Aside0.mk (Kd.V_drew HO760.out)
       replace HO766 := Aside0.mk (Kd.V_drew HO766.out)
       replace HO772 := Aside0.mk (Kd.V_drew HO772.out)
       replace BK762 := Aside0.mk (blk_drew BK762.out)
       replace BK768 := Aside0.mk (blk_drew BK768.out)
       replace BK773 := Aside0.mk (blk_drew BK773.out)
       replace HB := Aside0.mk (below_drew1 HB.out)
       refine start_ (n := 23) (S := fun w' => w'.cell? ⟨gb773, 0, none⟩ = some (.bool t769) ∧ w'.cell? ⟨gb773, 1, none⟩ = some (.slice Ao40 t770.length co40) ∧ w'.cell? ⟨gb768, 0, none⟩ = some (.bool t763) ∧ w'.cell? ⟨gb768, 1, none⟩ = some (.slice Ao31 t764.length co31) ∧ w'.cell? ⟨gb762, 0, none⟩ = some (.bool t757) ∧ w'.cell? ⟨gb762, 1, none⟩ = some (.slice Ao26 t758.length co26)) (ds := []) #[false, false, false, false, false, false, false, false, false, false, false, false, false, false, false, false, false, false, false, false, false, false, false] (by kernel_rfl) rfl rfl ⟨(blk_cell BK773.out 0).trans rfl, (blk_cell BK773.out 1).trans rfl, (blk_cell BK768.out 0).trans rfl, (blk_cell BK768.out 1).trans rfl, (blk_cell BK762.out 0).trans rfl, (blk_cell BK762.out 1).trans rfl⟩ (fun hHeld => ?_); refine with_tabW dowellaw01_IntegerGcds.tab6 dowellaw01_IntegerGcds.bits6 (fun HT_ HW_ => ?_)
       generalize w49.drew = w50 at HO760 HO766 HO772 BK762 BK768 BK773 HB hHeld ⊢
       refine pu_ 0 (some 52) (bs 1 22) HT_.out ?_
       refine pu_ 1 (some 53) (bs 2 21) HT_.out ?_
       refine pu_ 2 (some 54) (bs 3 20) HT_.out ?_
       refine pu_ 3 (some 55) (bs 4 19) HT_.out ?_
       refine pu_ 4 (some 56) (bs 5 18) HT_.out ?_
       refine pu_ 5 (some 57) (bs 6 17) HT_.out ?_
       refine pu_ 6 (some 58) (bs 7 16) HT_.out ?_
       refine pu_ 9 (some 61) #[true, true, true, true, true, true, true, false, false, true, false, false, false, false, false, false, false, false, false, false, false, false, false] HT_.out ?_
       refine pu_ 10 (some 62) #[true, true, true, true, true, true, true, false, false, true, true, false, false, false, false, false, false, false, false, false, false, false, false] HT_.out ?_
       refine take_ (i := 7) (N := some 59) (v := ?_) (a' := ?_) #[true, true, true, true, true, true, true, true, false, true, true, false, false, false, false, false, false, false, false, false, false, false, false] rfl rfl (take_ofW HT_.out HW_.out (by kernel_rfl)) (fun _ _ _ h => h) (Or.inl ⟨by rfl, ?_⟩) hHeld ?_ ?_
       rotate_left
       ·
        rintro w' ⟨s0, s1, s2, s3, s4, s5⟩
        go_simp
        with_reducible rfl
       rotate_left
       ·
        simp only [Act.put, List.setIfInBounds_toArray, List.set_cons_zero, List.set_cons_succ, i64_w, i32_w]
        rfl
       refine one_ (i := 8) (N := some 60) #[true, true, true, true, true, true, true, true, true, true, true, false, false, false, false, false, false, false, false, false, false, false, false] rfl rfl (one_of HT_.out (by kernel_rfl)) (by decide) (fun K hK => ?_)
       refine goes_ Tryd.func17 (by kernel_rfl) rfl #[.agg #[.bool t769, .slice Ao40 t770.length co40]] (by rfl) rfl rfl (by (try simp only [List.map_toArray, List.map_cons, List.map_nil]); first | done | rfl | (simp only [List.length_drop, List.length_take]; rfl)) ?_
       with_reducible refine (integer_Int_Text.calls kj2 t769 (fun k_ => (k_ ≠ gb762 ∧ (k_ ≠ gb768 ∧ k_ ≠ gb773))) _ _ t770 t774 _ ?side1 ?side2 A43.out).mono ?_
       (case side1 => exact HO772.out)
       (case side2 => exact G_below HG.out (by with_reducible repeat first | exact HB.out | apply below_alloc | apply pw_below_drewN | apply below_drew1 | refine below_set ?_ GE762.out | refine below_set ?_ GE768.out | refine below_set ?_ GE773.out))
       rintro e w51 ⟨rfl, hb⟩
       refine ⟨_, rfl, ?_⟩
       replace HO760 := Aside0.mk (Kd.V_below (Kd.V_up HO760.out) hb)
       replace HO766 := Aside0.mk (Kd.V_below (Kd.V_up HO766.out) hb)
       replace HO772 := Aside0.mk (Kd.V_below (Kd.V_up HO772.out) hb)
       replace BK762 := Aside0.mk (blk_below (blk_up BK762.out) hb)
       replace BK768 := Aside0.mk (blk_below (blk_up BK768.out) hb)
       replace BK773 := Aside0.mk (blk_below (blk_up BK773.out) hb)
       replace HB := Aside0.mk (below_step (by with_reducible repeat first | exact HB.out | apply below_alloc | apply pw_below_drewN | apply below_drew1 | refine below_set ?_ GE762.out | refine below_set ?_ GE768.out | refine below_set ?_ GE773.out) hb)
       (try clear hb)
       (try clear hb2)
       (try clear hk)
       (try clear hi)
       refine hK.out _ _ ⟨(blk_cell BK773.out 0).trans rfl, (blk_cell BK773.out 1).trans rfl, (blk_cell BK768.out 0).trans rfl, (blk_cell BK768.out 1).trans rfl, (blk_cell BK762.out 0).trans rfl, (blk_cell BK762.out 1).trans rfl⟩ (fun hHeld => ?_)
       clear hK K
       refine norm_ (a' := ?_) ?_ ?_
       rotate_left
       ·
        show Act.put _ (some 60) _ = _
        simp only [Act.put, List.setIfInBounds_toArray, List.set_cons_zero, List.set_cons_succ, i64_w, i32_w]
        rfl
       refine one_ (i := 11) (N := some 63) #[true, true, true, true, true, true, true, true, true, true, true, true, false, false, false, false, false, false, false, false, false, false, false] rfl rfl (one_of HT_.out (by kernel_rfl)) (by decide) (fun K hK => ?_)
       refine goes_ Tryd.func30 (by kernel_rfl) rfl #[.string a0, .string a1] (by rfl) rfl rfl (by (try simp only [List.map_toArray, List.map_cons, List.map_nil]); first | done | rfl | (simp only [List.length_drop, List.length_take]; rfl)) ?_
       with_reducible refine (dowelref01_Gcd.calls kj2 a0 a1 t775 _ A44.out).mono ?_
       rintro e w52 ⟨rfl, hb⟩
       refine ⟨_, rfl, ?_⟩
       replace HO760 := Aside0.mk (Kd.V_below (Kd.V_up HO760.out) hb)
       replace HO766 := Aside0.mk (Kd.V_below (Kd.V_up HO766.out) hb)
       replace HO772 := Aside0.mk (Kd.V_below (Kd.V_up HO772.out) hb)
       replace BK762 := Aside0.mk (blk_below (blk_up BK762.out) hb)
       replace BK768 := Aside0.mk (blk_below (blk_up BK768.out) hb)
       replace BK773 := Aside0.mk (blk_below (blk_up BK773.out) hb)
       replace HB := Aside0.mk (below_step (by with_reducible repeat first | exact HB.out | apply below_alloc | apply pw_below_drewN | apply below_drew1 | refine below_set ?_ GE762.out | refine below_set ?_ GE768.out | refine below_set ?_ GE773.out) hb)
       (try clear hb)
       (try clear hb2)
       (try clear hk)
       (try clear hi)
       refine hK.out _ _ ⟨(blk_cell BK773.out 0).trans rfl, (blk_cell BK773.out 1).trans rfl, (blk_cell BK768.out 0).trans rfl, (blk_cell BK768.out 1).trans rfl, (blk_cell BK762.out 0).trans rfl, (blk_cell BK762.out 1).trans rfl⟩ (fun hHeld => ?_)
       clear hK K
       refine norm_ (a' := ?_) ?_ ?_
       rotate_left
       ·
        show Act.put _ (some 63) _ = _
        simp only [Act.put, List.setIfInBounds_toArray, List.set_cons_zero, List.set_cons_succ, i64_w, i32_w]
        rfl
       refine pu_ 12 (some 64) (bs 13 10) HT_.out ?_
       refine pu_ 13 (some 65) (bs 14 9) HT_.out ?_
       refine pu_ 14 (some 66) (bs 15 8) HT_.out ?_
       refine take_ (i := 15) (N := some 67) (v := ?_) (a' := ?_) #[true, true, true, true, true, true, true, true, true, true, true, true, true, true, true, true, false, false, false, false, false, false, false] rfl rfl (take_ofW HT_.out HW_.out (by kernel_rfl)) (fun _ _ _ h => h) (Or.inl ⟨by rfl, ?_⟩) hHeld ?_ ?_
       rotate_left
       ·
        rintro w' ⟨s0, s1, s2, s3, s4, s5⟩
        go_simp
        with_reducible rfl
       rotate_left
       ·
        simp only [Act.put, List.setIfInBounds_toArray, List.set_cons_zero, List.set_cons_succ, i64_w, i32_w]
        rfl
       refine take_ (i := 16) (N := some 68) (v := ?_) (a' := ?_) #[true, true, true, true, true, true, true, true, true, true, true, true, true, true, true, true, true, false, false, false, false, false, false] rfl rfl (take_ofW HT_.out HW_.out (by kernel_rfl)) (fun _ _ _ h => h) (Or.inl ⟨by rfl, ?_⟩) hHeld ?_ ?_
       rotate_left
       ·
        rintro w' ⟨s0, s1, s2, s3, s4, s5⟩
        go_simp
        with_reducible rfl
       rotate_left
       ·
        simp only [Act.put, List.setIfInBounds_toArray, List.set_cons_zero, List.set_cons_succ, i64_w, i32_w]
        rfl
       refine take_ (i := 19) (N := some 71) (v := ?_) (a' := ?_) #[true, true, true, true, true, true, true, true, true, true, true, true, true, true, true, true, true, false, false, true, false, false, false] rfl rfl (take_ofW HT_.out HW_.out (by kernel_rfl)) (fun _ _ _ h => h) (Or.inl ⟨by rfl, ?_⟩) hHeld ?_ ?_
       rotate_left
       ·
        rintro w' ⟨s0, s1, s2, s3, s4, s5⟩
        go_simp
        with_reducible rfl
       rotate_left
       ·
        simp only [Act.put, List.setIfInBounds_toArray, List.set_cons_zero, List.set_cons_succ, i64_w, i32_w]
        rfl
       refine one_ (i := 17) (N := some 69) #[true, true, true, true, true, true, true, true, true, true, true, true, true, true, true, true, true, true, false, true, false, false, false] rfl rfl (one_of HT_.out (by kernel_rfl)) (by decide) (fun K hK => ?_)
       refine goes_ Tryd.func29 (by kernel_rfl) rfl #[.agg #[.bool t763, .slice Ao31 t764.length co31], .agg #[.bool t757, .slice Ao26 t758.length co26]] (by rfl) rfl rfl (by (try simp only [List.map_toArray, List.map_cons, List.map_nil]); first | done | rfl | (simp only [List.length_drop, List.length_take]; rfl)) ?_
       with_reducible refine (integer_Gcd.calls kj2 t763 (fun k_ => (k_ ≠ gb762 ∧ (k_ ≠ gb768 ∧ k_ ≠ gb773))) _ _ t764 t757 (fun k_ => (k_ ≠ gb762 ∧ (k_ ≠ gb768 ∧ k_ ≠ gb773))) _ _ t758 t776 t777 _ ?side1 ?side2 A46.out).mono ?_
       (case side1 => exact HO766.out)
       (case side2 => exact HO760.out)
       rintro e w53 ⟨v778, rfl, ho0, hb⟩
       refine ⟨_, rfl, ?_⟩
       replace HO760 := Aside0.mk (Kd.V_below (Kd.V_up HO760.out) hb)
       replace HO766 := Aside0.mk (Kd.V_below (Kd.V_up HO766.out) hb)
       replace HO772 := Aside0.mk (Kd.V_below (Kd.V_up HO772.out) hb)
       have HO779 := Aside0.mk (Kd.V_lower (Kd.V_mono (ok' := fun k_ => k_ ≠ gb762 ∧ k_ ≠ gb768 ∧ k_ ≠ gb773) ho0 (fun k_ hk_ => ⟨Or.elim hk_ (fun hs_ => Or.elim hs_ (fun hs_ => hs_.1) (fun hs_ => hs_.1)) (fun hn_ => (Kd.freshB (g := gb762) (o := .cells #[.bool t757, .slice Ao26 t758.length co26] 25 (0, 0)) (blk_up BK762.out) k_ hn_)), Or.elim hk_ (fun hs_ => Or.elim hs_ (fun hs_ => hs_.2.1) (fun hs_ => hs_.2.1)) (fun hn_ => (Kd.freshB (g := gb768) (o := .cells #[.bool t763, .slice Ao31 t764.length co31] 25 (0, 0)) (blk_up BK768.out) k_ hn_)), Or.elim hk_ (fun hs_ => Or.elim hs_ (fun hs_ => hs_.2.2) (fun hs_ => hs_.2.2)) (fun hn_ => (Kd.freshB (g := gb773) (o := .cells #[.bool t769, .slice Ao40 t770.length co40] 25 (0, 0)) (blk_up BK773.out) k_ hn_))⟩)) (below_size (by with_reducible repeat first | exact HB.out | apply below_alloc | apply pw_below_drewN | apply below_drew1 | refine below_set ?_ GE762.out | refine below_set ?_ GE768.out | refine below_set ?_ GE773.out)))
       replace BK762 := Aside0.mk (blk_below (blk_up BK762.out) hb)
       replace BK768 := Aside0.mk (blk_below (blk_up BK768.out) hb)
       replace BK773 := Aside0.mk (blk_below (blk_up BK773.out) hb)
       replace HB := Aside0.mk (below_step (by with_reducible repeat first | exact HB.out | apply below_alloc | apply pw_below_drewN | apply below_drew1 | refine below_set ?_ GE762.out | refine below_set ?_ GE768.out | refine below_set ?_ GE773.out) hb)
       (try clear hb)
       (try clear hb2)
       (try clear hk)
       (try clear hi)
       (try clear ho0)
       obtain ⟨Ao54, co54, eo54⟩ := Kd.V_slice HO779.out
       (first | subst eo54 | (injection eo54 with f1_ f2_ f3_; have f4_ := f1_.symm; have f5_ := f3_.symm; clear f1_ f2_ f3_; subst f4_; subst f5_))
       refine hK.out _ _ ⟨(blk_cell BK773.out 0).trans rfl, (blk_cell BK773.out 1).trans rfl, (blk_cell BK768.out 0).trans rfl, (blk_cell BK768.out 1).trans rfl, (blk_cell BK762.out 0).trans rfl, (blk_cell BK762.out 1).trans rfl⟩ (fun hHeld => ?_)
       clear hK K
       refine norm_ (a' := ?_) ?_ ?_
       rotate_left
       ·
        show Act.put _ (some 69) _ = _
        simp only [Act.put, List.setIfInBounds_toArray, List.set_cons_zero, List.set_cons_succ, i64_w, i32_w]
        rfl
       refine one_ (i := 18) (N := some 70) #[true, true, true, true, true, true, true, true, true, true, true, true, true, true, true, true, true, true, true, true, false, false, false] rfl rfl (one_of HT_.out (by kernel_rfl)) (by decide) (fun K hK => ?_)
       refine goes_ Tryd.func17 (by kernel_rfl) rfl #[.agg #[.bool t776, .slice Ao54 t777.length co54]] (by rfl) rfl rfl (by (try simp only [List.map_toArray, List.map_cons, List.map_nil]); first | done | rfl | (simp only [List.length_drop, List.length_take]; rfl)) ?_
       with_reducible refine (integer_Int_Text.calls kj2 t776 (fun k_ => (k_ ≠ gb762 ∧ (k_ ≠ gb768 ∧ k_ ≠ gb773))) _ _ t777 t780 _ ?side1 ?side2 A47.out).mono ?_
       (case side1 => exact HO779.out)
       (case side2 => exact G_below HG.out (by with_reducible repeat first | exact HB.out | apply below_alloc | apply pw_below_drewN | apply below_drew1 | refine below_set ?_ GE762.out | refine below_set ?_ GE768.out | refine below_set ?_ GE773.out))
       rintro e w55 ⟨rfl, hb⟩
       refine ⟨_, rfl, ?_⟩
       replace HO760 := Aside0.mk (Kd.V_below (Kd.V_up HO760.out) hb)
       replace HO766 := Aside0.mk (Kd.V_below (Kd.V_up HO766.out) hb)
       replace HO772 := Aside0.mk (Kd.V_below (Kd.V_up HO772.out) hb)
       replace BK762 := Aside0.mk (blk_below (blk_up BK762.out) hb)
       replace BK768 := Aside0.mk (blk_below (blk_up BK768.out) hb)
       replace BK773 := Aside0.mk (blk_below (blk_up BK773.out) hb)
       replace HB := Aside0.mk (below_step (by with_reducible repeat first | exact HB.out | apply below_alloc | apply pw_below_drewN | apply below_drew1 | refine below_set ?_ GE762.out | refine below_set ?_ GE768.out | refine below_set ?_ GE773.out) hb)
       (try clear HO779)
       (try clear hb)
       (try clear hb2)
       (try clear hk)
       (try clear hi)
       refine hK.out _ _ ⟨(blk_cell BK773.out 0).trans rfl, (blk_cell BK773.out 1).trans rfl, (blk_cell BK768.out 0).trans rfl, (blk_cell BK768.out 1).trans rfl, (blk_cell BK762.out 0).trans rfl, (blk_cell BK762.out 1).trans rfl⟩ (fun hHeld => ?_)
       clear hK K
       refine norm_ (a' := ?_) ?_ ?_
       rotate_left
       ·
        show Act.put _ (some 70) _ = _
        simp only [Act.put, List.setIfInBounds_toArray, List.set_cons_zero, List.set_cons_succ, i64_w, i32_w]
        rfl
       refine one_ (i := 20) (N := some 72) #[true, true, true, true, true, true, true, true, true, true, true, true, true, true, true, true, true, true, true, true, true, false, false] rfl rfl (one_of HT_.out (by kernel_rfl)) (by decide) (fun K hK => ?_)
       refine goes_ Tryd.func17 (by kernel_rfl) rfl #[.agg #[.bool t769, .slice Ao40 t770.length co40]] (by rfl) rfl rfl (by (try simp only [List.map_toArray, List.map_cons, List.map_nil]); first | done | rfl | (simp only [List.length_drop, List.length_take]; rfl)) ?_
       with_reducible refine (integer_Int_Text.calls kj2 t769 (fun k_ => (k_ ≠ gb762 ∧ (k_ ≠ gb768 ∧ k_ ≠ gb773))) _ _ t770 t781 _ ?side1 ?side2 A48.out).mono ?_
       (case side1 => exact HO772.out)
       (case side2 => exact G_below HG.out (by with_reducible repeat first | exact HB.out | apply below_alloc | apply pw_below_drewN | apply below_drew1 | refine below_set ?_ GE762.out | refine below_set ?_ GE768.out | refine below_set ?_ GE773.out))
       rintro e w56 ⟨rfl, hb⟩
       refine ⟨_, rfl, ?_⟩
       replace HO760 := Aside0.mk (Kd.V_below (Kd.V_up HO760.out) hb)
       replace HO766 := Aside0.mk (Kd.V_below (Kd.V_up HO766.out) hb)
       replace HO772 := Aside0.mk (Kd.V_below (Kd.V_up HO772.out) hb)
       replace BK762 := Aside0.mk (blk_below (blk_up BK762.out) hb)
       replace BK768 := Aside0.mk (blk_below (blk_up BK768.out) hb)
       replace BK773 := Aside0.mk (blk_below (blk_up BK773.out) hb)
       replace HB := Aside0.mk (below_step (by with_reducible repeat first | exact HB.out | apply below_alloc | apply pw_below_drewN | apply below_drew1 | refine below_set ?_ GE762.out | refine below_set ?_ GE768.out | refine below_set ?_ GE773.out) hb)
       (try clear hb)
       (try clear hb2)
       (try clear hk)
       (try clear hi)
       refine hK.out _ _ ⟨(blk_cell BK773.out 0).trans rfl, (blk_cell BK773.out 1).trans rfl, (blk_cell BK768.out 0).trans rfl, (blk_cell BK768.out 1).trans rfl, (blk_cell BK762.out 0).trans rfl, (blk_cell BK762.out 1).trans rfl⟩ (fun hHeld => ?_)
       clear hK K
       refine norm_ (a' := ?_) ?_ ?_
       rotate_left
       ·
        show Act.put _ (some 72) _ = _
        simp only [Act.put, List.setIfInBounds_toArray, List.set_cons_zero, List.set_cons_succ, i64_w, i32_w]
        rfl
       refine pu_ 21 (some 73) (bs 22 1) HT_.out ?_
       refine pu_ 22 (some 74) (bs 23 0) HT_.out ?_
       refine done_ (done_of HT_.out (by kernel_rfl)) ?_
       try go_wp2
       go_meet
       case rel => exact ⟨_, ((t780.toList != t781.toList)), (by first | rfl | (simp; done) | (simp [*]; done) | (simp <;> omega)), H', ⟨by have := HJ2.out; first | omega | exact Nat.le_refl _⟩, ⟨Kd.V_up HO760.out⟩, ⟨Kd.V_up HO766.out⟩, ⟨Kd.V_up HO772.out⟩, ⟨by (with_reducible repeat (first | refine blk_drewN ?_ _ | refine blk_drew ?_ | refine blk_alloc ?_ _)); exact BK762.out⟩, ⟨by (with_reducible repeat (first | refine blk_drewN ?_ _ | refine blk_drew ?_ | refine blk_alloc ?_ _)); exact BK768.out⟩, ⟨by (with_reducible repeat (first | refine blk_drewN ?_ _ | refine blk_drew ?_ | refine blk_alloc ?_ _)); exact BK773.out⟩, ⟨by with_reducible repeat first | exact HB.out | apply below_alloc | apply pw_below_drewN | apply below_drew1 | refine below_set ?_ GE762.out | refine below_set ?_ GE768.out | refine below_set ?_ GE773.out⟩⟩
      ·
       replace c42 := Bool.eq_false_iff.mpr c42
       subst c42
       have H1 : (none) = some r := by rw [if_neg (show ¬ (false = true) by decide)] at H; exact H
       clear H
       have H := H1
       clear H1
       exact absurd H (by simp)
     ·
      replace c41 := Bool.eq_false_iff.mpr c41
      subst c41
      have H1 : (none) = some r := by rw [if_neg (show ¬ (false = true) by decide)] at H; exact H
      clear H
      have H := H1
      clear H1
      exact absurd H (by simp)
    case rest =>
     clear HC22
     obtain ⟨kq, x74_21, rfl, HA, HJ21, HO_763001, HO_769001, HO_774001, BK762, BK768, BK773, HB⟩ := hcut
     cases kq with
     | zero => exact absurd HA.out (by simp [dowellaw01_IntegerGcds.j1])
     | succ kj21 =>
      have H := HA.out
      clear HA
      simp only [dowellaw01_IntegerGcds.j1] at H
      by_cases c57 : x74_21 = true
      ·
       subst c57
       have H1 : (none) = some r := by rw [if_pos rfl] at H; exact H
       clear H
       have H := H1
       clear H1
       exact absurd H (by simp)
      ·
       replace c57 := Bool.eq_false_iff.mpr c57
       subst c57
       have H1 : ((integer_Int_Sign.f t769 t770).bind fun t782 => (if t782 = 0 then (if a0.toList = ([48] : List UInt8) then (some (a1.toList == ([48] : List UInt8))) else (none)) else ((integer_DivMod.f kj21 t757 t758 t769 t770).bind fun bt783 => ((integer_DivMod.f kj21 t763 t764 t769 t770).bind fun bt794 => (if bt783.2.2.2.2 = 0 then (if bt794.2.2.2.2 = 0 then ((integer_Int_Sign.f bt783.2.2.1 bt783.2.2.2.1).bind fun t805 => (if t805 = 0 then ((integer_Int_Sign.f bt794.2.2.1 bt794.2.2.2.1).bind fun t806 => (if t806 = 0 then ((integer_Gcd.f kj21 bt783.1 bt783.2.1 bt794.1 bt794.2.1).bind fun bt807 => ((integer_Int_Text.f kj21 bt807.1 bt807.2).bind fun t811 => (some (t811.toList == ([49] : List UInt8))))) else (none))) else (none))) else (none)) else (none)))))) = some r := by rw [if_neg (show ¬ (false = true) by decide)] at H; exact H
       clear H
       have H := H1
       clear H1
       replace H := Option.bind_eq_some_iff.mp H
       obtain ⟨t782, A580, H⟩ := H
       try dsimp only at H
       have A58 := Aside0.mk A580
       clear A580
       by_cases c59 : t782 = 0
       ·
        rw [if_pos c59] at H
        have c59b0 : (t782 == 0) = true := beq_iff_eq.mpr c59
        have c59b1 : (t782 != 0) = false := bne_eq_false_iff_eq.mpr c59
        clear c59
        obtain ⟨c60, H⟩ := ite_some H
        have c60b0 : (a0.toList == ([48] : List UInt8)) = true := beq_iff_eq.mpr c60
        have c60b1 : (a0.toList != ([48] : List UInt8)) = false := bne_eq_false_iff_eq.mpr c60
        clear c60
        obtain rfl := Option.some.inj H
        have hnb61 := NB773_762.out
        have hnc61 := NB762_773.out
        have hnb62 := NB773_768.out
        have hnc62 := NB768_773.out
        have hcz63_0 : wc.cell? ⟨gb773, 0, none⟩ = some (.bool t769) := (blk_cell BK773.out 0).trans rfl
        have hcz63_1 : wc.cell? ⟨gb773, 1, none⟩ = some (.slice Ao40 t770.length co40) := (blk_cell BK773.out 1).trans rfl
        have hfz63_0 := blk_frozen BK773.out 0
        have hfz63_1 := blk_frozen BK773.out 1
        go_wp2_with (first | ((with_reducible refine gate_callee (f := 19) rfl ?_); refine gl_ (some 76) Tryd.func19 #[.agg #[.bool t769, .slice Ao40 t770.length co40]] ?_; (with_reducible refine (integer_Int_Sign.calls t769 _ _ t770 t782 _ ?side1 ?side2 A58.out).mono ?_); (case side1 => repeat (first | exact (Kd.V_reads' HO_774001.out).2.2 | (with_reducible refine Kd.C_alloc ?_ _) | (with_reducible refine Kd.C_drewN ?_ _) | (with_reducible refine Kd.C_drew ?_))); (case side2 => exact (Kd.V_reads' HO_774001.out).2.1); rintro e w64 ⟨rfl, hb⟩; refine ⟨_, rfl, ?_⟩; replace HO_763001 := Aside0.mk (Kd.V_below (Kd.V_up HO_763001.out) hb); replace HO_769001 := Aside0.mk (Kd.V_below (Kd.V_up HO_769001.out) hb); replace HO_774001 := Aside0.mk (Kd.V_below (Kd.V_up HO_774001.out) hb); replace BK762 := Aside0.mk (blk_below (blk_up BK762.out) hb); replace BK768 := Aside0.mk (blk_below (blk_up BK768.out) hb); replace BK773 := Aside0.mk (blk_below (blk_up BK773.out) hb); replace HB := Aside0.mk (below_step (by with_reducible repeat first | exact HB.out | apply below_alloc | apply pw_below_drewN | apply below_drew1 | refine below_set ?_ GE762.out | refine below_set ?_ GE768.out | refine below_set ?_ GE773.out) hb); (try clear hb); (try clear hb2); (try clear hk); (try clear hi)))
        go_ret
        exact ⟨by first | rfl | (simp [errW_none, errW_some] <;> rfl) | (simp [*, errW_none, errW_some] <;> rfl), by with_reducible repeat first | exact HB.out | apply below_alloc | apply pw_below_drewN | apply below_drew1 | refine below_set ?_ GE762.out | refine below_set ?_ GE768.out | refine below_set ?_ GE773.out⟩
       ·
        rw [if_neg c59] at H
        have c59b0 : (t782 == 0) = false := beq_eq_false_iff_ne.mpr c59
        have c59b1 : (t782 != 0) = true := bne_iff_ne.mpr c59
        replace H := Option.bind_eq_some_iff.mp H
        obtain ⟨⟨t783, t784, t787, t788, t791⟩, A650, H⟩ := H
        try dsimp only at H
        have A65 := Aside0.mk A650
        clear A650
        replace H := Option.bind_eq_some_iff.mp H
        obtain ⟨⟨t794, t795, t798, t799, t802⟩, A660, H⟩ := H
        try dsimp only at H
        have A66 := Aside0.mk A660
        clear A660
        by_cases c67 : t791 = 0
        ·
         rw [if_pos c67] at H
         have c67b0 : (t791 == 0) = true := beq_iff_eq.mpr c67
         have c67b1 : (t791 != 0) = false := bne_eq_false_iff_eq.mpr c67
         clear c67
         obtain ⟨c68, H⟩ := ite_some H
         have c68b0 : (t802 == 0) = true := beq_iff_eq.mpr c68
         have c68b1 : (t802 != 0) = false := bne_eq_false_iff_eq.mpr c68
         clear c68
         replace H := Option.bind_eq_some_iff.mp H
         obtain ⟨t805, A690, H⟩ := H
         try dsimp only at H
         have A69 := Aside0.mk A690
         clear A690
         obtain ⟨c70, H⟩ := ite_some H
         have c70b0 : (t805 == 0) = true := beq_iff_eq.mpr c70
         have c70b1 : (t805 != 0) = false := bne_eq_false_iff_eq.mpr c70
         clear c70
         replace H := Option.bind_eq_some_iff.mp H
         obtain ⟨t806, A710, H⟩ := H
         try dsimp only at H
         have A71 := Aside0.mk A710
         clear A710
         obtain ⟨c72, H⟩ := ite_some H
         have c72b0 : (t806 == 0) = true := beq_iff_eq.mpr c72
         have c72b1 : (t806 != 0) = false := bne_eq_false_iff_eq.mpr c72
         clear c72
         replace H := Option.bind_eq_some_iff.mp H
         obtain ⟨⟨t807, t808⟩, A730, H⟩ := H
         try dsimp only at H
         have A73 := Aside0.mk A730
         clear A730
         replace H := Option.bind_eq_some_iff.mp H
         obtain ⟨t811, A740, H⟩ := H
         try dsimp only at H
         have A74 := Aside0.mk A740
         clear A740
         obtain rfl := Option.some.inj H
         have hnb75 := NB773_762.out
         have hnc75 := NB762_773.out
         have hnb76 := NB773_768.out
         have hnc76 := NB768_773.out
         have hcz77_0 : wc.cell? ⟨gb773, 0, none⟩ = some (.bool t769) := (blk_cell BK773.out 0).trans rfl
         have hcz77_1 : wc.cell? ⟨gb773, 1, none⟩ = some (.slice Ao40 t770.length co40) := (blk_cell BK773.out 1).trans rfl
         have hfz77_0 := blk_frozen BK773.out 0
         have hfz77_1 := blk_frozen BK773.out 1
         go_wp2_with (first | ((with_reducible refine gate_callee (f := 19) rfl ?_); refine gl_ (some 76) Tryd.func19 #[.agg #[.bool t769, .slice Ao40 t770.length co40]] ?_; (with_reducible refine (integer_Int_Sign.calls t769 _ _ t770 t782 _ ?side1 ?side2 A58.out).mono ?_); (case side1 => repeat (first | exact (Kd.V_reads' HO_774001.out).2.2 | (with_reducible refine Kd.C_alloc ?_ _) | (with_reducible refine Kd.C_drewN ?_ _) | (with_reducible refine Kd.C_drew ?_))); (case side2 => exact (Kd.V_reads' HO_774001.out).2.1); rintro e w78 ⟨rfl, hb⟩; refine ⟨_, rfl, ?_⟩; replace HO_763001 := Aside0.mk (Kd.V_below (Kd.V_up HO_763001.out) hb); replace HO_769001 := Aside0.mk (Kd.V_below (Kd.V_up HO_769001.out) hb); replace HO_774001 := Aside0.mk (Kd.V_below (Kd.V_up HO_774001.out) hb); replace BK762 := Aside0.mk (blk_below (blk_up BK762.out) hb); replace BK768 := Aside0.mk (blk_below (blk_up BK768.out) hb); replace BK773 := Aside0.mk (blk_below (blk_up BK773.out) hb); replace HB := Aside0.mk (below_step (by with_reducible repeat first | exact HB.out | apply below_alloc | apply pw_below_drewN | apply below_drew1 | refine below_set ?_ GE762.out | refine below_set ?_ GE768.out | refine below_set ?_ GE773.out) hb); (try clear hb); (try clear hb2); (try clear hk); (try clear hi); have hnb79 := NB762_768.out; have hnc79 := NB768_762.out; have hcz80_0 : w78.cell? ⟨gb762, 0, none⟩ = some (.bool t757) := (blk_cell BK762.out 0).trans rfl; have hcz80_1 : w78.cell? ⟨gb762, 1, none⟩ = some (.slice Ao26 t758.length co26) := (blk_cell BK762.out 1).trans rfl; have hfz80_0 := blk_frozen BK762.out 0; have hfz80_1 := blk_frozen BK762.out 1; have hcz81_0 : w78.cell? ⟨gb773, 0, none⟩ = some (.bool t769) := (blk_cell BK773.out 0).trans rfl; have hcz81_1 : w78.cell? ⟨gb773, 1, none⟩ = some (.slice Ao40 t770.length co40) := (blk_cell BK773.out 1).trans rfl; have hfz81_0 := blk_frozen BK773.out 0; have hfz81_1 := blk_frozen BK773.out 1) | ((with_reducible refine gate_callee (f := 27) rfl ?_); refine gl_ (some 87) Tryd.func27 #[.agg #[.bool t757, .slice Ao26 t758.length co26], .agg #[.bool t769, .slice Ao40 t770.length co40]] ?_; (with_reducible refine (integer_DivMod.calls kj21 t757 (fun k_ => (k_ ≠ gb762 ∧ (k_ ≠ gb768 ∧ k_ ≠ gb773))) _ _ t758 t769 _ _ t770 t783 t784 t787 t788 t791 _ ?side1 ?side2 ?side3 A65.out).mono ?_); (case side1 => exact HO_763001.out); (case side2 => repeat (first | exact (Kd.V_reads' HO_774001.out).2.2 | (with_reducible refine Kd.C_alloc ?_ _) | (with_reducible refine Kd.C_drewN ?_ _) | (with_reducible refine Kd.C_drew ?_))); (case side3 => exact (Kd.V_reads' HO_774001.out).2.1); rintro e w82 ⟨v785, v789, rfl, ho0, ho1, hb⟩; refine ⟨_, rfl, ?_⟩; have n1_ := Aside0.mk (Kd.V_below (Kd.V_up HO_769001.out) hb); have n2_ := Aside0.mk (Kd.V_below (Kd.V_up HO_774001.out) hb); have n3_ := Aside0.mk (Kd.V_lower (Kd.V_mono (ok' := fun k_ => k_ ≠ gb762 ∧ k_ ≠ gb768 ∧ k_ ≠ gb773) ho0 (fun k_ hk_ => ⟨Or.elim hk_ (fun hs_ => hs_.1) (fun hn_ => (Kd.freshB (g := gb762) (o := .cells #[.bool t757, .slice Ao26 t758.length co26] 25 (0, 0)) (blk_up BK762.out) k_ hn_)), Or.elim hk_ (fun hs_ => hs_.2.1) (fun hn_ => (Kd.freshB (g := gb768) (o := .cells #[.bool t763, .slice Ao31 t764.length co31] 25 (0, 0)) (blk_up BK768.out) k_ hn_)), Or.elim hk_ (fun hs_ => hs_.2.2) (fun hn_ => (Kd.freshB (g := gb773) (o := .cells #[.bool t769, .slice Ao40 t770.length co40] 25 (0, 0)) (blk_up BK773.out) k_ hn_))⟩)) (below_size (by with_reducible repeat first | exact HB.out | apply below_alloc | apply pw_below_drewN | apply below_drew1 | refine below_set ?_ GE762.out | refine below_set ?_ GE768.out | refine below_set ?_ GE773.out))); have n4_ := Aside0.mk (Kd.V_lower (Kd.V_mono (ok' := fun k_ => k_ ≠ gb762 ∧ k_ ≠ gb768 ∧ k_ ≠ gb773) ho1 (fun k_ hk_ => ⟨Or.elim hk_ (fun hs_ => hs_.1) (fun hn_ => (Kd.freshB (g := gb762) (o := .cells #[.bool t757, .slice Ao26 t758.length co26] 25 (0, 0)) (blk_up BK762.out) k_ hn_)), Or.elim hk_ (fun hs_ => hs_.2.1) (fun hn_ => (Kd.freshB (g := gb768) (o := .cells #[.bool t763, .slice Ao31 t764.length co31] 25 (0, 0)) (blk_up BK768.out) k_ hn_)), Or.elim hk_ (fun hs_ => hs_.2.2) (fun hn_ => (Kd.freshB (g := gb773) (o := .cells #[.bool t769, .slice Ao40 t770.length co40] 25 (0, 0)) (blk_up BK773.out) k_ hn_))⟩)) (below_size (by with_reducible repeat first | exact HB.out | apply below_alloc | apply pw_below_drewN | apply below_drew1 | refine below_set ?_ GE762.out | refine below_set ?_ GE768.out | refine below_set ?_ GE773.out))); have n5_ := Aside0.mk (blk_below (blk_up BK762.out) hb); have n6_ := Aside0.mk (blk_below (blk_up BK768.out) hb); have n7_ := Aside0.mk (blk_below (blk_up BK773.out) hb); have n8_ := Aside0.mk (below_step (by with_reducible repeat first | exact HB.out | apply below_alloc | apply pw_below_drewN | apply below_drew1 | refine below_set ?_ GE762.out | refine below_set ?_ GE768.out | refine below_set ?_ GE773.out) hb); (try clear HO_763001); clear HO_769001 HO_774001 BK762 BK768 BK773 HB; have HO_769001 := n1_; have HO_774001 := n2_; have HO786 := n3_; have HO790 := n4_; have BK762 := n5_; have BK768 := n6_; have BK773 := n7_; have HB := n8_; clear n1_ n2_ n3_ n4_ n5_ n6_ n7_ n8_; (try clear hb); (try clear hb2); (try clear hk); (try clear hi); (try clear ho0); (try clear ho1)) | ((with_reducible refine gate_dst (N := 10) rfl ?_); (try (refine gate_guard (by rfl) ?_; dsimp only)); refine box_event ?hg (N := 10) ?hd (cs := #[.bool false, .slice none 0 0]) (t := 25) ?hr ?_; (case hd => rfl); (case hg => rfl); (case hr => first | (go_simp; done) | (go_simp; rfl)); intro gb792 hg w83 hbox hb; have n1_ := Aside0.mk (Kd.V_below (Kd.V_elderB (Kd.V_up HO_769001.out) gb792 (Nat.le_of_eq hg.symm)) hb); have n2_ := Aside0.mk (Kd.V_below (Kd.V_elderB (Kd.V_up HO_774001.out) gb792 (Nat.le_of_eq hg.symm)) hb); have n3_ := Aside0.mk (Kd.V_below (Kd.V_elderB (Kd.V_up HO786.out) gb792 (Nat.le_of_eq hg.symm)) hb); have n4_ := Aside0.mk (Kd.V_below (Kd.V_elderB (Kd.V_up HO790.out) gb792 (Nat.le_of_eq hg.symm)) hb); have n5_ := Aside0.mk (blk_below (blk_up BK762.out) hb); have n6_ := Aside0.mk (blk_below (blk_up BK768.out) hb); have n7_ := Aside0.mk (blk_below (blk_up BK773.out) hb); have n8_ := Aside0.mk (below_step (by with_reducible repeat first | exact HB.out | apply below_alloc | apply pw_below_drewN | apply below_drew1 | refine below_set ?_ GE762.out | refine below_set ?_ GE768.out | refine below_set ?_ GE773.out) hb); have n9_ := Aside0.mk (hbox); have n11_ := Aside0.mk ((by rw [hg]; exact (below_size (by with_reducible repeat first | exact HB.out | apply below_alloc | apply pw_below_drewN | apply below_drew1 | refine below_set ?_ GE762.out | refine below_set ?_ GE768.out | refine below_set ?_ GE773.out)) : w.heap.size ≤ gb792)); have n12_ := Aside0.mk ((blk_nw hg BK762.out : gb762 ≠ gb792)); have n13_ := Aside0.mk ((nw_blk hg BK762.out : gb792 ≠ gb762)); have n14_ := Aside0.mk ((blk_nw hg BK768.out : gb768 ≠ gb792)); have n15_ := Aside0.mk ((nw_blk hg BK768.out : gb792 ≠ gb768)); have n16_ := Aside0.mk ((blk_nw hg BK773.out : gb773 ≠ gb792)); have n17_ := Aside0.mk ((nw_blk hg BK773.out : gb792 ≠ gb773)); clear HO_769001 HO_774001 HO786 HO790 BK762 BK768 BK773 HB; have HO_769001 := n1_; have HO_774001 := n2_; have HO786 := n3_; have HO790 := n4_; have BK762 := n5_; have BK768 := n6_; have BK773 := n7_; have HB := n8_; have BK792 := n9_; have GE792 := n11_; have NB762_792 := n12_; have NB792_762 := n13_; have NB768_792 := n14_; have NB792_768 := n15_; have NB773_792 := n16_; have NB792_773 := n17_; clear n1_ n2_ n3_ n4_ n5_ n6_ n7_ n8_ n9_ n11_ n12_ n13_ n14_ n15_ n16_ n17_ hb hbox hg) | ((with_reducible refine gate_dst (N := 11) rfl ?_); (try (refine gate_guard (by rfl) ?_; dsimp only)); refine box_event ?hg (N := 11) ?hd (cs := #[.bool false, .slice none 0 0]) (t := 25) ?hr ?_; (case hd => rfl); (case hg => rfl); (case hr => first | (go_simp; done) | (go_simp; rfl)); intro gb793 hg w84 hbox hb; have n1_ := Aside0.mk (Kd.V_below (Kd.V_elderB (Kd.V_up HO_769001.out) gb793 (Nat.le_of_eq hg.symm)) hb); have n2_ := Aside0.mk (Kd.V_below (Kd.V_elderB (Kd.V_up HO_774001.out) gb793 (Nat.le_of_eq hg.symm)) hb); have n3_ := Aside0.mk (Kd.V_below (Kd.V_elderB (Kd.V_up HO786.out) gb793 (Nat.le_of_eq hg.symm)) hb); have n4_ := Aside0.mk (Kd.V_below (Kd.V_elderB (Kd.V_up HO790.out) gb793 (Nat.le_of_eq hg.symm)) hb); have n5_ := Aside0.mk (blk_below (blk_up BK762.out) hb); have n6_ := Aside0.mk (blk_below (blk_up BK768.out) hb); have n7_ := Aside0.mk (blk_below (blk_up BK773.out) hb); have n8_ := Aside0.mk (blk_below (blk_up BK792.out) hb); have n9_ := Aside0.mk (below_step (by with_reducible repeat first | exact HB.out | apply below_alloc | apply pw_below_drewN | apply below_drew1 | refine below_set ?_ GE762.out | refine below_set ?_ GE768.out | refine below_set ?_ GE773.out | refine below_set ?_ GE792.out) hb); have n10_ := Aside0.mk (hbox); have n12_ := Aside0.mk ((by rw [hg]; exact (below_size (by with_reducible repeat first | exact HB.out | apply below_alloc | apply pw_below_drewN | apply below_drew1 | refine below_set ?_ GE762.out | refine below_set ?_ GE768.out | refine below_set ?_ GE773.out | refine below_set ?_ GE792.out)) : w.heap.size ≤ gb793)); have n13_ := Aside0.mk ((blk_nw hg BK762.out : gb762 ≠ gb793)); have n14_ := Aside0.mk ((nw_blk hg BK762.out : gb793 ≠ gb762)); have n15_ := Aside0.mk ((blk_nw hg BK768.out : gb768 ≠ gb793)); have n16_ := Aside0.mk ((nw_blk hg BK768.out : gb793 ≠ gb768)); have n17_ := Aside0.mk ((blk_nw hg BK773.out : gb773 ≠ gb793)); have n18_ := Aside0.mk ((nw_blk hg BK773.out : gb793 ≠ gb773)); have n19_ := Aside0.mk ((blk_nw hg BK792.out : gb792 ≠ gb793)); have n20_ := Aside0.mk ((nw_blk hg BK792.out : gb793 ≠ gb792)); clear HO_769001 HO_774001 HO786 HO790 BK762 BK768 BK773 BK792 HB; have HO_769001 := n1_; have HO_774001 := n2_; have HO786 := n3_; have HO790 := n4_; have BK762 := n5_; have BK768 := n6_; have BK773 := n7_; have BK792 := n8_; have HB := n9_; have BK793 := n10_; have GE793 := n12_; have NB762_793 := n13_; have NB793_762 := n14_; have NB768_793 := n15_; have NB793_768 := n16_; have NB773_793 := n17_; have NB793_773 := n18_; have NB792_793 := n19_; have NB793_792 := n20_; clear n1_ n2_ n3_ n4_ n5_ n6_ n7_ n8_ n9_ n10_ n12_ n13_ n14_ n15_ n16_ n17_ n18_ n19_ n20_ hb hbox hg; have hnb85 := NB792_762.out; have hnc85 := NB762_792.out; have hnb86 := NB792_768.out; have hnc86 := NB768_792.out; have hnb87 := NB792_773.out; have hnc87 := NB773_792.out; have hnb88 := NB792_793.out; have hnc88 := NB793_792.out; have hcz89_0 : w84.cell? ⟨gb792, 0, none⟩ = some (.bool false) := (blk_cell BK792.out 0).trans rfl; have hcz89_1 : w84.cell? ⟨gb792, 1, none⟩ = some (.slice none 0 0) := (blk_cell BK792.out 1).trans rfl; have hfz89_0 := blk_frozen BK792.out 0; have hfz89_1 := blk_frozen BK792.out 1; obtain ⟨Ao90, co90, eo90⟩ := Kd.V_slice HO786.out; subst eo90) | ((with_reducible refine gate_store (t := 25) (p := 10) rfl ?_); refine store_event (t := 25) (p := 10) (v := ?vo_w91) (w1 := ((w84.setCell ⟨gb792, 0, none⟩ (.bool t783)).setCell ⟨gb792, 1, none⟩ (.slice Ao90 t784.length co90))) ?hg ?ho ?hn ?hr ?_; (case ho => rfl); (case hg => rfl); (case hn => rfl); (case hr => first | (go_simp; done) | (go_simp; rfl)); intro w91 hw; have n1_ : Aside0 (Kd.V (Kd.int .u32) 60 w91 w.heap.size (fun k_ => k_ ≠ gb762 ∧ k_ ≠ gb768 ∧ k_ ≠ gb773 ∧ k_ ≠ gb792 ∧ k_ ≠ gb793) (.slice Ao31 t764.length co31) t764) := ⟨(by rw [hw]; exact (Kd.V_up (Kd.V_mono (Kd.V_far (p := ⟨gb792, 1, none⟩) (Kd.V_far (p := ⟨gb792, 0, none⟩) (Kd.V_mono HO_769001.out (fun k_ hk => (⟨hk, hk.1.2⟩ : _ ∧ k_ ≠ gb792))) (fun _ hk => hk.2) (.bool t783)) (fun _ hk => hk.2) (.slice Ao90 t784.length co90)) (fun _ hk => ⟨hk.1.1.1.1, ⟨hk.1.1.1.2.1, ⟨hk.1.1.1.2.2, ⟨hk.1.1.2, hk.1.2⟩⟩⟩⟩))))⟩; have n2_ : Aside0 (Kd.V (Kd.int .u32) 60 w91 w.heap.size (fun k_ => k_ ≠ gb762 ∧ k_ ≠ gb768 ∧ k_ ≠ gb773 ∧ k_ ≠ gb792 ∧ k_ ≠ gb793) (.slice Ao40 t770.length co40) t770) := ⟨(by rw [hw]; exact (Kd.V_up (Kd.V_mono (Kd.V_far (p := ⟨gb792, 1, none⟩) (Kd.V_far (p := ⟨gb792, 0, none⟩) (Kd.V_mono HO_774001.out (fun k_ hk => (⟨hk, hk.1.2⟩ : _ ∧ k_ ≠ gb792))) (fun _ hk => hk.2) (.bool t783)) (fun _ hk => hk.2) (.slice Ao90 t784.length co90)) (fun _ hk => ⟨hk.1.1.1.1, ⟨hk.1.1.1.2.1, ⟨hk.1.1.1.2.2, ⟨hk.1.1.2, hk.1.2⟩⟩⟩⟩))))⟩; have n3_ : Aside0 (Kd.V (Kd.int .u32) 60 w91 w.heap.size (fun k_ => k_ ≠ gb762 ∧ k_ ≠ gb768 ∧ k_ ≠ gb773 ∧ k_ ≠ gb792 ∧ k_ ≠ gb793) (.slice Ao90 t784.length co90) t784) := ⟨(by rw [hw]; exact (Kd.V_up (Kd.V_mono (Kd.V_far (p := ⟨gb792, 1, none⟩) (Kd.V_far (p := ⟨gb792, 0, none⟩) (Kd.V_mono HO786.out (fun k_ hk => (⟨hk, hk.1.2⟩ : _ ∧ k_ ≠ gb792))) (fun _ hk => hk.2) (.bool t783)) (fun _ hk => hk.2) (.slice Ao90 t784.length co90)) (fun _ hk => ⟨hk.1.1.1.1, ⟨hk.1.1.1.2.1, ⟨hk.1.1.1.2.2, ⟨hk.1.1.2, hk.1.2⟩⟩⟩⟩))))⟩; have n4_ : Aside0 (Kd.V (Kd.int .u32) 60 w91 w.heap.size (fun k_ => k_ ≠ gb762 ∧ k_ ≠ gb768 ∧ k_ ≠ gb773 ∧ k_ ≠ gb792 ∧ k_ ≠ gb793) v789 t788) := ⟨(by rw [hw]; exact (Kd.V_up (Kd.V_mono (Kd.V_far (p := ⟨gb792, 1, none⟩) (Kd.V_far (p := ⟨gb792, 0, none⟩) (Kd.V_mono HO790.out (fun k_ hk => (⟨hk, hk.1.2⟩ : _ ∧ k_ ≠ gb792))) (fun _ hk => hk.2) (.bool t783)) (fun _ hk => hk.2) (.slice Ao90 t784.length co90)) (fun _ hk => ⟨hk.1.1.1.1, ⟨hk.1.1.1.2.1, ⟨hk.1.1.1.2.2, ⟨hk.1.1.2, hk.1.2⟩⟩⟩⟩))))⟩; have n5_ : Aside0 (w91.heap[gb762]? = some (.cells #[.bool t757, .slice Ao26 t758.length co26] 25 (0, 0))) := ⟨(by rw [hw]; exact (by refine blk_ups ?_; refine blk_far ?_ NB762_792.out _; refine blk_ups ?_; refine blk_far ?_ NB762_792.out _; exact blk_up BK762.out))⟩; have n6_ : Aside0 (w91.heap[gb768]? = some (.cells #[.bool t763, .slice Ao31 t764.length co31] 25 (0, 0))) := ⟨(by rw [hw]; exact (by refine blk_ups ?_; refine blk_far ?_ NB768_792.out _; refine blk_ups ?_; refine blk_far ?_ NB768_792.out _; exact blk_up BK768.out))⟩; have n7_ : Aside0 (w91.heap[gb773]? = some (.cells #[.bool t769, .slice Ao40 t770.length co40] 25 (0, 0))) := ⟨(by rw [hw]; exact (by refine blk_ups ?_; refine blk_far ?_ NB773_792.out _; refine blk_ups ?_; refine blk_far ?_ NB773_792.out _; exact blk_up BK773.out))⟩; have n8_ : Aside0 (w91.heap[gb792]? = some (.cells #[.bool t783, .slice Ao90 t784.length co90] 25 (0, 0))) := ⟨(by rw [hw]; exact (by refine blk_ups ?_; refine blk_put (cs := #[.bool t783, .slice none 0 0]) ?_ 1 _ rfl; refine blk_ups ?_; refine blk_put (cs := #[.bool false, .slice none 0 0]) ?_ 0 _ rfl; exact blk_up BK792.out))⟩; have n9_ : Aside0 (w91.heap[gb793]? = some (.cells #[.bool false, .slice none 0 0] 25 (0, 0))) := ⟨(by rw [hw]; exact (by refine blk_ups ?_; refine blk_far ?_ NB793_792.out _; refine blk_ups ?_; refine blk_far ?_ NB793_792.out _; exact blk_up BK793.out))⟩; have n10_ : Aside0 (Below w.heap.size w w91) := ⟨(by rw [hw]; exact (by with_reducible repeat first | exact HB.out | apply below_alloc | apply pw_below_drewN | apply below_drew1 | refine below_set ?_ GE762.out | refine below_set ?_ GE768.out | refine below_set ?_ GE773.out | refine below_set ?_ GE792.out | refine below_set ?_ GE793.out))⟩; clear hw HO_769001 HO_774001 HO786 HO790 BK762 BK768 BK773 BK792 BK793 HB; have HO_769001 := n1_; have HO_774001 := n2_; have HO786 := n3_; have HO790 := n4_; have BK762 := n5_; have BK768 := n6_; have BK773 := n7_; have BK792 := n8_; have BK793 := n9_; have HB := n10_; clear n1_ n2_ n3_ n4_ n5_ n6_ n7_ n8_ n9_ n10_; have hnb92 := NB793_762.out; have hnc92 := NB762_793.out; have hnb93 := NB793_768.out; have hnc93 := NB768_793.out; have hnb94 := NB793_773.out; have hnc94 := NB773_793.out; have hcz95_0 : w91.cell? ⟨gb793, 0, none⟩ = some (.bool false) := (blk_cell BK793.out 0).trans rfl; have hcz95_1 : w91.cell? ⟨gb793, 1, none⟩ = some (.slice none 0 0) := (blk_cell BK793.out 1).trans rfl; have hfz95_0 := blk_frozen BK793.out 0; have hfz95_1 := blk_frozen BK793.out 1; obtain ⟨Ao96, co96, eo96⟩ := Kd.V_slice HO790.out; subst eo96) | ((with_reducible refine gate_store (t := 25) (p := 11) rfl ?_); refine store_event (t := 25) (p := 11) (v := ?vo_w97) (w1 := ((w91.setCell ⟨gb793, 0, none⟩ (.bool t787)).setCell ⟨gb793, 1, none⟩ (.slice Ao96 t788.length co96))) ?hg ?ho ?hn ?hr ?_; (case ho => rfl); (case hg => rfl); (case hn => rfl); (case hr => first | (go_simp; done) | (go_simp; rfl)); intro w97 hw; have n1_ : Aside0 (Kd.V (Kd.int .u32) 60 w97 w.heap.size (fun k_ => k_ ≠ gb762 ∧ k_ ≠ gb768 ∧ k_ ≠ gb773 ∧ k_ ≠ gb792 ∧ k_ ≠ gb793) (.slice Ao31 t764.length co31) t764) := ⟨(by rw [hw]; exact (Kd.V_up (Kd.V_mono (Kd.V_far (p := ⟨gb793, 1, none⟩) (Kd.V_far (p := ⟨gb793, 0, none⟩) (Kd.V_mono HO_769001.out (fun k_ hk => (⟨hk, hk.2.2.2.2⟩ : _ ∧ k_ ≠ gb793))) (fun _ hk => hk.2) (.bool t787)) (fun _ hk => hk.2) (.slice Ao96 t788.length co96)) (fun _ hk => ⟨hk.1.1, ⟨hk.1.2.1, ⟨hk.1.2.2.1, ⟨hk.1.2.2.2.1, hk.1.2.2.2.2⟩⟩⟩⟩))))⟩; have n2_ : Aside0 (Kd.V (Kd.int .u32) 60 w97 w.heap.size (fun k_ => k_ ≠ gb762 ∧ k_ ≠ gb768 ∧ k_ ≠ gb773 ∧ k_ ≠ gb792 ∧ k_ ≠ gb793) (.slice Ao40 t770.length co40) t770) := ⟨(by rw [hw]; exact (Kd.V_up (Kd.V_mono (Kd.V_far (p := ⟨gb793, 1, none⟩) (Kd.V_far (p := ⟨gb793, 0, none⟩) (Kd.V_mono HO_774001.out (fun k_ hk => (⟨hk, hk.2.2.2.2⟩ : _ ∧ k_ ≠ gb793))) (fun _ hk => hk.2) (.bool t787)) (fun _ hk => hk.2) (.slice Ao96 t788.length co96)) (fun _ hk => ⟨hk.1.1, ⟨hk.1.2.1, ⟨hk.1.2.2.1, ⟨hk.1.2.2.2.1, hk.1.2.2.2.2⟩⟩⟩⟩))))⟩; have n3_ : Aside0 (Kd.V (Kd.int .u32) 60 w97 w.heap.size (fun k_ => k_ ≠ gb762 ∧ k_ ≠ gb768 ∧ k_ ≠ gb773 ∧ k_ ≠ gb792 ∧ k_ ≠ gb793) (.slice Ao90 t784.length co90) t784) := ⟨(by rw [hw]; exact (Kd.V_up (Kd.V_mono (Kd.V_far (p := ⟨gb793, 1, none⟩) (Kd.V_far (p := ⟨gb793, 0, none⟩) (Kd.V_mono HO786.out (fun k_ hk => (⟨hk, hk.2.2.2.2⟩ : _ ∧ k_ ≠ gb793))) (fun _ hk => hk.2) (.bool t787)) (fun _ hk => hk.2) (.slice Ao96 t788.length co96)) (fun _ hk => ⟨hk.1.1, ⟨hk.1.2.1, ⟨hk.1.2.2.1, ⟨hk.1.2.2.2.1, hk.1.2.2.2.2⟩⟩⟩⟩))))⟩; have n4_ : Aside0 (Kd.V (Kd.int .u32) 60 w97 w.heap.size (fun k_ => k_ ≠ gb762 ∧ k_ ≠ gb768 ∧ k_ ≠ gb773 ∧ k_ ≠ gb792 ∧ k_ ≠ gb793) (.slice Ao96 t788.length co96) t788) := ⟨(by rw [hw]; exact (Kd.V_up (Kd.V_mono (Kd.V_far (p := ⟨gb793, 1, none⟩) (Kd.V_far (p := ⟨gb793, 0, none⟩) (Kd.V_mono HO790.out (fun k_ hk => (⟨hk, hk.2.2.2.2⟩ : _ ∧ k_ ≠ gb793))) (fun _ hk => hk.2) (.bool t787)) (fun _ hk => hk.2) (.slice Ao96 t788.length co96)) (fun _ hk => ⟨hk.1.1, ⟨hk.1.2.1, ⟨hk.1.2.2.1, ⟨hk.1.2.2.2.1, hk.1.2.2.2.2⟩⟩⟩⟩))))⟩; have n5_ : Aside0 (w97.heap[gb762]? = some (.cells #[.bool t757, .slice Ao26 t758.length co26] 25 (0, 0))) := ⟨(by rw [hw]; exact (by refine blk_ups ?_; refine blk_far ?_ NB762_793.out _; refine blk_ups ?_; refine blk_far ?_ NB762_793.out _; exact blk_up BK762.out))⟩; have n6_ : Aside0 (w97.heap[gb768]? = some (.cells #[.bool t763, .slice Ao31 t764.length co31] 25 (0, 0))) := ⟨(by rw [hw]; exact (by refine blk_ups ?_; refine blk_far ?_ NB768_793.out _; refine blk_ups ?_; refine blk_far ?_ NB768_793.out _; exact blk_up BK768.out))⟩; have n7_ : Aside0 (w97.heap[gb773]? = some (.cells #[.bool t769, .slice Ao40 t770.length co40] 25 (0, 0))) := ⟨(by rw [hw]; exact (by refine blk_ups ?_; refine blk_far ?_ NB773_793.out _; refine blk_ups ?_; refine blk_far ?_ NB773_793.out _; exact blk_up BK773.out))⟩; have n8_ : Aside0 (w97.heap[gb792]? = some (.cells #[.bool t783, .slice Ao90 t784.length co90] 25 (0, 0))) := ⟨(by rw [hw]; exact (by refine blk_ups ?_; refine blk_far ?_ NB792_793.out _; refine blk_ups ?_; refine blk_far ?_ NB792_793.out _; exact blk_up BK792.out))⟩; have n9_ : Aside0 (w97.heap[gb793]? = some (.cells #[.bool t787, .slice Ao96 t788.length co96] 25 (0, 0))) := ⟨(by rw [hw]; exact (by refine blk_ups ?_; refine blk_put (cs := #[.bool t787, .slice none 0 0]) ?_ 1 _ rfl; refine blk_ups ?_; refine blk_put (cs := #[.bool false, .slice none 0 0]) ?_ 0 _ rfl; exact blk_up BK793.out))⟩; have n10_ : Aside0 (Below w.heap.size w w97) := ⟨(by rw [hw]; exact (by with_reducible repeat first | exact HB.out | apply below_alloc | apply pw_below_drewN | apply below_drew1 | refine below_set ?_ GE762.out | refine below_set ?_ GE768.out | refine below_set ?_ GE773.out | refine below_set ?_ GE792.out | refine below_set ?_ GE793.out))⟩; clear hw HO_769001 HO_774001 HO786 HO790 BK762 BK768 BK773 BK792 BK793 HB; have HO_769001 := n1_; have HO_774001 := n2_; have HO786 := n3_; have HO790 := n4_; have BK762 := n5_; have BK768 := n6_; have BK773 := n7_; have BK792 := n8_; have BK793 := n9_; have HB := n10_; clear n1_ n2_ n3_ n4_ n5_ n6_ n7_ n8_ n9_ n10_; have hcz98_0 : w97.cell? ⟨gb768, 0, none⟩ = some (.bool t763) := (blk_cell BK768.out 0).trans rfl; have hcz98_1 : w97.cell? ⟨gb768, 1, none⟩ = some (.slice Ao31 t764.length co31) := (blk_cell BK768.out 1).trans rfl; have hfz98_0 := blk_frozen BK768.out 0; have hfz98_1 := blk_frozen BK768.out 1; have hcz99_0 : w97.cell? ⟨gb773, 0, none⟩ = some (.bool t769) := (blk_cell BK773.out 0).trans rfl; have hcz99_1 : w97.cell? ⟨gb773, 1, none⟩ = some (.slice Ao40 t770.length co40) := (blk_cell BK773.out 1).trans rfl; have hfz99_0 := blk_frozen BK773.out 0; have hfz99_1 := blk_frozen BK773.out 1) | ((with_reducible refine gate_callee (f := 27) rfl ?_); refine gl_ (some 94) Tryd.func27 #[.agg #[.bool t763, .slice Ao31 t764.length co31], .agg #[.bool t769, .slice Ao40 t770.length co40]] ?_; (with_reducible refine (integer_DivMod.calls kj21 t763 (fun k_ => (k_ ≠ gb762 ∧ (k_ ≠ gb768 ∧ (k_ ≠ gb773 ∧ (k_ ≠ gb792 ∧ k_ ≠ gb793))))) _ _ t764 t769 _ _ t770 t794 t795 t798 t799 t802 _ ?side1 ?side2 ?side3 A66.out).mono ?_); (case side1 => exact HO_769001.out); (case side2 => repeat (first | exact (Kd.V_reads' HO_774001.out).2.2 | (with_reducible refine Kd.C_alloc ?_ _) | (with_reducible refine Kd.C_drewN ?_ _) | (with_reducible refine Kd.C_drew ?_))); (case side3 => exact (Kd.V_reads' HO_774001.out).2.1); rintro e w100 ⟨v796, v800, rfl, ho0, ho1, hb⟩; refine ⟨_, rfl, ?_⟩; have n3_ := Aside0.mk (Kd.V_below (Kd.V_up HO786.out) hb); have n4_ := Aside0.mk (Kd.V_below (Kd.V_up HO790.out) hb); have n5_ := Aside0.mk (Kd.V_lower (Kd.V_mono (ok' := fun k_ => k_ ≠ gb762 ∧ k_ ≠ gb768 ∧ k_ ≠ gb773 ∧ k_ ≠ gb792 ∧ k_ ≠ gb793) ho0 (fun k_ hk_ => ⟨Or.elim hk_ (fun hs_ => hs_.1) (fun hn_ => (Kd.freshB (g := gb762) (o := .cells #[.bool t757, .slice Ao26 t758.length co26] 25 (0, 0)) (blk_up BK762.out) k_ hn_)), Or.elim hk_ (fun hs_ => hs_.2.1) (fun hn_ => (Kd.freshB (g := gb768) (o := .cells #[.bool t763, .slice Ao31 t764.length co31] 25 (0, 0)) (blk_up BK768.out) k_ hn_)), Or.elim hk_ (fun hs_ => hs_.2.2.1) (fun hn_ => (Kd.freshB (g := gb773) (o := .cells #[.bool t769, .slice Ao40 t770.length co40] 25 (0, 0)) (blk_up BK773.out) k_ hn_)), Or.elim hk_ (fun hs_ => hs_.2.2.2.1) (fun hn_ => (Kd.freshB (g := gb792) (o := .cells #[.bool t783, .slice Ao90 t784.length co90] 25 (0, 0)) (blk_up BK792.out) k_ hn_)), Or.elim hk_ (fun hs_ => hs_.2.2.2.2) (fun hn_ => (Kd.freshB (g := gb793) (o := .cells #[.bool t787, .slice Ao96 t788.length co96] 25 (0, 0)) (blk_up BK793.out) k_ hn_))⟩)) (below_size (by with_reducible repeat first | exact HB.out | apply below_alloc | apply pw_below_drewN | apply below_drew1 | refine below_set ?_ GE762.out | refine below_set ?_ GE768.out | refine below_set ?_ GE773.out | refine below_set ?_ GE792.out | refine below_set ?_ GE793.out))); have n6_ := Aside0.mk (Kd.V_lower (Kd.V_mono (ok' := fun k_ => k_ ≠ gb762 ∧ k_ ≠ gb768 ∧ k_ ≠ gb773 ∧ k_ ≠ gb792 ∧ k_ ≠ gb793) ho1 (fun k_ hk_ => ⟨Or.elim hk_ (fun hs_ => hs_.1) (fun hn_ => (Kd.freshB (g := gb762) (o := .cells #[.bool t757, .slice Ao26 t758.length co26] 25 (0, 0)) (blk_up BK762.out) k_ hn_)), Or.elim hk_ (fun hs_ => hs_.2.1) (fun hn_ => (Kd.freshB (g := gb768) (o := .cells #[.bool t763, .slice Ao31 t764.length co31] 25 (0, 0)) (blk_up BK768.out) k_ hn_)), Or.elim hk_ (fun hs_ => hs_.2.2.1) (fun hn_ => (Kd.freshB (g := gb773) (o := .cells #[.bool t769, .slice Ao40 t770.length co40] 25 (0, 0)) (blk_up BK773.out) k_ hn_)), Or.elim hk_ (fun hs_ => hs_.2.2.2.1) (fun hn_ => (Kd.freshB (g := gb792) (o := .cells #[.bool t783, .slice Ao90 t784.length co90] 25 (0, 0)) (blk_up BK792.out) k_ hn_)), Or.elim hk_ (fun hs_ => hs_.2.2.2.2) (fun hn_ => (Kd.freshB (g := gb793) (o := .cells #[.bool t787, .slice Ao96 t788.length co96] 25 (0, 0)) (blk_up BK793.out) k_ hn_))⟩)) (below_size (by with_reducible repeat first | exact HB.out | apply below_alloc | apply pw_below_drewN | apply below_drew1 | refine below_set ?_ GE762.out | refine below_set ?_ GE768.out | refine below_set ?_ GE773.out | refine below_set ?_ GE792.out | refine below_set ?_ GE793.out))); have n7_ := Aside0.mk (blk_below (blk_up BK762.out) hb); have n8_ := Aside0.mk (blk_below (blk_up BK768.out) hb); have n9_ := Aside0.mk (blk_below (blk_up BK773.out) hb); have n10_ := Aside0.mk (blk_below (blk_up BK792.out) hb); have n11_ := Aside0.mk (blk_below (blk_up BK793.out) hb); have n12_ := Aside0.mk (below_step (by with_reducible repeat first | exact HB.out | apply below_alloc | apply pw_below_drewN | apply below_drew1 | refine below_set ?_ GE762.out | refine below_set ?_ GE768.out | refine below_set ?_ GE773.out | refine below_set ?_ GE792.out | refine below_set ?_ GE793.out) hb); (try clear HO_769001); (try clear HO_774001); clear HO786 HO790 BK762 BK768 BK773 BK792 BK793 HB; have HO786 := n3_; have HO790 := n4_; have HO797 := n5_; have HO801 := n6_; have BK762 := n7_; have BK768 := n8_; have BK773 := n9_; have BK792 := n10_; have BK793 := n11_; have HB := n12_; clear n3_ n4_ n5_ n6_ n7_ n8_ n9_ n10_ n11_ n12_; (try clear hb); (try clear hb2); (try clear hk); (try clear hi); (try clear ho0); (try clear ho1)) | ((with_reducible refine gate_dst (N := 13) rfl ?_); (try (refine gate_guard (by rfl) ?_; dsimp only)); refine box_event ?hg (N := 13) ?hd (cs := #[.bool false, .slice none 0 0]) (t := 25) ?hr ?_; (case hd => rfl); (case hg => rfl); (case hr => first | (go_simp; done) | (go_simp; rfl)); intro gb803 hg w101 hbox hb; have n3_ := Aside0.mk (Kd.V_below (Kd.V_elderB (Kd.V_up HO786.out) gb803 (Nat.le_of_eq hg.symm)) hb); have n4_ := Aside0.mk (Kd.V_below (Kd.V_elderB (Kd.V_up HO790.out) gb803 (Nat.le_of_eq hg.symm)) hb); have n5_ := Aside0.mk (Kd.V_below (Kd.V_elderB (Kd.V_up HO797.out) gb803 (Nat.le_of_eq hg.symm)) hb); have n6_ := Aside0.mk (Kd.V_below (Kd.V_elderB (Kd.V_up HO801.out) gb803 (Nat.le_of_eq hg.symm)) hb); have n7_ := Aside0.mk (blk_below (blk_up BK762.out) hb); have n8_ := Aside0.mk (blk_below (blk_up BK768.out) hb); have n9_ := Aside0.mk (blk_below (blk_up BK773.out) hb); have n10_ := Aside0.mk (blk_below (blk_up BK792.out) hb); have n11_ := Aside0.mk (blk_below (blk_up BK793.out) hb); have n12_ := Aside0.mk (below_step (by with_reducible repeat first | exact HB.out | apply below_alloc | apply pw_below_drewN | apply below_drew1 | refine below_set ?_ GE762.out | refine below_set ?_ GE768.out | refine below_set ?_ GE773.out | refine below_set ?_ GE792.out | refine below_set ?_ GE793.out) hb); have n13_ := Aside0.mk (hbox); have n15_ := Aside0.mk ((by rw [hg]; exact (below_size (by with_reducible repeat first | exact HB.out | apply below_alloc | apply pw_below_drewN | apply below_drew1 | refine below_set ?_ GE762.out | refine below_set ?_ GE768.out | refine below_set ?_ GE773.out | refine below_set ?_ GE792.out | refine below_set ?_ GE793.out)) : w.heap.size ≤ gb803)); have n16_ := Aside0.mk ((blk_nw hg BK762.out : gb762 ≠ gb803)); have n17_ := Aside0.mk ((nw_blk hg BK762.out : gb803 ≠ gb762)); have n18_ := Aside0.mk ((blk_nw hg BK768.out : gb768 ≠ gb803)); have n19_ := Aside0.mk ((nw_blk hg BK768.out : gb803 ≠ gb768)); have n20_ := Aside0.mk ((blk_nw hg BK773.out : gb773 ≠ gb803)); have n21_ := Aside0.mk ((nw_blk hg BK773.out : gb803 ≠ gb773)); have n22_ := Aside0.mk ((blk_nw hg BK792.out : gb792 ≠ gb803)); have n23_ := Aside0.mk ((nw_blk hg BK792.out : gb803 ≠ gb792)); have n24_ := Aside0.mk ((blk_nw hg BK793.out : gb793 ≠ gb803)); have n25_ := Aside0.mk ((nw_blk hg BK793.out : gb803 ≠ gb793)); clear HO786 HO790 HO797 HO801 BK762 BK768 BK773 BK792 BK793 HB; have HO786 := n3_; have HO790 := n4_; have HO797 := n5_; have HO801 := n6_; have BK762 := n7_; have BK768 := n8_; have BK773 := n9_; have BK792 := n10_; have BK793 := n11_; have HB := n12_; have BK803 := n13_; have GE803 := n15_; have NB762_803 := n16_; have NB803_762 := n17_; have NB768_803 := n18_; have NB803_768 := n19_; have NB773_803 := n20_; have NB803_773 := n21_; have NB792_803 := n22_; have NB803_792 := n23_; have NB793_803 := n24_; have NB803_793 := n25_; clear n3_ n4_ n5_ n6_ n7_ n8_ n9_ n10_ n11_ n12_ n13_ n15_ n16_ n17_ n18_ n19_ n20_ n21_ n22_ n23_ n24_ n25_ hb hbox hg) | ((with_reducible refine gate_dst (N := 14) rfl ?_); (try (refine gate_guard (by rfl) ?_; dsimp only)); refine box_event ?hg (N := 14) ?hd (cs := #[.bool false, .slice none 0 0]) (t := 25) ?hr ?_; (case hd => rfl); (case hg => rfl); (case hr => first | (go_simp; done) | (go_simp; rfl)); intro gb804 hg w102 hbox hb; have n3_ := Aside0.mk (Kd.V_below (Kd.V_elderB (Kd.V_up HO786.out) gb804 (Nat.le_of_eq hg.symm)) hb); have n4_ := Aside0.mk (Kd.V_below (Kd.V_elderB (Kd.V_up HO790.out) gb804 (Nat.le_of_eq hg.symm)) hb); have n5_ := Aside0.mk (Kd.V_below (Kd.V_elderB (Kd.V_up HO797.out) gb804 (Nat.le_of_eq hg.symm)) hb); have n6_ := Aside0.mk (Kd.V_below (Kd.V_elderB (Kd.V_up HO801.out) gb804 (Nat.le_of_eq hg.symm)) hb); have n7_ := Aside0.mk (blk_below (blk_up BK762.out) hb); have n8_ := Aside0.mk (blk_below (blk_up BK768.out) hb); have n9_ := Aside0.mk (blk_below (blk_up BK773.out) hb); have n10_ := Aside0.mk (blk_below (blk_up BK792.out) hb); have n11_ := Aside0.mk (blk_below (blk_up BK793.out) hb); have n12_ := Aside0.mk (blk_below (blk_up BK803.out) hb); have n13_ := Aside0.mk (below_step (by with_reducible repeat first | exact HB.out | apply below_alloc | apply pw_below_drewN | apply below_drew1 | refine below_set ?_ GE762.out | refine below_set ?_ GE768.out | refine below_set ?_ GE773.out | refine below_set ?_ GE792.out | refine below_set ?_ GE793.out | refine below_set ?_ GE803.out) hb); have n14_ := Aside0.mk (hbox); have n16_ := Aside0.mk ((by rw [hg]; exact (below_size (by with_reducible repeat first | exact HB.out | apply below_alloc | apply pw_below_drewN | apply below_drew1 | refine below_set ?_ GE762.out | refine below_set ?_ GE768.out | refine below_set ?_ GE773.out | refine below_set ?_ GE792.out | refine below_set ?_ GE793.out | refine below_set ?_ GE803.out)) : w.heap.size ≤ gb804)); have n17_ := Aside0.mk ((blk_nw hg BK762.out : gb762 ≠ gb804)); have n18_ := Aside0.mk ((nw_blk hg BK762.out : gb804 ≠ gb762)); have n19_ := Aside0.mk ((blk_nw hg BK768.out : gb768 ≠ gb804)); have n20_ := Aside0.mk ((nw_blk hg BK768.out : gb804 ≠ gb768)); have n21_ := Aside0.mk ((blk_nw hg BK773.out : gb773 ≠ gb804)); have n22_ := Aside0.mk ((nw_blk hg BK773.out : gb804 ≠ gb773)); have n23_ := Aside0.mk ((blk_nw hg BK792.out : gb792 ≠ gb804)); have n24_ := Aside0.mk ((nw_blk hg BK792.out : gb804 ≠ gb792)); have n25_ := Aside0.mk ((blk_nw hg BK793.out : gb793 ≠ gb804)); have n26_ := Aside0.mk ((nw_blk hg BK793.out : gb804 ≠ gb793)); have n27_ := Aside0.mk ((blk_nw hg BK803.out : gb803 ≠ gb804)); have n28_ := Aside0.mk ((nw_blk hg BK803.out : gb804 ≠ gb803)); clear HO786 HO790 HO797 HO801 BK762 BK768 BK773 BK792 BK793 BK803 HB; have HO786 := n3_; have HO790 := n4_; have HO797 := n5_; have HO801 := n6_; have BK762 := n7_; have BK768 := n8_; have BK773 := n9_; have BK792 := n10_; have BK793 := n11_; have BK803 := n12_; have HB := n13_; have BK804 := n14_; have GE804 := n16_; have NB762_804 := n17_; have NB804_762 := n18_; have NB768_804 := n19_; have NB804_768 := n20_; have NB773_804 := n21_; have NB804_773 := n22_; have NB792_804 := n23_; have NB804_792 := n24_; have NB793_804 := n25_; have NB804_793 := n26_; have NB803_804 := n27_; have NB804_803 := n28_; clear n3_ n4_ n5_ n6_ n7_ n8_ n9_ n10_ n11_ n12_ n13_ n14_ n16_ n17_ n18_ n19_ n20_ n21_ n22_ n23_ n24_ n25_ n26_ n27_ n28_ hb hbox hg; have hnb103 := NB803_762.out; have hnc103 := NB762_803.out; have hnb104 := NB803_768.out; have hnc104 := NB768_803.out; have hnb105 := NB803_773.out; have hnc105 := NB773_803.out; have hnb106 := NB803_792.out; have hnc106 := NB792_803.out; have hnb107 := NB803_793.out; have hnc107 := NB793_803.out; have hnb108 := NB803_804.out; have hnc108 := NB804_803.out; have hcz109_0 : w102.cell? ⟨gb803, 0, none⟩ = some (.bool false) := (blk_cell BK803.out 0).trans rfl; have hcz109_1 : w102.cell? ⟨gb803, 1, none⟩ = some (.slice none 0 0) := (blk_cell BK803.out 1).trans rfl; have hfz109_0 := blk_frozen BK803.out 0; have hfz109_1 := blk_frozen BK803.out 1; obtain ⟨Ao110, co110, eo110⟩ := Kd.V_slice HO797.out; subst eo110; have hnb111 := NB804_762.out; have hnc111 := NB762_804.out; have hnb112 := NB804_768.out; have hnc112 := NB768_804.out; have hnb113 := NB804_773.out; have hnc113 := NB773_804.out; have hnb114 := NB804_792.out; have hnc114 := NB792_804.out; have hnb115 := NB804_793.out; have hnc115 := NB793_804.out; have hcz116_0 : w102.cell? ⟨gb804, 0, none⟩ = some (.bool false) := (blk_cell BK804.out 0).trans rfl; have hcz116_1 : w102.cell? ⟨gb804, 1, none⟩ = some (.slice none 0 0) := (blk_cell BK804.out 1).trans rfl; have hfz116_0 := blk_frozen BK804.out 0; have hfz116_1 := blk_frozen BK804.out 1; obtain ⟨Ao117, co117, eo117⟩ := Kd.V_slice HO801.out; subst eo117; have hcz118_0 : w102.cell? ⟨gb793, 0, none⟩ = some (.bool t787) := (blk_cell BK793.out 0).trans rfl; have hcz118_1 : w102.cell? ⟨gb793, 1, none⟩ = some (.slice Ao96 t788.length co96) := (blk_cell BK793.out 1).trans rfl; have hfz118_0 := blk_frozen BK793.out 0; have hfz118_1 := blk_frozen BK793.out 1) | (go_at_call 19; (with_reducible refine (integer_Int_Sign.calls t787 _ _ t788 t805 _ ?side1 ?side2 A69.out).mono ?_); (case side1 => refine (Kd.V_reads' (e := 60) (base := w.heap.size) (ok := fun k_ => (((k_ ≠ gb762 ∧ (k_ ≠ gb768 ∧ (k_ ≠ gb773 ∧ (k_ ≠ gb792 ∧ k_ ≠ gb793)))) ∧ k_ ≠ gb803) ∧ k_ ≠ gb804)) (n := t788.length) (c := co96) ?_).2.2; exact (Kd.V_up ((Kd.V_mono (Kd.V_mono (Kd.V_far (p := ⟨gb804, 1, none⟩) (Kd.V_far (p := ⟨gb804, 0, none⟩) (Kd.V_far (p := ⟨gb803, 1, none⟩) (Kd.V_far (p := ⟨gb803, 0, none⟩) (Kd.V_mono (Kd.V_mono HO790.out (fun k_ hk => (⟨hk, hk.1.2⟩ : _ ∧ k_ ≠ gb803))) (fun k_ hk => (⟨hk, hk.1.2⟩ : _ ∧ k_ ≠ gb804))) (fun _ hk => hk.1.2) (.bool t794)) (fun _ hk => hk.1.2) (.slice Ao110 t795.length co110)) (fun _ hk => hk.2) (.bool t798)) (fun _ hk => hk.2) (.slice Ao117 t799.length co117)) (fun _ h_ => h_.1)) (fun _ h_ => h_.1))))); (case side2 => exact (Kd.V_reads' HO790.out).2.1); rintro e w119 ⟨rfl, hb⟩; have n3_ := Aside0.mk (Kd.V_below (Kd.V_up ((Kd.V_mono (Kd.V_mono (Kd.V_far (p := ⟨gb804, 1, none⟩) (Kd.V_far (p := ⟨gb804, 0, none⟩) (Kd.V_far (p := ⟨gb803, 1, none⟩) (Kd.V_far (p := ⟨gb803, 0, none⟩) (Kd.V_mono (Kd.V_mono HO786.out (fun k_ hk => (⟨hk, hk.1.2⟩ : _ ∧ k_ ≠ gb803))) (fun k_ hk => (⟨hk, hk.1.2⟩ : _ ∧ k_ ≠ gb804))) (fun _ hk => hk.1.2) (.bool t794)) (fun _ hk => hk.1.2) (.slice Ao110 t795.length co110)) (fun _ hk => hk.2) (.bool t798)) (fun _ hk => hk.2) (.slice Ao117 t799.length co117)) (fun _ h_ => h_.1)) (fun _ h_ => h_.1)))) hb); have n5_ := Aside0.mk (Kd.V_below (Kd.V_up ((Kd.V_mono (Kd.V_mono (Kd.V_far (p := ⟨gb804, 1, none⟩) (Kd.V_far (p := ⟨gb804, 0, none⟩) (Kd.V_far (p := ⟨gb803, 1, none⟩) (Kd.V_far (p := ⟨gb803, 0, none⟩) (Kd.V_mono (Kd.V_mono HO797.out (fun k_ hk => (⟨hk, hk.1.2⟩ : _ ∧ k_ ≠ gb803))) (fun k_ hk => (⟨hk, hk.1.2⟩ : _ ∧ k_ ≠ gb804))) (fun _ hk => hk.1.2) (.bool t794)) (fun _ hk => hk.1.2) (.slice Ao110 t795.length co110)) (fun _ hk => hk.2) (.bool t798)) (fun _ hk => hk.2) (.slice Ao117 t799.length co117)) (fun _ h_ => h_.1)) (fun _ h_ => h_.1)))) hb); have n6_ := Aside0.mk (Kd.V_below (Kd.V_up ((Kd.V_mono (Kd.V_mono (Kd.V_far (p := ⟨gb804, 1, none⟩) (Kd.V_far (p := ⟨gb804, 0, none⟩) (Kd.V_far (p := ⟨gb803, 1, none⟩) (Kd.V_far (p := ⟨gb803, 0, none⟩) (Kd.V_mono (Kd.V_mono HO801.out (fun k_ hk => (⟨hk, hk.1.2⟩ : _ ∧ k_ ≠ gb803))) (fun k_ hk => (⟨hk, hk.1.2⟩ : _ ∧ k_ ≠ gb804))) (fun _ hk => hk.1.2) (.bool t794)) (fun _ hk => hk.1.2) (.slice Ao110 t795.length co110)) (fun _ hk => hk.2) (.bool t798)) (fun _ hk => hk.2) (.slice Ao117 t799.length co117)) (fun _ h_ => h_.1)) (fun _ h_ => h_.1)))) hb); have n7_ := Aside0.mk (blk_below (g := gb762) (o := .cells #[.bool t757, .slice Ao26 t758.length co26] 25 (0, 0)) (by refine blk_ups ?_; refine blk_far ?_ NB762_804.out _; refine blk_ups ?_; refine blk_far ?_ NB762_804.out _; refine blk_ups ?_; refine blk_far ?_ NB762_803.out _; refine blk_ups ?_; refine blk_far ?_ NB762_803.out _; exact blk_up BK762.out) hb); have n8_ := Aside0.mk (blk_below (g := gb768) (o := .cells #[.bool t763, .slice Ao31 t764.length co31] 25 (0, 0)) (by refine blk_ups ?_; refine blk_far ?_ NB768_804.out _; refine blk_ups ?_; refine blk_far ?_ NB768_804.out _; refine blk_ups ?_; refine blk_far ?_ NB768_803.out _; refine blk_ups ?_; refine blk_far ?_ NB768_803.out _; exact blk_up BK768.out) hb); have n9_ := Aside0.mk (blk_below (g := gb773) (o := .cells #[.bool t769, .slice Ao40 t770.length co40] 25 (0, 0)) (by refine blk_ups ?_; refine blk_far ?_ NB773_804.out _; refine blk_ups ?_; refine blk_far ?_ NB773_804.out _; refine blk_ups ?_; refine blk_far ?_ NB773_803.out _; refine blk_ups ?_; refine blk_far ?_ NB773_803.out _; exact blk_up BK773.out) hb); have n10_ := Aside0.mk (blk_below (g := gb792) (o := .cells #[.bool t783, .slice Ao90 t784.length co90] 25 (0, 0)) (by refine blk_ups ?_; refine blk_far ?_ NB792_804.out _; refine blk_ups ?_; refine blk_far ?_ NB792_804.out _; refine blk_ups ?_; refine blk_far ?_ NB792_803.out _; refine blk_ups ?_; refine blk_far ?_ NB792_803.out _; exact blk_up BK792.out) hb); have n11_ := Aside0.mk (blk_below (g := gb793) (o := .cells #[.bool t787, .slice Ao96 t788.length co96] 25 (0, 0)) (by refine blk_ups ?_; refine blk_far ?_ NB793_804.out _; refine blk_ups ?_; refine blk_far ?_ NB793_804.out _; refine blk_ups ?_; refine blk_far ?_ NB793_803.out _; refine blk_ups ?_; refine blk_far ?_ NB793_803.out _; exact blk_up BK793.out) hb); have n12_ := Aside0.mk (blk_below (g := gb803) (o := .cells #[.bool t794, .slice Ao110 t795.length co110] 25 (0, 0)) (by refine blk_ups ?_; refine blk_far ?_ NB803_804.out _; refine blk_ups ?_; refine blk_far ?_ NB803_804.out _; refine blk_ups ?_; refine blk_put (cs := #[.bool t794, .slice none 0 0]) ?_ 1 _ rfl; refine blk_ups ?_; refine blk_put (cs := #[.bool false, .slice none 0 0]) ?_ 0 _ rfl; exact blk_up BK803.out) hb); have n13_ := Aside0.mk (blk_below (g := gb804) (o := .cells #[.bool t798, .slice Ao117 t799.length co117] 25 (0, 0)) (by refine blk_ups ?_; refine blk_put (cs := #[.bool t798, .slice none 0 0]) ?_ 1 _ rfl; refine blk_ups ?_; refine blk_put (cs := #[.bool false, .slice none 0 0]) ?_ 0 _ rfl; refine blk_ups ?_; refine blk_far ?_ NB804_803.out _; refine blk_ups ?_; refine blk_far ?_ NB804_803.out _; exact blk_up BK804.out) hb); have n14_ := Aside0.mk (below_step (by with_reducible repeat first | exact HB.out | apply below_alloc | apply pw_below_drewN | apply below_drew1 | refine below_set ?_ GE762.out | refine below_set ?_ GE768.out | refine below_set ?_ GE773.out | refine below_set ?_ GE792.out | refine below_set ?_ GE793.out | refine below_set ?_ GE803.out | refine below_set ?_ GE804.out) hb); clear HO786; (try clear HO790); clear HO797 HO801 BK762 BK768 BK773 BK792 BK793 BK803 BK804 HB; have HO786 := n3_; have HO797 := n5_; have HO801 := n6_; have BK762 := n7_; have BK768 := n8_; have BK773 := n9_; have BK792 := n10_; have BK793 := n11_; have BK803 := n12_; have BK804 := n13_; have HB := n14_; clear n3_ n5_ n6_ n7_ n8_ n9_ n10_ n11_ n12_ n13_ n14_; (try clear hb); (try clear hb2); (try clear hk); (try clear hi); have hcz120_0 : w119.cell? ⟨gb804, 0, none⟩ = some (.bool t798) := (blk_cell BK804.out 0).trans rfl; have hcz120_1 : w119.cell? ⟨gb804, 1, none⟩ = some (.slice Ao117 t799.length co117) := (blk_cell BK804.out 1).trans rfl; have hfz120_0 := blk_frozen BK804.out 0; have hfz120_1 := blk_frozen BK804.out 1) | (go_at_call 19; (with_reducible refine (integer_Int_Sign.calls t798 _ _ t799 t806 _ ?side1 ?side2 A71.out).mono ?_); (case side1 => repeat (first | exact (Kd.V_reads' HO801.out).2.2 | (with_reducible refine Kd.C_alloc ?_ _) | (with_reducible refine Kd.C_drewN ?_ _) | (with_reducible refine Kd.C_drew ?_))); (case side2 => exact (Kd.V_reads' HO801.out).2.1); rintro e w121 ⟨rfl, hb⟩; have n3_ := Aside0.mk (Kd.V_below (Kd.V_up HO786.out) hb); have n5_ := Aside0.mk (Kd.V_below (Kd.V_up HO797.out) hb); have n7_ := Aside0.mk (blk_below (blk_up BK762.out) hb); have n8_ := Aside0.mk (blk_below (blk_up BK768.out) hb); have n9_ := Aside0.mk (blk_below (blk_up BK773.out) hb); have n10_ := Aside0.mk (blk_below (blk_up BK792.out) hb); have n11_ := Aside0.mk (blk_below (blk_up BK793.out) hb); have n12_ := Aside0.mk (blk_below (blk_up BK803.out) hb); have n13_ := Aside0.mk (blk_below (blk_up BK804.out) hb); have n14_ := Aside0.mk (below_step (by with_reducible repeat first | exact HB.out | apply below_alloc | apply pw_below_drewN | apply below_drew1 | refine below_set ?_ GE762.out | refine below_set ?_ GE768.out | refine below_set ?_ GE773.out | refine below_set ?_ GE792.out | refine below_set ?_ GE793.out | refine below_set ?_ GE803.out | refine below_set ?_ GE804.out) hb); clear HO786 HO797; (try clear HO801); clear BK762 BK768 BK773 BK792 BK793 BK803 BK804 HB; have HO786 := n3_; have HO797 := n5_; have BK762 := n7_; have BK768 := n8_; have BK773 := n9_; have BK792 := n10_; have BK793 := n11_; have BK803 := n12_; have BK804 := n13_; have HB := n14_; clear n3_ n5_ n7_ n8_ n9_ n10_ n11_ n12_ n13_ n14_; (try clear hb); (try clear hb2); (try clear hk); (try clear hi); have hcz122_0 : w121.cell? ⟨gb792, 0, none⟩ = some (.bool t783) := (blk_cell BK792.out 0).trans rfl; have hcz122_1 : w121.cell? ⟨gb792, 1, none⟩ = some (.slice Ao90 t784.length co90) := (blk_cell BK792.out 1).trans rfl; have hfz122_0 := blk_frozen BK792.out 0; have hfz122_1 := blk_frozen BK792.out 1; have hcz123_0 : w121.cell? ⟨gb803, 0, none⟩ = some (.bool t794) := (blk_cell BK803.out 0).trans rfl; have hcz123_1 : w121.cell? ⟨gb803, 1, none⟩ = some (.slice Ao110 t795.length co110) := (blk_cell BK803.out 1).trans rfl; have hfz123_0 := blk_frozen BK803.out 0; have hfz123_1 := blk_frozen BK803.out 1) | (go_at_call 29; (with_reducible refine (integer_Gcd.calls kj21 t783 (fun k_ => (((k_ ≠ gb762 ∧ (k_ ≠ gb768 ∧ (k_ ≠ gb773 ∧ (k_ ≠ gb792 ∧ k_ ≠ gb793)))) ∧ k_ ≠ gb803) ∧ k_ ≠ gb804)) _ _ t784 t794 (fun k_ => (((k_ ≠ gb762 ∧ (k_ ≠ gb768 ∧ (k_ ≠ gb773 ∧ (k_ ≠ gb792 ∧ k_ ≠ gb793)))) ∧ k_ ≠ gb803) ∧ k_ ≠ gb804)) _ _ t795 t807 t808 _ ?side1 ?side2 A73.out).mono ?_); (case side1 => exact HO786.out); (case side2 => exact HO797.out); rintro e w124 ⟨v809, rfl, ho0, hb⟩; have n7_ := Aside0.mk (Kd.V_lower (Kd.V_mono (ok' := fun k_ => k_ ≠ gb762 ∧ k_ ≠ gb768 ∧ k_ ≠ gb773 ∧ k_ ≠ gb792 ∧ k_ ≠ gb793 ∧ k_ ≠ gb803 ∧ k_ ≠ gb804) ho0 (fun k_ hk_ => ⟨Or.elim hk_ (fun hs_ => Or.elim hs_ (fun hs_ => hs_.1.1.1) (fun hs_ => hs_.1.1.1)) (fun hn_ => (Kd.freshB (g := gb762) (o := .cells #[.bool t757, .slice Ao26 t758.length co26] 25 (0, 0)) (blk_up BK762.out) k_ hn_)), Or.elim hk_ (fun hs_ => Or.elim hs_ (fun hs_ => hs_.1.1.2.1) (fun hs_ => hs_.1.1.2.1)) (fun hn_ => (Kd.freshB (g := gb768) (o := .cells #[.bool t763, .slice Ao31 t764.length co31] 25 (0, 0)) (blk_up BK768.out) k_ hn_)), Or.elim hk_ (fun hs_ => Or.elim hs_ (fun hs_ => hs_.1.1.2.2.1) (fun hs_ => hs_.1.1.2.2.1)) (fun hn_ => (Kd.freshB (g := gb773) (o := .cells #[.bool t769, .slice Ao40 t770.length co40] 25 (0, 0)) (blk_up BK773.out) k_ hn_)), Or.elim hk_ (fun hs_ => Or.elim hs_ (fun hs_ => hs_.1.1.2.2.2.1) (fun hs_ => hs_.1.1.2.2.2.1)) (fun hn_ => (Kd.freshB (g := gb792) (o := .cells #[.bool t783, .slice Ao90 t784.length co90] 25 (0, 0)) (blk_up BK792.out) k_ hn_)), Or.elim hk_ (fun hs_ => Or.elim hs_ (fun hs_ => hs_.1.1.2.2.2.2) (fun hs_ => hs_.1.1.2.2.2.2)) (fun hn_ => (Kd.freshB (g := gb793) (o := .cells #[.bool t787, .slice Ao96 t788.length co96] 25 (0, 0)) (blk_up BK793.out) k_ hn_)), Or.elim hk_ (fun hs_ => Or.elim hs_ (fun hs_ => hs_.1.2) (fun hs_ => hs_.1.2)) (fun hn_ => (Kd.freshB (g := gb803) (o := .cells #[.bool t794, .slice Ao110 t795.length co110] 25 (0, 0)) (blk_up BK803.out) k_ hn_)), Or.elim hk_ (fun hs_ => Or.elim hs_ (fun hs_ => hs_.2) (fun hs_ => hs_.2)) (fun hn_ => (Kd.freshB (g := gb804) (o := .cells #[.bool t798, .slice Ao117 t799.length co117] 25 (0, 0)) (blk_up BK804.out) k_ hn_))⟩)) (below_size (by with_reducible repeat first | exact HB.out | apply below_alloc | apply pw_below_drewN | apply below_drew1 | refine below_set ?_ GE762.out | refine below_set ?_ GE768.out | refine below_set ?_ GE773.out | refine below_set ?_ GE792.out | refine below_set ?_ GE793.out | refine below_set ?_ GE803.out | refine below_set ?_ GE804.out))); have n15_ := Aside0.mk (below_step (by with_reducible repeat first | exact HB.out | apply below_alloc | apply pw_below_drewN | apply below_drew1 | refine below_set ?_ GE762.out | refine below_set ?_ GE768.out | refine below_set ?_ GE773.out | refine below_set ?_ GE792.out | refine below_set ?_ GE793.out | refine below_set ?_ GE803.out | refine below_set ?_ GE804.out) hb); (try clear HO786); (try clear HO797); (try clear BK762); (try clear BK768); (try clear BK773); (try clear BK792); (try clear BK793); (try clear BK803); (try clear BK804); clear HB; have HO810 := n7_; have HB := n15_; clear n7_ n15_; (try clear hb); (try clear hb2); (try clear hk); (try clear hi); (try clear ho0); obtain ⟨Ao125, co125, eo125⟩ := Kd.V_slice HO810.out; subst eo125) | (go_at_call 17; (with_reducible refine (integer_Int_Text.calls kj21 t807 (fun k_ => (k_ ≠ gb762 ∧ (k_ ≠ gb768 ∧ (k_ ≠ gb773 ∧ (k_ ≠ gb792 ∧ (k_ ≠ gb793 ∧ (k_ ≠ gb803 ∧ k_ ≠ gb804))))))) _ _ t808 t811 _ ?side1 ?side2 A74.out).mono ?_); (case side1 => exact HO810.out); (case side2 => exact G_below HG.out (by with_reducible repeat first | exact HB.out | apply below_alloc | apply pw_below_drewN | apply below_drew1 | refine below_set ?_ GE762.out | refine below_set ?_ GE768.out | refine below_set ?_ GE773.out | refine below_set ?_ GE792.out | refine below_set ?_ GE793.out | refine below_set ?_ GE803.out | refine below_set ?_ GE804.out)); rintro e w126 ⟨rfl, hb⟩; have n15_ := Aside0.mk (below_step (by with_reducible repeat first | exact HB.out | apply below_alloc | apply pw_below_drewN | apply below_drew1 | refine below_set ?_ GE762.out | refine below_set ?_ GE768.out | refine below_set ?_ GE773.out | refine below_set ?_ GE792.out | refine below_set ?_ GE793.out | refine below_set ?_ GE803.out | refine below_set ?_ GE804.out) hb); (try clear HO810); clear HB; have HB := n15_; clear n15_; (try clear hb); (try clear hb2); (try clear hk); (try clear hi)))
         go_ret
         exact ⟨by first | rfl | (simp [errW_none, errW_some] <;> rfl) | (simp [*, errW_none, errW_some] <;> rfl), by with_reducible repeat first | exact HB.out | apply below_alloc | apply pw_below_drewN | apply below_drew1 | refine below_set ?_ GE762.out | refine below_set ?_ GE768.out | refine below_set ?_ GE773.out | refine below_set ?_ GE792.out | refine below_set ?_ GE793.out | refine below_set ?_ GE803.out | refine below_set ?_ GE804.out⟩
        ·
         rw [if_neg c67] at H
         exact absurd H (by simp)
def dowellaw01_IntegerGcds.Pure : Prop := ∀ (a0 : ByteArray) (a1 : ByteArray), a0.size ≤ 140737488351232 → a1.size ≤ 140737488351232 → ∃ k, dowellaw01_IntegerGcds.f k a0 a1 = some true
theorem dowellaw01_IntegerGcds.walk (P : dowellaw01_IntegerGcds.Pure) (a0 : ByteArray) (a1 : ByteArray) (w : World) (hG : G w) (w0 : a0.size ≤ 140737488351232) (w1 : a1.size ≤ 140737488351232) :
  Calls Tryd.prog 7 #[.string a0, .string a1] w fun e w' => e = .returned (.bool true) ∧ Below w.heap.size w w' := by
 obtain ⟨k, h⟩ := P a0 a1 w0 w1
 refine (dowellaw01_IntegerGcds.calls k a0 a1 true w hG h).mono ?_
 rintro e w' ⟨rfl, hd⟩
 exact ⟨rfl, hd⟩
end Go.Proofs.YtiikfhdmclmjmaaDoor.P
namespace Go.Proofs.YtiikfhdmclmjmaaDoor.Pure
open Go.RowKit Go.Proofs.YtiikfhdmclmjmaaDoorW.PrintWords
theorem Ev.pos {α : Type} {c : Prop} [Decidable c] {A B : Nat → Option α} {r : α} (h : c) (k : Ev A r) : Ev (fun n => if c then A n else B n) r := by
 obtain ⟨K, k⟩ := k
 exact ⟨K, fun n hn => by show (if c then A n else B n) = some r; rw [if_pos h]; exact k n hn⟩
theorem Ev.neg {α : Type} {c : Prop} [Decidable c] {A B : Nat → Option α} {r : α} (h : ¬ c) (k : Ev B r) : Ev (fun n => if c then A n else B n) r := by
 obtain ⟨K, k⟩ := k
 exact ⟨K, fun n hn => by show (if c then A n else B n) = some r; rw [if_neg h]; exact k n hn⟩
theorem Ev.bind0 {α β : Type} {o : Option α} {f : Nat → α → Option β} {a : α} {r : β} (h : o = some a) (k : Ev (fun n => f n a) r) : Ev (fun n => o.bind (f n)) r := by
 subst h
 exact k
theorem Ev.some_ {α : Type} {a r : α} (h : a = r) : Ev (fun _ => some a) r := h ▸ Ev.now a
theorem Ev.bindS {α β : Type} {f : Nat → α → Option β} {a : α} {r : β} (k : Ev (fun n => f n a) r) : Ev (fun n => (some a).bind (f n)) r := k
theorem w64 (z : Int) (h0 : -9223372036854775808 ≤ z) (h1 : z ≤ 9223372036854775807) : wrap64 z = z := by unfold wrap64; omega
theorem wsucc {j n : Nat} (h : j < n) (hn : n ≤ 9223372036854775807) : wrap64 ((j : Int) + 1) = ((j + 1 : Nat) : Int) := by rw [w64 _ (by omega) (by omega)]; omega
theorem wadd {i j : Nat} (h : i + j ≤ 9223372036854775807) : wrap64 ((i : Int) + (j : Int)) = ((i + j : Nat) : Int) := by rw [w64 _ (by omega) (by omega)]; omega
theorem u64 (z : Int) : IntKind.u64.wrap z = z % 18446744073709551616 := rfl
theorem u64s (z : Int) (h0 : 0 ≤ z) (h1 : z < 18446744073709551616) : IntKind.u64.wrap z = z := by rw [u64]; omega
def val (B : Int) : List Int → Int
 | [] => 0
 | d :: l => d + B * val B l
def Digs (B : Int) (l : List Int) : Prop := ∀ d ∈ l, 0 ≤ d ∧ d < B
def Norm (l : List Int) : Prop := ∀ d, l.getLast? = some d → d ≠ 0
theorem Digs.cons {B d : Int} {l : List Int} (h : Digs B (d :: l)) : (0 ≤ d ∧ d < B) ∧ Digs B l := ⟨h d (by simp), fun x hx => h x (by simp [hx])⟩
theorem Digs.mk {B d : Int} {l : List Int} (h0 : 0 ≤ d) (h1 : d < B) (h : Digs B l) : Digs B (d :: l) := by
 intro x hx
 rcases List.mem_cons.1 hx with rfl | hx
 ·
  exact ⟨h0, h1⟩
 ·
  exact h x hx
theorem Digs.nil (B : Int) : Digs B [] := fun d h => by cases h
theorem Digs.app {B : Int} {l m : List Int} (h : Digs B l) (k : Digs B m) : Digs B (l ++ m) := by
 intro x hx
 rcases List.mem_append.1 hx with hx | hx
 ·
  exact h x hx
 ·
  exact k x hx
theorem Digs.left {B : Int} {l m : List Int} (h : Digs B (l ++ m)) : Digs B l := fun x hx => h x (List.mem_append_left _ hx)
theorem Digs.take {B : Int} {l : List Int} (h : Digs B l) (n : Nat) : Digs B (l.take n) := fun x hx => h x (List.mem_of_mem_take hx)
theorem Digs.drop {B : Int} {l : List Int} (h : Digs B l) (n : Nat) : Digs B (l.drop n) := fun x hx => h x (List.mem_of_mem_drop hx)
theorem Digs.zeros (B : Int) (hB : 0 < B) (n : Nat) : Digs B (List.replicate n 0) := fun x hx => by
 rw [List.eq_of_mem_replicate hx]
 omega
theorem val_nonneg {B : Int} (hB : 0 < B) : ∀ {l : List Int}, Digs B l → 0 ≤ val B l
 | [], _ => Int.le_refl _
 | d :: l, h => by
  have := val_nonneg hB h.cons.2
  have h1 := h.cons.1.1
  have := Int.mul_nonneg (Int.le_of_lt hB) this
  simp only [val]
  omega
theorem val_app (B : Int) : ∀ (l m : List Int), val B (l ++ m) = val B l + B ^ l.length * val B m
 | [], m => by simp [val]
 | d :: l, m => by
  simp only [List.cons_append, val, List.length_cons]
  rw [val_app B l m, Int.pow_succ, Int.mul_add, Int.mul_comm (B ^ l.length) B, Int.mul_assoc]
  omega
theorem val_zeros (B : Int) : ∀ n, val B (List.replicate n 0) = 0
 | 0 => rfl
 | n + 1 => by simp [List.replicate_succ, val, val_zeros B n]
theorem val_lt {B : Int} (hB : 0 < B) : ∀ {l : List Int}, Digs B l → val B l < B ^ l.length
 | [], _ => by simp [val]
 | d :: l, h => by
  have h1 := val_lt hB h.cons.2
  have h2 := h.cons.1.2
  simp only [val, List.length_cons]
  rw [Int.pow_succ, Int.mul_comm (B ^ l.length) B]
  have : B * (val B l + 1) ≤ B * B ^ l.length := Int.mul_le_mul_of_nonneg_left (by omega) (Int.le_of_lt hB)
  rw [Int.mul_add, Int.mul_one] at this
  omega
theorem getLast?_tail {d : Int} {l : List Int} (h : l ≠ []) : (d :: l).getLast? = l.getLast? := by
 cases l with
 | nil => exact absurd rfl h
 | cons a l => rfl
theorem Norm.tail {d : Int} {l : List Int} (h : Norm (d :: l)) : Norm l := by
 intro x hx
 cases l with
 | nil => simp at hx
 | cons a l => exact h x (by rw [getLast?_tail (by simp)]; exact hx)
theorem Norm.nil : Norm [] := fun d h => by simp at h
theorem norm_pos {B : Int} (hB : 0 < B) : ∀ {l : List Int}, Digs B l → Norm l → l ≠ [] → 0 < val B l
 | [], _, _, h => absurd rfl h
 | [d], hd, hn, _ => by
  have h1 := hd.cons.1.1
  have h2 := hn d rfl
  simp only [val]
  omega
 | d :: e :: l, hd, hn, _ => by
  have := norm_pos hB hd.cons.2 hn.tail (by simp)
  have h1 := hd.cons.1.1
  have h2 := Int.mul_pos hB this
  simp only [val] at *
  omega
theorem val_uniq {B : Int} (hB : 0 < B) : ∀ {l m : List Int}, Digs B l → Digs B m → Norm l → Norm m → val B l = val B m → l = m
 | [], [], _, _, _, _, _ => rfl
 | [], b :: m, _, hm, _, nm, h => by
  have := norm_pos hB hm nm (by simp)
  rw [← h] at this
  exact absurd this (by simp [val])
 | a :: l, [], hl, _, nl, _, h => by
  have := norm_pos hB hl nl (by simp)
  rw [h] at this
  exact absurd this (by simp [val])
 | a :: l, b :: m, hl, hm, nl, nm, h => by
  simp only [val] at h
  have ha := hl.cons.1
  have hb := hm.cons.1
  have e1 : a = b := by
   have h1 : (a + B * val B l) % B = a := by rw [Int.add_mul_emod_self_left]; exact Int.emod_eq_of_lt ha.1 ha.2
   have h2 : (b + B * val B m) % B = b := by rw [Int.add_mul_emod_self_left]; exact Int.emod_eq_of_lt hb.1 hb.2
   rw [← h1, ← h2, h]
  subst e1
  have e2 : val B l = val B m := by
   have : B * val B l = B * val B m := by omega
   exact Int.eq_of_mul_eq_mul_left (by omega) this
  rw [val_uniq hB hl.cons.2 hm.cons.2 nl.tail nm.tail e2]
def dgs (B : Nat) (n : Nat) : List Int := if h : n = 0 ∨ B < 2 then [] else ((n % B : Nat) : Int) :: dgs B (n / B)
termination_by n
decreasing_by exact Nat.div_lt_self (by omega) (by omega)
theorem dgs_zero (B : Nat) : dgs B 0 = [] := by rw [dgs]; simp
theorem dgs_pos {B n : Nat} (hB : 2 ≤ B) (hn : 0 < n) : dgs B n = ((n % B : Nat) : Int) :: dgs B (n / B) := by rw [dgs, dif_neg (by omega)]
theorem dgs_all {B : Nat} (hB : 2 ≤ B) (n : Nat) : Digs B (dgs B n) ∧ Norm (dgs B n) ∧ val B (dgs B n) = n := by
 induction n using Nat.strongRecOn with
 | _ n ih =>
  rcases Nat.eq_zero_or_pos n with rfl | h
  ·
   rw [dgs_zero]
   exact ⟨Digs.nil _, Norm.nil, rfl⟩
  ·
   obtain ⟨h1, h2, h3⟩ := ih (n / B) (Nat.div_lt_self h (by omega))
   rw [dgs_pos hB h]
   have hm : n % B < B := Nat.mod_lt _ (by omega)
   refine ⟨Digs.mk (by omega) (by omega) h1, ?_, ?_⟩
   ·
    intro d hd
    by_cases hz : n / B = 0
    ·
     rw [hz, dgs_zero] at hd
     simp at hd
     have := Nat.div_add_mod n B
     rw [hz] at this
     omega
    ·
     have hne : dgs B (n / B) ≠ [] := by rw [dgs_pos hB (Nat.pos_of_ne_zero hz)]; simp
     rw [getLast?_tail hne] at hd
     exact h2 d hd
   ·
    simp only [val]
    rw [h3]
    have := Nat.mod_add_div n B
    exact_mod_cast this
theorem dgs_digs {B : Nat} (hB : 2 ≤ B) (n : Nat) : Digs B (dgs B n) := (dgs_all hB n).1
theorem dgs_norm {B : Nat} (hB : 2 ≤ B) (n : Nat) : Norm (dgs B n) := (dgs_all hB n).2.1
theorem dgs_val {B : Nat} (hB : 2 ≤ B) (n : Nat) : val B (dgs B n) = n := (dgs_all hB n).2.2
theorem dgs_of {B : Nat} (hB : 2 ≤ B) {l : List Int} {n : Nat} (h1 : Digs B l) (h2 : Norm l) (h3 : val B l = n) : l = dgs B n :=
 val_uniq (by omega) h1 (dgs_digs hB n) h2 (dgs_norm hB n) (by rw [h3, dgs_val hB])
theorem dgs_nil {B : Nat} (hB : 2 ≤ B) {n : Nat} : dgs B n = [] ↔ n = 0 := by
 constructor
 ·
  intro h
  rcases Nat.eq_zero_or_pos n with h0 | h0
  ·
   exact h0
  ·
   rw [dgs_pos hB h0] at h
   cases h
 ·
  rintro rfl
  exact dgs_zero B
def trimL (l : List Int) : List Int := (l.reverse.dropWhile (· == 0)).reverse
theorem trimL_snoc0 (l : List Int) : trimL (l ++ [0]) = trimL l := by simp [trimL]
theorem trimL_snoc {d : Int} (l : List Int) (h : d ≠ 0) : trimL (l ++ [d]) = l ++ [d] := by simp [trimL, h]
theorem trimL_ind {P : List Int → List Int → Prop} (h0 : P [] []) (h1 : ∀ l r, P l r → P (l ++ [0]) r) (h2 : ∀ l d, d ≠ 0 → P (l ++ [d]) (l ++ [d])) (l : List Int) : P l (trimL l) := by
 induction hn : l.length generalizing l with
 | zero =>
  obtain rfl := List.length_eq_zero_iff.1 hn
  exact h0
 | succ n ih =>
  obtain ⟨m, d, rfl⟩ : ∃ m d, l = m ++ [d] := ⟨l.dropLast, l.getLast (by intro h; simp [h] at hn), (List.dropLast_concat_getLast _).symm⟩
  by_cases hd : d = 0
  ·
   subst hd
   rw [trimL_snoc0]
   exact h1 m _ (ih m (by simp at hn; omega))
  ·
   rw [trimL_snoc m hd]
   exact h2 m d hd
theorem trimL_val (B : Int) (l : List Int) : val B (trimL l) = val B l :=
 trimL_ind (P := fun l r => val B r = val B l) rfl (fun l r h => by rw [h, val_app]; simp [val]) (fun _ _ _ => rfl) l
theorem trimL_digs {B : Int} {l : List Int} (h : Digs B l) : Digs B (trimL l) :=
 trimL_ind (P := fun l r => Digs B l → Digs B r) (fun h => h) (fun l r k h => k h.left) (fun _ _ _ h => h) l h
theorem trimL_norm (l : List Int) : Norm (trimL l) :=
 trimL_ind (P := fun _ r => Norm r) Norm.nil (fun _ _ h => h) (fun l d hd x hx => by simp at hx; omega) l
theorem trimL_len (l : List Int) : (trimL l).length ≤ l.length :=
 trimL_ind (P := fun l r => r.length ≤ l.length) (Nat.le_refl _) (fun l r h => by simp; omega) (fun _ _ _ => Nat.le_refl _) l
theorem trimL_of_norm {l : List Int} (h : Norm l) : trimL l = l := by
 rcases List.eq_nil_or_concat l with rfl | ⟨m, d, rfl⟩
 ·
  rfl
 ·
  rw [List.concat_eq_append] at *
  exact trimL_snoc m (h d (by simp))
theorem trimL_dgs {B : Nat} (hB : 2 ≤ B) {l : List Int} {n : Nat} (h1 : Digs B l) (h3 : val B l = n) : trimL l = dgs B n :=
 dgs_of hB (trimL_digs h1) (trimL_norm l) (by rw [trimL_val, h3])
theorem dgs_len {B : Nat} (hB : 2 ≤ B) : ∀ (m n : Nat), n < B ^ m → (dgs B n).length ≤ m
 | 0, n, h => by
  have : n = 0 := by simpa using h
  subst this
  simp [dgs_zero]
 | m + 1, n, h => by
  rcases Nat.eq_zero_or_pos n with rfl | hn
  ·
   simp [dgs_zero]
  ·
   rw [dgs_pos hB hn, List.length_cons]
   have : n / B < B ^ m := by
    rw [Nat.pow_succ, Nat.mul_comm] at h
    exact Nat.div_lt_of_lt_mul h
   have := dgs_len hB m (n / B) this
   omega
theorem rd_at {l : List Int} {i : Nat} (h : i < l.length) : rd l (i : Int) = l[i] := by
 unfold rd
 simp [List.getD_eq_getElem?_getD, h]
theorem rd_digs {B : Int} {l : List Int} (hl : Digs B l) {i : Nat} (h : i < l.length) : 0 ≤ rd l (i : Int) ∧ rd l (i : Int) < B := by
 rw [rd_at h]
 exact hl _ (List.getElem_mem h)
theorem drop_at {l : List Int} {i : Nat} (h : i < l.length) : l.drop i = rd l (i : Int) :: l.drop (i + 1) := by
 rw [rd_at h]
 exact List.drop_eq_getElem_cons h
theorem set_at (l : List Int) (z x : Int) (n : Nat) : (l ++ List.replicate (n + 1) z).set l.length x = (l ++ [x]) ++ List.replicate n z := by
 rw [List.set_append_right _ _ (Nat.le_refl _), Nat.sub_self, List.replicate_succ, List.set_cons_zero, List.append_assoc]
 rfl
theorem take_at {l : List Int} {i : Nat} (h : i < l.length) : l.take (i + 1) = l.take i ++ [rd l (i : Int)] := by
 rw [rd_at h, List.take_succ_eq_append_getElem h]
end Go.Proofs.YtiikfhdmclmjmaaDoor.Pure
namespace Go.Proofs.YtiikfhdmclmjmaaDoor.P
open Go.RowKit Go.Proofs.YtiikfhdmclmjmaaDoorW.PrintWords Go.Proofs.YtiikfhdmclmjmaaDoorW.PrintLast
def integer_Abs.f (a0_0 : Bool) (l0_1 : List Int) : Option (Bool × List Int) := some (false, l0_1)
def integer_Compare.f (k : Nat) (a0_0 : Bool) (l0_1 : List Int) (a1_0 : Bool) (l1_1 : List Int) : Option (Int) := if (a0_0 != a1_0) = true then (if a0_0 = true then (some (-1)) else (some 1)) else (if a0_0 = true then ((integer_order.f k l1_1 l0_1).bind fun t469 => (some t469)) else ((integer_order.f k l0_1 l1_1).bind fun t470 => (some t470)))
theorem integer_Compare.mono : ∀ a0 a1 a2 a3 k, LeO (integer_Compare.f k a0 a1 a2 a3) (integer_Compare.f (k + 1) a0 a1 a2 a3) := by
 intro a0 a1 a2 a3 k
 unfold integer_Compare.f
 repeat' with_reducible first | exact integer_order.mono _ _ _ | exact LeO.refl _ | exact LeO.none _ | refine LeO.ite ?_ ?_ | refine LeO.bind ?_ (fun _ => ?_)
end Go.Proofs.YtiikfhdmclmjmaaDoor.P
namespace Go.Proofs.YtiikfhdmclmjmaaDoor.Pure
open Go.RowKit Go.Proofs.YtiikfhdmclmjmaaDoorW.PrintWords Go.Proofs.YtiikfhdmclmjmaaDoor.P
abbrev BB : Nat := 4294967296
theorem BB2 : 2 ≤ BB := by decide
abbrev lm (z : Int) : List Int := dgs BB z.natAbs
theorem lm_digs (z : Int) : Digs 4294967296 (lm z) := dgs_digs BB2 _
theorem lm_norm (z : Int) : Norm (lm z) := dgs_norm BB2 _
theorem lm_val (z : Int) : val 4294967296 (lm z) = z.natAbs := dgs_val BB2 _
theorem lm_nil {z : Int} : lm z = [] ↔ z = 0 := by rw [lm, dgs_nil BB2]; omega
theorem lm_len0 {z : Int} : (lm z).length = 0 ↔ z = 0 := by rw [List.length_eq_zero_iff, lm_nil]
theorem trim_ev (l : List Int) (h : l.length ≤ 4611686018427387904) : Ev (fun k => integer_trim.f k l) (trimL l) := by
 show Ev (fun k => integer_trim.l0 k l) (trimL l)
 revert h
 refine trimL_ind (P := fun l r => l.length ≤ 4611686018427387904 → Ev (fun k => integer_trim.l0 k l) r) ?_ ?_ ?_ l
 ·
  intro _
  exact Ev.step (fun k => integer_trim.l0.eq_2 ..) (Ev.neg (by simp) (Ev.now _))
 ·
  intro l r ih h
  have hq : (l ++ [0]).length = l.length + 1 := by simp
  have e : wrap64 (((l ++ [0]).length : Int) - 1) = (l.length : Int) := by
   rw [w64 _ (by omega) (by omega)]
   omega
  refine Ev.step (fun k => integer_trim.l0.eq_2 ..) ?_
  rw [e]
  refine Ev.pos (by omega) (Ev.pos (by omega) (Ev.pos (by omega) (Ev.pos ?_ (Ev.pos (by omega) ?_))))
  ·
   rw [rd_at (by simp)]; simp
  ·
   have : (l ++ [0]).take ((l.length : Int) : Int).toNat = l := by simp
   rw [this]
   exact ih (by simp at h; omega)
 ·
  intro l d hd h
  have hq : (l ++ [d]).length = l.length + 1 := by simp
  have e : wrap64 (((l ++ [d]).length : Int) - 1) = (l.length : Int) := by
   rw [w64 _ (by omega) (by omega)]
   omega
  refine Ev.step (fun k => integer_trim.l0.eq_2 ..) ?_
  rw [e]
  refine Ev.pos (by omega) (Ev.pos (by omega) (Ev.pos (by omega) (Ev.neg ?_ (Ev.now _))))
  rw [rd_at (by simp)]; simpa using hd
theorem signed_ev (neg : Bool) (l : List Int) (n : Nat) (hl : l.length ≤ 4611686018427387904) (hd : Digs 4294967296 l) (hv : val 4294967296 l = n) :
  Ev (fun k => integer_signed.f k neg l) (decide (neg = true ∧ n ≠ 0), dgs BB n) := by
 have ht : trimL l = dgs BB n := trimL_dgs BB2 hd hv
 refine Ev.bind (trim_ev l hl) ?_
 rw [ht]
 by_cases hn : neg = true
 ·
  refine Ev.pos hn (Ev.some_ ?_)
  have : (0 < (dgs BB n).length) = (neg = true ∧ n ≠ 0) := by
   apply propext
   rw [Nat.pos_iff_ne_zero, Ne, List.length_eq_zero_iff, dgs_nil BB2]
   simp [hn]
  simp only [this]
 ·
  refine Ev.neg hn (Ev.some_ ?_)
  simp [hn]
theorem signed_mk {neg : Bool} {n : Nat} {z : Int} (h : z = if neg = true then -(n : Int) else n) : ((decide (neg = true ∧ n ≠ 0), dgs BB n) : Bool × List Int) = (decide (z < 0), lm z) := by
 have h1 : z.natAbs = n := by split at h <;> omega
 have h2 : (neg = true ∧ n ≠ 0) = (z < 0) := by
  apply propext
  split at h
  ·
   rename_i hn
   simp only [hn, true_and]
   omega
  ·
   rename_i hn
   exact ⟨fun hh => absurd hh.1 hn, fun hh => by omega⟩
 rw [lm, h1]
 simp only [h2]
theorem signed_to (neg : Bool) (l : List Int) (n : Nat) (z : Int) (hl : l.length ≤ 4611686018427387904) (hd : Digs 4294967296 l) (hv : val 4294967296 l = n) (hz : z = if neg = true then -(n : Int) else n) :
  Ev (fun k => integer_signed.f k neg l) (decide (z < 0), lm z) := signed_mk hz ▸ signed_ev neg l n hl hd hv
theorem from_ev (z : Int) (h0 : -9223372036854775808 ≤ z) (h1 : z ≤ 9223372036854775807) : Ev (fun k => integer_From.f k z) (decide (z < 0), lm z) := by
 unfold integer_From.f
 by_cases hz : z < 0
 ·
  refine Ev.pos hz ?_
  have e : IntKind.u64.wrap (-(IntKind.u64.wrap z)) = (z.natAbs : Int) := by simp only [u64]; omega
  rw [e]
  refine Ev.bind (signed_to true _ z.natAbs z (by simp) ?_ ?_ (by simp; omega)) (Ev.some_ (by simp [hz]))
  ·
   exact Digs.mk (by omega) (by omega) (Digs.mk (by omega) (by omega) (Digs.nil _))
  ·
   simp only [val]; omega
 ·
  refine Ev.neg hz ?_
  have e : IntKind.u64.wrap z = (z.natAbs : Int) := by simp only [u64]; omega
  rw [e]
  refine Ev.bind (signed_to false _ z.natAbs z (by simp) ?_ ?_ (by simp; omega)) (Ev.some_ (by simp [hz]))
  ·
   exact Digs.mk (by omega) (by omega) (Digs.mk (by omega) (by omega) (Digs.nil _))
  ·
   simp only [val]; omega
theorem sign_eq (z : Int) : integer_Int_Sign.f (decide (z < 0)) (lm z) = some (if z = 0 then 0 else if z < 0 then -1 else 1) := by
 unfold integer_Int_Sign.f
 by_cases h : z = 0
 ·
  rw [if_pos (by rw [lm_len0.2 h]; rfl), if_pos h]
 ·
  rw [if_neg (by have := mt lm_len0.1 h; omega), if_neg h]
  by_cases h2 : z < 0 <;> simp [h2]
theorem sign_sign (z : Int) : (if z = 0 then 0 else if z < 0 then -1 else 1 : Int) = z.sign := by
 rcases Int.lt_trichotomy z 0 with h | h | h
 ·
  rw [if_neg (by omega), if_pos h, Int.sign_eq_neg_one_of_neg h]
 ·
  rw [if_pos h, h]; rfl
 ·
  rw [if_neg (by omega), if_neg (by omega), Int.sign_eq_one_of_pos h]
theorem neg_eq (z : Int) : integer_Neg.f (decide (z < 0)) (lm z) = some (decide (-z < 0), lm (-z)) := by
 have e : lm (-z) = lm z := by rw [lm, lm, Int.natAbs_neg]
 unfold integer_Neg.f
 rw [e]
 by_cases h2 : z < 0
 ·
  rw [if_pos (by simpa using h2)]
  have : ¬ (-z < 0) := by omega
  simp only [decide_eq_false this]
 ·
  rw [if_neg (by simpa using h2)]
  have : (0 < (lm z).length) = (-z < 0) := by
   apply propext
   have := lm_len0 (z := z)
   omega
  simp only [this]
def ordL : List Int → List Int → Int
 | [], _ => 0
 | _, [] => 0
 | a :: l, b :: m => if ordL l m ≠ 0 then ordL l m else if a = b then 0 else if a < b then -1 else 1
theorem ordL_val {B : Int} (hB : 0 < B) : ∀ {l m : List Int}, l.length = m.length → Digs B l → Digs B m → ordL l m = (val B l - val B m).sign
 | [], [], _, _, _ => rfl
 | a :: l, b :: m, hlen, hl, hm => by
  have ih := ordL_val hB (l := l) (m := m) (by simpa using hlen) hl.cons.2 hm.cons.2
  have ha := hl.cons.1
  have hb := hm.cons.1
  simp only [ordL, val]
  rw [ih]
  rcases Int.lt_trichotomy (val B l) (val B m) with h | h | h
  ·
   have h1 : B * (val B l + 1) ≤ B * val B m := Int.mul_le_mul_of_nonneg_left (by omega) (by omega)
   rw [Int.mul_add, Int.mul_one] at h1
   rw [Int.sign_eq_neg_one_of_neg (show val B l - val B m < 0 by omega), Int.sign_eq_neg_one_of_neg (show a + B * val B l - (b + B * val B m) < 0 by omega)]
   simp
  ·
   rw [h, show val B m - val B m = 0 by omega]
   simp only [Int.sign_zero, ne_eq, not_true, if_false]
   rcases Int.lt_trichotomy a b with k | k | k
   ·
    rw [if_neg (by omega), if_pos k, Int.sign_eq_neg_one_of_neg (by omega)]
   ·
    rw [if_pos k, k, show b + B * val B m - (b + B * val B m) = 0 by omega]; rfl
   ·
    rw [if_neg (by omega), if_neg (by omega), Int.sign_eq_one_of_pos (by omega)]
  ·
   have h1 : B * (val B m + 1) ≤ B * val B l := Int.mul_le_mul_of_nonneg_left (by omega) (by omega)
   rw [Int.mul_add, Int.mul_one] at h1
   rw [Int.sign_eq_one_of_pos (show 0 < val B l - val B m by omega), Int.sign_eq_one_of_pos (show 0 < a + B * val B l - (b + B * val B m) by omega)]
   simp
theorem pow_mono {B : Int} (hB : 0 < B) {i j : Nat} (h : i ≤ j) : B ^ i ≤ B ^ j := by
 obtain ⟨d, rfl⟩ := Nat.exists_eq_add_of_le h
 clear h
 induction d with
 | zero => exact Int.le_refl _
 | succ d ih =>
  rw [← Nat.add_assoc, Int.pow_succ]
  have h1 : 0 < B ^ (i + d) := Int.pow_pos hB
  have := Int.mul_le_mul_of_nonneg_left (show 1 ≤ B by omega) (Int.le_of_lt h1)
  rw [Int.mul_one] at this
  omega
theorem norm_low {B : Int} (hB : 0 < B) : ∀ {l : List Int}, Digs B l → Norm l → l ≠ [] → B ^ (l.length - 1) ≤ val B l
 | [], _, _, h => absurd rfl h
 | [d], hd, hn, _ => by
  have := norm_pos hB hd hn (by simp)
  show B ^ 0 ≤ _
  rw [Int.pow_zero]
  omega
 | d :: e :: l, hd, hn, _ => by
  have ih := norm_low hB hd.cons.2 hn.tail (by simp)
  have h1 := hd.cons.1.1
  simp only [List.length_cons, Nat.add_sub_cancel] at ih ⊢
  rw [Int.pow_succ, Int.mul_comm]
  have := Int.mul_le_mul_of_nonneg_left ih (Int.le_of_lt hB)
  simp only [val] at this ⊢
  omega
theorem len_lt_val {B : Int} (hB : 1 < B) {l m : List Int} (hl : Digs B l) (hm : Digs B m) (nm : Norm m) (h : l.length < m.length) : val B l < val B m := by
 have h1 := val_lt (by omega : 0 < B) hl
 have h2 := norm_low (by omega : 0 < B) hm nm (by intro e; simp [e] at h)
 have h3 : B ^ l.length ≤ B ^ (m.length - 1) := pow_mono (by omega) (by omega)
 omega
theorem order_l0 (l m : List Int) (hlen : l.length = m.length) (hm : l.length ≤ 4611686018427387904) : ∀ i : Nat, i ≤ l.length → ordL (l.drop i) (m.drop i) = 0 → Ev (fun k => integer_order.l0 k l m ((i : Int) - 1)) (ordL l m)
 | 0, _, h => by
  refine Ev.step (fun k => integer_order.l0.eq_2 ..) (Ev.neg (by omega) (Ev.some_ ?_))
  simpa using h.symm
 | i + 1, hi, h => by
  have e : (((i + 1 : Nat) : Int) - 1) = (i : Int) := by omega
  rw [e]
  have hs : ordL (l.drop i) (m.drop i) = if rd l (i : Int) = rd m (i : Int) then 0 else if rd l (i : Int) < rd m (i : Int) then -1 else 1 := by
   rw [drop_at (l := l) (by omega), drop_at (l := m) (by omega)]
   simp [ordL, h]
  refine Ev.step (fun k => integer_order.l0.eq_2 ..) ?_
  refine Ev.pos (by omega) (Ev.pos (by omega) (Ev.pos (by omega) (Ev.pos (by omega) ?_)))
  rw [w64 ((i : Int) - 1) (by omega) (by omega)]
  by_cases hq : rd l (i : Int) = rd m (i : Int)
  ·
   exact Ev.pos hq (order_l0 l m hlen hm i (by omega) (by rw [hs, if_pos hq]))
  ·
   refine Ev.neg hq ?_
   have hne : ordL (l.drop i) (m.drop i) = ordL l m := ordL_drop l m i (by rw [hs, if_neg hq]; split <;> decide)
   rw [if_neg hq] at hs
   rw [← hne, hs]
   by_cases hq2 : rd l (i : Int) < rd m (i : Int)
   ·
    exact Ev.pos hq2 (Ev.some_ (by rw [if_pos hq2]))
   ·
    exact Ev.neg hq2 (Ev.some_ (by rw [if_neg hq2]))
where
 ordL_drop : ∀ (l m : List Int) (i : Nat), ordL (l.drop i) (m.drop i) ≠ 0 → ordL (l.drop i) (m.drop i) = ordL l m
  | l, m, 0, _ => rfl
  | [], m, i + 1, h => by simp [ordL] at h
  | a :: l, [], i + 1, h => by
   rw [List.drop_nil] at h
   cases hq : (a :: l).drop (i + 1) <;> simp [ordL, hq] at h
  | a :: l, b :: m, i + 1, h => by
   have ih := ordL_drop l m i h
   simp only [List.drop_succ_cons] at h ⊢
   rw [ih] at h ⊢
   simp [ordL, h]
theorem order_ev (l m : List Int) (hl : Digs 4294967296 l) (hm : Digs 4294967296 m) (nl : Norm l) (nm : Norm m) (h1 : l.length ≤ 4611686018427387904) (h2 : m.length ≤ 4611686018427387904) :
  Ev (fun k => integer_order.f k l m) (val 4294967296 l - val 4294967296 m).sign := by
 unfold integer_order.f
 by_cases h : (l.length : Int) = (m.length : Int)
 ·
  refine Ev.pos h ?_
  rw [w64 _ (by omega) (by omega), ← ordL_val (by decide) (by omega) hl hm]
  refine order_l0 l m (by omega) h1 l.length (Nat.le_refl _) ?_
  rw [List.drop_of_length_le (Nat.le_refl _)]
  rfl
 ·
  refine Ev.neg h ?_
  by_cases h3 : (l.length : Int) < (m.length : Int)
  ·
   have := len_lt_val (B := 4294967296) (by decide) hl hm nm (by omega)
   exact Ev.pos h3 (Ev.some_ (by rw [Int.sign_eq_neg_one_of_neg (by omega)]))
  ·
   have := len_lt_val (B := 4294967296) (by decide) hm hl nl (by omega)
   exact Ev.neg h3 (Ev.some_ (by rw [Int.sign_eq_one_of_pos (by omega)]))
theorem lorder_ev (x y : Int) (h1 : (lm x).length ≤ 4611686018427387904) (h2 : (lm y).length ≤ 4611686018427387904) :
  Ev (fun k => integer_order.f k (lm x) (lm y)) ((x.natAbs : Int) - y.natAbs).sign := by
 have := order_ev (lm x) (lm y) (lm_digs x) (lm_digs y) (lm_norm x) (lm_norm y) h1 h2
 rwa [lm_val, lm_val] at this
theorem or_high (x d : Int) (hx : 0 ≤ x) (hx1 : x < 4294967296) (hd : 0 ≤ d) (hd1 : d < 4294967296) : Go.bits .or .u64 (x * 4294967296) d = x * 4294967296 + d :=
 bits_join .u64 64 (by decide) (fun n h0 h1 => u64s n h0 h1) 32 _ d (by omega) (by omega) (by omega) hd hd1 (by omega)
def hd0 : List Int → Int
 | [] => 0
 | a :: _ => a
theorem hd0_digs {B : Int} (hB : 0 < B) {l : List Int} (h : Digs B l) : 0 ≤ hd0 l ∧ hd0 l < B := by
 cases l with
 | nil => exact ⟨Int.le_refl _, hB⟩
 | cons a l => exact h.cons.1
theorem tail_digs {B : Int} {l : List Int} (h : Digs B l) : Digs B l.tail := fun x hx => h x (List.mem_of_mem_tail hx)
theorem val_hd (B : Int) (l : List Int) : val B l = hd0 l + B * val B l.tail := by
 cases l with
 | nil => simp [hd0, val]
 | cons a l => rfl
theorem drop_hd (l : List Int) (i : Nat) : hd0 (l.drop i) = if i < l.length then rd l (i : Int) else 0 := by
 by_cases h : i < l.length
 ·
  rw [if_pos h, drop_at h]; rfl
 ·
  rw [if_neg h, List.drop_of_length_le (by omega)]; rfl
theorem drop_tl (l : List Int) (i : Nat) : (l.drop i).tail = l.drop (i + 1) := by rw [List.tail_drop]
theorem set_mid {l : List Int} {i n : Nat} {z x j : Int} (hi : l.length = i) (hj : j = (i : Int)) (h : 0 < n) : (l ++ List.replicate n z).set j.toNat x = (l ++ [x]) ++ List.replicate (n - 1) z := by
 obtain ⟨m, rfl⟩ : ∃ m, n = m + 1 := ⟨n - 1, by omega⟩
 rw [hj, Int.toNat_natCast, ← hi, set_at]
 rfl
theorem app_cons (p : List Int) (x : Int) (q : List Int) : p ++ x :: q = p ++ [x] ++ q := by simp
def plusR (B : Int) : List Int → List Int → Int → List Int
 | [], _, c => [c % B]
 | a :: l, m, c => ((c + a + hd0 m) % B) :: plusR B l m.tail ((c + a + hd0 m) / B)
theorem plusR_len (B : Int) : ∀ l m c, (plusR B l m c).length = l.length + 1
 | [], _, _ => rfl
 | a :: l, m, c => by simp [plusR, plusR_len B l]
theorem plusR_all : ∀ (l m : List Int) (c : Int), Digs 4294967296 l → Digs 4294967296 m → m.length ≤ l.length → 0 ≤ c → c ≤ 1 → Digs 4294967296 (plusR 4294967296 l m c) ∧ val 4294967296 (plusR 4294967296 l m c) = val 4294967296 l + val 4294967296 m + c
 | [], m, c, _, hm, hlen, h0, h1 => by
  obtain rfl : m = [] := List.length_eq_zero_iff.1 (by simpa using hlen)
  refine ⟨Digs.mk (by omega) (by omega) (Digs.nil _), ?_⟩
  simp only [plusR, val]
  omega
 | a :: l, m, c, hl, hm, hlen, h0, h1 => by
  have ha := hl.cons.1
  have hb := hd0_digs (by decide) hm
  have ih := plusR_all l m.tail ((c + a + hd0 m) / 4294967296) hl.cons.2 (tail_digs hm) (by simp at hlen ⊢; omega) (by omega) (by omega)
  have hv := val_hd 4294967296 m
  refine ⟨Digs.mk (by omega) (by omega) ih.1, ?_⟩
  simp only [plusR, val, ih.2]
  omega
theorem plus_l1 : ∀ k x0 x1 x5 x6 x20 x21 x22, integer_plus.l1 k x0 x1 x5 x6 x20 x21 x22 = integer_plus.l0 k x0 x1 x5 x6 x20 x21 x22
 | 0, _, _, _, _, _, _, _ => rfl
 | k + 1, x0, x1, x5, x6, x20, x21, x22 => by
  rw [integer_plus.l1.eq_2, integer_plus.l0.eq_2]
  simp only [plus_l1 k]
theorem plus_l0 (l m : List Int) (hl : Digs 4294967296 l) (hm : Digs 4294967296 m) (hlen : m.length ≤ l.length) (hmax : l.length ≤ 70368744177663) :
  ∀ (n i : Nat) (p : List Int) (c : Int), l.length - i = n → i ≤ l.length → p.length = i → 0 ≤ c → c ≤ 1 →
   Ev (fun k => integer_plus.l0 k l m (p ++ List.replicate (l.length + 1 - i) 0) c l (l.length : Int) (i : Int)) (p ++ plusR 4294967296 (l.drop i) (m.drop i) c)
 | 0, i, p, c, hn, hi, hp, h0, h1 => by
  obtain rfl : i = l.length := by omega
  have e : l.length + 1 - l.length = 1 := by omega
  rw [e]
  refine Ev.step (fun k => integer_plus.l0.eq_2 ..) (Ev.neg (by omega) (Ev.pos (by omega) (Ev.pos (by rw [List.length_append, List.length_replicate, hp]; omega) (Ev.some_ ?_))))
  rw [set_mid hp rfl (by omega), List.drop_of_length_le (Nat.le_refl _)]
  simp [plusR]
 | n + 1, i, p, c, hn, hi, hp, h0, h1 => by
  have ha := rd_digs hl (show i < l.length by omega)
  have ew : wrap64 ((i : Int) + 1) = ((i + 1 : Nat) : Int) := by rw [w64 _ (by omega) (by omega)]; omega
  have hb := hd0_digs (by decide) (hm.drop i)
  have hlen2 : (p ++ List.replicate (l.length + 1 - i) (0 : Int)).length = l.length + 1 := by simp [hp]; omega
  have es : plusR 4294967296 (l.drop i) (m.drop i) c = ((c + rd l (i : Int) + hd0 (m.drop i)) % 4294967296) :: plusR 4294967296 (l.drop (i + 1)) (m.drop (i + 1)) ((c + rd l (i : Int) + hd0 (m.drop i)) / 4294967296) := by
   rw [drop_at (l := l) (by omega)]
   simp only [plusR, drop_tl]
  have hr : l.length + 1 - i - 1 = l.length + 1 - (i + 1) := by omega
  have ih := plus_l0 l m hl hm hlen hmax n (i + 1) (p ++ [(c + rd l (i : Int) + hd0 (m.drop i)) % 4294967296]) ((c + rd l (i : Int) + hd0 (m.drop i)) / 4294967296) (by omega) (by omega) (by simp [hp]) (by omega) (by omega)
  rw [es, app_cons]
  refine Ev.step (fun k => integer_plus.l0.eq_2 ..) (Ev.pos (by omega) (Ev.pos (by omega) (Ev.pos (by omega) ?_)))
  rw [ew]
  rw [drop_hd] at ih hb
  by_cases hj : i < m.length
  ·
   rw [if_pos hj] at ih hb
   have e1 : IntKind.u64.wrap ((IntKind.u64.wrap (c + (IntKind.u64.wrap (rd l (i : Int))))) + (IntKind.u64.wrap (rd m (i : Int)))) = c + rd l (i : Int) + rd m (i : Int) := by
    simp only [u64]; omega
   refine Ev.pos (by omega) (Ev.pos (by omega) ?_)
   rw [e1, set_mid hp rfl (by omega), hr, drop_hd, if_pos hj]
   exact ih
  ·
   rw [if_neg hj] at ih hb
   have e1 : IntKind.u64.wrap (c + (IntKind.u64.wrap (rd l (i : Int)))) = c + rd l (i : Int) + 0 := by
    simp only [u64]; omega
   refine Ev.neg (by omega) (Ev.pos (by omega) ?_)
   rw [e1, set_mid hp rfl (by omega), hr, drop_hd, if_neg hj]
   exact ih
theorem plus_ev (l m : List Int) (hl : Digs 4294967296 l) (hm : Digs 4294967296 m) (h1 : l.length ≤ 70368744177663) (h2 : m.length ≤ 70368744177663) :
  ∃ r, Ev (fun k => integer_plus.f k l m) r ∧ Digs 4294967296 r ∧ val 4294967296 r = val 4294967296 l + val 4294967296 m ∧ r.length ≤ 70368744177664 := by
 unfold integer_plus.f
 by_cases h : (l.length : Int) < (m.length : Int)
 ·
  have hr := plusR_all m l 0 hm hl (by omega) (by omega) (by omega)
  refine ⟨plusR 4294967296 m l 0, ?_, hr.1, by rw [hr.2]; omega, by rw [plusR_len]; omega⟩
  refine Ev.pos h ?_
  rw [w64 _ (by omega) (by omega)]
  refine Ev.pos (by omega) (Ev.pos (by omega) ?_)
  have := plus_l0 m l hm hl (by omega) h2 m.length 0 [] 0 (by omega) (by omega) rfl (by omega) (by omega)
  rw [show ((m.length : Int) + 1).toNat = m.length + 1 - 0 by omega]
  simpa using this
 ·
  have hr := plusR_all l m 0 hl hm (by omega) (by omega) (by omega)
  refine ⟨plusR 4294967296 l m 0, ?_, hr.1, by rw [hr.2]; omega, by rw [plusR_len]; omega⟩
  refine Ev.neg h ?_
  rw [w64 _ (by omega) (by omega)]
  refine Ev.pos (by omega) (Ev.pos (by omega) ?_)
  have := plus_l0 l m hl hm (by omega) h1 l.length 0 [] 0 (by omega) (by omega) rfl (by omega) (by omega)
  rw [show ((l.length : Int) + 1).toNat = l.length + 1 - 0 by omega]
  simp only [plus_l1]
  simpa using this
def minusR (B : Int) : List Int → List Int → Int → List Int
 | [], _, _ => []
 | a :: l, m, c => ((a - c - hd0 m) % B) :: minusR B l m.tail (if a - c - hd0 m < 0 then 1 else 0)
theorem minusR_len (B : Int) : ∀ l m c, (minusR B l m c).length = l.length
 | [], _, _ => rfl
 | a :: l, m, c => by simp [minusR, minusR_len B l]
theorem minusR_all : ∀ (l m : List Int) (c : Int), Digs 4294967296 l → Digs 4294967296 m → val 4294967296 m + c ≤ val 4294967296 l → 0 ≤ c → c ≤ 1 → Digs 4294967296 (minusR 4294967296 l m c) ∧ val 4294967296 (minusR 4294967296 l m c) = val 4294967296 l - val 4294967296 m - c
 | [], m, c, _, hm, hle, h0, h1 => by
  refine ⟨Digs.nil _, ?_⟩
  have := val_nonneg (B := 4294967296) (by decide) hm
  simp only [minusR, val] at *
  omega
 | a :: l, m, c, hl, hm, hle, h0, h1 => by
  have ha := hl.cons.1
  have hb := hd0_digs (by decide) hm
  have hv := val_hd 4294967296 m
  simp only [val] at hle
  have ih := minusR_all l m.tail (if a - c - hd0 m < 0 then 1 else 0) hl.cons.2 (tail_digs hm) (by split <;> omega) (by split <;> omega) (by split <;> omega)
  refine ⟨Digs.mk (by omega) (by omega) ih.1, ?_⟩
  simp only [minusR, val, ih.2]
  split <;> omega
theorem minus_l0 (l m : List Int) (hl : Digs 4294967296 l) (hm : Digs 4294967296 m) (hmax : l.length ≤ 70368744177664) :
  ∀ (n i : Nat) (p : List Int) (c : Int), l.length - i = n → i ≤ l.length → p.length = i → 0 ≤ c → c ≤ 1 →
   Ev (fun k => integer_minus.l0 k m (p ++ List.replicate (l.length - i) 0) c l (l.length : Int) (i : Int)) (p ++ minusR 4294967296 (l.drop i) (m.drop i) c)
 | 0, i, p, c, hn, hi, hp, h0, h1 => by
  obtain rfl : i = l.length := by omega
  refine Ev.step (fun k => integer_minus.l0.eq_2 ..) (Ev.neg (by omega) (Ev.some_ ?_))
  rw [Nat.sub_self, List.drop_of_length_le (Nat.le_refl _)]
  simp [minusR]
 | n + 1, i, p, c, hn, hi, hp, h0, h1 => by
  have ha := rd_digs hl (show i < l.length by omega)
  have ew : wrap64 ((i : Int) + 1) = ((i + 1 : Nat) : Int) := by rw [w64 _ (by omega) (by omega)]; omega
  have hb := hd0_digs (by decide) (hm.drop i)
  have hlen2 : (p ++ List.replicate (l.length - i) (0 : Int)).length = l.length := by simp [hp]; omega
  have es : minusR 4294967296 (l.drop i) (m.drop i) c = ((rd l (i : Int) - c - hd0 (m.drop i)) % 4294967296) :: minusR 4294967296 (l.drop (i + 1)) (m.drop (i + 1)) (if rd l (i : Int) - c - hd0 (m.drop i) < 0 then 1 else 0) := by
   rw [drop_at (l := l) (by omega)]
   simp only [minusR, drop_tl]
  have hr : l.length - i - 1 = l.length - (i + 1) := by omega
  have ih := minus_l0 l m hl hm hmax n (i + 1) (p ++ [(rd l (i : Int) - c - hd0 (m.drop i)) % 4294967296]) (if rd l (i : Int) - c - hd0 (m.drop i) < 0 then 1 else 0) (by omega) (by omega) (by simp [hp]) (by split <;> omega) (by split <;> omega)
  rw [es, app_cons]
  refine Ev.step (fun k => integer_minus.l0.eq_2 ..) (Ev.pos (by omega) (Ev.pos (by omega) (Ev.pos (by omega) ?_)))
  rw [ew]
  rw [drop_hd] at ih hb
  by_cases hj : i < m.length
  ·
   rw [if_pos hj] at ih hb
   have e1 : wrap64 ((wrap64 ((wrap64 (rd l (i : Int))) - c)) - (wrap64 (rd m (i : Int)))) = rd l (i : Int) - c - rd m (i : Int) := by
    rw [w64 (rd l (i : Int)) (by omega) (by omega), w64 (rd l (i : Int) - c) (by omega) (by omega), w64 (rd m (i : Int)) (by omega) (by omega), w64 _ (by omega) (by omega)]
   refine Ev.pos (by omega) ?_
   rw [e1, drop_hd, if_pos hj, set_mid hp rfl (by omega), hr]
   by_cases hs : rd l (i : Int) - c - rd m (i : Int) < 0
   ·
    rw [if_pos hs] at ih ⊢
    exact Ev.pos hs (Ev.pos (by omega) ih)
   ·
    rw [if_neg hs] at ih ⊢
    exact Ev.neg hs (Ev.pos (by omega) ih)
  ·
   rw [if_neg hj] at ih hb
   have e1 : wrap64 ((wrap64 (rd l (i : Int))) - c) = rd l (i : Int) - c - 0 := by
    rw [w64 (rd l (i : Int)) (by omega) (by omega), w64 (rd l (i : Int) - c) (by omega) (by omega)]; omega
   refine Ev.neg (by omega) ?_
   rw [e1, drop_hd, if_neg hj, set_mid hp rfl (by omega), hr]
   by_cases hs : rd l (i : Int) - c - 0 < 0
   ·
    rw [if_pos hs] at ih ⊢
    exact Ev.pos hs (Ev.pos (by omega) ih)
   ·
    rw [if_neg hs] at ih ⊢
    exact Ev.neg hs (Ev.pos (by omega) ih)
theorem minus_ev (l m : List Int) (hl : Digs 4294967296 l) (hm : Digs 4294967296 m) (h1 : l.length ≤ 70368744177664) (hle : val 4294967296 m ≤ val 4294967296 l) :
  ∃ r, Ev (fun k => integer_minus.f k l m) r ∧ Digs 4294967296 r ∧ val 4294967296 r = val 4294967296 l - val 4294967296 m ∧ r.length = l.length := by
 unfold integer_minus.f
 have hr := minusR_all l m 0 hl hm (by omega) (by omega) (by omega)
 refine ⟨minusR 4294967296 l m 0, ?_, hr.1, by rw [hr.2]; omega, by rw [minusR_len]⟩
 refine Ev.pos (by omega) (Ev.pos (by omega) ?_)
 have := minus_l0 l m hl hm h1 l.length 0 [] 0 (by omega) (by omega) rfl (by omega) (by omega)
 rw [show ((l.length : Int) : Int).toNat = l.length - 0 by omega]
 simpa using this
theorem add_ev (x y : Int) (h1 : (lm x).length ≤ 70368744177663) (h2 : (lm y).length ≤ 70368744177663) :
  Ev (fun k => integer_Add.f k (decide (x < 0)) (lm x) (decide (y < 0)) (lm y)) (decide (x + y < 0), lm (x + y)) := by
 unfold integer_Add.f
 have hx := lm_val x
 have hy := lm_val y
 by_cases h : (decide (x < 0)) = (decide (y < 0))
 ·
  have hxy : x < 0 ↔ y < 0 := by simpa using h
  refine Ev.pos (by simpa using h) ?_
  obtain ⟨r, hr, hd, hv, hl⟩ := plus_ev (lm x) (lm y) (lm_digs x) (lm_digs y) h1 h2
  refine Ev.bind hr (Ev.bind (signed_to _ r (x + y).natAbs (x + y) (by omega) hd (by omega) ?_) (Ev.now _))
  by_cases hx0 : x < 0
  ·
   rw [if_pos (by simpa using hx0)]; omega
  ·
   rw [if_neg (by simpa using hx0)]; omega
 ·
  have hxy : ¬ (x < 0 ↔ y < 0) := by simpa using h
  refine Ev.neg (by simpa using h) ?_
  refine Ev.bind (lorder_ev x y (by omega) (by omega)) ?_
  by_cases ho : (y.natAbs : Int) ≤ x.natAbs
  ·
   refine Ev.pos (by have := Int.sign_nonneg_iff.2 (show (0:Int) ≤ (x.natAbs : Int) - y.natAbs by omega); omega) ?_
   obtain ⟨r, hr, hd, hv, hl⟩ := minus_ev (lm x) (lm y) (lm_digs x) (lm_digs y) (by omega) (by omega)
   refine Ev.bind hr (Ev.bind (signed_to _ r (x + y).natAbs (x + y) (by omega) hd (by omega) ?_) (Ev.now _))
   by_cases hx0 : x < 0
   ·
    rw [if_pos (by simpa using hx0)]; omega
   ·
    rw [if_neg (by simpa using hx0)]; omega
  ·
   refine Ev.neg (by rw [Int.sign_eq_neg_one_of_neg (by omega)]; omega) ?_
   obtain ⟨r, hr, hd, hv, hl⟩ := minus_ev (lm y) (lm x) (lm_digs y) (lm_digs x) (by omega) (by omega)
   refine Ev.bind hr (Ev.bind (signed_to _ r (x + y).natAbs (x + y) (by omega) hd (by omega) ?_) (Ev.now _))
   by_cases hy0 : y < 0
   ·
    rw [if_pos (by simpa using hy0)]; omega
   ·
    rw [if_neg (by simpa using hy0)]; omega
theorem sub_ev (x y : Int) (h1 : (lm x).length ≤ 70368744177663) (h2 : (lm y).length ≤ 70368744177663) :
  Ev (fun k => integer_Sub.f k (decide (x < 0)) (lm x) (decide (y < 0)) (lm y)) (decide (x - y < 0), lm (x - y)) := by
 unfold integer_Sub.f
 refine Ev.bind0 (neg_eq y) ?_
 have e : (lm (-y)).length = (lm y).length := by rw [lm, lm, Int.natAbs_neg]
 have := add_ev x (-y) h1 (by omega)
 rw [← Int.sub_eq_add_neg] at this
 exact Ev.bind this (Ev.now _)
theorem mul_bd {x y : Int} (h0 : 0 ≤ x) (h1 : x < 4294967296) (k0 : 0 ≤ y) (k1 : y < 4294967296) : 0 ≤ x * y ∧ x * y ≤ 18446744065119617025 := by
 refine ⟨Int.mul_nonneg h0 k0, ?_⟩
 have : x * y ≤ 4294967295 * 4294967295 := Int.mul_le_mul (by omega) (by omega) k0 (by omega)
 omega
def scaleR (B : Int) : List Int → Int → Int → List Int
 | [], _, c => [c % B]
 | a :: l, b, c => ((c + a * b) % B) :: scaleR B l b ((c + a * b) / B)
theorem scaleR_all : ∀ (l : List Int) (b c : Int), Digs 4294967296 l → 0 ≤ b → b < 4294967296 → 0 ≤ c → c < 4294967296 → Digs 4294967296 (scaleR 4294967296 l b c) ∧ val 4294967296 (scaleR 4294967296 l b c) = val 4294967296 l * b + c
 | [], b, c, _, b0, b1, h0, h1 => by
  refine ⟨Digs.mk (by omega) (by omega) (Digs.nil _), ?_⟩
  simp only [scaleR, val]
  omega
 | a :: l, b, c, hl, b0, b1, h0, h1 => by
  have ha := hl.cons.1
  have hp := mul_bd ha.1 ha.2 b0 b1
  have ih := scaleR_all l b ((c + a * b) / 4294967296) hl.cons.2 b0 b1 (by omega) (by omega)
  refine ⟨Digs.mk (by omega) (by omega) ih.1, ?_⟩
  simp only [scaleR, val, ih.2]
  rw [Int.add_mul, Int.mul_assoc]
  omega
theorem scale_l0 (l : List Int) (b : Int) (hl : Digs 4294967296 l) (b0 : 0 ≤ b) (b1 : b < 4294967296) (hmax : l.length ≤ 70368744177663) :
  ∀ (n i : Nat) (p : List Int) (c : Int), l.length - i = n → i ≤ l.length → p.length = i → 0 ≤ c → c < 4294967296 →
   Ev (fun k => integer_scale.l0 k l b (p ++ List.replicate (l.length + 1 - i) 0) c l (l.length : Int) (i : Int)) (trimL (p ++ scaleR 4294967296 (l.drop i) b c))
 | 0, i, p, c, hn, hi, hp, h0, h1 => by
  obtain rfl : i = l.length := by omega
  have e : l.length + 1 - l.length = 1 := by omega
  rw [e]
  refine Ev.step (fun k => integer_scale.l0.eq_2 ..) (Ev.neg (by omega) (Ev.pos (by omega) (Ev.pos (by rw [List.length_append, List.length_replicate, hp]; omega) ?_)))
  rw [set_mid hp rfl (by omega), List.drop_of_length_le (Nat.le_refl _)]
  simp only [scaleR, Nat.sub_self, List.replicate_zero, List.append_nil]
  exact Ev.bind (trim_ev _ (by simp [hp]; omega)) (Ev.now _)
 | n + 1, i, p, c, hn, hi, hp, h0, h1 => by
  have ha := rd_digs hl (show i < l.length by omega)
  have hb := mul_bd ha.1 ha.2 b0 b1
  have ew : wrap64 ((i : Int) + 1) = ((i + 1 : Nat) : Int) := by rw [w64 _ (by omega) (by omega)]; omega
  have hlen2 : (p ++ List.replicate (l.length + 1 - i) (0 : Int)).length = l.length + 1 := by simp [hp]; omega
  have es : scaleR 4294967296 (l.drop i) b c = ((c + rd l (i : Int) * b) % 4294967296) :: scaleR 4294967296 (l.drop (i + 1)) b ((c + rd l (i : Int) * b) / 4294967296) := by
   rw [drop_at (l := l) (by omega)]
   simp only [scaleR]
  have hr : l.length + 1 - i - 1 = l.length + 1 - (i + 1) := by omega
  have ih := scale_l0 l b hl b0 b1 hmax n (i + 1) (p ++ [(c + rd l (i : Int) * b) % 4294967296]) ((c + rd l (i : Int) * b) / 4294967296) (by omega) (by omega) (by simp [hp]) (by omega) (by omega)
  rw [es, app_cons]
  refine Ev.step (fun k => integer_scale.l0.eq_2 ..) (Ev.pos (by omega) (Ev.pos (by omega) (Ev.pos (by omega) (Ev.pos (by omega) ?_))))
  have e1 : IntKind.u64.wrap (c + (IntKind.u64.wrap ((IntKind.u64.wrap (rd l (i : Int))) * (IntKind.u64.wrap b)))) = c + rd l (i : Int) * b := by
   rw [u64s (rd l (i : Int)) (by omega) (by omega), u64s b (by omega) (by omega), u64s _ hb.1 (by omega), u64s _ (by omega) (by omega)]
  rw [ew, e1, set_mid hp rfl (by omega), hr]
  exact ih
theorem scale_ev (l : List Int) (b c : Int) (hl : Digs 4294967296 l) (b0 : 0 ≤ b) (b1 : b < 4294967296) (c0 : 0 ≤ c) (c1 : c < 4294967296) (hmax : l.length ≤ 70368744177663) (n : Nat) (hn : val 4294967296 l * b + c = n) :
  Ev (fun k => integer_scale.f k l b c) (dgs BB n) := by
 unfold integer_scale.f
 have hr := scaleR_all l b c hl b0 b1 c0 c1
 rw [w64 _ (by omega) (by omega)]
 refine Ev.pos (by omega) (Ev.pos (by omega) ?_)
 have := scale_l0 l b hl b0 b1 hmax l.length 0 [] c (by omega) (by omega) rfl c0 c1
 rw [show ((l.length : Int) + 1).toNat = l.length + 1 - 0 by omega, u64s c c0 (by omega)]
 rw [List.drop_zero, List.nil_append, List.nil_append, trimL_dgs BB2 hr.1 (hr.2.trans hn)] at this
 exact this
def shortR (b : Int) : List Int → List Int × Int
 | [] => ([], 0)
 | d :: l => (((shortR b l).2 * 4294967296 + d) / b :: (shortR b l).1, ((shortR b l).2 * 4294967296 + d) % b)
theorem shortR_all (b : Int) (b0 : 0 < b) (b1 : b < 4294967296) : ∀ (l : List Int), Digs 4294967296 l →
  Digs 4294967296 (shortR b l).1 ∧ val 4294967296 l = val 4294967296 (shortR b l).1 * b + (shortR b l).2 ∧ 0 ≤ (shortR b l).2 ∧ (shortR b l).2 < b ∧ (shortR b l).1.length = l.length
 | [], _ => ⟨Digs.nil _, by simp [shortR, val], by simp [shortR], by simpa [shortR] using b0, rfl⟩
 | d :: l, h => by
  obtain ⟨h1, h2, h3, h4, h5⟩ := shortR_all b b0 b1 l h.cons.2
  have hd := h.cons.1
  have hm := Int.emod_nonneg ((shortR b l).2 * 4294967296 + d) (show b ≠ 0 by omega)
  have hm2 := Int.emod_lt_of_pos ((shortR b l).2 * 4294967296 + d) b0
  have hq0 : 0 ≤ ((shortR b l).2 * 4294967296 + d) / b := Int.ediv_nonneg (by omega) (by omega)
  have hq1 : ((shortR b l).2 * 4294967296 + d) / b < 4294967296 := Int.ediv_lt_of_lt_mul b0 (by omega)
  have hdm := Int.mul_ediv_add_emod ((shortR b l).2 * 4294967296 + d) b
  rw [Int.mul_comm b] at hdm
  simp only [shortR]
  refine ⟨Digs.mk hq0 hq1 h1, ?_, hm, hm2, by simp [h5]⟩
  simp only [val]
  rw [h2, Int.add_mul, Int.mul_assoc]
  omega
theorem short_l0 (l : List Int) (b : Int) (hl : Digs 4294967296 l) (b0 : 0 < b) (b1 : b < 4294967296) (hmax : l.length ≤ 70368744177663) :
  ∀ (i : Nat), i ≤ l.length →
   Ev (fun k => integer_short.l0 k l b (List.replicate i 0 ++ (shortR b (l.drop i)).1) (shortR b (l.drop i)).2 ((i : Int) - 1)) (trimL (shortR b l).1, (shortR b l).2)
 | 0, hi => by
  have hs := shortR_all b b0 b1 l hl
  refine Ev.step (fun k => integer_short.l0.eq_2 ..) (Ev.neg (by omega) ?_)
  simp only [List.drop_zero, List.replicate_zero, List.nil_append]
  refine Ev.bind (trim_ev _ (by omega)) (Ev.some_ ?_)
  rw [Int.emod_eq_of_lt hs.2.2.1 (by omega)]
 | i + 1, hi => by
  have ha := rd_digs hl (show i < l.length by omega)
  have hs := shortR_all b b0 b1 (l.drop (i + 1)) (hl.drop _)
  have e : (((i + 1 : Nat) : Int) - 1) = (i : Int) := by omega
  have ew : wrap64 ((i : Int) - 1) = (i : Int) - 1 := w64 _ (by omega) (by omega)
  have hlen2 : (List.replicate (i + 1) (0 : Int) ++ (shortR b (l.drop (i + 1))).1).length = l.length := by simp [hs.2.2.2.2]; omega
  have ih := short_l0 l b hl b0 b1 hmax i (by omega)
  rw [e]
  refine Ev.step (fun k => integer_short.l0.eq_2 ..) (Ev.pos (by omega) (Ev.pos (by omega) (Ev.pos (by omega) (Ev.neg ?_ (Ev.pos (by omega) ?_)))))
  ·
   rw [u64s b (by omega) (by omega)]; omega
  ·
   rw [u64s b (by omega) (by omega), u64s (rd l (i : Int)) (by omega) (by omega), u64s (_ * 4294967296) (by omega) (by omega), or_high _ _ hs.2.2.1 (by omega) ha.1 ha.2, ew]
   have hq0 : 0 ≤ ((shortR b (l.drop (i + 1))).2 * 4294967296 + rd l (i : Int)) / b := Int.ediv_nonneg (by omega) (by omega)
   have hq1 : ((shortR b (l.drop (i + 1))).2 * 4294967296 + rd l (i : Int)) / b < 4294967296 := Int.ediv_lt_of_lt_mul b0 (by omega)
   have et : Int.tdiv ((shortR b (l.drop (i + 1))).2 * 4294967296 + rd l (i : Int)) b = ((shortR b (l.drop (i + 1))).2 * 4294967296 + rd l (i : Int)) / b := Int.tdiv_eq_ediv_of_nonneg (by omega)
   have em : Int.tmod ((shortR b (l.drop (i + 1))).2 * 4294967296 + rd l (i : Int)) b = ((shortR b (l.drop (i + 1))).2 * 4294967296 + rd l (i : Int)) % b := Int.tmod_eq_emod_of_nonneg (by omega)
   rw [et, em, u64s _ hq0 (by omega), Int.emod_eq_of_lt hq0 hq1]
   have hx : (List.replicate (i + 1) (0 : Int) ++ (shortR b (l.drop (i + 1))).1).set ((i : Int) : Int).toNat (((shortR b (l.drop (i + 1))).2 * 4294967296 + rd l (i : Int)) / b) = List.replicate i 0 ++ (shortR b (l.drop i)).1 := by
    rw [List.replicate_succ', List.append_assoc, Int.toNat_natCast]
    have : i = (List.replicate i (0 : Int)).length := by simp
    conv => lhs; arg 2; rw [this]
    rw [List.set_append_right _ _ (Nat.le_refl _), Nat.sub_self, drop_at (l := l) (i := i) (by omega)]
    rfl
   have hy : ((shortR b (l.drop (i + 1))).2 * 4294967296 + rd l (i : Int)) % b = (shortR b (l.drop i)).2 := by
    rw [drop_at (l := l) (i := i) (by omega)]; rfl
   rw [hx, hy]
   exact ih
theorem short_ev (l : List Int) (b : Int) (hl : Digs 4294967296 l) (b0 : 0 < b) (b1 : b < 4294967296) (hmax : l.length ≤ 70368744177663) :
  Ev (fun k => integer_short.f k l b) (dgs BB ((val 4294967296 l).toNat / b.toNat), ((val 4294967296 l).toNat % b.toNat : Nat)) := by
 unfold integer_short.f
 obtain ⟨h1, h2, h3, h4, h5⟩ := shortR_all b b0 b1 l hl
 have hv := val_nonneg (B := 4294967296) (by decide) h1
 have hv2 := val_nonneg (B := 4294967296) (by decide) hl
 have hp := Int.mul_nonneg hv (Int.le_of_lt b0)
 rw [w64 _ (by omega) (by omega)]
 refine Ev.pos (by omega) (Ev.pos (by omega) ?_)
 have := short_l0 l b hl b0 b1 hmax l.length (Nat.le_refl _)
 rw [List.drop_of_length_le (Nat.le_refl _)] at this
 simp only [shortR, List.append_nil] at this
 rw [show ((l.length : Int) : Int).toNat = l.length by omega]
 obtain ⟨q, hq⟩ : ∃ q : Nat, val 4294967296 (shortR b l).1 = q := ⟨_, (Int.toNat_of_nonneg hv).symm⟩
 obtain ⟨r, hr⟩ : ∃ r : Nat, (shortR b l).2 = r := ⟨_, (Int.toNat_of_nonneg h3).symm⟩
 obtain ⟨c, rfl⟩ : ∃ c : Nat, b = c := ⟨_, (Int.toNat_of_nonneg (by omega)).symm⟩
 have hn : (val 4294967296 l).toNat = q * c + r := by
  rw [h2, hq, hr]
  have : ((q : Int) * c + r) = ((q * c + r : Nat) : Int) := by push_cast; rfl
  rw [this, Int.toNat_natCast]
 have e1 : (q * c + r) / c = q := by
  rw [Nat.mul_comm, Nat.mul_add_div (by omega), Nat.div_eq_of_lt (by omega)]; omega
 have e2 : (q * c + r) % c = r := by
  rw [Nat.mul_comm, Nat.mul_add_mod, Nat.mod_eq_of_lt (by omega)]
 rw [trimL_dgs BB2 h1 hq, hr] at this
 rw [hn, Int.toNat_natCast, e1, e2]
 exact this
theorem rd_mid {p r : List Int} {o j : Int} {i : Nat} (hp : p.length = i) (hj : j = (i : Int)) : rd (p ++ o :: r) j = o := by
 subst hj
 rw [rd_at (by simp [hp])]
 subst hp
 simp
theorem set_mid2 {p r : List Int} {o j v : Int} {i : Nat} (hp : p.length = i) (hj : j = (i : Int)) : (p ++ o :: r).set j.toNat v = p ++ v :: r := by
 subst hj
 rw [Int.toNat_natCast, ← hp, List.set_append_right _ _ (Nat.le_refl _), Nat.sub_self]
 rfl
end Go.Proofs.YtiikfhdmclmjmaaDoor.Pure
namespace Go.Proofs.YtiikfhdmclmjmaaDoor.Pure
section
variable {B P x y v1 v2 u0 u1 u2 : Int}
theorem kn_upper (hB : 2 ≤ B) (hP : 0 < P) (y1 : y < P) (u21 : u2 < B) {high : Int} : y + P * (u2 + B * high) < P * (B * (high + 1)) := by
 have h : P * (u2 + B * high + 1) ≤ P * (B * (high + 1)) := Int.mul_le_mul_of_nonneg_left (by rw [Int.mul_add]; omega) (Int.le_of_lt hP)
 rw [Int.mul_add P (u2 + B * high) 1] at h
 omega
theorem kn_init (hB : 2 ≤ B) (hP : 0 < P) (x0 : 0 ≤ x) (y1 : y < P) (v10 : 0 < v1) (v20 : 0 ≤ v2) (u21 : u2 < B) {high Q : Int} (Q0 : 0 ≤ Q) (h : Q * (x + P * (v2 + B * v1)) ≤ y + P * (u2 + B * high)) :
  Q ≤ high / v1 := by
 refine Int.le_ediv_of_mul_le v10 ?_
 rcases Int.lt_or_le high (Q * v1) with g | g
 ·
  exfalso
  have a1 := kn_upper (high := high) hB hP y1 u21
  have a2 : P * (B * (high + 1)) ≤ P * (B * (Q * v1)) := Int.mul_le_mul_of_nonneg_left (Int.mul_le_mul_of_nonneg_left (by omega) (by omega)) (Int.le_of_lt hP)
  have a3 : Q * (P * (B * v1)) ≤ Q * (x + P * (v2 + B * v1)) := by
   refine Int.mul_le_mul_of_nonneg_left ?_ Q0
   have := Int.mul_nonneg (Int.le_of_lt hP) v20
   rw [Int.mul_add]
   omega
  have a4 : Q * (P * (B * v1)) = P * (B * (Q * v1)) := by rw [Int.mul_left_comm Q P, Int.mul_left_comm Q B]
  omega
 ·
  exact g
theorem kn_step (hP : 0 < P) (x0 : 0 ≤ x) (y1 : y < P) {high q rest Q : Int} (q0 : 0 ≤ q) (hr : high = q * v1 + rest) (ht : rest * B + u2 < q * v2) (h : Q * (x + P * (v2 + B * v1)) ≤ y + P * (u2 + B * high)) (hV : 0 ≤ x + P * (v2 + B * v1)) : Q ≤ q - 1 := by
 rcases Int.lt_or_le Q q with g | g
 ·
  omega
 ·
  exfalso
  have a1 := Int.mul_le_mul_of_nonneg_right g hV
  have a2 : q * (P * (v2 + B * v1)) ≤ q * (x + P * (v2 + B * v1)) := Int.mul_le_mul_of_nonneg_left (by omega) q0
  have a3 : q * (P * (v2 + B * v1)) = P * (q * v2 + B * (q * v1)) := by rw [Int.mul_left_comm q P, Int.mul_add q, Int.mul_left_comm q B]
  have a4 : P * (u2 + B * high) + P ≤ P * (q * v2 + B * (q * v1)) := by
   have : P * (u2 + B * high + 1) ≤ P * (q * v2 + B * (q * v1)) := Int.mul_le_mul_of_nonneg_left (by rw [hr, Int.mul_add B, Int.mul_comm B rest]; omega) (Int.le_of_lt hP)
   rw [Int.mul_add P (u2 + B * high) 1] at this
   omega
  omega
theorem kn_exit (hB : 2 ≤ B) (hP : 0 < P) (x1 : x < P) (y0 : 0 ≤ y) (v10 : 0 < v1) (v20 : 0 ≤ v2) {high q rest : Int} (q0 : 1 ≤ q) (qB : q ≤ B) (hr : high = q * v1 + rest) (ht : q * v2 ≤ rest * B + u2) :
  (q - 1) * (x + P * (v2 + B * v1)) ≤ y + P * (u2 + B * high) := by
 have a1 : (q - 1) * (x + P * (v2 + B * v1)) ≤ (q - 1) * (P * (v2 + B * v1 + 1)) := by
  refine Int.mul_le_mul_of_nonneg_left ?_ (by omega)
  rw [Int.mul_add P (v2 + B * v1) 1]
  omega
 have a2 : (q - 1) * (P * (v2 + B * v1 + 1)) = P * ((q * v2 + B * (q * v1) + q) - (v2 + B * v1 + 1)) := by
  rw [Int.mul_left_comm, Int.sub_mul, Int.one_mul, Int.mul_add q (v2 + B * v1) 1, Int.mul_add q v2, Int.mul_left_comm q B, Int.mul_one]
 have hBv : B * 1 ≤ B * v1 := Int.mul_le_mul_of_nonneg_left (by omega) (by omega)
 have a3 : P * ((q * v2 + B * (q * v1) + q) - (v2 + B * v1 + 1)) ≤ P * (u2 + B * high) := by
  refine Int.mul_le_mul_of_nonneg_left ?_ (Int.le_of_lt hP)
  rw [hr, Int.mul_add B, Int.mul_comm B rest]
  omega
 omega
end
end Go.Proofs.YtiikfhdmclmjmaaDoor.Pure
namespace Go.Proofs.YtiikfhdmclmjmaaDoor.P
open Go.RowKit Go.Proofs.YtiikfhdmclmjmaaDoorW.PrintWords Go.Proofs.YtiikfhdmclmjmaaDoorW.PrintLast
mutual
def integer_Int_Int.l0 : Nat → Int → List Int → Int → Int → Bool → List Int → Option (Int × Bool)
 | 0, _, _, _, _, _, _ => none
 | k + 1, x4, x12, x13, x14, x442000, x442001 => if x14 < x13 then (if 0 ≤ x14 then (if x14 < (x12.length : Int) then (if 0 ≤ (wrap64 (32 * x14)) then (integer_Int_Int.l0 k (Go.bits .or .u64 x4 (shl .u64 (IntKind.u64.wrap (rd x12 x14)) (wrap64 (32 * x14)))) x12 x13 (wrap64 (x14 + 1)) x442000 x442001) else (none)) else (none)) else (none)) else (if x442000 = true then (integer_Int_Int.j1 k x4 false x442000 x442001) else (integer_Int_Int.j1 k x4 (decide (x4 < 9223372036854775808)) x442000 x442001))
def integer_Int_Int.j1 : Nat → Int → Bool → Bool → List Int → Option (Int × Bool)
 | 0, _, _, _, _ => none
 | k + 1, x4, x27, x442000, x442001 => if x27 = true then (some (wrap64 (x4), true)) else (if x442000 = true then (if x4 ≤ 9223372036854775808 then (some (wrap64 (IntKind.u64.wrap (-x4)), true)) else (some (0, false))) else (some (0, false)))
end
def integer_Int_Int.f (k : Nat) (a0_0 : Bool) (l0_1 : List Int) : Option (Int × Bool) := if (l0_1.length : Int) > 2 then (some (0, false)) else (integer_Int_Int.l0 k 0 l0_1 (l0_1.length : Int) 0 a0_0 l0_1)
theorem integer_Int_Int.mono_l : ∀ k, (∀ y0 y1 y2 y3 y4 y5, LeO (integer_Int_Int.l0 k y0 y1 y2 y3 y4 y5) (integer_Int_Int.l0 (k + 1) y0 y1 y2 y3 y4 y5)) ∧ (∀ y0 y1 y2 y3, LeO (integer_Int_Int.j1 k y0 y1 y2 y3) (integer_Int_Int.j1 (k + 1) y0 y1 y2 y3))
 | 0 => ⟨fun _ _ _ _ _ _ r h => by simp [integer_Int_Int.l0] at h, fun _ _ _ _ r h => by simp [integer_Int_Int.j1] at h⟩
 | k + 1 => by
  obtain ⟨ih0, ih1⟩ := integer_Int_Int.mono_l k
  refine ⟨?_, ?_⟩
  ·
   intro y0 y1 y2 y3 y4 y5
   unfold integer_Int_Int.l0
   repeat' with_reducible first | exact ih0 _ _ _ _ _ _ | exact ih1 _ _ _ _ | exact LeO.refl _ | exact LeO.none _ | refine LeO.ite ?_ ?_ | refine LeO.bind ?_ (fun _ => ?_)
  ·
   intro y0 y1 y2 y3
   unfold integer_Int_Int.j1
   repeat' with_reducible first | exact ih0 _ _ _ _ _ _ | exact ih1 _ _ _ _ | exact LeO.refl _ | exact LeO.none _ | refine LeO.ite ?_ ?_ | refine LeO.bind ?_ (fun _ => ?_)
theorem integer_Int_Int.mono : ∀ a0 a1 k, LeO (integer_Int_Int.f k a0 a1) (integer_Int_Int.f (k + 1) a0 a1) := by
 intro a0 a1 k
 obtain ⟨ih0, ih1⟩ := integer_Int_Int.mono_l k
 unfold integer_Int_Int.f
 repeat' with_reducible first | exact ih0 _ _ _ _ _ _ | exact ih1 _ _ _ _ | exact LeO.refl _ | exact LeO.none _ | refine LeO.ite ?_ ?_ | refine LeO.bind ?_ (fun _ => ?_)
end Go.Proofs.YtiikfhdmclmjmaaDoor.P
namespace Go.Proofs.YtiikfhdmclmjmaaDoor.Pure
open Go.RowKit Go.Proofs.YtiikfhdmclmjmaaDoorW.PrintWords Go.Proofs.YtiikfhdmclmjmaaDoor.P
theorem w0 : wrap64 (32 * 0) = 0 := by rw [w64 _ (by decide) (by decide)]; rfl
theorem w1 : wrap64 (32 * 1) = 32 := by rw [w64 _ (by decide) (by decide)]; rfl
theorem w12 : wrap64 (1 + 1) = 2 := by rw [w64 _ (by decide) (by decide)]; rfl
theorem val_cut (B : Int) (l : List Int) (i : Nat) (h : i ≤ l.length) : val B l = val B (l.take i) + B ^ i * val B (l.drop i) := by
 have := val_app B (l.take i) (l.drop i)
 rw [List.take_append_drop, List.length_take, Nat.min_eq_left h] at this
 exact this
section
variable (u v : List Int) (n : Nat) (r : Int × List Int)
def Est (U V q : Int) : Prop := 0 ≤ q ∧ q < 4294967296 ∧ (∀ Q : Int, 0 ≤ Q → Q * V ≤ U → Q ≤ q) ∧ (1 ≤ q → (q - 1) * V ≤ U)
theorem dig_l0 (hn : 2 ≤ n) (hmax : n ≤ 1000000) (hv : v.length = n) (hu : u.length = n + 1) (dv : Digs 4294967296 v) (du : Digs 4294967296 u) (P x y V U v1 v2 u0 u1 u2 high : Int) (hP : 0 < P) (x0 : 0 ≤ x) (x1 : x < P) (y0 : 0 ≤ y) (y1 : y < P)
  (e1 : rd v ((n - 1 : Nat) : Int) = v1) (e2 : rd v ((n - 2 : Nat) : Int) = v2) (e5 : rd u ((n - 2 : Nat) : Int) = u2)
  (v1p : 0 < v1) (v1B : v1 < 4294967296) (v20 : 0 ≤ v2) (v2B : v2 < 4294967296) (u20 : 0 ≤ u2) (u2B : u2 < 4294967296) (h0 : 0 ≤ high) (h1 : high < 18446744073709551616)
  (hV : V = x + P * (v2 + 4294967296 * v1)) (hU : U = y + P * (u2 + 4294967296 * high)) (hUV : U < 4294967296 * V) (V0 : 0 < V) (U0 : 0 ≤ U) (htop : high < 4294967296 * v1 + 4294967296)
  (H : ∀ q, Est U V q → Ev (fun k => integer_digit.j1 k u v (n : Int) q) r) :
  ∀ (m : Nat) (q rest : Int), q.toNat = m → 0 ≤ q → 0 ≤ rest → rest < 8589934592 → high = q * v1 + rest → (∀ Q : Int, 0 ≤ Q → Q * V ≤ U → Q ≤ q) → Ev (fun k => integer_digit.l0 k u v (n : Int) q rest) r := by
 intro m
 induction m with
 | zero =>
  intro q rest hm q0 r0 r1 hh inv
  obtain rfl : q = 0 := by omega
  have fin := H 0 ⟨by omega, by omega, inv, fun h => by omega⟩
  refine Ev.step (fun k => integer_digit.l0.eq_2 ..) ?_
  by_cases hr : rest < 4294967296
  ·
   refine Ev.pos hr (Ev.neg (by omega) ?_)
   rw [w64 ((n : Int) - 2) (by omega) (by omega), show (n : Int) - 2 = ((n - 2 : Nat) : Int) by omega]
   refine Ev.pos (by omega) (Ev.pos (by omega) (Ev.pos (by omega) ?_))
   rw [e2, e5]
   refine Ev.neg ?_ fin
   rw [u64s v2 v20 (by omega), Int.zero_mul, u64s 0 (by omega) (by omega), u64s (rest * 4294967296) (by omega) (by omega), u64s u2 u20 (by omega), or_high rest u2 r0 hr u20 u2B]
   omega
  ·
   exact Ev.neg hr fin
 | succ m ih =>
  intro q rest hm q0 r0 r1 hh inv
  have qv : q * 1 ≤ q * v1 := Int.mul_le_mul_of_nonneg_left (by omega) q0
  have next : (∀ Q : Int, 0 ≤ Q → Q * V ≤ U → Q ≤ q - 1) → rest < 4294967296 → Ev (fun k => integer_digit.l0 k u v (n : Int) (IntKind.u64.wrap (q - 1)) (IntKind.u64.wrap (rest + (IntKind.u64.wrap v1)))) r := by
   intro inv' hr
   rw [u64s (q - 1) (by omega) (by omega), u64s v1 (by omega) (by omega), u64s (rest + v1) (by omega) (by omega)]
   exact ih (q - 1) (rest + v1) (by omega) (by omega) (by omega) (by omega) (by rw [Int.sub_mul, Int.one_mul]; omega) inv'
  have exit : q < 4294967296 → q * v2 ≤ rest * 4294967296 + u2 → Est U V q := by
   intro qB ht
   refine ⟨q0, qB, inv, fun q1 => ?_⟩
   rw [hV, hU]
   exact kn_exit (by decide) hP x1 y0 v1p v20 q1 (by omega) hh ht
  refine Ev.step (fun k => integer_digit.l0.eq_2 ..) ?_
  by_cases hr : rest < 4294967296
  ·
   refine Ev.pos hr ?_
   by_cases hq : q ≥ 4294967296
   ·
    refine Ev.pos hq ?_
    rw [w64 ((n : Int) - 1) (by omega) (by omega), show (n : Int) - 1 = ((n - 1 : Nat) : Int) by omega]
    refine Ev.pos (by omega) (Ev.pos (by omega) ?_)
    rw [e1]
    refine next (fun Q Q0 hQ => ?_) hr
    rcases Int.lt_or_le Q 4294967296 with g | g
    ·
     omega
    ·
     have := Int.mul_le_mul_of_nonneg_right g (Int.le_of_lt V0)
     omega
   ·
    refine Ev.neg hq ?_
    have qb : q * v2 ≤ 4294967296 * v2 := Int.mul_le_mul_of_nonneg_right (by omega) v20
    have qb0 := Int.mul_nonneg q0 v20
    rw [w64 ((n : Int) - 2) (by omega) (by omega), show (n : Int) - 2 = ((n - 2 : Nat) : Int) by omega]
    refine Ev.pos (by omega) (Ev.pos (by omega) (Ev.pos (by omega) ?_))
    rw [e2, e5, u64s v2 v20 (by omega), u64s (q * v2) qb0 (by omega), u64s (rest * 4294967296) (by omega) (by omega), u64s u2 u20 (by omega), or_high rest u2 r0 hr u20 u2B]
    by_cases ht : q * v2 > rest * 4294967296 + u2
    ·
     refine Ev.pos ht ?_
     rw [w64 ((n : Int) - 1) (by omega) (by omega), show (n : Int) - 1 = ((n - 1 : Nat) : Int) by omega]
     refine Ev.pos (by omega) (Ev.pos (by omega) ?_)
     rw [e1]
     refine next (fun Q Q0 hQ => ?_) hr
     rw [hV, hU] at hQ
     exact kn_step (B := 4294967296) hP x0 y1 q0 hh ht hQ (by rw [← hV]; omega)
    ·
     exact Ev.neg ht (H q (exit (by omega) (by omega)))
  ·
   have qB : q < 4294967296 := by
    rcases Int.lt_or_le q 4294967296 with g | g
    ·
     exact g
    ·
     have := Int.mul_le_mul_of_nonneg_right g (Int.le_of_lt v1p)
     omega
   have qb : q * v2 ≤ 4294967296 * v2 := Int.mul_le_mul_of_nonneg_right (by omega) v20
   exact Ev.neg hr (H q (exit qB (by omega)))
end
theorem val_snoc (p : List Int) (x : Int) : val 4294967296 (p ++ [x]) = val 4294967296 p + 4294967296 ^ p.length * x := by
 rw [val_app]
 simp [val]
section
variable (v : List Int) (n : Nat) (q : Int) (R : Int × List Int)
theorem dig_l2 (hv : v.length = n) (hmax : n ≤ 1000000) (dv : Digs 4294967296 v) (E : Int)
  (H : ∀ w, w.length = n + 1 → Digs 4294967296 w → (∃ k, val 4294967296 w = E + val 4294967296 v + 4294967296 ^ (n + 1) * k) → Ev (fun _ => some ((IntKind.u64.wrap (q - 1)) % 4294967296, w)) R) :
  ∀ (m i : Nat) (p s : List Int) (c : Int), i + m = n → p.length = i → s.length = m + 1 → Digs 4294967296 p → Digs 4294967296 s → 0 ≤ c → c ≤ 1 →
   val 4294967296 p + 4294967296 ^ i * (val 4294967296 s + val 4294967296 (v.drop i) + c) = E + val 4294967296 v →
   Ev (fun k => integer_digit.l2 k (p ++ s) (n : Int) q c v (v.length : Int) (i : Int)) R
 | 0, i, p, s, c, hi, hp, hs, dp, ds, c0, c1, hE => by
  obtain rfl : i = n := by omega
  obtain ⟨o, rfl⟩ : ∃ o, s = [o] := List.length_eq_one_iff.1 hs
  have ho := ds.cons.1
  have hl : (p ++ [o]).length = i + 1 := by simp [hp]
  refine Ev.step (fun k => integer_digit.l2.eq_2 ..) (Ev.neg (by omega) (Ev.pos (by omega) (Ev.pos (by omega) ?_)))
  rw [rd_mid hp rfl, set_mid2 hp rfl, show c % 4294967296 = c by omega]
  refine H (p ++ [(o + c) % 4294967296]) (by simp [hp]) (dp.app (Digs.mk (by omega) (by omega) (Digs.nil _))) ⟨-((o + c) / 4294967296), ?_⟩
  rw [List.drop_of_length_le (by omega)] at hE
  simp only [val, Int.mul_zero, Int.add_zero] at hE
  rw [val_snoc, hp, ← hE, Int.pow_succ, Int.add_assoc, Int.mul_assoc, ← Int.mul_add]
  congr 2
  omega
 | m + 1, i, p, s, c, hi, hp, hs, dp, ds, c0, c1, hE => by
  obtain ⟨o, s, rfl⟩ : ∃ o s', s = o :: s' := by
   cases s with
   | nil => simp at hs
   | cons o s' => exact ⟨o, s', rfl⟩
  have ho := ds.cons.1
  have hd := rd_digs dv (show i < v.length by omega)
  have hl : (p ++ o :: s).length = n + 1 := by simp at hs ⊢; omega
  have hdr := drop_at (l := v) (i := i) (by omega)
  refine Ev.step (fun k => integer_digit.l2.eq_2 ..) (Ev.pos (by omega) (Ev.pos (by omega) (Ev.pos (by omega) (Ev.pos (by omega) ?_))))
  rw [rd_mid hp rfl, set_mid2 hp rfl, wsucc (j := i) (n := n) (by omega) (by omega)]
  generalize rd v (i : Int) = d at *
  rw [u64s o ho.1 (by omega), u64s d hd.1 (by omega), u64s (o + d) (by omega) (by omega), u64s (c + (o + d)) (by omega) (by omega)]
  have ih := dig_l2 hv hmax dv E H m (i + 1) (p ++ [(c + (o + d)) % 4294967296]) s ((c + (o + d)) / 4294967296) (by omega) (by simp [hp]) (by simpa using hs) (dp.app (Digs.mk (by omega) (by omega) (Digs.nil _))) ds.cons.2 (by omega) (by omega) ?_
  ·
   rw [List.append_assoc] at ih
   exact ih
  ·
   rw [← hE, hdr, val_snoc, hp, Int.pow_succ]
   simp only [val]
   rw [Int.add_assoc, Int.mul_assoc, ← Int.mul_add]
   congr 2
   omega
theorem dig_l1 (hv : v.length = n) (hmax : n ≤ 1000000) (dv : Digs 4294967296 v) (q0 : 0 ≤ q) (q1 : q < 4294967296) (D : Int)
  (H1 : ∀ w, w.length = n + 1 → Digs 4294967296 w → val 4294967296 w = D → Ev (fun _ => some (q % 4294967296, w)) R)
  (H2 : ∀ w, w.length = n + 1 → Digs 4294967296 w → val 4294967296 w = D + 4294967296 ^ (n + 1) → D < 0 → Ev (fun k => integer_digit.l2 k w (n : Int) q 0 v (v.length : Int) 0) R) :
  ∀ (m i : Nat) (p s : List Int) (c b : Int), i + m = n → p.length = i → s.length = m + 1 → Digs 4294967296 p → Digs 4294967296 s → 0 ≤ c → c < 4294967296 → 0 ≤ b → b ≤ 1 →
   val 4294967296 p + 4294967296 ^ i * (val 4294967296 s - q * val 4294967296 (v.drop i) - c - b) = D →
   Ev (fun k => integer_digit.l1 k (p ++ s) v (n : Int) q c b v (v.length : Int) (i : Int)) R
 | 0, i, p, s, c, b, hi, hp, hs, dp, ds, c0, c1, b0, b1, hD => by
  obtain rfl : i = n := by omega
  obtain ⟨o, rfl⟩ : ∃ o, s = [o] := List.length_eq_one_iff.1 hs
  have ho := ds.cons.1
  have hl : (p ++ [o]).length = i + 1 := by simp [hp]
  have hvp := val_lt (B := 4294967296) (by decide) dp
  have hP : (0 : Int) < 4294967296 ^ i := Int.pow_pos (by decide)
  rw [hp] at hvp
  rw [List.drop_of_length_le (by omega)] at hD
  simp only [val, Int.mul_zero, Int.add_zero, Int.sub_zero] at hD
  refine Ev.step (fun k => integer_digit.l1.eq_2 ..) (Ev.neg (by omega) (Ev.pos (by omega) (Ev.pos (by omega) (Ev.bindS ?_))))
  rw [rd_mid hp rfl, set_mid2 hp rfl, w64 o (by omega) (by omega), w64 c (by omega) (by omega), w64 (o - b) (by omega) (by omega), w64 (o - b - c) (by omega) (by omega)]
  by_cases ht : o - b - c ≥ 0
  ·
   refine Ev.pos ht (H1 _ (by simp [hp]) (dp.app (Digs.mk (by omega) (by omega) (Digs.nil _))) ?_)
   rw [val_snoc, hp, ← hD]
   congr 2
   omega
  ·
   refine Ev.neg ht (H2 _ (by simp [hp]) (dp.app (Digs.mk (by omega) (by omega) (Digs.nil _))) ?_ ?_)
   ·
    rw [val_snoc, hp, ← hD, Int.pow_succ, Int.add_assoc, ← Int.mul_add]
    congr 2
    omega
   ·
    have := Int.mul_le_mul_of_nonneg_left (show o - c - b ≤ -1 by omega) (Int.le_of_lt hP)
    rw [← hD]
    omega
 | m + 1, i, p, s, c, b, hi, hp, hs, dp, ds, c0, c1, b0, b1, hD => by
  obtain ⟨o, s, rfl⟩ : ∃ o s', s = o :: s' := by
   cases s with
   | nil => simp at hs
   | cons o s' => exact ⟨o, s', rfl⟩
  have ho := ds.cons.1
  have hd := rd_digs dv (show i < v.length by omega)
  have hl : (p ++ o :: s).length = n + 1 := by simp at hs ⊢; omega
  have hdr := drop_at (l := v) (i := i) (by omega)
  refine Ev.step (fun k => integer_digit.l1.eq_2 ..) (Ev.pos (by omega) (Ev.pos (by omega) (Ev.pos (by omega) (Ev.pos (by omega) (Ev.bindS ?_)))))
  rw [rd_mid hp rfl, set_mid2 hp rfl, wsucc (j := i) (n := n) (by omega) (by omega)]
  generalize rd v (i : Int) = d at *
  have hm := mul_bd q0 q1 hd.1 hd.2
  have hqd : q * (d + 4294967296 * val 4294967296 (v.drop (i + 1))) = q * d + 4294967296 * (q * val 4294967296 (v.drop (i + 1))) := by rw [Int.mul_add, Int.mul_left_comm]
  rw [hdr] at hD
  simp only [val] at hD
  rw [hqd] at hD
  rw [u64s d hd.1 (by omega)]
  generalize q * d = z at *
  obtain ⟨X, hX⟩ : ∃ X, q * val 4294967296 (v.drop (i + 1)) = X := ⟨_, rfl⟩
  rw [hX] at hD
  rw [u64s z hm.1 (by omega), u64s (c + z) (by omega) (by omega), w64 o (by omega) (by omega), w64 (o - b) (by omega) (by omega), w64 (o - b - (c + z) % 4294967296) (by omega) (by omega)]
  have key : ∀ b' : Int, 0 ≤ b' → b' ≤ 1 → (o - b - (c + z) % 4294967296) % 4294967296 = o - b - (c + z) % 4294967296 + 4294967296 * b' →
    Ev (fun k => integer_digit.l1 k (p ++ (o - b - (c + z) % 4294967296) % 4294967296 :: s) v (n : Int) q ((c + z) / 4294967296) b' v (v.length : Int) ((i + 1 : Nat) : Int)) R := by
   intro b' h0 h1 he
   have ih := dig_l1 hv hmax dv q0 q1 D H1 H2 m (i + 1) (p ++ [(o - b - (c + z) % 4294967296) % 4294967296]) s ((c + z) / 4294967296) b' (by omega) (by simp [hp]) (by simpa using hs) (dp.app (Digs.mk (by omega) (by omega) (Digs.nil _))) ds.cons.2 (by omega) (by omega) h0 h1 ?_
   ·
    rw [List.append_assoc] at ih
    exact ih
   ·
    rw [hX, ← hD, val_snoc, hp, Int.pow_succ, Int.add_assoc, Int.mul_assoc, ← Int.mul_add, he]
    congr 2
    omega
  by_cases ht : o - b - (c + z) % 4294967296 < 0
  ·
   exact Ev.pos ht (key 1 (by omega) (by omega) (by omega))
  ·
   exact Ev.neg ht (key 0 (by omega) (by omega) (by omega))
end
end Go.Proofs.YtiikfhdmclmjmaaDoor.Pure
