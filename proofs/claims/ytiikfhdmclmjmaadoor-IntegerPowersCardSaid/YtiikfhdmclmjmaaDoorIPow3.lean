/- Part 3 of the proof of IntegerPowers: what the program's functions compute, told as plain functions, and what these answer. Conditions: none beside the statement's own. Gathered by the session's program merge.py out of its own and the printed texts; no declaration that the proof does not name is left in. -/
import Derived.Test.YtiikfhdmclmjmaaDoorIPow2
namespace Go.Proofs.YtiikfhdmclmjmaaDoor.P
open Go.RowKit Go.Proofs.YtiikfhdmclmjmaaDoorW.PrintWords Go.Proofs.YtiikfhdmclmjmaaDoorW.PrintLast
set_option linter.unusedVariables false
set_option linter.unusedSimpArgs false
mutual
def integer_plus.l0 : Nat → List Int → List Int → List Int → Int → List Int → Int → Int → Option (List Int)
 | 0, _, _, _, _, _, _, _ => none
 | k + 1, x0, x1, x5, x6, x20, x21, x22 => if x22 < x21 then (if 0 ≤ x22 then (if x22 < (x20.length : Int) then (if x22 < (x1.length : Int) then (if x22 < (x5.length : Int) then (integer_plus.l0 k x0 x1 (x5.set (x22 : Int).toNat ((IntKind.u64.wrap ((IntKind.u64.wrap (x6 + (IntKind.u64.wrap (rd x20 x22)))) + (IntKind.u64.wrap (rd x1 x22)))) % 4294967296)) ((IntKind.u64.wrap ((IntKind.u64.wrap (x6 + (IntKind.u64.wrap (rd x20 x22)))) + (IntKind.u64.wrap (rd x1 x22)))) / 4294967296) x20 x21 (wrap64 (x22 + 1))) else (none)) else (if x22 < (x5.length : Int) then (integer_plus.l0 k x0 x1 (x5.set (x22 : Int).toNat ((IntKind.u64.wrap (x6 + (IntKind.u64.wrap (rd x20 x22)))) % 4294967296)) ((IntKind.u64.wrap (x6 + (IntKind.u64.wrap (rd x20 x22)))) / 4294967296) x20 x21 (wrap64 (x22 + 1))) else (none))) else (none)) else (none)) else (if 0 ≤ (x0.length : Int) then (if (x0.length : Int) < (x5.length : Int) then (some (x5.set ((x0.length : Int) : Int).toNat ((x6) % 4294967296))) else (none)) else (none))
def integer_plus.l1 : Nat → List Int → List Int → List Int → Int → List Int → Int → Int → Option (List Int)
 | 0, _, _, _, _, _, _, _ => none
 | k + 1, x0, x1, x5, x6, x20, x21, x22 => if x22 < x21 then (if 0 ≤ x22 then (if x22 < (x20.length : Int) then (if x22 < (x1.length : Int) then (if x22 < (x5.length : Int) then (integer_plus.l1 k x0 x1 (x5.set (x22 : Int).toNat ((IntKind.u64.wrap ((IntKind.u64.wrap (x6 + (IntKind.u64.wrap (rd x20 x22)))) + (IntKind.u64.wrap (rd x1 x22)))) % 4294967296)) ((IntKind.u64.wrap ((IntKind.u64.wrap (x6 + (IntKind.u64.wrap (rd x20 x22)))) + (IntKind.u64.wrap (rd x1 x22)))) / 4294967296) x20 x21 (wrap64 (x22 + 1))) else (none)) else (if x22 < (x5.length : Int) then (integer_plus.l1 k x0 x1 (x5.set (x22 : Int).toNat ((IntKind.u64.wrap (x6 + (IntKind.u64.wrap (rd x20 x22)))) % 4294967296)) ((IntKind.u64.wrap (x6 + (IntKind.u64.wrap (rd x20 x22)))) / 4294967296) x20 x21 (wrap64 (x22 + 1))) else (none))) else (none)) else (none)) else (if 0 ≤ (x0.length : Int) then (if (x0.length : Int) < (x5.length : Int) then (some (x5.set ((x0.length : Int) : Int).toNat ((x6) % 4294967296))) else (none)) else (none))
end
def integer_plus.f (k : Nat) (l0 : List Int) (l1 : List Int) : Option (List Int) := if (l0.length : Int) < (l1.length : Int) then (if 0 ≤ (wrap64 ((l1.length : Int) + 1)) then (if (wrap64 ((l1.length : Int) + 1) : Int).toNat ≤ 70368744177664 then (integer_plus.l0 k l1 l0 (List.replicate (wrap64 ((l1.length : Int) + 1) : Int).toNat 0) 0 l1 (l1.length : Int) 0) else (none)) else (none)) else (if 0 ≤ (wrap64 ((l0.length : Int) + 1)) then (if (wrap64 ((l0.length : Int) + 1) : Int).toNat ≤ 70368744177664 then (integer_plus.l1 k l0 l1 (List.replicate (wrap64 ((l0.length : Int) + 1) : Int).toNat 0) 0 l0 (l0.length : Int) 0) else (none)) else (none))
theorem integer_plus.mono_l : ∀ k, (∀ y0 y1 y2 y3 y4 y5 y6, LeO (integer_plus.l0 k y0 y1 y2 y3 y4 y5 y6) (integer_plus.l0 (k + 1) y0 y1 y2 y3 y4 y5 y6)) ∧ (∀ y0 y1 y2 y3 y4 y5 y6, LeO (integer_plus.l1 k y0 y1 y2 y3 y4 y5 y6) (integer_plus.l1 (k + 1) y0 y1 y2 y3 y4 y5 y6))
 | 0 => ⟨fun _ _ _ _ _ _ _ r h => by simp [integer_plus.l0] at h, fun _ _ _ _ _ _ _ r h => by simp [integer_plus.l1] at h⟩
 | k + 1 => by
  obtain ⟨ih0, ih1⟩ := integer_plus.mono_l k
  refine ⟨?_, ?_⟩
  ·
   intro y0 y1 y2 y3 y4 y5 y6
   unfold integer_plus.l0
   repeat' first
   | (with_reducible exact ih0 _ _ _ _ _ _ _)
   | (with_reducible exact ih1 _ _ _ _ _ _ _)
   | (with_reducible exact LeO.refl _)
   | (with_reducible exact LeO.none _)
   | (with_reducible refine LeO.ite ?_ ?_)
   | (with_reducible refine LeO.bind ?_ (fun _ => ?_))
   | exact ih0 _ _ _ _ _ _ _
   | exact ih1 _ _ _ _ _ _ _
   | exact LeO.none _
   | refine LeO.ite ?_ ?_
   | refine LeO.bind ?_ (fun _ => ?_)
  ·
   intro y0 y1 y2 y3 y4 y5 y6
   unfold integer_plus.l1
   repeat' first
   | (with_reducible exact ih0 _ _ _ _ _ _ _)
   | (with_reducible exact ih1 _ _ _ _ _ _ _)
   | (with_reducible exact LeO.refl _)
   | (with_reducible exact LeO.none _)
   | (with_reducible refine LeO.ite ?_ ?_)
   | (with_reducible refine LeO.bind ?_ (fun _ => ?_))
   | exact ih0 _ _ _ _ _ _ _
   | exact ih1 _ _ _ _ _ _ _
   | exact LeO.none _
   | refine LeO.ite ?_ ?_
   | refine LeO.bind ?_ (fun _ => ?_)
theorem integer_plus.mono : ∀ a0 a1 k, LeO (integer_plus.f k a0 a1) (integer_plus.f (k + 1) a0 a1) := by
 intro a0 a1 k
 obtain ⟨ih0, ih1⟩ := integer_plus.mono_l k
 unfold integer_plus.f
 repeat' first
   | (with_reducible exact ih0 _ _ _ _ _ _ _)
   | (with_reducible exact ih1 _ _ _ _ _ _ _)
   | (with_reducible exact LeO.refl _)
   | (with_reducible exact LeO.none _)
   | (with_reducible refine LeO.ite ?_ ?_)
   | (with_reducible refine LeO.bind ?_ (fun _ => ?_))
   | exact ih0 _ _ _ _ _ _ _
   | exact ih1 _ _ _ _ _ _ _
   | exact LeO.none _
   | refine LeO.ite ?_ ?_
   | refine LeO.bind ?_ (fun _ => ?_)
set_option maxHeartbeats 8000000 in
set_option maxRecDepth 100000 in
theorem integer_plus.calls (k : Nat) (A0 : Option Addr) (c0 : Nat) (l0 : List Int) (A1 : Option Addr) (c1 : Nat) (l1 : List Int) (r : List Int) (w : World) (hr0 : Kd.C (Kd.int .u32) w A0 l0.length l0) (hc0 : l0.length ≤ c0) (hr1 : Kd.C (Kd.int .u32) w A1 l1.length l1) (hc1 : l1.length ≤ c1) (h : integer_plus.f k l0 l1 = some r) :
  Calls Tryd.prog 63 #[.slice A0 l0.length c0, .slice A1 l1.length c1] w fun e w' => ∃ v0_ : Value, e = .returned (v0_) ∧ Kd.R (Kd.int .u32) 60 w' w.heap.size (fun _ => True) v0_ r ∧ Below w.heap.size w w' := by
 have HR0 := Aside0.mk hr0
 have HC0 := Aside0.mk hc0
 clear hr0 hc0
 have HR1 := Aside0.mk hr1
 have HC1 := Aside0.mk hc1
 clear hr1 hc1
 have HB := Aside0.mk (Below.refl w.heap.size w)
 have H : (if (l0.length : Int) < (l1.length : Int) then (if 0 ≤ (wrap64 ((l1.length : Int) + 1)) then (if (wrap64 ((l1.length : Int) + 1) : Int).toNat ≤ 70368744177664 then (integer_plus.l0 k l1 l0 (List.replicate (wrap64 ((l1.length : Int) + 1) : Int).toNat 0) 0 l1 (l1.length : Int) 0) else (none)) else (none)) else (if 0 ≤ (wrap64 ((l0.length : Int) + 1)) then (if (wrap64 ((l0.length : Int) + 1) : Int).toNat ≤ 70368744177664 then (integer_plus.l1 k l0 l1 (List.replicate (wrap64 ((l0.length : Int) + 1) : Int).toNat 0) 0 l0 (l0.length : Int) 0) else (none)) else (none))) = some r := h
 clear h
 by_cases c3 : (l0.length : Int) < (l1.length : Int)
 ·
  rw [if_pos c3] at H
  have c3b0 : decide ((l0.length : Int) < (l1.length : Int)) = true := decide_eq_true c3
  have c3b1 : decide (l0.length < l1.length) = true := decide_eq_true (Int.ofNat_lt.mp c3)
  clear c3
  obtain ⟨ji4, hji4⟩ : ∃ j_ : Int, (wrap64 ((l1.length : Int) + 1)) = j_ := ⟨_, rfl⟩
  replace H : (if 0 ≤ (ji4) then (if (ji4 : Int).toNat ≤ 70368744177664 then (integer_plus.l0 k l1 l0 (List.replicate (ji4 : Int).toNat 0) 0 l1 (l1.length : Int) 0) else (none)) else (none)) = some r := by first | (rw [hji4] at H; exact H) | (simp only [hji4] at H ⊢; exact H)
  have hji4w : (IntKind.i64.wrap ((l1.length : Int) + 1)) = ji4 := (i64_w _).trans hji4
  by_cases c5 : 0 ≤ (ji4)
  ·
   rw [if_pos c5] at H
   have c5b0 := eq_true c5
   have c5b1 : decide (0 ≤ (ji4)) = true := decide_eq_true c5
   clear c5
   by_cases c6 : (ji4 : Int).toNat ≤ 70368744177664
   ·
    rw [if_pos c6] at H
    have c6b0 := eq_true c6
    have c6b1 : decide ((ji4 : Int).toNat ≤ 70368744177664) = true := decide_eq_true c6
    clear c6
    obtain ⟨y180, hy180⟩ : ∃ y_ : List Int, y_ = (List.replicate (ji4 : Int).toNat 0) := ⟨_, rfl⟩
    replace H : (integer_plus.l0 k l1 l0 y180 0 l1 (l1.length : Int) 0) = some r := by first | (rw [hy180]; with_reducible exact H) | (have H2_ := (Option.bind_some _ _).symm.trans H; rw [hy180]; with_reducible exact H2_) | (have H2_ := (Option.bind_some _ _).symm.trans H; with_reducible exact H2_) | with_reducible exact H | (rw [hy180]; exact H) | exact H
    have Ny180 := Aside0.mk hy180
    clear hy180
    have H' := Aside0.mk H
    clear H
    go_enter Tryd.func63, Tryd.ntmps63
    go_wp2_with (first | ((with_reducible refine gate_dst (N := 19) rfl ?_); refine Kd.R_make (Kd.int .u32) _ 60 rfl (N := 19) rfl 23 _ _ rfl ji4 rfl rfl Tryd.underlying23 (.int .u32 0) 4 info60 rfl (by decide) (by omega) 0 (ok := fun _ => True) (okp := fun _ => True) rfl (fun _ hk => hk) trivial (of_decide_eq_true (by assumption)) (Nat.le_trans (Nat.mul_le_mul_right _ (of_decide_eq_true (by assumption) : ji4.toNat ≤ 70368744177664)) (by omega)) (Below.refl _ _) (Nat.le_refl _) ?_; intro v181 w7 ho8 hb hg_ hnew_; clear hg_ hnew_; (first | rw [← Ny180.out] at ho8 | (simp only [Int.reduceToNat] at ho8; rw [← Ny180.out] at ho8)); have n0_ := Aside0.mk (Kd.R_lower ho8 (below_size (by repeat (first | (with_reducible first | exact HB.out | apply below_alloc | apply pw_below_drewN | apply below_drew1) | exact HB.out)))); have n1_ := Aside0.mk (below_step (by repeat (first | (with_reducible first | exact HB.out | apply below_alloc | apply pw_below_drewN | apply below_drew1) | exact HB.out)) hb); clear HB; have HO182 := n0_; have HB := n1_; clear n0_ n1_; clear hb ho8))
    go_loopg [6, 22] k (fun kq v6 v22 w' => ∃ (x5_1 : List Int) (x6_1 : Int) (x22_1 : Int), v6 = .int .u64 x6_1 ∧ v22 = .int .i64 x22_1 ∧ Aside0 (integer_plus.l0 kq l1 l0 x5_1 x6_1 l1 (l1.length : Int) x22_1 = some r) ∧ Aside0 (kq ≤ k) ∧ Aside0 (Kd.R (Kd.int .u32) 60 w' w.heap.size (fun _ => True) v181 x5_1) ∧ Aside0 (Below w.heap.size w w'))
    case atStart => exact ⟨(y180), (0), (0), (by first | rfl | (simp; done) | (simp [*]; done) | (simp <;> omega)), (by first | rfl | (simp; done) | (simp [*]; done) | (simp <;> omega)), H', ⟨Nat.le_refl _⟩, ⟨by (with_reducible repeat (first | apply Kd.R_alloc | apply Kd.R_drewN | apply Kd.R_drew)); exact HO182.out⟩, ⟨by repeat (first | (with_reducible first | exact HB.out | apply below_alloc | apply pw_below_drewN | apply below_drew1) | exact HB.out)⟩⟩
    case round =>
     clear H'
     try clear c1
     try clear p2
     try clear c3
     try clear c3b0
     try clear c3b1
     try clear c5
     try clear c5b0
     try clear c5b1
     try clear c6
     try clear c6b0
     try clear c6b1
     try clear p6
     obtain ⟨x5_1, x6_1, x22_1, rfl, rfl, HA, HK1, HO_5, HB⟩ := hrel
     cases gk with
     | zero => exact absurd HA.out (by simp [integer_plus.l0])
     | succ k1 =>
      have H := HA.out
      clear HA
      simp only [integer_plus.l0] at H
      by_cases c9 : x22_1 < (l1.length : Int)
      ·
       rw [if_pos c9] at H
       have c9b0 : decide (x22_1 < (l1.length : Int)) = true := decide_eq_true c9
       clear c9
       by_cases c10 : 0 ≤ x22_1
       ·
        rw [if_pos c10] at H
        have c10b0 : decide (0 ≤ x22_1) = true := decide_eq_true c10
        clear c10
        by_cases c11 : x22_1 < (l1.length : Int)
        ·
         rw [if_pos c11] at H
         have c11b0 : decide (x22_1 < (l1.length : Int)) = true := decide_eq_true c11
         clear c11
         by_cases c12 : x22_1 < (l0.length : Int)
         ·
          rw [if_pos c12] at H
          have c12b0 : decide (x22_1 < (l0.length : Int)) = true := decide_eq_true c12
          clear c12
          by_cases c13 : x22_1 < (x5_1.length : Int)
          ·
           rw [if_pos c13] at H
           have c13b0 : decide (x22_1 < (x5_1.length : Int)) = true := decide_eq_true c13
           clear c13
           obtain ⟨y185, hy185⟩ : ∃ y_ : List Int, y_ = (x5_1.set (x22_1 : Int).toNat ((IntKind.u64.wrap ((IntKind.u64.wrap (x6_1 + (IntKind.u64.wrap (rd l1 x22_1)))) + (IntKind.u64.wrap (rd l0 x22_1)))) % 4294967296)) := ⟨_, rfl⟩
           replace H : (integer_plus.l0 k1 l1 l0 y185 ((IntKind.u64.wrap ((IntKind.u64.wrap (x6_1 + (IntKind.u64.wrap (rd l1 x22_1)))) + (IntKind.u64.wrap (rd l0 x22_1)))) / 4294967296) l1 (l1.length : Int) (wrap64 (x22_1 + 1))) = some r := by first | (rw [hy185]; with_reducible exact H) | (have H2_ := (Option.bind_some _ _).symm.trans H; rw [hy185]; with_reducible exact H2_) | (have H2_ := (Option.bind_some _ _).symm.trans H; with_reducible exact H2_) | with_reducible exact H | (rw [hy185]; exact H) | exact H
           have Ny185 := Aside0.mk hy185
           clear hy185
           have H' := Aside0.mk H
           clear H
           have p183 : 0 ≤ (x22_1 : Int) := of_decide_eq_true (by assumption)
           have q183 : x22_1 < (l1.length : Int) := of_decide_eq_true (by assumption)
           obtain ⟨ad183, e183, hx183_0⟩ := Kd.at_int HR1.out x22_1 p183 q183
           cases e183
           replace hx183_0 := (HB.out.cell (World.block_lt_of_cell? w _ hx183_0)).trans hx183_0
           replace p183 := eq_true p183
           replace q183 := eq_true q183
           have p184 : 0 ≤ (x22_1 : Int) := of_decide_eq_true (by assumption)
           have q184 : x22_1 < (l0.length : Int) := of_decide_eq_true (by assumption)
           obtain ⟨ad184, e184, hx184_0⟩ := Kd.at_int HR0.out x22_1 p184 q184
           cases e184
           replace hx184_0 := (HB.out.cell (World.block_lt_of_cell? w _ hx184_0)).trans hx184_0
           replace p184 := eq_true p184
           replace q184 := eq_true q184
           have p14 : 0 ≤ (x22_1 : Int) := of_decide_eq_true (by assumption)
           have q14 : (x22_1 : Int) < ((x5_1.length : Int) : Int) := of_decide_eq_true (by assumption)
           obtain ⟨go14, co14, eo14, gb14, gl14, cl14, HG14⟩ := Kd.R_form HO_5.out (by omega)
           (first | cases eo14 | (injection eo14 with ea_ en_ ec_; (first | subst ea_ | (injection ea_ with ea_; subst ea_)); subst ec_; clear en_))
           have GB14 := Aside0.mk gb14
           have GG14 := Aside0.mk HG14
           clear gb14 gl14 HG14
           obtain ⟨hx14_0, hf14_0⟩ := Kd.R_celln 0 HO_5.out (x22_1 : Int) p14 q14
           replace p14 := eq_true p14
           replace q14 := eq_true q14
           have HP15 := Kd.R_putg HO_5.out (x22_1 : Int) ((IntKind.u64.wrap ((IntKind.u64.wrap (x6_1 + (IntKind.u64.wrap (rd l1 x22_1)))) + (IntKind.u64.wrap (rd l0 x22_1)))) % 4294967296)
           go_wp2_with (first | ((with_reducible refine gate_store (t := 60) (p := 46) rfl ?_); refine store_event (t := 60) (p := 46) (v := ?vo_w16) (w1 := (wr.setCell ⟨go14, (x22_1 : Int).toNat, none⟩ (.int .u32 ((IntKind.u64.wrap ((IntKind.u64.wrap (x6_1 + (IntKind.u64.wrap (rd l1 x22_1)))) + (IntKind.u64.wrap (rd l0 x22_1)))) % 4294967296)))) ?hg ?ho ?hn ?hr ?_; (case ho => rfl); (case hg => rfl); (case hn => rfl); (case hr => first | (go_simp; done) | (go_simp; rfl)); intro w16 hw; have hg : wr.grownBy w16 (some go14) := (by rw [hw]; exact HP15.2); have hp_ : Kd.R (Kd.int .u32) 60 w16 w.heap.size (fun _ => True) (.slice (some ⟨go14, 0, none⟩) x5_1.length co14) y185 := (by rw [hw, Ny185.out]; exact HP15.1); clear HP15; have n0_ := Aside0.mk (hp_); have n1_ := Aside0.mk ((by rw [hw]; exact below_set (HB.out) GB14.out : Below w.heap.size w w16)); clear HO_5; clear HB; have HO_5 := n0_; have HB := n1_; clear n0_ n1_; clear hg hw hp_))
           go_roundg k1
           case measure => have := HK1.out; omega
           case rel => exact ⟨(y185), ((IntKind.u64.wrap ((IntKind.u64.wrap (x6_1 + (IntKind.u64.wrap (rd l1 x22_1)))) + (IntKind.u64.wrap (rd l0 x22_1)))) / 4294967296), (wrap64 (x22_1 + 1)), (by first | rfl | (simp; done) | (simp [*]; done) | (simp <;> omega)), (by first | rfl | (simp; done) | (simp [*]; done) | (simp <;> omega)), H', ⟨by have := HK1.out; omega⟩, ⟨by (with_reducible repeat (first | apply Kd.R_alloc | apply Kd.R_drewN | apply Kd.R_drew)); exact HO_5.out⟩, ⟨by repeat (first | (with_reducible first | exact HB.out | apply below_alloc | apply pw_below_drewN | apply below_drew1) | exact HB.out)⟩⟩
          ·
           rw [if_neg c13] at H
           exact absurd H (by simp)
         ·
          rw [if_neg c12] at H
          have c12b0 : decide (x22_1 < (l0.length : Int)) = false := decide_eq_false c12
          clear c12
          by_cases c17 : x22_1 < (x5_1.length : Int)
          ·
           rw [if_pos c17] at H
           have c17b0 : decide (x22_1 < (x5_1.length : Int)) = true := decide_eq_true c17
           clear c17
           obtain ⟨y186, hy186⟩ : ∃ y_ : List Int, y_ = (x5_1.set (x22_1 : Int).toNat ((IntKind.u64.wrap (x6_1 + (IntKind.u64.wrap (rd l1 x22_1)))) % 4294967296)) := ⟨_, rfl⟩
           replace H : (integer_plus.l0 k1 l1 l0 y186 ((IntKind.u64.wrap (x6_1 + (IntKind.u64.wrap (rd l1 x22_1)))) / 4294967296) l1 (l1.length : Int) (wrap64 (x22_1 + 1))) = some r := by first | (rw [hy186]; with_reducible exact H) | (have H2_ := (Option.bind_some _ _).symm.trans H; rw [hy186]; with_reducible exact H2_) | (have H2_ := (Option.bind_some _ _).symm.trans H; with_reducible exact H2_) | with_reducible exact H | (rw [hy186]; exact H) | exact H
           have Ny186 := Aside0.mk hy186
           clear hy186
           have H' := Aside0.mk H
           clear H
           have p183 : 0 ≤ (x22_1 : Int) := of_decide_eq_true (by assumption)
           have q183 : x22_1 < (l1.length : Int) := of_decide_eq_true (by assumption)
           obtain ⟨ad183, e183, hx183_0⟩ := Kd.at_int HR1.out x22_1 p183 q183
           cases e183
           replace hx183_0 := (HB.out.cell (World.block_lt_of_cell? w _ hx183_0)).trans hx183_0
           replace p183 := eq_true p183
           replace q183 := eq_true q183
           have p18 : 0 ≤ (x22_1 : Int) := of_decide_eq_true (by assumption)
           have q18 : (x22_1 : Int) < ((x5_1.length : Int) : Int) := of_decide_eq_true (by assumption)
           obtain ⟨go18, co18, eo18, gb18, gl18, cl18, HG18⟩ := Kd.R_form HO_5.out (by omega)
           (first | cases eo18 | (injection eo18 with ea_ en_ ec_; (first | subst ea_ | (injection ea_ with ea_; subst ea_)); subst ec_; clear en_))
           have GB18 := Aside0.mk gb18
           have GG18 := Aside0.mk HG18
           clear gb18 gl18 HG18
           obtain ⟨hx18_0, hf18_0⟩ := Kd.R_celln 0 HO_5.out (x22_1 : Int) p18 q18
           replace p18 := eq_true p18
           replace q18 := eq_true q18
           have HP19 := Kd.R_putg HO_5.out (x22_1 : Int) ((IntKind.u64.wrap (x6_1 + (IntKind.u64.wrap (rd l1 x22_1)))) % 4294967296)
           go_wp2_with (first | ((with_reducible refine gate_store (t := 60) (p := 46) rfl ?_); refine store_event (t := 60) (p := 46) (v := ?vo_w20) (w1 := (wr.setCell ⟨go18, (x22_1 : Int).toNat, none⟩ (.int .u32 ((IntKind.u64.wrap (x6_1 + (IntKind.u64.wrap (rd l1 x22_1)))) % 4294967296)))) ?hg ?ho ?hn ?hr ?_; (case ho => rfl); (case hg => rfl); (case hn => rfl); (case hr => first | (go_simp; done) | (go_simp; rfl)); intro w20 hw; have hg : wr.grownBy w20 (some go18) := (by rw [hw]; exact HP19.2); have hp_ : Kd.R (Kd.int .u32) 60 w20 w.heap.size (fun _ => True) (.slice (some ⟨go18, 0, none⟩) x5_1.length co18) y186 := (by rw [hw, Ny186.out]; exact HP19.1); clear HP19; have n0_ := Aside0.mk (hp_); have n1_ := Aside0.mk ((by rw [hw]; exact below_set (HB.out) GB18.out : Below w.heap.size w w20)); clear HO_5; clear HB; have HO_5 := n0_; have HB := n1_; clear n0_ n1_; clear hg hw hp_))
           go_roundg k1
           case measure => have := HK1.out; omega
           case rel => exact ⟨(y186), ((IntKind.u64.wrap (x6_1 + (IntKind.u64.wrap (rd l1 x22_1)))) / 4294967296), (wrap64 (x22_1 + 1)), (by first | rfl | (simp; done) | (simp [*]; done) | (simp <;> omega)), (by first | rfl | (simp; done) | (simp [*]; done) | (simp <;> omega)), H', ⟨by have := HK1.out; omega⟩, ⟨by (with_reducible repeat (first | apply Kd.R_alloc | apply Kd.R_drewN | apply Kd.R_drew)); exact HO_5.out⟩, ⟨by repeat (first | (with_reducible first | exact HB.out | apply below_alloc | apply pw_below_drewN | apply below_drew1) | exact HB.out)⟩⟩
          ·
           rw [if_neg c17] at H
           exact absurd H (by simp)
        ·
         rw [if_neg c11] at H
         exact absurd H (by simp)
       ·
        rw [if_neg c10] at H
        exact absurd H (by simp)
      ·
       rw [if_neg c9] at H
       have c9b0 : decide (x22_1 < (l1.length : Int)) = false := decide_eq_false c9
       clear c9
       by_cases c21 : 0 ≤ (l1.length : Int)
       ·
        rw [if_pos c21] at H
        have c21b0 : decide (0 ≤ (l1.length : Int)) = true := decide_eq_true c21
        have c21b1 : decide (0 ≤ l1.length) = true := decide_eq_true (by omega)
        clear c21
        by_cases c22 : (l1.length : Int) < (x5_1.length : Int)
        ·
         rw [if_pos c22] at H
         have c22b0 : decide ((l1.length : Int) < (x5_1.length : Int)) = true := decide_eq_true c22
         have c22b1 : decide (l1.length < x5_1.length) = true := decide_eq_true (Int.ofNat_lt.mp c22)
         clear c22
         obtain ⟨y187, hy187⟩ : ∃ y_ : List Int, y_ = (x5_1.set ((l1.length : Int) : Int).toNat ((x6_1) % 4294967296)) := ⟨_, rfl⟩
         replace H : (some y187) = some r := by first | (rw [hy187]; with_reducible exact H) | (have H2_ := (Option.bind_some _ _).symm.trans H; rw [hy187]; with_reducible exact H2_) | (have H2_ := (Option.bind_some _ _).symm.trans H; with_reducible exact H2_) | with_reducible exact H | (rw [hy187]; exact H) | exact H
         have Ny187 := Aside0.mk hy187
         clear hy187
         obtain rfl := Option.some.inj H
         have p23 : 0 ≤ ((l1.length : Int) : Int) := of_decide_eq_true (by assumption)
         have q23 : ((l1.length : Int) : Int) < ((x5_1.length : Int) : Int) := of_decide_eq_true (by assumption)
         obtain ⟨go23, co23, eo23, gb23, gl23, cl23, HG23⟩ := Kd.R_form HO_5.out (by omega)
         (first | cases eo23 | (injection eo23 with ea_ en_ ec_; (first | subst ea_ | (injection ea_ with ea_; subst ea_)); subst ec_; clear en_))
         have GB23 := Aside0.mk gb23
         have GG23 := Aside0.mk HG23
         clear gb23 gl23 HG23
         obtain ⟨hx23_0, hf23_0⟩ := Kd.R_celln 0 HO_5.out ((l1.length : Int) : Int) p23 q23
         (try simp only [Go.IntWalk.toNatUp] at hx23_0 hf23_0)
         replace p23 := eq_true p23
         replace q23 := eq_true q23
         have HP24 := Kd.R_putg HO_5.out ((l1.length : Int) : Int) ((x6_1) % 4294967296)
         go_wp2_with (first | ((with_reducible refine gate_store (t := 60) (p := 55) rfl ?_); refine store_event (t := 60) (p := 55) (v := ?vo_w25) (w1 := (wr.setCell ⟨go23, ((l1.length : Int) : Int).toNat, none⟩ (.int .u32 ((x6_1) % 4294967296)))) ?hg ?ho ?hn ?hr ?_; (case ho => rfl); (case hg => rfl); (case hn => rfl); (case hr => first | (go_simp; done) | (go_simp; rfl)); intro w25 hw; have hg : wr.grownBy w25 (some go23) := (by rw [hw]; exact HP24.2); have hp_ : Kd.R (Kd.int .u32) 60 w25 w.heap.size (fun _ => True) (.slice (some ⟨go23, 0, none⟩) x5_1.length co23) y187 := (by rw [hw, Ny187.out]; exact HP24.1); clear HP24; have n0_ := Aside0.mk (hp_); have n1_ := Aside0.mk ((by rw [hw]; exact below_set (HB.out) GB23.out : Below w.heap.size w w25)); clear HO_5; clear HB; have HO_5 := n0_; have HB := n1_; clear n0_ n1_; clear hg hw hp_))
         go_ret
         exact ⟨_, by first | rfl | (simp [errW_none, errW_some] <;> rfl) | (simp only [← hji4]; first | rfl | (simp [errW_none, errW_some] <;> rfl)) | (simp [*, errW_none, errW_some] <;> rfl), by (with_reducible repeat (first | apply Kd.R_alloc | apply Kd.R_drewN | apply Kd.R_drew)); exact HO_5.out, by repeat (first | (with_reducible first | exact HB.out | apply below_alloc | apply pw_below_drewN | apply below_drew1) | exact HB.out)⟩
        ·
         rw [if_neg c22] at H
         exact absurd H (by simp)
       ·
        rw [if_neg c21] at H
        exact absurd H (by simp)
   ·
    rw [if_neg c6] at H
    exact absurd H (by simp)
  ·
   rw [if_neg c5] at H
   exact absurd H (by simp)
 ·
  rw [if_neg c3] at H
  have c3b0 : decide ((l0.length : Int) < (l1.length : Int)) = false := decide_eq_false c3
  have c3b1 : decide (l0.length < l1.length) = false := decide_eq_false (fun h => c3 (Int.ofNat_lt.mpr h))
  clear c3
  obtain ⟨ji26, hji26⟩ : ∃ j_ : Int, (wrap64 ((l0.length : Int) + 1)) = j_ := ⟨_, rfl⟩
  replace H : (if 0 ≤ (ji26) then (if (ji26 : Int).toNat ≤ 70368744177664 then (integer_plus.l1 k l0 l1 (List.replicate (ji26 : Int).toNat 0) 0 l0 (l0.length : Int) 0) else (none)) else (none)) = some r := by first | (rw [hji26] at H; exact H) | (simp only [hji26] at H ⊢; exact H)
  have hji26w : (IntKind.i64.wrap ((l0.length : Int) + 1)) = ji26 := (i64_w _).trans hji26
  by_cases c27 : 0 ≤ (ji26)
  ·
   rw [if_pos c27] at H
   have c27b0 := eq_true c27
   have c27b1 : decide (0 ≤ (ji26)) = true := decide_eq_true c27
   clear c27
   by_cases c28 : (ji26 : Int).toNat ≤ 70368744177664
   ·
    rw [if_pos c28] at H
    have c28b0 := eq_true c28
    have c28b1 : decide ((ji26 : Int).toNat ≤ 70368744177664) = true := decide_eq_true c28
    clear c28
    obtain ⟨y188, hy188⟩ : ∃ y_ : List Int, y_ = (List.replicate (ji26 : Int).toNat 0) := ⟨_, rfl⟩
    replace H : (integer_plus.l1 k l0 l1 y188 0 l0 (l0.length : Int) 0) = some r := by first | (rw [hy188]; with_reducible exact H) | (have H2_ := (Option.bind_some _ _).symm.trans H; rw [hy188]; with_reducible exact H2_) | (have H2_ := (Option.bind_some _ _).symm.trans H; with_reducible exact H2_) | with_reducible exact H | (rw [hy188]; exact H) | exact H
    have Ny188 := Aside0.mk hy188
    clear hy188
    have H' := Aside0.mk H
    clear H
    go_enter Tryd.func63, Tryd.ntmps63
    go_wp2_with (first | ((with_reducible refine gate_dst (N := 19) rfl ?_); refine Kd.R_make (Kd.int .u32) _ 60 rfl (N := 19) rfl 23 _ _ rfl ji26 rfl rfl Tryd.underlying23 (.int .u32 0) 4 info60 rfl (by decide) (by omega) 0 (ok := fun _ => True) (okp := fun _ => True) rfl (fun _ hk => hk) trivial (of_decide_eq_true (by assumption)) (Nat.le_trans (Nat.mul_le_mul_right _ (of_decide_eq_true (by assumption) : ji26.toNat ≤ 70368744177664)) (by omega)) (Below.refl _ _) (Nat.le_refl _) ?_; intro v189 w29 ho30 hb hg_ hnew_; clear hg_ hnew_; (first | rw [← Ny188.out] at ho30 | (simp only [Int.reduceToNat] at ho30; rw [← Ny188.out] at ho30)); have n0_ := Aside0.mk (Kd.R_lower ho30 (below_size (by repeat (first | (with_reducible first | exact HB.out | apply below_alloc | apply pw_below_drewN | apply below_drew1) | exact HB.out)))); have n1_ := Aside0.mk (below_step (by repeat (first | (with_reducible first | exact HB.out | apply below_alloc | apply pw_below_drewN | apply below_drew1) | exact HB.out)) hb); clear HB; have HO190 := n0_; have HB := n1_; clear n0_ n1_; clear hb ho30))
    go_loopg [6, 22] k (fun kq v6 v22 w' => ∃ (x5_1 : List Int) (x6_1 : Int) (x22_1 : Int), v6 = .int .u64 x6_1 ∧ v22 = .int .i64 x22_1 ∧ Aside0 (integer_plus.l1 kq l0 l1 x5_1 x6_1 l0 (l0.length : Int) x22_1 = some r) ∧ Aside0 (kq ≤ k) ∧ Aside0 (Kd.R (Kd.int .u32) 60 w' w.heap.size (fun _ => True) v189 x5_1) ∧ Aside0 (Below w.heap.size w w'))
    case atStart => exact ⟨(y188), (0), (0), (by first | rfl | (simp; done) | (simp [*]; done) | (simp <;> omega)), (by first | rfl | (simp; done) | (simp [*]; done) | (simp <;> omega)), H', ⟨Nat.le_refl _⟩, ⟨by (with_reducible repeat (first | apply Kd.R_alloc | apply Kd.R_drewN | apply Kd.R_drew)); exact HO190.out⟩, ⟨by repeat (first | (with_reducible first | exact HB.out | apply below_alloc | apply pw_below_drewN | apply below_drew1) | exact HB.out)⟩⟩
    case round =>
     clear H'
     try clear c1
     try clear p1
     try clear q1
     try clear hx1
     try clear c2
     try clear p2
     try clear q2
     try clear hx2
     try clear hf2
     try clear c3
     try clear c3b0
     try clear c3b1
     try clear c5
     try clear c5b0
     try clear c5b1
     try clear c6
     try clear c6b0
     try clear c6b1
     try clear p6
     try clear c9
     try clear c9b0
     try clear c10
     try clear c10b0
     try clear c11
     try clear c11b0
     try clear c12
     try clear c12b0
     try clear c13
     try clear c13b0
     try clear p14
     try clear q14
     try clear hx14
     try clear hf14
     try clear c17
     try clear c17b0
     try clear p18
     try clear q18
     try clear hx18
     try clear hf18
     try clear c21
     try clear c21b0
     try clear c21b1
     try clear c22
     try clear c22b0
     try clear c22b1
     try clear p23
     try clear q23
     try clear hx23
     try clear hf23
     try clear c27
     try clear c27b0
     try clear c27b1
     try clear c28
     try clear c28b0
     try clear c28b1
     try clear hx14_0
     try clear hx183_0
     try clear hx184_0
     try clear hx18_0
     try clear hx23_0
     try clear p14
     try clear p18
     try clear p183
     try clear p184
     try clear p2
     try clear p23
     try clear p6
     try clear q14
     try clear q18
     try clear q183
     try clear q184
     try clear q23
     obtain ⟨x5_1, x6_1, x22_1, rfl, rfl, HA, HK1, HO_5, HB⟩ := hrel
     cases gk with
     | zero => exact absurd HA.out (by simp [integer_plus.l1])
     | succ k1 =>
      have H := HA.out
      clear HA
      simp only [integer_plus.l1] at H
      by_cases c31 : x22_1 < (l0.length : Int)
      ·
       rw [if_pos c31] at H
       have c31b0 : decide (x22_1 < (l0.length : Int)) = true := decide_eq_true c31
       clear c31
       by_cases c32 : 0 ≤ x22_1
       ·
        rw [if_pos c32] at H
        have c32b0 : decide (0 ≤ x22_1) = true := decide_eq_true c32
        clear c32
        by_cases c33 : x22_1 < (l0.length : Int)
        ·
         rw [if_pos c33] at H
         have c33b0 : decide (x22_1 < (l0.length : Int)) = true := decide_eq_true c33
         clear c33
         by_cases c34 : x22_1 < (l1.length : Int)
         ·
          rw [if_pos c34] at H
          have c34b0 : decide (x22_1 < (l1.length : Int)) = true := decide_eq_true c34
          clear c34
          by_cases c35 : x22_1 < (x5_1.length : Int)
          ·
           rw [if_pos c35] at H
           have c35b0 : decide (x22_1 < (x5_1.length : Int)) = true := decide_eq_true c35
           clear c35
           obtain ⟨y193, hy193⟩ : ∃ y_ : List Int, y_ = (x5_1.set (x22_1 : Int).toNat ((IntKind.u64.wrap ((IntKind.u64.wrap (x6_1 + (IntKind.u64.wrap (rd l0 x22_1)))) + (IntKind.u64.wrap (rd l1 x22_1)))) % 4294967296)) := ⟨_, rfl⟩
           replace H : (integer_plus.l1 k1 l0 l1 y193 ((IntKind.u64.wrap ((IntKind.u64.wrap (x6_1 + (IntKind.u64.wrap (rd l0 x22_1)))) + (IntKind.u64.wrap (rd l1 x22_1)))) / 4294967296) l0 (l0.length : Int) (wrap64 (x22_1 + 1))) = some r := by first | (rw [hy193]; with_reducible exact H) | (have H2_ := (Option.bind_some _ _).symm.trans H; rw [hy193]; with_reducible exact H2_) | (have H2_ := (Option.bind_some _ _).symm.trans H; with_reducible exact H2_) | with_reducible exact H | (rw [hy193]; exact H) | exact H
           have Ny193 := Aside0.mk hy193
           clear hy193
           have H' := Aside0.mk H
           clear H
           have p191 : 0 ≤ (x22_1 : Int) := of_decide_eq_true (by assumption)
           have q191 : x22_1 < (l0.length : Int) := of_decide_eq_true (by assumption)
           obtain ⟨ad191, e191, hx191_0⟩ := Kd.at_int HR0.out x22_1 p191 q191
           cases e191
           replace hx191_0 := (HB.out.cell (World.block_lt_of_cell? w _ hx191_0)).trans hx191_0
           replace p191 := eq_true p191
           replace q191 := eq_true q191
           have p192 : 0 ≤ (x22_1 : Int) := of_decide_eq_true (by assumption)
           have q192 : x22_1 < (l1.length : Int) := of_decide_eq_true (by assumption)
           obtain ⟨ad192, e192, hx192_0⟩ := Kd.at_int HR1.out x22_1 p192 q192
           cases e192
           replace hx192_0 := (HB.out.cell (World.block_lt_of_cell? w _ hx192_0)).trans hx192_0
           replace p192 := eq_true p192
           replace q192 := eq_true q192
           have p36 : 0 ≤ (x22_1 : Int) := of_decide_eq_true (by assumption)
           have q36 : (x22_1 : Int) < ((x5_1.length : Int) : Int) := of_decide_eq_true (by assumption)
           obtain ⟨go36, co36, eo36, gb36, gl36, cl36, HG36⟩ := Kd.R_form HO_5.out (by omega)
           (first | cases eo36 | (injection eo36 with ea_ en_ ec_; (first | subst ea_ | (injection ea_ with ea_; subst ea_)); subst ec_; clear en_))
           have GB36 := Aside0.mk gb36
           have GG36 := Aside0.mk HG36
           clear gb36 gl36 HG36
           obtain ⟨hx36_0, hf36_0⟩ := Kd.R_celln 0 HO_5.out (x22_1 : Int) p36 q36
           replace p36 := eq_true p36
           replace q36 := eq_true q36
           have HP37 := Kd.R_putg HO_5.out (x22_1 : Int) ((IntKind.u64.wrap ((IntKind.u64.wrap (x6_1 + (IntKind.u64.wrap (rd l0 x22_1)))) + (IntKind.u64.wrap (rd l1 x22_1)))) % 4294967296)
           go_wp2_with (first | ((with_reducible refine gate_store (t := 60) (p := 46) rfl ?_); refine store_event (t := 60) (p := 46) (v := ?vo_w38) (w1 := (wr.setCell ⟨go36, (x22_1 : Int).toNat, none⟩ (.int .u32 ((IntKind.u64.wrap ((IntKind.u64.wrap (x6_1 + (IntKind.u64.wrap (rd l0 x22_1)))) + (IntKind.u64.wrap (rd l1 x22_1)))) % 4294967296)))) ?hg ?ho ?hn ?hr ?_; (case ho => rfl); (case hg => rfl); (case hn => rfl); (case hr => first | (go_simp; done) | (go_simp; rfl)); intro w38 hw; have hg : wr.grownBy w38 (some go36) := (by rw [hw]; exact HP37.2); have hp_ : Kd.R (Kd.int .u32) 60 w38 w.heap.size (fun _ => True) (.slice (some ⟨go36, 0, none⟩) x5_1.length co36) y193 := (by rw [hw, Ny193.out]; exact HP37.1); clear HP37; have n0_ := Aside0.mk (hp_); have n1_ := Aside0.mk ((by rw [hw]; exact below_set (HB.out) GB36.out : Below w.heap.size w w38)); clear HO_5; clear HB; have HO_5 := n0_; have HB := n1_; clear n0_ n1_; clear hg hw hp_))
           go_roundg k1
           case measure => have := HK1.out; omega
           case rel => exact ⟨(y193), ((IntKind.u64.wrap ((IntKind.u64.wrap (x6_1 + (IntKind.u64.wrap (rd l0 x22_1)))) + (IntKind.u64.wrap (rd l1 x22_1)))) / 4294967296), (wrap64 (x22_1 + 1)), (by first | rfl | (simp; done) | (simp [*]; done) | (simp <;> omega)), (by first | rfl | (simp; done) | (simp [*]; done) | (simp <;> omega)), H', ⟨by have := HK1.out; omega⟩, ⟨by (with_reducible repeat (first | apply Kd.R_alloc | apply Kd.R_drewN | apply Kd.R_drew)); exact HO_5.out⟩, ⟨by repeat (first | (with_reducible first | exact HB.out | apply below_alloc | apply pw_below_drewN | apply below_drew1) | exact HB.out)⟩⟩
          ·
           rw [if_neg c35] at H
           exact absurd H (by simp)
         ·
          rw [if_neg c34] at H
          have c34b0 : decide (x22_1 < (l1.length : Int)) = false := decide_eq_false c34
          clear c34
          by_cases c39 : x22_1 < (x5_1.length : Int)
          ·
           rw [if_pos c39] at H
           have c39b0 : decide (x22_1 < (x5_1.length : Int)) = true := decide_eq_true c39
           clear c39
           obtain ⟨y194, hy194⟩ : ∃ y_ : List Int, y_ = (x5_1.set (x22_1 : Int).toNat ((IntKind.u64.wrap (x6_1 + (IntKind.u64.wrap (rd l0 x22_1)))) % 4294967296)) := ⟨_, rfl⟩
           replace H : (integer_plus.l1 k1 l0 l1 y194 ((IntKind.u64.wrap (x6_1 + (IntKind.u64.wrap (rd l0 x22_1)))) / 4294967296) l0 (l0.length : Int) (wrap64 (x22_1 + 1))) = some r := by first | (rw [hy194]; with_reducible exact H) | (have H2_ := (Option.bind_some _ _).symm.trans H; rw [hy194]; with_reducible exact H2_) | (have H2_ := (Option.bind_some _ _).symm.trans H; with_reducible exact H2_) | with_reducible exact H | (rw [hy194]; exact H) | exact H
           have Ny194 := Aside0.mk hy194
           clear hy194
           have H' := Aside0.mk H
           clear H
           have p191 : 0 ≤ (x22_1 : Int) := of_decide_eq_true (by assumption)
           have q191 : x22_1 < (l0.length : Int) := of_decide_eq_true (by assumption)
           obtain ⟨ad191, e191, hx191_0⟩ := Kd.at_int HR0.out x22_1 p191 q191
           cases e191
           replace hx191_0 := (HB.out.cell (World.block_lt_of_cell? w _ hx191_0)).trans hx191_0
           replace p191 := eq_true p191
           replace q191 := eq_true q191
           have p40 : 0 ≤ (x22_1 : Int) := of_decide_eq_true (by assumption)
           have q40 : (x22_1 : Int) < ((x5_1.length : Int) : Int) := of_decide_eq_true (by assumption)
           obtain ⟨go40, co40, eo40, gb40, gl40, cl40, HG40⟩ := Kd.R_form HO_5.out (by omega)
           (first | cases eo40 | (injection eo40 with ea_ en_ ec_; (first | subst ea_ | (injection ea_ with ea_; subst ea_)); subst ec_; clear en_))
           have GB40 := Aside0.mk gb40
           have GG40 := Aside0.mk HG40
           clear gb40 gl40 HG40
           obtain ⟨hx40_0, hf40_0⟩ := Kd.R_celln 0 HO_5.out (x22_1 : Int) p40 q40
           replace p40 := eq_true p40
           replace q40 := eq_true q40
           have HP41 := Kd.R_putg HO_5.out (x22_1 : Int) ((IntKind.u64.wrap (x6_1 + (IntKind.u64.wrap (rd l0 x22_1)))) % 4294967296)
           go_wp2_with (first | ((with_reducible refine gate_store (t := 60) (p := 46) rfl ?_); refine store_event (t := 60) (p := 46) (v := ?vo_w42) (w1 := (wr.setCell ⟨go40, (x22_1 : Int).toNat, none⟩ (.int .u32 ((IntKind.u64.wrap (x6_1 + (IntKind.u64.wrap (rd l0 x22_1)))) % 4294967296)))) ?hg ?ho ?hn ?hr ?_; (case ho => rfl); (case hg => rfl); (case hn => rfl); (case hr => first | (go_simp; done) | (go_simp; rfl)); intro w42 hw; have hg : wr.grownBy w42 (some go40) := (by rw [hw]; exact HP41.2); have hp_ : Kd.R (Kd.int .u32) 60 w42 w.heap.size (fun _ => True) (.slice (some ⟨go40, 0, none⟩) x5_1.length co40) y194 := (by rw [hw, Ny194.out]; exact HP41.1); clear HP41; have n0_ := Aside0.mk (hp_); have n1_ := Aside0.mk ((by rw [hw]; exact below_set (HB.out) GB40.out : Below w.heap.size w w42)); clear HO_5; clear HB; have HO_5 := n0_; have HB := n1_; clear n0_ n1_; clear hg hw hp_))
           go_roundg k1
           case measure => have := HK1.out; omega
           case rel => exact ⟨(y194), ((IntKind.u64.wrap (x6_1 + (IntKind.u64.wrap (rd l0 x22_1)))) / 4294967296), (wrap64 (x22_1 + 1)), (by first | rfl | (simp; done) | (simp [*]; done) | (simp <;> omega)), (by first | rfl | (simp; done) | (simp [*]; done) | (simp <;> omega)), H', ⟨by have := HK1.out; omega⟩, ⟨by (with_reducible repeat (first | apply Kd.R_alloc | apply Kd.R_drewN | apply Kd.R_drew)); exact HO_5.out⟩, ⟨by repeat (first | (with_reducible first | exact HB.out | apply below_alloc | apply pw_below_drewN | apply below_drew1) | exact HB.out)⟩⟩
          ·
           rw [if_neg c39] at H
           exact absurd H (by simp)
        ·
         rw [if_neg c33] at H
         exact absurd H (by simp)
       ·
        rw [if_neg c32] at H
        exact absurd H (by simp)
      ·
       rw [if_neg c31] at H
       have c31b0 : decide (x22_1 < (l0.length : Int)) = false := decide_eq_false c31
       clear c31
       by_cases c43 : 0 ≤ (l0.length : Int)
       ·
        rw [if_pos c43] at H
        have c43b0 : decide (0 ≤ (l0.length : Int)) = true := decide_eq_true c43
        have c43b1 : decide (0 ≤ l0.length) = true := decide_eq_true (by omega)
        clear c43
        by_cases c44 : (l0.length : Int) < (x5_1.length : Int)
        ·
         rw [if_pos c44] at H
         have c44b0 : decide ((l0.length : Int) < (x5_1.length : Int)) = true := decide_eq_true c44
         have c44b1 : decide (l0.length < x5_1.length) = true := decide_eq_true (Int.ofNat_lt.mp c44)
         clear c44
         obtain ⟨y195, hy195⟩ : ∃ y_ : List Int, y_ = (x5_1.set ((l0.length : Int) : Int).toNat ((x6_1) % 4294967296)) := ⟨_, rfl⟩
         replace H : (some y195) = some r := by first | (rw [hy195]; with_reducible exact H) | (have H2_ := (Option.bind_some _ _).symm.trans H; rw [hy195]; with_reducible exact H2_) | (have H2_ := (Option.bind_some _ _).symm.trans H; with_reducible exact H2_) | with_reducible exact H | (rw [hy195]; exact H) | exact H
         have Ny195 := Aside0.mk hy195
         clear hy195
         obtain rfl := Option.some.inj H
         have p45 : 0 ≤ ((l0.length : Int) : Int) := of_decide_eq_true (by assumption)
         have q45 : ((l0.length : Int) : Int) < ((x5_1.length : Int) : Int) := of_decide_eq_true (by assumption)
         obtain ⟨go45, co45, eo45, gb45, gl45, cl45, HG45⟩ := Kd.R_form HO_5.out (by omega)
         (first | cases eo45 | (injection eo45 with ea_ en_ ec_; (first | subst ea_ | (injection ea_ with ea_; subst ea_)); subst ec_; clear en_))
         have GB45 := Aside0.mk gb45
         have GG45 := Aside0.mk HG45
         clear gb45 gl45 HG45
         obtain ⟨hx45_0, hf45_0⟩ := Kd.R_celln 0 HO_5.out ((l0.length : Int) : Int) p45 q45
         (try simp only [Go.IntWalk.toNatUp] at hx45_0 hf45_0)
         replace p45 := eq_true p45
         replace q45 := eq_true q45
         have HP46 := Kd.R_putg HO_5.out ((l0.length : Int) : Int) ((x6_1) % 4294967296)
         go_wp2_with (first | ((with_reducible refine gate_store (t := 60) (p := 55) rfl ?_); refine store_event (t := 60) (p := 55) (v := ?vo_w47) (w1 := (wr.setCell ⟨go45, ((l0.length : Int) : Int).toNat, none⟩ (.int .u32 ((x6_1) % 4294967296)))) ?hg ?ho ?hn ?hr ?_; (case ho => rfl); (case hg => rfl); (case hn => rfl); (case hr => first | (go_simp; done) | (go_simp; rfl)); intro w47 hw; have hg : wr.grownBy w47 (some go45) := (by rw [hw]; exact HP46.2); have hp_ : Kd.R (Kd.int .u32) 60 w47 w.heap.size (fun _ => True) (.slice (some ⟨go45, 0, none⟩) x5_1.length co45) y195 := (by rw [hw, Ny195.out]; exact HP46.1); clear HP46; have n0_ := Aside0.mk (hp_); have n1_ := Aside0.mk ((by rw [hw]; exact below_set (HB.out) GB45.out : Below w.heap.size w w47)); clear HO_5; clear HB; have HO_5 := n0_; have HB := n1_; clear n0_ n1_; clear hg hw hp_))
         go_ret
         exact ⟨_, by first | rfl | (simp [errW_none, errW_some] <;> rfl) | (simp only [← hji26]; first | rfl | (simp [errW_none, errW_some] <;> rfl)) | (simp [*, errW_none, errW_some] <;> rfl), by (with_reducible repeat (first | apply Kd.R_alloc | apply Kd.R_drewN | apply Kd.R_drew)); exact HO_5.out, by repeat (first | (with_reducible first | exact HB.out | apply below_alloc | apply pw_below_drewN | apply below_drew1) | exact HB.out)⟩
        ·
         rw [if_neg c44] at H
         exact absurd H (by simp)
       ·
        rw [if_neg c43] at H
        exact absurd H (by simp)
   ·
    rw [if_neg c28] at H
    exact absurd H (by simp)
  ·
   rw [if_neg c27] at H
   exact absurd H (by simp)
def integer_minus.l0 : Nat → List Int → List Int → Int → List Int → Int → Int → Option (List Int)
 | 0, _, _, _, _, _, _ => none
 | k + 1, x1, x5, x6, x13, x14, x15 => if x15 < x14 then (if 0 ≤ x15 then (if x15 < (x13.length : Int) then (if x15 < (x1.length : Int) then (if (wrap64 ((wrap64 ((wrap64 (rd x13 x15)) - x6)) - (wrap64 (rd x1 x15)))) < 0 then (if x15 < (x5.length : Int) then (integer_minus.l0 k x1 (x5.set (x15 : Int).toNat ((wrap64 ((wrap64 ((wrap64 (rd x13 x15)) - x6)) - (wrap64 (rd x1 x15)))) % 4294967296)) 1 x13 x14 (wrap64 (x15 + 1))) else (none)) else (if x15 < (x5.length : Int) then (integer_minus.l0 k x1 (x5.set (x15 : Int).toNat ((wrap64 ((wrap64 ((wrap64 (rd x13 x15)) - x6)) - (wrap64 (rd x1 x15)))) % 4294967296)) 0 x13 x14 (wrap64 (x15 + 1))) else (none))) else (if (wrap64 ((wrap64 (rd x13 x15)) - x6)) < 0 then (if x15 < (x5.length : Int) then (integer_minus.l0 k x1 (x5.set (x15 : Int).toNat ((wrap64 ((wrap64 (rd x13 x15)) - x6)) % 4294967296)) 1 x13 x14 (wrap64 (x15 + 1))) else (none)) else (if x15 < (x5.length : Int) then (integer_minus.l0 k x1 (x5.set (x15 : Int).toNat ((wrap64 ((wrap64 (rd x13 x15)) - x6)) % 4294967296)) 0 x13 x14 (wrap64 (x15 + 1))) else (none)))) else (none)) else (none)) else (some x5)
def integer_minus.f (k : Nat) (l0 : List Int) (l1 : List Int) : Option (List Int) := if 0 ≤ (l0.length : Int) then (if ((l0.length : Int) : Int).toNat ≤ 70368744177664 then (integer_minus.l0 k l1 (List.replicate ((l0.length : Int) : Int).toNat 0) 0 l0 (l0.length : Int) 0) else (none)) else (none)
theorem integer_minus.mono_l : ∀ k, (∀ y0 y1 y2 y3 y4 y5, LeO (integer_minus.l0 k y0 y1 y2 y3 y4 y5) (integer_minus.l0 (k + 1) y0 y1 y2 y3 y4 y5))
 | 0 => fun _ _ _ _ _ _ r h => by simp [integer_minus.l0] at h
 | k + 1 => by
  have ih0 := integer_minus.mono_l k
  ·
   intro y0 y1 y2 y3 y4 y5
   unfold integer_minus.l0
   repeat' first
   | (with_reducible exact ih0 _ _ _ _ _ _)
   | (with_reducible exact LeO.refl _)
   | (with_reducible exact LeO.none _)
   | (with_reducible refine LeO.ite ?_ ?_)
   | (with_reducible refine LeO.bind ?_ (fun _ => ?_))
   | exact ih0 _ _ _ _ _ _
   | exact LeO.none _
   | refine LeO.ite ?_ ?_
   | refine LeO.bind ?_ (fun _ => ?_)
theorem integer_minus.mono : ∀ a0 a1 k, LeO (integer_minus.f k a0 a1) (integer_minus.f (k + 1) a0 a1) := by
 intro a0 a1 k
 have ih0 := integer_minus.mono_l k
 unfold integer_minus.f
 repeat' first
   | (with_reducible exact ih0 _ _ _ _ _ _)
   | (with_reducible exact LeO.refl _)
   | (with_reducible exact LeO.none _)
   | (with_reducible refine LeO.ite ?_ ?_)
   | (with_reducible refine LeO.bind ?_ (fun _ => ?_))
   | exact ih0 _ _ _ _ _ _
   | exact LeO.none _
   | refine LeO.ite ?_ ?_
   | refine LeO.bind ?_ (fun _ => ?_)
set_option maxHeartbeats 8000000 in
set_option maxRecDepth 100000 in
theorem integer_minus.calls (k : Nat) (A0 : Option Addr) (c0 : Nat) (l0 : List Int) (A1 : Option Addr) (c1 : Nat) (l1 : List Int) (r : List Int) (w : World) (hr0 : Kd.C (Kd.int .u32) w A0 l0.length l0) (hc0 : l0.length ≤ c0) (hr1 : Kd.C (Kd.int .u32) w A1 l1.length l1) (hc1 : l1.length ≤ c1) (h : integer_minus.f k l0 l1 = some r) :
  Calls Tryd.prog 64 #[.slice A0 l0.length c0, .slice A1 l1.length c1] w fun e w' => ∃ v0_ : Value, e = .returned (v0_) ∧ Kd.R (Kd.int .u32) 60 w' w.heap.size (fun _ => True) v0_ r ∧ Below w.heap.size w w' := by
 have HR0 := Aside0.mk hr0
 have HC0 := Aside0.mk hc0
 clear hr0 hc0
 have HR1 := Aside0.mk hr1
 have HC1 := Aside0.mk hc1
 clear hr1 hc1
 have HB := Aside0.mk (Below.refl w.heap.size w)
 have H : (if 0 ≤ (l0.length : Int) then (if ((l0.length : Int) : Int).toNat ≤ 70368744177664 then (integer_minus.l0 k l1 (List.replicate ((l0.length : Int) : Int).toNat 0) 0 l0 (l0.length : Int) 0) else (none)) else (none)) = some r := h
 clear h
 by_cases c3 : 0 ≤ (l0.length : Int)
 ·
  rw [if_pos c3] at H
  have c3b0 := eq_true c3
  have c3b1 : decide (0 ≤ (l0.length : Int)) = true := decide_eq_true c3
  clear c3
  by_cases c4 : ((l0.length : Int) : Int).toNat ≤ 70368744177664
  ·
   rw [if_pos c4] at H
   have c4b0 := eq_true c4
   have c4b1 : decide (((l0.length : Int) : Int).toNat ≤ 70368744177664) = true := decide_eq_true c4
   clear c4
   obtain ⟨y196, hy196⟩ : ∃ y_ : List Int, y_ = (List.replicate ((l0.length : Int) : Int).toNat 0) := ⟨_, rfl⟩
   replace H : (integer_minus.l0 k l1 y196 0 l0 (l0.length : Int) 0) = some r := by first | (rw [hy196]; with_reducible exact H) | (have H2_ := (Option.bind_some _ _).symm.trans H; rw [hy196]; with_reducible exact H2_) | (have H2_ := (Option.bind_some _ _).symm.trans H; with_reducible exact H2_) | with_reducible exact H | (rw [hy196]; exact H) | exact H
   have Ny196 := Aside0.mk hy196
   clear hy196
   have H' := Aside0.mk H
   clear H
   go_enter Tryd.func64, Tryd.ntmps64
   go_wp2_with (first | ((with_reducible refine gate_dst (N := 12) rfl ?_); refine Kd.R_make (Kd.int .u32) _ 60 rfl (N := 12) rfl 23 _ _ rfl (l0.length : Int) rfl rfl Tryd.underlying23 (.int .u32 0) 4 info60 rfl (by decide) (by omega) 0 (ok := fun _ => True) (okp := fun _ => True) rfl (fun _ hk => hk) trivial (of_decide_eq_true (by assumption)) (Nat.le_trans (Nat.mul_le_mul_right _ (of_decide_eq_true (by assumption) : (l0.length : Int).toNat ≤ 70368744177664)) (by omega)) (Below.refl _ _) (Nat.le_refl _) ?_; intro v197 w5 ho6 hb hg_ hnew_; clear hg_ hnew_; (first | rw [← Ny196.out] at ho6 | (simp only [Int.reduceToNat] at ho6; rw [← Ny196.out] at ho6)); have n0_ := Aside0.mk (Kd.R_lower ho6 (below_size (by repeat (first | (with_reducible first | exact HB.out | apply below_alloc | apply pw_below_drewN | apply below_drew1) | exact HB.out)))); have n1_ := Aside0.mk (below_step (by repeat (first | (with_reducible first | exact HB.out | apply below_alloc | apply pw_below_drewN | apply below_drew1) | exact HB.out)) hb); clear HB; have HO198 := n0_; have HB := n1_; clear n0_ n1_; clear hb ho6))
   go_loopg [6, 15] k (fun kq v6 v15 w' => ∃ (x5_1 : List Int) (x6_1 : Int) (x15_1 : Int), v6 = .int .i64 x6_1 ∧ v15 = .int .i64 x15_1 ∧ Aside0 (integer_minus.l0 kq l1 x5_1 x6_1 l0 (l0.length : Int) x15_1 = some r) ∧ Aside0 (kq ≤ k) ∧ Aside0 (Kd.R (Kd.int .u32) 60 w' w.heap.size (fun _ => True) v197 x5_1) ∧ Aside0 (Below w.heap.size w w'))
   case atStart => exact ⟨(y196), (0), (0), (by first | rfl | (simp; done) | (simp [*]; done) | (simp <;> omega)), (by first | rfl | (simp; done) | (simp [*]; done) | (simp <;> omega)), H', ⟨Nat.le_refl _⟩, ⟨by (with_reducible repeat (first | apply Kd.R_alloc | apply Kd.R_drewN | apply Kd.R_drew)); exact HO198.out⟩, ⟨by repeat (first | (with_reducible first | exact HB.out | apply below_alloc | apply pw_below_drewN | apply below_drew1) | exact HB.out)⟩⟩
   case round =>
    clear H'
    try clear c1
    try clear p2
    try clear c3
    try clear c3b0
    try clear c3b1
    try clear c4
    try clear c4b0
    try clear c4b1
    try clear c6
    obtain ⟨x5_1, x6_1, x15_1, rfl, rfl, HA, HK1, HO_5, HB⟩ := hrel
    cases gk with
    | zero => exact absurd HA.out (by simp [integer_minus.l0])
    | succ k1 =>
     have H := HA.out
     clear HA
     simp only [integer_minus.l0] at H
     by_cases c7 : x15_1 < (l0.length : Int)
     ·
      rw [if_pos c7] at H
      have c7b0 : decide (x15_1 < (l0.length : Int)) = true := decide_eq_true c7
      clear c7
      by_cases c8 : 0 ≤ x15_1
      ·
       rw [if_pos c8] at H
       have c8b0 : decide (0 ≤ x15_1) = true := decide_eq_true c8
       clear c8
       by_cases c9 : x15_1 < (l0.length : Int)
       ·
        rw [if_pos c9] at H
        have c9b0 : decide (x15_1 < (l0.length : Int)) = true := decide_eq_true c9
        clear c9
        by_cases c10 : x15_1 < (l1.length : Int)
        ·
         rw [if_pos c10] at H
         have c10b0 : decide (x15_1 < (l1.length : Int)) = true := decide_eq_true c10
         clear c10
         by_cases c11 : (wrap64 ((wrap64 ((wrap64 (rd l0 x15_1)) - x6_1)) - (wrap64 (rd l1 x15_1)))) < 0
         ·
          rw [if_pos c11] at H
          have c11b0 : decide ((wrap64 ((wrap64 ((wrap64 (rd l0 x15_1)) - x6_1)) - (wrap64 (rd l1 x15_1)))) < 0) = true := decide_eq_true c11
          clear c11
          by_cases c12 : x15_1 < (x5_1.length : Int)
          ·
           rw [if_pos c12] at H
           have c12b0 : decide (x15_1 < (x5_1.length : Int)) = true := decide_eq_true c12
           clear c12
           obtain ⟨y201, hy201⟩ : ∃ y_ : List Int, y_ = (x5_1.set (x15_1 : Int).toNat ((wrap64 ((wrap64 ((wrap64 (rd l0 x15_1)) - x6_1)) - (wrap64 (rd l1 x15_1)))) % 4294967296)) := ⟨_, rfl⟩
           replace H : (integer_minus.l0 k1 l1 y201 1 l0 (l0.length : Int) (wrap64 (x15_1 + 1))) = some r := by first | (rw [hy201]; with_reducible exact H) | (have H2_ := (Option.bind_some _ _).symm.trans H; rw [hy201]; with_reducible exact H2_) | (have H2_ := (Option.bind_some _ _).symm.trans H; with_reducible exact H2_) | with_reducible exact H | (rw [hy201]; exact H) | exact H
           have Ny201 := Aside0.mk hy201
           clear hy201
           have H' := Aside0.mk H
           clear H
           have p199 : 0 ≤ (x15_1 : Int) := of_decide_eq_true (by assumption)
           have q199 : x15_1 < (l0.length : Int) := of_decide_eq_true (by assumption)
           obtain ⟨ad199, e199, hx199_0⟩ := Kd.at_int HR0.out x15_1 p199 q199
           cases e199
           replace hx199_0 := (HB.out.cell (World.block_lt_of_cell? w _ hx199_0)).trans hx199_0
           replace p199 := eq_true p199
           replace q199 := eq_true q199
           have p200 : 0 ≤ (x15_1 : Int) := of_decide_eq_true (by assumption)
           have q200 : x15_1 < (l1.length : Int) := of_decide_eq_true (by assumption)
           obtain ⟨ad200, e200, hx200_0⟩ := Kd.at_int HR1.out x15_1 p200 q200
           cases e200
           replace hx200_0 := (HB.out.cell (World.block_lt_of_cell? w _ hx200_0)).trans hx200_0
           replace p200 := eq_true p200
           replace q200 := eq_true q200
           have p13 : 0 ≤ (x15_1 : Int) := of_decide_eq_true (by assumption)
           have q13 : (x15_1 : Int) < ((x5_1.length : Int) : Int) := of_decide_eq_true (by assumption)
           obtain ⟨go13, co13, eo13, gb13, gl13, cl13, HG13⟩ := Kd.R_form HO_5.out (by omega)
           (first | cases eo13 | (injection eo13 with ea_ en_ ec_; (first | subst ea_ | (injection ea_ with ea_; subst ea_)); subst ec_; clear en_))
           have GB13 := Aside0.mk gb13
           have GG13 := Aside0.mk HG13
           clear gb13 gl13 HG13
           obtain ⟨hx13_0, hf13_0⟩ := Kd.R_celln 0 HO_5.out (x15_1 : Int) p13 q13
           replace p13 := eq_true p13
           replace q13 := eq_true q13
           have HP14 := Kd.R_putg HO_5.out (x15_1 : Int) ((wrap64 ((wrap64 ((wrap64 (rd l0 x15_1)) - x6_1)) - (wrap64 (rd l1 x15_1)))) % 4294967296)
           go_wp2_with (first | ((with_reducible refine gate_store (t := 60) (p := 41) rfl ?_); refine store_event (t := 60) (p := 41) (v := ?vo_w15) (w1 := (wr.setCell ⟨go13, (x15_1 : Int).toNat, none⟩ (.int .u32 ((wrap64 ((wrap64 ((wrap64 (rd l0 x15_1)) - x6_1)) - (wrap64 (rd l1 x15_1)))) % 4294967296)))) ?hg ?ho ?hn ?hr ?_; (case ho => rfl); (case hg => rfl); (case hn => rfl); (case hr => first | (go_simp; done) | (go_simp; rfl)); intro w15 hw; have hg : wr.grownBy w15 (some go13) := (by rw [hw]; exact HP14.2); have hp_ : Kd.R (Kd.int .u32) 60 w15 w.heap.size (fun _ => True) (.slice (some ⟨go13, 0, none⟩) x5_1.length co13) y201 := (by rw [hw, Ny201.out]; exact HP14.1); clear HP14; have n0_ := Aside0.mk (hp_); have n1_ := Aside0.mk ((by rw [hw]; exact below_set (HB.out) GB13.out : Below w.heap.size w w15)); clear HO_5; clear HB; have HO_5 := n0_; have HB := n1_; clear n0_ n1_; clear hg hw hp_))
           go_roundg k1
           case measure => have := HK1.out; omega
           case rel => exact ⟨(y201), (1), (wrap64 (x15_1 + 1)), (by first | rfl | (simp; done) | (simp [*]; done) | (simp <;> omega)), (by first | rfl | (simp; done) | (simp [*]; done) | (simp <;> omega)), H', ⟨by have := HK1.out; omega⟩, ⟨by (with_reducible repeat (first | apply Kd.R_alloc | apply Kd.R_drewN | apply Kd.R_drew)); exact HO_5.out⟩, ⟨by repeat (first | (with_reducible first | exact HB.out | apply below_alloc | apply pw_below_drewN | apply below_drew1) | exact HB.out)⟩⟩
          ·
           rw [if_neg c12] at H
           exact absurd H (by simp)
         ·
          rw [if_neg c11] at H
          have c11b0 : decide ((wrap64 ((wrap64 ((wrap64 (rd l0 x15_1)) - x6_1)) - (wrap64 (rd l1 x15_1)))) < 0) = false := decide_eq_false c11
          clear c11
          by_cases c16 : x15_1 < (x5_1.length : Int)
          ·
           rw [if_pos c16] at H
           have c16b0 : decide (x15_1 < (x5_1.length : Int)) = true := decide_eq_true c16
           clear c16
           obtain ⟨y202, hy202⟩ : ∃ y_ : List Int, y_ = (x5_1.set (x15_1 : Int).toNat ((wrap64 ((wrap64 ((wrap64 (rd l0 x15_1)) - x6_1)) - (wrap64 (rd l1 x15_1)))) % 4294967296)) := ⟨_, rfl⟩
           replace H : (integer_minus.l0 k1 l1 y202 0 l0 (l0.length : Int) (wrap64 (x15_1 + 1))) = some r := by first | (rw [hy202]; with_reducible exact H) | (have H2_ := (Option.bind_some _ _).symm.trans H; rw [hy202]; with_reducible exact H2_) | (have H2_ := (Option.bind_some _ _).symm.trans H; with_reducible exact H2_) | with_reducible exact H | (rw [hy202]; exact H) | exact H
           have Ny202 := Aside0.mk hy202
           clear hy202
           have H' := Aside0.mk H
           clear H
           have p199 : 0 ≤ (x15_1 : Int) := of_decide_eq_true (by assumption)
           have q199 : x15_1 < (l0.length : Int) := of_decide_eq_true (by assumption)
           obtain ⟨ad199, e199, hx199_0⟩ := Kd.at_int HR0.out x15_1 p199 q199
           cases e199
           replace hx199_0 := (HB.out.cell (World.block_lt_of_cell? w _ hx199_0)).trans hx199_0
           replace p199 := eq_true p199
           replace q199 := eq_true q199
           have p200 : 0 ≤ (x15_1 : Int) := of_decide_eq_true (by assumption)
           have q200 : x15_1 < (l1.length : Int) := of_decide_eq_true (by assumption)
           obtain ⟨ad200, e200, hx200_0⟩ := Kd.at_int HR1.out x15_1 p200 q200
           cases e200
           replace hx200_0 := (HB.out.cell (World.block_lt_of_cell? w _ hx200_0)).trans hx200_0
           replace p200 := eq_true p200
           replace q200 := eq_true q200
           have p17 : 0 ≤ (x15_1 : Int) := of_decide_eq_true (by assumption)
           have q17 : (x15_1 : Int) < ((x5_1.length : Int) : Int) := of_decide_eq_true (by assumption)
           obtain ⟨go17, co17, eo17, gb17, gl17, cl17, HG17⟩ := Kd.R_form HO_5.out (by omega)
           (first | cases eo17 | (injection eo17 with ea_ en_ ec_; (first | subst ea_ | (injection ea_ with ea_; subst ea_)); subst ec_; clear en_))
           have GB17 := Aside0.mk gb17
           have GG17 := Aside0.mk HG17
           clear gb17 gl17 HG17
           obtain ⟨hx17_0, hf17_0⟩ := Kd.R_celln 0 HO_5.out (x15_1 : Int) p17 q17
           replace p17 := eq_true p17
           replace q17 := eq_true q17
           have HP18 := Kd.R_putg HO_5.out (x15_1 : Int) ((wrap64 ((wrap64 ((wrap64 (rd l0 x15_1)) - x6_1)) - (wrap64 (rd l1 x15_1)))) % 4294967296)
           go_wp2_with (first | ((with_reducible refine gate_store (t := 60) (p := 41) rfl ?_); refine store_event (t := 60) (p := 41) (v := ?vo_w19) (w1 := (wr.setCell ⟨go17, (x15_1 : Int).toNat, none⟩ (.int .u32 ((wrap64 ((wrap64 ((wrap64 (rd l0 x15_1)) - x6_1)) - (wrap64 (rd l1 x15_1)))) % 4294967296)))) ?hg ?ho ?hn ?hr ?_; (case ho => rfl); (case hg => rfl); (case hn => rfl); (case hr => first | (go_simp; done) | (go_simp; rfl)); intro w19 hw; have hg : wr.grownBy w19 (some go17) := (by rw [hw]; exact HP18.2); have hp_ : Kd.R (Kd.int .u32) 60 w19 w.heap.size (fun _ => True) (.slice (some ⟨go17, 0, none⟩) x5_1.length co17) y202 := (by rw [hw, Ny202.out]; exact HP18.1); clear HP18; have n0_ := Aside0.mk (hp_); have n1_ := Aside0.mk ((by rw [hw]; exact below_set (HB.out) GB17.out : Below w.heap.size w w19)); clear HO_5; clear HB; have HO_5 := n0_; have HB := n1_; clear n0_ n1_; clear hg hw hp_))
           go_roundg k1
           case measure => have := HK1.out; omega
           case rel => exact ⟨(y202), (0), (wrap64 (x15_1 + 1)), (by first | rfl | (simp; done) | (simp [*]; done) | (simp <;> omega)), (by first | rfl | (simp; done) | (simp [*]; done) | (simp <;> omega)), H', ⟨by have := HK1.out; omega⟩, ⟨by (with_reducible repeat (first | apply Kd.R_alloc | apply Kd.R_drewN | apply Kd.R_drew)); exact HO_5.out⟩, ⟨by repeat (first | (with_reducible first | exact HB.out | apply below_alloc | apply pw_below_drewN | apply below_drew1) | exact HB.out)⟩⟩
          ·
           rw [if_neg c16] at H
           exact absurd H (by simp)
        ·
         rw [if_neg c10] at H
         have c10b0 : decide (x15_1 < (l1.length : Int)) = false := decide_eq_false c10
         clear c10
         by_cases c20 : (wrap64 ((wrap64 (rd l0 x15_1)) - x6_1)) < 0
         ·
          rw [if_pos c20] at H
          have c20b0 : decide ((wrap64 ((wrap64 (rd l0 x15_1)) - x6_1)) < 0) = true := decide_eq_true c20
          clear c20
          by_cases c21 : x15_1 < (x5_1.length : Int)
          ·
           rw [if_pos c21] at H
           have c21b0 : decide (x15_1 < (x5_1.length : Int)) = true := decide_eq_true c21
           clear c21
           obtain ⟨y203, hy203⟩ : ∃ y_ : List Int, y_ = (x5_1.set (x15_1 : Int).toNat ((wrap64 ((wrap64 (rd l0 x15_1)) - x6_1)) % 4294967296)) := ⟨_, rfl⟩
           replace H : (integer_minus.l0 k1 l1 y203 1 l0 (l0.length : Int) (wrap64 (x15_1 + 1))) = some r := by first | (rw [hy203]; with_reducible exact H) | (have H2_ := (Option.bind_some _ _).symm.trans H; rw [hy203]; with_reducible exact H2_) | (have H2_ := (Option.bind_some _ _).symm.trans H; with_reducible exact H2_) | with_reducible exact H | (rw [hy203]; exact H) | exact H
           have Ny203 := Aside0.mk hy203
           clear hy203
           have H' := Aside0.mk H
           clear H
           have p199 : 0 ≤ (x15_1 : Int) := of_decide_eq_true (by assumption)
           have q199 : x15_1 < (l0.length : Int) := of_decide_eq_true (by assumption)
           obtain ⟨ad199, e199, hx199_0⟩ := Kd.at_int HR0.out x15_1 p199 q199
           cases e199
           replace hx199_0 := (HB.out.cell (World.block_lt_of_cell? w _ hx199_0)).trans hx199_0
           replace p199 := eq_true p199
           replace q199 := eq_true q199
           have p22 : 0 ≤ (x15_1 : Int) := of_decide_eq_true (by assumption)
           have q22 : (x15_1 : Int) < ((x5_1.length : Int) : Int) := of_decide_eq_true (by assumption)
           obtain ⟨go22, co22, eo22, gb22, gl22, cl22, HG22⟩ := Kd.R_form HO_5.out (by omega)
           (first | cases eo22 | (injection eo22 with ea_ en_ ec_; (first | subst ea_ | (injection ea_ with ea_; subst ea_)); subst ec_; clear en_))
           have GB22 := Aside0.mk gb22
           have GG22 := Aside0.mk HG22
           clear gb22 gl22 HG22
           obtain ⟨hx22_0, hf22_0⟩ := Kd.R_celln 0 HO_5.out (x15_1 : Int) p22 q22
           replace p22 := eq_true p22
           replace q22 := eq_true q22
           have HP23 := Kd.R_putg HO_5.out (x15_1 : Int) ((wrap64 ((wrap64 (rd l0 x15_1)) - x6_1)) % 4294967296)
           go_wp2_with (first | ((with_reducible refine gate_store (t := 60) (p := 41) rfl ?_); refine store_event (t := 60) (p := 41) (v := ?vo_w24) (w1 := (wr.setCell ⟨go22, (x15_1 : Int).toNat, none⟩ (.int .u32 ((wrap64 ((wrap64 (rd l0 x15_1)) - x6_1)) % 4294967296)))) ?hg ?ho ?hn ?hr ?_; (case ho => rfl); (case hg => rfl); (case hn => rfl); (case hr => first | (go_simp; done) | (go_simp; rfl)); intro w24 hw; have hg : wr.grownBy w24 (some go22) := (by rw [hw]; exact HP23.2); have hp_ : Kd.R (Kd.int .u32) 60 w24 w.heap.size (fun _ => True) (.slice (some ⟨go22, 0, none⟩) x5_1.length co22) y203 := (by rw [hw, Ny203.out]; exact HP23.1); clear HP23; have n0_ := Aside0.mk (hp_); have n1_ := Aside0.mk ((by rw [hw]; exact below_set (HB.out) GB22.out : Below w.heap.size w w24)); clear HO_5; clear HB; have HO_5 := n0_; have HB := n1_; clear n0_ n1_; clear hg hw hp_))
           go_roundg k1
           case measure => have := HK1.out; omega
           case rel => exact ⟨(y203), (1), (wrap64 (x15_1 + 1)), (by first | rfl | (simp; done) | (simp [*]; done) | (simp <;> omega)), (by first | rfl | (simp; done) | (simp [*]; done) | (simp <;> omega)), H', ⟨by have := HK1.out; omega⟩, ⟨by (with_reducible repeat (first | apply Kd.R_alloc | apply Kd.R_drewN | apply Kd.R_drew)); exact HO_5.out⟩, ⟨by repeat (first | (with_reducible first | exact HB.out | apply below_alloc | apply pw_below_drewN | apply below_drew1) | exact HB.out)⟩⟩
          ·
           rw [if_neg c21] at H
           exact absurd H (by simp)
         ·
          rw [if_neg c20] at H
          have c20b0 : decide ((wrap64 ((wrap64 (rd l0 x15_1)) - x6_1)) < 0) = false := decide_eq_false c20
          clear c20
          by_cases c25 : x15_1 < (x5_1.length : Int)
          ·
           rw [if_pos c25] at H
           have c25b0 : decide (x15_1 < (x5_1.length : Int)) = true := decide_eq_true c25
           clear c25
           obtain ⟨y204, hy204⟩ : ∃ y_ : List Int, y_ = (x5_1.set (x15_1 : Int).toNat ((wrap64 ((wrap64 (rd l0 x15_1)) - x6_1)) % 4294967296)) := ⟨_, rfl⟩
           replace H : (integer_minus.l0 k1 l1 y204 0 l0 (l0.length : Int) (wrap64 (x15_1 + 1))) = some r := by first | (rw [hy204]; with_reducible exact H) | (have H2_ := (Option.bind_some _ _).symm.trans H; rw [hy204]; with_reducible exact H2_) | (have H2_ := (Option.bind_some _ _).symm.trans H; with_reducible exact H2_) | with_reducible exact H | (rw [hy204]; exact H) | exact H
           have Ny204 := Aside0.mk hy204
           clear hy204
           have H' := Aside0.mk H
           clear H
           have p199 : 0 ≤ (x15_1 : Int) := of_decide_eq_true (by assumption)
           have q199 : x15_1 < (l0.length : Int) := of_decide_eq_true (by assumption)
           obtain ⟨ad199, e199, hx199_0⟩ := Kd.at_int HR0.out x15_1 p199 q199
           cases e199
           replace hx199_0 := (HB.out.cell (World.block_lt_of_cell? w _ hx199_0)).trans hx199_0
           replace p199 := eq_true p199
           replace q199 := eq_true q199
           have p26 : 0 ≤ (x15_1 : Int) := of_decide_eq_true (by assumption)
           have q26 : (x15_1 : Int) < ((x5_1.length : Int) : Int) := of_decide_eq_true (by assumption)
           obtain ⟨go26, co26, eo26, gb26, gl26, cl26, HG26⟩ := Kd.R_form HO_5.out (by omega)
           (first | cases eo26 | (injection eo26 with ea_ en_ ec_; (first | subst ea_ | (injection ea_ with ea_; subst ea_)); subst ec_; clear en_))
           have GB26 := Aside0.mk gb26
           have GG26 := Aside0.mk HG26
           clear gb26 gl26 HG26
           obtain ⟨hx26_0, hf26_0⟩ := Kd.R_celln 0 HO_5.out (x15_1 : Int) p26 q26
           replace p26 := eq_true p26
           replace q26 := eq_true q26
           have HP27 := Kd.R_putg HO_5.out (x15_1 : Int) ((wrap64 ((wrap64 (rd l0 x15_1)) - x6_1)) % 4294967296)
           go_wp2_with (first | ((with_reducible refine gate_store (t := 60) (p := 41) rfl ?_); refine store_event (t := 60) (p := 41) (v := ?vo_w28) (w1 := (wr.setCell ⟨go26, (x15_1 : Int).toNat, none⟩ (.int .u32 ((wrap64 ((wrap64 (rd l0 x15_1)) - x6_1)) % 4294967296)))) ?hg ?ho ?hn ?hr ?_; (case ho => rfl); (case hg => rfl); (case hn => rfl); (case hr => first | (go_simp; done) | (go_simp; rfl)); intro w28 hw; have hg : wr.grownBy w28 (some go26) := (by rw [hw]; exact HP27.2); have hp_ : Kd.R (Kd.int .u32) 60 w28 w.heap.size (fun _ => True) (.slice (some ⟨go26, 0, none⟩) x5_1.length co26) y204 := (by rw [hw, Ny204.out]; exact HP27.1); clear HP27; have n0_ := Aside0.mk (hp_); have n1_ := Aside0.mk ((by rw [hw]; exact below_set (HB.out) GB26.out : Below w.heap.size w w28)); clear HO_5; clear HB; have HO_5 := n0_; have HB := n1_; clear n0_ n1_; clear hg hw hp_))
           go_roundg k1
           case measure => have := HK1.out; omega
           case rel => exact ⟨(y204), (0), (wrap64 (x15_1 + 1)), (by first | rfl | (simp; done) | (simp [*]; done) | (simp <;> omega)), (by first | rfl | (simp; done) | (simp [*]; done) | (simp <;> omega)), H', ⟨by have := HK1.out; omega⟩, ⟨by (with_reducible repeat (first | apply Kd.R_alloc | apply Kd.R_drewN | apply Kd.R_drew)); exact HO_5.out⟩, ⟨by repeat (first | (with_reducible first | exact HB.out | apply below_alloc | apply pw_below_drewN | apply below_drew1) | exact HB.out)⟩⟩
          ·
           rw [if_neg c25] at H
           exact absurd H (by simp)
       ·
        rw [if_neg c9] at H
        exact absurd H (by simp)
      ·
       rw [if_neg c8] at H
       exact absurd H (by simp)
     ·
      rw [if_neg c7] at H
      have c7b0 : decide (x15_1 < (l0.length : Int)) = false := decide_eq_false c7
      clear c7
      obtain rfl := Option.some.inj H
      go_wp2
      go_ret
      exact ⟨_, by first | rfl | (simp [errW_none, errW_some] <;> rfl) | (simp [*, errW_none, errW_some] <;> rfl), by (with_reducible repeat (first | apply Kd.R_alloc | apply Kd.R_drewN | apply Kd.R_drew)); exact HO_5.out, by repeat (first | (with_reducible first | exact HB.out | apply below_alloc | apply pw_below_drewN | apply below_drew1) | exact HB.out)⟩
  ·
   rw [if_neg c4] at H
   exact absurd H (by simp)
 ·
  rw [if_neg c3] at H
  exact absurd H (by simp)
def integer_Add.f (k : Nat) (a0_0 : Bool) (l0_1 : List Int) (a1_0 : Bool) (l1_1 : List Int) : Option (Bool × List Int) := if (a0_0 == a1_0) = true then ((integer_plus.f k l0_1 l1_1).bind fun t208 => ((integer_signed.f k a0_0 t208).bind fun bt211 => (some (bt211.1, bt211.2)))) else ((integer_order.f k l0_1 l1_1).bind fun t215 => (if t215 ≥ 0 then ((integer_minus.f k l0_1 l1_1).bind fun t216 => ((integer_signed.f k a0_0 t216).bind fun bt219 => (some (bt219.1, bt219.2)))) else ((integer_minus.f k l1_1 l0_1).bind fun t223 => ((integer_signed.f k a1_0 t223).bind fun bt226 => (some (bt226.1, bt226.2))))))
theorem integer_Add.mono : ∀ a0 a1 a2 a3 k, LeO (integer_Add.f k a0 a1 a2 a3) (integer_Add.f (k + 1) a0 a1 a2 a3) := by
 intro a0 a1 a2 a3 k
 unfold integer_Add.f
 repeat' first
   | (with_reducible exact integer_minus.mono _ _ _)
   | (with_reducible exact integer_order.mono _ _ _)
   | (with_reducible exact integer_plus.mono _ _ _)
   | (with_reducible exact integer_signed.mono _ _ _)
   | (with_reducible exact LeO.refl _)
   | (with_reducible exact LeO.none _)
   | (with_reducible refine LeO.ite ?_ ?_)
   | (with_reducible refine LeO.bind ?_ (fun _ => ?_))
   | exact integer_minus.mono _ _ _
   | exact integer_order.mono _ _ _
   | exact integer_plus.mono _ _ _
   | exact integer_signed.mono _ _ _
   | exact LeO.none _
   | refine LeO.ite ?_ ?_
   | refine LeO.bind ?_ (fun _ => ?_)
def integer_Add.T2 : Bool × List (List Nat × List Nat) := (true, [([], []), ([0], [0]), ([], []), ([2], [2]), ([], []), ([4], [4]), ([3, 5], [3, 5]), ([1, 6, 6], [1, 6]), ([7, 7, 0, 1, 2, 3, 4, 5, 6, 7], [7])])
def integer_Add.B2 : List Nat := [0, 1, 0, 4, 0, 16, 60, 127, 255]
theorem integer_Add.tab2 : rtab .any (opsOf Tryd.f35 2) = integer_Add.T2 := by kernel_rfl
theorem integer_Add.bits2 : waitsOk integer_Add.T2.2 integer_Add.B2 = true := by kernel_rfl
def integer_Add.T4 : Bool × List (List Nat × List Nat) := (true, [([], []), ([0], [0]), ([], []), ([2], [2]), ([], []), ([4], [4]), ([3, 5], [3, 5]), ([1, 6, 6], [1, 6]), ([7, 7, 0, 1, 2, 3, 4, 5, 6, 7], [7])])
def integer_Add.B4 : List Nat := [0, 1, 0, 4, 0, 16, 60, 127, 255]
theorem integer_Add.tab4 : rtab .any (opsOf Tryd.f35 4) = integer_Add.T4 := by kernel_rfl
theorem integer_Add.bits4 : waitsOk integer_Add.T4.2 integer_Add.B4 = true := by kernel_rfl
def integer_Add.T5 : Bool × List (List Nat × List Nat) := (true, [([], []), ([0], [0]), ([], []), ([2], [2]), ([], []), ([4], [4]), ([3, 5], [3, 5]), ([1, 6, 6], [1, 6]), ([7, 7, 0, 1, 2, 3, 4, 5, 6, 7], [7])])
def integer_Add.B5 : List Nat := [0, 1, 0, 4, 0, 16, 60, 127, 255]
theorem integer_Add.tab5 : rtab .any (opsOf Tryd.f35 5) = integer_Add.T5 := by kernel_rfl
theorem integer_Add.bits5 : waitsOk integer_Add.T5.2 integer_Add.B5 = true := by kernel_rfl
set_option maxHeartbeats 8000000 in
set_option maxRecDepth 100000 in
theorem integer_Add.calls (k : Nat) (a0_0 : Bool) (A0_1 : Option Addr) (c0_1 : Nat) (l0_1 : List Int) (a1_0 : Bool) (A1_1 : Option Addr) (c1_1 : Nat) (l1_1 : List Int) (r1 : Bool) (r2 : List Int) (w : World) (hr0_1 : Kd.C (Kd.int .u32) w A0_1 l0_1.length l0_1) (hc0_1 : l0_1.length ≤ c0_1) (hr1_1 : Kd.C (Kd.int .u32) w A1_1 l1_1.length l1_1) (hc1_1 : l1_1.length ≤ c1_1) (h : integer_Add.f k a0_0 l0_1 a1_0 l1_1 = some (r1, r2)) :
  Calls Tryd.prog 35 #[.agg #[.bool a0_0, .slice A0_1 l0_1.length c0_1], .agg #[.bool a1_0, .slice A1_1 l1_1.length c1_1]] w fun e w' => ∃ v1_ : Value, e = .returned (.agg #[.bool r1, v1_]) ∧ Kd.V (Kd.int .u32) 60 w' w.heap.size (fun k_ => (w.heap.size ≤ k_)) v1_ r2 ∧ Below w.heap.size w w' := by
 have hu25 := Tryd.underlying25
 have HR0_1 := Aside0.mk hr0_1
 have HC0_1 := Aside0.mk hc0_1
 clear hr0_1 hc0_1
 have HR1_1 := Aside0.mk hr1_1
 have HC1_1 := Aside0.mk hc1_1
 clear hr1_1 hc1_1
 have HB := Aside0.mk (Below.refl w.heap.size w)
 have H : (if (a0_0 == a1_0) = true then ((integer_plus.f k l0_1 l1_1).bind fun t208 => ((integer_signed.f k a0_0 t208).bind fun bt211 => (some (bt211.1, bt211.2)))) else ((integer_order.f k l0_1 l1_1).bind fun t215 => (if t215 ≥ 0 then ((integer_minus.f k l0_1 l1_1).bind fun t216 => ((integer_signed.f k a0_0 t216).bind fun bt219 => (some (bt219.1, bt219.2)))) else ((integer_minus.f k l1_1 l0_1).bind fun t223 => ((integer_signed.f k a1_0 t223).bind fun bt226 => (some (bt226.1, bt226.2))))))) = some (r1, r2) := h
 clear h
 by_cases c3 : (a0_0 == a1_0) = true
 ·
  rw [if_pos c3] at H
  have c3b0 : (a0_0 == a1_0) = true := c3
  (try (have c3b1 : decide (a0_0 = a1_0) = true := by simpa using c3))
  (try (have c3b2 : (a0_0 == a1_0) = true := by simpa using c3))
  clear c3
  replace H := Option.bind_eq_some_iff.mp H
  obtain ⟨t208, A40, H⟩ := H
  replace H : ((integer_signed.f k a0_0 t208).bind fun bt211 => (some (bt211.1, bt211.2))) = some (r1, r2) := H
  have A4 := Aside0.mk A40
  clear A40
  replace H := Option.bind_eq_some_iff.mp H
  obtain ⟨⟨t211, t212⟩, A50, H⟩ := H
  replace H : (some (t211, t212)) = some (r1, r2) := H
  have A5 := Aside0.mk A50
  clear A50
  simp only [Option.some.injEq, Prod.mk.injEq] at H
  obtain ⟨rfl, rfl⟩ := H
  go_enter Tryd.func35, Tryd.ntmps35
  try go_wp2_with (first | ((with_reducible refine gate_dst (N := 2) rfl ?_); refine box_event ?hg (N := 2) ?hd (cs := #[.bool a0_0, .slice A0_1 l0_1.length c0_1]) (t := 25) ?hr ?_; (case hd => rfl); (case hg => rfl); (case hr => first | (go_simp; done) | (go_simp; rfl)); intro gb205 hg w6 hbox hb; have n0_ := Aside0.mk (below_step (by repeat (first | (with_reducible first | exact HB.out | apply below_alloc | apply pw_below_drewN | apply below_drew1) | exact HB.out)) hb); have n1_ := Aside0.mk (hbox); have n2_ := Aside0.mk ((by rw [hg]; exact (below_size (by repeat (first | (with_reducible first | exact HB.out | apply below_alloc | apply pw_below_drewN | apply below_drew1) | exact HB.out))) : w.heap.size ≤ gb205)); have n3_ := Aside0.mk ((by rw [hg]; exact (below_size (by repeat (first | (with_reducible first | exact HB.out | apply below_alloc | apply pw_below_drewN | apply below_drew1) | exact HB.out))) : w.heap.size ≤ gb205)); clear HB; have HB := n0_; have BK205 := n1_; have GW205 := n2_; have GE205 := n3_; clear n0_ n1_ n2_ n3_; clear hb hbox hg) | ((with_reducible refine gate_dst (N := 3) rfl ?_); refine box_event ?hg (N := 3) ?hd (cs := #[.bool a1_0, .slice A1_1 l1_1.length c1_1]) (t := 25) ?hr ?_; (case hd => rfl); (case hg => rfl); (case hr => first | (go_simp; done) | (go_simp; rfl)); intro gb206 hg w7 hbox hb; have n0_ := Aside0.mk (blk_below (g := gb205) (o := .cells #[.bool a0_0, .slice A0_1 l0_1.length c0_1] 25 (0, 0)) (by (with_reducible repeat (first | refine blk_drewN ?_ _ | refine blk_drew ?_ | refine blk_alloc ?_ _)); exact BK205.out) hb); have n1_ := Aside0.mk (below_step (by repeat (first | (with_reducible first | exact HB.out | apply below_alloc | apply pw_below_drewN | apply below_drew1 | refine below_set ?_ GE205.out) | exact HB.out)) hb); have n2_ := Aside0.mk (hbox); have n3_ := Aside0.mk ((by rw [hg]; exact (below_size (by repeat (first | (with_reducible first | exact HB.out | apply below_alloc | apply pw_below_drewN | apply below_drew1 | refine below_set ?_ GE205.out) | exact HB.out))) : w.heap.size ≤ gb206)); have n4_ := Aside0.mk ((by rw [hg]; exact (below_size (by repeat (first | (with_reducible first | exact HB.out | apply below_alloc | apply pw_below_drewN | apply below_drew1 | refine below_set ?_ GE205.out) | exact HB.out))) : w.heap.size ≤ gb206)); have n5_ := Aside0.mk ((by rw [hg]; exact Nat.ne_of_lt (blk_lt (g := gb205) (o := .cells #[.bool a0_0, .slice A0_1 l0_1.length c0_1] 25 (0, 0)) (by (with_reducible repeat (first | refine blk_drewN ?_ _ | refine blk_drew ?_ | refine blk_alloc ?_ _)); exact BK205.out)) : gb205 ≠ gb206)); have n6_ := Aside0.mk ((by rw [hg]; exact Nat.ne_of_gt (blk_lt (g := gb205) (o := .cells #[.bool a0_0, .slice A0_1 l0_1.length c0_1] 25 (0, 0)) (by (with_reducible repeat (first | refine blk_drewN ?_ _ | refine blk_drew ?_ | refine blk_alloc ?_ _)); exact BK205.out)) : gb206 ≠ gb205)); clear BK205; clear HB; have BK205 := n0_; have HB := n1_; have BK206 := n2_; have GW206 := n3_; have GE206 := n4_; have NB205_206 := n5_; have NB206_205 := n6_; clear n0_ n1_ n2_ n3_ n4_ n5_ n6_; clear hb hbox hg) | ((with_reducible refine gate_dst (N := 4) rfl ?_); refine box_event ?hg (N := 4) ?hd (cs := #[.bool false, .slice none 0 0]) (t := 25) ?hr ?_; (case hd => rfl); (case hg => rfl); (case hr => first | (go_simp; done) | (go_simp; rfl)); intro gb207 hg w8 hbox hb; have n0_ := Aside0.mk (blk_below (g := gb205) (o := .cells #[.bool a0_0, .slice A0_1 l0_1.length c0_1] 25 (0, 0)) (by (with_reducible repeat (first | refine blk_drewN ?_ _ | refine blk_drew ?_ | refine blk_alloc ?_ _)); exact BK205.out) hb); have n1_ := Aside0.mk (blk_below (g := gb206) (o := .cells #[.bool a1_0, .slice A1_1 l1_1.length c1_1] 25 (0, 0)) (by (with_reducible repeat (first | refine blk_drewN ?_ _ | refine blk_drew ?_ | refine blk_alloc ?_ _)); exact BK206.out) hb); have n2_ := Aside0.mk (below_step (by repeat (first | (with_reducible first | exact HB.out | apply below_alloc | apply pw_below_drewN | apply below_drew1 | refine below_set ?_ GE205.out | refine below_set ?_ GE206.out) | exact HB.out)) hb); have n3_ := Aside0.mk (hbox); have n4_ := Aside0.mk ((by rw [hg]; exact (below_size (by repeat (first | (with_reducible first | exact HB.out | apply below_alloc | apply pw_below_drewN | apply below_drew1 | refine below_set ?_ GE205.out | refine below_set ?_ GE206.out) | exact HB.out))) : w.heap.size ≤ gb207)); have n5_ := Aside0.mk ((by rw [hg]; exact (below_size (by repeat (first | (with_reducible first | exact HB.out | apply below_alloc | apply pw_below_drewN | apply below_drew1 | refine below_set ?_ GE205.out | refine below_set ?_ GE206.out) | exact HB.out))) : w.heap.size ≤ gb207)); have n6_ := Aside0.mk ((by rw [hg]; exact Nat.ne_of_lt (blk_lt (g := gb205) (o := .cells #[.bool a0_0, .slice A0_1 l0_1.length c0_1] 25 (0, 0)) (by (with_reducible repeat (first | refine blk_drewN ?_ _ | refine blk_drew ?_ | refine blk_alloc ?_ _)); exact BK205.out)) : gb205 ≠ gb207)); have n7_ := Aside0.mk ((by rw [hg]; exact Nat.ne_of_gt (blk_lt (g := gb205) (o := .cells #[.bool a0_0, .slice A0_1 l0_1.length c0_1] 25 (0, 0)) (by (with_reducible repeat (first | refine blk_drewN ?_ _ | refine blk_drew ?_ | refine blk_alloc ?_ _)); exact BK205.out)) : gb207 ≠ gb205)); have n8_ := Aside0.mk ((by rw [hg]; exact Nat.ne_of_lt (blk_lt (g := gb206) (o := .cells #[.bool a1_0, .slice A1_1 l1_1.length c1_1] 25 (0, 0)) (by (with_reducible repeat (first | refine blk_drewN ?_ _ | refine blk_drew ?_ | refine blk_alloc ?_ _)); exact BK206.out)) : gb206 ≠ gb207)); have n9_ := Aside0.mk ((by rw [hg]; exact Nat.ne_of_gt (blk_lt (g := gb206) (o := .cells #[.bool a1_0, .slice A1_1 l1_1.length c1_1] 25 (0, 0)) (by (with_reducible repeat (first | refine blk_drewN ?_ _ | refine blk_drew ?_ | refine blk_alloc ?_ _)); exact BK206.out)) : gb207 ≠ gb206)); clear BK205; clear BK206; clear HB; have BK205 := n0_; have BK206 := n1_; have HB := n2_; have BK207 := n3_; have GW207 := n4_; have GE207 := n5_; have NB205_207 := n6_; have NB207_205 := n7_; have NB206_207 := n8_; have NB207_206 := n9_; clear n0_ n1_ n2_ n3_ n4_ n5_ n6_ n7_ n8_ n9_; clear hb hbox hg; have hnb9 := NB205_206.out; have hnc9 := NB206_205.out; have hnb10 := NB205_207.out; have hnc10 := NB207_205.out; have hcz11_0 : w8.cell? ⟨gb205, 0, none⟩ = some (.bool a0_0) := (blk_cell BK205.out 0).trans rfl; have hcz11_1 : w8.cell? ⟨gb205, 1, none⟩ = some (.slice A0_1 l0_1.length c0_1) := (blk_cell BK205.out 1).trans rfl; have hfz11_0 := blk_frozen BK205.out 0; have hfz11_1 := blk_frozen BK205.out 1; have hnb12 := NB206_207.out; have hnc12 := NB207_206.out; have hcz13_0 : w8.cell? ⟨gb206, 0, none⟩ = some (.bool a1_0) := (blk_cell BK206.out 0).trans rfl; have hcz13_1 : w8.cell? ⟨gb206, 1, none⟩ = some (.slice A1_1 l1_1.length c1_1) := (blk_cell BK206.out 1).trans rfl; have hfz13_0 := blk_frozen BK206.out 0; have hfz13_1 := blk_frozen BK206.out 1))
  have n0_ := Aside0.mk (blk_drew BK205.out)
  have n1_ := Aside0.mk (blk_drew BK206.out)
  have n2_ := Aside0.mk (blk_drew BK207.out)
  have n3_ := Aside0.mk (below_drew1 HB.out)
  clear BK205
  clear BK206
  clear BK207
  clear HB
  have BK205 := n0_
  have BK206 := n1_
  have BK207 := n2_
  have HB := n3_
  clear n0_ n1_ n2_ n3_
  refine start_ (n := 9) (S := fun w' => w'.cell? ⟨gb205, 0, none⟩ = some (.bool a0_0) ∧ w'.cell? ⟨gb205, 1, none⟩ = some (.slice A0_1 l0_1.length c0_1) ∧ w'.cell? ⟨gb206, 0, none⟩ = some (.bool a1_0) ∧ w'.cell? ⟨gb206, 1, none⟩ = some (.slice A1_1 l1_1.length c1_1)) (ds := []) #[false, false, false, false, false, false, false, false, false] (by kernel_rfl) rfl rfl ⟨(blk_cell BK205.out 0).trans rfl, (blk_cell BK205.out 1).trans rfl, (blk_cell BK206.out 0).trans rfl, (blk_cell BK206.out 1).trans rfl⟩ (fun hHeld => ?_); refine with_tabW integer_Add.tab2 integer_Add.bits2 (fun HT_ HW_ => ?_)
  generalize w8.drew = w14 at BK205 BK206 BK207 HB hHeld ⊢
  refine pure_ (i := 0) (N := some 11) (v := ?_) (a' := ?_) #[true, false, false, false, false, false, false, false, false] rfl rfl (any_of HT_.out (by kernel_rfl)) (fun _ _ _ h => h) (Or.inl ⟨by rfl, ?_⟩) ?_ ?_
  rotate_left
  ·
   intro w'
   go_simp
   with_reducible rfl
  rotate_left
  ·
   simp only [Act.put, List.setIfInBounds_toArray, List.set_cons_zero, List.set_cons_succ, i64_w, i32_w]
   rfl
  refine pure_ (i := 2) (N := some 13) (v := ?_) (a' := ?_) #[true, false, true, false, false, false, false, false, false] rfl rfl (any_of HT_.out (by kernel_rfl)) (fun _ _ _ h => h) (Or.inl ⟨by rfl, ?_⟩) ?_ ?_
  rotate_left
  ·
   intro w'
   go_simp
   with_reducible rfl
  rotate_left
  ·
   simp only [Act.put, List.setIfInBounds_toArray, List.set_cons_zero, List.set_cons_succ, i64_w, i32_w]
   rfl
  refine pure_ (i := 4) (N := some 15) (v := ?_) (a' := ?_) #[true, false, true, false, true, false, false, false, false] rfl rfl (any_of HT_.out (by kernel_rfl)) (fun _ _ _ h => h) (Or.inl ⟨by rfl, ?_⟩) ?_ ?_
  rotate_left
  ·
   intro w'
   go_simp
   with_reducible rfl
  rotate_left
  ·
   simp only [Act.put, List.setIfInBounds_toArray, List.set_cons_zero, List.set_cons_succ, i64_w, i32_w]
   rfl
  refine take_ (i := 1) (N := some 12) (v := ?_) (a' := ?_) #[true, true, true, false, true, false, false, false, false] rfl rfl (take_ofW HT_.out HW_.out (by kernel_rfl)) (fun _ _ _ h => h) (Or.inl ⟨by rfl, ?_⟩) hHeld ?_ ?_
  rotate_left
  ·
   rintro w' ⟨s0, s1, s2, s3⟩
   go_simp
   with_reducible rfl
  rotate_left
  ·
   simp only [Act.put, List.setIfInBounds_toArray, List.set_cons_zero, List.set_cons_succ, i64_w, i32_w]
   rfl
  refine take_ (i := 3) (N := some 14) (v := ?_) (a' := ?_) #[true, true, true, true, true, false, false, false, false] rfl rfl (take_ofW HT_.out HW_.out (by kernel_rfl)) (fun _ _ _ h => h) (Or.inl ⟨by rfl, ?_⟩) hHeld ?_ ?_
  rotate_left
  ·
   rintro w' ⟨s0, s1, s2, s3⟩
   go_simp
   with_reducible rfl
  rotate_left
  ·
   simp only [Act.put, List.setIfInBounds_toArray, List.set_cons_zero, List.set_cons_succ, i64_w, i32_w]
   rfl
  refine take_ (i := 5) (N := some 16) (v := ?_) (a' := ?_) #[true, true, true, true, true, true, false, false, false] rfl rfl (take_ofW HT_.out HW_.out (by kernel_rfl)) (fun _ _ _ h => h) (Or.inl ⟨by rfl, ?_⟩) hHeld ?_ ?_
  rotate_left
  ·
   rintro w' ⟨s0, s1, s2, s3⟩
   go_simp
   with_reducible rfl
  rotate_left
  ·
   simp only [Act.put, List.setIfInBounds_toArray, List.set_cons_zero, List.set_cons_succ, i64_w, i32_w]
   rfl
  refine one_ (i := 6) (N := some 17) #[true, true, true, true, true, true, true, false, false] rfl rfl (one_of HT_.out (by kernel_rfl)) (by decide) (fun K hK => ?_)
  refine goes_ Tryd.func63 (by kernel_rfl) rfl #[.slice A0_1 l0_1.length c0_1, .slice A1_1 l1_1.length c1_1] (by rfl) rfl rfl (by (try simp only [List.map_toArray, List.map_cons, List.map_nil]); first | done | rfl | (simp only [List.length_drop, List.length_take]; rfl)) ?_
  with_reducible refine (integer_plus.calls k _ _ l0_1 _ _ l1_1 t208 _ ?side1 ?side2 ?side3 ?side4 A4.out).mono ?_
  (case side1 => repeat (first | exact (Kd.C_below HR0_1.out HB.out) | (with_reducible refine Kd.C_alloc ?_ _) | (with_reducible refine Kd.C_drewN ?_ _) | (with_reducible refine Kd.C_drew ?_)))
  (case side2 => exact HC0_1.out)
  (case side3 => repeat (first | exact (Kd.C_below HR1_1.out HB.out) | (with_reducible refine Kd.C_alloc ?_ _) | (with_reducible refine Kd.C_drewN ?_ _) | (with_reducible refine Kd.C_drew ?_)))
  (case side4 => exact HC1_1.out)
  rintro e w15 ⟨v209, rfl, ho0, hb⟩
  refine ⟨_, rfl, ?_⟩
  have n0_ := Aside0.mk (Kd.R_lower (Kd.R_newM (M := fun k_ => (w.heap.size ≤ k_)) ho0 (below_size (by repeat (first | (with_reducible first | exact HB.out | apply below_alloc | apply pw_below_drewN | apply below_drew1 | refine below_set ?_ GE205.out | refine below_set ?_ GE206.out | refine below_set ?_ GE207.out) | exact HB.out))) (fun k_ h_ => h_)) (below_size (by repeat (first | (with_reducible first | exact HB.out | apply below_alloc | apply pw_below_drewN | apply below_drew1 | refine below_set ?_ GE205.out | refine below_set ?_ GE206.out | refine below_set ?_ GE207.out) | exact HB.out))))
  have n1_ := Aside0.mk (blk_below (g := gb205) (o := .cells #[.bool a0_0, .slice A0_1 l0_1.length c0_1] 25 (0, 0)) (by (with_reducible repeat (first | refine blk_drewN ?_ _ | refine blk_drew ?_ | refine blk_alloc ?_ _)); exact BK205.out) hb)
  have n2_ := Aside0.mk (blk_below (g := gb206) (o := .cells #[.bool a1_0, .slice A1_1 l1_1.length c1_1] 25 (0, 0)) (by (with_reducible repeat (first | refine blk_drewN ?_ _ | refine blk_drew ?_ | refine blk_alloc ?_ _)); exact BK206.out) hb)
  have n3_ := Aside0.mk (blk_below (g := gb207) (o := .cells #[.bool false, .slice none 0 0] 25 (0, 0)) (by (with_reducible repeat (first | refine blk_drewN ?_ _ | refine blk_drew ?_ | refine blk_alloc ?_ _)); exact BK207.out) hb)
  have n4_ := Aside0.mk (below_step (by repeat (first | (with_reducible first | exact HB.out | apply below_alloc | apply pw_below_drewN | apply below_drew1 | refine below_set ?_ GE205.out | refine below_set ?_ GE206.out | refine below_set ?_ GE207.out) | exact HB.out)) hb)
  clear BK205
  clear BK206
  clear BK207
  clear HB
  have HO210 := n0_
  have BK205 := n1_
  have BK206 := n2_
  have BK207 := n3_
  have HB := n4_
  clear n0_ n1_ n2_ n3_ n4_
  (try clear hb)
  (try clear hb2)
  (try clear hk)
  (try clear hi)
  (try clear ho0)
  obtain ⟨Ao16, co16, eo16⟩ := Kd.R_slice HO210.out
  (first | subst eo16 | (injection eo16 with f1_ f2_ f3_; have f4_ := f1_.symm; have f5_ := f3_.symm; clear f1_ f2_ f3_; subst f4_; subst f5_))
  refine hK.out _ _ ⟨(blk_cell BK205.out 0).trans rfl, (blk_cell BK205.out 1).trans rfl, (blk_cell BK206.out 0).trans rfl, (blk_cell BK206.out 1).trans rfl⟩ (fun hHeld => ?_)
  clear hK K
  refine norm_ (a' := ?_) ?_ ?_
  rotate_left
  ·
   show Act.put _ (some 17) _ = _
   simp only [Act.put, List.setIfInBounds_toArray, List.set_cons_zero, List.set_cons_succ, i64_w, i32_w]
   rfl
  refine one_ (i := 7) (N := some 18) #[true, true, true, true, true, true, true, true, false] rfl rfl (one_of HT_.out (by kernel_rfl)) (by decide) (fun K hK => ?_)
  refine goes_ Tryd.func45 (by kernel_rfl) rfl #[.bool a0_0, .slice Ao16 t208.length co16] (by rfl) rfl rfl (by (try simp only [List.map_toArray, List.map_cons, List.map_nil]); first | done | rfl | (simp only [List.length_drop, List.length_take]; rfl)) ?_
  with_reducible refine (integer_signed.calls k a0_0 (fun k_ => some k_ = (.slice Ao16 t208.length co16 : Value).ownBlock) _ _ t208 t211 t212 _ ?side1 A5.out).mono ?_
  (case side1 => exact Kd.R_V (Kd.R_tight rfl (Kd.R_types (Kd.R_types (Kd.R_types (HO210.out) BK205.out (by decide)) BK206.out (by decide)) BK207.out (by decide))))
  rintro e w17 ⟨v213, rfl, ho0, hb⟩
  refine ⟨_, rfl, ?_⟩
  have n0_ := Aside0.mk (Kd.R_below (by (with_reducible repeat (first | apply Kd.R_alloc | apply Kd.R_drewN | apply Kd.R_drew)); exact HO210.out) hb)
  have n1_ := Aside0.mk (Kd.V_lower (Kd.V_mono (ok' := fun k_ => (w.heap.size ≤ k_) ∧ k_ ≠ gb205 ∧ k_ ≠ gb206 ∧ k_ ≠ gb207) ho0 (fun k_ hk_ => ⟨Or.elim hk_ (fun hs_ => ((Kd.R_types (Kd.R_types (Kd.R_types (HO210.out) BK205.out (by decide)) BK206.out (by decide)) BK207.out (by decide)).1 k_ hs_.symm).1.1.1.1) (fun hn_ => (Nat.le_trans (below_size (by repeat (first | (with_reducible first | exact HB.out | apply below_alloc | apply pw_below_drewN | apply below_drew1 | refine below_set ?_ GE205.out | refine below_set ?_ GE206.out | refine below_set ?_ GE207.out) | exact HB.out))) hn_)), Or.elim hk_ (fun hs_ => ((Kd.R_types (Kd.R_types (Kd.R_types (HO210.out) BK205.out (by decide)) BK206.out (by decide)) BK207.out (by decide)).1 k_ hs_.symm).1.1.2) (fun hn_ => (Kd.freshB (g := gb205) (o := .cells #[.bool a0_0, .slice A0_1 l0_1.length c0_1] 25 (0, 0)) (by (with_reducible repeat (first | refine blk_drewN ?_ _ | refine blk_drew ?_ | refine blk_alloc ?_ _)); exact BK205.out) k_ hn_)), Or.elim hk_ (fun hs_ => ((Kd.R_types (Kd.R_types (Kd.R_types (HO210.out) BK205.out (by decide)) BK206.out (by decide)) BK207.out (by decide)).1 k_ hs_.symm).1.2) (fun hn_ => (Kd.freshB (g := gb206) (o := .cells #[.bool a1_0, .slice A1_1 l1_1.length c1_1] 25 (0, 0)) (by (with_reducible repeat (first | refine blk_drewN ?_ _ | refine blk_drew ?_ | refine blk_alloc ?_ _)); exact BK206.out) k_ hn_)), Or.elim hk_ (fun hs_ => ((Kd.R_types (Kd.R_types (Kd.R_types (HO210.out) BK205.out (by decide)) BK206.out (by decide)) BK207.out (by decide)).1 k_ hs_.symm).2) (fun hn_ => (Kd.freshB (g := gb207) (o := .cells #[.bool false, .slice none 0 0] 25 (0, 0)) (by (with_reducible repeat (first | refine blk_drewN ?_ _ | refine blk_drew ?_ | refine blk_alloc ?_ _)); exact BK207.out) k_ hn_))⟩)) (below_size (by repeat (first | (with_reducible first | exact HB.out | apply below_alloc | apply pw_below_drewN | apply below_drew1 | refine below_set ?_ GE205.out | refine below_set ?_ GE206.out | refine below_set ?_ GE207.out) | exact HB.out))))
  have n2_ := Aside0.mk (blk_below (g := gb205) (o := .cells #[.bool a0_0, .slice A0_1 l0_1.length c0_1] 25 (0, 0)) (by (with_reducible repeat (first | refine blk_drewN ?_ _ | refine blk_drew ?_ | refine blk_alloc ?_ _)); exact BK205.out) hb)
  have n3_ := Aside0.mk (blk_below (g := gb206) (o := .cells #[.bool a1_0, .slice A1_1 l1_1.length c1_1] 25 (0, 0)) (by (with_reducible repeat (first | refine blk_drewN ?_ _ | refine blk_drew ?_ | refine blk_alloc ?_ _)); exact BK206.out) hb)
  have n4_ := Aside0.mk (blk_below (g := gb207) (o := .cells #[.bool false, .slice none 0 0] 25 (0, 0)) (by (with_reducible repeat (first | refine blk_drewN ?_ _ | refine blk_drew ?_ | refine blk_alloc ?_ _)); exact BK207.out) hb)
  have n5_ := Aside0.mk (below_step (by repeat (first | (with_reducible first | exact HB.out | apply below_alloc | apply pw_below_drewN | apply below_drew1 | refine below_set ?_ GE205.out | refine below_set ?_ GE206.out | refine below_set ?_ GE207.out) | exact HB.out)) hb)
  clear HO210
  clear BK205
  clear BK206
  clear BK207
  clear HB
  have HO210 := n0_
  have HO214 := n1_
  have BK205 := n2_
  have BK206 := n3_
  have BK207 := n4_
  have HB := n5_
  clear n0_ n1_ n2_ n3_ n4_ n5_
  (try clear hb)
  (try clear hb2)
  (try clear hk)
  (try clear hi)
  (try clear ho0)
  obtain ⟨Ao19, co19, eo19⟩ := Kd.V_slice HO214.out
  (first | subst eo19 | (injection eo19 with f1_ f2_ f3_; have f4_ := f1_.symm; have f5_ := f3_.symm; clear f1_ f2_ f3_; subst f4_; subst f5_))
  refine hK.out _ _ ⟨(blk_cell BK205.out 0).trans rfl, (blk_cell BK205.out 1).trans rfl, (blk_cell BK206.out 0).trans rfl, (blk_cell BK206.out 1).trans rfl⟩ (fun hHeld => ?_)
  clear hK K
  refine norm_ (a' := ?_) ?_ ?_
  rotate_left
  ·
   show Act.put _ (some 18) _ = _
   simp only [Act.put, List.setIfInBounds_toArray, List.set_cons_zero, List.set_cons_succ, i64_w, i32_w]
   rfl
  refine one_ (i := 8) (N := none) #[true, true, true, true, true, true, true, true, true] rfl rfl (one_of HT_.out (by kernel_rfl)) (by decide) (fun K hK => ?_)
  have hs18 : w17.cell? ⟨gb207, 0, none⟩ = some (.bool false) := (blk_cell BK207.out 0).trans rfl
  have hfs18 := blk_frozen BK207.out 0
  have hns18_0 := NB205_207.out
  have hns18_1 := NB206_207.out
  have hms18_0 := NB207_205.out
  have hms18_1 := NB207_206.out
  have hs20 : w17.cell? ⟨gb207, 1, none⟩ = some (.slice none 0 0) := (blk_cell BK207.out 1).trans rfl
  have hfs20 := blk_frozen BK207.out 1
  have hns20_0 := NB205_207.out
  have hns20_1 := NB206_207.out
  have hms20_0 := NB207_205.out
  have hms20_1 := NB207_206.out
  refine skip_ (w1 := ?_) (by rfl) rfl ?_ ?_
  rotate_left
  ·
   go_simp
   rfl
  refine hK.out _ _ ⟨((cell_far (p := ⟨gb207, _, none⟩) NB205_207.out _).trans (((cell_far (p := ⟨gb207, _, none⟩) NB205_207.out _).trans (hHeld.1)))), ((cell_far (p := ⟨gb207, _, none⟩) NB205_207.out _).trans (((cell_far (p := ⟨gb207, _, none⟩) NB205_207.out _).trans (hHeld.2.1)))), ((cell_far (p := ⟨gb207, _, none⟩) NB206_207.out _).trans (((cell_far (p := ⟨gb207, _, none⟩) NB206_207.out _).trans (hHeld.2.2.1)))), ((cell_far (p := ⟨gb207, _, none⟩) NB206_207.out _).trans (((cell_far (p := ⟨gb207, _, none⟩) NB206_207.out _).trans (hHeld.2.2.2))))⟩ (fun hHeld => ?_)
  clear hK K
  refine done_ (done_of HT_.out (by kernel_rfl)) ?_
  try go_wp2
  refine bodyPost_ret (results_cell_row rfl _ _ gb207 25 #[.bool t211, .slice Ao19 t212.length co19] (0, 0) _ rfl (by (with_reducible repeat (first | refine blk_drewN ?_ _ | refine blk_drew ?_ | refine blk_alloc ?_ _)); refine blk_put (cs := #[.bool t211, .slice none 0 0]) ?_ 1 _ rfl; (with_reducible repeat (first | refine blk_drewN ?_ _ | refine blk_drew ?_ | refine blk_alloc ?_ _)); refine blk_put (cs := #[.bool false, .slice none 0 0]) ?_ 0 _ rfl; (with_reducible repeat (first | refine blk_drewN ?_ _ | refine blk_drew ?_ | refine blk_alloc ?_ _)); exact BK207.out) Tryd.underlying25 rfl (by kernel_rfl)) rfl ?_
  exact ⟨_, by first | rfl | (simp [errW_none, errW_some] <;> rfl) | (simp [*, errW_none, errW_some] <;> rfl), by (with_reducible repeat (first | apply Kd.V_alloc | apply Kd.V_drewN | apply Kd.V_drew)); exact Kd.V_mono (Kd.V_far (p := ⟨gb207, 1, none⟩) (Kd.V_far (p := ⟨gb207, 0, none⟩) (Kd.V_mono HO214.out (fun k_ hk => (⟨hk, hk.2.2.2⟩ : _ ∧ k_ ≠ gb207))) (fun _ hk => hk.2) (.bool t211)) (fun _ hk => hk.2) (.slice Ao19 t212.length co19)) (fun _ hk => hk.1.1), by repeat (first | (with_reducible first | exact HB.out | apply below_alloc | apply pw_below_drewN | apply below_drew1 | refine below_set ?_ GE205.out | refine below_set ?_ GE206.out | refine below_set ?_ GE207.out) | exact HB.out)⟩
 ·
  rw [if_neg c3] at H
  have c3b0 : (a0_0 == a1_0) = false := by simpa using c3
  (try (have c3b1 : decide (a0_0 = a1_0) = false := by simpa using c3))
  (try (have c3b2 : (a0_0 == a1_0) = false := by simpa using c3))
  (try (have c3b3 : ¬ (a0_0 = a1_0) := by simpa using c3))
  clear c3
  replace H := Option.bind_eq_some_iff.mp H
  obtain ⟨t215, A210, H⟩ := H
  replace H : (if t215 ≥ 0 then ((integer_minus.f k l0_1 l1_1).bind fun t216 => ((integer_signed.f k a0_0 t216).bind fun bt219 => (some (bt219.1, bt219.2)))) else ((integer_minus.f k l1_1 l0_1).bind fun t223 => ((integer_signed.f k a1_0 t223).bind fun bt226 => (some (bt226.1, bt226.2))))) = some (r1, r2) := H
  have A21 := Aside0.mk A210
  clear A210
  by_cases c22 : t215 ≥ 0
  ·
   rw [if_pos c22] at H
   have c22b0 : decide (0 ≤ t215) = true := decide_eq_true c22
   clear c22
   replace H := Option.bind_eq_some_iff.mp H
   obtain ⟨t216, A230, H⟩ := H
   replace H : ((integer_signed.f k a0_0 t216).bind fun bt219 => (some (bt219.1, bt219.2))) = some (r1, r2) := H
   have A23 := Aside0.mk A230
   clear A230
   replace H := Option.bind_eq_some_iff.mp H
   obtain ⟨⟨t219, t220⟩, A240, H⟩ := H
   replace H : (some (t219, t220)) = some (r1, r2) := H
   have A24 := Aside0.mk A240
   clear A240
   simp only [Option.some.injEq, Prod.mk.injEq] at H
   obtain ⟨rfl, rfl⟩ := H
   go_enter Tryd.func35, Tryd.ntmps35
   try go_wp2_with (first | ((with_reducible refine gate_dst (N := 2) rfl ?_); refine box_event ?hg (N := 2) ?hd (cs := #[.bool a0_0, .slice A0_1 l0_1.length c0_1]) (t := 25) ?hr ?_; (case hd => rfl); (case hg => rfl); (case hr => first | (go_simp; done) | (go_simp; rfl)); intro gb205 hg w25 hbox hb; have n0_ := Aside0.mk (below_step (by repeat (first | (with_reducible first | exact HB.out | apply below_alloc | apply pw_below_drewN | apply below_drew1) | exact HB.out)) hb); have n1_ := Aside0.mk (hbox); have n2_ := Aside0.mk ((by rw [hg]; exact (below_size (by repeat (first | (with_reducible first | exact HB.out | apply below_alloc | apply pw_below_drewN | apply below_drew1) | exact HB.out))) : w.heap.size ≤ gb205)); have n3_ := Aside0.mk ((by rw [hg]; exact (below_size (by repeat (first | (with_reducible first | exact HB.out | apply below_alloc | apply pw_below_drewN | apply below_drew1) | exact HB.out))) : w.heap.size ≤ gb205)); clear HB; have HB := n0_; have BK205 := n1_; have GW205 := n2_; have GE205 := n3_; clear n0_ n1_ n2_ n3_; clear hb hbox hg) | ((with_reducible refine gate_dst (N := 3) rfl ?_); refine box_event ?hg (N := 3) ?hd (cs := #[.bool a1_0, .slice A1_1 l1_1.length c1_1]) (t := 25) ?hr ?_; (case hd => rfl); (case hg => rfl); (case hr => first | (go_simp; done) | (go_simp; rfl)); intro gb206 hg w26 hbox hb; have n0_ := Aside0.mk (blk_below (g := gb205) (o := .cells #[.bool a0_0, .slice A0_1 l0_1.length c0_1] 25 (0, 0)) (by (with_reducible repeat (first | refine blk_drewN ?_ _ | refine blk_drew ?_ | refine blk_alloc ?_ _)); exact BK205.out) hb); have n1_ := Aside0.mk (below_step (by repeat (first | (with_reducible first | exact HB.out | apply below_alloc | apply pw_below_drewN | apply below_drew1 | refine below_set ?_ GE205.out) | exact HB.out)) hb); have n2_ := Aside0.mk (hbox); have n3_ := Aside0.mk ((by rw [hg]; exact (below_size (by repeat (first | (with_reducible first | exact HB.out | apply below_alloc | apply pw_below_drewN | apply below_drew1 | refine below_set ?_ GE205.out) | exact HB.out))) : w.heap.size ≤ gb206)); have n4_ := Aside0.mk ((by rw [hg]; exact (below_size (by repeat (first | (with_reducible first | exact HB.out | apply below_alloc | apply pw_below_drewN | apply below_drew1 | refine below_set ?_ GE205.out) | exact HB.out))) : w.heap.size ≤ gb206)); have n5_ := Aside0.mk ((by rw [hg]; exact Nat.ne_of_lt (blk_lt (g := gb205) (o := .cells #[.bool a0_0, .slice A0_1 l0_1.length c0_1] 25 (0, 0)) (by (with_reducible repeat (first | refine blk_drewN ?_ _ | refine blk_drew ?_ | refine blk_alloc ?_ _)); exact BK205.out)) : gb205 ≠ gb206)); have n6_ := Aside0.mk ((by rw [hg]; exact Nat.ne_of_gt (blk_lt (g := gb205) (o := .cells #[.bool a0_0, .slice A0_1 l0_1.length c0_1] 25 (0, 0)) (by (with_reducible repeat (first | refine blk_drewN ?_ _ | refine blk_drew ?_ | refine blk_alloc ?_ _)); exact BK205.out)) : gb206 ≠ gb205)); clear BK205; clear HB; have BK205 := n0_; have HB := n1_; have BK206 := n2_; have GW206 := n3_; have GE206 := n4_; have NB205_206 := n5_; have NB206_205 := n6_; clear n0_ n1_ n2_ n3_ n4_ n5_ n6_; clear hb hbox hg) | ((with_reducible refine gate_dst (N := 4) rfl ?_); refine box_event ?hg (N := 4) ?hd (cs := #[.bool false, .slice none 0 0]) (t := 25) ?hr ?_; (case hd => rfl); (case hg => rfl); (case hr => first | (go_simp; done) | (go_simp; rfl)); intro gb207 hg w27 hbox hb; have n0_ := Aside0.mk (blk_below (g := gb205) (o := .cells #[.bool a0_0, .slice A0_1 l0_1.length c0_1] 25 (0, 0)) (by (with_reducible repeat (first | refine blk_drewN ?_ _ | refine blk_drew ?_ | refine blk_alloc ?_ _)); exact BK205.out) hb); have n1_ := Aside0.mk (blk_below (g := gb206) (o := .cells #[.bool a1_0, .slice A1_1 l1_1.length c1_1] 25 (0, 0)) (by (with_reducible repeat (first | refine blk_drewN ?_ _ | refine blk_drew ?_ | refine blk_alloc ?_ _)); exact BK206.out) hb); have n2_ := Aside0.mk (below_step (by repeat (first | (with_reducible first | exact HB.out | apply below_alloc | apply pw_below_drewN | apply below_drew1 | refine below_set ?_ GE205.out | refine below_set ?_ GE206.out) | exact HB.out)) hb); have n3_ := Aside0.mk (hbox); have n4_ := Aside0.mk ((by rw [hg]; exact (below_size (by repeat (first | (with_reducible first | exact HB.out | apply below_alloc | apply pw_below_drewN | apply below_drew1 | refine below_set ?_ GE205.out | refine below_set ?_ GE206.out) | exact HB.out))) : w.heap.size ≤ gb207)); have n5_ := Aside0.mk ((by rw [hg]; exact (below_size (by repeat (first | (with_reducible first | exact HB.out | apply below_alloc | apply pw_below_drewN | apply below_drew1 | refine below_set ?_ GE205.out | refine below_set ?_ GE206.out) | exact HB.out))) : w.heap.size ≤ gb207)); have n6_ := Aside0.mk ((by rw [hg]; exact Nat.ne_of_lt (blk_lt (g := gb205) (o := .cells #[.bool a0_0, .slice A0_1 l0_1.length c0_1] 25 (0, 0)) (by (with_reducible repeat (first | refine blk_drewN ?_ _ | refine blk_drew ?_ | refine blk_alloc ?_ _)); exact BK205.out)) : gb205 ≠ gb207)); have n7_ := Aside0.mk ((by rw [hg]; exact Nat.ne_of_gt (blk_lt (g := gb205) (o := .cells #[.bool a0_0, .slice A0_1 l0_1.length c0_1] 25 (0, 0)) (by (with_reducible repeat (first | refine blk_drewN ?_ _ | refine blk_drew ?_ | refine blk_alloc ?_ _)); exact BK205.out)) : gb207 ≠ gb205)); have n8_ := Aside0.mk ((by rw [hg]; exact Nat.ne_of_lt (blk_lt (g := gb206) (o := .cells #[.bool a1_0, .slice A1_1 l1_1.length c1_1] 25 (0, 0)) (by (with_reducible repeat (first | refine blk_drewN ?_ _ | refine blk_drew ?_ | refine blk_alloc ?_ _)); exact BK206.out)) : gb206 ≠ gb207)); have n9_ := Aside0.mk ((by rw [hg]; exact Nat.ne_of_gt (blk_lt (g := gb206) (o := .cells #[.bool a1_0, .slice A1_1 l1_1.length c1_1] 25 (0, 0)) (by (with_reducible repeat (first | refine blk_drewN ?_ _ | refine blk_drew ?_ | refine blk_alloc ?_ _)); exact BK206.out)) : gb207 ≠ gb206)); clear BK205; clear BK206; clear HB; have BK205 := n0_; have BK206 := n1_; have HB := n2_; have BK207 := n3_; have GW207 := n4_; have GE207 := n5_; have NB205_207 := n6_; have NB207_205 := n7_; have NB206_207 := n8_; have NB207_206 := n9_; clear n0_ n1_ n2_ n3_ n4_ n5_ n6_ n7_ n8_ n9_; clear hb hbox hg; have hnb28 := NB205_206.out; have hnc28 := NB206_205.out; have hnb29 := NB205_207.out; have hnc29 := NB207_205.out; have hcz30_0 : w27.cell? ⟨gb205, 0, none⟩ = some (.bool a0_0) := (blk_cell BK205.out 0).trans rfl; have hcz30_1 : w27.cell? ⟨gb205, 1, none⟩ = some (.slice A0_1 l0_1.length c0_1) := (blk_cell BK205.out 1).trans rfl; have hfz30_0 := blk_frozen BK205.out 0; have hfz30_1 := blk_frozen BK205.out 1; have hnb31 := NB206_207.out; have hnc31 := NB207_206.out; have hcz32_0 : w27.cell? ⟨gb206, 0, none⟩ = some (.bool a1_0) := (blk_cell BK206.out 0).trans rfl; have hcz32_1 : w27.cell? ⟨gb206, 1, none⟩ = some (.slice A1_1 l1_1.length c1_1) := (blk_cell BK206.out 1).trans rfl; have hfz32_0 := blk_frozen BK206.out 0; have hfz32_1 := blk_frozen BK206.out 1) | ((with_reducible refine gate_callee (f := 52) rfl ?_); refine goesL_ (some 24) rfl rfl Tryd.func52 (by kernel_rfl) rfl #[.slice A0_1 l0_1.length c0_1, .slice A1_1 l1_1.length c1_1] rfl (by (try simp only [List.map_toArray, List.map_cons, List.map_nil]); first | done | rfl | (simp only [List.length_drop, List.length_take]; rfl)) ?_; (with_reducible refine (integer_order.calls k _ _ l0_1 _ _ l1_1 t215 _ ?side1 ?side2 ?side3 ?side4 A21.out).mono ?_); (case side1 => repeat (first | exact (Kd.C_below HR0_1.out HB.out) | (with_reducible refine Kd.C_alloc ?_ _) | (with_reducible refine Kd.C_drewN ?_ _) | (with_reducible refine Kd.C_drew ?_))); (case side2 => exact HC0_1.out); (case side3 => repeat (first | exact (Kd.C_below HR1_1.out HB.out) | (with_reducible refine Kd.C_alloc ?_ _) | (with_reducible refine Kd.C_drewN ?_ _) | (with_reducible refine Kd.C_drew ?_))); (case side4 => exact HC1_1.out); rintro e w' ⟨rfl, ⟨nd, rfl⟩⟩; refine ⟨_, rfl, ?_⟩; (try (rw [drewN_self w27]; generalize hq_ : World.drewN w27 _ = w27; have n0_ : Aside0 (w27.heap[gb205]? = some (.cells #[.bool a0_0, .slice A0_1 l0_1.length c0_1] 25 (0, 0))) := ⟨by rw [← hq_]; exact (by (with_reducible repeat (first | refine blk_drewN ?_ _ | refine blk_drew ?_ | refine blk_alloc ?_ _)); exact BK205.out)⟩; have n1_ : Aside0 (w27.heap[gb206]? = some (.cells #[.bool a1_0, .slice A1_1 l1_1.length c1_1] 25 (0, 0))) := ⟨by rw [← hq_]; exact (by (with_reducible repeat (first | refine blk_drewN ?_ _ | refine blk_drew ?_ | refine blk_alloc ?_ _)); exact BK206.out)⟩; have n2_ : Aside0 (w27.heap[gb207]? = some (.cells #[.bool false, .slice none 0 0] 25 (0, 0))) := ⟨by rw [← hq_]; exact (by (with_reducible repeat (first | refine blk_drewN ?_ _ | refine blk_drew ?_ | refine blk_alloc ?_ _)); exact BK207.out)⟩; have n3_ : Aside0 (Below w.heap.size w w27) := ⟨by rw [← hq_]; exact (by repeat (first | (with_reducible first | exact HB.out | apply below_alloc | apply pw_below_drewN | apply below_drew1 | refine below_set ?_ GE205.out | refine below_set ?_ GE206.out | refine below_set ?_ GE207.out) | exact HB.out))⟩; clear BK205 BK206 BK207 HB hq_; have BK205 := n0_; have BK206 := n1_; have BK207 := n2_; have HB := n3_; clear n0_ n1_ n2_ n3_))))
   have n0_ := Aside0.mk (blk_drew BK205.out)
   have n1_ := Aside0.mk (blk_drew BK206.out)
   have n2_ := Aside0.mk (blk_drew BK207.out)
   have n3_ := Aside0.mk (below_drew1 HB.out)
   clear BK205
   clear BK206
   clear BK207
   clear HB
   have BK205 := n0_
   have BK206 := n1_
   have BK207 := n2_
   have HB := n3_
   clear n0_ n1_ n2_ n3_
   refine start_ (n := 9) (S := fun w' => w'.cell? ⟨gb205, 0, none⟩ = some (.bool a0_0) ∧ w'.cell? ⟨gb205, 1, none⟩ = some (.slice A0_1 l0_1.length c0_1) ∧ w'.cell? ⟨gb206, 0, none⟩ = some (.bool a1_0) ∧ w'.cell? ⟨gb206, 1, none⟩ = some (.slice A1_1 l1_1.length c1_1)) (ds := []) #[false, false, false, false, false, false, false, false, false] (by kernel_rfl) rfl rfl ⟨(blk_cell BK205.out 0).trans rfl, (blk_cell BK205.out 1).trans rfl, (blk_cell BK206.out 0).trans rfl, (blk_cell BK206.out 1).trans rfl⟩ (fun hHeld => ?_); refine with_tabW integer_Add.tab4 integer_Add.bits4 (fun HT_ HW_ => ?_)
   generalize w27.drew = w33 at BK205 BK206 BK207 HB hHeld ⊢
   refine pure_ (i := 0) (N := some 26) (v := ?_) (a' := ?_) #[true, false, false, false, false, false, false, false, false] rfl rfl (any_of HT_.out (by kernel_rfl)) (fun _ _ _ h => h) (Or.inl ⟨by rfl, ?_⟩) ?_ ?_
   rotate_left
   ·
    intro w'
    go_simp
    with_reducible rfl
   rotate_left
   ·
    simp only [Act.put, List.setIfInBounds_toArray, List.set_cons_zero, List.set_cons_succ, i64_w, i32_w]
    rfl
   refine pure_ (i := 2) (N := some 28) (v := ?_) (a' := ?_) #[true, false, true, false, false, false, false, false, false] rfl rfl (any_of HT_.out (by kernel_rfl)) (fun _ _ _ h => h) (Or.inl ⟨by rfl, ?_⟩) ?_ ?_
   rotate_left
   ·
    intro w'
    go_simp
    with_reducible rfl
   rotate_left
   ·
    simp only [Act.put, List.setIfInBounds_toArray, List.set_cons_zero, List.set_cons_succ, i64_w, i32_w]
    rfl
   refine pure_ (i := 4) (N := some 30) (v := ?_) (a' := ?_) #[true, false, true, false, true, false, false, false, false] rfl rfl (any_of HT_.out (by kernel_rfl)) (fun _ _ _ h => h) (Or.inl ⟨by rfl, ?_⟩) ?_ ?_
   rotate_left
   ·
    intro w'
    go_simp
    with_reducible rfl
   rotate_left
   ·
    simp only [Act.put, List.setIfInBounds_toArray, List.set_cons_zero, List.set_cons_succ, i64_w, i32_w]
    rfl
   refine take_ (i := 1) (N := some 27) (v := ?_) (a' := ?_) #[true, true, true, false, true, false, false, false, false] rfl rfl (take_ofW HT_.out HW_.out (by kernel_rfl)) (fun _ _ _ h => h) (Or.inl ⟨by rfl, ?_⟩) hHeld ?_ ?_
   rotate_left
   ·
    rintro w' ⟨s0, s1, s2, s3⟩
    go_simp
    with_reducible rfl
   rotate_left
   ·
    simp only [Act.put, List.setIfInBounds_toArray, List.set_cons_zero, List.set_cons_succ, i64_w, i32_w]
    rfl
   refine take_ (i := 3) (N := some 29) (v := ?_) (a' := ?_) #[true, true, true, true, true, false, false, false, false] rfl rfl (take_ofW HT_.out HW_.out (by kernel_rfl)) (fun _ _ _ h => h) (Or.inl ⟨by rfl, ?_⟩) hHeld ?_ ?_
   rotate_left
   ·
    rintro w' ⟨s0, s1, s2, s3⟩
    go_simp
    with_reducible rfl
   rotate_left
   ·
    simp only [Act.put, List.setIfInBounds_toArray, List.set_cons_zero, List.set_cons_succ, i64_w, i32_w]
    rfl
   refine take_ (i := 5) (N := some 31) (v := ?_) (a' := ?_) #[true, true, true, true, true, true, false, false, false] rfl rfl (take_ofW HT_.out HW_.out (by kernel_rfl)) (fun _ _ _ h => h) (Or.inl ⟨by rfl, ?_⟩) hHeld ?_ ?_
   rotate_left
   ·
    rintro w' ⟨s0, s1, s2, s3⟩
    go_simp
    with_reducible rfl
   rotate_left
   ·
    simp only [Act.put, List.setIfInBounds_toArray, List.set_cons_zero, List.set_cons_succ, i64_w, i32_w]
    rfl
   refine one_ (i := 6) (N := some 32) #[true, true, true, true, true, true, true, false, false] rfl rfl (one_of HT_.out (by kernel_rfl)) (by decide) (fun K hK => ?_)
   refine goes_ Tryd.func64 (by kernel_rfl) rfl #[.slice A0_1 l0_1.length c0_1, .slice A1_1 l1_1.length c1_1] (by rfl) rfl rfl (by (try simp only [List.map_toArray, List.map_cons, List.map_nil]); first | done | rfl | (simp only [List.length_drop, List.length_take]; rfl)) ?_
   with_reducible refine (integer_minus.calls k _ _ l0_1 _ _ l1_1 t216 _ ?side1 ?side2 ?side3 ?side4 A23.out).mono ?_
   (case side1 => repeat (first | exact (Kd.C_below HR0_1.out HB.out) | (with_reducible refine Kd.C_alloc ?_ _) | (with_reducible refine Kd.C_drewN ?_ _) | (with_reducible refine Kd.C_drew ?_)))
   (case side2 => exact HC0_1.out)
   (case side3 => repeat (first | exact (Kd.C_below HR1_1.out HB.out) | (with_reducible refine Kd.C_alloc ?_ _) | (with_reducible refine Kd.C_drewN ?_ _) | (with_reducible refine Kd.C_drew ?_)))
   (case side4 => exact HC1_1.out)
   rintro e w34 ⟨v217, rfl, ho0, hb⟩
   refine ⟨_, rfl, ?_⟩
   have n0_ := Aside0.mk (Kd.R_lower (Kd.R_newM (M := fun k_ => (w.heap.size ≤ k_)) ho0 (below_size (by repeat (first | (with_reducible first | exact HB.out | apply below_alloc | apply pw_below_drewN | apply below_drew1 | refine below_set ?_ GE205.out | refine below_set ?_ GE206.out | refine below_set ?_ GE207.out) | exact HB.out))) (fun k_ h_ => h_)) (below_size (by repeat (first | (with_reducible first | exact HB.out | apply below_alloc | apply pw_below_drewN | apply below_drew1 | refine below_set ?_ GE205.out | refine below_set ?_ GE206.out | refine below_set ?_ GE207.out) | exact HB.out))))
   have n1_ := Aside0.mk (blk_below (g := gb205) (o := .cells #[.bool a0_0, .slice A0_1 l0_1.length c0_1] 25 (0, 0)) (by (with_reducible repeat (first | refine blk_drewN ?_ _ | refine blk_drew ?_ | refine blk_alloc ?_ _)); exact BK205.out) hb)
   have n2_ := Aside0.mk (blk_below (g := gb206) (o := .cells #[.bool a1_0, .slice A1_1 l1_1.length c1_1] 25 (0, 0)) (by (with_reducible repeat (first | refine blk_drewN ?_ _ | refine blk_drew ?_ | refine blk_alloc ?_ _)); exact BK206.out) hb)
   have n3_ := Aside0.mk (blk_below (g := gb207) (o := .cells #[.bool false, .slice none 0 0] 25 (0, 0)) (by (with_reducible repeat (first | refine blk_drewN ?_ _ | refine blk_drew ?_ | refine blk_alloc ?_ _)); exact BK207.out) hb)
   have n4_ := Aside0.mk (below_step (by repeat (first | (with_reducible first | exact HB.out | apply below_alloc | apply pw_below_drewN | apply below_drew1 | refine below_set ?_ GE205.out | refine below_set ?_ GE206.out | refine below_set ?_ GE207.out) | exact HB.out)) hb)
   clear BK205
   clear BK206
   clear BK207
   clear HB
   have HO218 := n0_
   have BK205 := n1_
   have BK206 := n2_
   have BK207 := n3_
   have HB := n4_
   clear n0_ n1_ n2_ n3_ n4_
   (try clear hb)
   (try clear hb2)
   (try clear hk)
   (try clear hi)
   (try clear ho0)
   obtain ⟨Ao35, co35, eo35⟩ := Kd.R_slice HO218.out
   (first | subst eo35 | (injection eo35 with f1_ f2_ f3_; have f4_ := f1_.symm; have f5_ := f3_.symm; clear f1_ f2_ f3_; subst f4_; subst f5_))
   refine hK.out _ _ ⟨(blk_cell BK205.out 0).trans rfl, (blk_cell BK205.out 1).trans rfl, (blk_cell BK206.out 0).trans rfl, (blk_cell BK206.out 1).trans rfl⟩ (fun hHeld => ?_)
   clear hK K
   refine norm_ (a' := ?_) ?_ ?_
   rotate_left
   ·
    show Act.put _ (some 32) _ = _
    simp only [Act.put, List.setIfInBounds_toArray, List.set_cons_zero, List.set_cons_succ, i64_w, i32_w]
    rfl
   refine one_ (i := 7) (N := some 33) #[true, true, true, true, true, true, true, true, false] rfl rfl (one_of HT_.out (by kernel_rfl)) (by decide) (fun K hK => ?_)
   refine goes_ Tryd.func45 (by kernel_rfl) rfl #[.bool a0_0, .slice Ao35 t216.length co35] (by rfl) rfl rfl (by (try simp only [List.map_toArray, List.map_cons, List.map_nil]); first | done | rfl | (simp only [List.length_drop, List.length_take]; rfl)) ?_
   with_reducible refine (integer_signed.calls k a0_0 (fun k_ => some k_ = (.slice Ao35 t216.length co35 : Value).ownBlock) _ _ t216 t219 t220 _ ?side1 A24.out).mono ?_
   (case side1 => exact Kd.R_V (Kd.R_tight rfl (Kd.R_types (Kd.R_types (Kd.R_types (HO218.out) BK205.out (by decide)) BK206.out (by decide)) BK207.out (by decide))))
   rintro e w36 ⟨v221, rfl, ho0, hb⟩
   refine ⟨_, rfl, ?_⟩
   have n0_ := Aside0.mk (Kd.R_below (by (with_reducible repeat (first | apply Kd.R_alloc | apply Kd.R_drewN | apply Kd.R_drew)); exact HO218.out) hb)
   have n1_ := Aside0.mk (Kd.V_lower (Kd.V_mono (ok' := fun k_ => (w.heap.size ≤ k_) ∧ k_ ≠ gb205 ∧ k_ ≠ gb206 ∧ k_ ≠ gb207) ho0 (fun k_ hk_ => ⟨Or.elim hk_ (fun hs_ => ((Kd.R_types (Kd.R_types (Kd.R_types (HO218.out) BK205.out (by decide)) BK206.out (by decide)) BK207.out (by decide)).1 k_ hs_.symm).1.1.1.1) (fun hn_ => (Nat.le_trans (below_size (by repeat (first | (with_reducible first | exact HB.out | apply below_alloc | apply pw_below_drewN | apply below_drew1 | refine below_set ?_ GE205.out | refine below_set ?_ GE206.out | refine below_set ?_ GE207.out) | exact HB.out))) hn_)), Or.elim hk_ (fun hs_ => ((Kd.R_types (Kd.R_types (Kd.R_types (HO218.out) BK205.out (by decide)) BK206.out (by decide)) BK207.out (by decide)).1 k_ hs_.symm).1.1.2) (fun hn_ => (Kd.freshB (g := gb205) (o := .cells #[.bool a0_0, .slice A0_1 l0_1.length c0_1] 25 (0, 0)) (by (with_reducible repeat (first | refine blk_drewN ?_ _ | refine blk_drew ?_ | refine blk_alloc ?_ _)); exact BK205.out) k_ hn_)), Or.elim hk_ (fun hs_ => ((Kd.R_types (Kd.R_types (Kd.R_types (HO218.out) BK205.out (by decide)) BK206.out (by decide)) BK207.out (by decide)).1 k_ hs_.symm).1.2) (fun hn_ => (Kd.freshB (g := gb206) (o := .cells #[.bool a1_0, .slice A1_1 l1_1.length c1_1] 25 (0, 0)) (by (with_reducible repeat (first | refine blk_drewN ?_ _ | refine blk_drew ?_ | refine blk_alloc ?_ _)); exact BK206.out) k_ hn_)), Or.elim hk_ (fun hs_ => ((Kd.R_types (Kd.R_types (Kd.R_types (HO218.out) BK205.out (by decide)) BK206.out (by decide)) BK207.out (by decide)).1 k_ hs_.symm).2) (fun hn_ => (Kd.freshB (g := gb207) (o := .cells #[.bool false, .slice none 0 0] 25 (0, 0)) (by (with_reducible repeat (first | refine blk_drewN ?_ _ | refine blk_drew ?_ | refine blk_alloc ?_ _)); exact BK207.out) k_ hn_))⟩)) (below_size (by repeat (first | (with_reducible first | exact HB.out | apply below_alloc | apply pw_below_drewN | apply below_drew1 | refine below_set ?_ GE205.out | refine below_set ?_ GE206.out | refine below_set ?_ GE207.out) | exact HB.out))))
   have n2_ := Aside0.mk (blk_below (g := gb205) (o := .cells #[.bool a0_0, .slice A0_1 l0_1.length c0_1] 25 (0, 0)) (by (with_reducible repeat (first | refine blk_drewN ?_ _ | refine blk_drew ?_ | refine blk_alloc ?_ _)); exact BK205.out) hb)
   have n3_ := Aside0.mk (blk_below (g := gb206) (o := .cells #[.bool a1_0, .slice A1_1 l1_1.length c1_1] 25 (0, 0)) (by (with_reducible repeat (first | refine blk_drewN ?_ _ | refine blk_drew ?_ | refine blk_alloc ?_ _)); exact BK206.out) hb)
   have n4_ := Aside0.mk (blk_below (g := gb207) (o := .cells #[.bool false, .slice none 0 0] 25 (0, 0)) (by (with_reducible repeat (first | refine blk_drewN ?_ _ | refine blk_drew ?_ | refine blk_alloc ?_ _)); exact BK207.out) hb)
   have n5_ := Aside0.mk (below_step (by repeat (first | (with_reducible first | exact HB.out | apply below_alloc | apply pw_below_drewN | apply below_drew1 | refine below_set ?_ GE205.out | refine below_set ?_ GE206.out | refine below_set ?_ GE207.out) | exact HB.out)) hb)
   clear HO218
   clear BK205
   clear BK206
   clear BK207
   clear HB
   have HO218 := n0_
   have HO222 := n1_
   have BK205 := n2_
   have BK206 := n3_
   have BK207 := n4_
   have HB := n5_
   clear n0_ n1_ n2_ n3_ n4_ n5_
   (try clear hb)
   (try clear hb2)
   (try clear hk)
   (try clear hi)
   (try clear ho0)
   obtain ⟨Ao38, co38, eo38⟩ := Kd.V_slice HO222.out
   (first | subst eo38 | (injection eo38 with f1_ f2_ f3_; have f4_ := f1_.symm; have f5_ := f3_.symm; clear f1_ f2_ f3_; subst f4_; subst f5_))
   refine hK.out _ _ ⟨(blk_cell BK205.out 0).trans rfl, (blk_cell BK205.out 1).trans rfl, (blk_cell BK206.out 0).trans rfl, (blk_cell BK206.out 1).trans rfl⟩ (fun hHeld => ?_)
   clear hK K
   refine norm_ (a' := ?_) ?_ ?_
   rotate_left
   ·
    show Act.put _ (some 33) _ = _
    simp only [Act.put, List.setIfInBounds_toArray, List.set_cons_zero, List.set_cons_succ, i64_w, i32_w]
    rfl
   refine one_ (i := 8) (N := none) #[true, true, true, true, true, true, true, true, true] rfl rfl (one_of HT_.out (by kernel_rfl)) (by decide) (fun K hK => ?_)
   have hs37 : w36.cell? ⟨gb207, 0, none⟩ = some (.bool false) := (blk_cell BK207.out 0).trans rfl
   have hfs37 := blk_frozen BK207.out 0
   have hns37_0 := NB205_207.out
   have hns37_1 := NB206_207.out
   have hms37_0 := NB207_205.out
   have hms37_1 := NB207_206.out
   have hs39 : w36.cell? ⟨gb207, 1, none⟩ = some (.slice none 0 0) := (blk_cell BK207.out 1).trans rfl
   have hfs39 := blk_frozen BK207.out 1
   have hns39_0 := NB205_207.out
   have hns39_1 := NB206_207.out
   have hms39_0 := NB207_205.out
   have hms39_1 := NB207_206.out
   refine skip_ (w1 := ?_) (by rfl) rfl ?_ ?_
   rotate_left
   ·
    go_simp
    rfl
   refine hK.out _ _ ⟨((cell_far (p := ⟨gb207, _, none⟩) NB205_207.out _).trans (((cell_far (p := ⟨gb207, _, none⟩) NB205_207.out _).trans (hHeld.1)))), ((cell_far (p := ⟨gb207, _, none⟩) NB205_207.out _).trans (((cell_far (p := ⟨gb207, _, none⟩) NB205_207.out _).trans (hHeld.2.1)))), ((cell_far (p := ⟨gb207, _, none⟩) NB206_207.out _).trans (((cell_far (p := ⟨gb207, _, none⟩) NB206_207.out _).trans (hHeld.2.2.1)))), ((cell_far (p := ⟨gb207, _, none⟩) NB206_207.out _).trans (((cell_far (p := ⟨gb207, _, none⟩) NB206_207.out _).trans (hHeld.2.2.2))))⟩ (fun hHeld => ?_)
   clear hK K
   refine done_ (done_of HT_.out (by kernel_rfl)) ?_
   try go_wp2
   refine bodyPost_ret (results_cell_row rfl _ _ gb207 25 #[.bool t219, .slice Ao38 t220.length co38] (0, 0) _ rfl (by (with_reducible repeat (first | refine blk_drewN ?_ _ | refine blk_drew ?_ | refine blk_alloc ?_ _)); refine blk_put (cs := #[.bool t219, .slice none 0 0]) ?_ 1 _ rfl; (with_reducible repeat (first | refine blk_drewN ?_ _ | refine blk_drew ?_ | refine blk_alloc ?_ _)); refine blk_put (cs := #[.bool false, .slice none 0 0]) ?_ 0 _ rfl; (with_reducible repeat (first | refine blk_drewN ?_ _ | refine blk_drew ?_ | refine blk_alloc ?_ _)); exact BK207.out) Tryd.underlying25 rfl (by kernel_rfl)) rfl ?_
   exact ⟨_, by first | rfl | (simp [errW_none, errW_some] <;> rfl) | (simp [*, errW_none, errW_some] <;> rfl), by (with_reducible repeat (first | apply Kd.V_alloc | apply Kd.V_drewN | apply Kd.V_drew)); exact Kd.V_mono (Kd.V_far (p := ⟨gb207, 1, none⟩) (Kd.V_far (p := ⟨gb207, 0, none⟩) (Kd.V_mono HO222.out (fun k_ hk => (⟨hk, hk.2.2.2⟩ : _ ∧ k_ ≠ gb207))) (fun _ hk => hk.2) (.bool t219)) (fun _ hk => hk.2) (.slice Ao38 t220.length co38)) (fun _ hk => hk.1.1), by repeat (first | (with_reducible first | exact HB.out | apply below_alloc | apply pw_below_drewN | apply below_drew1 | refine below_set ?_ GE205.out | refine below_set ?_ GE206.out | refine below_set ?_ GE207.out) | exact HB.out)⟩
  ·
   rw [if_neg c22] at H
   have c22b0 : decide (0 ≤ t215) = false := decide_eq_false c22
   clear c22
   replace H := Option.bind_eq_some_iff.mp H
   obtain ⟨t223, A400, H⟩ := H
   replace H : ((integer_signed.f k a1_0 t223).bind fun bt226 => (some (bt226.1, bt226.2))) = some (r1, r2) := H
   have A40 := Aside0.mk A400
   clear A400
   replace H := Option.bind_eq_some_iff.mp H
   obtain ⟨⟨t226, t227⟩, A410, H⟩ := H
   replace H : (some (t226, t227)) = some (r1, r2) := H
   have A41 := Aside0.mk A410
   clear A410
   simp only [Option.some.injEq, Prod.mk.injEq] at H
   obtain ⟨rfl, rfl⟩ := H
   go_enter Tryd.func35, Tryd.ntmps35
   try go_wp2_with (first | ((with_reducible refine gate_dst (N := 2) rfl ?_); refine box_event ?hg (N := 2) ?hd (cs := #[.bool a0_0, .slice A0_1 l0_1.length c0_1]) (t := 25) ?hr ?_; (case hd => rfl); (case hg => rfl); (case hr => first | (go_simp; done) | (go_simp; rfl)); intro gb205 hg w42 hbox hb; have n0_ := Aside0.mk (below_step (by repeat (first | (with_reducible first | exact HB.out | apply below_alloc | apply pw_below_drewN | apply below_drew1) | exact HB.out)) hb); have n1_ := Aside0.mk (hbox); have n2_ := Aside0.mk ((by rw [hg]; exact (below_size (by repeat (first | (with_reducible first | exact HB.out | apply below_alloc | apply pw_below_drewN | apply below_drew1) | exact HB.out))) : w.heap.size ≤ gb205)); have n3_ := Aside0.mk ((by rw [hg]; exact (below_size (by repeat (first | (with_reducible first | exact HB.out | apply below_alloc | apply pw_below_drewN | apply below_drew1) | exact HB.out))) : w.heap.size ≤ gb205)); clear HB; have HB := n0_; have BK205 := n1_; have GW205 := n2_; have GE205 := n3_; clear n0_ n1_ n2_ n3_; clear hb hbox hg) | ((with_reducible refine gate_dst (N := 3) rfl ?_); refine box_event ?hg (N := 3) ?hd (cs := #[.bool a1_0, .slice A1_1 l1_1.length c1_1]) (t := 25) ?hr ?_; (case hd => rfl); (case hg => rfl); (case hr => first | (go_simp; done) | (go_simp; rfl)); intro gb206 hg w43 hbox hb; have n0_ := Aside0.mk (blk_below (g := gb205) (o := .cells #[.bool a0_0, .slice A0_1 l0_1.length c0_1] 25 (0, 0)) (by (with_reducible repeat (first | refine blk_drewN ?_ _ | refine blk_drew ?_ | refine blk_alloc ?_ _)); exact BK205.out) hb); have n1_ := Aside0.mk (below_step (by repeat (first | (with_reducible first | exact HB.out | apply below_alloc | apply pw_below_drewN | apply below_drew1 | refine below_set ?_ GE205.out) | exact HB.out)) hb); have n2_ := Aside0.mk (hbox); have n3_ := Aside0.mk ((by rw [hg]; exact (below_size (by repeat (first | (with_reducible first | exact HB.out | apply below_alloc | apply pw_below_drewN | apply below_drew1 | refine below_set ?_ GE205.out) | exact HB.out))) : w.heap.size ≤ gb206)); have n4_ := Aside0.mk ((by rw [hg]; exact (below_size (by repeat (first | (with_reducible first | exact HB.out | apply below_alloc | apply pw_below_drewN | apply below_drew1 | refine below_set ?_ GE205.out) | exact HB.out))) : w.heap.size ≤ gb206)); have n5_ := Aside0.mk ((by rw [hg]; exact Nat.ne_of_lt (blk_lt (g := gb205) (o := .cells #[.bool a0_0, .slice A0_1 l0_1.length c0_1] 25 (0, 0)) (by (with_reducible repeat (first | refine blk_drewN ?_ _ | refine blk_drew ?_ | refine blk_alloc ?_ _)); exact BK205.out)) : gb205 ≠ gb206)); have n6_ := Aside0.mk ((by rw [hg]; exact Nat.ne_of_gt (blk_lt (g := gb205) (o := .cells #[.bool a0_0, .slice A0_1 l0_1.length c0_1] 25 (0, 0)) (by (with_reducible repeat (first | refine blk_drewN ?_ _ | refine blk_drew ?_ | refine blk_alloc ?_ _)); exact BK205.out)) : gb206 ≠ gb205)); clear BK205; clear HB; have BK205 := n0_; have HB := n1_; have BK206 := n2_; have GW206 := n3_; have GE206 := n4_; have NB205_206 := n5_; have NB206_205 := n6_; clear n0_ n1_ n2_ n3_ n4_ n5_ n6_; clear hb hbox hg) | ((with_reducible refine gate_dst (N := 4) rfl ?_); refine box_event ?hg (N := 4) ?hd (cs := #[.bool false, .slice none 0 0]) (t := 25) ?hr ?_; (case hd => rfl); (case hg => rfl); (case hr => first | (go_simp; done) | (go_simp; rfl)); intro gb207 hg w44 hbox hb; have n0_ := Aside0.mk (blk_below (g := gb205) (o := .cells #[.bool a0_0, .slice A0_1 l0_1.length c0_1] 25 (0, 0)) (by (with_reducible repeat (first | refine blk_drewN ?_ _ | refine blk_drew ?_ | refine blk_alloc ?_ _)); exact BK205.out) hb); have n1_ := Aside0.mk (blk_below (g := gb206) (o := .cells #[.bool a1_0, .slice A1_1 l1_1.length c1_1] 25 (0, 0)) (by (with_reducible repeat (first | refine blk_drewN ?_ _ | refine blk_drew ?_ | refine blk_alloc ?_ _)); exact BK206.out) hb); have n2_ := Aside0.mk (below_step (by repeat (first | (with_reducible first | exact HB.out | apply below_alloc | apply pw_below_drewN | apply below_drew1 | refine below_set ?_ GE205.out | refine below_set ?_ GE206.out) | exact HB.out)) hb); have n3_ := Aside0.mk (hbox); have n4_ := Aside0.mk ((by rw [hg]; exact (below_size (by repeat (first | (with_reducible first | exact HB.out | apply below_alloc | apply pw_below_drewN | apply below_drew1 | refine below_set ?_ GE205.out | refine below_set ?_ GE206.out) | exact HB.out))) : w.heap.size ≤ gb207)); have n5_ := Aside0.mk ((by rw [hg]; exact (below_size (by repeat (first | (with_reducible first | exact HB.out | apply below_alloc | apply pw_below_drewN | apply below_drew1 | refine below_set ?_ GE205.out | refine below_set ?_ GE206.out) | exact HB.out))) : w.heap.size ≤ gb207)); have n6_ := Aside0.mk ((by rw [hg]; exact Nat.ne_of_lt (blk_lt (g := gb205) (o := .cells #[.bool a0_0, .slice A0_1 l0_1.length c0_1] 25 (0, 0)) (by (with_reducible repeat (first | refine blk_drewN ?_ _ | refine blk_drew ?_ | refine blk_alloc ?_ _)); exact BK205.out)) : gb205 ≠ gb207)); have n7_ := Aside0.mk ((by rw [hg]; exact Nat.ne_of_gt (blk_lt (g := gb205) (o := .cells #[.bool a0_0, .slice A0_1 l0_1.length c0_1] 25 (0, 0)) (by (with_reducible repeat (first | refine blk_drewN ?_ _ | refine blk_drew ?_ | refine blk_alloc ?_ _)); exact BK205.out)) : gb207 ≠ gb205)); have n8_ := Aside0.mk ((by rw [hg]; exact Nat.ne_of_lt (blk_lt (g := gb206) (o := .cells #[.bool a1_0, .slice A1_1 l1_1.length c1_1] 25 (0, 0)) (by (with_reducible repeat (first | refine blk_drewN ?_ _ | refine blk_drew ?_ | refine blk_alloc ?_ _)); exact BK206.out)) : gb206 ≠ gb207)); have n9_ := Aside0.mk ((by rw [hg]; exact Nat.ne_of_gt (blk_lt (g := gb206) (o := .cells #[.bool a1_0, .slice A1_1 l1_1.length c1_1] 25 (0, 0)) (by (with_reducible repeat (first | refine blk_drewN ?_ _ | refine blk_drew ?_ | refine blk_alloc ?_ _)); exact BK206.out)) : gb207 ≠ gb206)); clear BK205; clear BK206; clear HB; have BK205 := n0_; have BK206 := n1_; have HB := n2_; have BK207 := n3_; have GW207 := n4_; have GE207 := n5_; have NB205_207 := n6_; have NB207_205 := n7_; have NB206_207 := n8_; have NB207_206 := n9_; clear n0_ n1_ n2_ n3_ n4_ n5_ n6_ n7_ n8_ n9_; clear hb hbox hg; have hnb45 := NB205_206.out; have hnc45 := NB206_205.out; have hnb46 := NB205_207.out; have hnc46 := NB207_205.out; have hcz47_0 : w44.cell? ⟨gb205, 0, none⟩ = some (.bool a0_0) := (blk_cell BK205.out 0).trans rfl; have hcz47_1 : w44.cell? ⟨gb205, 1, none⟩ = some (.slice A0_1 l0_1.length c0_1) := (blk_cell BK205.out 1).trans rfl; have hfz47_0 := blk_frozen BK205.out 0; have hfz47_1 := blk_frozen BK205.out 1; have hnb48 := NB206_207.out; have hnc48 := NB207_206.out; have hcz49_0 : w44.cell? ⟨gb206, 0, none⟩ = some (.bool a1_0) := (blk_cell BK206.out 0).trans rfl; have hcz49_1 : w44.cell? ⟨gb206, 1, none⟩ = some (.slice A1_1 l1_1.length c1_1) := (blk_cell BK206.out 1).trans rfl; have hfz49_0 := blk_frozen BK206.out 0; have hfz49_1 := blk_frozen BK206.out 1) | ((with_reducible refine gate_callee (f := 52) rfl ?_); refine goesL_ (some 24) rfl rfl Tryd.func52 (by kernel_rfl) rfl #[.slice A0_1 l0_1.length c0_1, .slice A1_1 l1_1.length c1_1] rfl (by (try simp only [List.map_toArray, List.map_cons, List.map_nil]); first | done | rfl | (simp only [List.length_drop, List.length_take]; rfl)) ?_; (with_reducible refine (integer_order.calls k _ _ l0_1 _ _ l1_1 t215 _ ?side1 ?side2 ?side3 ?side4 A21.out).mono ?_); (case side1 => repeat (first | exact (Kd.C_below HR0_1.out HB.out) | (with_reducible refine Kd.C_alloc ?_ _) | (with_reducible refine Kd.C_drewN ?_ _) | (with_reducible refine Kd.C_drew ?_))); (case side2 => exact HC0_1.out); (case side3 => repeat (first | exact (Kd.C_below HR1_1.out HB.out) | (with_reducible refine Kd.C_alloc ?_ _) | (with_reducible refine Kd.C_drewN ?_ _) | (with_reducible refine Kd.C_drew ?_))); (case side4 => exact HC1_1.out); rintro e w' ⟨rfl, ⟨nd, rfl⟩⟩; refine ⟨_, rfl, ?_⟩; (try (rw [drewN_self w44]; generalize hq_ : World.drewN w44 _ = w44; have n0_ : Aside0 (w44.heap[gb205]? = some (.cells #[.bool a0_0, .slice A0_1 l0_1.length c0_1] 25 (0, 0))) := ⟨by rw [← hq_]; exact (by (with_reducible repeat (first | refine blk_drewN ?_ _ | refine blk_drew ?_ | refine blk_alloc ?_ _)); exact BK205.out)⟩; have n1_ : Aside0 (w44.heap[gb206]? = some (.cells #[.bool a1_0, .slice A1_1 l1_1.length c1_1] 25 (0, 0))) := ⟨by rw [← hq_]; exact (by (with_reducible repeat (first | refine blk_drewN ?_ _ | refine blk_drew ?_ | refine blk_alloc ?_ _)); exact BK206.out)⟩; have n2_ : Aside0 (w44.heap[gb207]? = some (.cells #[.bool false, .slice none 0 0] 25 (0, 0))) := ⟨by rw [← hq_]; exact (by (with_reducible repeat (first | refine blk_drewN ?_ _ | refine blk_drew ?_ | refine blk_alloc ?_ _)); exact BK207.out)⟩; have n3_ : Aside0 (Below w.heap.size w w44) := ⟨by rw [← hq_]; exact (by repeat (first | (with_reducible first | exact HB.out | apply below_alloc | apply pw_below_drewN | apply below_drew1 | refine below_set ?_ GE205.out | refine below_set ?_ GE206.out | refine below_set ?_ GE207.out) | exact HB.out))⟩; clear BK205 BK206 BK207 HB hq_; have BK205 := n0_; have BK206 := n1_; have BK207 := n2_; have HB := n3_; clear n0_ n1_ n2_ n3_))))
   have n0_ := Aside0.mk (blk_drew BK205.out)
   have n1_ := Aside0.mk (blk_drew BK206.out)
   have n2_ := Aside0.mk (blk_drew BK207.out)
   have n3_ := Aside0.mk (below_drew1 HB.out)
   clear BK205
   clear BK206
   clear BK207
   clear HB
   have BK205 := n0_
   have BK206 := n1_
   have BK207 := n2_
   have HB := n3_
   clear n0_ n1_ n2_ n3_
   refine start_ (n := 9) (S := fun w' => w'.cell? ⟨gb206, 0, none⟩ = some (.bool a1_0) ∧ w'.cell? ⟨gb206, 1, none⟩ = some (.slice A1_1 l1_1.length c1_1) ∧ w'.cell? ⟨gb205, 0, none⟩ = some (.bool a0_0) ∧ w'.cell? ⟨gb205, 1, none⟩ = some (.slice A0_1 l0_1.length c0_1)) (ds := []) #[false, false, false, false, false, false, false, false, false] (by kernel_rfl) rfl rfl ⟨(blk_cell BK206.out 0).trans rfl, (blk_cell BK206.out 1).trans rfl, (blk_cell BK205.out 0).trans rfl, (blk_cell BK205.out 1).trans rfl⟩ (fun hHeld => ?_); refine with_tabW integer_Add.tab5 integer_Add.bits5 (fun HT_ HW_ => ?_)
   generalize w44.drew = w50 at BK205 BK206 BK207 HB hHeld ⊢
   refine pure_ (i := 0) (N := some 34) (v := ?_) (a' := ?_) #[true, false, false, false, false, false, false, false, false] rfl rfl (any_of HT_.out (by kernel_rfl)) (fun _ _ _ h => h) (Or.inl ⟨by rfl, ?_⟩) ?_ ?_
   rotate_left
   ·
    intro w'
    go_simp
    with_reducible rfl
   rotate_left
   ·
    simp only [Act.put, List.setIfInBounds_toArray, List.set_cons_zero, List.set_cons_succ, i64_w, i32_w]
    rfl
   refine pure_ (i := 2) (N := some 36) (v := ?_) (a' := ?_) #[true, false, true, false, false, false, false, false, false] rfl rfl (any_of HT_.out (by kernel_rfl)) (fun _ _ _ h => h) (Or.inl ⟨by rfl, ?_⟩) ?_ ?_
   rotate_left
   ·
    intro w'
    go_simp
    with_reducible rfl
   rotate_left
   ·
    simp only [Act.put, List.setIfInBounds_toArray, List.set_cons_zero, List.set_cons_succ, i64_w, i32_w]
    rfl
   refine pure_ (i := 4) (N := some 38) (v := ?_) (a' := ?_) #[true, false, true, false, true, false, false, false, false] rfl rfl (any_of HT_.out (by kernel_rfl)) (fun _ _ _ h => h) (Or.inl ⟨by rfl, ?_⟩) ?_ ?_
   rotate_left
   ·
    intro w'
    go_simp
    with_reducible rfl
   rotate_left
   ·
    simp only [Act.put, List.setIfInBounds_toArray, List.set_cons_zero, List.set_cons_succ, i64_w, i32_w]
    rfl
   refine take_ (i := 1) (N := some 35) (v := ?_) (a' := ?_) #[true, true, true, false, true, false, false, false, false] rfl rfl (take_ofW HT_.out HW_.out (by kernel_rfl)) (fun _ _ _ h => h) (Or.inl ⟨by rfl, ?_⟩) hHeld ?_ ?_
   rotate_left
   ·
    rintro w' ⟨s0, s1, s2, s3⟩
    go_simp
    with_reducible rfl
   rotate_left
   ·
    simp only [Act.put, List.setIfInBounds_toArray, List.set_cons_zero, List.set_cons_succ, i64_w, i32_w]
    rfl
   refine take_ (i := 3) (N := some 37) (v := ?_) (a' := ?_) #[true, true, true, true, true, false, false, false, false] rfl rfl (take_ofW HT_.out HW_.out (by kernel_rfl)) (fun _ _ _ h => h) (Or.inl ⟨by rfl, ?_⟩) hHeld ?_ ?_
   rotate_left
   ·
    rintro w' ⟨s0, s1, s2, s3⟩
    go_simp
    with_reducible rfl
   rotate_left
   ·
    simp only [Act.put, List.setIfInBounds_toArray, List.set_cons_zero, List.set_cons_succ, i64_w, i32_w]
    rfl
   refine take_ (i := 5) (N := some 39) (v := ?_) (a' := ?_) #[true, true, true, true, true, true, false, false, false] rfl rfl (take_ofW HT_.out HW_.out (by kernel_rfl)) (fun _ _ _ h => h) (Or.inl ⟨by rfl, ?_⟩) hHeld ?_ ?_
   rotate_left
   ·
    rintro w' ⟨s0, s1, s2, s3⟩
    go_simp
    with_reducible rfl
   rotate_left
   ·
    simp only [Act.put, List.setIfInBounds_toArray, List.set_cons_zero, List.set_cons_succ, i64_w, i32_w]
    rfl
   refine one_ (i := 6) (N := some 40) #[true, true, true, true, true, true, true, false, false] rfl rfl (one_of HT_.out (by kernel_rfl)) (by decide) (fun K hK => ?_)
   refine goes_ Tryd.func64 (by kernel_rfl) rfl #[.slice A1_1 l1_1.length c1_1, .slice A0_1 l0_1.length c0_1] (by rfl) rfl rfl (by (try simp only [List.map_toArray, List.map_cons, List.map_nil]); first | done | rfl | (simp only [List.length_drop, List.length_take]; rfl)) ?_
   with_reducible refine (integer_minus.calls k _ _ l1_1 _ _ l0_1 t223 _ ?side1 ?side2 ?side3 ?side4 A40.out).mono ?_
   (case side1 => repeat (first | exact (Kd.C_below HR1_1.out HB.out) | (with_reducible refine Kd.C_alloc ?_ _) | (with_reducible refine Kd.C_drewN ?_ _) | (with_reducible refine Kd.C_drew ?_)))
   (case side2 => exact HC1_1.out)
   (case side3 => repeat (first | exact (Kd.C_below HR0_1.out HB.out) | (with_reducible refine Kd.C_alloc ?_ _) | (with_reducible refine Kd.C_drewN ?_ _) | (with_reducible refine Kd.C_drew ?_)))
   (case side4 => exact HC0_1.out)
   rintro e w51 ⟨v224, rfl, ho0, hb⟩
   refine ⟨_, rfl, ?_⟩
   have n0_ := Aside0.mk (Kd.R_lower (Kd.R_newM (M := fun k_ => (w.heap.size ≤ k_)) ho0 (below_size (by repeat (first | (with_reducible first | exact HB.out | apply below_alloc | apply pw_below_drewN | apply below_drew1 | refine below_set ?_ GE205.out | refine below_set ?_ GE206.out | refine below_set ?_ GE207.out) | exact HB.out))) (fun k_ h_ => h_)) (below_size (by repeat (first | (with_reducible first | exact HB.out | apply below_alloc | apply pw_below_drewN | apply below_drew1 | refine below_set ?_ GE205.out | refine below_set ?_ GE206.out | refine below_set ?_ GE207.out) | exact HB.out))))
   have n1_ := Aside0.mk (blk_below (g := gb205) (o := .cells #[.bool a0_0, .slice A0_1 l0_1.length c0_1] 25 (0, 0)) (by (with_reducible repeat (first | refine blk_drewN ?_ _ | refine blk_drew ?_ | refine blk_alloc ?_ _)); exact BK205.out) hb)
   have n2_ := Aside0.mk (blk_below (g := gb206) (o := .cells #[.bool a1_0, .slice A1_1 l1_1.length c1_1] 25 (0, 0)) (by (with_reducible repeat (first | refine blk_drewN ?_ _ | refine blk_drew ?_ | refine blk_alloc ?_ _)); exact BK206.out) hb)
   have n3_ := Aside0.mk (blk_below (g := gb207) (o := .cells #[.bool false, .slice none 0 0] 25 (0, 0)) (by (with_reducible repeat (first | refine blk_drewN ?_ _ | refine blk_drew ?_ | refine blk_alloc ?_ _)); exact BK207.out) hb)
   have n4_ := Aside0.mk (below_step (by repeat (first | (with_reducible first | exact HB.out | apply below_alloc | apply pw_below_drewN | apply below_drew1 | refine below_set ?_ GE205.out | refine below_set ?_ GE206.out | refine below_set ?_ GE207.out) | exact HB.out)) hb)
   clear BK205
   clear BK206
   clear BK207
   clear HB
   have HO225 := n0_
   have BK205 := n1_
   have BK206 := n2_
   have BK207 := n3_
   have HB := n4_
   clear n0_ n1_ n2_ n3_ n4_
   (try clear hb)
   (try clear hb2)
   (try clear hk)
   (try clear hi)
   (try clear ho0)
   obtain ⟨Ao52, co52, eo52⟩ := Kd.R_slice HO225.out
   (first | subst eo52 | (injection eo52 with f1_ f2_ f3_; have f4_ := f1_.symm; have f5_ := f3_.symm; clear f1_ f2_ f3_; subst f4_; subst f5_))
   refine hK.out _ _ ⟨(blk_cell BK206.out 0).trans rfl, (blk_cell BK206.out 1).trans rfl, (blk_cell BK205.out 0).trans rfl, (blk_cell BK205.out 1).trans rfl⟩ (fun hHeld => ?_)
   clear hK K
   refine norm_ (a' := ?_) ?_ ?_
   rotate_left
   ·
    show Act.put _ (some 40) _ = _
    simp only [Act.put, List.setIfInBounds_toArray, List.set_cons_zero, List.set_cons_succ, i64_w, i32_w]
    rfl
   refine one_ (i := 7) (N := some 41) #[true, true, true, true, true, true, true, true, false] rfl rfl (one_of HT_.out (by kernel_rfl)) (by decide) (fun K hK => ?_)
   refine goes_ Tryd.func45 (by kernel_rfl) rfl #[.bool a1_0, .slice Ao52 t223.length co52] (by rfl) rfl rfl (by (try simp only [List.map_toArray, List.map_cons, List.map_nil]); first | done | rfl | (simp only [List.length_drop, List.length_take]; rfl)) ?_
   with_reducible refine (integer_signed.calls k a1_0 (fun k_ => some k_ = (.slice Ao52 t223.length co52 : Value).ownBlock) _ _ t223 t226 t227 _ ?side1 A41.out).mono ?_
   (case side1 => exact Kd.R_V (Kd.R_tight rfl (Kd.R_types (Kd.R_types (Kd.R_types (HO225.out) BK205.out (by decide)) BK206.out (by decide)) BK207.out (by decide))))
   rintro e w53 ⟨v228, rfl, ho0, hb⟩
   refine ⟨_, rfl, ?_⟩
   have n0_ := Aside0.mk (Kd.R_below (by (with_reducible repeat (first | apply Kd.R_alloc | apply Kd.R_drewN | apply Kd.R_drew)); exact HO225.out) hb)
   have n1_ := Aside0.mk (Kd.V_lower (Kd.V_mono (ok' := fun k_ => (w.heap.size ≤ k_) ∧ k_ ≠ gb205 ∧ k_ ≠ gb206 ∧ k_ ≠ gb207) ho0 (fun k_ hk_ => ⟨Or.elim hk_ (fun hs_ => ((Kd.R_types (Kd.R_types (Kd.R_types (HO225.out) BK205.out (by decide)) BK206.out (by decide)) BK207.out (by decide)).1 k_ hs_.symm).1.1.1.1) (fun hn_ => (Nat.le_trans (below_size (by repeat (first | (with_reducible first | exact HB.out | apply below_alloc | apply pw_below_drewN | apply below_drew1 | refine below_set ?_ GE205.out | refine below_set ?_ GE206.out | refine below_set ?_ GE207.out) | exact HB.out))) hn_)), Or.elim hk_ (fun hs_ => ((Kd.R_types (Kd.R_types (Kd.R_types (HO225.out) BK205.out (by decide)) BK206.out (by decide)) BK207.out (by decide)).1 k_ hs_.symm).1.1.2) (fun hn_ => (Kd.freshB (g := gb205) (o := .cells #[.bool a0_0, .slice A0_1 l0_1.length c0_1] 25 (0, 0)) (by (with_reducible repeat (first | refine blk_drewN ?_ _ | refine blk_drew ?_ | refine blk_alloc ?_ _)); exact BK205.out) k_ hn_)), Or.elim hk_ (fun hs_ => ((Kd.R_types (Kd.R_types (Kd.R_types (HO225.out) BK205.out (by decide)) BK206.out (by decide)) BK207.out (by decide)).1 k_ hs_.symm).1.2) (fun hn_ => (Kd.freshB (g := gb206) (o := .cells #[.bool a1_0, .slice A1_1 l1_1.length c1_1] 25 (0, 0)) (by (with_reducible repeat (first | refine blk_drewN ?_ _ | refine blk_drew ?_ | refine blk_alloc ?_ _)); exact BK206.out) k_ hn_)), Or.elim hk_ (fun hs_ => ((Kd.R_types (Kd.R_types (Kd.R_types (HO225.out) BK205.out (by decide)) BK206.out (by decide)) BK207.out (by decide)).1 k_ hs_.symm).2) (fun hn_ => (Kd.freshB (g := gb207) (o := .cells #[.bool false, .slice none 0 0] 25 (0, 0)) (by (with_reducible repeat (first | refine blk_drewN ?_ _ | refine blk_drew ?_ | refine blk_alloc ?_ _)); exact BK207.out) k_ hn_))⟩)) (below_size (by repeat (first | (with_reducible first | exact HB.out | apply below_alloc | apply pw_below_drewN | apply below_drew1 | refine below_set ?_ GE205.out | refine below_set ?_ GE206.out | refine below_set ?_ GE207.out) | exact HB.out))))
   have n2_ := Aside0.mk (blk_below (g := gb205) (o := .cells #[.bool a0_0, .slice A0_1 l0_1.length c0_1] 25 (0, 0)) (by (with_reducible repeat (first | refine blk_drewN ?_ _ | refine blk_drew ?_ | refine blk_alloc ?_ _)); exact BK205.out) hb)
   have n3_ := Aside0.mk (blk_below (g := gb206) (o := .cells #[.bool a1_0, .slice A1_1 l1_1.length c1_1] 25 (0, 0)) (by (with_reducible repeat (first | refine blk_drewN ?_ _ | refine blk_drew ?_ | refine blk_alloc ?_ _)); exact BK206.out) hb)
   have n4_ := Aside0.mk (blk_below (g := gb207) (o := .cells #[.bool false, .slice none 0 0] 25 (0, 0)) (by (with_reducible repeat (first | refine blk_drewN ?_ _ | refine blk_drew ?_ | refine blk_alloc ?_ _)); exact BK207.out) hb)
   have n5_ := Aside0.mk (below_step (by repeat (first | (with_reducible first | exact HB.out | apply below_alloc | apply pw_below_drewN | apply below_drew1 | refine below_set ?_ GE205.out | refine below_set ?_ GE206.out | refine below_set ?_ GE207.out) | exact HB.out)) hb)
   clear HO225
   clear BK205
   clear BK206
   clear BK207
   clear HB
   have HO225 := n0_
   have HO229 := n1_
   have BK205 := n2_
   have BK206 := n3_
   have BK207 := n4_
   have HB := n5_
   clear n0_ n1_ n2_ n3_ n4_ n5_
   (try clear hb)
   (try clear hb2)
   (try clear hk)
   (try clear hi)
   (try clear ho0)
   obtain ⟨Ao55, co55, eo55⟩ := Kd.V_slice HO229.out
   (first | subst eo55 | (injection eo55 with f1_ f2_ f3_; have f4_ := f1_.symm; have f5_ := f3_.symm; clear f1_ f2_ f3_; subst f4_; subst f5_))
   refine hK.out _ _ ⟨(blk_cell BK206.out 0).trans rfl, (blk_cell BK206.out 1).trans rfl, (blk_cell BK205.out 0).trans rfl, (blk_cell BK205.out 1).trans rfl⟩ (fun hHeld => ?_)
   clear hK K
   refine norm_ (a' := ?_) ?_ ?_
   rotate_left
   ·
    show Act.put _ (some 41) _ = _
    simp only [Act.put, List.setIfInBounds_toArray, List.set_cons_zero, List.set_cons_succ, i64_w, i32_w]
    rfl
   refine one_ (i := 8) (N := none) #[true, true, true, true, true, true, true, true, true] rfl rfl (one_of HT_.out (by kernel_rfl)) (by decide) (fun K hK => ?_)
   have hs54 : w53.cell? ⟨gb207, 0, none⟩ = some (.bool false) := (blk_cell BK207.out 0).trans rfl
   have hfs54 := blk_frozen BK207.out 0
   have hns54_0 := NB205_207.out
   have hns54_1 := NB206_207.out
   have hms54_0 := NB207_205.out
   have hms54_1 := NB207_206.out
   have hs56 : w53.cell? ⟨gb207, 1, none⟩ = some (.slice none 0 0) := (blk_cell BK207.out 1).trans rfl
   have hfs56 := blk_frozen BK207.out 1
   have hns56_0 := NB205_207.out
   have hns56_1 := NB206_207.out
   have hms56_0 := NB207_205.out
   have hms56_1 := NB207_206.out
   refine skip_ (w1 := ?_) (by rfl) rfl ?_ ?_
   rotate_left
   ·
    go_simp
    rfl
   refine hK.out _ _ ⟨((cell_far (p := ⟨gb207, _, none⟩) NB206_207.out _).trans (((cell_far (p := ⟨gb207, _, none⟩) NB206_207.out _).trans (hHeld.1)))), ((cell_far (p := ⟨gb207, _, none⟩) NB206_207.out _).trans (((cell_far (p := ⟨gb207, _, none⟩) NB206_207.out _).trans (hHeld.2.1)))), ((cell_far (p := ⟨gb207, _, none⟩) NB205_207.out _).trans (((cell_far (p := ⟨gb207, _, none⟩) NB205_207.out _).trans (hHeld.2.2.1)))), ((cell_far (p := ⟨gb207, _, none⟩) NB205_207.out _).trans (((cell_far (p := ⟨gb207, _, none⟩) NB205_207.out _).trans (hHeld.2.2.2))))⟩ (fun hHeld => ?_)
   clear hK K
   refine done_ (done_of HT_.out (by kernel_rfl)) ?_
   try go_wp2
   refine bodyPost_ret (results_cell_row rfl _ _ gb207 25 #[.bool t226, .slice Ao55 t227.length co55] (0, 0) _ rfl (by (with_reducible repeat (first | refine blk_drewN ?_ _ | refine blk_drew ?_ | refine blk_alloc ?_ _)); refine blk_put (cs := #[.bool t226, .slice none 0 0]) ?_ 1 _ rfl; (with_reducible repeat (first | refine blk_drewN ?_ _ | refine blk_drew ?_ | refine blk_alloc ?_ _)); refine blk_put (cs := #[.bool false, .slice none 0 0]) ?_ 0 _ rfl; (with_reducible repeat (first | refine blk_drewN ?_ _ | refine blk_drew ?_ | refine blk_alloc ?_ _)); exact BK207.out) Tryd.underlying25 rfl (by kernel_rfl)) rfl ?_
   exact ⟨_, by first | rfl | (simp [errW_none, errW_some] <;> rfl) | (simp [*, errW_none, errW_some] <;> rfl), by (with_reducible repeat (first | apply Kd.V_alloc | apply Kd.V_drewN | apply Kd.V_drew)); exact Kd.V_mono (Kd.V_far (p := ⟨gb207, 1, none⟩) (Kd.V_far (p := ⟨gb207, 0, none⟩) (Kd.V_mono HO229.out (fun k_ hk => (⟨hk, hk.2.2.2⟩ : _ ∧ k_ ≠ gb207))) (fun _ hk => hk.2) (.bool t226)) (fun _ hk => hk.2) (.slice Ao55 t227.length co55)) (fun _ hk => hk.1.1), by repeat (first | (with_reducible first | exact HB.out | apply below_alloc | apply pw_below_drewN | apply below_drew1 | refine below_set ?_ GE205.out | refine below_set ?_ GE206.out | refine below_set ?_ GE207.out) | exact HB.out)⟩
def integer_Neg.f (a0_0 : Bool) (l0_1 : List Int) : Option (Bool × List Int) := if a0_0 = true then (some (false, l0_1)) else (some (decide (0 < l0_1.length), l0_1))
set_option maxHeartbeats 8000000 in
set_option maxRecDepth 100000 in
theorem integer_Neg.calls (a0_0 : Bool) (P0_1_ : Nat → Prop) (A0_1 : Option Addr) (c0_1 : Nat) (l0_1 : List Int) (r1 : Bool) (r2 : List Int) (w : World) (hs0_1 : Kd.V (Kd.int .u32) 60 w w.heap.size (fun k_ => P0_1_ k_) (.slice A0_1 l0_1.length c0_1) l0_1) (h : integer_Neg.f a0_0 l0_1 = some (r1, r2)) :
  Calls Tryd.prog 39 #[.agg #[.bool a0_0, .slice A0_1 l0_1.length c0_1]] w fun e w' => ∃ v1_ : Value, e = .returned (.agg #[.bool r1, v1_]) ∧ Kd.V (Kd.int .u32) 60 w' w.heap.size (fun k_ => (P0_1_ k_ ∨ w.heap.size ≤ k_)) v1_ r2 ∧ Below w.heap.size w w' := by
 have hu25 := Tryd.underlying25
 have HO0_1 := Aside0.mk (show Kd.V (Kd.int .u32) 60 w w.heap.size (fun k_ => (P0_1_ k_ ∨ w.heap.size ≤ k_)) (.slice A0_1 l0_1.length c0_1) l0_1 from Kd.V_mono hs0_1 (fun k_ hk => .inl hk))
 have HB := Aside0.mk (Below.refl w.heap.size w)
 have H : (if a0_0 = true then (some (false, l0_1)) else (some (decide (0 < l0_1.length), l0_1))) = some (r1, r2) := h
 clear h
 by_cases c2 : a0_0 = true
 ·
  subst c2
  have H1 : (some (false, l0_1)) = some (r1, r2) := by rw [if_pos rfl] at H; exact H
  clear H
  have H := H1
  clear H1
  simp only [Option.some.injEq, Prod.mk.injEq] at H
  obtain ⟨rfl, rfl⟩ := H
  go_enter Tryd.func39, Tryd.ntmps39
  go_wp2_with (first | ((with_reducible refine gate_dst (N := 1) rfl ?_); (try (refine gate_guard (by rfl) ?_; dsimp only)); refine box_event ?hg (N := 1) ?hd (cs := #[.bool true, .slice A0_1 l0_1.length c0_1]) (t := 25) ?hr ?_; (case hd => rfl); (case hg => rfl); (case hr => first | (go_simp; done) | (go_simp; rfl)); intro gb230 hg w3 hbox hb; have n0_ := Aside0.mk (Kd.V_below (Kd.V_elderB (by (with_reducible repeat (first | apply Kd.V_alloc | apply Kd.V_drewN | apply Kd.V_drew)); exact HO0_1.out) gb230 (Nat.le_of_eq hg.symm)) hb); have n1_ := Aside0.mk (below_step (by repeat (first | (with_reducible first | exact HB.out | apply below_alloc | apply pw_below_drewN | apply below_drew1) | exact HB.out)) hb); have n2_ := Aside0.mk (hbox); have n3_ := Aside0.mk ((by rw [hg]; exact (below_size (by repeat (first | (with_reducible first | exact HB.out | apply below_alloc | apply pw_below_drewN | apply below_drew1) | exact HB.out))) : w.heap.size ≤ gb230)); have n4_ := Aside0.mk ((by rw [hg]; exact (below_size (by repeat (first | (with_reducible first | exact HB.out | apply below_alloc | apply pw_below_drewN | apply below_drew1) | exact HB.out))) : w.heap.size ≤ gb230)); clear HO0_1; clear HB; have HO0_1 := n0_; have HB := n1_; have BK230 := n2_; have GW230 := n3_; have GE230 := n4_; clear n0_ n1_ n2_ n3_ n4_; clear hb hbox hg) | ((with_reducible refine gate_dst (N := 2) rfl ?_); (try (refine gate_guard (by rfl) ?_; dsimp only)); refine box_event ?hg (N := 2) ?hd (cs := #[.bool false, .slice none 0 0]) (t := 25) ?hr ?_; (case hd => rfl); (case hg => rfl); (case hr => first | (go_simp; done) | (go_simp; rfl)); intro gb231 hg w4 hbox hb; have n0_ := Aside0.mk (Kd.V_below (Kd.V_elderB (by (with_reducible repeat (first | apply Kd.V_alloc | apply Kd.V_drewN | apply Kd.V_drew)); exact HO0_1.out) gb231 (Nat.le_of_eq hg.symm)) hb); have n1_ := Aside0.mk (blk_below (g := gb230) (o := .cells #[.bool true, .slice A0_1 l0_1.length c0_1] 25 (0, 0)) (by (with_reducible repeat (first | refine blk_drewN ?_ _ | refine blk_drew ?_ | refine blk_alloc ?_ _)); exact BK230.out) hb); have n2_ := Aside0.mk (below_step (by repeat (first | (with_reducible first | exact HB.out | apply below_alloc | apply pw_below_drewN | apply below_drew1 | refine below_set ?_ GE230.out) | exact HB.out)) hb); have n3_ := Aside0.mk (hbox); have n4_ := Aside0.mk ((by rw [hg]; exact (below_size (by repeat (first | (with_reducible first | exact HB.out | apply below_alloc | apply pw_below_drewN | apply below_drew1 | refine below_set ?_ GE230.out) | exact HB.out))) : w.heap.size ≤ gb231)); have n5_ := Aside0.mk ((by rw [hg]; exact (below_size (by repeat (first | (with_reducible first | exact HB.out | apply below_alloc | apply pw_below_drewN | apply below_drew1 | refine below_set ?_ GE230.out) | exact HB.out))) : w.heap.size ≤ gb231)); have n6_ := Aside0.mk ((by rw [hg]; exact Nat.ne_of_lt (blk_lt (g := gb230) (o := .cells #[.bool true, .slice A0_1 l0_1.length c0_1] 25 (0, 0)) (by (with_reducible repeat (first | refine blk_drewN ?_ _ | refine blk_drew ?_ | refine blk_alloc ?_ _)); exact BK230.out)) : gb230 ≠ gb231)); have n7_ := Aside0.mk ((by rw [hg]; exact Nat.ne_of_gt (blk_lt (g := gb230) (o := .cells #[.bool true, .slice A0_1 l0_1.length c0_1] 25 (0, 0)) (by (with_reducible repeat (first | refine blk_drewN ?_ _ | refine blk_drew ?_ | refine blk_alloc ?_ _)); exact BK230.out)) : gb231 ≠ gb230)); clear HO0_1; clear BK230; clear HB; have HO0_1 := n0_; have BK230 := n1_; have HB := n2_; have BK231 := n3_; have GW231 := n4_; have GE231 := n5_; have NB230_231 := n6_; have NB231_230 := n7_; clear n0_ n1_ n2_ n3_ n4_ n5_ n6_ n7_; clear hb hbox hg; have hnb5 := NB230_231.out; have hnc5 := NB231_230.out; have hcz6_0 : w4.cell? ⟨gb230, 0, none⟩ = some (.bool true) := (blk_cell BK230.out 0).trans rfl; have hcz6_1 : w4.cell? ⟨gb230, 1, none⟩ = some (.slice A0_1 l0_1.length c0_1) := (blk_cell BK230.out 1).trans rfl; have hfz6_0 := blk_frozen BK230.out 0; have hfz6_1 := blk_frozen BK230.out 1; have hcz7_0 : w4.cell? ⟨gb231, 0, none⟩ = some (.bool false) := (blk_cell BK231.out 0).trans rfl; have hcz7_1 : w4.cell? ⟨gb231, 1, none⟩ = some (.slice none 0 0) := (blk_cell BK231.out 1).trans rfl; have hfz7_0 := blk_frozen BK231.out 0; have hfz7_1 := blk_frozen BK231.out 1))
  refine bodyPost_ret (results_cell_row rfl _ _ gb231 25 #[.bool false, .slice A0_1 l0_1.length c0_1] (0, 0) _ rfl (by (with_reducible repeat (first | refine blk_drewN ?_ _ | refine blk_drew ?_ | refine blk_alloc ?_ _)); refine blk_put (cs := #[.bool false, .slice none 0 0]) ?_ 1 _ rfl; (with_reducible repeat (first | refine blk_drewN ?_ _ | refine blk_drew ?_ | refine blk_alloc ?_ _)); refine blk_put (cs := #[.bool false, .slice none 0 0]) ?_ 0 _ rfl; (with_reducible repeat (first | refine blk_drewN ?_ _ | refine blk_drew ?_ | refine blk_alloc ?_ _)); exact BK231.out) Tryd.underlying25 rfl (by kernel_rfl)) rfl ?_
  exact ⟨_, by first | rfl | (simp [errW_none, errW_some] <;> rfl) | (simp [*, errW_none, errW_some] <;> rfl), by (with_reducible repeat (first | apply Kd.V_alloc | apply Kd.V_drewN | apply Kd.V_drew)); exact Kd.V_mono (Kd.V_far (p := ⟨gb231, 1, none⟩) (Kd.V_far (p := ⟨gb231, 0, none⟩) (Kd.V_mono HO0_1.out (fun k_ hk => (⟨hk, hk.2⟩ : _ ∧ k_ ≠ gb231))) (fun _ hk => hk.2) (.bool false)) (fun _ hk => hk.2) (.slice A0_1 l0_1.length c0_1)) (fun _ hk => hk.1.1.1), by repeat (first | (with_reducible first | exact HB.out | apply below_alloc | apply pw_below_drewN | apply below_drew1 | refine below_set ?_ GE230.out | refine below_set ?_ GE231.out) | exact HB.out)⟩
 ·
  replace c2 := Bool.eq_false_iff.mpr c2
  subst c2
  have H1 : (some (decide (0 < l0_1.length), l0_1)) = some (r1, r2) := by rw [if_neg (show ¬ (false = true) by decide)] at H; exact H
  clear H
  have H := H1
  clear H1
  simp only [Option.some.injEq, Prod.mk.injEq] at H
  obtain ⟨rfl, rfl⟩ := H
  go_enter Tryd.func39, Tryd.ntmps39
  go_wp2_with (first | ((with_reducible refine gate_dst (N := 1) rfl ?_); (try (refine gate_guard (by rfl) ?_; dsimp only)); refine box_event ?hg (N := 1) ?hd (cs := #[.bool false, .slice A0_1 l0_1.length c0_1]) (t := 25) ?hr ?_; (case hd => rfl); (case hg => rfl); (case hr => first | (go_simp; done) | (go_simp; rfl)); intro gb230 hg w8 hbox hb; have n0_ := Aside0.mk (Kd.V_below (Kd.V_elderB (by (with_reducible repeat (first | apply Kd.V_alloc | apply Kd.V_drewN | apply Kd.V_drew)); exact HO0_1.out) gb230 (Nat.le_of_eq hg.symm)) hb); have n1_ := Aside0.mk (below_step (by repeat (first | (with_reducible first | exact HB.out | apply below_alloc | apply pw_below_drewN | apply below_drew1) | exact HB.out)) hb); have n2_ := Aside0.mk (hbox); have n3_ := Aside0.mk ((by rw [hg]; exact (below_size (by repeat (first | (with_reducible first | exact HB.out | apply below_alloc | apply pw_below_drewN | apply below_drew1) | exact HB.out))) : w.heap.size ≤ gb230)); have n4_ := Aside0.mk ((by rw [hg]; exact (below_size (by repeat (first | (with_reducible first | exact HB.out | apply below_alloc | apply pw_below_drewN | apply below_drew1) | exact HB.out))) : w.heap.size ≤ gb230)); clear HO0_1; clear HB; have HO0_1 := n0_; have HB := n1_; have BK230 := n2_; have GW230 := n3_; have GE230 := n4_; clear n0_ n1_ n2_ n3_ n4_; clear hb hbox hg) | ((with_reducible refine gate_dst (N := 2) rfl ?_); (try (refine gate_guard (by rfl) ?_; dsimp only)); refine box_event ?hg (N := 2) ?hd (cs := #[.bool false, .slice none 0 0]) (t := 25) ?hr ?_; (case hd => rfl); (case hg => rfl); (case hr => first | (go_simp; done) | (go_simp; rfl)); intro gb231 hg w9 hbox hb; have n0_ := Aside0.mk (Kd.V_below (Kd.V_elderB (by (with_reducible repeat (first | apply Kd.V_alloc | apply Kd.V_drewN | apply Kd.V_drew)); exact HO0_1.out) gb231 (Nat.le_of_eq hg.symm)) hb); have n1_ := Aside0.mk (blk_below (g := gb230) (o := .cells #[.bool false, .slice A0_1 l0_1.length c0_1] 25 (0, 0)) (by (with_reducible repeat (first | refine blk_drewN ?_ _ | refine blk_drew ?_ | refine blk_alloc ?_ _)); exact BK230.out) hb); have n2_ := Aside0.mk (below_step (by repeat (first | (with_reducible first | exact HB.out | apply below_alloc | apply pw_below_drewN | apply below_drew1 | refine below_set ?_ GE230.out) | exact HB.out)) hb); have n3_ := Aside0.mk (hbox); have n4_ := Aside0.mk ((by rw [hg]; exact (below_size (by repeat (first | (with_reducible first | exact HB.out | apply below_alloc | apply pw_below_drewN | apply below_drew1 | refine below_set ?_ GE230.out) | exact HB.out))) : w.heap.size ≤ gb231)); have n5_ := Aside0.mk ((by rw [hg]; exact (below_size (by repeat (first | (with_reducible first | exact HB.out | apply below_alloc | apply pw_below_drewN | apply below_drew1 | refine below_set ?_ GE230.out) | exact HB.out))) : w.heap.size ≤ gb231)); have n6_ := Aside0.mk ((by rw [hg]; exact Nat.ne_of_lt (blk_lt (g := gb230) (o := .cells #[.bool false, .slice A0_1 l0_1.length c0_1] 25 (0, 0)) (by (with_reducible repeat (first | refine blk_drewN ?_ _ | refine blk_drew ?_ | refine blk_alloc ?_ _)); exact BK230.out)) : gb230 ≠ gb231)); have n7_ := Aside0.mk ((by rw [hg]; exact Nat.ne_of_gt (blk_lt (g := gb230) (o := .cells #[.bool false, .slice A0_1 l0_1.length c0_1] 25 (0, 0)) (by (with_reducible repeat (first | refine blk_drewN ?_ _ | refine blk_drew ?_ | refine blk_alloc ?_ _)); exact BK230.out)) : gb231 ≠ gb230)); clear HO0_1; clear BK230; clear HB; have HO0_1 := n0_; have BK230 := n1_; have HB := n2_; have BK231 := n3_; have GW231 := n4_; have GE231 := n5_; have NB230_231 := n6_; have NB231_230 := n7_; clear n0_ n1_ n2_ n3_ n4_ n5_ n6_ n7_; clear hb hbox hg; have hnb10 := NB230_231.out; have hnc10 := NB231_230.out; have hcz11_0 : w9.cell? ⟨gb230, 0, none⟩ = some (.bool false) := (blk_cell BK230.out 0).trans rfl; have hcz11_1 : w9.cell? ⟨gb230, 1, none⟩ = some (.slice A0_1 l0_1.length c0_1) := (blk_cell BK230.out 1).trans rfl; have hfz11_0 := blk_frozen BK230.out 0; have hfz11_1 := blk_frozen BK230.out 1; have hcz12_0 : w9.cell? ⟨gb231, 0, none⟩ = some (.bool false) := (blk_cell BK231.out 0).trans rfl; have hcz12_1 : w9.cell? ⟨gb231, 1, none⟩ = some (.slice none 0 0) := (blk_cell BK231.out 1).trans rfl; have hfz12_0 := blk_frozen BK231.out 0; have hfz12_1 := blk_frozen BK231.out 1))
  refine bodyPost_ret (results_cell_row rfl _ _ gb231 25 #[.bool (decide (0 < l0_1.length)), .slice A0_1 l0_1.length c0_1] (0, 0) _ rfl (by (with_reducible repeat (first | refine blk_drewN ?_ _ | refine blk_drew ?_ | refine blk_alloc ?_ _)); refine blk_put (cs := #[.bool (decide (0 < l0_1.length)), .slice none 0 0]) ?_ 1 _ rfl; (with_reducible repeat (first | refine blk_drewN ?_ _ | refine blk_drew ?_ | refine blk_alloc ?_ _)); refine blk_put (cs := #[.bool false, .slice none 0 0]) ?_ 0 _ rfl; (with_reducible repeat (first | refine blk_drewN ?_ _ | refine blk_drew ?_ | refine blk_alloc ?_ _)); exact BK231.out) Tryd.underlying25 rfl (by kernel_rfl)) rfl ?_
  exact ⟨_, by first | rfl | (simp [errW_none, errW_some] <;> rfl) | (simp [*, errW_none, errW_some] <;> rfl), by (with_reducible repeat (first | apply Kd.V_alloc | apply Kd.V_drewN | apply Kd.V_drew)); exact Kd.V_mono (Kd.V_far (p := ⟨gb231, 1, none⟩) (Kd.V_far (p := ⟨gb231, 0, none⟩) (Kd.V_mono HO0_1.out (fun k_ hk => (⟨hk, hk.2⟩ : _ ∧ k_ ≠ gb231))) (fun _ hk => hk.2) (.bool (decide (0 < l0_1.length)))) (fun _ hk => hk.2) (.slice A0_1 l0_1.length c0_1)) (fun _ hk => hk.1.1.1), by repeat (first | (with_reducible first | exact HB.out | apply below_alloc | apply pw_below_drewN | apply below_drew1 | refine below_set ?_ GE230.out | refine below_set ?_ GE231.out) | exact HB.out)⟩
def integer_Sub.f (k : Nat) (a0_0 : Bool) (l0_1 : List Int) (a1_0 : Bool) (l1_1 : List Int) : Option (Bool × List Int) := (integer_Neg.f a1_0 l1_1).bind fun bt235 => ((integer_Add.f k a0_0 l0_1 bt235.1 bt235.2).bind fun bt239 => (some (bt239.1, bt239.2)))
theorem integer_Sub.mono : ∀ a0 a1 a2 a3 k, LeO (integer_Sub.f k a0 a1 a2 a3) (integer_Sub.f (k + 1) a0 a1 a2 a3) := by
 intro a0 a1 a2 a3 k
 unfold integer_Sub.f
 repeat' first
   | (with_reducible exact integer_Add.mono _ _ _ _ _)
   | (with_reducible exact LeO.refl _)
   | (with_reducible exact LeO.none _)
   | (with_reducible refine LeO.ite ?_ ?_)
   | (with_reducible refine LeO.bind ?_ (fun _ => ?_))
   | exact integer_Add.mono _ _ _ _ _
   | exact LeO.none _
   | refine LeO.ite ?_ ?_
   | refine LeO.bind ?_ (fun _ => ?_)
set_option maxHeartbeats 8000000 in
set_option maxRecDepth 100000 in
theorem integer_Sub.calls (k : Nat) (a0_0 : Bool) (A0_1 : Option Addr) (c0_1 : Nat) (l0_1 : List Int) (a1_0 : Bool) (P1_1_ : Nat → Prop) (A1_1 : Option Addr) (c1_1 : Nat) (l1_1 : List Int) (r1 : Bool) (r2 : List Int) (w : World) (hr0_1 : Kd.C (Kd.int .u32) w A0_1 l0_1.length l0_1) (hc0_1 : l0_1.length ≤ c0_1) (hs1_1 : Kd.V (Kd.int .u32) 60 w w.heap.size (fun k_ => P1_1_ k_) (.slice A1_1 l1_1.length c1_1) l1_1) (h : integer_Sub.f k a0_0 l0_1 a1_0 l1_1 = some (r1, r2)) :
  Calls Tryd.prog 37 #[.agg #[.bool a0_0, .slice A0_1 l0_1.length c0_1], .agg #[.bool a1_0, .slice A1_1 l1_1.length c1_1]] w fun e w' => ∃ v1_ : Value, e = .returned (.agg #[.bool r1, v1_]) ∧ Kd.V (Kd.int .u32) 60 w' w.heap.size (fun k_ => (P1_1_ k_ ∨ w.heap.size ≤ k_)) v1_ r2 ∧ Below w.heap.size w w' := by
 have hu25 := Tryd.underlying25
 have HR0_1 := Aside0.mk hr0_1
 have HC0_1 := Aside0.mk hc0_1
 clear hr0_1 hc0_1
 have HO1_1 := Aside0.mk (show Kd.V (Kd.int .u32) 60 w w.heap.size (fun k_ => (P1_1_ k_ ∨ w.heap.size ≤ k_)) (.slice A1_1 l1_1.length c1_1) l1_1 from Kd.V_mono hs1_1 (fun k_ hk => .inl hk))
 have HB := Aside0.mk (Below.refl w.heap.size w)
 have H : ((integer_Neg.f a1_0 l1_1).bind fun bt235 => ((integer_Add.f k a0_0 l0_1 bt235.1 bt235.2).bind fun bt239 => (some (bt239.1, bt239.2)))) = some (r1, r2) := h
 clear h
 replace H := Option.bind_eq_some_iff.mp H
 obtain ⟨⟨t235, t236⟩, A30, H⟩ := H
 replace H : ((integer_Add.f k a0_0 l0_1 t235 t236).bind fun bt239 => (some (bt239.1, bt239.2))) = some (r1, r2) := H
 have A3 := Aside0.mk A30
 clear A30
 replace H := Option.bind_eq_some_iff.mp H
 obtain ⟨⟨t239, t240⟩, A40, H⟩ := H
 replace H : (some (t239, t240)) = some (r1, r2) := H
 have A4 := Aside0.mk A40
 clear A40
 simp only [Option.some.injEq, Prod.mk.injEq] at H
 obtain ⟨rfl, rfl⟩ := H
 go_enter Tryd.func37, Tryd.ntmps37
 try go_wp2_with (first | ((with_reducible refine gate_dst (N := 2) rfl ?_); refine box_event ?hg (N := 2) ?hd (cs := #[.bool a0_0, .slice A0_1 l0_1.length c0_1]) (t := 25) ?hr ?_; (case hd => rfl); (case hg => rfl); (case hr => first | (go_simp; done) | (go_simp; rfl)); intro gb232 hg w5 hbox hb; have n0_ := Aside0.mk (Kd.V_below (Kd.V_elderB (by (with_reducible repeat (first | apply Kd.V_alloc | apply Kd.V_drewN | apply Kd.V_drew)); exact HO1_1.out) gb232 (Nat.le_of_eq hg.symm)) hb); have n1_ := Aside0.mk (below_step (by repeat (first | (with_reducible first | exact HB.out | apply below_alloc | apply pw_below_drewN | apply below_drew1) | exact HB.out)) hb); have n2_ := Aside0.mk (hbox); have n3_ := Aside0.mk ((by rw [hg]; exact (below_size (by repeat (first | (with_reducible first | exact HB.out | apply below_alloc | apply pw_below_drewN | apply below_drew1) | exact HB.out))) : w.heap.size ≤ gb232)); have n4_ := Aside0.mk ((by rw [hg]; exact (below_size (by repeat (first | (with_reducible first | exact HB.out | apply below_alloc | apply pw_below_drewN | apply below_drew1) | exact HB.out))) : w.heap.size ≤ gb232)); clear HO1_1; clear HB; have HO1_1 := n0_; have HB := n1_; have BK232 := n2_; have GW232 := n3_; have GE232 := n4_; clear n0_ n1_ n2_ n3_ n4_; clear hb hbox hg) | ((with_reducible refine gate_dst (N := 3) rfl ?_); refine box_event ?hg (N := 3) ?hd (cs := #[.bool a1_0, .slice A1_1 l1_1.length c1_1]) (t := 25) ?hr ?_; (case hd => rfl); (case hg => rfl); (case hr => first | (go_simp; done) | (go_simp; rfl)); intro gb233 hg w6 hbox hb; have n0_ := Aside0.mk (Kd.V_below (Kd.V_elderB (by (with_reducible repeat (first | apply Kd.V_alloc | apply Kd.V_drewN | apply Kd.V_drew)); exact HO1_1.out) gb233 (Nat.le_of_eq hg.symm)) hb); have n1_ := Aside0.mk (blk_below (g := gb232) (o := .cells #[.bool a0_0, .slice A0_1 l0_1.length c0_1] 25 (0, 0)) (by (with_reducible repeat (first | refine blk_drewN ?_ _ | refine blk_drew ?_ | refine blk_alloc ?_ _)); exact BK232.out) hb); have n2_ := Aside0.mk (below_step (by repeat (first | (with_reducible first | exact HB.out | apply below_alloc | apply pw_below_drewN | apply below_drew1 | refine below_set ?_ GE232.out) | exact HB.out)) hb); have n3_ := Aside0.mk (hbox); have n4_ := Aside0.mk ((by rw [hg]; exact (below_size (by repeat (first | (with_reducible first | exact HB.out | apply below_alloc | apply pw_below_drewN | apply below_drew1 | refine below_set ?_ GE232.out) | exact HB.out))) : w.heap.size ≤ gb233)); have n5_ := Aside0.mk ((by rw [hg]; exact (below_size (by repeat (first | (with_reducible first | exact HB.out | apply below_alloc | apply pw_below_drewN | apply below_drew1 | refine below_set ?_ GE232.out) | exact HB.out))) : w.heap.size ≤ gb233)); have n6_ := Aside0.mk ((by rw [hg]; exact Nat.ne_of_lt (blk_lt (g := gb232) (o := .cells #[.bool a0_0, .slice A0_1 l0_1.length c0_1] 25 (0, 0)) (by (with_reducible repeat (first | refine blk_drewN ?_ _ | refine blk_drew ?_ | refine blk_alloc ?_ _)); exact BK232.out)) : gb232 ≠ gb233)); have n7_ := Aside0.mk ((by rw [hg]; exact Nat.ne_of_gt (blk_lt (g := gb232) (o := .cells #[.bool a0_0, .slice A0_1 l0_1.length c0_1] 25 (0, 0)) (by (with_reducible repeat (first | refine blk_drewN ?_ _ | refine blk_drew ?_ | refine blk_alloc ?_ _)); exact BK232.out)) : gb233 ≠ gb232)); clear HO1_1; clear BK232; clear HB; have HO1_1 := n0_; have BK232 := n1_; have HB := n2_; have BK233 := n3_; have GW233 := n4_; have GE233 := n5_; have NB232_233 := n6_; have NB233_232 := n7_; clear n0_ n1_ n2_ n3_ n4_ n5_ n6_ n7_; clear hb hbox hg) | ((with_reducible refine gate_dst (N := 4) rfl ?_); refine box_event ?hg (N := 4) ?hd (cs := #[.bool false, .slice none 0 0]) (t := 25) ?hr ?_; (case hd => rfl); (case hg => rfl); (case hr => first | (go_simp; done) | (go_simp; rfl)); intro gb234 hg w7 hbox hb; have n0_ := Aside0.mk (Kd.V_below (Kd.V_elderB (by (with_reducible repeat (first | apply Kd.V_alloc | apply Kd.V_drewN | apply Kd.V_drew)); exact HO1_1.out) gb234 (Nat.le_of_eq hg.symm)) hb); have n1_ := Aside0.mk (blk_below (g := gb232) (o := .cells #[.bool a0_0, .slice A0_1 l0_1.length c0_1] 25 (0, 0)) (by (with_reducible repeat (first | refine blk_drewN ?_ _ | refine blk_drew ?_ | refine blk_alloc ?_ _)); exact BK232.out) hb); have n2_ := Aside0.mk (blk_below (g := gb233) (o := .cells #[.bool a1_0, .slice A1_1 l1_1.length c1_1] 25 (0, 0)) (by (with_reducible repeat (first | refine blk_drewN ?_ _ | refine blk_drew ?_ | refine blk_alloc ?_ _)); exact BK233.out) hb); have n3_ := Aside0.mk (below_step (by repeat (first | (with_reducible first | exact HB.out | apply below_alloc | apply pw_below_drewN | apply below_drew1 | refine below_set ?_ GE232.out | refine below_set ?_ GE233.out) | exact HB.out)) hb); have n4_ := Aside0.mk (hbox); have n5_ := Aside0.mk ((by rw [hg]; exact (below_size (by repeat (first | (with_reducible first | exact HB.out | apply below_alloc | apply pw_below_drewN | apply below_drew1 | refine below_set ?_ GE232.out | refine below_set ?_ GE233.out) | exact HB.out))) : w.heap.size ≤ gb234)); have n6_ := Aside0.mk ((by rw [hg]; exact (below_size (by repeat (first | (with_reducible first | exact HB.out | apply below_alloc | apply pw_below_drewN | apply below_drew1 | refine below_set ?_ GE232.out | refine below_set ?_ GE233.out) | exact HB.out))) : w.heap.size ≤ gb234)); have n7_ := Aside0.mk ((by rw [hg]; exact Nat.ne_of_lt (blk_lt (g := gb232) (o := .cells #[.bool a0_0, .slice A0_1 l0_1.length c0_1] 25 (0, 0)) (by (with_reducible repeat (first | refine blk_drewN ?_ _ | refine blk_drew ?_ | refine blk_alloc ?_ _)); exact BK232.out)) : gb232 ≠ gb234)); have n8_ := Aside0.mk ((by rw [hg]; exact Nat.ne_of_gt (blk_lt (g := gb232) (o := .cells #[.bool a0_0, .slice A0_1 l0_1.length c0_1] 25 (0, 0)) (by (with_reducible repeat (first | refine blk_drewN ?_ _ | refine blk_drew ?_ | refine blk_alloc ?_ _)); exact BK232.out)) : gb234 ≠ gb232)); have n9_ := Aside0.mk ((by rw [hg]; exact Nat.ne_of_lt (blk_lt (g := gb233) (o := .cells #[.bool a1_0, .slice A1_1 l1_1.length c1_1] 25 (0, 0)) (by (with_reducible repeat (first | refine blk_drewN ?_ _ | refine blk_drew ?_ | refine blk_alloc ?_ _)); exact BK233.out)) : gb233 ≠ gb234)); have n10_ := Aside0.mk ((by rw [hg]; exact Nat.ne_of_gt (blk_lt (g := gb233) (o := .cells #[.bool a1_0, .slice A1_1 l1_1.length c1_1] 25 (0, 0)) (by (with_reducible repeat (first | refine blk_drewN ?_ _ | refine blk_drew ?_ | refine blk_alloc ?_ _)); exact BK233.out)) : gb234 ≠ gb233)); clear HO1_1; clear BK232; clear BK233; clear HB; have HO1_1 := n0_; have BK232 := n1_; have BK233 := n2_; have HB := n3_; have BK234 := n4_; have GW234 := n5_; have GE234 := n6_; have NB232_234 := n7_; have NB234_232 := n8_; have NB233_234 := n9_; have NB234_233 := n10_; clear n0_ n1_ n2_ n3_ n4_ n5_ n6_ n7_ n8_ n9_ n10_; clear hb hbox hg))
 have n0_ := Aside0.mk (Kd.V_drew HO1_1.out)
 have n1_ := Aside0.mk (blk_drew BK232.out)
 have n2_ := Aside0.mk (blk_drew BK233.out)
 have n3_ := Aside0.mk (blk_drew BK234.out)
 have n4_ := Aside0.mk (below_drew1 HB.out)
 clear HO1_1
 clear BK232
 clear BK233
 clear BK234
 clear HB
 have HO1_1 := n0_
 have BK232 := n1_
 have BK233 := n2_
 have BK234 := n3_
 have HB := n4_
 clear n0_ n1_ n2_ n3_ n4_
 refine start_ (n := 5) (S := fun w' => w'.cell? ⟨gb232, 0, none⟩ = some (.bool a0_0) ∧ w'.cell? ⟨gb232, 1, none⟩ = some (.slice A0_1 l0_1.length c0_1) ∧ w'.cell? ⟨gb233, 0, none⟩ = some (.bool a1_0) ∧ w'.cell? ⟨gb233, 1, none⟩ = some (.slice A1_1 l1_1.length c1_1)) (ds := []) #[false, false, false, false, false] (by kernel_rfl) rfl rfl ⟨(blk_cell BK232.out 0).trans rfl, (blk_cell BK232.out 1).trans rfl, (blk_cell BK233.out 0).trans rfl, (blk_cell BK233.out 1).trans rfl⟩ (fun hHeld => ?_)
 generalize w7.drew = w8 at HO1_1 BK232 BK233 BK234 HB hHeld ⊢
 refine take_ (i := 0) (N := some 5) (v := ?_) (a' := ?_) #[true, false, false, false, false] rfl rfl (by kernel_rfl) (fun _ _ _ h => h) (Or.inl ⟨by rfl, ?_⟩) hHeld ?_ ?_
 rotate_left
 ·
  rintro w' ⟨s0, s1, s2, s3⟩
  go_simp
  with_reducible rfl
 rotate_left
 ·
  simp only [Act.put, List.setIfInBounds_toArray, List.set_cons_zero, List.set_cons_succ, i64_w, i32_w]
  rfl
 refine take_ (i := 1) (N := some 6) (v := ?_) (a' := ?_) #[true, true, false, false, false] rfl rfl (by kernel_rfl) (fun _ _ _ h => h) (Or.inl ⟨by rfl, ?_⟩) hHeld ?_ ?_
 rotate_left
 ·
  rintro w' ⟨s0, s1, s2, s3⟩
  go_simp
  with_reducible rfl
 rotate_left
 ·
  simp only [Act.put, List.setIfInBounds_toArray, List.set_cons_zero, List.set_cons_succ, i64_w, i32_w]
  rfl
 refine one_ (i := 2) (N := some 7) #[true, true, true, false, false] rfl rfl (by kernel_rfl) (by decide) (fun K hK => ?_)
 refine goes_ Tryd.func39 (by kernel_rfl) rfl #[.agg #[.bool a1_0, .slice A1_1 l1_1.length c1_1]] (by rfl) rfl rfl (by (try simp only [List.map_toArray, List.map_cons, List.map_nil]); first | done | rfl | (simp only [List.length_drop, List.length_take]; rfl)) ?_
 with_reducible refine (integer_Neg.calls a1_0 (fun k_ => ((((P1_1_ k_ ∨ w.heap.size ≤ k_) ∧ k_ ≠ gb232) ∧ k_ ≠ gb233) ∧ k_ ≠ gb234)) _ _ l1_1 t235 t236 _ ?side1 A3.out).mono ?_
 (case side1 => exact HO1_1.out)
 rintro e w9 ⟨v237, rfl, ho0, hb⟩
 refine ⟨_, rfl, ?_⟩
 have n0_ := Aside0.mk (Kd.V_below (by (with_reducible repeat (first | apply Kd.V_alloc | apply Kd.V_drewN | apply Kd.V_drew)); exact HO1_1.out) hb)
 have n1_ := Aside0.mk (Kd.V_lower (Kd.V_mono (ok' := fun k_ => (P1_1_ k_ ∨ w.heap.size ≤ k_) ∧ k_ ≠ gb232 ∧ k_ ≠ gb233 ∧ k_ ≠ gb234) ho0 (fun k_ hk_ => ⟨Or.elim hk_ (fun hs_ => hs_.1.1.1) (fun hn_ => (.inr (Nat.le_trans (below_size (by repeat (first | (with_reducible first | exact HB.out | apply below_alloc | apply pw_below_drewN | apply below_drew1 | refine below_set ?_ GE232.out | refine below_set ?_ GE233.out | refine below_set ?_ GE234.out) | exact HB.out))) hn_))), Or.elim hk_ (fun hs_ => hs_.1.1.2) (fun hn_ => (Kd.freshB (g := gb232) (o := .cells #[.bool a0_0, .slice A0_1 l0_1.length c0_1] 25 (0, 0)) (by (with_reducible repeat (first | refine blk_drewN ?_ _ | refine blk_drew ?_ | refine blk_alloc ?_ _)); exact BK232.out) k_ hn_)), Or.elim hk_ (fun hs_ => hs_.1.2) (fun hn_ => (Kd.freshB (g := gb233) (o := .cells #[.bool a1_0, .slice A1_1 l1_1.length c1_1] 25 (0, 0)) (by (with_reducible repeat (first | refine blk_drewN ?_ _ | refine blk_drew ?_ | refine blk_alloc ?_ _)); exact BK233.out) k_ hn_)), Or.elim hk_ (fun hs_ => hs_.2) (fun hn_ => (Kd.freshB (g := gb234) (o := .cells #[.bool false, .slice none 0 0] 25 (0, 0)) (by (with_reducible repeat (first | refine blk_drewN ?_ _ | refine blk_drew ?_ | refine blk_alloc ?_ _)); exact BK234.out) k_ hn_))⟩)) (below_size (by repeat (first | (with_reducible first | exact HB.out | apply below_alloc | apply pw_below_drewN | apply below_drew1 | refine below_set ?_ GE232.out | refine below_set ?_ GE233.out | refine below_set ?_ GE234.out) | exact HB.out))))
 have n2_ := Aside0.mk (blk_below (g := gb232) (o := .cells #[.bool a0_0, .slice A0_1 l0_1.length c0_1] 25 (0, 0)) (by (with_reducible repeat (first | refine blk_drewN ?_ _ | refine blk_drew ?_ | refine blk_alloc ?_ _)); exact BK232.out) hb)
 have n3_ := Aside0.mk (blk_below (g := gb233) (o := .cells #[.bool a1_0, .slice A1_1 l1_1.length c1_1] 25 (0, 0)) (by (with_reducible repeat (first | refine blk_drewN ?_ _ | refine blk_drew ?_ | refine blk_alloc ?_ _)); exact BK233.out) hb)
 have n4_ := Aside0.mk (blk_below (g := gb234) (o := .cells #[.bool false, .slice none 0 0] 25 (0, 0)) (by (with_reducible repeat (first | refine blk_drewN ?_ _ | refine blk_drew ?_ | refine blk_alloc ?_ _)); exact BK234.out) hb)
 have n5_ := Aside0.mk (below_step (by repeat (first | (with_reducible first | exact HB.out | apply below_alloc | apply pw_below_drewN | apply below_drew1 | refine below_set ?_ GE232.out | refine below_set ?_ GE233.out | refine below_set ?_ GE234.out) | exact HB.out)) hb)
 clear HO1_1
 clear BK232
 clear BK233
 clear BK234
 clear HB
 have HO1_1 := n0_
 have HO238 := n1_
 have BK232 := n2_
 have BK233 := n3_
 have BK234 := n4_
 have HB := n5_
 clear n0_ n1_ n2_ n3_ n4_ n5_
 (try clear hb)
 (try clear hb2)
 (try clear hk)
 (try clear hi)
 (try clear ho0)
 obtain ⟨Ao10, co10, eo10⟩ := Kd.V_slice HO238.out
 (first | subst eo10 | (injection eo10 with f1_ f2_ f3_; have f4_ := f1_.symm; have f5_ := f3_.symm; clear f1_ f2_ f3_; subst f4_; subst f5_))
 refine hK.out _ _ ⟨(blk_cell BK232.out 0).trans rfl, (blk_cell BK232.out 1).trans rfl, (blk_cell BK233.out 0).trans rfl, (blk_cell BK233.out 1).trans rfl⟩ (fun hHeld => ?_)
 clear hK K
 refine norm_ (a' := ?_) ?_ ?_
 rotate_left
 ·
  show Act.put _ (some 7) _ = _
  simp only [Act.put, List.setIfInBounds_toArray, List.set_cons_zero, List.set_cons_succ, i64_w, i32_w]
  rfl
 refine one_ (i := 3) (N := some 8) #[true, true, true, true, false] rfl rfl (by kernel_rfl) (by decide) (fun K hK => ?_)
 refine goes_ Tryd.func35 (by kernel_rfl) rfl #[.agg #[.bool a0_0, .slice A0_1 l0_1.length c0_1], .agg #[.bool t235, .slice Ao10 t236.length co10]] (by rfl) rfl rfl (by (try simp only [List.map_toArray, List.map_cons, List.map_nil]); first | done | rfl | (simp only [List.length_drop, List.length_take]; rfl)) ?_
 with_reducible refine (integer_Add.calls k a0_0 _ _ l0_1 t235 _ _ t236 t239 t240 _ ?side1 ?side2 ?side3 ?side4 A4.out).mono ?_
 (case side1 => repeat (first | exact (Kd.C_below HR0_1.out HB.out) | (with_reducible refine Kd.C_alloc ?_ _) | (with_reducible refine Kd.C_drewN ?_ _) | (with_reducible refine Kd.C_drew ?_)))
 (case side2 => exact HC0_1.out)
 (case side3 => repeat (first | exact (Kd.V_reads' HO238.out).2.2 | (with_reducible refine Kd.C_alloc ?_ _) | (with_reducible refine Kd.C_drewN ?_ _) | (with_reducible refine Kd.C_drew ?_)))
 (case side4 => exact (Kd.V_reads' HO238.out).2.1)
 rintro e w11 ⟨v241, rfl, ho0, hb⟩
 refine ⟨_, rfl, ?_⟩
 have n0_ := Aside0.mk (Kd.V_below (by (with_reducible repeat (first | apply Kd.V_alloc | apply Kd.V_drewN | apply Kd.V_drew)); exact HO1_1.out) hb)
 have n1_ := Aside0.mk (Kd.V_below (by (with_reducible repeat (first | apply Kd.V_alloc | apply Kd.V_drewN | apply Kd.V_drew)); exact HO238.out) hb)
 have n2_ := Aside0.mk (Kd.V_lower (Kd.V_mono (ok' := fun k_ => (P1_1_ k_ ∨ w.heap.size ≤ k_) ∧ k_ ≠ gb232 ∧ k_ ≠ gb233 ∧ k_ ≠ gb234) ho0 (fun k_ hk_ => ⟨(.inr (Nat.le_trans (below_size (by repeat (first | (with_reducible first | exact HB.out | apply below_alloc | apply pw_below_drewN | apply below_drew1 | refine below_set ?_ GE232.out | refine below_set ?_ GE233.out | refine below_set ?_ GE234.out) | exact HB.out))) hk_)), (Kd.freshB (g := gb232) (o := .cells #[.bool a0_0, .slice A0_1 l0_1.length c0_1] 25 (0, 0)) (by (with_reducible repeat (first | refine blk_drewN ?_ _ | refine blk_drew ?_ | refine blk_alloc ?_ _)); exact BK232.out) k_ hk_), (Kd.freshB (g := gb233) (o := .cells #[.bool a1_0, .slice A1_1 l1_1.length c1_1] 25 (0, 0)) (by (with_reducible repeat (first | refine blk_drewN ?_ _ | refine blk_drew ?_ | refine blk_alloc ?_ _)); exact BK233.out) k_ hk_), (Kd.freshB (g := gb234) (o := .cells #[.bool false, .slice none 0 0] 25 (0, 0)) (by (with_reducible repeat (first | refine blk_drewN ?_ _ | refine blk_drew ?_ | refine blk_alloc ?_ _)); exact BK234.out) k_ hk_)⟩)) (below_size (by repeat (first | (with_reducible first | exact HB.out | apply below_alloc | apply pw_below_drewN | apply below_drew1 | refine below_set ?_ GE232.out | refine below_set ?_ GE233.out | refine below_set ?_ GE234.out) | exact HB.out))))
 have n3_ := Aside0.mk (blk_below (g := gb232) (o := .cells #[.bool a0_0, .slice A0_1 l0_1.length c0_1] 25 (0, 0)) (by (with_reducible repeat (first | refine blk_drewN ?_ _ | refine blk_drew ?_ | refine blk_alloc ?_ _)); exact BK232.out) hb)
 have n4_ := Aside0.mk (blk_below (g := gb233) (o := .cells #[.bool a1_0, .slice A1_1 l1_1.length c1_1] 25 (0, 0)) (by (with_reducible repeat (first | refine blk_drewN ?_ _ | refine blk_drew ?_ | refine blk_alloc ?_ _)); exact BK233.out) hb)
 have n5_ := Aside0.mk (blk_below (g := gb234) (o := .cells #[.bool false, .slice none 0 0] 25 (0, 0)) (by (with_reducible repeat (first | refine blk_drewN ?_ _ | refine blk_drew ?_ | refine blk_alloc ?_ _)); exact BK234.out) hb)
 have n6_ := Aside0.mk (below_step (by repeat (first | (with_reducible first | exact HB.out | apply below_alloc | apply pw_below_drewN | apply below_drew1 | refine below_set ?_ GE232.out | refine below_set ?_ GE233.out | refine below_set ?_ GE234.out) | exact HB.out)) hb)
 clear HO1_1
 clear HO238
 clear BK232
 clear BK233
 clear BK234
 clear HB
 have HO1_1 := n0_
 have HO238 := n1_
 have HO242 := n2_
 have BK232 := n3_
 have BK233 := n4_
 have BK234 := n5_
 have HB := n6_
 clear n0_ n1_ n2_ n3_ n4_ n5_ n6_
 (try clear hb)
 (try clear hb2)
 (try clear hk)
 (try clear hi)
 (try clear ho0)
 obtain ⟨Ao13, co13, eo13⟩ := Kd.V_slice HO242.out
 (first | subst eo13 | (injection eo13 with f1_ f2_ f3_; have f4_ := f1_.symm; have f5_ := f3_.symm; clear f1_ f2_ f3_; subst f4_; subst f5_))
 refine hK.out _ _ ⟨(blk_cell BK232.out 0).trans rfl, (blk_cell BK232.out 1).trans rfl, (blk_cell BK233.out 0).trans rfl, (blk_cell BK233.out 1).trans rfl⟩ (fun hHeld => ?_)
 clear hK K
 refine norm_ (a' := ?_) ?_ ?_
 rotate_left
 ·
  show Act.put _ (some 8) _ = _
  simp only [Act.put, List.setIfInBounds_toArray, List.set_cons_zero, List.set_cons_succ, i64_w, i32_w]
  rfl
 refine one_ (i := 4) (N := none) #[true, true, true, true, true] rfl rfl (by kernel_rfl) (by decide) (fun K hK => ?_)
 have hs12 : w11.cell? ⟨gb234, 0, none⟩ = some (.bool false) := (blk_cell BK234.out 0).trans rfl
 have hfs12 := blk_frozen BK234.out 0
 have hns12_0 := NB232_234.out
 have hns12_1 := NB233_234.out
 have hms12_0 := NB234_232.out
 have hms12_1 := NB234_233.out
 have hs14 : w11.cell? ⟨gb234, 1, none⟩ = some (.slice none 0 0) := (blk_cell BK234.out 1).trans rfl
 have hfs14 := blk_frozen BK234.out 1
 have hns14_0 := NB232_234.out
 have hns14_1 := NB233_234.out
 have hms14_0 := NB234_232.out
 have hms14_1 := NB234_233.out
 refine skip_ (w1 := ?_) (by rfl) rfl ?_ ?_
 rotate_left
 ·
  go_simp
  rfl
 refine hK.out _ _ ⟨((cell_far (p := ⟨gb234, _, none⟩) NB232_234.out _).trans (((cell_far (p := ⟨gb234, _, none⟩) NB232_234.out _).trans (hHeld.1)))), ((cell_far (p := ⟨gb234, _, none⟩) NB232_234.out _).trans (((cell_far (p := ⟨gb234, _, none⟩) NB232_234.out _).trans (hHeld.2.1)))), ((cell_far (p := ⟨gb234, _, none⟩) NB233_234.out _).trans (((cell_far (p := ⟨gb234, _, none⟩) NB233_234.out _).trans (hHeld.2.2.1)))), ((cell_far (p := ⟨gb234, _, none⟩) NB233_234.out _).trans (((cell_far (p := ⟨gb234, _, none⟩) NB233_234.out _).trans (hHeld.2.2.2))))⟩ (fun hHeld => ?_)
 clear hK K
 refine done_ (by kernel_rfl) ?_
 try go_wp2
 refine bodyPost_ret (results_cell_row rfl _ _ gb234 25 #[.bool t239, .slice Ao13 t240.length co13] (0, 0) _ rfl (by (with_reducible repeat (first | refine blk_drewN ?_ _ | refine blk_drew ?_ | refine blk_alloc ?_ _)); refine blk_put (cs := #[.bool t239, .slice none 0 0]) ?_ 1 _ rfl; (with_reducible repeat (first | refine blk_drewN ?_ _ | refine blk_drew ?_ | refine blk_alloc ?_ _)); refine blk_put (cs := #[.bool false, .slice none 0 0]) ?_ 0 _ rfl; (with_reducible repeat (first | refine blk_drewN ?_ _ | refine blk_drew ?_ | refine blk_alloc ?_ _)); exact BK234.out) Tryd.underlying25 rfl (by kernel_rfl)) rfl ?_
 exact ⟨_, by first | rfl | (simp [errW_none, errW_some] <;> rfl) | (simp [*, errW_none, errW_some] <;> rfl), by (with_reducible repeat (first | apply Kd.V_alloc | apply Kd.V_drewN | apply Kd.V_drew)); exact Kd.V_mono (Kd.V_far (p := ⟨gb234, 1, none⟩) (Kd.V_far (p := ⟨gb234, 0, none⟩) (Kd.V_mono HO242.out (fun k_ hk => (⟨hk, hk.2.2.2⟩ : _ ∧ k_ ≠ gb234))) (fun _ hk => hk.2) (.bool t239)) (fun _ hk => hk.2) (.slice Ao13 t240.length co13)) (fun _ hk => hk.1.1), by repeat (first | (with_reducible first | exact HB.out | apply below_alloc | apply pw_below_drewN | apply below_drew1 | refine below_set ?_ GE232.out | refine below_set ?_ GE233.out | refine below_set ?_ GE234.out) | exact HB.out)⟩
def integer_divide.f (k : Nat) (l0 : List Int) (l1 : List Int) : Option (List Int × List Int) := (integer_order.f k l0 l1).bind fun t279 => (if t279 < 0 then (some (([] : List Int), l0)) else (if (l1.length : Int) = 1 then (if 0 < (l1.length : Int) then ((integer_short.f k l0 (rd l1 0)).bind fun bt281 => ((integer_trim.f k (([bt281.2] : List Int))).bind fun t288 => (some (bt281.1, t288)))) else (none)) else (none)))
theorem integer_divide.mono : ∀ a0 a1 k, LeO (integer_divide.f k a0 a1) (integer_divide.f (k + 1) a0 a1) := by
 intro a0 a1 k
 unfold integer_divide.f
 repeat' first
   | (with_reducible exact integer_order.mono _ _ _)
   | (with_reducible exact integer_short.mono _ _ _)
   | (with_reducible exact integer_trim.mono _ _)
   | (with_reducible exact LeO.refl _)
   | (with_reducible exact LeO.none _)
   | (with_reducible refine LeO.ite ?_ ?_)
   | (with_reducible refine LeO.bind ?_ (fun _ => ?_))
   | exact integer_order.mono _ _ _
   | exact integer_short.mono _ _ _
   | exact integer_trim.mono _ _
   | exact LeO.none _
   | refine LeO.ite ?_ ?_
   | refine LeO.bind ?_ (fun _ => ?_)
set_option maxHeartbeats 8000000 in
set_option maxRecDepth 100000 in
theorem integer_divide.calls (k : Nat) (P0_ : Nat → Prop) (A0 : Option Addr) (c0 : Nat) (l0 : List Int) (A1 : Option Addr) (c1 : Nat) (l1 : List Int) (r1 : List Int) (r2 : List Int) (w : World) (hs0 : Kd.V (Kd.int .u32) 60 w w.heap.size (fun k_ => P0_ k_) (.slice A0 l0.length c0) l0) (hr1 : Kd.C (Kd.int .u32) w A1 l1.length l1) (hc1 : l1.length ≤ c1) (h : integer_divide.f k l0 l1 = some (r1, r2)) :
  Calls Tryd.prog 59 #[.slice A0 l0.length c0, .slice A1 l1.length c1] w fun e w' => ∃ v0_ v1_ : Value, e = .returned (.tuple #[v0_, v1_]) ∧ Kd.V (Kd.int .u32) 60 w' w.heap.size (fun k_ => (P0_ k_ ∨ w.heap.size ≤ k_)) v0_ r1 ∧ Kd.V (Kd.int .u32) 60 w' w.heap.size (fun k_ => (P0_ k_ ∨ w.heap.size ≤ k_)) v1_ r2 ∧ Below w.heap.size w w' := by
 have HO0 := Aside0.mk (show Kd.V (Kd.int .u32) 60 w w.heap.size (fun k_ => (P0_ k_ ∨ w.heap.size ≤ k_)) (.slice A0 l0.length c0) l0 from Kd.V_mono hs0 (fun k_ hk => .inl hk))
 have HR1 := Aside0.mk hr1
 have HC1 := Aside0.mk hc1
 clear hr1 hc1
 have HB := Aside0.mk (Below.refl w.heap.size w)
 have H : ((integer_order.f k l0 l1).bind fun t279 => (if t279 < 0 then (some (([] : List Int), l0)) else (if (l1.length : Int) = 1 then (if 0 < (l1.length : Int) then ((integer_short.f k l0 (rd l1 0)).bind fun bt281 => ((integer_trim.f k (([bt281.2] : List Int))).bind fun t288 => (some (bt281.1, t288)))) else (none)) else (none)))) = some (r1, r2) := h
 clear h
 replace H := Option.bind_eq_some_iff.mp H
 obtain ⟨t279, A30, H⟩ := H
 replace H : (if t279 < 0 then (some (([] : List Int), l0)) else (if (l1.length : Int) = 1 then (if 0 < (l1.length : Int) then ((integer_short.f k l0 (rd l1 0)).bind fun bt281 => ((integer_trim.f k (([bt281.2] : List Int))).bind fun t288 => (some (bt281.1, t288)))) else (none)) else (none))) = some (r1, r2) := H
 have A3 := Aside0.mk A30
 clear A30
 by_cases c4 : t279 < 0
 ·
  rw [if_pos c4] at H
  have c4b0 : decide (t279 < 0) = true := decide_eq_true c4
  clear c4
  simp only [Option.some.injEq, Prod.mk.injEq] at H
  obtain ⟨rfl, rfl⟩ := H
  go_enter Tryd.func59, Tryd.ntmps59
  go_wp2_with (first | ((with_reducible refine gate_callee (f := 52) rfl ?_); refine goesL_ (some 14) rfl rfl Tryd.func52 (by kernel_rfl) rfl #[.slice A0 l0.length c0, .slice A1 l1.length c1] rfl (by (try simp only [List.map_toArray, List.map_cons, List.map_nil]); first | done | rfl | (simp only [List.length_drop, List.length_take]; rfl)) ?_; (with_reducible refine (integer_order.calls k _ _ l0 _ _ l1 t279 _ ?side1 ?side2 ?side3 ?side4 A3.out).mono ?_); (case side1 => repeat (first | exact (Kd.V_reads' HO0.out).2.2 | (with_reducible refine Kd.C_alloc ?_ _) | (with_reducible refine Kd.C_drewN ?_ _) | (with_reducible refine Kd.C_drew ?_))); (case side2 => exact (Kd.V_reads' HO0.out).2.1); (case side3 => repeat (first | exact HR1.out | (with_reducible refine Kd.C_alloc ?_ _) | (with_reducible refine Kd.C_drewN ?_ _) | (with_reducible refine Kd.C_drew ?_))); (case side4 => exact HC1.out); rintro e w' ⟨rfl, ⟨nd, rfl⟩⟩; refine ⟨_, rfl, ?_⟩))
  go_ret2
  exact ⟨_, _, by first | rfl | (simp [errW_none, errW_some] <;> rfl) | (simp [*, errW_none, errW_some] <;> rfl), by first | exact Kd.R_nil _ _ _ _ _ | exact Kd.N_nil _ _ _ _ _ | exact Kd.V_nil _ _ _ _ _ | exact Kd.Q_nil _ _ _ _ _ | exact Kd.S_nil _ _ _ _ _, by (with_reducible repeat (first | apply Kd.V_alloc | apply Kd.V_drewN | apply Kd.V_drew)); exact HO0.out, by repeat (first | (with_reducible first | exact HB.out | apply below_alloc | apply pw_below_drewN | apply below_drew1) | exact HB.out)⟩
 ·
  rw [if_neg c4] at H
  have c4b0 : decide (t279 < 0) = false := decide_eq_false c4
  clear c4
  by_cases c5 : (l1.length : Int) = 1
  ·
   rw [if_pos c5] at H
   have c5b0 : ((l1.length : Int) == 1) = true := beq_iff_eq.mpr c5
   have c5b1 : ((l1.length : Int) != 1) = false := bne_eq_false_iff_eq.mpr c5
   clear c5
   by_cases c6 : 0 < (l1.length : Int)
   ·
    rw [if_pos c6] at H
    have c6b0 : decide (0 < (l1.length : Int)) = true := decide_eq_true c6
    have c6b1 : decide (0 < l1.length) = true := decide_eq_true (by omega)
    clear c6
    replace H := Option.bind_eq_some_iff.mp H
    obtain ⟨⟨t281, t284⟩, A70, H⟩ := H
    replace H : ((integer_trim.f k (([t284] : List Int))).bind fun t288 => (some (t281, t288))) = some (r1, r2) := H
    have A7 := Aside0.mk A70
    clear A70
    obtain ⟨y285, hy285⟩ : ∃ y_ : List Int, y_ = (([t284] : List Int)) := ⟨_, rfl⟩
    replace H : ((integer_trim.f k y285).bind fun t288 => (some (t281, t288))) = some (r1, r2) := by first | (rw [hy285]; with_reducible exact H) | (have H2_ := (Option.bind_some _ _).symm.trans H; rw [hy285]; with_reducible exact H2_) | (have H2_ := (Option.bind_some _ _).symm.trans H; with_reducible exact H2_) | with_reducible exact H | (rw [hy285]; exact H) | exact H
    have Ny285 := Aside0.mk hy285
    clear hy285
    replace H := Option.bind_eq_some_iff.mp H
    obtain ⟨t288, A80, H⟩ := H
    replace H : (some (t281, t288)) = some (r1, r2) := H
    have A8 := Aside0.mk A80
    clear A80
    simp only [Option.some.injEq, Prod.mk.injEq] at H
    obtain ⟨rfl, rfl⟩ := H
    go_enter Tryd.func59, Tryd.ntmps59
    go_wp2_with (first | ((with_reducible refine gate_callee (f := 52) rfl ?_); refine goesL_ (some 14) rfl rfl Tryd.func52 (by kernel_rfl) rfl #[.slice A0 l0.length c0, .slice A1 l1.length c1] rfl (by (try simp only [List.map_toArray, List.map_cons, List.map_nil]); first | done | rfl | (simp only [List.length_drop, List.length_take]; rfl)) ?_; (with_reducible refine (integer_order.calls k _ _ l0 _ _ l1 t279 _ ?side1 ?side2 ?side3 ?side4 A3.out).mono ?_); (case side1 => repeat (first | exact (Kd.V_reads' HO0.out).2.2 | (with_reducible refine Kd.C_alloc ?_ _) | (with_reducible refine Kd.C_drewN ?_ _) | (with_reducible refine Kd.C_drew ?_))); (case side2 => exact (Kd.V_reads' HO0.out).2.1); (case side3 => repeat (first | exact HR1.out | (with_reducible refine Kd.C_alloc ?_ _) | (with_reducible refine Kd.C_drewN ?_ _) | (with_reducible refine Kd.C_drew ?_))); (case side4 => exact HC1.out); rintro e w' ⟨rfl, ⟨nd, rfl⟩⟩; refine ⟨_, rfl, ?_⟩; have p280 : 0 ≤ (0 : Int) := (by omega); have q280 : 0 < (l1.length : Int) := of_decide_eq_true (by assumption); obtain ⟨ad280, e280, hx280_0⟩ := Kd.at_int HR1.out 0 p280 q280; cases e280; have qi280 : (0 < l1.length) = True := eq_true (by omega); (try rw [show ((0 : Int)).toNat = 0 from rfl] at hx280_0); (try rw [Addr.add_zero'] at hx280_0); replace p280 := eq_true p280; replace q280 := eq_true q280) | ((with_reducible refine gate_callee (f := 46) rfl ?_); refine goesL_ (some 25) rfl rfl Tryd.func46 (by kernel_rfl) rfl #[.slice A0 l0.length c0, .int .u32 (rd l1 0)] rfl (by (try simp only [List.map_toArray, List.map_cons, List.map_nil]); first | done | rfl | (simp only [List.length_drop, List.length_take]; rfl)) ?_; (with_reducible refine (integer_short.calls k _ _ l0 (rd l1 0) t281 t284 _ ?side1 ?side2 A7.out).mono ?_); (case side1 => repeat (first | exact (Kd.V_reads' HO0.out).2.2 | (with_reducible refine Kd.C_alloc ?_ _) | (with_reducible refine Kd.C_drewN ?_ _) | (with_reducible refine Kd.C_drew ?_))); (case side2 => exact (Kd.V_reads' HO0.out).2.1); rintro e w9 ⟨v282, rfl, ho0, hb⟩; refine ⟨_, rfl, ?_⟩; have n0_ := Aside0.mk (Kd.V_below (by (with_reducible repeat (first | apply Kd.V_alloc | apply Kd.V_drewN | apply Kd.V_drew)); exact HO0.out) hb); have n1_ := Aside0.mk (Kd.V_lower (Kd.V_mono (ok' := fun k_ => (P0_ k_ ∨ w.heap.size ≤ k_)) ho0 (fun k_ hk_ => (.inr (Nat.le_trans (below_size (by repeat (first | (with_reducible first | exact HB.out | apply below_alloc | apply pw_below_drewN | apply below_drew1) | exact HB.out))) hk_)))) (below_size (by repeat (first | (with_reducible first | exact HB.out | apply below_alloc | apply pw_below_drewN | apply below_drew1) | exact HB.out)))); have n2_ := Aside0.mk (below_step (by repeat (first | (with_reducible first | exact HB.out | apply below_alloc | apply pw_below_drewN | apply below_drew1) | exact HB.out)) hb); clear HO0; clear HB; have HO0 := n0_; have HO283 := n1_; have HB := n2_; clear n0_ n1_ n2_; (try clear hb); (try clear hb2); (try clear hk); (try clear hi); (try clear ho0)) | ((with_reducible refine gate_dst (N := 30) rfl ?_); refine Kd.R_lit (Kd.int .u32) _ 60 ?hg (N := 30) ?hd (xs := ([t284] : List Int)) (inner := [.int .u32 t284]) (ok := fun _ => True) (okp := fun _ => True) ?hr ?hp (fun _ hk => hk) trivial (Below.refl _ _) (Nat.le_refl _) (by simp) ?_; (case hd => rfl); (case hg => rfl); (case hr => first | (go_simp; done) | (go_simp; rfl)); (case hp => exact (Reps.one (show Kd.M (Kd.int .u32) _ _ _ t284 [.int .u32 t284] from rfl) (Reps.none _ _))); intro v286 w10 ho11 hb hg_ hnew_; clear hg_ hnew_; (first | rw [← Ny285.out] at ho11 | (simp only [Int.reduceToNat] at ho11; rw [← Ny285.out] at ho11)); have n0_ := Aside0.mk (Kd.V_elder' (by (with_reducible repeat (first | apply Kd.V_alloc | apply Kd.V_drewN | apply Kd.V_drew)); exact HO0.out) (Kd.R_base ho11) hb); have n1_ := Aside0.mk (Kd.V_elder' (by (with_reducible repeat (first | apply Kd.V_alloc | apply Kd.V_drewN | apply Kd.V_drew)); exact HO283.out) (Kd.R_base ho11) hb); have n2_ := Aside0.mk (Kd.R_lower (Kd.R_newM (M := fun k_ => (w.heap.size ≤ k_)) ho11 (below_size (by repeat (first | (with_reducible first | exact HB.out | apply below_alloc | apply pw_below_drewN | apply below_drew1) | exact HB.out))) (fun k_ h_ => h_)) (below_size (by repeat (first | (with_reducible first | exact HB.out | apply below_alloc | apply pw_below_drewN | apply below_drew1) | exact HB.out)))); have n3_ := Aside0.mk (below_step (by repeat (first | (with_reducible first | exact HB.out | apply below_alloc | apply pw_below_drewN | apply below_drew1) | exact HB.out)) hb); clear HO0; clear HO283; clear HB; have HO0 := n0_; have HO283 := n1_; have HO287 := n2_; have HB := n3_; clear n0_ n1_ n2_ n3_; clear hb ho11; obtain ⟨Ao12, co12, eo12⟩ := Kd.R_slice HO287.out; subst eo12) | ((with_reducible refine gate_callee (f := 67) rfl ?_); refine goesL_ (some 31) rfl rfl Tryd.func67 (by kernel_rfl) rfl #[.slice Ao12 y285.length co12] rfl (by (try simp only [List.map_toArray, List.map_cons, List.map_nil]); first | done | rfl | (simp only [List.length_drop, List.length_take]; rfl)) ?_; (with_reducible refine (integer_trim.calls k (fun k_ => some k_ = (.slice Ao12 y285.length co12 : Value).ownBlock) _ _ y285 t288 _ ?side1 A8.out).mono ?_); (case side1 => exact Kd.R_V (Kd.R_tight rfl (HO287.out))); rintro e w13 ⟨v289, rfl, ho0, hb⟩; refine ⟨_, rfl, ?_⟩; have n0_ := Aside0.mk (Kd.V_below (by (with_reducible repeat (first | apply Kd.V_alloc | apply Kd.V_drewN | apply Kd.V_drew)); exact HO0.out) hb); have n1_ := Aside0.mk (Kd.V_below (by (with_reducible repeat (first | apply Kd.V_alloc | apply Kd.V_drewN | apply Kd.V_drew)); exact HO283.out) hb); have n2_ := Aside0.mk (Kd.R_below (by (with_reducible repeat (first | apply Kd.R_alloc | apply Kd.R_drewN | apply Kd.R_drew)); exact HO287.out) hb); have n3_ := Aside0.mk (Kd.V_lower (Kd.V_mono (ok' := fun k_ => (P0_ k_ ∨ w.heap.size ≤ k_)) ho0 (fun k_ hk_ => Or.elim hk_ (fun hs_ => (.inr (((HO287.out).1 k_ hs_.symm).1))) (fun hn_ => (.inr (Nat.le_trans (below_size (by repeat (first | (with_reducible first | exact HB.out | apply below_alloc | apply pw_below_drewN | apply below_drew1) | exact HB.out))) hn_))))) (below_size (by repeat (first | (with_reducible first | exact HB.out | apply below_alloc | apply pw_below_drewN | apply below_drew1) | exact HB.out)))); have n4_ := Aside0.mk (below_step (by repeat (first | (with_reducible first | exact HB.out | apply below_alloc | apply pw_below_drewN | apply below_drew1) | exact HB.out)) hb); clear HO0; clear HO283; clear HO287; clear HB; have HO0 := n0_; have HO283 := n1_; have HO287 := n2_; have HO290 := n3_; have HB := n4_; clear n0_ n1_ n2_ n3_ n4_; (try clear hb); (try clear hb2); (try clear hk); (try clear hi); (try clear ho0)))
    go_ret2
    exact ⟨_, _, by first | rfl | (simp [errW_none, errW_some] <;> rfl) | (simp [*, errW_none, errW_some] <;> rfl), by (with_reducible repeat (first | apply Kd.V_alloc | apply Kd.V_drewN | apply Kd.V_drew)); exact Kd.V_mono HO283.out (fun _ hk => hk.1), by (with_reducible repeat (first | apply Kd.V_alloc | apply Kd.V_drewN | apply Kd.V_drew)); exact HO290.out, by repeat (first | (with_reducible first | exact HB.out | apply below_alloc | apply pw_below_drewN | apply below_drew1) | exact HB.out)⟩
   ·
    rw [if_neg c6] at H
    exact absurd H (by simp)
  ·
   rw [if_neg c5] at H
   exact absurd H (by simp)
end Go.Proofs.YtiikfhdmclmjmaaDoor.P
