/- Part 3 of the proof of IntegerGcds: what the program's functions compute, told as plain functions, and what these answer. Conditions: none beside the statement's own. Gathered by the session's program merge.py out of its own and the printed texts; no declaration that the proof does not name is left in. -/
import Derived.Test.YtiikfhdmclmjmaaDoorIGcd2
set_option linter.unusedVariables false
set_option linter.unusedSimpArgs false
namespace Go.Proofs.YtiikfhdmclmjmaaDoor.P
open Go.RowKit Go.Proofs.YtiikfhdmclmjmaaDoorW.PrintWords Go.Proofs.YtiikfhdmclmjmaaDoorW.PrintLast
def integer_raised.l0 : Nat → Int → List Int → List Int → Int → Int → Option (List Int)
 | 0, _, _, _, _, _ => none
 | k + 1, x1, x5, x12, x13, x14 => if x14 < x13 then (if 0 ≤ x14 then (if x14 < (x12.length : Int) then (if x14 < (x5.length : Int) then (if 0 ≤ x1 then (if 0 ≤ (wrap64 (x14 + 1)) then (if (wrap64 (x14 + 1)) < (x5.length : Int) then (integer_raised.l0 k x1 ((x5.set (x14 : Int).toNat (Go.bits .or .u32 (rd x5 x14) (shl .u32 (rd x12 x14) x1))).set ((wrap64 (x14 + 1)) : Int).toNat (((shl .u64 (IntKind.u64.wrap (rd x12 x14)) x1) / 4294967296) % 4294967296)) x12 x13 (wrap64 (x14 + 1))) else (none)) else (none)) else (none)) else (none)) else (none)) else (none)) else (some x5)
def integer_raised.f (k : Nat) (l0 : List Int) (a1 : Int) : Option (List Int) := if 0 ≤ (wrap64 ((l0.length : Int) + 1)) then (if (wrap64 ((l0.length : Int) + 1) : Int).toNat ≤ 70368744177664 then (integer_raised.l0 k a1 (List.replicate (wrap64 ((l0.length : Int) + 1) : Int).toNat 0) l0 (l0.length : Int) 0) else (none)) else (none)
theorem integer_raised.mono_l : ∀ k, (∀ y0 y1 y2 y3 y4, LeO (integer_raised.l0 k y0 y1 y2 y3 y4) (integer_raised.l0 (k + 1) y0 y1 y2 y3 y4))
 | 0 => fun _ _ _ _ _ r h => by simp [integer_raised.l0] at h
 | k + 1 => by
  have ih0 := integer_raised.mono_l k
  ·
   intro y0 y1 y2 y3 y4
   unfold integer_raised.l0
   repeat' with_reducible first | exact ih0 _ _ _ _ _ | exact LeO.refl _ | exact LeO.none _ | refine LeO.ite ?_ ?_ | refine LeO.bind ?_ (fun _ => ?_)
theorem integer_raised.mono : ∀ a0 a1 k, LeO (integer_raised.f k a0 a1) (integer_raised.f (k + 1) a0 a1) := by
 intro a0 a1 k
 have ih0 := integer_raised.mono_l k
 unfold integer_raised.f
 repeat' with_reducible first | exact ih0 _ _ _ _ _ | exact LeO.refl _ | exact LeO.none _ | refine LeO.ite ?_ ?_ | refine LeO.bind ?_ (fun _ => ?_)
def integer_raised.T5 : Bool × List (List Nat × List Nat) := (true, [([], []), ([], []), ([0, 1], [0, 1]), ([2], [2]), ([], []), ([], []), ([4, 5], [4, 5]), ([3, 6], [3, 6]), ([0, 1, 0, 1, 2, 3, 4, 5, 6, 7], [0, 1]), ([8, 7, 0, 1, 2, 3, 4, 5, 6, 7], [7, 8])])
def integer_raised.B5 : List Nat := [0, 0, 3, 7, 0, 0, 48, 127, 255, 511]
theorem integer_raised.tab5 : rtab .any (opsOf Tryd.f80 5) = integer_raised.T5 := by kernel_rfl
theorem integer_raised.bits5 : waitsOk integer_raised.T5.2 integer_raised.B5 = true := by kernel_rfl
set_option maxHeartbeats 8000000 in
set_option maxRecDepth 100000 in
theorem integer_raised.calls (k : Nat) (A0 : Option Addr) (c0 : Nat) (l0 : List Int) (a1 : Int) (r : List Int) (w : World) (hr0 : Kd.C (Kd.int .u32) w A0 l0.length l0) (hc0 : l0.length ≤ c0) (h : integer_raised.f k l0 a1 = some r) :
  Calls Tryd.prog 80 #[.slice A0 l0.length c0, .int .i64 a1] w fun e w' => ∃ v0_ : Value, e = .returned (v0_) ∧ Kd.R (Kd.int .u32) 60 w' w.heap.size (fun _ => True) v0_ r ∧ Below w.heap.size w w' := by
 have HR0 := Aside0.mk hr0
 have HC0 := Aside0.mk hc0
 clear hr0 hc0
 have HB := Aside0.mk (Below.refl w.heap.size w)
 have H := h
 unfold integer_raised.f at H
 clear h
 obtain ⟨ji3, hji3⟩ : ∃ j_ : Int, (wrap64 ((l0.length : Int) + 1)) = j_ := ⟨_, rfl⟩
 replace H : (if 0 ≤ (ji3) then (if (ji3 : Int).toNat ≤ 70368744177664 then (integer_raised.l0 k a1 (List.replicate (ji3 : Int).toNat 0) l0 (l0.length : Int) 0) else (none)) else (none)) = some r := by first | (rw [hji3] at H; exact H) | (simp only [hji3] at H ⊢; exact H)
 have hji3w : (IntKind.i64.wrap ((l0.length : Int) + 1)) = ji3 := (i64_w _).trans hji3
 by_cases c4 : 0 ≤ (ji3)
 ·
  rw [if_pos c4] at H
  have c4b0 := eq_true c4
  have c4b1 := decide_eq_true c4
  clear c4
  obtain ⟨c5, H⟩ := ite_some H
  have c5b0 := eq_true c5
  have c5b1 := decide_eq_true c5
  clear c5
  obtain ⟨y243, hy243⟩ : ∃ y_ : List Int, y_ = (List.replicate (ji3 : Int).toNat 0) := ⟨_, rfl⟩
  replace H : (integer_raised.l0 k a1 y243 l0 (l0.length : Int) 0) = some r := by first | (rw [hy243]; exact H) | exact H
  have Ny243 := Aside0.mk hy243
  clear hy243
  have H' := Aside0.mk H
  clear H
  go_enter Tryd.func80, Tryd.ntmps80
  go_wp2_with (first | ((with_reducible refine gate_dst (N := 11) rfl ?_); refine Kd.R_make (Kd.int .u32) _ 60 rfl (N := 11) rfl 23 _ _ rfl ji3 rfl rfl Tryd.underlying23 (.int .u32 0) 4 info60 rfl (by decide) (by omega) 0 (ok := fun _ => True) (okp := fun _ => True) rfl (fun _ hk => hk) trivial (of_decide_eq_true (by assumption)) (Nat.le_trans (Nat.mul_le_mul_right _ (of_decide_eq_true (by assumption) : ji3.toNat ≤ 70368744177664)) (by omega)) (Below.refl _ _) (Nat.le_refl _) ?_; intro v244 w6 ho7 hb hg_ hnew_; clear hg_ hnew_; (first | rw [← Ny243.out] at ho7 | (simp only [Int.reduceToNat] at ho7; rw [← Ny243.out] at ho7)); have HO245 := Aside0.mk (Kd.R_lower ho7 (below_size (below_up HB.out))); replace HB := Aside0.mk (below_step (below_up HB.out) hb); clear hb ho7))
  go_loopg [14] k (fun kq v14 w' => ∃ (x5_1 : List Int) (x14_1 : Int), v14 = .int .i64 x14_1 ∧ Aside0 (integer_raised.l0 kq a1 x5_1 l0 (l0.length : Int) x14_1 = some r) ∧ Aside0 (kq ≤ k) ∧ Aside0 (Kd.R (Kd.int .u32) 60 w' w.heap.size (fun _ => True) v244 x5_1) ∧ Aside0 (Below w.heap.size w w'))
  case atStart => exact ⟨(y243), (0), (by first | rfl | (simp; done) | (simp [*]; done) | (simp <;> omega)), H', ⟨Nat.le_refl _⟩, ⟨Kd.R_up HO245.out⟩, ⟨below_up HB.out⟩⟩
  case round =>
   clear H'
   obtain ⟨x5_1, x14_1, rfl, HA, HK1, HO_5, HB⟩ := hrel
   cases gk with
   | zero => exact absurd HA.out (by simp [integer_raised.l0])
   | succ k1 =>
    have H := HA.out
    clear HA
    simp only [integer_raised.l0] at H
    by_cases c8 : x14_1 < (l0.length : Int)
    ·
     rw [if_pos c8] at H
     have c8b0 := decide_eq_true c8
     clear c8
     obtain ⟨c9, H⟩ := ite_some H
     have c9b0 := decide_eq_true c9
     clear c9
     obtain ⟨c10, H⟩ := ite_some H
     have c10b0 := decide_eq_true c10
     clear c10
     obtain ⟨c11, H⟩ := ite_some H
     have c11b0 := decide_eq_true c11
     clear c11
     obtain ⟨c12, H⟩ := ite_some H
     have c12b0 := eq_true c12
     have c12b1 := decide_eq_true c12
     clear c12
     obtain ⟨ji13, hji13⟩ : ∃ j_ : Int, (shl .u32 (rd l0 x14_1) a1) = j_ := ⟨_, rfl⟩
     replace H : (if 0 ≤ (wrap64 (x14_1 + 1)) then (if (wrap64 (x14_1 + 1)) < (x5_1.length : Int) then (integer_raised.l0 k1 a1 ((x5_1.set (x14_1 : Int).toNat (Go.bits .or .u32 (rd x5_1 x14_1) (ji13))).set ((wrap64 (x14_1 + 1)) : Int).toNat (((shl .u64 (IntKind.u64.wrap (rd l0 x14_1)) a1) / 4294967296) % 4294967296)) l0 (l0.length : Int) (wrap64 (x14_1 + 1))) else (none)) else (none)) = some r := by first | (rw [hji13] at H; exact H) | (simp only [hji13] at H ⊢; exact H)
     have hji13_ : (IntKind.u32.wrap ((rd l0 x14_1) * 2 ^ min a1.toNat 32)) = ji13 := hji13
     have hji13z : a1 ≤ 32 → (IntKind.u32.wrap ((rd l0 x14_1) * 2 ^ a1.toNat)) = ji13 := shl_small hji13
     obtain ⟨y248, hy248⟩ : ∃ y_ : List Int, y_ = (x5_1.set (x14_1 : Int).toNat (Go.bits .or .u32 (rd x5_1 x14_1) (ji13))) := ⟨_, rfl⟩
     replace H : (if 0 ≤ (wrap64 (x14_1 + 1)) then (if (wrap64 (x14_1 + 1)) < (x5_1.length : Int) then (integer_raised.l0 k1 a1 (y248.set ((wrap64 (x14_1 + 1)) : Int).toNat (((shl .u64 (IntKind.u64.wrap (rd l0 x14_1)) a1) / 4294967296) % 4294967296)) l0 (l0.length : Int) (wrap64 (x14_1 + 1))) else (none)) else (none)) = some r := by first | (rw [hy248]; exact H) | exact H
     have Ny248 := Aside0.mk hy248
     clear hy248
     have c15b0 := eq_true (of_decide_eq_true (by assumption) : 0 ≤ a1)
     obtain ⟨ji16, hji16⟩ : ∃ j_ : Int, (shl .u64 (IntKind.u64.wrap (rd l0 x14_1)) a1) = j_ := ⟨_, rfl⟩
     replace H : (if 0 ≤ (wrap64 (x14_1 + 1)) then (if (wrap64 (x14_1 + 1)) < (x5_1.length : Int) then (integer_raised.l0 k1 a1 (y248.set ((wrap64 (x14_1 + 1)) : Int).toNat (((ji16) / 4294967296) % 4294967296)) l0 (l0.length : Int) (wrap64 (x14_1 + 1))) else (none)) else (none)) = some r := by first | (rw [hji16] at H; exact H) | (simp only [hji16] at H ⊢; exact H)
     have hji16_ : (IntKind.u64.wrap ((IntKind.u64.wrap (rd l0 x14_1)) * 2 ^ min a1.toNat 64)) = ji16 := hji16
     have hji16z : a1 ≤ 64 → (IntKind.u64.wrap ((IntKind.u64.wrap (rd l0 x14_1)) * 2 ^ a1.toNat)) = ji16 := shl_small hji16
     obtain ⟨ji17, hji17⟩ : ∃ j_ : Int, (wrap64 (x14_1 + 1)) = j_ := ⟨_, rfl⟩
     replace H : (if 0 ≤ (ji17) then (if (ji17) < (x5_1.length : Int) then (integer_raised.l0 k1 a1 (y248.set ((ji17) : Int).toNat (((ji16) / 4294967296) % 4294967296)) l0 (l0.length : Int) ji17) else (none)) else (none)) = some r := by first | (rw [hji17] at H; exact H) | (simp only [hji17] at H ⊢; exact H)
     have hji17w : (IntKind.i64.wrap (x14_1 + 1)) = ji17 := (i64_w _).trans hji17
     obtain ⟨c18, H⟩ := ite_some H
     have c18b0 := decide_eq_true c18
     clear c18
     obtain ⟨c19, H⟩ := ite_some H
     have c19b0 := decide_eq_true c19
     clear c19
     obtain ⟨y249, hy249⟩ : ∃ y_ : List Int, y_ = (y248.set ((ji17) : Int).toNat (((ji16) / 4294967296) % 4294967296)) := ⟨_, rfl⟩
     replace H : (integer_raised.l0 k1 a1 y249 l0 (l0.length : Int) ji17) = some r := by first | (rw [hy249]; exact H) | exact H
     have Ny249 := Aside0.mk hy249
     clear hy249
     have H' := Aside0.mk H
     clear H
     have p246 : 0 ≤ (x14_1 : Int) := of_decide_eq_true (by assumption)
     have q246 : x14_1 < (l0.length : Int) := of_decide_eq_true (by assumption)
     obtain ⟨ad246, e246, hx246_0⟩ := Kd.at_int HR0.out x14_1 p246 q246
     cases e246
     replace hx246_0 := (HB.out.cell (World.block_lt_of_cell? w _ hx246_0)).trans hx246_0
     replace p246 := eq_true p246
     replace q246 := eq_true q246
     try go_wp2
     replace HO_5 := Aside0.mk (Kd.R_drew HO_5.out)
     replace HB := Aside0.mk (below_drew1 HB.out)
     obtain ⟨Ao22, co22, eo22⟩ := Kd.R_slice HO_5.out
     (first | subst eo22 | (injection eo22 with f1_ f2_ f3_; have f4_ := f1_.symm; have f5_ := f3_.symm; clear f1_ f2_ f3_; subst f4_; subst f5_))
     have p247 : 0 ≤ (x14_1 : Int) := of_decide_eq_true (by assumption)
     have q247 : x14_1 < (x5_1.length : Int) := of_decide_eq_true (by assumption)
     obtain ⟨ad247, e247, hx247_0⟩ := Kd.at_int (Kd.R_reads' HO_5.out).2.2 x14_1 p247 q247
     cases e247
     replace p247 := eq_true p247
     replace q247 := eq_true q247
     have p14 : 0 ≤ (x14_1 : Int) := of_decide_eq_true (by assumption)
     have q14 : (x14_1 : Int) < ((x5_1.length : Int) : Int) := of_decide_eq_true (by assumption)
     obtain ⟨go14, co14, eo14, gb14, gl14, cl14, HG14⟩ := Kd.R_form HO_5.out (by omega)
     (first | cases eo14 | (injection eo14 with ea_ en_ ec_; (first | subst ea_ | (injection ea_ with ea_; subst ea_)); subst ec_; clear en_))
     have GB14 := Aside0.mk gb14
     have GG14 := Aside0.mk HG14
     clear gb14 gl14 HG14
     (first | simp only [add_plain] at hx247_0 | skip)
     obtain ⟨hx14_0, hf14_0⟩ := Kd.R_celln 0 HO_5.out (x14_1 : Int) p14 q14
     replace p14 := eq_true p14
     replace q14 := eq_true q14
     have HP23 := Kd.R_putn HO_5.out (x14_1 : Int) (Go.bits .or .u32 (rd x5_1 x14_1) (ji13))
     rw [← Ny248.out] at HP23
     have HQ23 := Aside0.mk HP23
     clear HP23
     refine start_ (n := 10) (S := fun w' => w'.cell? ⟨go14, (x14_1).toNat, none⟩ = some (.int .u32 (rd x5_1 x14_1))) (ds := [9]) #[false, false, false, false, false, false, false, false, false, false] (by kernel_rfl) rfl rfl (hx247_0) (fun hHeld => ?_); refine with_tabW integer_raised.tab5 integer_raised.bits5 (fun HT_ HW_ => ?_)
     generalize wr.drew = w21 at HO_5 HB GG14 HQ23 hf14_0 hx14_0 hx247_0 hHeld ⊢
     refine pu_ 0 (some 19) (bs 1 9) HT_.out ?_
     refine pu_ 1 (some 20) (bs 2 8) HT_.out ?_
     refine pu_ 2 (some 21) (bs 3 7) HT_.out ?_
     refine pu_ 4 (some 23) #[true, true, true, false, true, false, false, false, false, false] HT_.out ?_
     refine pu_ 5 (some 24) #[true, true, true, false, true, true, false, false, false, false] HT_.out ?_
     refine pu_ 6 (some 25) #[true, true, true, false, true, true, true, false, false, false] HT_.out ?_
     refine take_ (i := 3) (N := some 22) (v := ?_) (a' := ?_) #[true, true, true, true, true, true, true, false, false, false] rfl rfl (take_ofW HT_.out HW_.out (by kernel_rfl)) (fun _ _ _ h => h) (Or.inl ⟨by rfl, ?_⟩) hHeld ?_ ?_
     rotate_left
     ·
      intro w' s0
      go_simp
      with_reducible rfl
     rotate_left
     ·
      simp only [Act.put, List.setIfInBounds_toArray, List.set_cons_zero, List.set_cons_succ, i64_w, i32_w]
      rfl
     refine pu_ 7 (some 26) (bs 8 2) HT_.out ?_
     refine pu_ 8 (some 27) (bs 9 1) HT_.out ?_
     refine last_ (i := 9) (N := none) #[true, true, true, true, true, true, true, true, true, true] rfl rfl (one_of HT_.out (by kernel_rfl)) (by decide) (fun K hK => ?_)
     refine skip_ (w1 := ?_) (by rfl) rfl ?_ ?_
     rotate_left
     ·
      go_simp
      rfl
     refine hK.out _ _ ?_
     clear hK K
     refine done_ (done_of HT_.out (by kernel_rfl)) ?_
     have n0_ : Aside0 (Kd.R (Kd.int .u32) 60 (w21.setCell ⟨go14, (x14_1 : Int).toNat, none⟩ (.int .u32 (Go.bits .or .u32 (rd x5_1 x14_1) (ji13)))) w.heap.size (fun _ => True) (.slice (some ⟨go14, 0, none⟩) x5_1.length co22) y248) := ⟨Kd.R_up HQ23.out⟩
     have n1_ : Aside0 (Below w.heap.size w (w21.setCell ⟨go14, (x14_1 : Int).toNat, none⟩ (.int .u32 (Go.bits .or .u32 (rd x5_1 x14_1) (ji13))))) := ⟨by with_reducible repeat first | exact HB.out | apply below_alloc | apply pw_below_drewN | apply below_drew1 | refine below_set ?_ GB14.out⟩
     (try clear HO_5)
     (try clear HB)
     generalize (w21.setCell ⟨go14, (x14_1 : Int).toNat, none⟩ (.int .u32 (Go.bits .or .u32 (rd x5_1 x14_1) (ji13)))) = w24 at n0_ n1_ ⊢
     have HO_5 := n0_
     have HB := n1_
     clear n0_ n1_
     have p20 : 0 ≤ ((ji17) : Int) := of_decide_eq_true (by assumption)
     have q20 : ((ji17) : Int) < ((x5_1.length : Int) : Int) := of_decide_eq_true (by assumption)
     obtain ⟨hx20_0, hf20_0⟩ := Kd.R_celln 0 HO_5.out ((ji17) : Int) p20 q20
     replace p20 := eq_true p20
     replace q20 := eq_true q20
     obtain ⟨hy25_, hz25_⟩ := Kd.R_celln 0 HO_5.out ((ji17) : Int) (of_decide_eq_true (by assumption)) (of_decide_eq_true (by assumption))
     have HP25 := Kd.R_putg HO_5.out ((ji17) : Int) (((ji16) / 4294967296) % 4294967296)
     try go_wp2_with (first | ((with_reducible refine gate_store (t := 60) (p := 37) rfl ?_); refine store_event (t := 60) (p := 37) (v := ?vo_w26) (w1 := (w24.setCell ⟨go14, ((ji17) : Int).toNat, none⟩ (.int .u32 (((ji16) / 4294967296) % 4294967296)))) ?hg ?ho ?hn ?hr ?_; (case ho => rfl); (case hg => rfl); (case hn => rfl); (case hr => first | (go_simp; done) | (go_simp; rfl)); intro w26 hw; have hg : w24.grownBy w26 (some go14) := (by rw [hw]; exact HP25.2); have hp_ : Kd.R (Kd.int .u32) 60 w26 w.heap.size (fun _ => True) (.slice (some ⟨go14, 0, none⟩) x5_1.length co22) y249 := (by rw [hw, Ny249.out]; exact HP25.1); clear HP25; replace HO_5 := Aside0.mk (hp_); replace HB := Aside0.mk ((by rw [hw]; exact below_set (HB.out) GB14.out : Below w.heap.size w w26)); clear hg hw hp_))
     go_roundg k1
     case measure => have := HK1.out; omega
     case rel => exact ⟨(y249), (ji17), (by first | rfl | (simp; done) | (simp only [← hji17] <;> (first | rfl | simp)) | (simp [*]; done)), H', ⟨by have := HK1.out; omega⟩, ⟨Kd.R_up HO_5.out⟩, ⟨below_up HB.out⟩⟩
    ·
     rw [if_neg c8] at H
     have c8b0 := decide_eq_false c8
     clear c8
     obtain rfl := Option.some.inj H
     go_wp2
     go_ret
     exact ⟨_, by first | rfl | (simp [errW_none, errW_some] <;> rfl) | (simp only [← hji3]; first | rfl | (simp [errW_none, errW_some] <;> rfl)) | (simp [*, errW_none, errW_some] <;> rfl), Kd.R_up HO_5.out, below_up HB.out⟩
 ·
  rw [if_neg c4] at H
  exact absurd H (by simp)
mutual
def integer_digit.j1 : Nat → List Int → List Int → Int → Int → Option (Int × List Int)
 | 0, _, _, _, _ => none
 | k + 1, x0, x1, x5, x7 => integer_digit.l1 k x0 x1 x5 x7 0 0 x1 (x1.length : Int) 0
def integer_digit.l1 : Nat → List Int → List Int → Int → Int → Int → Int → List Int → Int → Int → Option (Int × List Int)
 | 0, _, _, _, _, _, _, _, _, _ => none
 | k + 1, x0, x1, x5, x7, x9, x10, x84, x85, x86 => if x86 < x85 then (if 0 ≤ x86 then (if x86 < (x84.length : Int) then (if x86 < (x0.length : Int) then ((some (x0.set (x86 : Int).toNat ((wrap64 ((wrap64 ((wrap64 (rd x0 x86)) - x10)) - ((IntKind.u64.wrap (x9 + (IntKind.u64.wrap (x7 * (IntKind.u64.wrap (rd x84 x86)))))) % 4294967296))) % 4294967296) : List Int)).bind fun y260 => (if (wrap64 ((wrap64 ((wrap64 (rd x0 x86)) - x10)) - ((IntKind.u64.wrap (x9 + (IntKind.u64.wrap (x7 * (IntKind.u64.wrap (rd x84 x86)))))) % 4294967296))) < 0 then (integer_digit.l1 k y260 x1 x5 x7 ((IntKind.u64.wrap (x9 + (IntKind.u64.wrap (x7 * (IntKind.u64.wrap (rd x84 x86)))))) / 4294967296) 1 x84 x85 (wrap64 (x86 + 1))) else (integer_digit.l1 k y260 x1 x5 x7 ((IntKind.u64.wrap (x9 + (IntKind.u64.wrap (x7 * (IntKind.u64.wrap (rd x84 x86)))))) / 4294967296) 0 x84 x85 (wrap64 (x86 + 1))))) else (none)) else (none)) else (none)) else (if 0 ≤ x5 then (if x5 < (x0.length : Int) then ((some (x0.set (x5 : Int).toNat ((wrap64 ((wrap64 ((wrap64 (rd x0 x5)) - x10)) - (wrap64 (x9)))) % 4294967296) : List Int)).bind fun y262 => (if (wrap64 ((wrap64 ((wrap64 (rd x0 x5)) - x10)) - (wrap64 (x9)))) ≥ 0 then (some ((x7) % 4294967296, y262)) else (integer_digit.l2 k y262 x5 x7 0 x1 (x1.length : Int) 0))) else (none)) else (none))
def integer_digit.l2 : Nat → List Int → Int → Int → Int → List Int → Int → Int → Option (Int × List Int)
 | 0, _, _, _, _, _, _, _ => none
 | k + 1, x0, x5, x7, x9, x137, x138, x139 => if x139 < x138 then (if 0 ≤ x139 then (if x139 < (x137.length : Int) then (if x139 < (x0.length : Int) then (integer_digit.l2 k (x0.set (x139 : Int).toNat ((IntKind.u64.wrap (x9 + (IntKind.u64.wrap ((IntKind.u64.wrap (rd x0 x139)) + (IntKind.u64.wrap (rd x137 x139)))))) % 4294967296)) x5 x7 ((IntKind.u64.wrap (x9 + (IntKind.u64.wrap ((IntKind.u64.wrap (rd x0 x139)) + (IntKind.u64.wrap (rd x137 x139)))))) / 4294967296) x137 x138 (wrap64 (x139 + 1))) else (none)) else (none)) else (none)) else (if 0 ≤ x5 then (if x5 < (x0.length : Int) then (some ((IntKind.u64.wrap (x7 - 1)) % 4294967296, (x0.set (x5 : Int).toNat (((rd x0 x5) + ((x9) % 4294967296)) % 4294967296)))) else (none)) else (none))
def integer_digit.l0 : Nat → List Int → List Int → Int → Int → Int → Option (Int × List Int)
 | 0, _, _, _, _, _ => none
 | k + 1, x0, x1, x5, x7, x8 => if x8 < 4294967296 then (if x7 ≥ 4294967296 then (if 0 ≤ (wrap64 (x5 - 1)) then (if (wrap64 (x5 - 1)) < (x1.length : Int) then (integer_digit.l0 k x0 x1 x5 (IntKind.u64.wrap (x7 - 1)) (IntKind.u64.wrap (x8 + (IntKind.u64.wrap (rd x1 (wrap64 (x5 - 1))))))) else (none)) else (none)) else (if 0 ≤ (wrap64 (x5 - 2)) then (if (wrap64 (x5 - 2)) < (x1.length : Int) then (if (wrap64 (x5 - 2)) < (x0.length : Int) then (if (IntKind.u64.wrap (x7 * (IntKind.u64.wrap (rd x1 (wrap64 (x5 - 2)))))) > (Go.bits .or .u64 (IntKind.u64.wrap (x8 * 4294967296)) (IntKind.u64.wrap (rd x0 (wrap64 (x5 - 2))))) then (if 0 ≤ (wrap64 (x5 - 1)) then (if (wrap64 (x5 - 1)) < (x1.length : Int) then (integer_digit.l0 k x0 x1 x5 (IntKind.u64.wrap (x7 - 1)) (IntKind.u64.wrap (x8 + (IntKind.u64.wrap (rd x1 (wrap64 (x5 - 1))))))) else (none)) else (none)) else (integer_digit.j1 k x0 x1 x5 x7)) else (none)) else (none)) else (none))) else (integer_digit.j1 k x0 x1 x5 x7)
end
def integer_digit.f (k : Nat) (l0 : List Int) (l1 : List Int) : Option (Int × List Int) := if 0 ≤ (l1.length : Int) then (if (l1.length : Int) < (l0.length : Int) then (if 0 ≤ (wrap64 ((l1.length : Int) - 1)) then (if (wrap64 ((l1.length : Int) - 1)) < (l0.length : Int) then (if (wrap64 ((l1.length : Int) - 1)) < (l1.length : Int) then (if (IntKind.u64.wrap (rd l1 (wrap64 ((l1.length : Int) - 1)))) = 0 then (none) else (integer_digit.l0 k l0 l1 (l1.length : Int) (IntKind.u64.wrap (Int.tdiv (Go.bits .or .u64 (IntKind.u64.wrap ((IntKind.u64.wrap (rd l0 (l1.length : Int))) * 4294967296)) (IntKind.u64.wrap (rd l0 (wrap64 ((l1.length : Int) - 1))))) (IntKind.u64.wrap (rd l1 (wrap64 ((l1.length : Int) - 1)))))) (Int.tmod (Go.bits .or .u64 (IntKind.u64.wrap ((IntKind.u64.wrap (rd l0 (l1.length : Int))) * 4294967296)) (IntKind.u64.wrap (rd l0 (wrap64 ((l1.length : Int) - 1))))) (IntKind.u64.wrap (rd l1 (wrap64 ((l1.length : Int) - 1))))))) else (none)) else (none)) else (none)) else (none)) else (none)
theorem integer_digit.mono_l : ∀ k, (∀ y0 y1 y2 y3, LeO (integer_digit.j1 k y0 y1 y2 y3) (integer_digit.j1 (k + 1) y0 y1 y2 y3)) ∧ (∀ y0 y1 y2 y3 y4 y5 y6 y7 y8, LeO (integer_digit.l1 k y0 y1 y2 y3 y4 y5 y6 y7 y8) (integer_digit.l1 (k + 1) y0 y1 y2 y3 y4 y5 y6 y7 y8)) ∧ (∀ y0 y1 y2 y3 y4 y5 y6, LeO (integer_digit.l2 k y0 y1 y2 y3 y4 y5 y6) (integer_digit.l2 (k + 1) y0 y1 y2 y3 y4 y5 y6)) ∧ (∀ y0 y1 y2 y3 y4, LeO (integer_digit.l0 k y0 y1 y2 y3 y4) (integer_digit.l0 (k + 1) y0 y1 y2 y3 y4))
 | 0 => ⟨fun _ _ _ _ r h => by simp [integer_digit.j1] at h, fun _ _ _ _ _ _ _ _ _ r h => by simp [integer_digit.l1] at h, fun _ _ _ _ _ _ _ r h => by simp [integer_digit.l2] at h, fun _ _ _ _ _ r h => by simp [integer_digit.l0] at h⟩
 | k + 1 => by
  obtain ⟨ih0, ih1, ih2, ih3⟩ := integer_digit.mono_l k
  refine ⟨?_, ?_, ?_, ?_⟩
  ·
   intro y0 y1 y2 y3
   unfold integer_digit.j1
   repeat' with_reducible first | exact ih0 _ _ _ _ | exact ih1 _ _ _ _ _ _ _ _ _ | exact ih2 _ _ _ _ _ _ _ | exact ih3 _ _ _ _ _ | exact LeO.refl _ | exact LeO.none _ | refine LeO.ite ?_ ?_ | refine LeO.bind ?_ (fun _ => ?_)
  ·
   intro y0 y1 y2 y3 y4 y5 y6 y7 y8
   unfold integer_digit.l1
   repeat' with_reducible first | exact ih0 _ _ _ _ | exact ih1 _ _ _ _ _ _ _ _ _ | exact ih2 _ _ _ _ _ _ _ | exact ih3 _ _ _ _ _ | exact LeO.refl _ | exact LeO.none _ | refine LeO.ite ?_ ?_ | refine LeO.bind ?_ (fun _ => ?_)
  ·
   intro y0 y1 y2 y3 y4 y5 y6
   unfold integer_digit.l2
   repeat' with_reducible first | exact ih0 _ _ _ _ | exact ih1 _ _ _ _ _ _ _ _ _ | exact ih2 _ _ _ _ _ _ _ | exact ih3 _ _ _ _ _ | exact LeO.refl _ | exact LeO.none _ | refine LeO.ite ?_ ?_ | refine LeO.bind ?_ (fun _ => ?_)
  ·
   intro y0 y1 y2 y3 y4
   unfold integer_digit.l0
   repeat' with_reducible first | exact ih0 _ _ _ _ | exact ih1 _ _ _ _ _ _ _ _ _ | exact ih2 _ _ _ _ _ _ _ | exact ih3 _ _ _ _ _ | exact LeO.refl _ | exact LeO.none _ | refine LeO.ite ?_ ?_ | refine LeO.bind ?_ (fun _ => ?_)
theorem integer_digit.mono : ∀ a0 a1 k, LeO (integer_digit.f k a0 a1) (integer_digit.f (k + 1) a0 a1) := by
 intro a0 a1 k
 obtain ⟨ih0, ih1, ih2, ih3⟩ := integer_digit.mono_l k
 unfold integer_digit.f
 repeat' with_reducible first | exact ih0 _ _ _ _ | exact ih1 _ _ _ _ _ _ _ _ _ | exact ih2 _ _ _ _ _ _ _ | exact ih3 _ _ _ _ _ | exact LeO.refl _ | exact LeO.none _ | refine LeO.ite ?_ ?_ | refine LeO.bind ?_ (fun _ => ?_)
set_option maxHeartbeats 8000000 in
set_option maxRecDepth 100000 in
theorem integer_digit.calls {V_ : Value} {pre_ post_ : List Int} (k : Nat) (P0_ : Nat → Prop) (u9000_ : Value) (l0 : List Int) (A1 : Option Addr) (c1 : Nat) (l1 : List Int) (r1 : Int) (r2 : List Int) (w0 w : World) (hB : Below w0.heap.size w0 w) (ho0 : Kd.Z V_ pre_ post_ (Kd.int .u32) 60 w w0.heap.size P0_ u9000_ l0) (hr1 : ∀ W_, Kept w W_ (fun k_ => P0_ k_) → Kd.C (Kd.int .u32) W_ A1 l1.length l1) (hc1 : l1.length ≤ c1) (h : integer_digit.f k l0 l1 = some (r1, r2)) :
  Calls Tryd.prog 81 #[u9000_, .slice A1 l1.length c1] w fun e w' => e = .returned (.int .u32 r1) ∧ Kd.Z V_ pre_ post_ (Kd.int .u32) 60 w' w0.heap.size (fun k_ => (P0_ k_ ∨ w.heap.size ≤ k_)) u9000_ r2 ∧ Below w0.heap.size w0 w' ∧ Kept w w' (fun k_ => P0_ k_) := by
 have HO0 := Aside0.mk (show Kd.Z V_ pre_ post_ (Kd.int .u32) 60 w w0.heap.size (fun k_ => (P0_ k_ ∨ w.heap.size ≤ k_)) u9000_ l0 from Kd.Z_mono ho0 (fun k_ hk => (.inl hk)))
 have HR1 := Aside0.mk hr1
 have HC1 := Aside0.mk hc1
 clear hr1 hc1
 have HK := Aside0.mk (Kept.refl w (fun k_ => P0_ k_))
 have HW0 := Aside0.mk hB.size
 have HB := Aside0.mk hB
 clear hB
 have H := h
 unfold integer_digit.f at H
 clear h
 obtain ⟨c3, H⟩ := ite_some H
 have c3b0 := decide_eq_true c3
 have c3b1 : decide (0 ≤ l1.length) = true := decide_eq_true (by omega)
 clear c3
 obtain ⟨c4, H⟩ := ite_some H
 have c4b0 := decide_eq_true c4
 have c4b1 : decide (l1.length < l0.length) = true := decide_eq_true (Int.ofNat_lt.mp c4)
 clear c4
 obtain ⟨ji5, hji5⟩ : ∃ j_ : Int, (wrap64 ((l1.length : Int) - 1)) = j_ := ⟨_, rfl⟩
 replace H : (if 0 ≤ (ji5) then (if (ji5) < (l0.length : Int) then (if (ji5) < (l1.length : Int) then (if (IntKind.u64.wrap (rd l1 (ji5))) = 0 then (none) else (integer_digit.l0 k l0 l1 (l1.length : Int) (IntKind.u64.wrap (Int.tdiv (Go.bits .or .u64 (IntKind.u64.wrap ((IntKind.u64.wrap (rd l0 (l1.length : Int))) * 4294967296)) (IntKind.u64.wrap (rd l0 (ji5)))) (IntKind.u64.wrap (rd l1 (ji5))))) (Int.tmod (Go.bits .or .u64 (IntKind.u64.wrap ((IntKind.u64.wrap (rd l0 (l1.length : Int))) * 4294967296)) (IntKind.u64.wrap (rd l0 (ji5)))) (IntKind.u64.wrap (rd l1 (ji5)))))) else (none)) else (none)) else (none)) = some (r1, r2) := by first | (rw [hji5] at H; exact H) | (simp only [hji5] at H ⊢; exact H)
 have hji5w : (IntKind.i64.wrap ((l1.length : Int) - 1)) = ji5 := (i64_w _).trans hji5
 obtain ⟨c6, H⟩ := ite_some H
 have c6b0 := decide_eq_true c6
 clear c6
 obtain ⟨c7, H⟩ := ite_some H
 have c7b0 := decide_eq_true c7
 clear c7
 obtain ⟨c8, H⟩ := ite_some H
 have c8b0 := decide_eq_true c8
 clear c8
 obtain ⟨c9, H⟩ := ite_none H
 have c9b0 : ((IntKind.u64.wrap (rd l1 (ji5))) == 0) = false := beq_eq_false_iff_ne.mpr c9
 have c9b1 : ((IntKind.u64.wrap (rd l1 (ji5))) != 0) = true := bne_iff_ne.mpr c9
 have HC10 := Aside0.mk H
 clear H
 obtain ⟨Ao11, co11, eo11, _⟩ := Kd.Z_slice HO0.out
 subst eo11
 have p250 : 0 ≤ ((l1.length : Int) : Int) := of_decide_eq_true (by assumption)
 have q250 : (l1.length : Int) < (l0.length : Int) := of_decide_eq_true (by assumption)
 obtain ⟨ad250, e250, hx250_0⟩ := Kd.at_int (Kd.Z_reads' HO0.out).2.2 (l1.length : Int) p250 q250
 cases e250
 (try simp only [Go.IntWalk.toNatUp] at hx250_0)
 replace p250 := eq_true p250
 replace q250 := eq_true q250
 have p251 : 0 ≤ ((ji5) : Int) := of_decide_eq_true (by assumption)
 have q251 : (ji5) < (l0.length : Int) := of_decide_eq_true (by assumption)
 obtain ⟨ad251, e251, hx251_0⟩ := Kd.at_int (Kd.Z_reads' HO0.out).2.2 (ji5) p251 q251
 obtain rfl : ad250 = ad251 := (by injection e251)
 replace p251 := eq_true p251
 replace q251 := eq_true q251
 have p252 : 0 ≤ ((ji5) : Int) := of_decide_eq_true (by assumption)
 have q252 : (ji5) < (l1.length : Int) := of_decide_eq_true (by assumption)
 obtain ⟨ad252, e252, hx252_0⟩ := Kd.at_int (Kd.C_kept_now HR1.out HK.out) (ji5) p252 q252
 cases e252
 replace p252 := eq_true p252
 replace q252 := eq_true q252
 have p253 : 0 ≤ ((ji5) : Int) := of_decide_eq_true (by assumption)
 have q253 : (ji5) < (l1.length : Int) := of_decide_eq_true (by assumption)
 obtain ⟨ad253, e253, hx253_0⟩ := Kd.at_int (Kd.C_kept_now HR1.out HK.out) (ji5) p253 q253
 obtain rfl : ad252 = ad253 := (by injection e253)
 replace p253 := eq_true p253
 replace q253 := eq_true q253
 go_enter Tryd.func81, Tryd.ntmps81
 go_upto_block 0 with (fail)
 repeat (go_quiet (fail); go_upto_block 0 with (fail))
 go_cut [7] (fun v7 wc => ∃ (kq : Nat) (x7_9 : Int), v7 = .int .u64 x7_9 ∧ Aside0 (integer_digit.j1 kq l0 l1 (l1.length : Int) x7_9 = some (r1, r2)) ∧ Aside0 (kq ≤ k) ∧ Aside0 (Kd.Z V_ pre_ post_ (Kd.int .u32) 60 wc w0.heap.size (fun k_ => (P0_ k_ ∨ w.heap.size ≤ k_)) (.slice (some ad250) l0.length co11) l0) ∧ Aside0 (Kept w wc (fun k_ => P0_ k_)) ∧ Aside0 (Below w0.heap.size w0 wc))
 case first =>
  have H := HC10.out
  clear HC10
  have H' := Aside0.mk H
  clear H
  go_wp2
  repeat (go_quiet (fail); try go_wp2)
  go_loopg [7, 8] k (fun kq v7 v8 w' => ∃ (x7_1 : Int) (x8_1 : Int), v7 = .int .u64 x7_1 ∧ v8 = .int .u64 x8_1 ∧ Aside0 (integer_digit.l0 kq l0 l1 (l1.length : Int) x7_1 x8_1 = some (r1, r2)) ∧ Aside0 (kq ≤ k) ∧ Aside0 (Kd.Z V_ pre_ post_ (Kd.int .u32) 60 w' w0.heap.size (fun k_ => (P0_ k_ ∨ w.heap.size ≤ k_)) (.slice (some ad250) l0.length co11) l0) ∧ Aside0 (Kept w w' (fun k_ => P0_ k_)) ∧ Aside0 (Below w0.heap.size w0 w'))
  case atStart => exact ⟨(IntKind.u64.wrap (Int.tdiv (Go.bits .or .u64 (IntKind.u64.wrap ((IntKind.u64.wrap (rd l0 (l1.length : Int))) * 4294967296)) (IntKind.u64.wrap (rd l0 (ji5)))) (IntKind.u64.wrap (rd l1 (ji5))))), (Int.tmod (Go.bits .or .u64 (IntKind.u64.wrap ((IntKind.u64.wrap (rd l0 (l1.length : Int))) * 4294967296)) (IntKind.u64.wrap (rd l0 (ji5)))) (IntKind.u64.wrap (rd l1 (ji5)))), (by first | rfl | (simp; done) | (simp only [← hji5] <;> (first | rfl | simp)) | (simp [*]; done)), (by first | rfl | (simp; done) | (simp only [← hji5] <;> (first | rfl | simp)) | (simp [*]; done)), H', ⟨Nat.le_refl _⟩, ⟨Kd.Z_up HO0.out⟩, ⟨by repeat (first | (with_reducible first | exact HK.out | apply Kept.alloc | apply Kept.drewN | apply Kept.drew) | exact HK.out)⟩, ⟨below_up HB.out⟩⟩
  case round =>
   clear H'
   obtain ⟨x7_1, x8_1, rfl, rfl, HA, HK1, HO_0, HK, HB⟩ := hrel
   cases gk with
   | zero => exact absurd HA.out (by simp [integer_digit.l0])
   | succ k1 =>
    have H := HA.out
    clear HA
    simp only [integer_digit.l0] at H
    by_cases c12 : x8_1 < 4294967296
    ·
     rw [if_pos c12] at H
     have c12b0 := decide_eq_true c12
     clear c12
     (first | rw [c12b0] | (simp only [i64_w, i32_w]; rw [c12b0]) | skip)
     by_cases c13 : x7_1 ≥ 4294967296
     ·
      rw [if_pos c13] at H
      have c13b0 := decide_eq_true c13
      clear c13
      skip
      replace H : (if 0 ≤ (ji5) then (if (ji5) < (l1.length : Int) then (integer_digit.l0 k1 l0 l1 (l1.length : Int) (IntKind.u64.wrap (x7_1 - 1)) (IntKind.u64.wrap (x8_1 + (IntKind.u64.wrap (rd l1 (ji5)))))) else (none)) else (none)) = some (r1, r2) := by first | (rw [hji5] at H; exact H) | (simp only [hji5] at H ⊢; exact H)
      have hji5w : (IntKind.i64.wrap ((l1.length : Int) - 1)) = ji5 := (i64_w _).trans hji5
      obtain ⟨c15, H⟩ := ite_some H
      have c15b0 := decide_eq_true c15
      clear c15
      obtain ⟨c16, H⟩ := ite_some H
      have c16b0 := decide_eq_true c16
      clear c16
      have H' := Aside0.mk H
      clear H
      have p254 : 0 ≤ ((ji5) : Int) := of_decide_eq_true (by assumption)
      have q254 : (ji5) < (l1.length : Int) := of_decide_eq_true (by assumption)
      obtain ⟨ad254, e254, hx254_0⟩ := Kd.at_int (Kd.C_kept_now HR1.out HK.out) (ji5) p254 q254
      obtain rfl : ad252 = ad254 := (by injection e254)
      replace p254 := eq_true p254
      replace q254 := eq_true q254
      go_wp2
      repeat (go_quiet (fail); try go_wp2)
      go_roundg k1
      case measure => have := HK1.out; omega
      case rel => exact ⟨(IntKind.u64.wrap (x7_1 - 1)), (IntKind.u64.wrap (x8_1 + (IntKind.u64.wrap (rd l1 (ji5))))), (by first | rfl | (simp; done) | (simp [*]; done) | (simp <;> omega)), (by first | rfl | (simp; done) | (simp only [← hji5] <;> (first | rfl | simp)) | (simp [*]; done)), H', ⟨by have := HK1.out; omega⟩, ⟨Kd.Z_up HO_0.out⟩, ⟨by repeat (first | (with_reducible first | exact HK.out | apply Kept.alloc | apply Kept.drewN | apply Kept.drew) | exact HK.out)⟩, ⟨below_up HB.out⟩⟩
     ·
      rw [if_neg c13] at H
      have c13b0 := decide_eq_false c13
      clear c13
      obtain ⟨ji17, hji17⟩ : ∃ j_ : Int, (wrap64 ((l1.length : Int) - 2)) = j_ := ⟨_, rfl⟩
      replace H : (if 0 ≤ (ji17) then (if (ji17) < (l1.length : Int) then (if (ji17) < (l0.length : Int) then (if (IntKind.u64.wrap (x7_1 * (IntKind.u64.wrap (rd l1 (ji17))))) > (Go.bits .or .u64 (IntKind.u64.wrap (x8_1 * 4294967296)) (IntKind.u64.wrap (rd l0 (ji17)))) then (if 0 ≤ (wrap64 ((l1.length : Int) - 1)) then (if (wrap64 ((l1.length : Int) - 1)) < (l1.length : Int) then (integer_digit.l0 k1 l0 l1 (l1.length : Int) (IntKind.u64.wrap (x7_1 - 1)) (IntKind.u64.wrap (x8_1 + (IntKind.u64.wrap (rd l1 (wrap64 ((l1.length : Int) - 1))))))) else (none)) else (none)) else (integer_digit.j1 k1 l0 l1 (l1.length : Int) x7_1)) else (none)) else (none)) else (none)) = some (r1, r2) := by first | (rw [hji17] at H; exact H) | (simp only [hji17] at H ⊢; exact H)
      have hji17w : (IntKind.i64.wrap ((l1.length : Int) - 2)) = ji17 := (i64_w _).trans hji17
      obtain ⟨c18, H⟩ := ite_some H
      have c18b0 := decide_eq_true c18
      clear c18
      obtain ⟨c19, H⟩ := ite_some H
      have c19b0 := decide_eq_true c19
      clear c19
      obtain ⟨c20, H⟩ := ite_some H
      have c20b0 := decide_eq_true c20
      clear c20
      by_cases c21 : (IntKind.u64.wrap (x7_1 * (IntKind.u64.wrap (rd l1 (ji17))))) > (Go.bits .or .u64 (IntKind.u64.wrap (x8_1 * 4294967296)) (IntKind.u64.wrap (rd l0 (ji17))))
      ·
       rw [if_pos c21] at H
       have c21b0 := decide_eq_true c21
       clear c21
       skip
       replace H : (if 0 ≤ (ji5) then (if (ji5) < (l1.length : Int) then (integer_digit.l0 k1 l0 l1 (l1.length : Int) (IntKind.u64.wrap (x7_1 - 1)) (IntKind.u64.wrap (x8_1 + (IntKind.u64.wrap (rd l1 (ji5)))))) else (none)) else (none)) = some (r1, r2) := by first | (rw [hji5] at H; exact H) | (simp only [hji5] at H ⊢; exact H)
       have hji5w : (IntKind.i64.wrap ((l1.length : Int) - 1)) = ji5 := (i64_w _).trans hji5
       obtain ⟨c23, H⟩ := ite_some H
       have c23b0 := decide_eq_true c23
       clear c23
       obtain ⟨c24, H⟩ := ite_some H
       have c24b0 := decide_eq_true c24
       clear c24
       have H' := Aside0.mk H
       clear H
       have p255 : 0 ≤ ((ji17) : Int) := of_decide_eq_true (by assumption)
       have q255 : (ji17) < (l1.length : Int) := of_decide_eq_true (by assumption)
       obtain ⟨ad255, e255, hx255_0⟩ := Kd.at_int (Kd.C_kept_now HR1.out HK.out) (ji17) p255 q255
       obtain rfl : ad252 = ad255 := (by injection e255)
       replace p255 := eq_true p255
       replace q255 := eq_true q255
       have p256 : 0 ≤ ((ji17) : Int) := of_decide_eq_true (by assumption)
       have q256 : (ji17) < (l0.length : Int) := of_decide_eq_true (by assumption)
       obtain ⟨ad256, e256, hx256_0⟩ := Kd.at_int (Kd.Z_reads' HO_0.out).2.2 (ji17) p256 q256
       obtain rfl : ad250 = ad256 := (by injection e256)
       replace p256 := eq_true p256
       replace q256 := eq_true q256
       have p257 : 0 ≤ ((ji5) : Int) := of_decide_eq_true (by assumption)
       have q257 : (ji5) < (l1.length : Int) := of_decide_eq_true (by assumption)
       obtain ⟨ad257, e257, hx257_0⟩ := Kd.at_int (Kd.C_kept_now HR1.out HK.out) (ji5) p257 q257
       obtain rfl : ad252 = ad257 := (by injection e257)
       replace p257 := eq_true p257
       replace q257 := eq_true q257
       go_wp2
       repeat (go_quiet (fail); try go_wp2)
       go_roundg k1
       case measure => have := HK1.out; omega
       case rel => exact ⟨(IntKind.u64.wrap (x7_1 - 1)), (IntKind.u64.wrap (x8_1 + (IntKind.u64.wrap (rd l1 (ji5))))), (by first | rfl | (simp; done) | (simp [*]; done) | (simp <;> omega)), (by first | rfl | (simp; done) | (simp only [← hji5] <;> (first | rfl | simp)) | (simp [*]; done)), H', ⟨by have := HK1.out; omega⟩, ⟨Kd.Z_up HO_0.out⟩, ⟨by repeat (first | (with_reducible first | exact HK.out | apply Kept.alloc | apply Kept.drewN | apply Kept.drew) | exact HK.out)⟩, ⟨below_up HB.out⟩⟩
      ·
       rw [if_neg c21] at H
       have c21b0 := decide_eq_false c21
       clear c21
       have H' := Aside0.mk H
       clear H
       have p255 : 0 ≤ ((ji17) : Int) := of_decide_eq_true (by assumption)
       have q255 : (ji17) < (l1.length : Int) := of_decide_eq_true (by assumption)
       obtain ⟨ad255, e255, hx255_0⟩ := Kd.at_int (Kd.C_kept_now HR1.out HK.out) (ji17) p255 q255
       obtain rfl : ad252 = ad255 := (by injection e255)
       replace p255 := eq_true p255
       replace q255 := eq_true q255
       have p256 : 0 ≤ ((ji17) : Int) := of_decide_eq_true (by assumption)
       have q256 : (ji17) < (l0.length : Int) := of_decide_eq_true (by assumption)
       obtain ⟨ad256, e256, hx256_0⟩ := Kd.at_int (Kd.Z_reads' HO_0.out).2.2 (ji17) p256 q256
       obtain rfl : ad250 = ad256 := (by injection e256)
       replace p256 := eq_true p256
       replace q256 := eq_true q256
       go_wp2
       repeat (go_quiet (fail); try go_wp2)
       go_meet
       case rel => exact ⟨_, (x7_1), (by first | rfl | (simp; done) | (simp [*]; done) | (simp <;> omega)), H', ⟨by have := HK1.out; first | omega | exact Nat.le_refl _⟩, ⟨Kd.Z_up HO_0.out⟩, ⟨by repeat (first | (with_reducible first | exact HK.out | apply Kept.alloc | apply Kept.drewN | apply Kept.drew) | exact HK.out)⟩, ⟨below_up HB.out⟩⟩
    ·
     rw [if_neg c12] at H
     have c12b0 := decide_eq_false c12
     clear c12
     (first | rw [c12b0] | (simp only [i64_w, i32_w]; rw [c12b0]) | skip)
     have H' := Aside0.mk H
     clear H
     go_wp2
     repeat (go_quiet (fail); try go_wp2)
     go_meet
     case rel => exact ⟨_, (x7_1), (by first | rfl | (simp; done) | (simp [*]; done) | (simp <;> omega)), H', ⟨by have := HK1.out; first | omega | exact Nat.le_refl _⟩, ⟨Kd.Z_up HO_0.out⟩, ⟨by repeat (first | (with_reducible first | exact HK.out | apply Kept.alloc | apply Kept.drewN | apply Kept.drew) | exact HK.out)⟩, ⟨below_up HB.out⟩⟩
 case rest =>
  clear HC10
  obtain ⟨kq, x7_9, rfl, HA, HJ9, HO_0, HK, HB⟩ := hcut
  cases kq with
  | zero => exact absurd HA.out (by simp [integer_digit.j1])
  | succ kj9 =>
   have H := HA.out
   clear HA
   simp only [integer_digit.j1] at H
   have H' := Aside0.mk H
   clear H
   go_wp2
   repeat (go_quiet (fail); try go_wp2)
   go_loopg [9, 10, 86] kj9 (fun kq v9 v10 v86 w' => ∃ (x0_2 : List Int) (x9_2 : Int) (x10_2 : Int) (x86_2 : Int), v9 = .int .u64 x9_2 ∧ v10 = .int .i64 x10_2 ∧ v86 = .int .i64 x86_2 ∧ Aside0 (integer_digit.l1 kq x0_2 l1 (l1.length : Int) x7_9 x9_2 x10_2 l1 (l1.length : Int) x86_2 = some (r1, r2)) ∧ Aside0 (kq ≤ kj9) ∧ Aside0 (Kd.Z V_ pre_ post_ (Kd.int .u32) 60 w' w0.heap.size (fun k_ => (P0_ k_ ∨ w.heap.size ≤ k_)) (.slice (some ad250) l0.length co11) x0_2) ∧ Aside0 (Kept w w' (fun k_ => P0_ k_)) ∧ Aside0 (Below w0.heap.size w0 w'))
   case atStart => exact ⟨(l0), (0), (0), (0), (by first | rfl | (simp; done) | (simp [*]; done) | (simp <;> omega)), (by first | rfl | (simp; done) | (simp [*]; done) | (simp <;> omega)), (by first | rfl | (simp; done) | (simp [*]; done) | (simp <;> omega)), H', ⟨Nat.le_refl _⟩, ⟨Kd.Z_up HO_0.out⟩, ⟨by repeat (first | (with_reducible first | exact HK.out | apply Kept.alloc | apply Kept.drewN | apply Kept.drew) | exact HK.out)⟩, ⟨below_up HB.out⟩⟩
   case round =>
    clear H'
    obtain ⟨x0_2, x9_2, x10_2, x86_2, rfl, rfl, rfl, HA, HK2, HO_0, HK, HB⟩ := hrel
    have hl0_2 := (Kd.Z_reads' HO_0.out).1
    rw [hl0_2] at HO_0
    (try simp only [hl0_2])
    cases gk with
    | zero => exact absurd HA.out (by simp [integer_digit.l1])
    | succ k2 =>
     have H := HA.out
     clear HA
     simp only [integer_digit.l1] at H
     by_cases c25 : x86_2 < (l1.length : Int)
     ·
      rw [if_pos c25] at H
      have c25b0 := decide_eq_true c25
      (try simp only [hl0_2] at c25b0)
      clear c25
      obtain ⟨c26, H⟩ := ite_some H
      have c26b0 := decide_eq_true c26
      clear c26
      obtain ⟨c27, H⟩ := ite_some H
      have c27b0 := decide_eq_true c27
      (try simp only [hl0_2] at c27b0)
      clear c27
      obtain ⟨c28, H⟩ := ite_some H
      have c28b0 := decide_eq_true c28
      (try simp only [hl0_2] at c28b0)
      clear c28
      obtain ⟨y260, hy260⟩ : ∃ y_ : List Int, y_ = (x0_2.set (x86_2 : Int).toNat ((wrap64 ((wrap64 ((wrap64 (rd x0_2 x86_2)) - x10_2)) - ((IntKind.u64.wrap (x9_2 + (IntKind.u64.wrap (x7_9 * (IntKind.u64.wrap (rd l1 x86_2)))))) % 4294967296))) % 4294967296)) := ⟨_, rfl⟩
      replace H : (if (wrap64 ((wrap64 ((wrap64 (rd x0_2 x86_2)) - x10_2)) - ((IntKind.u64.wrap (x9_2 + (IntKind.u64.wrap (x7_9 * (IntKind.u64.wrap (rd l1 x86_2)))))) % 4294967296))) < 0 then (integer_digit.l1 k2 y260 l1 (l1.length : Int) x7_9 ((IntKind.u64.wrap (x9_2 + (IntKind.u64.wrap (x7_9 * (IntKind.u64.wrap (rd l1 x86_2)))))) / 4294967296) 1 l1 (l1.length : Int) (wrap64 (x86_2 + 1))) else (integer_digit.l1 k2 y260 l1 (l1.length : Int) x7_9 ((IntKind.u64.wrap (x9_2 + (IntKind.u64.wrap (x7_9 * (IntKind.u64.wrap (rd l1 x86_2)))))) / 4294967296) 0 l1 (l1.length : Int) (wrap64 (x86_2 + 1)))) = some (r1, r2) := by first | (rw [hy260]; exact H) | exact H
      have Ny260 := Aside0.mk hy260
      clear hy260
      by_cases c30 : (wrap64 ((wrap64 ((wrap64 (rd x0_2 x86_2)) - x10_2)) - ((IntKind.u64.wrap (x9_2 + (IntKind.u64.wrap (x7_9 * (IntKind.u64.wrap (rd l1 x86_2)))))) % 4294967296))) < 0
      ·
       rw [if_pos c30] at H
       have c30b0 := decide_eq_true c30
       clear c30
       have H' := Aside0.mk H
       clear H
       have p258 : 0 ≤ (x86_2 : Int) := of_decide_eq_true (by assumption)
       have q258 : x86_2 < (l1.length : Int) := of_decide_eq_true (by assumption)
       obtain ⟨ad258, e258, hx258_0⟩ := Kd.at_int (Kd.C_kept_now HR1.out HK.out) x86_2 p258 q258
       obtain rfl : ad252 = ad258 := (by injection e258)
       replace p258 := eq_true p258
       replace q258 := eq_true q258
       have p259 : 0 ≤ (x86_2 : Int) := of_decide_eq_true (by assumption)
       have q259 : x86_2 < (x0_2.length : Int) := of_decide_eq_true (by assumption)
       obtain ⟨ad259, e259, hx259_0⟩ := Kd.at_int (Kd.Z_reads' HO_0.out).2.2 x86_2 p259 q259
       obtain rfl : ad250 = ad259 := (by injection e259)
       replace p259 := eq_true p259
       replace q259 := eq_true q259
       have p29 : 0 ≤ (x86_2 : Int) := of_decide_eq_true (by assumption)
       have q29 : (x86_2 : Int) < ((x0_2.length : Int) : Int) := of_decide_eq_true (by assumption)
       obtain ⟨go29, oo29, co29, eo29, gb29, gl29, cl29, HG29⟩ := Kd.Z_form HO_0.out (by omega)
       (first | cases eo29 | (injection eo29 with ea_ en_ ec_; (first | subst ea_ | (injection ea_ with ea_; subst ea_)); subst ec_; clear en_))
       have GB29 := Aside0.mk gb29
       have GG29 := Aside0.mk HG29
       clear gb29 gl29 HG29
       have HMgo29 := Aside0.mk (show (P0_ go29 ∨ w.heap.size ≤ go29) from (HO_0.out.1 _ rfl))
       (first | simp only [add_at] at hx250_0 | skip)
       (first | simp only [add_at] at hx251_0 | skip)
       (first | simp only [add_at] at hx256_0 | skip)
       (first | simp only [add_at] at hx259_0 | skip)
       obtain ⟨hx29_0, hf29_0⟩ := Kd.Z_cell 0 HO_0.out (x86_2 : Int) p29 q29
       replace p29 := eq_true p29
       replace q29 := eq_true q29
       have HP31 := Kd.Z_putg HO_0.out (x86_2 : Int) (of_decide_eq_true (by assumption)) (by have h_ : (x86_2 : Int) < ((x0_2.length : Int) : Int) := of_decide_eq_true (by assumption); first | exact h_ | (have e_ := (Kd.Z_reads' HO_0.out).1; omega) | simpa using h_) ((wrap64 ((wrap64 ((wrap64 (rd x0_2 x86_2)) - x10_2)) - ((IntKind.u64.wrap (x9_2 + (IntKind.u64.wrap (x7_9 * (IntKind.u64.wrap (rd l1 x86_2)))))) % 4294967296))) % 4294967296)
       go_wp2_with (first | ((with_reducible refine gate_store (t := 60) (p := 114) rfl ?_); (try (rw [drewN_self wr]; generalize hq_ : World.drewN wr _ = wr; have n0_ := Aside0.mk (Kd.Z_at hq_ HO_0.out); have n1_ := Aside0.mk (kept_at hq_ HK.out); have n2_ := Aside0.mk (below_at hq_ HB.out); clear hq_ HO_0 HK HB; have HO_0 := n0_; have HK := n1_; have HB := n2_; clear n0_ n1_ n2_; (try (have HP31 := Kd.Z_putg HO_0.out (x86_2 : Int) (of_decide_eq_true (by assumption)) (by have h_ : (x86_2 : Int) < ((x0_2.length : Int) : Int) := of_decide_eq_true (by assumption); first | exact h_ | (have e_ := (Kd.Z_reads' HO_0.out).1; omega) | simpa using h_) ((wrap64 ((wrap64 ((wrap64 (rd x0_2 x86_2)) - x10_2)) - ((IntKind.u64.wrap (x9_2 + (IntKind.u64.wrap (x7_9 * (IntKind.u64.wrap (rd l1 x86_2)))))) % 4294967296))) % 4294967296))))); refine store_event (t := 60) (p := 114) (v := ?vo_w32) (w1 := (wr.setCell ⟨go29, oo29 + (x86_2 : Int).toNat, none⟩ (.int .u32 ((wrap64 ((wrap64 ((wrap64 (rd x0_2 x86_2)) - x10_2)) - ((IntKind.u64.wrap (x9_2 + (IntKind.u64.wrap (x7_9 * (IntKind.u64.wrap (rd l1 x86_2)))))) % 4294967296))) % 4294967296)))) ?hg ?ho ?hn ?hr ?_; (case ho => rfl); (case hg => rfl); (case hn => rfl); (case hr => first | (go_simp; done) | (go_simp; rfl)); intro w32 hw; have hg : wr.grownBy w32 (some go29) := (by rw [hw]; exact HP31.2); have hp_ : Kd.Z V_ pre_ post_ (Kd.int .u32) 60 w32 w0.heap.size (fun k_ => (P0_ k_ ∨ w.heap.size ≤ k_)) (.slice (some ⟨go29, oo29, none⟩) x0_2.length co11) y260 := (by rw [hw, Ny260.out]; exact HP31.1); clear HP31; replace HB := Aside0.mk ((by rw [hw]; exact below_set (HB.out) GB29.out : Below w0.heap.size w0 w32)); replace HK := Aside0.mk (Kept.of_grown (S := (fun k_ => P0_ k_)) hg (kept_up HK.out) (fun k_ e_ => (HO_0.out.1 k_ e_))); replace HO_0 := Aside0.mk (hp_); clear hg hw hp_))
       repeat (go_quiet (first | ((with_reducible refine gate_store (t := 60) (p := 114) rfl ?_); (try (rw [drewN_self wr]; generalize hq_ : World.drewN wr _ = wr; have n0_ := Aside0.mk (Kd.Z_at hq_ HO_0.out); have n1_ := Aside0.mk (kept_at hq_ HK.out); have n2_ := Aside0.mk (below_at hq_ HB.out); clear hq_ HO_0 HK HB; have HO_0 := n0_; have HK := n1_; have HB := n2_; clear n0_ n1_ n2_; (try (have HP31 := Kd.Z_putg HO_0.out (x86_2 : Int) (of_decide_eq_true (by assumption)) (by have h_ : (x86_2 : Int) < ((x0_2.length : Int) : Int) := of_decide_eq_true (by assumption); first | exact h_ | (have e_ := (Kd.Z_reads' HO_0.out).1; omega) | simpa using h_) ((wrap64 ((wrap64 ((wrap64 (rd x0_2 x86_2)) - x10_2)) - ((IntKind.u64.wrap (x9_2 + (IntKind.u64.wrap (x7_9 * (IntKind.u64.wrap (rd l1 x86_2)))))) % 4294967296))) % 4294967296))))); refine store_event (t := 60) (p := 114) (v := ?vo_w32) (w1 := (wr.setCell ⟨go29, oo29 + (x86_2 : Int).toNat, none⟩ (.int .u32 ((wrap64 ((wrap64 ((wrap64 (rd x0_2 x86_2)) - x10_2)) - ((IntKind.u64.wrap (x9_2 + (IntKind.u64.wrap (x7_9 * (IntKind.u64.wrap (rd l1 x86_2)))))) % 4294967296))) % 4294967296)))) ?hg ?ho ?hn ?hr ?_; (case ho => rfl); (case hg => rfl); (case hn => rfl); (case hr => first | (go_simp; done) | (go_simp; rfl)); intro w32 hw; have hg : wr.grownBy w32 (some go29) := (by rw [hw]; exact HP31.2); have hp_ : Kd.Z V_ pre_ post_ (Kd.int .u32) 60 w32 w0.heap.size (fun k_ => (P0_ k_ ∨ w.heap.size ≤ k_)) (.slice (some ⟨go29, oo29, none⟩) x0_2.length co11) y260 := (by rw [hw, Ny260.out]; exact HP31.1); clear HP31; replace HB := Aside0.mk ((by rw [hw]; exact below_set (HB.out) GB29.out : Below w0.heap.size w0 w32)); replace HK := Aside0.mk (Kept.of_grown (S := (fun k_ => P0_ k_)) hg (kept_up HK.out) (fun k_ e_ => (HO_0.out.1 k_ e_))); replace HO_0 := Aside0.mk (hp_); clear hg hw hp_)); try go_wp2_with (first | ((with_reducible refine gate_store (t := 60) (p := 114) rfl ?_); (try (rw [drewN_self wr]; generalize hq_ : World.drewN wr _ = wr; have n0_ := Aside0.mk (Kd.Z_at hq_ HO_0.out); have n1_ := Aside0.mk (kept_at hq_ HK.out); have n2_ := Aside0.mk (below_at hq_ HB.out); clear hq_ HO_0 HK HB; have HO_0 := n0_; have HK := n1_; have HB := n2_; clear n0_ n1_ n2_; (try (have HP31 := Kd.Z_putg HO_0.out (x86_2 : Int) (of_decide_eq_true (by assumption)) (by have h_ : (x86_2 : Int) < ((x0_2.length : Int) : Int) := of_decide_eq_true (by assumption); first | exact h_ | (have e_ := (Kd.Z_reads' HO_0.out).1; omega) | simpa using h_) ((wrap64 ((wrap64 ((wrap64 (rd x0_2 x86_2)) - x10_2)) - ((IntKind.u64.wrap (x9_2 + (IntKind.u64.wrap (x7_9 * (IntKind.u64.wrap (rd l1 x86_2)))))) % 4294967296))) % 4294967296))))); refine store_event (t := 60) (p := 114) (v := ?vo_w32) (w1 := (wr.setCell ⟨go29, oo29 + (x86_2 : Int).toNat, none⟩ (.int .u32 ((wrap64 ((wrap64 ((wrap64 (rd x0_2 x86_2)) - x10_2)) - ((IntKind.u64.wrap (x9_2 + (IntKind.u64.wrap (x7_9 * (IntKind.u64.wrap (rd l1 x86_2)))))) % 4294967296))) % 4294967296)))) ?hg ?ho ?hn ?hr ?_; (case ho => rfl); (case hg => rfl); (case hn => rfl); (case hr => first | (go_simp; done) | (go_simp; rfl)); intro w32 hw; have hg : wr.grownBy w32 (some go29) := (by rw [hw]; exact HP31.2); have hp_ : Kd.Z V_ pre_ post_ (Kd.int .u32) 60 w32 w0.heap.size (fun k_ => (P0_ k_ ∨ w.heap.size ≤ k_)) (.slice (some ⟨go29, oo29, none⟩) x0_2.length co11) y260 := (by rw [hw, Ny260.out]; exact HP31.1); clear HP31; replace HB := Aside0.mk ((by rw [hw]; exact below_set (HB.out) GB29.out : Below w0.heap.size w0 w32)); replace HK := Aside0.mk (Kept.of_grown (S := (fun k_ => P0_ k_)) hg (kept_up HK.out) (fun k_ e_ => (HO_0.out.1 k_ e_))); replace HO_0 := Aside0.mk (hp_); clear hg hw hp_)))
       (try simp only [← hl0_2])
       (try rw [show (⟨go29, oo29 + l1.length, none⟩ : Addr) = Addr.add ⟨go29, oo29, none⟩ (l1.length) from (by simp [Addr.add])])
       (try rw [show (⟨go29, oo29 + ji5.toNat, none⟩ : Addr) = Addr.add ⟨go29, oo29, none⟩ (ji5.toNat) from (by simp [Addr.add])])
       go_roundg k2
       case measure => have := HJ9.out; have := HK2.out; omega
       case rel => exact ⟨(y260), ((IntKind.u64.wrap (x9_2 + (IntKind.u64.wrap (x7_9 * (IntKind.u64.wrap (rd l1 x86_2)))))) / 4294967296), (1), (wrap64 (x86_2 + 1)), (by first | rfl | (simp; done) | (simp [*]; done) | (simp <;> omega)), (by first | rfl | (simp; done) | (simp [*]; done) | (simp <;> omega)), (by first | rfl | (simp; done) | (simp [*]; done) | (simp <;> omega)), H', ⟨by have := HJ9.out; have := HK2.out; omega⟩, ⟨by (try simp only [hl0_2]); (with_reducible repeat (first | apply Kd.Z_alloc | apply Kd.Z_drewN | apply Kd.Z_drew)); exact HO_0.out⟩, ⟨by repeat (first | (with_reducible first | exact HK.out | apply Kept.alloc | apply Kept.drewN | apply Kept.drew) | exact HK.out)⟩, ⟨below_up HB.out⟩⟩
      ·
       rw [if_neg c30] at H
       have c30b0 := decide_eq_false c30
       clear c30
       have H' := Aside0.mk H
       clear H
       have p258 : 0 ≤ (x86_2 : Int) := of_decide_eq_true (by assumption)
       have q258 : x86_2 < (l1.length : Int) := of_decide_eq_true (by assumption)
       obtain ⟨ad258, e258, hx258_0⟩ := Kd.at_int (Kd.C_kept_now HR1.out HK.out) x86_2 p258 q258
       obtain rfl : ad252 = ad258 := (by injection e258)
       replace p258 := eq_true p258
       replace q258 := eq_true q258
       have p259 : 0 ≤ (x86_2 : Int) := of_decide_eq_true (by assumption)
       have q259 : x86_2 < (x0_2.length : Int) := of_decide_eq_true (by assumption)
       obtain ⟨ad259, e259, hx259_0⟩ := Kd.at_int (Kd.Z_reads' HO_0.out).2.2 x86_2 p259 q259
       obtain rfl : ad250 = ad259 := (by injection e259)
       replace p259 := eq_true p259
       replace q259 := eq_true q259
       have p29 : 0 ≤ (x86_2 : Int) := of_decide_eq_true (by assumption)
       have q29 : (x86_2 : Int) < ((x0_2.length : Int) : Int) := of_decide_eq_true (by assumption)
       obtain ⟨go29, oo29, co29, eo29, gb29, gl29, cl29, HG29⟩ := Kd.Z_form HO_0.out (by omega)
       (first | cases eo29 | (injection eo29 with ea_ en_ ec_; (first | subst ea_ | (injection ea_ with ea_; subst ea_)); subst ec_; clear en_))
       have GB29 := Aside0.mk gb29
       have GG29 := Aside0.mk HG29
       clear gb29 gl29 HG29
       have HMgo29 := Aside0.mk (show (P0_ go29 ∨ w.heap.size ≤ go29) from (HO_0.out.1 _ rfl))
       (first | simp only [add_at] at hx259_0 | skip)
       obtain ⟨hx29_0, hf29_0⟩ := Kd.Z_cell 0 HO_0.out (x86_2 : Int) p29 q29
       replace p29 := eq_true p29
       replace q29 := eq_true q29
       have HP33 := Kd.Z_putg HO_0.out (x86_2 : Int) (of_decide_eq_true (by assumption)) (by have h_ : (x86_2 : Int) < ((x0_2.length : Int) : Int) := of_decide_eq_true (by assumption); first | exact h_ | (have e_ := (Kd.Z_reads' HO_0.out).1; omega) | simpa using h_) ((wrap64 ((wrap64 ((wrap64 (rd x0_2 x86_2)) - x10_2)) - ((IntKind.u64.wrap (x9_2 + (IntKind.u64.wrap (x7_9 * (IntKind.u64.wrap (rd l1 x86_2)))))) % 4294967296))) % 4294967296)
       go_wp2_with (first | ((with_reducible refine gate_store (t := 60) (p := 114) rfl ?_); (try (rw [drewN_self wr]; generalize hq_ : World.drewN wr _ = wr; have n0_ := Aside0.mk (Kd.Z_at hq_ HO_0.out); have n1_ := Aside0.mk (kept_at hq_ HK.out); have n2_ := Aside0.mk (below_at hq_ HB.out); clear hq_ HO_0 HK HB; have HO_0 := n0_; have HK := n1_; have HB := n2_; clear n0_ n1_ n2_; (try (have HP33 := Kd.Z_putg HO_0.out (x86_2 : Int) (of_decide_eq_true (by assumption)) (by have h_ : (x86_2 : Int) < ((x0_2.length : Int) : Int) := of_decide_eq_true (by assumption); first | exact h_ | (have e_ := (Kd.Z_reads' HO_0.out).1; omega) | simpa using h_) ((wrap64 ((wrap64 ((wrap64 (rd x0_2 x86_2)) - x10_2)) - ((IntKind.u64.wrap (x9_2 + (IntKind.u64.wrap (x7_9 * (IntKind.u64.wrap (rd l1 x86_2)))))) % 4294967296))) % 4294967296))))); refine store_event (t := 60) (p := 114) (v := ?vo_w34) (w1 := (wr.setCell ⟨go29, oo29 + (x86_2 : Int).toNat, none⟩ (.int .u32 ((wrap64 ((wrap64 ((wrap64 (rd x0_2 x86_2)) - x10_2)) - ((IntKind.u64.wrap (x9_2 + (IntKind.u64.wrap (x7_9 * (IntKind.u64.wrap (rd l1 x86_2)))))) % 4294967296))) % 4294967296)))) ?hg ?ho ?hn ?hr ?_; (case ho => rfl); (case hg => rfl); (case hn => rfl); (case hr => first | (go_simp; done) | (go_simp; rfl)); intro w34 hw; have hg : wr.grownBy w34 (some go29) := (by rw [hw]; exact HP33.2); have hp_ : Kd.Z V_ pre_ post_ (Kd.int .u32) 60 w34 w0.heap.size (fun k_ => (P0_ k_ ∨ w.heap.size ≤ k_)) (.slice (some ⟨go29, oo29, none⟩) x0_2.length co11) y260 := (by rw [hw, Ny260.out]; exact HP33.1); clear HP33; replace HB := Aside0.mk ((by rw [hw]; exact below_set (HB.out) GB29.out : Below w0.heap.size w0 w34)); replace HK := Aside0.mk (Kept.of_grown (S := (fun k_ => P0_ k_)) hg (kept_up HK.out) (fun k_ e_ => (HO_0.out.1 k_ e_))); replace HO_0 := Aside0.mk (hp_); clear hg hw hp_))
       repeat (go_quiet (first | ((with_reducible refine gate_store (t := 60) (p := 114) rfl ?_); (try (rw [drewN_self wr]; generalize hq_ : World.drewN wr _ = wr; have n0_ := Aside0.mk (Kd.Z_at hq_ HO_0.out); have n1_ := Aside0.mk (kept_at hq_ HK.out); have n2_ := Aside0.mk (below_at hq_ HB.out); clear hq_ HO_0 HK HB; have HO_0 := n0_; have HK := n1_; have HB := n2_; clear n0_ n1_ n2_; (try (have HP33 := Kd.Z_putg HO_0.out (x86_2 : Int) (of_decide_eq_true (by assumption)) (by have h_ : (x86_2 : Int) < ((x0_2.length : Int) : Int) := of_decide_eq_true (by assumption); first | exact h_ | (have e_ := (Kd.Z_reads' HO_0.out).1; omega) | simpa using h_) ((wrap64 ((wrap64 ((wrap64 (rd x0_2 x86_2)) - x10_2)) - ((IntKind.u64.wrap (x9_2 + (IntKind.u64.wrap (x7_9 * (IntKind.u64.wrap (rd l1 x86_2)))))) % 4294967296))) % 4294967296))))); refine store_event (t := 60) (p := 114) (v := ?vo_w34) (w1 := (wr.setCell ⟨go29, oo29 + (x86_2 : Int).toNat, none⟩ (.int .u32 ((wrap64 ((wrap64 ((wrap64 (rd x0_2 x86_2)) - x10_2)) - ((IntKind.u64.wrap (x9_2 + (IntKind.u64.wrap (x7_9 * (IntKind.u64.wrap (rd l1 x86_2)))))) % 4294967296))) % 4294967296)))) ?hg ?ho ?hn ?hr ?_; (case ho => rfl); (case hg => rfl); (case hn => rfl); (case hr => first | (go_simp; done) | (go_simp; rfl)); intro w34 hw; have hg : wr.grownBy w34 (some go29) := (by rw [hw]; exact HP33.2); have hp_ : Kd.Z V_ pre_ post_ (Kd.int .u32) 60 w34 w0.heap.size (fun k_ => (P0_ k_ ∨ w.heap.size ≤ k_)) (.slice (some ⟨go29, oo29, none⟩) x0_2.length co11) y260 := (by rw [hw, Ny260.out]; exact HP33.1); clear HP33; replace HB := Aside0.mk ((by rw [hw]; exact below_set (HB.out) GB29.out : Below w0.heap.size w0 w34)); replace HK := Aside0.mk (Kept.of_grown (S := (fun k_ => P0_ k_)) hg (kept_up HK.out) (fun k_ e_ => (HO_0.out.1 k_ e_))); replace HO_0 := Aside0.mk (hp_); clear hg hw hp_)); try go_wp2_with (first | ((with_reducible refine gate_store (t := 60) (p := 114) rfl ?_); (try (rw [drewN_self wr]; generalize hq_ : World.drewN wr _ = wr; have n0_ := Aside0.mk (Kd.Z_at hq_ HO_0.out); have n1_ := Aside0.mk (kept_at hq_ HK.out); have n2_ := Aside0.mk (below_at hq_ HB.out); clear hq_ HO_0 HK HB; have HO_0 := n0_; have HK := n1_; have HB := n2_; clear n0_ n1_ n2_; (try (have HP33 := Kd.Z_putg HO_0.out (x86_2 : Int) (of_decide_eq_true (by assumption)) (by have h_ : (x86_2 : Int) < ((x0_2.length : Int) : Int) := of_decide_eq_true (by assumption); first | exact h_ | (have e_ := (Kd.Z_reads' HO_0.out).1; omega) | simpa using h_) ((wrap64 ((wrap64 ((wrap64 (rd x0_2 x86_2)) - x10_2)) - ((IntKind.u64.wrap (x9_2 + (IntKind.u64.wrap (x7_9 * (IntKind.u64.wrap (rd l1 x86_2)))))) % 4294967296))) % 4294967296))))); refine store_event (t := 60) (p := 114) (v := ?vo_w34) (w1 := (wr.setCell ⟨go29, oo29 + (x86_2 : Int).toNat, none⟩ (.int .u32 ((wrap64 ((wrap64 ((wrap64 (rd x0_2 x86_2)) - x10_2)) - ((IntKind.u64.wrap (x9_2 + (IntKind.u64.wrap (x7_9 * (IntKind.u64.wrap (rd l1 x86_2)))))) % 4294967296))) % 4294967296)))) ?hg ?ho ?hn ?hr ?_; (case ho => rfl); (case hg => rfl); (case hn => rfl); (case hr => first | (go_simp; done) | (go_simp; rfl)); intro w34 hw; have hg : wr.grownBy w34 (some go29) := (by rw [hw]; exact HP33.2); have hp_ : Kd.Z V_ pre_ post_ (Kd.int .u32) 60 w34 w0.heap.size (fun k_ => (P0_ k_ ∨ w.heap.size ≤ k_)) (.slice (some ⟨go29, oo29, none⟩) x0_2.length co11) y260 := (by rw [hw, Ny260.out]; exact HP33.1); clear HP33; replace HB := Aside0.mk ((by rw [hw]; exact below_set (HB.out) GB29.out : Below w0.heap.size w0 w34)); replace HK := Aside0.mk (Kept.of_grown (S := (fun k_ => P0_ k_)) hg (kept_up HK.out) (fun k_ e_ => (HO_0.out.1 k_ e_))); replace HO_0 := Aside0.mk (hp_); clear hg hw hp_)))
       (try simp only [← hl0_2])
       (try rw [show (⟨go29, oo29 + l1.length, none⟩ : Addr) = Addr.add ⟨go29, oo29, none⟩ (l1.length) from (by simp [Addr.add])])
       (try rw [show (⟨go29, oo29 + ji5.toNat, none⟩ : Addr) = Addr.add ⟨go29, oo29, none⟩ (ji5.toNat) from (by simp [Addr.add])])
       go_roundg k2
       case measure => have := HJ9.out; have := HK2.out; omega
       case rel => exact ⟨(y260), ((IntKind.u64.wrap (x9_2 + (IntKind.u64.wrap (x7_9 * (IntKind.u64.wrap (rd l1 x86_2)))))) / 4294967296), (0), (wrap64 (x86_2 + 1)), (by first | rfl | (simp; done) | (simp [*]; done) | (simp <;> omega)), (by first | rfl | (simp; done) | (simp [*]; done) | (simp <;> omega)), (by first | rfl | (simp; done) | (simp [*]; done) | (simp <;> omega)), H', ⟨by have := HJ9.out; have := HK2.out; omega⟩, ⟨by (try simp only [hl0_2]); (with_reducible repeat (first | apply Kd.Z_alloc | apply Kd.Z_drewN | apply Kd.Z_drew)); exact HO_0.out⟩, ⟨by repeat (first | (with_reducible first | exact HK.out | apply Kept.alloc | apply Kept.drewN | apply Kept.drew) | exact HK.out)⟩, ⟨below_up HB.out⟩⟩
     ·
      rw [if_neg c25] at H
      have c25b0 := decide_eq_false c25
      (try simp only [hl0_2] at c25b0)
      clear c25
      obtain ⟨c35, H⟩ := ite_some H
      have c35b0 := decide_eq_true c35
      (try simp only [hl0_2] at c35b0)
      have c35b1 : decide (0 ≤ l1.length) = true := decide_eq_true (by omega)
      (try simp only [hl0_2] at c35b1)
      clear c35
      obtain ⟨c36, H⟩ := ite_some H
      have c36b0 := decide_eq_true c36
      (try simp only [hl0_2] at c36b0)
      have c36b1 : decide (l1.length < x0_2.length) = true := decide_eq_true (Int.ofNat_lt.mp c36)
      (try simp only [hl0_2] at c36b1)
      clear c36
      obtain ⟨y262, hy262⟩ : ∃ y_ : List Int, y_ = (x0_2.set ((l1.length : Int) : Int).toNat ((wrap64 ((wrap64 ((wrap64 (rd x0_2 (l1.length : Int))) - x10_2)) - (wrap64 (x9_2)))) % 4294967296)) := ⟨_, rfl⟩
      replace H : (if (wrap64 ((wrap64 ((wrap64 (rd x0_2 (l1.length : Int))) - x10_2)) - (wrap64 (x9_2)))) ≥ 0 then (some ((x7_9) % 4294967296, y262)) else (integer_digit.l2 k2 y262 (l1.length : Int) x7_9 0 l1 (l1.length : Int) 0)) = some (r1, r2) := by first | (rw [hy262]; exact H) | exact H
      have Ny262 := Aside0.mk hy262
      clear hy262
      by_cases c38 : (wrap64 ((wrap64 ((wrap64 (rd x0_2 (l1.length : Int))) - x10_2)) - (wrap64 (x9_2)))) ≥ 0
      ·
       rw [if_pos c38] at H
       have c38b0 := decide_eq_true c38
       (try simp only [hl0_2] at c38b0)
       clear c38
       simp only [Option.some.injEq, Prod.mk.injEq] at H
       obtain ⟨rfl, rfl⟩ := H
       have p261 : 0 ≤ ((l1.length : Int) : Int) := of_decide_eq_true (by assumption)
       have q261 : (l1.length : Int) < (x0_2.length : Int) := of_decide_eq_true (by assumption)
       obtain ⟨ad261, e261, hx261_0⟩ := Kd.at_int (Kd.Z_reads' HO_0.out).2.2 (l1.length : Int) p261 q261
       obtain rfl : ad250 = ad261 := (by injection e261)
       (try simp only [Go.IntWalk.toNatUp] at hx261_0)
       (try simp only [hl0_2] at p261)
       (try simp only [hl0_2] at q261)
       (try simp only [hl0_2] at hx261_0)
       replace p261 := eq_true p261
       replace q261 := eq_true q261
       have p37 : 0 ≤ ((l1.length : Int) : Int) := of_decide_eq_true (by assumption)
       have q37 : ((l1.length : Int) : Int) < ((x0_2.length : Int) : Int) := of_decide_eq_true (by assumption)
       obtain ⟨go37, oo37, co37, eo37, gb37, gl37, cl37, HG37⟩ := Kd.Z_form HO_0.out (by omega)
       (first | cases eo37 | (injection eo37 with ea_ en_ ec_; (first | subst ea_ | (injection ea_ with ea_; subst ea_)); subst ec_; clear en_))
       have GB37 := Aside0.mk gb37
       have GG37 := Aside0.mk HG37
       clear gb37 gl37 HG37
       have HMgo37 := Aside0.mk (show (P0_ go37 ∨ w.heap.size ≤ go37) from (HO_0.out.1 _ rfl))
       (first | simp only [add_at] at hx261_0 | skip)
       obtain ⟨hx37_0, hf37_0⟩ := Kd.Z_cell 0 HO_0.out ((l1.length : Int) : Int) p37 q37
       (try simp only [Go.IntWalk.toNatUp] at hx37_0 hf37_0)
       replace p37 := eq_true p37
       replace q37 := eq_true q37
       have HP39 := Kd.Z_putg HO_0.out ((l1.length : Int) : Int) (of_decide_eq_true (by assumption)) (by have h_ : ((l1.length : Int) : Int) < ((x0_2.length : Int) : Int) := of_decide_eq_true (by assumption); first | exact h_ | (have e_ := (Kd.Z_reads' HO_0.out).1; omega) | simpa using h_) ((wrap64 ((wrap64 ((wrap64 (rd x0_2 (l1.length : Int))) - x10_2)) - (wrap64 (x9_2)))) % 4294967296)
       go_wp2_with (first | ((with_reducible refine gate_store (t := 60) (p := 132) rfl ?_); (try (rw [drewN_self wr]; generalize hq_ : World.drewN wr _ = wr; have n0_ := Aside0.mk (Kd.Z_at hq_ HO_0.out); have n1_ := Aside0.mk (kept_at hq_ HK.out); have n2_ := Aside0.mk (below_at hq_ HB.out); clear hq_ HO_0 HK HB; have HO_0 := n0_; have HK := n1_; have HB := n2_; clear n0_ n1_ n2_; (try (have HP39 := Kd.Z_putg HO_0.out ((l1.length : Int) : Int) (of_decide_eq_true (by assumption)) (by have h_ : ((l1.length : Int) : Int) < ((x0_2.length : Int) : Int) := of_decide_eq_true (by assumption); first | exact h_ | (have e_ := (Kd.Z_reads' HO_0.out).1; omega) | simpa using h_) ((wrap64 ((wrap64 ((wrap64 (rd x0_2 (l1.length : Int))) - x10_2)) - (wrap64 (x9_2)))) % 4294967296))))); refine store_event (t := 60) (p := 132) (v := ?vo_w40) (w1 := (wr.setCell ⟨go37, oo37 + ((l1.length : Int) : Int).toNat, none⟩ (.int .u32 ((wrap64 ((wrap64 ((wrap64 (rd x0_2 (l1.length : Int))) - x10_2)) - (wrap64 (x9_2)))) % 4294967296)))) ?hg ?ho ?hn ?hr ?_; (case ho => rfl); (case hg => rfl); (case hn => rfl); (case hr => first | (go_simp; done) | (go_simp; rfl)); intro w40 hw; have hg : wr.grownBy w40 (some go37) := (by rw [hw]; exact HP39.2); have hp_ : Kd.Z V_ pre_ post_ (Kd.int .u32) 60 w40 w0.heap.size (fun k_ => (P0_ k_ ∨ w.heap.size ≤ k_)) (.slice (some ⟨go37, oo37, none⟩) x0_2.length co11) y262 := (by rw [hw, Ny262.out]; exact HP39.1); clear HP39; replace HB := Aside0.mk ((by rw [hw]; exact below_set (HB.out) GB37.out : Below w0.heap.size w0 w40)); replace HK := Aside0.mk (Kept.of_grown (S := (fun k_ => P0_ k_)) hg (kept_up HK.out) (fun k_ e_ => (HO_0.out.1 k_ e_))); replace HO_0 := Aside0.mk (hp_); clear hg hw hp_))
       repeat (go_quiet (first | ((with_reducible refine gate_store (t := 60) (p := 132) rfl ?_); (try (rw [drewN_self wr]; generalize hq_ : World.drewN wr _ = wr; have n0_ := Aside0.mk (Kd.Z_at hq_ HO_0.out); have n1_ := Aside0.mk (kept_at hq_ HK.out); have n2_ := Aside0.mk (below_at hq_ HB.out); clear hq_ HO_0 HK HB; have HO_0 := n0_; have HK := n1_; have HB := n2_; clear n0_ n1_ n2_; (try (have HP39 := Kd.Z_putg HO_0.out ((l1.length : Int) : Int) (of_decide_eq_true (by assumption)) (by have h_ : ((l1.length : Int) : Int) < ((x0_2.length : Int) : Int) := of_decide_eq_true (by assumption); first | exact h_ | (have e_ := (Kd.Z_reads' HO_0.out).1; omega) | simpa using h_) ((wrap64 ((wrap64 ((wrap64 (rd x0_2 (l1.length : Int))) - x10_2)) - (wrap64 (x9_2)))) % 4294967296))))); refine store_event (t := 60) (p := 132) (v := ?vo_w40) (w1 := (wr.setCell ⟨go37, oo37 + ((l1.length : Int) : Int).toNat, none⟩ (.int .u32 ((wrap64 ((wrap64 ((wrap64 (rd x0_2 (l1.length : Int))) - x10_2)) - (wrap64 (x9_2)))) % 4294967296)))) ?hg ?ho ?hn ?hr ?_; (case ho => rfl); (case hg => rfl); (case hn => rfl); (case hr => first | (go_simp; done) | (go_simp; rfl)); intro w40 hw; have hg : wr.grownBy w40 (some go37) := (by rw [hw]; exact HP39.2); have hp_ : Kd.Z V_ pre_ post_ (Kd.int .u32) 60 w40 w0.heap.size (fun k_ => (P0_ k_ ∨ w.heap.size ≤ k_)) (.slice (some ⟨go37, oo37, none⟩) x0_2.length co11) y262 := (by rw [hw, Ny262.out]; exact HP39.1); clear HP39; replace HB := Aside0.mk ((by rw [hw]; exact below_set (HB.out) GB37.out : Below w0.heap.size w0 w40)); replace HK := Aside0.mk (Kept.of_grown (S := (fun k_ => P0_ k_)) hg (kept_up HK.out) (fun k_ e_ => (HO_0.out.1 k_ e_))); replace HO_0 := Aside0.mk (hp_); clear hg hw hp_)); try go_wp2_with (first | ((with_reducible refine gate_store (t := 60) (p := 132) rfl ?_); (try (rw [drewN_self wr]; generalize hq_ : World.drewN wr _ = wr; have n0_ := Aside0.mk (Kd.Z_at hq_ HO_0.out); have n1_ := Aside0.mk (kept_at hq_ HK.out); have n2_ := Aside0.mk (below_at hq_ HB.out); clear hq_ HO_0 HK HB; have HO_0 := n0_; have HK := n1_; have HB := n2_; clear n0_ n1_ n2_; (try (have HP39 := Kd.Z_putg HO_0.out ((l1.length : Int) : Int) (of_decide_eq_true (by assumption)) (by have h_ : ((l1.length : Int) : Int) < ((x0_2.length : Int) : Int) := of_decide_eq_true (by assumption); first | exact h_ | (have e_ := (Kd.Z_reads' HO_0.out).1; omega) | simpa using h_) ((wrap64 ((wrap64 ((wrap64 (rd x0_2 (l1.length : Int))) - x10_2)) - (wrap64 (x9_2)))) % 4294967296))))); refine store_event (t := 60) (p := 132) (v := ?vo_w40) (w1 := (wr.setCell ⟨go37, oo37 + ((l1.length : Int) : Int).toNat, none⟩ (.int .u32 ((wrap64 ((wrap64 ((wrap64 (rd x0_2 (l1.length : Int))) - x10_2)) - (wrap64 (x9_2)))) % 4294967296)))) ?hg ?ho ?hn ?hr ?_; (case ho => rfl); (case hg => rfl); (case hn => rfl); (case hr => first | (go_simp; done) | (go_simp; rfl)); intro w40 hw; have hg : wr.grownBy w40 (some go37) := (by rw [hw]; exact HP39.2); have hp_ : Kd.Z V_ pre_ post_ (Kd.int .u32) 60 w40 w0.heap.size (fun k_ => (P0_ k_ ∨ w.heap.size ≤ k_)) (.slice (some ⟨go37, oo37, none⟩) x0_2.length co11) y262 := (by rw [hw, Ny262.out]; exact HP39.1); clear HP39; replace HB := Aside0.mk ((by rw [hw]; exact below_set (HB.out) GB37.out : Below w0.heap.size w0 w40)); replace HK := Aside0.mk (Kept.of_grown (S := (fun k_ => P0_ k_)) hg (kept_up HK.out) (fun k_ e_ => (HO_0.out.1 k_ e_))); replace HO_0 := Aside0.mk (hp_); clear hg hw hp_)))
       go_ret
       exact ⟨by first | rfl | (simp [errW_none, errW_some] <;> rfl) | (simp only [← hji5]; first | rfl | (simp [errW_none, errW_some] <;> rfl)) | (simp [*, errW_none, errW_some] <;> rfl), (by first | exact (Kd.Z_up HO_0.out) | (simp only [hl0_2]; exact (Kd.Z_up HO_0.out))), by repeat (first | (with_reducible first | exact HB.out | apply below_alloc | apply pw_below_drewN | apply below_drew1) | exact HB.out), by repeat (first | (with_reducible first | exact HK.out | apply Kept.alloc | apply Kept.drewN | apply Kept.drew) | exact HK.out)⟩
      ·
       rw [if_neg c38] at H
       have c38b0 := decide_eq_false c38
       (try simp only [hl0_2] at c38b0)
       clear c38
       have H' := Aside0.mk H
       clear H
       have p261 : 0 ≤ ((l1.length : Int) : Int) := of_decide_eq_true (by assumption)
       have q261 : (l1.length : Int) < (x0_2.length : Int) := of_decide_eq_true (by assumption)
       obtain ⟨ad261, e261, hx261_0⟩ := Kd.at_int (Kd.Z_reads' HO_0.out).2.2 (l1.length : Int) p261 q261
       obtain rfl : ad250 = ad261 := (by injection e261)
       (try simp only [Go.IntWalk.toNatUp] at hx261_0)
       (try simp only [hl0_2] at p261)
       (try simp only [hl0_2] at q261)
       (try simp only [hl0_2] at hx261_0)
       replace p261 := eq_true p261
       replace q261 := eq_true q261
       have p37 : 0 ≤ ((l1.length : Int) : Int) := of_decide_eq_true (by assumption)
       have q37 : ((l1.length : Int) : Int) < ((x0_2.length : Int) : Int) := of_decide_eq_true (by assumption)
       obtain ⟨go37, oo37, co37, eo37, gb37, gl37, cl37, HG37⟩ := Kd.Z_form HO_0.out (by omega)
       (first | cases eo37 | (injection eo37 with ea_ en_ ec_; (first | subst ea_ | (injection ea_ with ea_; subst ea_)); subst ec_; clear en_))
       have GB37 := Aside0.mk gb37
       have GG37 := Aside0.mk HG37
       clear gb37 gl37 HG37
       have HMgo37 := Aside0.mk (show (P0_ go37 ∨ w.heap.size ≤ go37) from (HO_0.out.1 _ rfl))
       (first | simp only [add_at] at hx261_0 | skip)
       obtain ⟨hx37_0, hf37_0⟩ := Kd.Z_cell 0 HO_0.out ((l1.length : Int) : Int) p37 q37
       (try simp only [Go.IntWalk.toNatUp] at hx37_0 hf37_0)
       replace p37 := eq_true p37
       replace q37 := eq_true q37
       have HP41 := Kd.Z_putg HO_0.out ((l1.length : Int) : Int) (of_decide_eq_true (by assumption)) (by have h_ : ((l1.length : Int) : Int) < ((x0_2.length : Int) : Int) := of_decide_eq_true (by assumption); first | exact h_ | (have e_ := (Kd.Z_reads' HO_0.out).1; omega) | simpa using h_) ((wrap64 ((wrap64 ((wrap64 (rd x0_2 (l1.length : Int))) - x10_2)) - (wrap64 (x9_2)))) % 4294967296)
       go_wp2_with (first | ((with_reducible refine gate_store (t := 60) (p := 132) rfl ?_); (try (rw [drewN_self wr]; generalize hq_ : World.drewN wr _ = wr; have n0_ := Aside0.mk (Kd.Z_at hq_ HO_0.out); have n1_ := Aside0.mk (kept_at hq_ HK.out); have n2_ := Aside0.mk (below_at hq_ HB.out); clear hq_ HO_0 HK HB; have HO_0 := n0_; have HK := n1_; have HB := n2_; clear n0_ n1_ n2_; (try (have HP41 := Kd.Z_putg HO_0.out ((l1.length : Int) : Int) (of_decide_eq_true (by assumption)) (by have h_ : ((l1.length : Int) : Int) < ((x0_2.length : Int) : Int) := of_decide_eq_true (by assumption); first | exact h_ | (have e_ := (Kd.Z_reads' HO_0.out).1; omega) | simpa using h_) ((wrap64 ((wrap64 ((wrap64 (rd x0_2 (l1.length : Int))) - x10_2)) - (wrap64 (x9_2)))) % 4294967296))))); refine store_event (t := 60) (p := 132) (v := ?vo_w42) (w1 := (wr.setCell ⟨go37, oo37 + ((l1.length : Int) : Int).toNat, none⟩ (.int .u32 ((wrap64 ((wrap64 ((wrap64 (rd x0_2 (l1.length : Int))) - x10_2)) - (wrap64 (x9_2)))) % 4294967296)))) ?hg ?ho ?hn ?hr ?_; (case ho => rfl); (case hg => rfl); (case hn => rfl); (case hr => first | (go_simp; done) | (go_simp; rfl)); intro w42 hw; have hg : wr.grownBy w42 (some go37) := (by rw [hw]; exact HP41.2); have hp_ : Kd.Z V_ pre_ post_ (Kd.int .u32) 60 w42 w0.heap.size (fun k_ => (P0_ k_ ∨ w.heap.size ≤ k_)) (.slice (some ⟨go37, oo37, none⟩) x0_2.length co11) y262 := (by rw [hw, Ny262.out]; exact HP41.1); clear HP41; replace HB := Aside0.mk ((by rw [hw]; exact below_set (HB.out) GB37.out : Below w0.heap.size w0 w42)); replace HK := Aside0.mk (Kept.of_grown (S := (fun k_ => P0_ k_)) hg (kept_up HK.out) (fun k_ e_ => (HO_0.out.1 k_ e_))); replace HO_0 := Aside0.mk (hp_); clear hg hw hp_))
       repeat (go_quiet (first | ((with_reducible refine gate_store (t := 60) (p := 132) rfl ?_); (try (rw [drewN_self wr]; generalize hq_ : World.drewN wr _ = wr; have n0_ := Aside0.mk (Kd.Z_at hq_ HO_0.out); have n1_ := Aside0.mk (kept_at hq_ HK.out); have n2_ := Aside0.mk (below_at hq_ HB.out); clear hq_ HO_0 HK HB; have HO_0 := n0_; have HK := n1_; have HB := n2_; clear n0_ n1_ n2_; (try (have HP41 := Kd.Z_putg HO_0.out ((l1.length : Int) : Int) (of_decide_eq_true (by assumption)) (by have h_ : ((l1.length : Int) : Int) < ((x0_2.length : Int) : Int) := of_decide_eq_true (by assumption); first | exact h_ | (have e_ := (Kd.Z_reads' HO_0.out).1; omega) | simpa using h_) ((wrap64 ((wrap64 ((wrap64 (rd x0_2 (l1.length : Int))) - x10_2)) - (wrap64 (x9_2)))) % 4294967296))))); refine store_event (t := 60) (p := 132) (v := ?vo_w42) (w1 := (wr.setCell ⟨go37, oo37 + ((l1.length : Int) : Int).toNat, none⟩ (.int .u32 ((wrap64 ((wrap64 ((wrap64 (rd x0_2 (l1.length : Int))) - x10_2)) - (wrap64 (x9_2)))) % 4294967296)))) ?hg ?ho ?hn ?hr ?_; (case ho => rfl); (case hg => rfl); (case hn => rfl); (case hr => first | (go_simp; done) | (go_simp; rfl)); intro w42 hw; have hg : wr.grownBy w42 (some go37) := (by rw [hw]; exact HP41.2); have hp_ : Kd.Z V_ pre_ post_ (Kd.int .u32) 60 w42 w0.heap.size (fun k_ => (P0_ k_ ∨ w.heap.size ≤ k_)) (.slice (some ⟨go37, oo37, none⟩) x0_2.length co11) y262 := (by rw [hw, Ny262.out]; exact HP41.1); clear HP41; replace HB := Aside0.mk ((by rw [hw]; exact below_set (HB.out) GB37.out : Below w0.heap.size w0 w42)); replace HK := Aside0.mk (Kept.of_grown (S := (fun k_ => P0_ k_)) hg (kept_up HK.out) (fun k_ e_ => (HO_0.out.1 k_ e_))); replace HO_0 := Aside0.mk (hp_); clear hg hw hp_)); try go_wp2_with (first | ((with_reducible refine gate_store (t := 60) (p := 132) rfl ?_); (try (rw [drewN_self wr]; generalize hq_ : World.drewN wr _ = wr; have n0_ := Aside0.mk (Kd.Z_at hq_ HO_0.out); have n1_ := Aside0.mk (kept_at hq_ HK.out); have n2_ := Aside0.mk (below_at hq_ HB.out); clear hq_ HO_0 HK HB; have HO_0 := n0_; have HK := n1_; have HB := n2_; clear n0_ n1_ n2_; (try (have HP41 := Kd.Z_putg HO_0.out ((l1.length : Int) : Int) (of_decide_eq_true (by assumption)) (by have h_ : ((l1.length : Int) : Int) < ((x0_2.length : Int) : Int) := of_decide_eq_true (by assumption); first | exact h_ | (have e_ := (Kd.Z_reads' HO_0.out).1; omega) | simpa using h_) ((wrap64 ((wrap64 ((wrap64 (rd x0_2 (l1.length : Int))) - x10_2)) - (wrap64 (x9_2)))) % 4294967296))))); refine store_event (t := 60) (p := 132) (v := ?vo_w42) (w1 := (wr.setCell ⟨go37, oo37 + ((l1.length : Int) : Int).toNat, none⟩ (.int .u32 ((wrap64 ((wrap64 ((wrap64 (rd x0_2 (l1.length : Int))) - x10_2)) - (wrap64 (x9_2)))) % 4294967296)))) ?hg ?ho ?hn ?hr ?_; (case ho => rfl); (case hg => rfl); (case hn => rfl); (case hr => first | (go_simp; done) | (go_simp; rfl)); intro w42 hw; have hg : wr.grownBy w42 (some go37) := (by rw [hw]; exact HP41.2); have hp_ : Kd.Z V_ pre_ post_ (Kd.int .u32) 60 w42 w0.heap.size (fun k_ => (P0_ k_ ∨ w.heap.size ≤ k_)) (.slice (some ⟨go37, oo37, none⟩) x0_2.length co11) y262 := (by rw [hw, Ny262.out]; exact HP41.1); clear HP41; replace HB := Aside0.mk ((by rw [hw]; exact below_set (HB.out) GB37.out : Below w0.heap.size w0 w42)); replace HK := Aside0.mk (Kept.of_grown (S := (fun k_ => P0_ k_)) hg (kept_up HK.out) (fun k_ e_ => (HO_0.out.1 k_ e_))); replace HO_0 := Aside0.mk (hp_); clear hg hw hp_)))
       go_loopg [9, 139] k2 (fun kq v9 v139 w' => ∃ (x0_3 : List Int) (x9_3 : Int) (x139_3 : Int), v9 = .int .u64 x9_3 ∧ v139 = .int .i64 x139_3 ∧ Aside0 (integer_digit.l2 kq x0_3 (l1.length : Int) x7_9 x9_3 l1 (l1.length : Int) x139_3 = some (r1, r2)) ∧ Aside0 (kq ≤ k2) ∧ Aside0 (Kd.Z V_ pre_ post_ (Kd.int .u32) 60 w' w0.heap.size (fun k_ => (P0_ k_ ∨ w.heap.size ≤ k_)) (.slice (some ⟨go37, oo37, none⟩) x0_2.length co11) x0_3) ∧ Aside0 (Kept w w' (fun k_ => P0_ k_)) ∧ Aside0 (Below w0.heap.size w0 w'))
       case atStart => exact ⟨(y262), (0), (0), (by first | rfl | (simp; done) | (simp [*]; done) | (simp <;> omega)), (by first | rfl | (simp; done) | (simp [*]; done) | (simp <;> omega)), H', ⟨Nat.le_refl _⟩, ⟨by (try simp only [hl0_2]); (with_reducible repeat (first | apply Kd.Z_alloc | apply Kd.Z_drewN | apply Kd.Z_drew)); exact HO_0.out⟩, ⟨by repeat (first | (with_reducible first | exact HK.out | apply Kept.alloc | apply Kept.drewN | apply Kept.drew) | exact HK.out)⟩, ⟨below_up HB.out⟩⟩
       case round =>
        clear H'
        obtain ⟨x0_3, x9_3, x139_3, rfl, rfl, HA, HK3, HO_0, HK, HB⟩ := hrel
        have hl0_3 := (Kd.Z_reads' HO_0.out).1
        rw [hl0_3] at HO_0
        (try simp only [hl0_3])
        cases gk with
        | zero => exact absurd HA.out (by simp [integer_digit.l2])
        | succ k3 =>
         have H := HA.out
         clear HA
         simp only [integer_digit.l2] at H
         by_cases c43 : x139_3 < (l1.length : Int)
         ·
          rw [if_pos c43] at H
          have c43b0 := decide_eq_true c43
          (try simp only [hl0_2, hl0_3] at c43b0)
          clear c43
          obtain ⟨c44, H⟩ := ite_some H
          have c44b0 := decide_eq_true c44
          clear c44
          obtain ⟨c45, H⟩ := ite_some H
          have c45b0 := decide_eq_true c45
          (try simp only [hl0_2, hl0_3] at c45b0)
          clear c45
          obtain ⟨c46, H⟩ := ite_some H
          have c46b0 := decide_eq_true c46
          (try simp only [hl0_2, hl0_3] at c46b0)
          clear c46
          obtain ⟨y265, hy265⟩ : ∃ y_ : List Int, y_ = (x0_3.set (x139_3 : Int).toNat ((IntKind.u64.wrap (x9_3 + (IntKind.u64.wrap ((IntKind.u64.wrap (rd x0_3 x139_3)) + (IntKind.u64.wrap (rd l1 x139_3)))))) % 4294967296)) := ⟨_, rfl⟩
          replace H : (integer_digit.l2 k3 y265 (l1.length : Int) x7_9 ((IntKind.u64.wrap (x9_3 + (IntKind.u64.wrap ((IntKind.u64.wrap (rd x0_3 x139_3)) + (IntKind.u64.wrap (rd l1 x139_3)))))) / 4294967296) l1 (l1.length : Int) (wrap64 (x139_3 + 1))) = some (r1, r2) := by first | (rw [hy265]; exact H) | exact H
          have Ny265 := Aside0.mk hy265
          clear hy265
          have H' := Aside0.mk H
          clear H
          have p263 : 0 ≤ (x139_3 : Int) := of_decide_eq_true (by assumption)
          have q263 : x139_3 < (l1.length : Int) := of_decide_eq_true (by assumption)
          obtain ⟨ad263, e263, hx263_0⟩ := Kd.at_int (Kd.C_kept_now HR1.out HK.out) x139_3 p263 q263
          obtain rfl : ad252 = ad263 := (by injection e263)
          replace p263 := eq_true p263
          replace q263 := eq_true q263
          have p264 : 0 ≤ (x139_3 : Int) := of_decide_eq_true (by assumption)
          have q264 : x139_3 < (x0_3.length : Int) := of_decide_eq_true (by assumption)
          obtain ⟨ad264, e264, hx264_0⟩ := Kd.at_int (Kd.Z_reads' HO_0.out).2.2 x139_3 p264 q264
          obtain rfl : (⟨go37, oo37, none⟩ : Addr) = ad264 := (by injection e264)
          (first | simp only [add_plain] at hx264_0 | simp only [add_at] at hx264_0 | simp only [Addr.add, Nat.zero_add] at hx264_0 | skip)
          replace p264 := eq_true p264
          replace q264 := eq_true q264
          have p47 : 0 ≤ (x139_3 : Int) := of_decide_eq_true (by assumption)
          have q47 : (x139_3 : Int) < ((x0_3.length : Int) : Int) := of_decide_eq_true (by assumption)
          obtain ⟨hx47_0, hf47_0⟩ := Kd.Z_cell 0 HO_0.out (x139_3 : Int) p47 q47
          replace p47 := eq_true p47
          replace q47 := eq_true q47
          have HP48 := Kd.Z_putg HO_0.out (x139_3 : Int) (of_decide_eq_true (by assumption)) (by have h_ : (x139_3 : Int) < ((x0_3.length : Int) : Int) := of_decide_eq_true (by assumption); first | exact h_ | (have e_ := (Kd.Z_reads' HO_0.out).1; omega) | simpa using h_) ((IntKind.u64.wrap (x9_3 + (IntKind.u64.wrap ((IntKind.u64.wrap (rd x0_3 x139_3)) + (IntKind.u64.wrap (rd l1 x139_3)))))) % 4294967296)
          go_wp2_with (first | ((with_reducible refine gate_store (t := 60) (p := 158) rfl ?_); (try (rw [drewN_self wr]; generalize hq_ : World.drewN wr _ = wr; have n0_ := Aside0.mk (Kd.Z_at hq_ HO_0.out); have n1_ := Aside0.mk (kept_at hq_ HK.out); have n2_ := Aside0.mk (below_at hq_ HB.out); clear hq_ HO_0 HK HB; have HO_0 := n0_; have HK := n1_; have HB := n2_; clear n0_ n1_ n2_; (try (have HP48 := Kd.Z_putg HO_0.out (x139_3 : Int) (of_decide_eq_true (by assumption)) (by have h_ : (x139_3 : Int) < ((x0_3.length : Int) : Int) := of_decide_eq_true (by assumption); first | exact h_ | (have e_ := (Kd.Z_reads' HO_0.out).1; omega) | simpa using h_) ((IntKind.u64.wrap (x9_3 + (IntKind.u64.wrap ((IntKind.u64.wrap (rd x0_3 x139_3)) + (IntKind.u64.wrap (rd l1 x139_3)))))) % 4294967296))))); refine store_event (t := 60) (p := 158) (v := ?vo_w49) (w1 := (wr.setCell ⟨go37, oo37 + (x139_3 : Int).toNat, none⟩ (.int .u32 ((IntKind.u64.wrap (x9_3 + (IntKind.u64.wrap ((IntKind.u64.wrap (rd x0_3 x139_3)) + (IntKind.u64.wrap (rd l1 x139_3)))))) % 4294967296)))) ?hg ?ho ?hn ?hr ?_; (case ho => rfl); (case hg => rfl); (case hn => rfl); (case hr => first | (go_simp; done) | (go_simp; rfl)); intro w49 hw; have hg : wr.grownBy w49 (some go37) := (by rw [hw]; exact HP48.2); have hp_ : Kd.Z V_ pre_ post_ (Kd.int .u32) 60 w49 w0.heap.size (fun k_ => (P0_ k_ ∨ w.heap.size ≤ k_)) (.slice (some ⟨go37, oo37, none⟩) x0_3.length co11) y265 := (by rw [hw, Ny265.out]; exact HP48.1); clear HP48; replace HB := Aside0.mk ((by rw [hw]; exact below_set (HB.out) GB37.out : Below w0.heap.size w0 w49)); replace HK := Aside0.mk (Kept.of_grown (S := (fun k_ => P0_ k_)) hg (kept_up HK.out) (fun k_ e_ => (HO_0.out.1 k_ e_))); replace HO_0 := Aside0.mk (hp_); clear hg hw hp_))
          repeat (go_quiet (first | ((with_reducible refine gate_store (t := 60) (p := 158) rfl ?_); (try (rw [drewN_self wr]; generalize hq_ : World.drewN wr _ = wr; have n0_ := Aside0.mk (Kd.Z_at hq_ HO_0.out); have n1_ := Aside0.mk (kept_at hq_ HK.out); have n2_ := Aside0.mk (below_at hq_ HB.out); clear hq_ HO_0 HK HB; have HO_0 := n0_; have HK := n1_; have HB := n2_; clear n0_ n1_ n2_; (try (have HP48 := Kd.Z_putg HO_0.out (x139_3 : Int) (of_decide_eq_true (by assumption)) (by have h_ : (x139_3 : Int) < ((x0_3.length : Int) : Int) := of_decide_eq_true (by assumption); first | exact h_ | (have e_ := (Kd.Z_reads' HO_0.out).1; omega) | simpa using h_) ((IntKind.u64.wrap (x9_3 + (IntKind.u64.wrap ((IntKind.u64.wrap (rd x0_3 x139_3)) + (IntKind.u64.wrap (rd l1 x139_3)))))) % 4294967296))))); refine store_event (t := 60) (p := 158) (v := ?vo_w49) (w1 := (wr.setCell ⟨go37, oo37 + (x139_3 : Int).toNat, none⟩ (.int .u32 ((IntKind.u64.wrap (x9_3 + (IntKind.u64.wrap ((IntKind.u64.wrap (rd x0_3 x139_3)) + (IntKind.u64.wrap (rd l1 x139_3)))))) % 4294967296)))) ?hg ?ho ?hn ?hr ?_; (case ho => rfl); (case hg => rfl); (case hn => rfl); (case hr => first | (go_simp; done) | (go_simp; rfl)); intro w49 hw; have hg : wr.grownBy w49 (some go37) := (by rw [hw]; exact HP48.2); have hp_ : Kd.Z V_ pre_ post_ (Kd.int .u32) 60 w49 w0.heap.size (fun k_ => (P0_ k_ ∨ w.heap.size ≤ k_)) (.slice (some ⟨go37, oo37, none⟩) x0_3.length co11) y265 := (by rw [hw, Ny265.out]; exact HP48.1); clear HP48; replace HB := Aside0.mk ((by rw [hw]; exact below_set (HB.out) GB37.out : Below w0.heap.size w0 w49)); replace HK := Aside0.mk (Kept.of_grown (S := (fun k_ => P0_ k_)) hg (kept_up HK.out) (fun k_ e_ => (HO_0.out.1 k_ e_))); replace HO_0 := Aside0.mk (hp_); clear hg hw hp_)); try go_wp2_with (first | ((with_reducible refine gate_store (t := 60) (p := 158) rfl ?_); (try (rw [drewN_self wr]; generalize hq_ : World.drewN wr _ = wr; have n0_ := Aside0.mk (Kd.Z_at hq_ HO_0.out); have n1_ := Aside0.mk (kept_at hq_ HK.out); have n2_ := Aside0.mk (below_at hq_ HB.out); clear hq_ HO_0 HK HB; have HO_0 := n0_; have HK := n1_; have HB := n2_; clear n0_ n1_ n2_; (try (have HP48 := Kd.Z_putg HO_0.out (x139_3 : Int) (of_decide_eq_true (by assumption)) (by have h_ : (x139_3 : Int) < ((x0_3.length : Int) : Int) := of_decide_eq_true (by assumption); first | exact h_ | (have e_ := (Kd.Z_reads' HO_0.out).1; omega) | simpa using h_) ((IntKind.u64.wrap (x9_3 + (IntKind.u64.wrap ((IntKind.u64.wrap (rd x0_3 x139_3)) + (IntKind.u64.wrap (rd l1 x139_3)))))) % 4294967296))))); refine store_event (t := 60) (p := 158) (v := ?vo_w49) (w1 := (wr.setCell ⟨go37, oo37 + (x139_3 : Int).toNat, none⟩ (.int .u32 ((IntKind.u64.wrap (x9_3 + (IntKind.u64.wrap ((IntKind.u64.wrap (rd x0_3 x139_3)) + (IntKind.u64.wrap (rd l1 x139_3)))))) % 4294967296)))) ?hg ?ho ?hn ?hr ?_; (case ho => rfl); (case hg => rfl); (case hn => rfl); (case hr => first | (go_simp; done) | (go_simp; rfl)); intro w49 hw; have hg : wr.grownBy w49 (some go37) := (by rw [hw]; exact HP48.2); have hp_ : Kd.Z V_ pre_ post_ (Kd.int .u32) 60 w49 w0.heap.size (fun k_ => (P0_ k_ ∨ w.heap.size ≤ k_)) (.slice (some ⟨go37, oo37, none⟩) x0_3.length co11) y265 := (by rw [hw, Ny265.out]; exact HP48.1); clear HP48; replace HB := Aside0.mk ((by rw [hw]; exact below_set (HB.out) GB37.out : Below w0.heap.size w0 w49)); replace HK := Aside0.mk (Kept.of_grown (S := (fun k_ => P0_ k_)) hg (kept_up HK.out) (fun k_ e_ => (HO_0.out.1 k_ e_))); replace HO_0 := Aside0.mk (hp_); clear hg hw hp_)))
          (try simp only [← hl0_3])
          go_roundg k3
          case measure => have := HJ9.out; have := HK2.out; have := HK3.out; omega
          case rel => exact ⟨(y265), ((IntKind.u64.wrap (x9_3 + (IntKind.u64.wrap ((IntKind.u64.wrap (rd x0_3 x139_3)) + (IntKind.u64.wrap (rd l1 x139_3)))))) / 4294967296), (wrap64 (x139_3 + 1)), (by first | rfl | (simp; done) | (simp [*]; done) | (simp <;> omega)), (by first | rfl | (simp; done) | (simp [*]; done) | (simp <;> omega)), H', ⟨by have := HJ9.out; have := HK2.out; have := HK3.out; omega⟩, ⟨by (try simp only [hl0_2]); (try simp only [hl0_3]); (with_reducible repeat (first | apply Kd.Z_alloc | apply Kd.Z_drewN | apply Kd.Z_drew)); exact HO_0.out⟩, ⟨by repeat (first | (with_reducible first | exact HK.out | apply Kept.alloc | apply Kept.drewN | apply Kept.drew) | exact HK.out)⟩, ⟨below_up HB.out⟩⟩
         ·
          rw [if_neg c43] at H
          have c43b0 := decide_eq_false c43
          (try simp only [hl0_2, hl0_3] at c43b0)
          clear c43
          obtain ⟨c50, H⟩ := ite_some H
          have c50b0 := decide_eq_true c50
          (try simp only [hl0_2, hl0_3] at c50b0)
          have c50b1 : decide (0 ≤ l1.length) = true := decide_eq_true (by omega)
          (try simp only [hl0_2, hl0_3] at c50b1)
          clear c50
          obtain ⟨c51, H⟩ := ite_some H
          have c51b0 := decide_eq_true c51
          (try simp only [hl0_2, hl0_3] at c51b0)
          have c51b1 : decide (l1.length < x0_3.length) = true := decide_eq_true (Int.ofNat_lt.mp c51)
          (try simp only [hl0_2, hl0_3] at c51b1)
          clear c51
          obtain ⟨y267, hy267⟩ : ∃ y_ : List Int, y_ = (x0_3.set ((l1.length : Int) : Int).toNat (((rd x0_3 (l1.length : Int)) + ((x9_3) % 4294967296)) % 4294967296)) := ⟨_, rfl⟩
          replace H : (some ((IntKind.u64.wrap (x7_9 - 1)) % 4294967296, y267)) = some (r1, r2) := by first | (rw [hy267]; exact H) | exact H
          have Ny267 := Aside0.mk hy267
          clear hy267
          simp only [Option.some.injEq, Prod.mk.injEq] at H
          obtain ⟨rfl, rfl⟩ := H
          have p266 : 0 ≤ ((l1.length : Int) : Int) := of_decide_eq_true (by assumption)
          have q266 : (l1.length : Int) < (x0_3.length : Int) := of_decide_eq_true (by assumption)
          obtain ⟨ad266, e266, hx266_0⟩ := Kd.at_int (Kd.Z_reads' HO_0.out).2.2 (l1.length : Int) p266 q266
          obtain rfl : (⟨go37, oo37, none⟩ : Addr) = ad266 := (by injection e266)
          (first | simp only [add_plain] at hx266_0 | simp only [add_at] at hx266_0 | simp only [Addr.add, Nat.zero_add] at hx266_0 | skip)
          (try simp only [Go.IntWalk.toNatUp] at hx266_0)
          (try simp only [hl0_2, hl0_3] at p266)
          (try simp only [hl0_2, hl0_3] at q266)
          (try simp only [hl0_2, hl0_3] at hx266_0)
          replace p266 := eq_true p266
          replace q266 := eq_true q266
          have p52 : 0 ≤ ((l1.length : Int) : Int) := of_decide_eq_true (by assumption)
          have q52 : ((l1.length : Int) : Int) < ((x0_3.length : Int) : Int) := of_decide_eq_true (by assumption)
          obtain ⟨hx52_0, hf52_0⟩ := Kd.Z_cell 0 HO_0.out ((l1.length : Int) : Int) p52 q52
          (try simp only [Go.IntWalk.toNatUp] at hx52_0 hf52_0)
          replace p52 := eq_true p52
          replace q52 := eq_true q52
          have HP53 := Kd.Z_putg HO_0.out ((l1.length : Int) : Int) (of_decide_eq_true (by assumption)) (by have h_ : ((l1.length : Int) : Int) < ((x0_3.length : Int) : Int) := of_decide_eq_true (by assumption); first | exact h_ | (have e_ := (Kd.Z_reads' HO_0.out).1; omega) | simpa using h_) (((rd x0_3 (l1.length : Int)) + ((x9_3) % 4294967296)) % 4294967296)
          go_wp2_with (first | ((with_reducible refine gate_store (t := 60) (p := 169) rfl ?_); (try (rw [drewN_self wr]; generalize hq_ : World.drewN wr _ = wr; have n0_ := Aside0.mk (Kd.Z_at hq_ HO_0.out); have n1_ := Aside0.mk (kept_at hq_ HK.out); have n2_ := Aside0.mk (below_at hq_ HB.out); clear hq_ HO_0 HK HB; have HO_0 := n0_; have HK := n1_; have HB := n2_; clear n0_ n1_ n2_; (try (have HP53 := Kd.Z_putg HO_0.out ((l1.length : Int) : Int) (of_decide_eq_true (by assumption)) (by have h_ : ((l1.length : Int) : Int) < ((x0_3.length : Int) : Int) := of_decide_eq_true (by assumption); first | exact h_ | (have e_ := (Kd.Z_reads' HO_0.out).1; omega) | simpa using h_) (((rd x0_3 (l1.length : Int)) + ((x9_3) % 4294967296)) % 4294967296))))); refine store_event (t := 60) (p := 169) (v := ?vo_w54) (w1 := (wr.setCell ⟨go37, oo37 + ((l1.length : Int) : Int).toNat, none⟩ (.int .u32 (((rd x0_3 (l1.length : Int)) + ((x9_3) % 4294967296)) % 4294967296)))) ?hg ?ho ?hn ?hr ?_; (case ho => rfl); (case hg => rfl); (case hn => rfl); (case hr => first | (go_simp; done) | (go_simp; rfl)); intro w54 hw; have hg : wr.grownBy w54 (some go37) := (by rw [hw]; exact HP53.2); have hp_ : Kd.Z V_ pre_ post_ (Kd.int .u32) 60 w54 w0.heap.size (fun k_ => (P0_ k_ ∨ w.heap.size ≤ k_)) (.slice (some ⟨go37, oo37, none⟩) x0_3.length co11) y267 := (by rw [hw, Ny267.out]; exact HP53.1); clear HP53; replace HB := Aside0.mk ((by rw [hw]; exact below_set (HB.out) GB37.out : Below w0.heap.size w0 w54)); replace HK := Aside0.mk (Kept.of_grown (S := (fun k_ => P0_ k_)) hg (kept_up HK.out) (fun k_ e_ => (HO_0.out.1 k_ e_))); replace HO_0 := Aside0.mk (hp_); clear hg hw hp_))
          repeat (go_quiet (first | ((with_reducible refine gate_store (t := 60) (p := 169) rfl ?_); (try (rw [drewN_self wr]; generalize hq_ : World.drewN wr _ = wr; have n0_ := Aside0.mk (Kd.Z_at hq_ HO_0.out); have n1_ := Aside0.mk (kept_at hq_ HK.out); have n2_ := Aside0.mk (below_at hq_ HB.out); clear hq_ HO_0 HK HB; have HO_0 := n0_; have HK := n1_; have HB := n2_; clear n0_ n1_ n2_; (try (have HP53 := Kd.Z_putg HO_0.out ((l1.length : Int) : Int) (of_decide_eq_true (by assumption)) (by have h_ : ((l1.length : Int) : Int) < ((x0_3.length : Int) : Int) := of_decide_eq_true (by assumption); first | exact h_ | (have e_ := (Kd.Z_reads' HO_0.out).1; omega) | simpa using h_) (((rd x0_3 (l1.length : Int)) + ((x9_3) % 4294967296)) % 4294967296))))); refine store_event (t := 60) (p := 169) (v := ?vo_w54) (w1 := (wr.setCell ⟨go37, oo37 + ((l1.length : Int) : Int).toNat, none⟩ (.int .u32 (((rd x0_3 (l1.length : Int)) + ((x9_3) % 4294967296)) % 4294967296)))) ?hg ?ho ?hn ?hr ?_; (case ho => rfl); (case hg => rfl); (case hn => rfl); (case hr => first | (go_simp; done) | (go_simp; rfl)); intro w54 hw; have hg : wr.grownBy w54 (some go37) := (by rw [hw]; exact HP53.2); have hp_ : Kd.Z V_ pre_ post_ (Kd.int .u32) 60 w54 w0.heap.size (fun k_ => (P0_ k_ ∨ w.heap.size ≤ k_)) (.slice (some ⟨go37, oo37, none⟩) x0_3.length co11) y267 := (by rw [hw, Ny267.out]; exact HP53.1); clear HP53; replace HB := Aside0.mk ((by rw [hw]; exact below_set (HB.out) GB37.out : Below w0.heap.size w0 w54)); replace HK := Aside0.mk (Kept.of_grown (S := (fun k_ => P0_ k_)) hg (kept_up HK.out) (fun k_ e_ => (HO_0.out.1 k_ e_))); replace HO_0 := Aside0.mk (hp_); clear hg hw hp_)); try go_wp2_with (first | ((with_reducible refine gate_store (t := 60) (p := 169) rfl ?_); (try (rw [drewN_self wr]; generalize hq_ : World.drewN wr _ = wr; have n0_ := Aside0.mk (Kd.Z_at hq_ HO_0.out); have n1_ := Aside0.mk (kept_at hq_ HK.out); have n2_ := Aside0.mk (below_at hq_ HB.out); clear hq_ HO_0 HK HB; have HO_0 := n0_; have HK := n1_; have HB := n2_; clear n0_ n1_ n2_; (try (have HP53 := Kd.Z_putg HO_0.out ((l1.length : Int) : Int) (of_decide_eq_true (by assumption)) (by have h_ : ((l1.length : Int) : Int) < ((x0_3.length : Int) : Int) := of_decide_eq_true (by assumption); first | exact h_ | (have e_ := (Kd.Z_reads' HO_0.out).1; omega) | simpa using h_) (((rd x0_3 (l1.length : Int)) + ((x9_3) % 4294967296)) % 4294967296))))); refine store_event (t := 60) (p := 169) (v := ?vo_w54) (w1 := (wr.setCell ⟨go37, oo37 + ((l1.length : Int) : Int).toNat, none⟩ (.int .u32 (((rd x0_3 (l1.length : Int)) + ((x9_3) % 4294967296)) % 4294967296)))) ?hg ?ho ?hn ?hr ?_; (case ho => rfl); (case hg => rfl); (case hn => rfl); (case hr => first | (go_simp; done) | (go_simp; rfl)); intro w54 hw; have hg : wr.grownBy w54 (some go37) := (by rw [hw]; exact HP53.2); have hp_ : Kd.Z V_ pre_ post_ (Kd.int .u32) 60 w54 w0.heap.size (fun k_ => (P0_ k_ ∨ w.heap.size ≤ k_)) (.slice (some ⟨go37, oo37, none⟩) x0_3.length co11) y267 := (by rw [hw, Ny267.out]; exact HP53.1); clear HP53; replace HB := Aside0.mk ((by rw [hw]; exact below_set (HB.out) GB37.out : Below w0.heap.size w0 w54)); replace HK := Aside0.mk (Kept.of_grown (S := (fun k_ => P0_ k_)) hg (kept_up HK.out) (fun k_ e_ => (HO_0.out.1 k_ e_))); replace HO_0 := Aside0.mk (hp_); clear hg hw hp_)))
          go_ret
          exact ⟨by first | rfl | (simp [errW_none, errW_some] <;> rfl) | (simp only [← hji5]; first | rfl | (simp [errW_none, errW_some] <;> rfl)) | (simp [*, errW_none, errW_some] <;> rfl), (by first | exact (Kd.Z_up HO_0.out) | (simp only [hl0_2, hl0_3]; exact (Kd.Z_up HO_0.out))), by repeat (first | (with_reducible first | exact HB.out | apply below_alloc | apply pw_below_drewN | apply below_drew1) | exact HB.out), by repeat (first | (with_reducible first | exact HK.out | apply Kept.alloc | apply Kept.drewN | apply Kept.drew) | exact HK.out)⟩
def integer_digit_at.f (k : Nat) (l0 : List Int) (a1 a2 : Int) (l1 : List Int) : Option (Int × List Int) := (integer_digit.f k ((l0.take a2.toNat).drop a1.toNat) l1).map fun p => (p.1, l0.take a1.toNat ++ (p.2 ++ l0.drop a2.toNat))
theorem integer_digit_at.mono : ∀ a0 a1 a2 a3 k, LeO (integer_digit_at.f k a0 a1 a2 a3) (integer_digit_at.f (k + 1) a0 a1 a2 a3) := by
 intro a0 a1 a2 a3 k
 have h := integer_digit.mono ((a0.take a2.toNat).drop a1.toNat) a3 k
 unfold integer_digit_at.f
 intro r hr
 obtain ⟨p, hp, rfl⟩ := Option.map_eq_some_iff.1 hr
 rw [h p hp]
 rfl
theorem integer_digit_at.calls (k : Nat) (P0_ : Nat → Prop) (u9000_ : Value) (l0 : List Int) (a1 a2 : Int) (A3 : Option Addr) (c3 : Nat) (l3 : List Int) (r1 : Int) (r2 : List Int) (w0 w : World) (hB : Below w0.heap.size w0 w) (ho0 : Kd.R (Kd.int .u32) 60 w w0.heap.size P0_ u9000_ l0) {A0 : Option Addr} {n0 c0 : Nat} (hw0 : Win u9000_ a1 a2 A0 n0 c0) (hr1 : ∀ W_, Kept w W_ (fun k_ => P0_ k_) → Kd.C (Kd.int .u32) W_ A3 l3.length l3) (hc1 : l3.length ≤ c3) (h : integer_digit_at.f k l0 a1 a2 l3 = some (r1, r2)) :
  Calls Tryd.prog 81 #[.slice A0 n0 c0, .slice A3 l3.length c3] w fun e w' => e = .returned (.int .u32 r1) ∧ Kd.R (Kd.int .u32) 60 w' w0.heap.size (fun k_ => (P0_ k_ ∨ w.heap.size ≤ k_)) u9000_ r2 ∧ Below w0.heap.size w0 w' ∧ Kept w w' (fun k_ => P0_ k_) := by
 obtain ⟨B, N, C, rfl, h1, h2, h3, hn, hc, hA⟩ := hw0
 unfold integer_digit_at.f at h
 obtain ⟨p, hp, he⟩ := Option.map_eq_some_iff.1 h
 obtain ⟨p1, p2⟩ := p
 injection he with he1 he2
 subst he1; subst he2
 obtain ⟨q1, q2, q3⟩ := Kd.R_reads' ho0
 have hlen : ((l0.take a2.toNat).drop a1.toNat).length = a2.toNat - a1.toNat := by rw [List.length_drop, List.length_take]; omega
 have hpos : l3.length < ((l0.take a2.toNat).drop a1.toNat).length := by
  have hq := hp
  unfold integer_digit.f at hq
  rcases Nat.lt_or_ge l3.length ((l0.take a2.toNat).drop a1.toNat).length with hh | hh
  ·
   exact hh
  ·
   rw [if_pos (by omega), if_neg (by omega)] at hq
   cases hq
 obtain ⟨g, cap, hv, -, -, -⟩ := Kd.R_form ho0 (by omega)
 injection hv with hv1 hv2 hv3
 subst hv1
 have hA2 : A0 = some ⟨g, a1.toNat, none⟩ := by
  rw [hA, if_neg (by omega), Nat.mul_one]
  simp [Addr.add]
  omega
 subst hA2
 refine (integer_digit.calls k P0_ _ _ A3 c3 l3 p1 p2 w0 w hB (Kd.Z_mk ho0 (lo := a1.toNat) (hi := a2.toNat) (by omega) (by omega) hn hc) hr1 hc1 hp).mono ?_
 rintro e w' ⟨rfl, hz, hb, hk⟩
 exact ⟨rfl, Kd.Z_R hz, hb, hk⟩
def slices_Clone_uint32_uint32.f (l0 : List Int) : Option (List Int) := if l0.length * 4 ≤ 140737488355328 then some l0 else none
set_option maxHeartbeats 2000000 in
set_option maxRecDepth 100000 in
theorem slices_Clone_uint32_uint32.calls (A0 : Option Addr) (c0 : Nat) (l0 : List Int) (r : List Int) (w : World) (hr0 : Kd.C (Kd.int .u32) w A0 l0.length l0) (hc0 : l0.length ≤ c0) (h : slices_Clone_uint32_uint32.f l0 = some r) :
  Calls Tryd.prog 96 #[.slice A0 l0.length c0] w fun e w' => ∃ v0_ : Value, e = .returned v0_ ∧ Kd.R (Kd.int .u32) 60 w' w.heap.size (fun _ => True) v0_ r ∧ Below w.heap.size w w' := by
 unfold slices_Clone_uint32_uint32.f at h
 split at h
 ·
  rename_i hb
  simp only [Option.some.injEq] at h
  subst h
  have q22 : ∀ (w : World) (a : Option Addr) (n c n' c' : Nat), (binOp .eql 23 (.slice a n c) (.slice none n' c')).run Tryd.prog w = .ok (.bool a.isNone) w := fun w a n c n' c' => Lib.run_eql_slice_nil w _ _ a n c n' c' Tryd.underlying23
  have hreads := Kd.reads_of_C (d := (0 : Int)) hr0
  cases A0 with
  | none =>
   have h0 : l0.length = 0 := by
    rcases Nat.eq_zero_or_pos l0.length with h0 | h0
    ·
     exact h0
    ·
     obtain ⟨ad, he, _⟩ := hreads.2.2 h0
     cases he
   obtain rfl : l0 = [] := List.length_eq_zero_iff.1 h0
   clear hreads hr0 hb h0
   go_enter Tryd.func96, Tryd.ntmps96
   go_wp2
   go_ret
   exact ⟨_, rfl, Kd.R_nil _ _ _ _ _, Below.refl _ _⟩
  | some ad =>
   obtain ⟨i0, hi, hz0, hz1, hz2⟩ := info_parts info60
   have HB : Hid (l0.length ≤ maxLen ∧ l0.length * 4 ≤ 140737488355328) := ⟨by have := hreads.2.1; unfold maxLen; omega, hb⟩
   have HC : Hid (∀ j u, (encs (Value.int .u32) l0)[j]? = some u → w.cell? (ad.add j) = some u) := by
    intro j u hj
    have hl : j < l0.length := by have := (List.getElem?_eq_some_iff.1 hj).1; simpa [encs] using this
    obtain ⟨ad', he, hc⟩ := hreads.2.2 (by omega)
    cases he
    rw [hc j hl, ← hj, encs_get (d := (0 : Int)) l0 j hl]
   have HL : Hid ((encs (Value.int .u32) l0).length = l0.length * 1) := by unfold Hid; simp [encs]
   have H1 : Hid (∀ u ∈ encs (Value.int .u32) l0, u.oneCell' = true) := by
    intro u hu
    obtain ⟨x, _, rfl⟩ := List.mem_map.1 hu
    rfl
   have HC0 := Lib.hid hc0
   clear hreads hr0 hb hc0
   go_enter Tryd.func96, Tryd.ntmps96
   go_wp2_with (at_builtin; refine wpList_append_own _ rfl _ _ 23 rfl w.heap.size 60 i0 (.int .u32 0) 1 4 Tryd.underlying23 hi hz0 hz1 hz2 rfl (by decide) _ _ _ rfl (World.ownsRow_made w #[] 0 (Nat.le_refl _) (Nat.zero_le _) (by simp)) ad l0.length c0 (encs (Value.int .u32) l0) rfl ?qc1 ?qc2 ?qc3 ?qc4 ?qc5 ?qc6 ?_)
   case qc1 => exact HL.out
   case qc2 =>
    intro j u hj
    exact Lib.cell?_alloc_some _ (HC.out j u hj)
   case qc3 => exact H1.out
   case qc4 => rw [Nat.zero_add]; exact HB.out.1
   case qc5 => rw [Nat.zero_add]; exact HB.out.2
   case qc6 => simp
   intro v' w1 hown hgrow hnil
   go_wp2
   go_ret
   have hbel := ((Below.refl _ w).alloc (Nat.le_refl _) _).grown hgrow (by simp) (by intro k hk; simp [Value.ownBlock] at hk; omega)
   refine ⟨v', rfl, ?_, hbel⟩
   have ho : w1.ownsRow w.heap.size 60 1 v' l0.length (encs (Value.int .u32) l0) := by simpa using hown
   exact Kd.R_of_own (enc := Value.int .u32) ho (fun _ _ => trivial)
 ·
  cases h
def integer_lowered.l0 : Nat → List Int → Int → List Int → Int → Int → Option (List Int)
 | 0, _, _, _, _, _ => none
 | k + 1, x0, x1, x5, x10, x11 => if x11 < x10 then (if 0 ≤ x11 then (if x11 < (x5.length : Int) then (if 0 ≤ x1 then ((some (x5.set (x11 : Int).toNat (shr .u32 (rd x5 x11) x1) : List Int)).bind fun y272 => (if (wrap64 (x11 + 1)) < (x0.length : Int) then (if 0 ≤ (wrap64 (x11 + 1)) then (integer_lowered.l0 k x0 x1 (y272.set (x11 : Int).toNat (Go.bits .or .u32 (rd y272 x11) ((shr .u64 (IntKind.u64.wrap ((IntKind.u64.wrap (rd x0 (wrap64 (x11 + 1)))) * 4294967296)) x1) % 4294967296))) x10 (wrap64 (x11 + 1))) else (none)) else (integer_lowered.l0 k x0 x1 y272 x10 (wrap64 (x11 + 1))))) else (none)) else (none)) else (none)) else ((integer_trim.f k x5).bind fun t276 => (some t276))
def integer_lowered.f (k : Nat) (l0 : List Int) (a1 : Int) : Option (List Int) := (slices_Clone_uint32_uint32.f l0).bind fun t268 => (integer_lowered.l0 k l0 a1 t268 (t268.length : Int) 0)
theorem integer_lowered.mono_l : ∀ k, (∀ y0 y1 y2 y3 y4, LeO (integer_lowered.l0 k y0 y1 y2 y3 y4) (integer_lowered.l0 (k + 1) y0 y1 y2 y3 y4))
 | 0 => fun _ _ _ _ _ r h => by simp [integer_lowered.l0] at h
 | k + 1 => by
  have ih0 := integer_lowered.mono_l k
  ·
   intro y0 y1 y2 y3 y4
   unfold integer_lowered.l0
   repeat' with_reducible first | exact ih0 _ _ _ _ _ | exact integer_trim.mono _ _ | exact LeO.refl _ | exact LeO.none _ | refine LeO.ite ?_ ?_ | refine LeO.bind ?_ (fun _ => ?_)
theorem integer_lowered.mono : ∀ a0 a1 k, LeO (integer_lowered.f k a0 a1) (integer_lowered.f (k + 1) a0 a1) := by
 intro a0 a1 k
 have ih0 := integer_lowered.mono_l k
 unfold integer_lowered.f
 repeat' with_reducible first | exact ih0 _ _ _ _ _ | exact integer_trim.mono _ _ | exact LeO.refl _ | exact LeO.none _ | refine LeO.ite ?_ ?_ | refine LeO.bind ?_ (fun _ => ?_)
def integer_lowered.T7 : Bool × List (List Nat × List Nat) := (true, [([], []), ([], []), ([0, 1], [0, 1]), ([2], [2]), ([], []), ([], []), ([5], [5]), ([4, 6], [4, 6]), ([7], [7]), ([8], [8]), ([9], [9]), ([], []), ([10, 11], [10, 11]), ([12], [12]), ([3, 13], [3, 13]), ([0, 1, 0, 1, 2, 3, 4, 5, 6, 7, 8, 9, 10, 11, 12, 13, 14], [0, 1]), ([15, 14, 0, 1, 2, 3, 4, 5, 6, 7, 8, 9, 10, 11, 12, 13, 14], [14, 15])])
def integer_lowered.B7 : List Nat := [0, 0, 3, 7, 0, 0, 32, 112, 240, 496, 1008, 0, 4080, 8176, 16383, 32767, 65535]
theorem integer_lowered.tab7 : rtab .any (opsOf Tryd.f82 7) = integer_lowered.T7 := by kernel_rfl
theorem integer_lowered.bits7 : waitsOk integer_lowered.T7.2 integer_lowered.B7 = true := by kernel_rfl
set_option maxHeartbeats 8000000 in
set_option maxRecDepth 100000 in
theorem integer_lowered.calls (k : Nat) (A0 : Option Addr) (c0 : Nat) (l0 : List Int) (a1 : Int) (r : List Int) (w : World) (hr0 : Kd.C (Kd.int .u32) w A0 l0.length l0) (hc0 : l0.length ≤ c0) (h : integer_lowered.f k l0 a1 = some r) :
  Calls Tryd.prog 82 #[.slice A0 l0.length c0, .int .i64 a1] w fun e w' => ∃ v0_ : Value, e = .returned (v0_) ∧ Kd.V (Kd.int .u32) 60 w' w.heap.size (fun k_ => (w.heap.size ≤ k_)) v0_ r ∧ Below w.heap.size w w' := by
 have HR0 := Aside0.mk hr0
 have HC0 := Aside0.mk hc0
 clear hr0 hc0
 have HB := Aside0.mk (Below.refl w.heap.size w)
 have H := h
 unfold integer_lowered.f at H
 clear h
 replace H := Option.bind_eq_some_iff.mp H
 obtain ⟨t268, A30, H⟩ := H
 try dsimp only at H
 have A3 := Aside0.mk A30
 clear A30
 have H' := Aside0.mk H
 clear H
 go_enter Tryd.func82, Tryd.ntmps82
 go_wp2_with (first | ((with_reducible refine gate_callee (f := 96) rfl ?_); refine gl_ (some 8) Tryd.func96 #[.slice A0 l0.length c0] ?_; (with_reducible refine (slices_Clone_uint32_uint32.calls _ _ l0 t268 _ ?side1 ?side2 A3.out).mono ?_); (case side1 => repeat (first | exact HR0.out | (with_reducible refine Kd.C_alloc ?_ _) | (with_reducible refine Kd.C_drewN ?_ _) | (with_reducible refine Kd.C_drew ?_))); (case side2 => exact HC0.out); rintro e w4 ⟨v269, rfl, ho0, hb⟩; refine ⟨_, rfl, ?_⟩; have HO270 := Aside0.mk (Kd.R_lower (Kd.R_newM (M := fun k_ => (w.heap.size ≤ k_)) ho0 (below_size (below_up HB.out)) (fun k_ h_ => h_)) (below_size (below_up HB.out))); replace HB := Aside0.mk (below_step (below_up HB.out) hb); (try clear hb); (try clear hb2); (try clear hk); (try clear hi); (try clear ho0); obtain ⟨Ao5, co5, eo5⟩ := Kd.R_slice HO270.out; subst eo5))
 go_loopg [11] k (fun kq v11 w' => ∃ (x5_1 : List Int) (x11_1 : Int), v11 = .int .i64 x11_1 ∧ Aside0 (integer_lowered.l0 kq l0 a1 x5_1 (t268.length : Int) x11_1 = some r) ∧ Aside0 (kq ≤ k) ∧ Aside0 (Kd.R (Kd.int .u32) 60 w' w.heap.size (fun k_ => (w.heap.size ≤ k_)) (.slice Ao5 t268.length co5) x5_1) ∧ Aside0 (Below w.heap.size w w'))
 case atStart => exact ⟨(t268), (0), (by first | rfl | (simp; done) | (simp [*]; done) | (simp <;> omega)), H', ⟨Nat.le_refl _⟩, ⟨Kd.R_up (Kd.R_mono HO270.out (fun _ hk => hk.1))⟩, ⟨below_up HB.out⟩⟩
 case round =>
  clear H'
  obtain ⟨x5_1, x11_1, rfl, HA, HK1, HO_5, HB⟩ := hrel
  have hl5_1 := (Kd.R_reads' HO_5.out).1
  rw [hl5_1] at HO_5
  (try simp only [hl5_1])
  cases gk with
  | zero => exact absurd HA.out (by simp [integer_lowered.l0])
  | succ k1 =>
   have H := HA.out
   clear HA
   simp only [integer_lowered.l0] at H
   by_cases c6 : x11_1 < (t268.length : Int)
   ·
    rw [if_pos c6] at H
    have c6b0 := decide_eq_true c6
    (try simp only [hl5_1] at c6b0)
    clear c6
    obtain ⟨c7, H⟩ := ite_some H
    have c7b0 := decide_eq_true c7
    clear c7
    obtain ⟨c8, H⟩ := ite_some H
    have c8b0 := decide_eq_true c8
    (try simp only [hl5_1] at c8b0)
    clear c8
    obtain ⟨c9, H⟩ := ite_some H
    have c9b0 := eq_true c9
    have c9b1 := decide_eq_true c9
    clear c9
    obtain ⟨ji10, hji10⟩ : ∃ j_ : Int, (shr .u32 (rd x5_1 x11_1) a1) = j_ := ⟨_, rfl⟩
    replace H : ((some (x5_1.set (x11_1 : Int).toNat (ji10) : List Int)).bind fun y272 => (if (wrap64 (x11_1 + 1)) < (l0.length : Int) then (if 0 ≤ (wrap64 (x11_1 + 1)) then (integer_lowered.l0 k1 l0 a1 (y272.set (x11_1 : Int).toNat (Go.bits .or .u32 (rd y272 x11_1) ((shr .u64 (IntKind.u64.wrap ((IntKind.u64.wrap (rd l0 (wrap64 (x11_1 + 1)))) * 4294967296)) a1) % 4294967296))) (t268.length : Int) (wrap64 (x11_1 + 1))) else (none)) else (integer_lowered.l0 k1 l0 a1 y272 (t268.length : Int) (wrap64 (x11_1 + 1))))) = some r := by first | (rw [hji10] at H; exact H) | (simp only [hji10] at H ⊢; exact H)
    have hji10_ : ((rd x5_1 x11_1) / 2 ^ min a1.toNat 32) = ji10 := hji10
    have hji10z : a1 ≤ 32 → ((rd x5_1 x11_1) / 2 ^ a1.toNat) = ji10 := shr_small hji10
    obtain ⟨y272, hy272⟩ : ∃ y_ : List Int, y_ = (x5_1.set (x11_1 : Int).toNat (ji10)) := ⟨_, rfl⟩
    replace H : (if (wrap64 (x11_1 + 1)) < (l0.length : Int) then (if 0 ≤ (wrap64 (x11_1 + 1)) then (integer_lowered.l0 k1 l0 a1 (y272.set (x11_1 : Int).toNat (Go.bits .or .u32 (rd y272 x11_1) ((shr .u64 (IntKind.u64.wrap ((IntKind.u64.wrap (rd l0 (wrap64 (x11_1 + 1)))) * 4294967296)) a1) % 4294967296))) (t268.length : Int) (wrap64 (x11_1 + 1))) else (none)) else (integer_lowered.l0 k1 l0 a1 y272 (t268.length : Int) (wrap64 (x11_1 + 1)))) = some r := by first | (rw [hy272]; exact H) | exact H
    have Ny272 := Aside0.mk hy272
    clear hy272
    by_cases c12 : (wrap64 (x11_1 + 1)) < (l0.length : Int)
    ·
     rw [if_pos c12] at H
     have c12b0 := decide_eq_true c12
     (try simp only [hl5_1] at c12b0)
     clear c12
     obtain ⟨ji13, hji13⟩ : ∃ j_ : Int, (wrap64 (x11_1 + 1)) = j_ := ⟨_, rfl⟩
     replace H : (if 0 ≤ (ji13) then (integer_lowered.l0 k1 l0 a1 (y272.set (x11_1 : Int).toNat (Go.bits .or .u32 (rd y272 x11_1) ((shr .u64 (IntKind.u64.wrap ((IntKind.u64.wrap (rd l0 (ji13))) * 4294967296)) a1) % 4294967296))) (t268.length : Int) ji13) else (none)) = some r := by first | (rw [hji13] at H; exact H) | (simp only [hji13] at H ⊢; exact H)
     (try rw [hji13] at c12b0)
     have hji13w : (IntKind.i64.wrap (x11_1 + 1)) = ji13 := (i64_w _).trans hji13
     obtain ⟨c14, H⟩ := ite_some H
     have c14b0 := decide_eq_true c14
     clear c14
     have c15b0 := eq_true (of_decide_eq_true (by assumption) : 0 ≤ a1)
     obtain ⟨ji16, hji16⟩ : ∃ j_ : Int, (shr .u64 (IntKind.u64.wrap ((IntKind.u64.wrap (rd l0 (ji13))) * 4294967296)) a1) = j_ := ⟨_, rfl⟩
     replace H : (integer_lowered.l0 k1 l0 a1 (y272.set (x11_1 : Int).toNat (Go.bits .or .u32 (rd y272 x11_1) ((ji16) % 4294967296))) (t268.length : Int) ji13) = some r := by first | (rw [hji16] at H; exact H) | (simp only [hji16] at H ⊢; exact H)
     have hji16_ : ((IntKind.u64.wrap ((IntKind.u64.wrap (rd l0 (ji13))) * 4294967296)) / 2 ^ min a1.toNat 64) = ji16 := hji16
     have hji16z : a1 ≤ 64 → ((IntKind.u64.wrap ((IntKind.u64.wrap (rd l0 (ji13))) * 4294967296)) / 2 ^ a1.toNat) = ji16 := shr_small hji16
     obtain ⟨y275, hy275⟩ : ∃ y_ : List Int, y_ = (y272.set (x11_1 : Int).toNat (Go.bits .or .u32 (rd y272 x11_1) ((ji16) % 4294967296))) := ⟨_, rfl⟩
     replace H : (integer_lowered.l0 k1 l0 a1 y275 (t268.length : Int) ji13) = some r := by first | (rw [hy275]; exact H) | exact H
     have Ny275 := Aside0.mk hy275
     clear hy275
     have H' := Aside0.mk H
     clear H
     have p271 : 0 ≤ (x11_1 : Int) := of_decide_eq_true (by assumption)
     have q271 : x11_1 < (x5_1.length : Int) := of_decide_eq_true (by assumption)
     obtain ⟨ad271, e271, hx271_0⟩ := Kd.at_int (Kd.R_reads' HO_5.out).2.2 x11_1 p271 q271
     cases e271
     replace p271 := eq_true p271
     replace q271 := eq_true q271
     have p11 : 0 ≤ (x11_1 : Int) := of_decide_eq_true (by assumption)
     have q11 : (x11_1 : Int) < ((x5_1.length : Int) : Int) := of_decide_eq_true (by assumption)
     obtain ⟨go11, co11, eo11, gb11, gl11, cl11, HG11⟩ := Kd.R_form HO_5.out (by omega)
     (first | cases eo11 | (injection eo11 with ea_ en_ ec_; (first | subst ea_ | (injection ea_ with ea_; subst ea_)); subst ec_; clear en_))
     have GB11 := Aside0.mk gb11
     have GG11 := Aside0.mk HG11
     clear gb11 gl11 HG11
     (first | simp only [add_plain] at hx271_0 | skip)
     obtain ⟨hx11_0, hf11_0⟩ := Kd.R_celln 0 HO_5.out (x11_1 : Int) p11 q11
     replace p11 := eq_true p11
     replace q11 := eq_true q11
     have HP18 := Kd.R_putg HO_5.out (x11_1 : Int) ji10
     try go_wp2_with (first | ((with_reducible refine gate_store (t := 60) (p := 20) rfl ?_); refine store_event (t := 60) (p := 20) (v := ?vo_w19) (w1 := (wr.setCell ⟨go11, (x11_1 : Int).toNat, none⟩ (.int .u32 ji10))) ?hg ?ho ?hn ?hr ?_; (case ho => rfl); (case hg => rfl); (case hn => rfl); (case hr => first | (go_simp; done) | (go_simp; rfl)); intro w19 hw; have hg : wr.grownBy w19 (some go11) := (by rw [hw]; exact HP18.2); have hp_ : Kd.R (Kd.int .u32) 60 w19 w.heap.size (fun k_ => (w.heap.size ≤ k_)) (.slice (some ⟨go11, 0, none⟩) x5_1.length co5) y272 := (by rw [hw, Ny272.out]; exact HP18.1); clear HP18; replace HO_5 := Aside0.mk (hp_); replace HB := Aside0.mk ((by rw [hw]; exact below_set (HB.out) GB11.out : Below w.heap.size w w19)); clear hg hw hp_))
     replace HO_5 := Aside0.mk (Kd.R_drew HO_5.out)
     replace HB := Aside0.mk (below_drew1 HB.out)
     have p273 : 0 ≤ (x11_1 : Int) := of_decide_eq_true (by assumption)
     have q273 : x11_1 < (y272.length : Int) := (by have h_ : (x11_1 : Int) < ((x5_1.length : Int) : Int) := of_decide_eq_true (by assumption); first | (have e_ := (Kd.R_reads' HO_5.out).1; omega) | simpa only [Ny272.out, List.length_set] using h_)
     have ql273 : ((x11_1 : Int) < ((x5_1.length : Int) : Int)) = True := eq_true (of_decide_eq_true (by assumption))
     obtain ⟨ad273, e273, hx273_0⟩ := Kd.at_int (Kd.R_reads' HO_5.out).2.2 x11_1 p273 q273
     obtain rfl : (⟨go11, 0, none⟩ : Addr) = ad273 := (by injection e273)
     (first | simp only [add_plain] at hx273_0 | simp only [add_at] at hx273_0 | simp only [Addr.add, Nat.zero_add] at hx273_0 | skip)
     replace p273 := eq_true p273
     replace q273 := eq_true q273
     have p274 : 0 ≤ ((ji13) : Int) := of_decide_eq_true (by assumption)
     have q274 : (ji13) < (l0.length : Int) := of_decide_eq_true (by assumption)
     obtain ⟨ad274, e274, hx274_0⟩ := Kd.at_int HR0.out (ji13) p274 q274
     have hw274_0 := hx274_0
     cases e274
     replace hx274_0 := (HB.out.cell (World.block_lt_of_cell? w _ hx274_0)).trans hx274_0
     replace p274 := eq_true p274
     replace q274 := eq_true q274
     have p17 : 0 ≤ (x11_1 : Int) := of_decide_eq_true (by assumption)
     have q17 : (x11_1 : Int) < ((x5_1.length : Int) : Int) := of_decide_eq_true (by assumption)
     obtain ⟨hx17_0, hf17_0⟩ := Kd.R_celln 0 HO_5.out (x11_1 : Int) p17 q17
     replace p17 := eq_true p17
     replace q17 := eq_true q17
     have HP21 := Kd.R_putn HO_5.out (x11_1 : Int) (Go.bits .or .u32 (rd y272 x11_1) ((ji16) % 4294967296))
     rw [← Ny275.out] at HP21
     have HQ21 := Aside0.mk HP21
     clear HP21
     refine start_ (n := 17) (S := fun w' => w'.cell? ⟨go11, (x11_1).toNat, none⟩ = some (.int .u32 (rd y272 x11_1)) ∧ w'.cell? (ad274.add ((ji13)).toNat) = some (.int .u32 (rd l0 (ji13)))) (ds := [16]) #[false, false, false, false, false, false, false, false, false, false, false, false, false, false, false, false, false] (by kernel_rfl) rfl rfl ⟨hx273_0, ((HB.out.cell (World.block_lt_of_cell? w _ hw274_0)).trans hw274_0)⟩ (fun hHeld => ?_); refine with_tabW integer_lowered.tab7 integer_lowered.bits7 (fun HT_ HW_ => ?_)
     generalize w19.drew = w20 at HO_5 HB HQ21 hf17_0 hx17_0 hx273_0 hx274_0 hHeld ⊢
     refine pu_ 0 (some 26) (bs 1 16) HT_.out ?_
     refine pu_ 1 (some 27) (bs 2 15) HT_.out ?_
     refine pu_ 2 (some 28) (bs 3 14) HT_.out ?_
     refine pu_ 4 (some 30) #[true, true, true, false, true, false, false, false, false, false, false, false, false, false, false, false, false] HT_.out ?_
     refine pu_ 5 (some 31) #[true, true, true, false, true, true, false, false, false, false, false, false, false, false, false, false, false] HT_.out ?_
     refine pu_ 6 (some 32) #[true, true, true, false, true, true, true, false, false, false, false, false, false, false, false, false, false] HT_.out ?_
     refine pu_ 7 (some 33) #[true, true, true, false, true, true, true, true, false, false, false, false, false, false, false, false, false] HT_.out ?_
     refine pu_ 11 (some 37) #[true, true, true, false, true, true, true, true, false, false, false, true, false, false, false, false, false] HT_.out ?_
     refine take_ (i := 3) (N := some 29) (v := ?_) (a' := ?_) #[true, true, true, true, true, true, true, true, false, false, false, true, false, false, false, false, false] rfl rfl (take_ofW HT_.out HW_.out (by kernel_rfl)) (fun _ _ _ h => h) (Or.inl ⟨by rfl, ?_⟩) hHeld ?_ ?_
     rotate_left
     ·
      rintro w' ⟨s0, s1⟩
      go_simp
      with_reducible rfl
     rotate_left
     ·
      simp only [Act.put, List.setIfInBounds_toArray, List.set_cons_zero, List.set_cons_succ, i64_w, i32_w]
      rfl
     refine take_ (i := 8) (N := some 34) (v := ?_) (a' := ?_) #[true, true, true, true, true, true, true, true, true, false, false, true, false, false, false, false, false] rfl rfl (take_ofW HT_.out HW_.out (by kernel_rfl)) (fun _ _ _ h => h) (Or.inl ⟨by rfl, ?_⟩) hHeld ?_ ?_
     rotate_left
     ·
      rintro w' ⟨s0, s1⟩
      go_simp
      with_reducible rfl
     rotate_left
     ·
      simp only [Act.put, List.setIfInBounds_toArray, List.set_cons_zero, List.set_cons_succ, i64_w, i32_w]
      rfl
     refine pu_ 9 (some 35) #[true, true, true, true, true, true, true, true, true, true, false, true, false, false, false, false, false] HT_.out ?_
     refine pu_ 10 (some 36) (bs 12 5) HT_.out ?_
     refine pu_ 12 (some 38) (bs 13 4) HT_.out ?_
     refine pu_ 13 (some 39) (bs 14 3) HT_.out ?_
     refine pu_ 14 (some 40) (bs 15 2) HT_.out ?_
     refine pu_ 15 (some 41) (bs 16 1) HT_.out ?_
     refine last_ (i := 16) (N := none) #[true, true, true, true, true, true, true, true, true, true, true, true, true, true, true, true, true] rfl rfl (one_of HT_.out (by kernel_rfl)) (by decide) (fun K hK => ?_)
     refine skip_ (w1 := ?_) (by rfl) rfl ?_ ?_
     rotate_left
     ·
      go_simp
      rfl
     refine hK.out _ _ ?_
     clear hK K
     refine done_ (done_of HT_.out (by kernel_rfl)) ?_
     try go_wp2
     (try simp only [← hl5_1])
     go_roundg k1
     case measure => have := HK1.out; omega
     case rel => exact ⟨(y275), (ji13), (by first | rfl | (simp; done) | (simp only [← hji13] <;> (first | rfl | simp)) | (simp [*]; done)), H', ⟨by have := HK1.out; omega⟩, ⟨by (try simp only [hl5_1]); (with_reducible repeat (first | apply Kd.R_alloc | apply Kd.R_drewN | apply Kd.R_drew)); exact HQ21.out⟩, ⟨by with_reducible repeat first | exact HB.out | apply below_alloc | apply pw_below_drewN | apply below_drew1 | refine below_set ?_ GB11.out⟩⟩
    ·
     rw [if_neg c12] at H
     have c12b0 := decide_eq_false c12
     (try simp only [hl5_1] at c12b0)
     clear c12
     have H' := Aside0.mk H
     clear H
     have p271 : 0 ≤ (x11_1 : Int) := of_decide_eq_true (by assumption)
     have q271 : x11_1 < (x5_1.length : Int) := of_decide_eq_true (by assumption)
     obtain ⟨ad271, e271, hx271_0⟩ := Kd.at_int (Kd.R_reads' HO_5.out).2.2 x11_1 p271 q271
     cases e271
     replace p271 := eq_true p271
     replace q271 := eq_true q271
     have p11 : 0 ≤ (x11_1 : Int) := of_decide_eq_true (by assumption)
     have q11 : (x11_1 : Int) < ((x5_1.length : Int) : Int) := of_decide_eq_true (by assumption)
     obtain ⟨go11, co11, eo11, gb11, gl11, cl11, HG11⟩ := Kd.R_form HO_5.out (by omega)
     (first | cases eo11 | (injection eo11 with ea_ en_ ec_; (first | subst ea_ | (injection ea_ with ea_; subst ea_)); subst ec_; clear en_))
     have GB11 := Aside0.mk gb11
     have GG11 := Aside0.mk HG11
     clear gb11 gl11 HG11
     (first | simp only [add_plain] at hx271_0 | skip)
     obtain ⟨hx11_0, hf11_0⟩ := Kd.R_celln 0 HO_5.out (x11_1 : Int) p11 q11
     replace p11 := eq_true p11
     replace q11 := eq_true q11
     have HP22 := Kd.R_putg HO_5.out (x11_1 : Int) ji10
     go_wp2_with (first | ((with_reducible refine gate_store (t := 60) (p := 20) rfl ?_); refine store_event (t := 60) (p := 20) (v := ?vo_w23) (w1 := (wr.setCell ⟨go11, (x11_1 : Int).toNat, none⟩ (.int .u32 ji10))) ?hg ?ho ?hn ?hr ?_; (case ho => rfl); (case hg => rfl); (case hn => rfl); (case hr => first | (go_simp; done) | (go_simp; rfl)); intro w23 hw; have hg : wr.grownBy w23 (some go11) := (by rw [hw]; exact HP22.2); have hp_ : Kd.R (Kd.int .u32) 60 w23 w.heap.size (fun k_ => (w.heap.size ≤ k_)) (.slice (some ⟨go11, 0, none⟩) x5_1.length co5) y272 := (by rw [hw, Ny272.out]; exact HP22.1); clear HP22; replace HO_5 := Aside0.mk (hp_); replace HB := Aside0.mk ((by rw [hw]; exact below_set (HB.out) GB11.out : Below w.heap.size w w23)); clear hg hw hp_))
     (try simp only [← hl5_1])
     go_roundg k1
     case measure => have := HK1.out; omega
     case rel => exact ⟨(y272), (wrap64 (x11_1 + 1)), (by first | rfl | (simp; done) | (simp [*]; done) | (simp <;> omega)), H', ⟨by have := HK1.out; omega⟩, ⟨by (try simp only [hl5_1]); (with_reducible repeat (first | apply Kd.R_alloc | apply Kd.R_drewN | apply Kd.R_drew)); exact HO_5.out⟩, ⟨below_up HB.out⟩⟩
   ·
    rw [if_neg c6] at H
    have c6b0 := decide_eq_false c6
    (try simp only [hl5_1] at c6b0)
    clear c6
    replace H := Option.bind_eq_some_iff.mp H
    obtain ⟨t276, A240, H⟩ := H
    try dsimp only at H
    have A24 := Aside0.mk A240
    clear A240
    obtain rfl := Option.some.inj H
    go_wp2_with (first | ((with_reducible refine gate_callee (f := 67) rfl ?_); refine gl_ (some 44) Tryd.func67 #[.slice Ao5 x5_1.length co5] ?_; (with_reducible refine (integer_trim.calls k1 (fun k_ => some k_ = (.slice Ao5 x5_1.length co5 : Value).ownBlock) _ _ x5_1 t276 _ ?side1 A24.out).mono ?_); (case side1 => exact Kd.R_V (Kd.R_tight rfl (HO_5.out))); rintro e w25 ⟨v277, rfl, ho0, hb⟩; refine ⟨_, rfl, ?_⟩; have n1_ := Aside0.mk (Kd.V_lower (Kd.V_mono (ok' := fun k_ => (w.heap.size ≤ k_)) ho0 (fun k_ hk_ => Or.elim hk_ (fun hs_ => ((HO_5.out).1 k_ hs_.symm)) (fun hn_ => (Nat.le_trans (below_size (below_up HB.out)) hn_)))) (below_size (below_up HB.out))); have n2_ := Aside0.mk (below_step (below_up HB.out) hb); (try clear HO_5); clear HB; have HO278 := n1_; have HB := n2_; clear n1_ n2_; (try clear hb); (try clear hb2); (try clear hk); (try clear hi); (try clear ho0)))
    go_ret
    exact ⟨_, by first | rfl | (simp [errW_none, errW_some] <;> rfl) | (simp [*, errW_none, errW_some] <;> rfl), Kd.V_up HO278.out, below_up HB.out⟩
def integer_divide.l0 : Nat → List Int → Int → List Int → List Int → Int → Option (List Int × List Int)
 | 0, _, _, _, _, _ => none
 | k + 1, x4, x8, x9, x10, x11 => if x11 ≥ 0 then (if 0 ≤ x11 then (if x11 ≤ (wrap64 ((wrap64 (x11 + (x10.length : Int))) + 1)) then (if (wrap64 ((wrap64 (x11 + (x10.length : Int))) + 1)) ≤ (x9.length : Int) then ((integer_digit_at.f k x9 x11 (wrap64 ((wrap64 (x11 + (x10.length : Int))) + 1)) x10).bind fun bt309 => (if x11 < (x4.length : Int) then (integer_divide.l0 k (x4.set (x11 : Int).toNat bt309.1) x8 bt309.2 x10 (wrap64 (x11 - 1))) else (none))) else (none)) else (none)) else (none)) else ((integer_trim.f k x4).bind fun t312 => ((integer_trim.f k x9).bind fun t315 => ((integer_lowered.f k t315 x8).bind fun t318 => (some (t312, t318)))))
def integer_divide.f (k : Nat) (l0 : List Int) (l1 : List Int) : Option (List Int × List Int) := (integer_order.f k l0 l1).bind fun t279 => (if t279 < 0 then (some (([] : List Int), l0)) else (if (l1.length : Int) = 1 then (if 0 < (l1.length : Int) then ((integer_short.f k l0 (rd l1 0)).bind fun bt281 => ((integer_trim.f k (([bt281.2] : List Int))).bind fun t288 => (some (bt281.1, t288)))) else (none)) else (if 0 ≤ (wrap64 ((l1.length : Int) - 1)) then (if (wrap64 ((l1.length : Int) - 1)) < (l1.length : Int) then ((bits_LeadingZeros32.f (rd l1 (wrap64 ((l1.length : Int) - 1)))).bind fun t292 => ((integer_raised.f k l0 t292).bind fun t293 => ((integer_raised.f k l1 t292).bind fun t296 => ((integer_trim.f k t296).bind fun t299 => (if 0 ≤ (wrap64 ((wrap64 ((l0.length : Int) - (l1.length : Int))) + 1)) then (if (wrap64 ((wrap64 ((l0.length : Int) - (l1.length : Int))) + 1) : Int).toNat ≤ 70368744177664 then ((some (List.replicate (wrap64 ((wrap64 ((l0.length : Int) - (l1.length : Int))) + 1) : Int).toNat 0 : List Int)).bind fun y302 => (integer_divide.l0 k y302 t292 t293 t299 (wrap64 ((y302.length : Int) - 1)))) else (none)) else (none)))))) else (none)) else (none))))
theorem integer_divide.mono_l : ∀ k, (∀ y0 y1 y2 y3 y4, LeO (integer_divide.l0 k y0 y1 y2 y3 y4) (integer_divide.l0 (k + 1) y0 y1 y2 y3 y4))
 | 0 => fun _ _ _ _ _ r h => by simp [integer_divide.l0] at h
 | k + 1 => by
  have ih0 := integer_divide.mono_l k
  ·
   intro y0 y1 y2 y3 y4
   unfold integer_divide.l0
   repeat' with_reducible first | exact ih0 _ _ _ _ _ | exact integer_digit_at.mono _ _ _ _ _ | exact integer_lowered.mono _ _ _ | exact integer_order.mono _ _ _ | exact integer_raised.mono _ _ _ | exact integer_short.mono _ _ _ | exact integer_trim.mono _ _ | exact LeO.refl _ | exact LeO.none _ | refine LeO.ite ?_ ?_ | refine LeO.bind ?_ (fun _ => ?_)
theorem integer_divide.mono : ∀ a0 a1 k, LeO (integer_divide.f k a0 a1) (integer_divide.f (k + 1) a0 a1) := by
 intro a0 a1 k
 have ih0 := integer_divide.mono_l k
 unfold integer_divide.f
 repeat' with_reducible first | exact ih0 _ _ _ _ _ | exact integer_digit_at.mono _ _ _ _ _ | exact integer_lowered.mono _ _ _ | exact integer_order.mono _ _ _ | exact integer_raised.mono _ _ _ | exact integer_short.mono _ _ _ | exact integer_trim.mono _ _ | exact LeO.refl _ | exact LeO.none _ | refine LeO.ite ?_ ?_ | refine LeO.bind ?_ (fun _ => ?_)
set_option maxHeartbeats 8000000 in
set_option maxRecDepth 100000 in
theorem integer_divide.calls (k : Nat) (P0_ : Nat → Prop) (A0 : Option Addr) (c0 : Nat) (l0 : List Int) (A1 : Option Addr) (c1 : Nat) (l1 : List Int) (r1 : List Int) (r2 : List Int) (w : World) (hs0 : Kd.V (Kd.int .u32) 60 w w.heap.size (fun k_ => P0_ k_) (.slice A0 l0.length c0) l0) (hr1 : Kd.C (Kd.int .u32) w A1 l1.length l1) (hc1 : l1.length ≤ c1) (h : integer_divide.f k l0 l1 = some (r1, r2)) :
  Calls Tryd.prog 59 #[.slice A0 l0.length c0, .slice A1 l1.length c1] w fun e w' => ∃ v0_ v1_ : Value, e = .returned (.tuple #[v0_, v1_]) ∧ Kd.V (Kd.int .u32) 60 w' w.heap.size (fun k_ => (P0_ k_ ∨ w.heap.size ≤ k_)) v0_ r1 ∧ Kd.V (Kd.int .u32) 60 w' w.heap.size (fun k_ => (P0_ k_ ∨ w.heap.size ≤ k_)) v1_ r2 ∧ Below w.heap.size w w' := by
 have HO0 := Aside0.mk (show Kd.V (Kd.int .u32) 60 w w.heap.size (fun k_ => (P0_ k_ ∨ w.heap.size ≤ k_)) (.slice A0 l0.length c0) l0 from Kd.V_mono hs0 (fun k_ hk => .inl hk))
 have HR1 := Aside0.mk hr1
 have HC1 := Aside0.mk hc1
 clear hr1 hc1
 have HB := Aside0.mk (Below.refl w.heap.size w)
 have H := h
 unfold integer_divide.f at H
 clear h
 replace H := Option.bind_eq_some_iff.mp H
 obtain ⟨t279, A30, H⟩ := H
 try dsimp only at H
 have A3 := Aside0.mk A30
 clear A30
 by_cases c4 : t279 < 0
 ·
  rw [if_pos c4] at H
  have c4b0 := decide_eq_true c4
  clear c4
  simp only [Option.some.injEq, Prod.mk.injEq] at H
  obtain ⟨rfl, rfl⟩ := H
  go_enter Tryd.func59, Tryd.ntmps59
  go_wp2_with (first | ((with_reducible refine gate_callee (f := 52) rfl ?_); refine gl_ (some 14) Tryd.func52 #[.slice A0 l0.length c0, .slice A1 l1.length c1] ?_; (with_reducible refine (integer_order.calls k _ _ l0 _ _ l1 t279 _ ?side1 ?side2 ?side3 ?side4 A3.out).mono ?_); (case side1 => repeat (first | exact (Kd.V_reads' HO0.out).2.2 | (with_reducible refine Kd.C_alloc ?_ _) | (with_reducible refine Kd.C_drewN ?_ _) | (with_reducible refine Kd.C_drew ?_))); (case side2 => exact (Kd.V_reads' HO0.out).2.1); (case side3 => repeat (first | exact HR1.out | (with_reducible refine Kd.C_alloc ?_ _) | (with_reducible refine Kd.C_drewN ?_ _) | (with_reducible refine Kd.C_drew ?_))); (case side4 => exact HC1.out); rintro e w' ⟨rfl, ⟨nd, rfl⟩⟩; refine ⟨_, rfl, ?_⟩))
  go_ret2
  exact ⟨_, _, by first | rfl | (simp [errW_none, errW_some] <;> rfl) | (simp [*, errW_none, errW_some] <;> rfl), by first | exact Kd.R_nil _ _ _ _ _ | exact Kd.N_nil _ _ _ _ _ | exact Kd.V_nil _ _ _ _ _ | exact Kd.Q_nil _ _ _ _ _ | exact Kd.S_nil _ _ _ _ _, Kd.V_up HO0.out, below_up HB.out⟩
 ·
  rw [if_neg c4] at H
  have c4b0 := decide_eq_false c4
  clear c4
  by_cases c5 : (l1.length : Int) = 1
  ·
   rw [if_pos c5] at H
   have c5b0 : ((l1.length : Int) == 1) = true := beq_iff_eq.mpr c5
   have c5b1 : ((l1.length : Int) != 1) = false := bne_eq_false_iff_eq.mpr c5
   clear c5
   obtain ⟨c6, H⟩ := ite_some H
   have c6b0 := decide_eq_true c6
   have c6b1 : decide (0 < l1.length) = true := decide_eq_true (by omega)
   clear c6
   replace H := Option.bind_eq_some_iff.mp H
   obtain ⟨⟨t281, t284⟩, A70, H⟩ := H
   try dsimp only at H
   have A7 := Aside0.mk A70
   clear A70
   obtain ⟨y285, hy285⟩ : ∃ y_ : List Int, y_ = (([t284] : List Int)) := ⟨_, rfl⟩
   replace H : ((integer_trim.f k y285).bind fun t288 => (some (t281, t288))) = some (r1, r2) := by first | (rw [hy285]; exact H) | exact H
   have Ny285 := Aside0.mk hy285
   clear hy285
   replace H := Option.bind_eq_some_iff.mp H
   obtain ⟨t288, A80, H⟩ := H
   try dsimp only at H
   have A8 := Aside0.mk A80
   clear A80
   simp only [Option.some.injEq, Prod.mk.injEq] at H
   obtain ⟨rfl, rfl⟩ := H
   go_enter Tryd.func59, Tryd.ntmps59
   go_wp2_with (first | ((with_reducible refine gate_callee (f := 52) rfl ?_); refine gl_ (some 14) Tryd.func52 #[.slice A0 l0.length c0, .slice A1 l1.length c1] ?_; (with_reducible refine (integer_order.calls k _ _ l0 _ _ l1 t279 _ ?side1 ?side2 ?side3 ?side4 A3.out).mono ?_); (case side1 => repeat (first | exact (Kd.V_reads' HO0.out).2.2 | (with_reducible refine Kd.C_alloc ?_ _) | (with_reducible refine Kd.C_drewN ?_ _) | (with_reducible refine Kd.C_drew ?_))); (case side2 => exact (Kd.V_reads' HO0.out).2.1); (case side3 => repeat (first | exact HR1.out | (with_reducible refine Kd.C_alloc ?_ _) | (with_reducible refine Kd.C_drewN ?_ _) | (with_reducible refine Kd.C_drew ?_))); (case side4 => exact HC1.out); rintro e w' ⟨rfl, ⟨nd, rfl⟩⟩; refine ⟨_, rfl, ?_⟩; have p280 : 0 ≤ (0 : Int) := (by omega); have q280 : 0 < (l1.length : Int) := of_decide_eq_true (by assumption); obtain ⟨ad280, e280, hx280_0⟩ := Kd.at_int HR1.out 0 p280 q280; cases e280; have qi280 : (0 < l1.length) = True := eq_true (by omega); (try rw [show ((0 : Int)).toNat = 0 from rfl] at hx280_0); (try rw [Addr.add_zero'] at hx280_0); replace p280 := eq_true p280; replace q280 := eq_true q280) | ((with_reducible refine gate_callee (f := 46) rfl ?_); refine gl_ (some 25) Tryd.func46 #[.slice A0 l0.length c0, .int .u32 (rd l1 0)] ?_; (with_reducible refine (integer_short.calls k _ _ l0 (rd l1 0) t281 t284 _ ?side1 ?side2 A7.out).mono ?_); (case side1 => repeat (first | exact (Kd.V_reads' HO0.out).2.2 | (with_reducible refine Kd.C_alloc ?_ _) | (with_reducible refine Kd.C_drewN ?_ _) | (with_reducible refine Kd.C_drew ?_))); (case side2 => exact (Kd.V_reads' HO0.out).2.1); rintro e w9 ⟨v282, rfl, ho0, hb⟩; refine ⟨_, rfl, ?_⟩; replace HO0 := Aside0.mk (Kd.V_below (Kd.V_up HO0.out) hb); have HO283 := Aside0.mk (Kd.V_lower (Kd.V_mono (ok' := fun k_ => (P0_ k_ ∨ w.heap.size ≤ k_)) ho0 (fun k_ hk_ => (.inr (Nat.le_trans (below_size (below_up HB.out)) hk_)))) (below_size (below_up HB.out))); replace HB := Aside0.mk (below_step (below_up HB.out) hb); (try clear hb); (try clear hb2); (try clear hk); (try clear hi); (try clear ho0)) | ((with_reducible refine gate_dst (N := 30) rfl ?_); refine Kd.R_lit (Kd.int .u32) _ 60 ?hg (N := 30) ?hd (xs := ([t284] : List Int)) (inner := [.int .u32 t284]) (ok := fun _ => True) (okp := fun _ => True) ?hr ?hp (fun _ hk => hk) trivial (Below.refl _ _) (Nat.le_refl _) (by simp) ?_; (case hd => rfl); (case hg => rfl); (case hr => first | (go_simp; done) | (go_simp; rfl)); (case hp => exact (Reps.one (show Kd.M (Kd.int .u32) _ _ _ t284 [.int .u32 t284] from rfl) (Reps.none _ _))); intro v286 w10 ho11 hb hg_ hnew_; clear hg_ hnew_; (first | rw [← Ny285.out] at ho11 | (simp only [Int.reduceToNat] at ho11; rw [← Ny285.out] at ho11)); replace HO0 := Aside0.mk (Kd.V_elder' (Kd.V_up HO0.out) (Kd.R_base ho11) hb); replace HO283 := Aside0.mk (Kd.V_elder' (Kd.V_up HO283.out) (Kd.R_base ho11) hb); have HO287 := Aside0.mk (Kd.R_lower (Kd.R_newM (M := fun k_ => (w.heap.size ≤ k_)) ho11 (below_size (below_up HB.out)) (fun k_ h_ => h_)) (below_size (below_up HB.out))); replace HB := Aside0.mk (below_step (below_up HB.out) hb); clear hb ho11; obtain ⟨Ao12, co12, eo12⟩ := Kd.R_slice HO287.out; subst eo12) | ((with_reducible refine gate_callee (f := 67) rfl ?_); refine gl_ (some 31) Tryd.func67 #[.slice Ao12 y285.length co12] ?_; (with_reducible refine (integer_trim.calls k (fun k_ => some k_ = (.slice Ao12 y285.length co12 : Value).ownBlock) _ _ y285 t288 _ ?side1 A8.out).mono ?_); (case side1 => exact Kd.R_V (Kd.R_tight rfl (HO287.out))); rintro e w13 ⟨v289, rfl, ho0, hb⟩; refine ⟨_, rfl, ?_⟩; replace HO0 := Aside0.mk (Kd.V_below (Kd.V_up HO0.out) hb); replace HO283 := Aside0.mk (Kd.V_below (Kd.V_up HO283.out) hb); have HO290 := Aside0.mk (Kd.V_lower (Kd.V_mono (ok' := fun k_ => (P0_ k_ ∨ w.heap.size ≤ k_)) ho0 (fun k_ hk_ => Or.elim hk_ (fun hs_ => (.inr (((HO287.out).1 k_ hs_.symm).1))) (fun hn_ => (.inr (Nat.le_trans (below_size (below_up HB.out)) hn_))))) (below_size (below_up HB.out))); replace HB := Aside0.mk (below_step (below_up HB.out) hb); (try clear HO287); (try clear hb); (try clear hb2); (try clear hk); (try clear hi); (try clear ho0)))
   go_ret2
   exact ⟨_, _, by first | rfl | (simp [errW_none, errW_some] <;> rfl) | (simp [*, errW_none, errW_some] <;> rfl), Kd.V_up (Kd.V_mono HO283.out (fun _ hk => hk.1)), Kd.V_up HO290.out, below_up HB.out⟩
  ·
   rw [if_neg c5] at H
   have c5b0 : ((l1.length : Int) == 1) = false := beq_eq_false_iff_ne.mpr c5
   have c5b1 : ((l1.length : Int) != 1) = true := bne_iff_ne.mpr c5
   obtain ⟨ji14, hji14⟩ : ∃ j_ : Int, (wrap64 ((l1.length : Int) - 1)) = j_ := ⟨_, rfl⟩
   replace H : (if 0 ≤ (ji14) then (if (ji14) < (l1.length : Int) then ((bits_LeadingZeros32.f (rd l1 (ji14))).bind fun t292 => ((integer_raised.f k l0 t292).bind fun t293 => ((integer_raised.f k l1 t292).bind fun t296 => ((integer_trim.f k t296).bind fun t299 => (if 0 ≤ (wrap64 ((wrap64 ((l0.length : Int) - (l1.length : Int))) + 1)) then (if (wrap64 ((wrap64 ((l0.length : Int) - (l1.length : Int))) + 1) : Int).toNat ≤ 70368744177664 then ((some (List.replicate (wrap64 ((wrap64 ((l0.length : Int) - (l1.length : Int))) + 1) : Int).toNat 0 : List Int)).bind fun y302 => (integer_divide.l0 k y302 t292 t293 t299 (wrap64 ((y302.length : Int) - 1)))) else (none)) else (none)))))) else (none)) else (none)) = some (r1, r2) := by first | (rw [hji14] at H; exact H) | (simp only [hji14] at H ⊢; exact H)
   (try rw [hji14] at A3)
   have hji14w : (IntKind.i64.wrap ((l1.length : Int) - 1)) = ji14 := (i64_w _).trans hji14
   by_cases c15 : 0 ≤ (ji14)
   ·
    rw [if_pos c15] at H
    have c15b0 := decide_eq_true c15
    clear c15
    obtain ⟨c16, H⟩ := ite_some H
    have c16b0 := decide_eq_true c16
    clear c16
    replace H := Option.bind_eq_some_iff.mp H
    obtain ⟨t292, A170, H⟩ := H
    try dsimp only at H
    have A17 := Aside0.mk A170
    clear A170
    replace H := Option.bind_eq_some_iff.mp H
    obtain ⟨t293, A180, H⟩ := H
    try dsimp only at H
    have A18 := Aside0.mk A180
    clear A180
    replace H := Option.bind_eq_some_iff.mp H
    obtain ⟨t296, A190, H⟩ := H
    try dsimp only at H
    have A19 := Aside0.mk A190
    clear A190
    replace H := Option.bind_eq_some_iff.mp H
    obtain ⟨t299, A200, H⟩ := H
    try dsimp only at H
    have A20 := Aside0.mk A200
    clear A200
    obtain ⟨ji21, hji21⟩ : ∃ j_ : Int, (wrap64 ((wrap64 ((l0.length : Int) - (l1.length : Int))) + 1)) = j_ := ⟨_, rfl⟩
    replace H : (if 0 ≤ (ji21) then (if (ji21 : Int).toNat ≤ 70368744177664 then ((some (List.replicate (ji21 : Int).toNat 0 : List Int)).bind fun y302 => (integer_divide.l0 k y302 t292 t293 t299 (wrap64 ((y302.length : Int) - 1)))) else (none)) else (none)) = some (r1, r2) := by first | (rw [hji21] at H; exact H) | (simp only [hji21] at H ⊢; exact H)
    (try rw [hji21] at A3)
    (try rw [hji21] at A17)
    (try rw [hji21] at A18)
    (try rw [hji21] at A19)
    (try rw [hji21] at A20)
    have hji21w : (IntKind.i64.wrap ((wrap64 ((l0.length : Int) - (l1.length : Int))) + 1)) = ji21 := (i64_w _).trans hji21
    obtain ⟨c22, H⟩ := ite_some H
    have c22b0 := eq_true c22
    have c22b1 := decide_eq_true c22
    clear c22
    obtain ⟨c23, H⟩ := ite_some H
    have c23b0 := eq_true c23
    have c23b1 := decide_eq_true c23
    clear c23
    obtain ⟨y302, hy302⟩ : ∃ y_ : List Int, y_ = (List.replicate (ji21 : Int).toNat 0) := ⟨_, rfl⟩
    replace H : (integer_divide.l0 k y302 t292 t293 t299 (wrap64 ((y302.length : Int) - 1))) = some (r1, r2) := by first | (rw [hy302]; exact H) | exact H
    have Ny302 := Aside0.mk hy302
    clear hy302
    have H' := Aside0.mk H
    clear H
    go_enter Tryd.func59, Tryd.ntmps59
    go_wp2_with (first | ((with_reducible refine gate_callee (f := 52) rfl ?_); refine gl_ (some 14) Tryd.func52 #[.slice A0 l0.length c0, .slice A1 l1.length c1] ?_; (with_reducible refine (integer_order.calls k _ _ l0 _ _ l1 t279 _ ?side1 ?side2 ?side3 ?side4 A3.out).mono ?_); (case side1 => repeat (first | exact (Kd.V_reads' HO0.out).2.2 | (with_reducible refine Kd.C_alloc ?_ _) | (with_reducible refine Kd.C_drewN ?_ _) | (with_reducible refine Kd.C_drew ?_))); (case side2 => exact (Kd.V_reads' HO0.out).2.1); (case side3 => repeat (first | exact HR1.out | (with_reducible refine Kd.C_alloc ?_ _) | (with_reducible refine Kd.C_drewN ?_ _) | (with_reducible refine Kd.C_drew ?_))); (case side4 => exact HC1.out); rintro e w' ⟨rfl, ⟨nd, rfl⟩⟩; refine ⟨_, rfl, ?_⟩; have p291 : 0 ≤ ((ji14) : Int) := of_decide_eq_true (by assumption); have q291 : (ji14) < (l1.length : Int) := of_decide_eq_true (by assumption); obtain ⟨ad291, e291, hx291_0⟩ := Kd.at_int HR1.out (ji14) p291 q291; cases e291; replace p291 := eq_true p291; replace q291 := eq_true q291) | ((with_reducible refine gate_callee (f := 79) rfl ?_); refine goesL_ (some 38) rfl rfl Tryd.func79 (by kernel_rfl) rfl #[.int .u32 (rd l1 (ji14))] rfl (by (try simp only [List.map_toArray, List.map_cons, List.map_nil]); first | done | (simp only [hji14]; rfl) | rfl | (simp only [List.length_drop, List.length_take]; rfl)) ?_; (with_reducible refine (bits_LeadingZeros32.calls (rd l1 (ji14)) t292 _ A17.out).mono ?_); rintro e w' ⟨rfl, ⟨nd, rfl⟩⟩; refine ⟨_, rfl, ?_⟩) | ((with_reducible refine gate_callee (f := 80) rfl ?_); refine gl_ (some 41) Tryd.func80 #[.slice A0 l0.length c0, .int .i64 t292] ?_; (with_reducible refine (integer_raised.calls k _ _ l0 t292 t293 _ ?side1 ?side2 A18.out).mono ?_); (case side1 => repeat (first | exact (Kd.V_reads' HO0.out).2.2 | (with_reducible refine Kd.C_alloc ?_ _) | (with_reducible refine Kd.C_drewN ?_ _) | (with_reducible refine Kd.C_drew ?_))); (case side2 => exact (Kd.V_reads' HO0.out).2.1); rintro e w24 ⟨v294, rfl, ho0, hb⟩; refine ⟨_, rfl, ?_⟩; have n1_ := Aside0.mk (Kd.R_lower (Kd.R_newM (M := fun k_ => (w.heap.size ≤ k_)) ho0 (below_size (below_up HB.out)) (fun k_ h_ => h_)) (below_size (below_up HB.out))); have n2_ := Aside0.mk (below_step (below_up HB.out) hb); (try clear HO0); clear HB; have HO295 := n1_; have HB := n2_; clear n1_ n2_; (try clear hb); (try clear hb2); (try clear hk); (try clear hi); (try clear ho0)) | ((with_reducible refine gate_callee (f := 80) rfl ?_); refine gl_ (some 44) Tryd.func80 #[.slice (some ad291) l1.length c1, .int .i64 t292] ?_; (with_reducible refine (integer_raised.calls k _ _ l1 t292 t296 _ ?side1 ?side2 A19.out).mono ?_); (case side1 => repeat (first | exact (Kd.C_below HR1.out HB.out) | (with_reducible refine Kd.C_alloc ?_ _) | (with_reducible refine Kd.C_drewN ?_ _) | (with_reducible refine Kd.C_drew ?_))); (case side2 => exact HC1.out); rintro e w25 ⟨v297, rfl, ho0, hb⟩; refine ⟨_, rfl, ?_⟩; have n1_ := Aside0.mk (Kd.R_elder' (Kd.R_up HO295.out) (Kd.R_base ho0) hb); have n2_ := Aside0.mk (Kd.R_lower (Kd.R_new' (Kd.R_newM (M := fun k_ => (w.heap.size ≤ k_)) ho0 (below_size (below_up HB.out)) (fun k_ h_ => h_)) (Kd.R_lt (Kd.R_up HO295.out))) (below_size (below_up HB.out))); have n3_ := Aside0.mk (below_step (below_up HB.out) hb); clear HO295 HB; have HO295 := n1_; have HO298 := n2_; have HB := n3_; clear n1_ n2_ n3_; (try clear hb); (try clear hb2); (try clear hk); (try clear hi); (try clear ho0); obtain ⟨Ao26, co26, eo26⟩ := Kd.R_slice HO298.out; subst eo26) | ((with_reducible refine gate_callee (f := 67) rfl ?_); refine gl_ (some 45) Tryd.func67 #[.slice Ao26 t296.length co26] ?_; (with_reducible refine (integer_trim.calls k (fun k_ => some k_ = (.slice Ao26 t296.length co26 : Value).ownBlock) _ _ t296 t299 _ ?side1 A20.out).mono ?_); (case side1 => exact Kd.R_V (Kd.R_tight rfl (HO298.out))); rintro e w27 ⟨v300, rfl, ho0, hb⟩; refine ⟨_, rfl, ?_⟩; have n1_ := Aside0.mk (Kd.R_below (Kd.R_up HO295.out) hb); have n2_ := Aside0.mk (Kd.R_below (Kd.R_up HO298.out) hb); have n3_ := Aside0.mk (Kd.V_lower (Kd.V_mono (ok' := fun k_ => (P0_ k_ ∨ w.heap.size ≤ k_) ∧ some k_ ≠ (v294 : Value).ownBlock) ho0 (fun k_ hk_ => ⟨Or.elim hk_ (fun hs_ => (.inr (((HO298.out).1 k_ hs_.symm).1.1))) (fun hn_ => (.inr (Nat.le_trans (below_size (below_up HB.out)) hn_))), Or.elim hk_ (fun hs_ => ((HO298.out).1 k_ hs_.symm).2) (fun hn_ => (Kd.fresh' (Kd.R_lt (Kd.R_up HO295.out)) k_ hn_))⟩)) (below_size (below_up HB.out))); have n4_ := Aside0.mk (below_step (below_up HB.out) hb); clear HO295 HO298 HB; have HO295 := n1_; have HO298 := n2_; have HO301 := n3_; have HB := n4_; clear n1_ n2_ n3_ n4_; (try clear hb); (try clear hb2); (try clear hk); (try clear hi); (try clear ho0)) | ((with_reducible refine gate_dst (N := 52) rfl ?_); refine Kd.R_make (Kd.int .u32) _ 60 rfl (N := 52) rfl 23 _ _ rfl ji21 rfl rfl Tryd.underlying23 (.int .u32 0) 4 info60 rfl (by decide) (by omega) 0 (ok := fun _ => True) (okp := fun _ => True) rfl (fun _ hk => hk) trivial (of_decide_eq_true (by assumption)) (Nat.le_trans (Nat.mul_le_mul_right _ (of_decide_eq_true (by assumption) : ji21.toNat ≤ 70368744177664)) (by omega)) (Below.refl _ _) (Nat.le_refl _) ?_; intro v303 w28 ho29 hb hg_ hnew_; clear hg_ hnew_; (first | rw [← Ny302.out] at ho29 | (simp only [Int.reduceToNat] at ho29; rw [← Ny302.out] at ho29)); have n1_ := Aside0.mk (Kd.R_elder' (Kd.R_up HO295.out) (Kd.R_base ho29) hb); have n3_ := Aside0.mk (Kd.V_elder' (Kd.V_up HO301.out) (Kd.R_base ho29) hb); have n4_ := Aside0.mk (Kd.R_lower (Kd.R_new' (Kd.R_new' (Kd.R_newM (M := fun k_ => (w.heap.size ≤ k_)) ho29 (below_size (below_up HB.out)) (fun k_ h_ => h_)) (Kd.R_lt (Kd.R_up HO295.out))) (Kd.R_lt (Kd.R_up HO298.out))) (below_size (below_up HB.out))); have n5_ := Aside0.mk (below_step (below_up HB.out) hb); clear HO295; (try clear HO298); clear HO301 HB; have HO295 := n1_; have HO301 := n3_; have HO304 := n4_; have HB := n5_; clear n1_ n3_ n4_ n5_ hb ho29; obtain ⟨Ao30, co30, eo30⟩ := Kd.R_slice HO304.out; subst eo30))
    go_loopg [11] k (fun kq v11 w' => ∃ (x4_1 : List Int) (x9_1 : List Int) (x11_1 : Int), v11 = .int .i64 x11_1 ∧ Aside0 (integer_divide.l0 kq x4_1 t292 x9_1 t299 x11_1 = some (r1, r2)) ∧ Aside0 (kq ≤ k) ∧ Aside0 (Kd.R (Kd.int .u32) 60 w' w.heap.size (fun k_ => (w.heap.size ≤ k_) ∧ some k_ ≠ (v294 : Value).ownBlock) (.slice Ao30 y302.length co30) x4_1) ∧ Aside0 (Kd.R (Kd.int .u32) 60 w' w.heap.size (fun k_ => (w.heap.size ≤ k_) ∧ some k_ ≠ ((.slice Ao30 y302.length co30) : Value).ownBlock) v294 x9_1) ∧ Aside0 (Kd.V (Kd.int .u32) 60 w' w.heap.size (fun k_ => (P0_ k_ ∨ w.heap.size ≤ k_) ∧ some k_ ≠ ((.slice Ao30 y302.length co30) : Value).ownBlock ∧ some k_ ≠ (v294 : Value).ownBlock) v300 t299) ∧ Aside0 (Below w.heap.size w w'))
    case atStart => exact ⟨(y302), (t293), (wrap64 ((y302.length : Int) - 1)), (by first | rfl | (simp; done) | (simp [*]; done) | (simp <;> omega)), H', ⟨Nat.le_refl _⟩, ⟨Kd.R_up (Kd.R_mono HO304.out (fun _ hk => ⟨hk.1.1.1, hk.1.2⟩))⟩, ⟨Kd.R_up (Kd.R_mono HO295.out (fun _ hk => ⟨hk.1.1.1, hk.2⟩))⟩, ⟨Kd.V_up (Kd.V_mono HO301.out (fun _ hk => ⟨hk.1.1, ⟨hk.2, hk.1.2⟩⟩))⟩, ⟨below_up HB.out⟩⟩
    case round =>
     clear H'
     obtain ⟨x4_1, x9_1, x11_1, rfl, HA, HK1, HO_4, HO_9, HO_10, HB⟩ := hrel
     have hl4_1 := (Kd.R_reads' HO_4.out).1
     rw [hl4_1] at HO_4
     (try simp only [hl4_1])
     (try simp only [hl4_1] at HO_9)
     (try simp only [hl4_1] at HO_10)
     cases gk with
     | zero => exact absurd HA.out (by simp [integer_divide.l0])
     | succ k1 =>
      have H := HA.out
      clear HA
      simp only [integer_divide.l0] at H
      by_cases c31 : x11_1 ≥ 0
      ·
       rw [if_pos c31] at H
       have c31b0 := decide_eq_true c31
       clear c31
       obtain ⟨c32, H⟩ := ite_some H
       have c32b0 := eq_true c32
       have c32b1 := decide_eq_true c32
       clear c32
       obtain ⟨c33, H⟩ := ite_some H
       have c33b0 := eq_true c33
       have c33b1 := decide_eq_true c33
       obtain ⟨c34, H⟩ := ite_some H
       have c34b0 := eq_true c34
       have c34b1 := decide_eq_true c34
       obtain ⟨y305, hy305⟩ : ∃ y_ : List Int, y_ = ((x9_1.take ((wrap64 ((wrap64 (x11_1 + (t299.length : Int))) + 1)) : Int).toNat).drop (x11_1 : Int).toNat) := ⟨_, rfl⟩
       replace H : ((integer_digit_at.f k1 x9_1 x11_1 (wrap64 ((wrap64 (x11_1 + (t299.length : Int))) + 1)) t299).bind fun bt309 => (if x11_1 < (x4_1.length : Int) then (integer_divide.l0 k1 (x4_1.set (x11_1 : Int).toNat bt309.1) t292 bt309.2 t299 (wrap64 (x11_1 - 1))) else (none))) = some (r1, r2) := by first | (rw [hy305]; exact H) | exact H
       have Ny305 := Aside0.mk hy305
       clear hy305
       replace H := Option.bind_eq_some_iff.mp H
       obtain ⟨⟨t309, t310⟩, A350, H⟩ := H
       try dsimp only at H
       have A35 := Aside0.mk A350
       clear A350
       obtain ⟨c36, H⟩ := ite_some H
       have c36b0 := decide_eq_true c36
       (try simp only [hl4_1] at c36b0)
       clear c36
       obtain ⟨y311, hy311⟩ : ∃ y_ : List Int, y_ = (x4_1.set (x11_1 : Int).toNat t309) := ⟨_, rfl⟩
       replace H : (integer_divide.l0 k1 y311 t292 t310 t299 (wrap64 (x11_1 - 1))) = some (r1, r2) := by first | (rw [hy311]; exact H) | exact H
       have Ny311 := Aside0.mk hy311
       clear hy311
       have H' := Aside0.mk H
       clear H
       obtain ⟨Ao38, co38, eo38⟩ := Kd.V_slice HO_10.out
       subst eo38
       obtain ⟨Ao40, co40, eo40⟩ := Kd.R_slice HO_9.out
       subst eo40
       have q39 : ((wrap64 ((wrap64 (x11_1 + (t299.length : Int))) + 1)) : Int) ≤ ((x9_1.length : Int) : Int) := of_decide_eq_true (by assumption)
       obtain ⟨i039, hi039, _, hsz39, _⟩ := info_parts info60
       have hroom39 : x9_1.length ≤ co40 := (Kd.R_reads' HO_9.out).2.1
       have hC39 : Kd.C (Kd.int .u32) _ Ao40 x9_1.length x9_1 := (Kd.R_reads' HO_9.out).2.2
       have ql39 : (x11_1 : Int) ≤ ((wrap64 ((wrap64 (x11_1 + (t299.length : Int))) + 1)) : Int) := of_decide_eq_true (by assumption)
       have q039 : (0 : Int) ≤ (x11_1 : Int) := of_decide_eq_true (by assumption)
       have hcut39 := cut_mid (P := Tryd.prog) 23 60 .i64 .i64 Tryd.underlying23 hi039 1 hsz39 Ao40 x9_1.length co40 x11_1 (wrap64 ((wrap64 (x11_1 + (t299.length : Int))) + 1)) q039 ql39 q39 hroom39
       have hr39 := Kd.C_mid (lo := (x11_1 : Int).toNat) (hi := ((wrap64 ((wrap64 (x11_1 + (t299.length : Int))) + 1)) : Int).toNat) (c := co40) hC39 (by omega) (by omega) hroom39
       obtain ⟨A39, hA39⟩ : ∃ A1, A1 = (if co40 = (x11_1 : Int).toNat then Ao40 else (Ao40 : Option Addr).map (·.add ((x11_1 : Int).toNat * 1))) := ⟨_, rfl⟩
       obtain ⟨c39, hc39⟩ : ∃ c1, c1 = co40 - (x11_1 : Int).toNat := ⟨_, rfl⟩
       have hy39 : y305.length = ((wrap64 ((wrap64 (x11_1 + (t299.length : Int))) + 1)) : Int).toNat - (x11_1 : Int).toNat := (by rw [Ny305.out, List.length_drop, List.length_take] <;> omega)
       rw [show ((x9_1).take ((wrap64 ((wrap64 (x11_1 + (t299.length : Int))) + 1)) : Int).toNat).drop (x11_1 : Int).toNat = y305 from Ny305.out.symm] at hr39
       replace hr39 : Kd.C (Kd.int .u32) _ A39 y305.length y305 := (by rw [hA39]; exact hr39)
       rw [← hy39, ← hA39, ← hc39] at hcut39
       have HR308 := Aside0.mk hr39
       have HC308 := Aside0.mk (show y305.length ≤ c39 from by rw [hy39, hc39]; exact Nat.sub_le_sub_right (Nat.le_trans (by omega) hroom39) _)
       clear hr39 hC39 hroom39 hi039 hsz39 hc39
       have KY39 := Aside0.mk hy39
       have KA39 := Aside0.mk hA39
       clear hy39 hA39
       have KL39 := Aside0.mk (show ((wrap64 ((wrap64 (x11_1 + (t299.length : Int))) + 1)) : Int).toNat ≤ x9_1.length from by omega)
       have KM39 := Aside0.mk (show (x11_1 : Int).toNat ≤ ((wrap64 ((wrap64 (x11_1 + (t299.length : Int))) + 1)) : Int).toNat from by omega)
       replace q39 := eq_true q39
       go_wp2_with (first | ((with_reducible refine gate_callee (f := 81) rfl ?_); refine gl_ (some 71) Tryd.func81 #[.slice A39 y305.length c39, .slice Ao38 t299.length co38] ?_; (with_reducible refine (integer_digit_at.calls k1 (fun k_ => some k_ = (.slice Ao40 x9_1.length co40 : Value).ownBlock) (.slice Ao40 x9_1.length co40) x9_1 x11_1 (wrap64 ((wrap64 (x11_1 + (t299.length : Int))) + 1)) _ _ t299 t309 t310 w _ ?side1 ?side2 ?side3 ?side4 ?side5 A35.out).mono ?_); (case side1 => exact below_up HB.out); (case side2 => exact Kd.R_tight rfl HO_9.out); (case side3 => exact ⟨_, _, _, rfl, (by first | exact q039 | exact of_eq_true q039), (by first | exact ql39 | exact of_eq_true ql39), (by first | exact q39 | exact of_eq_true q39), KY39.out, HC308.out, KA39.out⟩); (case side4 => exact Kd.C_kept_ownV (HO_10.out) (fun k_ hk_ hs_ => (hk_.2.2) hs_)); (case side5 => exact (Kd.V_reads' HO_10.out).2.1); rintro e w41 ⟨rfl, hy0, hb, hkp⟩; refine ⟨_, rfl, ?_⟩; replace HO_4 := Aside0.mk (Kd.R_mono (ok' := fun k_ => (w.heap.size ≤ k_) ∧ some k_ ≠ (.slice Ao40 x9_1.length co40 : Value).ownBlock) (Kd.R_keptB (HO_4.out) hkp (fun k_ hk_ hs_ => (hk_.2) hs_)) (fun k_ hk_ => ⟨hk_.1.1, hk_.1.2⟩)); replace HO_9 := Aside0.mk (Kd.R_reok rfl hy0 (fun k_ e_ => HO_9.out.1 k_ e_)); replace HO_10 := Aside0.mk (Kd.V_mono (ok' := fun k_ => (P0_ k_ ∨ w.heap.size ≤ k_) ∧ some k_ ≠ (.slice Ao30 x4_1.length co30 : Value).ownBlock ∧ some k_ ≠ (.slice Ao40 x9_1.length co40 : Value).ownBlock) (Kd.V_keptB (HO_10.out) hkp (fun k_ hk_ hs_ => (hk_.2.2) hs_)) (fun k_ hk_ => ⟨hk_.1.1, hk_.1.2.1, hk_.1.2.2⟩)); replace HB := Aside0.mk (hb); (try clear hb); (try clear hkp); (try clear hy0); have p37 : 0 ≤ (x11_1 : Int) := of_decide_eq_true (by assumption); have q37 : (x11_1 : Int) < ((x4_1.length : Int) : Int) := of_decide_eq_true (by assumption); obtain ⟨go37, co37, eo37, gb37, gl37, cl37, HG37⟩ := Kd.R_form HO_4.out (by omega); (first | cases eo37 | (injection eo37 with ea_ en_ ec_; (first | subst ea_ | (injection ea_ with ea_; subst ea_)); subst ec_; clear en_)); have GB37 := Aside0.mk gb37; have GG37 := Aside0.mk HG37; clear gb37 gl37 HG37; obtain ⟨hx37_0, hf37_0⟩ := Kd.R_celln 0 HO_4.out (x11_1 : Int) p37 q37; replace p37 := eq_true p37; replace q37 := eq_true q37; obtain ⟨hy42_, hz42_⟩ := Kd.R_celln 0 HO_4.out (x11_1 : Int) (of_decide_eq_true (by assumption)) (of_decide_eq_true (by assumption)); have HP42 := Kd.R_putg HO_4.out (x11_1 : Int) t309) | ((with_reducible refine gate_store (t := 60) (p := 72) rfl ?_); refine store_event (t := 60) (p := 72) (v := ?vo_w43) (w1 := (w41.setCell ⟨go37, (x11_1 : Int).toNat, none⟩ (.int .u32 t309))) ?hg ?ho ?hn ?hr ?_; (case ho => rfl); (case hg => rfl); (case hn => rfl); (case hr => first | (go_simp; done) | (go_simp; rfl)); intro w43 hw; have hg : w41.grownBy w43 (some go37) := (by rw [hw]; exact HP42.2); have hp_ : Kd.R (Kd.int .u32) 60 w43 w.heap.size (fun k_ => (w.heap.size ≤ k_) ∧ some k_ ≠ (.slice Ao40 x9_1.length co40 : Value).ownBlock) (.slice (some ⟨go37, 0, none⟩) x4_1.length co30) y311 := (by rw [hw, Ny311.out]; exact HP42.1); clear HP42; replace HO_4 := Aside0.mk (hp_); replace HO_9 := Aside0.mk (Kd.R_after (v := (.slice (some ⟨go37, 0, none⟩) x4_1.length co30)) (v1 := (.slice (some ⟨go37, 0, none⟩) x4_1.length co30)) (ok := (fun k_ => (w.heap.size ≤ k_))) (Kd.R_up HO_9.out) hg (.inl rfl)); replace HO_10 := Aside0.mk (Kd.V_afterv (v := (.slice (some ⟨go37, 0, none⟩) x4_1.length co30)) (v1 := (.slice (some ⟨go37, 0, none⟩) x4_1.length co30)) (ok := (fun k_ => (P0_ k_ ∨ w.heap.size ≤ k_) ∧ some k_ ≠ (.slice Ao40 x9_1.length co40 : Value).ownBlock)) (Kd.V_up (Kd.V_mono HO_10.out (fun _ hk => ⟨⟨hk.1, hk.2.2⟩, hk.2.1⟩))) hg (.inl rfl)); replace HB := Aside0.mk ((by rw [hw]; exact below_set (HB.out) GB37.out : Below w.heap.size w w43)); clear hg hw hp_))
       (try simp only [← hl4_1])
       go_roundg k1
       case measure => have := HK1.out; omega
       case rel => exact ⟨(y311), (t310), (wrap64 (x11_1 - 1)), (by first | rfl | (simp; done) | (simp [*]; done) | (simp <;> omega)), H', ⟨by have := HK1.out; omega⟩, ⟨by (try simp only [hl4_1]); (with_reducible repeat (first | apply Kd.R_alloc | apply Kd.R_drewN | apply Kd.R_drew)); exact HO_4.out⟩, ⟨by (try simp only [hl4_1]); (with_reducible repeat (first | apply Kd.R_alloc | apply Kd.R_drewN | apply Kd.R_drew)); exact HO_9.out⟩, ⟨by (try simp only [hl4_1]); (with_reducible repeat (first | apply Kd.V_alloc | apply Kd.V_drewN | apply Kd.V_drew)); exact Kd.V_mono HO_10.out (fun _ hk => ⟨hk.1.1, ⟨hk.2, hk.1.2⟩⟩)⟩, ⟨below_up HB.out⟩⟩
      ·
       rw [if_neg c31] at H
       have c31b0 := decide_eq_false c31
       clear c31
       replace H := Option.bind_eq_some_iff.mp H
       obtain ⟨t312, A440, H⟩ := H
       try dsimp only at H
       have A44 := Aside0.mk A440
       clear A440
       replace H := Option.bind_eq_some_iff.mp H
       obtain ⟨t315, A450, H⟩ := H
       try dsimp only at H
       have A45 := Aside0.mk A450
       clear A450
       replace H := Option.bind_eq_some_iff.mp H
       obtain ⟨t318, A460, H⟩ := H
       try dsimp only at H
       have A46 := Aside0.mk A460
       clear A460
       simp only [Option.some.injEq, Prod.mk.injEq] at H
       obtain ⟨rfl, rfl⟩ := H
       go_wp2_with (first | ((with_reducible refine gate_callee (f := 67) rfl ?_); refine gl_ (some 74) Tryd.func67 #[.slice Ao30 x4_1.length co30] ?_; (with_reducible refine (integer_trim.calls k1 (fun k_ => some k_ = (.slice Ao30 x4_1.length co30 : Value).ownBlock) _ _ x4_1 t312 _ ?side1 A44.out).mono ?_); (case side1 => exact Kd.R_V (Kd.R_tight rfl (HO_4.out))); rintro e w47 ⟨v313, rfl, ho0, hb⟩; refine ⟨_, rfl, ?_⟩; have HO314 := Aside0.mk (Kd.V_lower (Kd.V_mono (ok' := fun k_ => (P0_ k_ ∨ w.heap.size ≤ k_) ∧ some k_ ≠ (v294 : Value).ownBlock) ho0 (fun k_ hk_ => ⟨Or.elim hk_ (fun hs_ => (.inr (((HO_4.out).1 k_ hs_.symm).1))) (fun hn_ => (.inr (Nat.le_trans (below_size (below_up HB.out)) hn_))), Or.elim hk_ (fun hs_ => ((HO_4.out).1 k_ hs_.symm).2) (fun hn_ => (Kd.fresh' (Kd.R_lt (Kd.R_up HO_9.out)) k_ hn_))⟩)) (below_size (below_up HB.out))); replace HO_4 := Aside0.mk (Kd.R_below (Kd.R_up HO_4.out) hb); replace HO_9 := Aside0.mk (Kd.R_below (Kd.R_up HO_9.out) hb); replace HB := Aside0.mk (below_step (below_up HB.out) hb); (try clear HO_10); (try clear hb); (try clear hb2); (try clear hk); (try clear hi); (try clear ho0); obtain ⟨Ao48, co48, eo48⟩ := Kd.R_slice HO_9.out; subst eo48) | ((with_reducible refine gate_callee (f := 67) rfl ?_); refine gl_ (some 76) Tryd.func67 #[.slice Ao48 x9_1.length co48] ?_; (with_reducible refine (integer_trim.calls k1 (fun k_ => some k_ = (.slice Ao48 x9_1.length co48 : Value).ownBlock) _ _ x9_1 t315 _ ?side1 A45.out).mono ?_); (case side1 => exact Kd.R_V (Kd.R_tight rfl (HO_9.out))); rintro e w49 ⟨v316, rfl, ho0, hb⟩; refine ⟨_, rfl, ?_⟩; replace HO314 := Aside0.mk (Kd.V_below (Kd.V_up HO314.out) hb); have HO317 := Aside0.mk (Kd.V_lower (Kd.V_mono (ok' := fun k_ => (P0_ k_ ∨ w.heap.size ≤ k_) ∧ some k_ ≠ (.slice Ao30 x4_1.length co30 : Value).ownBlock) ho0 (fun k_ hk_ => ⟨Or.elim hk_ (fun hs_ => (.inr (((HO_9.out).1 k_ hs_.symm).1))) (fun hn_ => (.inr (Nat.le_trans (below_size (below_up HB.out)) hn_))), Or.elim hk_ (fun hs_ => ((HO_9.out).1 k_ hs_.symm).2) (fun hn_ => (Kd.fresh' (Kd.R_lt (Kd.R_up HO_4.out)) k_ hn_))⟩)) (below_size (below_up HB.out))); replace HO_4 := Aside0.mk (Kd.R_below (Kd.R_up HO_4.out) hb); replace HO_9 := Aside0.mk (Kd.R_below (Kd.R_up HO_9.out) hb); replace HB := Aside0.mk (below_step (below_up HB.out) hb); (try clear hb); (try clear hb2); (try clear hk); (try clear hi); (try clear ho0); obtain ⟨Ao50, co50, eo50⟩ := Kd.V_slice HO317.out; subst eo50) | ((with_reducible refine gate_callee (f := 82) rfl ?_); refine gl_ (some 78) Tryd.func82 #[.slice Ao50 t315.length co50, .int .i64 t292] ?_; (with_reducible refine (integer_lowered.calls k1 _ _ t315 t292 t318 _ ?side1 ?side2 A46.out).mono ?_); (case side1 => repeat (first | exact (Kd.V_reads' HO317.out).2.2 | (with_reducible refine Kd.C_alloc ?_ _) | (with_reducible refine Kd.C_drewN ?_ _) | (with_reducible refine Kd.C_drew ?_))); (case side2 => exact (Kd.V_reads' HO317.out).2.1); rintro e w51 ⟨v319, rfl, ho0, hb⟩; refine ⟨_, rfl, ?_⟩; have n3_ := Aside0.mk (Kd.V_below (Kd.V_up HO314.out) hb); have n5_ := Aside0.mk (Kd.V_lower (Kd.V_mono (ok' := fun k_ => (P0_ k_ ∨ w.heap.size ≤ k_) ∧ some k_ ≠ (.slice Ao30 x4_1.length co30 : Value).ownBlock ∧ some k_ ≠ (.slice Ao48 x9_1.length co48 : Value).ownBlock) ho0 (fun k_ hk_ => ⟨(.inr (Nat.le_trans (below_size (below_up HB.out)) hk_)), (Kd.fresh' (Kd.R_lt (Kd.R_up HO_4.out)) k_ hk_), (Kd.fresh' (Kd.R_lt (Kd.R_up HO_9.out)) k_ hk_)⟩)) (below_size (below_up HB.out))); have n6_ := Aside0.mk (below_step (below_up HB.out) hb); (try clear HO_4); (try clear HO_9); clear HO314; (try clear HO317); clear HB; have HO314 := n3_; have HO320 := n5_; have HB := n6_; clear n3_ n5_ n6_; (try clear hb); (try clear hb2); (try clear hk); (try clear hi); (try clear ho0)))
       go_ret2
       exact ⟨_, _, by first | rfl | (simp [errW_none, errW_some] <;> rfl) | (simp only [← hji14, ← hji21]; first | rfl | (simp [errW_none, errW_some] <;> rfl)) | (simp [*, errW_none, errW_some] <;> rfl), Kd.V_up (Kd.V_mono HO314.out (fun _ hk => hk.1)), Kd.V_up (Kd.V_mono HO320.out (fun _ hk => hk.1)), below_up HB.out⟩
   ·
    rw [if_neg c15] at H
    exact absurd H (by simp)
def integer_DivMod.j0 : Nat → Bool → Bool → List Int → Bool → List Int → Bool → List Int → Option (Bool × List Int × Bool × List Int × Int)
 | 0, _, _, _, _, _, _, _ => none
 | k + 1, x42, x323000, x323001, x324000, x324001, x325000, x325001 => if x42 = true then ((integer_From.f k 1).bind fun bt341 => ((integer_Sub.f k x324000 x324001 bt341.1 bt341.2).bind fun bt345 => ((integer_Add.f k x325000 x325001 x323000 x323001).bind fun bt349 => (some (bt345.1, bt345.2, bt349.1, bt349.2, 0))))) else (some (x324000, x324001, x325000, x325001, 0))
def integer_DivMod.f (k : Nat) (a0_0 : Bool) (l0_1 : List Int) (a1_0 : Bool) (l1_1 : List Int) : Option (Bool × List Int × Bool × List Int × Int) := (integer_Int_Sign.f a1_0 l1_1).bind fun t325 => (if t325 = 0 then (some (false, ([] : List Int), false, ([] : List Int), 19)) else ((integer_divide.f k l0_1 l1_1).bind fun bt326 => ((integer_signed.f k (a0_0 != a1_0) bt326.1).bind fun bt332 => ((integer_signed.f k a0_0 bt326.2).bind fun bt336 => ((integer_Int_Sign.f bt336.1 bt336.2).bind fun t340 => (if t340 = 0 then (integer_DivMod.j0 k false a1_0 l1_1 bt332.1 bt332.2 bt336.1 bt336.2) else (integer_DivMod.j0 k (bt336.1 != a1_0) a1_0 l1_1 bt332.1 bt332.2 bt336.1 bt336.2)))))))
theorem integer_DivMod.mono_l : ∀ k, (∀ y0 y1 y2 y3 y4 y5 y6, LeO (integer_DivMod.j0 k y0 y1 y2 y3 y4 y5 y6) (integer_DivMod.j0 (k + 1) y0 y1 y2 y3 y4 y5 y6))
 | 0 => fun _ _ _ _ _ _ _ r h => by simp [integer_DivMod.j0] at h
 | k + 1 => by
  have ih0 := integer_DivMod.mono_l k
  ·
   intro y0 y1 y2 y3 y4 y5 y6
   unfold integer_DivMod.j0
   repeat' with_reducible first | exact ih0 _ _ _ _ _ _ _ | exact integer_Add.mono _ _ _ _ _ | exact integer_From.mono _ _ | exact integer_Sub.mono _ _ _ _ _ | exact integer_divide.mono _ _ _ | exact integer_signed.mono _ _ _ | exact LeO.refl _ | exact LeO.none _ | refine LeO.ite ?_ ?_ | refine LeO.bind ?_ (fun _ => ?_)
theorem integer_DivMod.mono : ∀ a0 a1 a2 a3 k, LeO (integer_DivMod.f k a0 a1 a2 a3) (integer_DivMod.f (k + 1) a0 a1 a2 a3) := by
 intro a0 a1 a2 a3 k
 have ih0 := integer_DivMod.mono_l k
 unfold integer_DivMod.f
 repeat' with_reducible first | exact ih0 _ _ _ _ _ _ _ | exact integer_Add.mono _ _ _ _ _ | exact integer_From.mono _ _ | exact integer_Sub.mono _ _ _ _ _ | exact integer_divide.mono _ _ _ | exact integer_signed.mono _ _ _ | exact LeO.refl _ | exact LeO.none _ | refine LeO.ite ?_ ?_ | refine LeO.bind ?_ (fun _ => ?_)
def integer_DivMod.T4 : Bool × List (List Nat × List Nat) := (true, [([], []), ([0], [0]), ([], []), ([2], [2]), ([1, 3], [1, 3]), ([], []), ([4, 5], [4, 5]), ([], []), ([7], [7]), ([], []), ([8, 9, 6], [8, 9]), ([6, 10, 0, 1, 2, 3, 4, 5, 6], [6]), ([10, 11, 0, 1, 2, 3, 4, 5, 6, 7, 8, 9, 10, 11], [10])])
def integer_DivMod.B4 : List Nat := [0, 1, 0, 4, 15, 0, 63, 0, 128, 0, 1023, 2047, 4095]
theorem integer_DivMod.tab4 : rtab .any (opsOf Tryd.f27 4) = integer_DivMod.T4 := by kernel_rfl
theorem integer_DivMod.bits4 : waitsOk integer_DivMod.T4.2 integer_DivMod.B4 = true := by kernel_rfl
def integer_DivMod.T6 : Bool × List (List Nat × List Nat) := (true, [([], []), ([], []), ([0, 1, 1], [0, 1]), ([], []), ([], []), ([3, 4, 2], [3, 4]), ([2, 5, 0, 1, 2], [2]), ([5, 6, 0, 1, 2, 3, 4, 5, 6], [5])])
def integer_DivMod.B6 : List Nat := [0, 0, 3, 0, 0, 31, 63, 127]
theorem integer_DivMod.tab6 : rtab .any (opsOf Tryd.f27 6) = integer_DivMod.T6 := by kernel_rfl
theorem integer_DivMod.bits6 : waitsOk integer_DivMod.T6.2 integer_DivMod.B6 = true := by kernel_rfl
set_option maxHeartbeats 8000000 in
set_option maxRecDepth 100000 in
theorem integer_DivMod.calls (k : Nat) (a0_0 : Bool) (P0_1_ : Nat → Prop) (A0_1 : Option Addr) (c0_1 : Nat) (l0_1 : List Int) (a1_0 : Bool) (A1_1 : Option Addr) (c1_1 : Nat) (l1_1 : List Int) (r1 : Bool) (r2 : List Int) (r3 : Bool) (r4 : List Int) (r5 : Int) (w : World) (hs0_1 : Kd.V (Kd.int .u32) 60 w w.heap.size (fun k_ => P0_1_ k_) (.slice A0_1 l0_1.length c0_1) l0_1) (hr1_1 : Kd.C (Kd.int .u32) w A1_1 l1_1.length l1_1) (hc1_1 : l1_1.length ≤ c1_1) (h : integer_DivMod.f k a0_0 l0_1 a1_0 l1_1 = some (r1, r2, r3, r4, r5)) :
  Calls Tryd.prog 27 #[.agg #[.bool a0_0, .slice A0_1 l0_1.length c0_1], .agg #[.bool a1_0, .slice A1_1 l1_1.length c1_1]] w fun e w' => ∃ v1_ v3_ : Value, e = .returned (.tuple #[.agg #[.bool r1, v1_], .agg #[.bool r3, v3_], .int .i64 r5]) ∧ Kd.V (Kd.int .u32) 60 w' w.heap.size (fun k_ => (P0_1_ k_ ∨ w.heap.size ≤ k_)) v1_ r2 ∧ Kd.V (Kd.int .u32) 60 w' w.heap.size (fun k_ => (P0_1_ k_ ∨ w.heap.size ≤ k_)) v3_ r4 ∧ Below w.heap.size w w' := by
 have hu25 := Tryd.underlying25
 have HO0_1 := Aside0.mk (show Kd.V (Kd.int .u32) 60 w w.heap.size (fun k_ => (P0_1_ k_ ∨ w.heap.size ≤ k_)) (.slice A0_1 l0_1.length c0_1) l0_1 from Kd.V_mono hs0_1 (fun k_ hk => .inl hk))
 have HR1_1 := Aside0.mk hr1_1
 have HC1_1 := Aside0.mk hc1_1
 clear hr1_1 hc1_1
 have HB := Aside0.mk (Below.refl w.heap.size w)
 have H := h
 unfold integer_DivMod.f at H
 clear h
 replace H := Option.bind_eq_some_iff.mp H
 obtain ⟨t325, A30, H⟩ := H
 try dsimp only at H
 have A3 := Aside0.mk A30
 clear A30
 by_cases c4 : t325 = 0
 ·
  rw [if_pos c4] at H
  have c4b0 : (t325 == 0) = true := beq_iff_eq.mpr c4
  have c4b1 : (t325 != 0) = false := bne_eq_false_iff_eq.mpr c4
  clear c4
  simp only [Option.some.injEq, Prod.mk.injEq] at H
  obtain ⟨rfl, rfl, rfl, rfl, rfl⟩ := H
  go_enter Tryd.func27, Tryd.ntmps27
  go_wp2_with (first | ((with_reducible refine gate_dst (N := 2) rfl ?_); refine box_event ?hg (N := 2) ?hd (cs := #[.bool a0_0, .slice A0_1 l0_1.length c0_1]) (t := 25) ?hr ?_; (case hd => rfl); (case hg => rfl); (case hr => first | (go_simp; done) | (go_simp; rfl)); intro gb321 hg w5 hbox hb; replace HO0_1 := Aside0.mk (Kd.V_below (Kd.V_elderB (Kd.V_up HO0_1.out) gb321 (Nat.le_of_eq hg.symm)) hb); have BK321 := Aside0.mk (hbox); have GE321 := Aside0.mk ((size_up hg HB.out : w.heap.size ≤ gb321)); replace HB := Aside0.mk (below_step (below_up HB.out) hb); clear hb hbox hg) | ((with_reducible refine gate_dst (N := 3) rfl ?_); refine box_event ?hg (N := 3) ?hd (cs := #[.bool a1_0, .slice A1_1 l1_1.length c1_1]) (t := 25) ?hr ?_; (case hd => rfl); (case hg => rfl); (case hr => first | (go_simp; done) | (go_simp; rfl)); intro gb322 hg w6 hbox hb; replace HO0_1 := Aside0.mk (Kd.V_below (Kd.V_elderB (Kd.V_up HO0_1.out) gb322 (Nat.le_of_eq hg.symm)) hb); have BK322 := Aside0.mk (hbox); have GE322 := Aside0.mk ((by rw [hg]; exact (below_size (by with_reducible repeat first | exact HB.out | apply below_alloc | apply pw_below_drewN | apply below_drew1 | refine below_set ?_ GE321.out)) : w.heap.size ≤ gb322)); replace HB := Aside0.mk (below_step (by with_reducible repeat first | exact HB.out | apply below_alloc | apply pw_below_drewN | apply below_drew1 | refine below_set ?_ GE321.out) hb); have NB321_322 := Aside0.mk ((blk_nw hg BK321.out : gb321 ≠ gb322)); have NB322_321 := Aside0.mk ((nw_blk hg BK321.out : gb322 ≠ gb321)); replace BK321 := Aside0.mk (blk_below (blk_up BK321.out) hb); clear hb hbox hg) | ((with_reducible refine gate_dst (N := 4) rfl ?_); refine box_event ?hg (N := 4) ?hd (cs := #[.bool false, .slice none 0 0]) (t := 25) ?hr ?_; (case hd => rfl); (case hg => rfl); (case hr => first | (go_simp; done) | (go_simp; rfl)); intro gb323 hg w7 hbox hb; replace HO0_1 := Aside0.mk (Kd.V_below (Kd.V_elderB (Kd.V_up HO0_1.out) gb323 (Nat.le_of_eq hg.symm)) hb); have BK323 := Aside0.mk (hbox); have GE323 := Aside0.mk ((by rw [hg]; exact (below_size (by with_reducible repeat first | exact HB.out | apply below_alloc | apply pw_below_drewN | apply below_drew1 | refine below_set ?_ GE321.out | refine below_set ?_ GE322.out)) : w.heap.size ≤ gb323)); replace HB := Aside0.mk (below_step (by with_reducible repeat first | exact HB.out | apply below_alloc | apply pw_below_drewN | apply below_drew1 | refine below_set ?_ GE321.out | refine below_set ?_ GE322.out) hb); have NB321_323 := Aside0.mk ((blk_nw hg BK321.out : gb321 ≠ gb323)); have NB323_321 := Aside0.mk ((nw_blk hg BK321.out : gb323 ≠ gb321)); replace BK321 := Aside0.mk (blk_below (blk_up BK321.out) hb); have NB322_323 := Aside0.mk ((blk_nw hg BK322.out : gb322 ≠ gb323)); have NB323_322 := Aside0.mk ((nw_blk hg BK322.out : gb323 ≠ gb322)); replace BK322 := Aside0.mk (blk_below (blk_up BK322.out) hb); clear hb hbox hg) | ((with_reducible refine gate_dst (N := 5) rfl ?_); refine box_event ?hg (N := 5) ?hd (cs := #[.bool false, .slice none 0 0]) (t := 25) ?hr ?_; (case hd => rfl); (case hg => rfl); (case hr => first | (go_simp; done) | (go_simp; rfl)); intro gb324 hg w8 hbox hb; replace HO0_1 := Aside0.mk (Kd.V_below (Kd.V_elderB (Kd.V_up HO0_1.out) gb324 (Nat.le_of_eq hg.symm)) hb); have BK324 := Aside0.mk (hbox); have GE324 := Aside0.mk ((by rw [hg]; exact (below_size (by with_reducible repeat first | exact HB.out | apply below_alloc | apply pw_below_drewN | apply below_drew1 | refine below_set ?_ GE321.out | refine below_set ?_ GE322.out | refine below_set ?_ GE323.out)) : w.heap.size ≤ gb324)); replace HB := Aside0.mk (below_step (by with_reducible repeat first | exact HB.out | apply below_alloc | apply pw_below_drewN | apply below_drew1 | refine below_set ?_ GE321.out | refine below_set ?_ GE322.out | refine below_set ?_ GE323.out) hb); have NB321_324 := Aside0.mk ((blk_nw hg BK321.out : gb321 ≠ gb324)); have NB324_321 := Aside0.mk ((nw_blk hg BK321.out : gb324 ≠ gb321)); replace BK321 := Aside0.mk (blk_below (blk_up BK321.out) hb); have NB322_324 := Aside0.mk ((blk_nw hg BK322.out : gb322 ≠ gb324)); have NB324_322 := Aside0.mk ((nw_blk hg BK322.out : gb324 ≠ gb322)); replace BK322 := Aside0.mk (blk_below (blk_up BK322.out) hb); have NB323_324 := Aside0.mk ((blk_nw hg BK323.out : gb323 ≠ gb324)); have NB324_323 := Aside0.mk ((nw_blk hg BK323.out : gb324 ≠ gb323)); replace BK323 := Aside0.mk (blk_below (blk_up BK323.out) hb); clear hb hbox hg; have hnb9 := NB322_321.out; have hnc9 := NB321_322.out; have hnb10 := NB322_323.out; have hnc10 := NB323_322.out; have hnb11 := NB322_324.out; have hnc11 := NB324_322.out; have hcz12_0 : w8.cell? ⟨gb322, 0, none⟩ = some (.bool a1_0) := (blk_cell BK322.out 0).trans rfl; have hcz12_1 : w8.cell? ⟨gb322, 1, none⟩ = some (.slice A1_1 l1_1.length c1_1) := (blk_cell BK322.out 1).trans rfl; have hfz12_0 := blk_frozen BK322.out 0; have hfz12_1 := blk_frozen BK322.out 1) | ((with_reducible refine gate_callee (f := 19) rfl ?_); refine gl_ (some 10) Tryd.func19 #[.agg #[.bool a1_0, .slice A1_1 l1_1.length c1_1]] ?_; (with_reducible refine (integer_Int_Sign.calls a1_0 _ _ l1_1 t325 _ ?side1 ?side2 A3.out).mono ?_); (case side1 => repeat (first | exact (Kd.C_below HR1_1.out HB.out) | (with_reducible refine Kd.C_alloc ?_ _) | (with_reducible refine Kd.C_drewN ?_ _) | (with_reducible refine Kd.C_drew ?_))); (case side2 => exact HC1_1.out); rintro e w13 ⟨rfl, hb⟩; refine ⟨_, rfl, ?_⟩; replace HO0_1 := Aside0.mk (Kd.V_below (Kd.V_up HO0_1.out) hb); replace BK321 := Aside0.mk (blk_below (blk_up BK321.out) hb); replace BK322 := Aside0.mk (blk_below (blk_up BK322.out) hb); replace BK323 := Aside0.mk (blk_below (blk_up BK323.out) hb); replace BK324 := Aside0.mk (blk_below (blk_up BK324.out) hb); replace HB := Aside0.mk (below_step (by with_reducible repeat first | exact HB.out | apply below_alloc | apply pw_below_drewN | apply below_drew1 | refine below_set ?_ GE321.out | refine below_set ?_ GE322.out | refine below_set ?_ GE323.out | refine below_set ?_ GE324.out) hb); (try clear hb); (try clear hb2); (try clear hk); (try clear hi); have hnb14 := NB323_321.out; have hnc14 := NB321_323.out; have hnb15 := NB323_324.out; have hnc15 := NB324_323.out; have hcz16_0 : w13.cell? ⟨gb323, 0, none⟩ = some (.bool false) := (blk_cell BK323.out 0).trans rfl; have hcz16_1 : w13.cell? ⟨gb323, 1, none⟩ = some (.slice none 0 0) := (blk_cell BK323.out 1).trans rfl; have hfz16_0 := blk_frozen BK323.out 0; have hfz16_1 := blk_frozen BK323.out 1; have hnb17 := NB324_321.out; have hnc17 := NB321_324.out; have hcz18_0 : w13.cell? ⟨gb324, 0, none⟩ = some (.bool false) := (blk_cell BK324.out 0).trans rfl; have hcz18_1 : w13.cell? ⟨gb324, 1, none⟩ = some (.slice none 0 0) := (blk_cell BK324.out 1).trans rfl; have hfz18_0 := blk_frozen BK324.out 0; have hfz18_1 := blk_frozen BK324.out 1))
  refine bodyPost_ret (results_list (rs := [.cell 4 25, .cell 5 25, .tmp 6]) rfl (by simp) (.cell gb323 25 #[.bool false, .slice none 0 0] (0, 0) _ rfl (by refine blk_ups ?_; refine blk_far ?_ NB323_324.out _; refine blk_ups ?_; refine blk_far ?_ NB323_324.out _; refine blk_ups ?_; refine blk_put (cs := #[.bool false, .slice none 0 0]) ?_ 1 _ rfl; refine blk_ups ?_; refine blk_put (cs := #[.bool false, .slice none 0 0]) ?_ 0 _ rfl; exact blk_up BK323.out) Tryd.underlying25 rfl (by kernel_rfl) (.cell gb324 25 #[.bool false, .slice none 0 0] (0, 0) _ rfl (by refine blk_ups ?_; refine blk_put (cs := #[.bool false, .slice none 0 0]) ?_ 1 _ rfl; refine blk_ups ?_; refine blk_put (cs := #[.bool false, .slice none 0 0]) ?_ 0 _ rfl; refine blk_ups ?_; refine blk_far ?_ NB324_323.out _; refine blk_ups ?_; refine blk_far ?_ NB324_323.out _; exact blk_up BK324.out) Tryd.underlying25 rfl (by kernel_rfl) (.tmp .nil)))) rfl ?_
  exact ⟨_, _, by first | rfl | (simp [errW_none, errW_some] <;> rfl) | (simp [*, errW_none, errW_some] <;> rfl), by first | exact Kd.R_nil _ _ _ _ _ | exact Kd.N_nil _ _ _ _ _ | exact Kd.V_nil _ _ _ _ _ | exact Kd.Q_nil _ _ _ _ _ | exact Kd.S_nil _ _ _ _ _, by first | exact Kd.R_nil _ _ _ _ _ | exact Kd.N_nil _ _ _ _ _ | exact Kd.V_nil _ _ _ _ _ | exact Kd.Q_nil _ _ _ _ _ | exact Kd.S_nil _ _ _ _ _, by with_reducible repeat first | exact HB.out | apply below_alloc | apply pw_below_drewN | apply below_drew1 | refine below_set ?_ GE321.out | refine below_set ?_ GE322.out | refine below_set ?_ GE323.out | refine below_set ?_ GE324.out⟩
 ·
  rw [if_neg c4] at H
  have c4b0 : (t325 == 0) = false := beq_eq_false_iff_ne.mpr c4
  have c4b1 : (t325 != 0) = true := bne_iff_ne.mpr c4
  replace H := Option.bind_eq_some_iff.mp H
  obtain ⟨⟨t326, t329⟩, A190, H⟩ := H
  try dsimp only at H
  have A19 := Aside0.mk A190
  clear A190
  replace H := Option.bind_eq_some_iff.mp H
  obtain ⟨⟨t332, t333⟩, A200, H⟩ := H
  try dsimp only at H
  have A20 := Aside0.mk A200
  clear A200
  replace H := Option.bind_eq_some_iff.mp H
  obtain ⟨⟨t336, t337⟩, A210, H⟩ := H
  try dsimp only at H
  have A21 := Aside0.mk A210
  clear A210
  have HC22 := Aside0.mk H
  clear H
  go_enter Tryd.func27, Tryd.ntmps27
  try go_wp2_with (first | ((with_reducible refine gate_dst (N := 2) rfl ?_); refine box_event ?hg (N := 2) ?hd (cs := #[.bool a0_0, .slice A0_1 l0_1.length c0_1]) (t := 25) ?hr ?_; (case hd => rfl); (case hg => rfl); (case hr => first | (go_simp; done) | (go_simp; rfl)); intro gb321 hg w23 hbox hb; replace HO0_1 := Aside0.mk (Kd.V_below (Kd.V_elderB (Kd.V_up HO0_1.out) gb321 (Nat.le_of_eq hg.symm)) hb); have BK321 := Aside0.mk (hbox); have GE321 := Aside0.mk ((size_up hg HB.out : w.heap.size ≤ gb321)); replace HB := Aside0.mk (below_step (below_up HB.out) hb); clear hb hbox hg) | ((with_reducible refine gate_dst (N := 3) rfl ?_); refine box_event ?hg (N := 3) ?hd (cs := #[.bool a1_0, .slice A1_1 l1_1.length c1_1]) (t := 25) ?hr ?_; (case hd => rfl); (case hg => rfl); (case hr => first | (go_simp; done) | (go_simp; rfl)); intro gb322 hg w24 hbox hb; replace HO0_1 := Aside0.mk (Kd.V_below (Kd.V_elderB (Kd.V_up HO0_1.out) gb322 (Nat.le_of_eq hg.symm)) hb); have BK322 := Aside0.mk (hbox); have GE322 := Aside0.mk ((by rw [hg]; exact (below_size (by with_reducible repeat first | exact HB.out | apply below_alloc | apply pw_below_drewN | apply below_drew1 | refine below_set ?_ GE321.out)) : w.heap.size ≤ gb322)); replace HB := Aside0.mk (below_step (by with_reducible repeat first | exact HB.out | apply below_alloc | apply pw_below_drewN | apply below_drew1 | refine below_set ?_ GE321.out) hb); have NB321_322 := Aside0.mk ((blk_nw hg BK321.out : gb321 ≠ gb322)); have NB322_321 := Aside0.mk ((nw_blk hg BK321.out : gb322 ≠ gb321)); replace BK321 := Aside0.mk (blk_below (blk_up BK321.out) hb); clear hb hbox hg) | ((with_reducible refine gate_dst (N := 4) rfl ?_); refine box_event ?hg (N := 4) ?hd (cs := #[.bool false, .slice none 0 0]) (t := 25) ?hr ?_; (case hd => rfl); (case hg => rfl); (case hr => first | (go_simp; done) | (go_simp; rfl)); intro gb323 hg w25 hbox hb; replace HO0_1 := Aside0.mk (Kd.V_below (Kd.V_elderB (Kd.V_up HO0_1.out) gb323 (Nat.le_of_eq hg.symm)) hb); have BK323 := Aside0.mk (hbox); have GE323 := Aside0.mk ((by rw [hg]; exact (below_size (by with_reducible repeat first | exact HB.out | apply below_alloc | apply pw_below_drewN | apply below_drew1 | refine below_set ?_ GE321.out | refine below_set ?_ GE322.out)) : w.heap.size ≤ gb323)); replace HB := Aside0.mk (below_step (by with_reducible repeat first | exact HB.out | apply below_alloc | apply pw_below_drewN | apply below_drew1 | refine below_set ?_ GE321.out | refine below_set ?_ GE322.out) hb); have NB321_323 := Aside0.mk ((blk_nw hg BK321.out : gb321 ≠ gb323)); have NB323_321 := Aside0.mk ((nw_blk hg BK321.out : gb323 ≠ gb321)); replace BK321 := Aside0.mk (blk_below (blk_up BK321.out) hb); have NB322_323 := Aside0.mk ((blk_nw hg BK322.out : gb322 ≠ gb323)); have NB323_322 := Aside0.mk ((nw_blk hg BK322.out : gb323 ≠ gb322)); replace BK322 := Aside0.mk (blk_below (blk_up BK322.out) hb); clear hb hbox hg) | ((with_reducible refine gate_dst (N := 5) rfl ?_); refine box_event ?hg (N := 5) ?hd (cs := #[.bool false, .slice none 0 0]) (t := 25) ?hr ?_; (case hd => rfl); (case hg => rfl); (case hr => first | (go_simp; done) | (go_simp; rfl)); intro gb324 hg w26 hbox hb; replace HO0_1 := Aside0.mk (Kd.V_below (Kd.V_elderB (Kd.V_up HO0_1.out) gb324 (Nat.le_of_eq hg.symm)) hb); have BK324 := Aside0.mk (hbox); have GE324 := Aside0.mk ((by rw [hg]; exact (below_size (by with_reducible repeat first | exact HB.out | apply below_alloc | apply pw_below_drewN | apply below_drew1 | refine below_set ?_ GE321.out | refine below_set ?_ GE322.out | refine below_set ?_ GE323.out)) : w.heap.size ≤ gb324)); replace HB := Aside0.mk (below_step (by with_reducible repeat first | exact HB.out | apply below_alloc | apply pw_below_drewN | apply below_drew1 | refine below_set ?_ GE321.out | refine below_set ?_ GE322.out | refine below_set ?_ GE323.out) hb); have NB321_324 := Aside0.mk ((blk_nw hg BK321.out : gb321 ≠ gb324)); have NB324_321 := Aside0.mk ((nw_blk hg BK321.out : gb324 ≠ gb321)); replace BK321 := Aside0.mk (blk_below (blk_up BK321.out) hb); have NB322_324 := Aside0.mk ((blk_nw hg BK322.out : gb322 ≠ gb324)); have NB324_322 := Aside0.mk ((nw_blk hg BK322.out : gb324 ≠ gb322)); replace BK322 := Aside0.mk (blk_below (blk_up BK322.out) hb); have NB323_324 := Aside0.mk ((blk_nw hg BK323.out : gb323 ≠ gb324)); have NB324_323 := Aside0.mk ((nw_blk hg BK323.out : gb324 ≠ gb323)); replace BK323 := Aside0.mk (blk_below (blk_up BK323.out) hb); clear hb hbox hg; have hnb27 := NB322_321.out; have hnc27 := NB321_322.out; have hnb28 := NB322_323.out; have hnc28 := NB323_322.out; have hnb29 := NB322_324.out; have hnc29 := NB324_322.out; have hcz30_0 : w26.cell? ⟨gb322, 0, none⟩ = some (.bool a1_0) := (blk_cell BK322.out 0).trans rfl; have hcz30_1 : w26.cell? ⟨gb322, 1, none⟩ = some (.slice A1_1 l1_1.length c1_1) := (blk_cell BK322.out 1).trans rfl; have hfz30_0 := blk_frozen BK322.out 0; have hfz30_1 := blk_frozen BK322.out 1) | ((with_reducible refine gate_callee (f := 19) rfl ?_); refine gl_ (some 10) Tryd.func19 #[.agg #[.bool a1_0, .slice A1_1 l1_1.length c1_1]] ?_; (with_reducible refine (integer_Int_Sign.calls a1_0 _ _ l1_1 t325 _ ?side1 ?side2 A3.out).mono ?_); (case side1 => repeat (first | exact (Kd.C_below HR1_1.out HB.out) | (with_reducible refine Kd.C_alloc ?_ _) | (with_reducible refine Kd.C_drewN ?_ _) | (with_reducible refine Kd.C_drew ?_))); (case side2 => exact HC1_1.out); rintro e w31 ⟨rfl, hb⟩; refine ⟨_, rfl, ?_⟩; replace HO0_1 := Aside0.mk (Kd.V_below (Kd.V_up HO0_1.out) hb); replace BK321 := Aside0.mk (blk_below (blk_up BK321.out) hb); replace BK322 := Aside0.mk (blk_below (blk_up BK322.out) hb); replace BK323 := Aside0.mk (blk_below (blk_up BK323.out) hb); replace BK324 := Aside0.mk (blk_below (blk_up BK324.out) hb); replace HB := Aside0.mk (below_step (by with_reducible repeat first | exact HB.out | apply below_alloc | apply pw_below_drewN | apply below_drew1 | refine below_set ?_ GE321.out | refine below_set ?_ GE322.out | refine below_set ?_ GE323.out | refine below_set ?_ GE324.out) hb); (try clear hb); (try clear hb2); (try clear hk); (try clear hi); have hnb32 := NB321_323.out; have hnc32 := NB323_321.out; have hnb33 := NB321_324.out; have hnc33 := NB324_321.out; have hcz34_0 : w31.cell? ⟨gb321, 0, none⟩ = some (.bool a0_0) := (blk_cell BK321.out 0).trans rfl; have hcz34_1 : w31.cell? ⟨gb321, 1, none⟩ = some (.slice A0_1 l0_1.length c0_1) := (blk_cell BK321.out 1).trans rfl; have hfz34_0 := blk_frozen BK321.out 0; have hfz34_1 := blk_frozen BK321.out 1; have hcz35_0 : w31.cell? ⟨gb322, 0, none⟩ = some (.bool a1_0) := (blk_cell BK322.out 0).trans rfl; have hcz35_1 : w31.cell? ⟨gb322, 1, none⟩ = some (.slice A1_1 l1_1.length c1_1) := (blk_cell BK322.out 1).trans rfl; have hfz35_0 := blk_frozen BK322.out 0; have hfz35_1 := blk_frozen BK322.out 1) | ((with_reducible refine gate_callee (f := 59) rfl ?_); refine gl_ (some 19) Tryd.func59 #[.slice A0_1 l0_1.length c0_1, .slice A1_1 l1_1.length c1_1] ?_; (with_reducible refine (integer_divide.calls k (fun k_ => (((((P0_1_ k_ ∨ w.heap.size ≤ k_) ∧ k_ ≠ gb321) ∧ k_ ≠ gb322) ∧ k_ ≠ gb323) ∧ k_ ≠ gb324)) _ _ l0_1 _ _ l1_1 t326 t329 _ ?side1 ?side2 ?side3 A19.out).mono ?_); (case side1 => exact HO0_1.out); (case side2 => repeat (first | exact (Kd.C_below HR1_1.out HB.out) | (with_reducible refine Kd.C_alloc ?_ _) | (with_reducible refine Kd.C_drewN ?_ _) | (with_reducible refine Kd.C_drew ?_))); (case side3 => exact HC1_1.out); rintro e w36 ⟨v327, v330, rfl, ho0, ho1, hb⟩; refine ⟨_, rfl, ?_⟩; replace HO0_1 := Aside0.mk (Kd.V_below (Kd.V_up HO0_1.out) hb); have HO328 := Aside0.mk (Kd.V_lower (Kd.V_mono (ok' := fun k_ => (P0_1_ k_ ∨ w.heap.size ≤ k_) ∧ k_ ≠ gb321 ∧ k_ ≠ gb322 ∧ k_ ≠ gb323 ∧ k_ ≠ gb324) ho0 (fun k_ hk_ => ⟨Or.elim hk_ (fun hs_ => hs_.1.1.1.1) (fun hn_ => (.inr (Nat.le_trans (below_size (by with_reducible repeat first | exact HB.out | apply below_alloc | apply pw_below_drewN | apply below_drew1 | refine below_set ?_ GE321.out | refine below_set ?_ GE322.out | refine below_set ?_ GE323.out | refine below_set ?_ GE324.out)) hn_))), Or.elim hk_ (fun hs_ => hs_.1.1.1.2) (fun hn_ => (Kd.freshB (g := gb321) (o := .cells #[.bool a0_0, .slice A0_1 l0_1.length c0_1] 25 (0, 0)) (blk_up BK321.out) k_ hn_)), Or.elim hk_ (fun hs_ => hs_.1.1.2) (fun hn_ => (Kd.freshB (g := gb322) (o := .cells #[.bool a1_0, .slice A1_1 l1_1.length c1_1] 25 (0, 0)) (blk_up BK322.out) k_ hn_)), Or.elim hk_ (fun hs_ => hs_.1.2) (fun hn_ => (Kd.freshB (g := gb323) (o := .cells #[.bool false, .slice none 0 0] 25 (0, 0)) (blk_up BK323.out) k_ hn_)), Or.elim hk_ (fun hs_ => hs_.2) (fun hn_ => (Kd.freshB (g := gb324) (o := .cells #[.bool false, .slice none 0 0] 25 (0, 0)) (blk_up BK324.out) k_ hn_))⟩)) (below_size (by with_reducible repeat first | exact HB.out | apply below_alloc | apply pw_below_drewN | apply below_drew1 | refine below_set ?_ GE321.out | refine below_set ?_ GE322.out | refine below_set ?_ GE323.out | refine below_set ?_ GE324.out))); have HO331 := Aside0.mk (Kd.V_lower (Kd.V_mono (ok' := fun k_ => (P0_1_ k_ ∨ w.heap.size ≤ k_) ∧ k_ ≠ gb321 ∧ k_ ≠ gb322 ∧ k_ ≠ gb323 ∧ k_ ≠ gb324) ho1 (fun k_ hk_ => ⟨Or.elim hk_ (fun hs_ => hs_.1.1.1.1) (fun hn_ => (.inr (Nat.le_trans (below_size (by with_reducible repeat first | exact HB.out | apply below_alloc | apply pw_below_drewN | apply below_drew1 | refine below_set ?_ GE321.out | refine below_set ?_ GE322.out | refine below_set ?_ GE323.out | refine below_set ?_ GE324.out)) hn_))), Or.elim hk_ (fun hs_ => hs_.1.1.1.2) (fun hn_ => (Kd.freshB (g := gb321) (o := .cells #[.bool a0_0, .slice A0_1 l0_1.length c0_1] 25 (0, 0)) (blk_up BK321.out) k_ hn_)), Or.elim hk_ (fun hs_ => hs_.1.1.2) (fun hn_ => (Kd.freshB (g := gb322) (o := .cells #[.bool a1_0, .slice A1_1 l1_1.length c1_1] 25 (0, 0)) (blk_up BK322.out) k_ hn_)), Or.elim hk_ (fun hs_ => hs_.1.2) (fun hn_ => (Kd.freshB (g := gb323) (o := .cells #[.bool false, .slice none 0 0] 25 (0, 0)) (blk_up BK323.out) k_ hn_)), Or.elim hk_ (fun hs_ => hs_.2) (fun hn_ => (Kd.freshB (g := gb324) (o := .cells #[.bool false, .slice none 0 0] 25 (0, 0)) (blk_up BK324.out) k_ hn_))⟩)) (below_size (by with_reducible repeat first | exact HB.out | apply below_alloc | apply pw_below_drewN | apply below_drew1 | refine below_set ?_ GE321.out | refine below_set ?_ GE322.out | refine below_set ?_ GE323.out | refine below_set ?_ GE324.out))); replace BK321 := Aside0.mk (blk_below (blk_up BK321.out) hb); replace BK322 := Aside0.mk (blk_below (blk_up BK322.out) hb); replace BK323 := Aside0.mk (blk_below (blk_up BK323.out) hb); replace BK324 := Aside0.mk (blk_below (blk_up BK324.out) hb); replace HB := Aside0.mk (below_step (by with_reducible repeat first | exact HB.out | apply below_alloc | apply pw_below_drewN | apply below_drew1 | refine below_set ?_ GE321.out | refine below_set ?_ GE322.out | refine below_set ?_ GE323.out | refine below_set ?_ GE324.out) hb); (try clear hb); (try clear hb2); (try clear hk); (try clear hi); (try clear ho0); (try clear ho1)))
  replace HO0_1 := Aside0.mk (Kd.V_drew HO0_1.out)
  replace HO328 := Aside0.mk (Kd.V_drew HO328.out)
  replace HO331 := Aside0.mk (Kd.V_drew HO331.out)
  replace BK321 := Aside0.mk (blk_drew BK321.out)
  replace BK322 := Aside0.mk (blk_drew BK322.out)
  replace BK323 := Aside0.mk (blk_drew BK323.out)
  replace BK324 := Aside0.mk (blk_drew BK324.out)
  replace HB := Aside0.mk (below_drew1 HB.out)
  obtain ⟨Ao38, co38, eo38⟩ := Kd.V_slice HO328.out
  (first | subst eo38 | (injection eo38 with f1_ f2_ f3_; have f4_ := f1_.symm; have f5_ := f3_.symm; clear f1_ f2_ f3_; subst f4_; subst f5_))
  refine start_ (n := 13) (S := fun w' => w'.cell? ⟨gb321, 0, none⟩ = some (.bool a0_0) ∧ w'.cell? ⟨gb321, 1, none⟩ = some (.slice A0_1 l0_1.length c0_1) ∧ w'.cell? ⟨gb322, 0, none⟩ = some (.bool a1_0) ∧ w'.cell? ⟨gb322, 1, none⟩ = some (.slice A1_1 l1_1.length c1_1)) (ds := []) #[false, false, false, false, false, false, false, false, false, false, false, false, false] (by kernel_rfl) rfl rfl ⟨(blk_cell BK321.out 0).trans rfl, (blk_cell BK321.out 1).trans rfl, (blk_cell BK322.out 0).trans rfl, (blk_cell BK322.out 1).trans rfl⟩ (fun hHeld => ?_); refine with_tabW integer_DivMod.tab4 integer_DivMod.bits4 (fun HT_ HW_ => ?_)
  generalize w36.drew = w37 at HO0_1 HO328 HO331 BK321 BK322 BK323 BK324 HB hHeld ⊢
  refine pu_ 0 (some 22) (bs 1 12) HT_.out ?_
  refine pu_ 2 (some 24) #[true, false, true, false, false, false, false, false, false, false, false, false, false] HT_.out ?_
  refine pu_ 5 (some 27) #[true, false, true, false, false, true, false, false, false, false, false, false, false] HT_.out ?_
  refine pu_ 7 (some 29) #[true, false, true, false, false, true, false, true, false, false, false, false, false] HT_.out ?_
  refine pu_ 9 (some 31) #[true, false, true, false, false, true, false, true, false, true, false, false, false] HT_.out ?_
  refine take_ (i := 1) (N := some 23) (v := ?_) (a' := ?_) #[true, true, true, false, false, true, false, true, false, true, false, false, false] rfl rfl (take_ofW HT_.out HW_.out (by kernel_rfl)) (fun _ _ _ h => h) (Or.inl ⟨by rfl, ?_⟩) hHeld ?_ ?_
  rotate_left
  ·
   rintro w' ⟨s0, s1, s2, s3⟩
   go_simp
   with_reducible rfl
  rotate_left
  ·
   simp only [Act.put, List.setIfInBounds_toArray, List.set_cons_zero, List.set_cons_succ, i64_w, i32_w]
   rfl
  refine take_ (i := 3) (N := some 25) (v := ?_) (a' := ?_) #[true, true, true, true, false, true, false, true, false, true, false, false, false] rfl rfl (take_ofW HT_.out HW_.out (by kernel_rfl)) (fun _ _ _ h => h) (Or.inl ⟨by rfl, ?_⟩) hHeld ?_ ?_
  rotate_left
  ·
   rintro w' ⟨s0, s1, s2, s3⟩
   go_simp
   with_reducible rfl
  rotate_left
  ·
   simp only [Act.put, List.setIfInBounds_toArray, List.set_cons_zero, List.set_cons_succ, i64_w, i32_w]
   rfl
  refine pu_ 4 (some 26) #[true, true, true, true, true, true, false, true, false, true, false, false, false] HT_.out ?_
  refine take_ (i := 8) (N := some 30) (v := ?_) (a' := ?_) #[true, true, true, true, true, true, false, true, true, true, false, false, false] rfl rfl (take_ofW HT_.out HW_.out (by kernel_rfl)) (fun _ _ _ h => h) (Or.inl ⟨by rfl, ?_⟩) hHeld ?_ ?_
  rotate_left
  ·
   rintro w' ⟨s0, s1, s2, s3⟩
   go_simp
   with_reducible rfl
  rotate_left
  ·
   simp only [Act.put, List.setIfInBounds_toArray, List.set_cons_zero, List.set_cons_succ, i64_w, i32_w]
   rfl
  refine one_ (i := 6) (N := some 28) #[true, true, true, true, true, true, true, true, true, true, false, false, false] rfl rfl (one_of HT_.out (by kernel_rfl)) (by decide) (fun K hK => ?_)
  refine goes_ Tryd.func45 (by kernel_rfl) rfl #[.bool (a0_0 != a1_0), .slice Ao38 t326.length co38] (by rfl) rfl rfl (by (try simp only [List.map_toArray, List.map_cons, List.map_nil]); first | done | rfl | (simp only [List.length_drop, List.length_take]; rfl)) ?_
  with_reducible refine (integer_signed.calls k (a0_0 != a1_0) (fun k_ => ((P0_1_ k_ ∨ w.heap.size ≤ k_) ∧ (k_ ≠ gb321 ∧ (k_ ≠ gb322 ∧ (k_ ≠ gb323 ∧ k_ ≠ gb324))))) _ _ t326 t332 t333 _ ?side1 A20.out).mono ?_
  (case side1 => exact HO328.out)
  rintro e w39 ⟨v334, rfl, ho0, hb⟩
  refine ⟨_, rfl, ?_⟩
  replace HO0_1 := Aside0.mk (Kd.V_below (Kd.V_up HO0_1.out) hb)
  replace HO331 := Aside0.mk (Kd.V_below (Kd.V_up HO331.out) hb)
  have HO335 := Aside0.mk (Kd.V_lower (Kd.V_mono (ok' := fun k_ => (P0_1_ k_ ∨ w.heap.size ≤ k_) ∧ k_ ≠ gb321 ∧ k_ ≠ gb322 ∧ k_ ≠ gb323 ∧ k_ ≠ gb324) ho0 (fun k_ hk_ => ⟨Or.elim hk_ (fun hs_ => hs_.1) (fun hn_ => (.inr (Nat.le_trans (below_size (by with_reducible repeat first | exact HB.out | apply below_alloc | apply pw_below_drewN | apply below_drew1 | refine below_set ?_ GE321.out | refine below_set ?_ GE322.out | refine below_set ?_ GE323.out | refine below_set ?_ GE324.out)) hn_))), Or.elim hk_ (fun hs_ => hs_.2.1) (fun hn_ => (Kd.freshB (g := gb321) (o := .cells #[.bool a0_0, .slice A0_1 l0_1.length c0_1] 25 (0, 0)) (blk_up BK321.out) k_ hn_)), Or.elim hk_ (fun hs_ => hs_.2.2.1) (fun hn_ => (Kd.freshB (g := gb322) (o := .cells #[.bool a1_0, .slice A1_1 l1_1.length c1_1] 25 (0, 0)) (blk_up BK322.out) k_ hn_)), Or.elim hk_ (fun hs_ => hs_.2.2.2.1) (fun hn_ => (Kd.freshB (g := gb323) (o := .cells #[.bool false, .slice none 0 0] 25 (0, 0)) (blk_up BK323.out) k_ hn_)), Or.elim hk_ (fun hs_ => hs_.2.2.2.2) (fun hn_ => (Kd.freshB (g := gb324) (o := .cells #[.bool false, .slice none 0 0] 25 (0, 0)) (blk_up BK324.out) k_ hn_))⟩)) (below_size (by with_reducible repeat first | exact HB.out | apply below_alloc | apply pw_below_drewN | apply below_drew1 | refine below_set ?_ GE321.out | refine below_set ?_ GE322.out | refine below_set ?_ GE323.out | refine below_set ?_ GE324.out)))
  replace BK321 := Aside0.mk (blk_below (blk_up BK321.out) hb)
  replace BK322 := Aside0.mk (blk_below (blk_up BK322.out) hb)
  replace BK323 := Aside0.mk (blk_below (blk_up BK323.out) hb)
  replace BK324 := Aside0.mk (blk_below (blk_up BK324.out) hb)
  replace HB := Aside0.mk (below_step (by with_reducible repeat first | exact HB.out | apply below_alloc | apply pw_below_drewN | apply below_drew1 | refine below_set ?_ GE321.out | refine below_set ?_ GE322.out | refine below_set ?_ GE323.out | refine below_set ?_ GE324.out) hb)
  (try clear HO328)
  (try clear hb)
  (try clear hb2)
  (try clear hk)
  (try clear hi)
  (try clear ho0)
  obtain ⟨Ao40, co40, eo40⟩ := Kd.V_slice HO331.out
  (first | subst eo40 | (injection eo40 with f1_ f2_ f3_; have f4_ := f1_.symm; have f5_ := f3_.symm; clear f1_ f2_ f3_; subst f4_; subst f5_))
  refine hK.out _ _ ⟨(blk_cell BK321.out 0).trans rfl, (blk_cell BK321.out 1).trans rfl, (blk_cell BK322.out 0).trans rfl, (blk_cell BK322.out 1).trans rfl⟩ (fun hHeld => ?_)
  clear hK K
  refine norm_ (a' := ?_) ?_ ?_
  rotate_left
  ·
   show Act.put _ (some 28) _ = _
   simp only [Act.put, List.setIfInBounds_toArray, List.set_cons_zero, List.set_cons_succ, i64_w, i32_w]
   rfl
  refine one_ (i := 10) (N := some 32) #[true, true, true, true, true, true, true, true, true, true, true, false, false] rfl rfl (one_of HT_.out (by kernel_rfl)) (by decide) (fun K hK => ?_)
  refine goes_ Tryd.func45 (by kernel_rfl) rfl #[.bool a0_0, .slice Ao40 t329.length co40] (by rfl) rfl rfl (by (try simp only [List.map_toArray, List.map_cons, List.map_nil]); first | done | rfl | (simp only [List.length_drop, List.length_take]; rfl)) ?_
  with_reducible refine (integer_signed.calls k a0_0 (fun k_ => ((P0_1_ k_ ∨ w.heap.size ≤ k_) ∧ (k_ ≠ gb321 ∧ (k_ ≠ gb322 ∧ (k_ ≠ gb323 ∧ k_ ≠ gb324))))) _ _ t329 t336 t337 _ ?side1 A21.out).mono ?_
  (case side1 => exact HO331.out)
  rintro e w41 ⟨v338, rfl, ho0, hb⟩
  refine ⟨_, rfl, ?_⟩
  replace HO0_1 := Aside0.mk (Kd.V_below (Kd.V_up HO0_1.out) hb)
  replace HO335 := Aside0.mk (Kd.V_below (Kd.V_up HO335.out) hb)
  have HO339 := Aside0.mk (Kd.V_lower (Kd.V_mono (ok' := fun k_ => (P0_1_ k_ ∨ w.heap.size ≤ k_) ∧ k_ ≠ gb321 ∧ k_ ≠ gb322 ∧ k_ ≠ gb323 ∧ k_ ≠ gb324) ho0 (fun k_ hk_ => ⟨Or.elim hk_ (fun hs_ => hs_.1) (fun hn_ => (.inr (Nat.le_trans (below_size (by with_reducible repeat first | exact HB.out | apply below_alloc | apply pw_below_drewN | apply below_drew1 | refine below_set ?_ GE321.out | refine below_set ?_ GE322.out | refine below_set ?_ GE323.out | refine below_set ?_ GE324.out)) hn_))), Or.elim hk_ (fun hs_ => hs_.2.1) (fun hn_ => (Kd.freshB (g := gb321) (o := .cells #[.bool a0_0, .slice A0_1 l0_1.length c0_1] 25 (0, 0)) (blk_up BK321.out) k_ hn_)), Or.elim hk_ (fun hs_ => hs_.2.2.1) (fun hn_ => (Kd.freshB (g := gb322) (o := .cells #[.bool a1_0, .slice A1_1 l1_1.length c1_1] 25 (0, 0)) (blk_up BK322.out) k_ hn_)), Or.elim hk_ (fun hs_ => hs_.2.2.2.1) (fun hn_ => (Kd.freshB (g := gb323) (o := .cells #[.bool false, .slice none 0 0] 25 (0, 0)) (blk_up BK323.out) k_ hn_)), Or.elim hk_ (fun hs_ => hs_.2.2.2.2) (fun hn_ => (Kd.freshB (g := gb324) (o := .cells #[.bool false, .slice none 0 0] 25 (0, 0)) (blk_up BK324.out) k_ hn_))⟩)) (below_size (by with_reducible repeat first | exact HB.out | apply below_alloc | apply pw_below_drewN | apply below_drew1 | refine below_set ?_ GE321.out | refine below_set ?_ GE322.out | refine below_set ?_ GE323.out | refine below_set ?_ GE324.out)))
  replace BK321 := Aside0.mk (blk_below (blk_up BK321.out) hb)
  replace BK322 := Aside0.mk (blk_below (blk_up BK322.out) hb)
  replace BK323 := Aside0.mk (blk_below (blk_up BK323.out) hb)
  replace BK324 := Aside0.mk (blk_below (blk_up BK324.out) hb)
  replace HB := Aside0.mk (below_step (by with_reducible repeat first | exact HB.out | apply below_alloc | apply pw_below_drewN | apply below_drew1 | refine below_set ?_ GE321.out | refine below_set ?_ GE322.out | refine below_set ?_ GE323.out | refine below_set ?_ GE324.out) hb)
  (try clear HO331)
  (try clear hb)
  (try clear hb2)
  (try clear hk)
  (try clear hi)
  (try clear ho0)
  obtain ⟨Ao43, co43, eo43⟩ := Kd.V_slice HO335.out
  (first | subst eo43 | (injection eo43 with f1_ f2_ f3_; have f4_ := f1_.symm; have f5_ := f3_.symm; clear f1_ f2_ f3_; subst f4_; subst f5_))
  obtain ⟨Ao46, co46, eo46⟩ := Kd.V_slice HO339.out
  (first | subst eo46 | (injection eo46 with f1_ f2_ f3_; have f4_ := f1_.symm; have f5_ := f3_.symm; clear f1_ f2_ f3_; subst f4_; subst f5_))
  refine hK.out _ _ ⟨(blk_cell BK321.out 0).trans rfl, (blk_cell BK321.out 1).trans rfl, (blk_cell BK322.out 0).trans rfl, (blk_cell BK322.out 1).trans rfl⟩ (fun hHeld => ?_)
  clear hK K
  refine norm_ (a' := ?_) ?_ ?_
  rotate_left
  ·
   show Act.put _ (some 32) _ = _
   simp only [Act.put, List.setIfInBounds_toArray, List.set_cons_zero, List.set_cons_succ, i64_w, i32_w]
   rfl
  refine one_ (i := 11) (N := none) #[true, true, true, true, true, true, true, true, true, true, true, true, false] rfl rfl (one_of HT_.out (by kernel_rfl)) (by decide) (fun K hK => ?_)
  have hs42 : w41.cell? ⟨gb323, 0, none⟩ = some (.bool false) := (blk_cell BK323.out 0).trans rfl
  have hfs42 := blk_frozen BK323.out 0
  have hns42_0 := NB321_323.out
  have hns42_1 := NB322_323.out
  have hns42_3 := NB324_323.out
  have hms42_0 := NB323_321.out
  have hms42_1 := NB323_322.out
  have hms42_3 := NB323_324.out
  have hs44 : w41.cell? ⟨gb323, 1, none⟩ = some (.slice none 0 0) := (blk_cell BK323.out 1).trans rfl
  have hfs44 := blk_frozen BK323.out 1
  have hns44_0 := NB321_323.out
  have hns44_1 := NB322_323.out
  have hns44_3 := NB324_323.out
  have hms44_0 := NB323_321.out
  have hms44_1 := NB323_322.out
  have hms44_3 := NB323_324.out
  refine skip_ (w1 := ?_) (by rfl) rfl ?_ ?_
  rotate_left
  ·
   go_simp
   rfl
  refine hK.out _ _ ⟨((cell_far (p := ⟨gb323, _, none⟩) NB321_323.out _).trans (((cell_far (p := ⟨gb323, _, none⟩) NB321_323.out _).trans (hHeld.1)))), ((cell_far (p := ⟨gb323, _, none⟩) NB321_323.out _).trans (((cell_far (p := ⟨gb323, _, none⟩) NB321_323.out _).trans (hHeld.2.1)))), ((cell_far (p := ⟨gb323, _, none⟩) NB322_323.out _).trans (((cell_far (p := ⟨gb323, _, none⟩) NB322_323.out _).trans (hHeld.2.2.1)))), ((cell_far (p := ⟨gb323, _, none⟩) NB322_323.out _).trans (((cell_far (p := ⟨gb323, _, none⟩) NB322_323.out _).trans (hHeld.2.2.2))))⟩ (fun hHeld => ?_)
  clear hK K
  refine one_ (i := 12) (N := none) #[true, true, true, true, true, true, true, true, true, true, true, true, true] rfl rfl (one_of HT_.out (by kernel_rfl)) (by decide) (fun K hK => ?_)
  have hs45 : w41.cell? ⟨gb324, 0, none⟩ = some (.bool false) := (blk_cell BK324.out 0).trans rfl
  have hfs45 := blk_frozen BK324.out 0
  have hns45_0 := NB321_324.out
  have hns45_1 := NB322_324.out
  have hns45_2 := NB323_324.out
  have hms45_0 := NB324_321.out
  have hms45_1 := NB324_322.out
  have hms45_2 := NB324_323.out
  have hs47 : w41.cell? ⟨gb324, 1, none⟩ = some (.slice none 0 0) := (blk_cell BK324.out 1).trans rfl
  have hfs47 := blk_frozen BK324.out 1
  have hns47_0 := NB321_324.out
  have hns47_1 := NB322_324.out
  have hns47_2 := NB323_324.out
  have hms47_0 := NB324_321.out
  have hms47_1 := NB324_322.out
  have hms47_2 := NB324_323.out
  refine skip_ (w1 := ?_) (by rfl) rfl ?_ ?_
  rotate_left
  ·
   go_simp
   rfl
  refine hK.out _ _ ⟨((cell_far (p := ⟨gb324, _, none⟩) NB321_324.out _).trans (((cell_far (p := ⟨gb324, _, none⟩) NB321_324.out _).trans (hHeld.1)))), ((cell_far (p := ⟨gb324, _, none⟩) NB321_324.out _).trans (((cell_far (p := ⟨gb324, _, none⟩) NB321_324.out _).trans (hHeld.2.1)))), ((cell_far (p := ⟨gb324, _, none⟩) NB322_324.out _).trans (((cell_far (p := ⟨gb324, _, none⟩) NB322_324.out _).trans (hHeld.2.2.1)))), ((cell_far (p := ⟨gb324, _, none⟩) NB322_324.out _).trans (((cell_far (p := ⟨gb324, _, none⟩) NB322_324.out _).trans (hHeld.2.2.2))))⟩ (fun hHeld => ?_)
  clear hK K
  refine done_ (done_of HT_.out (by kernel_rfl)) ?_
  go_upto_region 5 with (fail)
  go_cut [42] (fun v42 wc => ∃ (kq : Nat) (x42_21 : Bool), v42 = .bool x42_21 ∧ Aside0 (integer_DivMod.j0 kq x42_21 a1_0 l1_1 t332 t333 t336 t337 = some (r1, r2, r3, r4, r5)) ∧ Aside0 (kq ≤ k) ∧ Aside0 (Kd.V (Kd.int .u32) 60 wc w.heap.size (fun k_ => (P0_1_ k_ ∨ w.heap.size ≤ k_) ∧ k_ ≠ gb321 ∧ k_ ≠ gb322 ∧ k_ ≠ gb323 ∧ k_ ≠ gb324) (.slice A0_1 l0_1.length c0_1) l0_1) ∧ Aside0 (Kd.V (Kd.int .u32) 60 wc w.heap.size (fun k_ => (P0_1_ k_ ∨ w.heap.size ≤ k_) ∧ k_ ≠ gb321 ∧ k_ ≠ gb322 ∧ k_ ≠ gb323 ∧ k_ ≠ gb324) (.slice Ao43 t333.length co43) t333) ∧ Aside0 (Kd.V (Kd.int .u32) 60 wc w.heap.size (fun k_ => (P0_1_ k_ ∨ w.heap.size ≤ k_) ∧ k_ ≠ gb321 ∧ k_ ≠ gb322 ∧ k_ ≠ gb323 ∧ k_ ≠ gb324) (.slice Ao46 t337.length co46) t337) ∧ Aside0 (wc.heap[gb321]? = some (.cells #[.bool a0_0, (.slice A0_1 l0_1.length c0_1)] 25 (0, 0))) ∧ Aside0 (wc.heap[gb322]? = some (.cells #[.bool a1_0, (.slice A1_1 l1_1.length c1_1)] 25 (0, 0))) ∧ Aside0 (wc.heap[gb323]? = some (.cells #[.bool t332, (.slice Ao43 t333.length co43)] 25 (0, 0))) ∧ Aside0 (wc.heap[gb324]? = some (.cells #[.bool t336, (.slice Ao46 t337.length co46)] 25 (0, 0))) ∧ Aside0 (Below w.heap.size w wc))
  case first =>
   have H := HC22.out
   clear HC22
   replace H := Option.bind_eq_some_iff.mp H
   obtain ⟨t340, A480, H⟩ := H
   try dsimp only at H
   have A48 := Aside0.mk A480
   clear A480
   by_cases c49 : t340 = 0
   ·
    rw [if_pos c49] at H
    have c49b0 : (t340 == 0) = true := beq_iff_eq.mpr c49
    have c49b1 : (t340 != 0) = false := bne_eq_false_iff_eq.mpr c49
    clear c49
    (first | rw [c49b0] | (simp only [i64_w, i32_w]; rw [c49b0]) | skip)
    have H' := Aside0.mk H
    clear H
    have hnb50 := NB324_321.out
    have hnc50 := NB321_324.out
    have hnb51 := NB324_322.out
    have hnc51 := NB322_324.out
    have hnb52 := NB324_323.out
    have hnc52 := NB323_324.out
    have hcz53_0 : w41.cell? ⟨gb324, 0, none⟩ = some (.bool false) := (blk_cell BK324.out 0).trans rfl
    have hcz53_1 : w41.cell? ⟨gb324, 1, none⟩ = some (.slice none 0 0) := (blk_cell BK324.out 1).trans rfl
    have hfz53_0 := blk_frozen BK324.out 0
    have hfz53_1 := blk_frozen BK324.out 1
    go_wp2_with (first | ((with_reducible refine gate_callee (f := 19) rfl ?_); refine gl_ (some 34) Tryd.func19 #[.agg #[.bool t336, .slice Ao46 t337.length co46]] ?_; (with_reducible refine (integer_Int_Sign.calls t336 _ _ t337 t340 _ ?side1 ?side2 A48.out).mono ?_); (case side1 => refine (Kd.V_reads' (e := 60) (base := w.heap.size) (ok := fun k_ => ((P0_1_ k_ ∨ w.heap.size ≤ k_) ∧ (k_ ≠ gb321 ∧ (k_ ≠ gb322 ∧ (k_ ≠ gb323 ∧ k_ ≠ gb324))))) (n := t337.length) (c := co46) ?_).2.2; exact (Kd.V_up ((Kd.V_mono (Kd.V_mono (Kd.V_far (p := ⟨gb324, 1, none⟩) (Kd.V_far (p := ⟨gb324, 0, none⟩) (Kd.V_far (p := ⟨gb323, 1, none⟩) (Kd.V_far (p := ⟨gb323, 0, none⟩) (Kd.V_mono (Kd.V_mono HO339.out (fun k_ hk => (⟨hk, hk.2.2.2.1⟩ : _ ∧ k_ ≠ gb323))) (fun k_ hk => (⟨hk, hk.1.2.2.2.2⟩ : _ ∧ k_ ≠ gb324))) (fun _ hk => hk.1.2) (.bool t332)) (fun _ hk => hk.1.2) (.slice Ao43 t333.length co43)) (fun _ hk => hk.2) (.bool t336)) (fun _ hk => hk.2) (.slice Ao46 t337.length co46)) (fun _ h_ => h_.1)) (fun _ h_ => h_.1))))); (case side2 => exact (Kd.V_reads' HO339.out).2.1); rintro e w54 ⟨rfl, hb⟩; refine ⟨_, rfl, ?_⟩; replace HO0_1 := Aside0.mk (Kd.V_below (Kd.V_up ((Kd.V_mono (Kd.V_mono (Kd.V_far (p := ⟨gb324, 1, none⟩) (Kd.V_far (p := ⟨gb324, 0, none⟩) (Kd.V_far (p := ⟨gb323, 1, none⟩) (Kd.V_far (p := ⟨gb323, 0, none⟩) (Kd.V_mono (Kd.V_mono HO0_1.out (fun k_ hk => (⟨hk, hk.1.2⟩ : _ ∧ k_ ≠ gb323))) (fun k_ hk => (⟨hk, hk.1.2⟩ : _ ∧ k_ ≠ gb324))) (fun _ hk => hk.1.2) (.bool t332)) (fun _ hk => hk.1.2) (.slice Ao43 t333.length co43)) (fun _ hk => hk.2) (.bool t336)) (fun _ hk => hk.2) (.slice Ao46 t337.length co46)) (fun _ h_ => h_.1)) (fun _ h_ => h_.1)))) hb); replace HO335 := Aside0.mk (Kd.V_below (Kd.V_up ((Kd.V_mono (Kd.V_mono (Kd.V_far (p := ⟨gb324, 1, none⟩) (Kd.V_far (p := ⟨gb324, 0, none⟩) (Kd.V_far (p := ⟨gb323, 1, none⟩) (Kd.V_far (p := ⟨gb323, 0, none⟩) (Kd.V_mono (Kd.V_mono HO335.out (fun k_ hk => (⟨hk, hk.2.2.2.1⟩ : _ ∧ k_ ≠ gb323))) (fun k_ hk => (⟨hk, hk.1.2.2.2.2⟩ : _ ∧ k_ ≠ gb324))) (fun _ hk => hk.1.2) (.bool t332)) (fun _ hk => hk.1.2) (.slice Ao43 t333.length co43)) (fun _ hk => hk.2) (.bool t336)) (fun _ hk => hk.2) (.slice Ao46 t337.length co46)) (fun _ h_ => h_.1)) (fun _ h_ => h_.1)))) hb); replace HO339 := Aside0.mk (Kd.V_below (Kd.V_up ((Kd.V_mono (Kd.V_mono (Kd.V_far (p := ⟨gb324, 1, none⟩) (Kd.V_far (p := ⟨gb324, 0, none⟩) (Kd.V_far (p := ⟨gb323, 1, none⟩) (Kd.V_far (p := ⟨gb323, 0, none⟩) (Kd.V_mono (Kd.V_mono HO339.out (fun k_ hk => (⟨hk, hk.2.2.2.1⟩ : _ ∧ k_ ≠ gb323))) (fun k_ hk => (⟨hk, hk.1.2.2.2.2⟩ : _ ∧ k_ ≠ gb324))) (fun _ hk => hk.1.2) (.bool t332)) (fun _ hk => hk.1.2) (.slice Ao43 t333.length co43)) (fun _ hk => hk.2) (.bool t336)) (fun _ hk => hk.2) (.slice Ao46 t337.length co46)) (fun _ h_ => h_.1)) (fun _ h_ => h_.1)))) hb); replace BK321 := Aside0.mk (blk_below (g := gb321) (o := .cells #[.bool a0_0, .slice A0_1 l0_1.length c0_1] 25 (0, 0)) (by refine blk_ups ?_; refine blk_far ?_ NB321_324.out _; refine blk_ups ?_; refine blk_far ?_ NB321_324.out _; refine blk_ups ?_; refine blk_far ?_ NB321_323.out _; refine blk_ups ?_; refine blk_far ?_ NB321_323.out _; exact blk_up BK321.out) hb); replace BK322 := Aside0.mk (blk_below (g := gb322) (o := .cells #[.bool a1_0, .slice A1_1 l1_1.length c1_1] 25 (0, 0)) (by refine blk_ups ?_; refine blk_far ?_ NB322_324.out _; refine blk_ups ?_; refine blk_far ?_ NB322_324.out _; refine blk_ups ?_; refine blk_far ?_ NB322_323.out _; refine blk_ups ?_; refine blk_far ?_ NB322_323.out _; exact blk_up BK322.out) hb); replace BK323 := Aside0.mk (blk_below (g := gb323) (o := .cells #[.bool t332, .slice Ao43 t333.length co43] 25 (0, 0)) (by refine blk_ups ?_; refine blk_far ?_ NB323_324.out _; refine blk_ups ?_; refine blk_far ?_ NB323_324.out _; refine blk_ups ?_; refine blk_put (cs := #[.bool t332, .slice none 0 0]) ?_ 1 _ rfl; refine blk_ups ?_; refine blk_put (cs := #[.bool false, .slice none 0 0]) ?_ 0 _ rfl; exact blk_up BK323.out) hb); replace BK324 := Aside0.mk (blk_below (g := gb324) (o := .cells #[.bool t336, .slice Ao46 t337.length co46] 25 (0, 0)) (by refine blk_ups ?_; refine blk_put (cs := #[.bool t336, .slice none 0 0]) ?_ 1 _ rfl; refine blk_ups ?_; refine blk_put (cs := #[.bool false, .slice none 0 0]) ?_ 0 _ rfl; refine blk_ups ?_; refine blk_far ?_ NB324_323.out _; refine blk_ups ?_; refine blk_far ?_ NB324_323.out _; exact blk_up BK324.out) hb); replace HB := Aside0.mk (below_step (by with_reducible repeat first | exact HB.out | apply below_alloc | apply pw_below_drewN | apply below_drew1 | refine below_set ?_ GE321.out | refine below_set ?_ GE322.out | refine below_set ?_ GE323.out | refine below_set ?_ GE324.out) hb); (try clear hb); (try clear hb2); (try clear hk); (try clear hi)))
    go_meet
    case rel => exact ⟨_, (false), (by first | rfl | (simp; done) | (simp [*]; done) | (simp <;> omega)), H', ⟨by first | omega | exact Nat.le_refl _⟩, ⟨Kd.V_up (Kd.V_mono HO0_1.out (fun _ hk => ⟨hk.1.1.1.1, ⟨hk.1.1.1.2, ⟨hk.1.1.2, ⟨hk.1.2, hk.2⟩⟩⟩⟩))⟩, ⟨Kd.V_up HO335.out⟩, ⟨Kd.V_up HO339.out⟩, ⟨by (with_reducible repeat (first | refine blk_drewN ?_ _ | refine blk_drew ?_ | refine blk_alloc ?_ _)); exact BK321.out⟩, ⟨by (with_reducible repeat (first | refine blk_drewN ?_ _ | refine blk_drew ?_ | refine blk_alloc ?_ _)); exact BK322.out⟩, ⟨by (with_reducible repeat (first | refine blk_drewN ?_ _ | refine blk_drew ?_ | refine blk_alloc ?_ _)); exact BK323.out⟩, ⟨by (with_reducible repeat (first | refine blk_drewN ?_ _ | refine blk_drew ?_ | refine blk_alloc ?_ _)); exact BK324.out⟩, ⟨by with_reducible repeat first | exact HB.out | apply below_alloc | apply pw_below_drewN | apply below_drew1 | refine below_set ?_ GE321.out | refine below_set ?_ GE322.out | refine below_set ?_ GE323.out | refine below_set ?_ GE324.out⟩⟩
   ·
    rw [if_neg c49] at H
    have c49b0 : (t340 == 0) = false := beq_eq_false_iff_ne.mpr c49
    have c49b1 : (t340 != 0) = true := bne_iff_ne.mpr c49
    (first | rw [c49b0] | (simp only [i64_w, i32_w]; rw [c49b0]) | skip)
    have H' := Aside0.mk H
    clear H
    have hnb55 := NB324_321.out
    have hnc55 := NB321_324.out
    have hnb56 := NB324_322.out
    have hnc56 := NB322_324.out
    have hnb57 := NB324_323.out
    have hnc57 := NB323_324.out
    have hcz58_0 : w41.cell? ⟨gb324, 0, none⟩ = some (.bool false) := (blk_cell BK324.out 0).trans rfl
    have hcz58_1 : w41.cell? ⟨gb324, 1, none⟩ = some (.slice none 0 0) := (blk_cell BK324.out 1).trans rfl
    have hfz58_0 := blk_frozen BK324.out 0
    have hfz58_1 := blk_frozen BK324.out 1
    go_wp2_with (first | ((with_reducible refine gate_callee (f := 19) rfl ?_); refine gl_ (some 34) Tryd.func19 #[.agg #[.bool t336, .slice Ao46 t337.length co46]] ?_; (with_reducible refine (integer_Int_Sign.calls t336 _ _ t337 t340 _ ?side1 ?side2 A48.out).mono ?_); (case side1 => refine (Kd.V_reads' (e := 60) (base := w.heap.size) (ok := fun k_ => ((P0_1_ k_ ∨ w.heap.size ≤ k_) ∧ (k_ ≠ gb321 ∧ (k_ ≠ gb322 ∧ (k_ ≠ gb323 ∧ k_ ≠ gb324))))) (n := t337.length) (c := co46) ?_).2.2; exact (Kd.V_up ((Kd.V_mono (Kd.V_mono (Kd.V_far (p := ⟨gb324, 1, none⟩) (Kd.V_far (p := ⟨gb324, 0, none⟩) (Kd.V_far (p := ⟨gb323, 1, none⟩) (Kd.V_far (p := ⟨gb323, 0, none⟩) (Kd.V_mono (Kd.V_mono HO339.out (fun k_ hk => (⟨hk, hk.2.2.2.1⟩ : _ ∧ k_ ≠ gb323))) (fun k_ hk => (⟨hk, hk.1.2.2.2.2⟩ : _ ∧ k_ ≠ gb324))) (fun _ hk => hk.1.2) (.bool t332)) (fun _ hk => hk.1.2) (.slice Ao43 t333.length co43)) (fun _ hk => hk.2) (.bool t336)) (fun _ hk => hk.2) (.slice Ao46 t337.length co46)) (fun _ h_ => h_.1)) (fun _ h_ => h_.1))))); (case side2 => exact (Kd.V_reads' HO339.out).2.1); rintro e w59 ⟨rfl, hb⟩; refine ⟨_, rfl, ?_⟩; replace HO0_1 := Aside0.mk (Kd.V_below (Kd.V_up ((Kd.V_mono (Kd.V_mono (Kd.V_far (p := ⟨gb324, 1, none⟩) (Kd.V_far (p := ⟨gb324, 0, none⟩) (Kd.V_far (p := ⟨gb323, 1, none⟩) (Kd.V_far (p := ⟨gb323, 0, none⟩) (Kd.V_mono (Kd.V_mono HO0_1.out (fun k_ hk => (⟨hk, hk.1.2⟩ : _ ∧ k_ ≠ gb323))) (fun k_ hk => (⟨hk, hk.1.2⟩ : _ ∧ k_ ≠ gb324))) (fun _ hk => hk.1.2) (.bool t332)) (fun _ hk => hk.1.2) (.slice Ao43 t333.length co43)) (fun _ hk => hk.2) (.bool t336)) (fun _ hk => hk.2) (.slice Ao46 t337.length co46)) (fun _ h_ => h_.1)) (fun _ h_ => h_.1)))) hb); replace HO335 := Aside0.mk (Kd.V_below (Kd.V_up ((Kd.V_mono (Kd.V_mono (Kd.V_far (p := ⟨gb324, 1, none⟩) (Kd.V_far (p := ⟨gb324, 0, none⟩) (Kd.V_far (p := ⟨gb323, 1, none⟩) (Kd.V_far (p := ⟨gb323, 0, none⟩) (Kd.V_mono (Kd.V_mono HO335.out (fun k_ hk => (⟨hk, hk.2.2.2.1⟩ : _ ∧ k_ ≠ gb323))) (fun k_ hk => (⟨hk, hk.1.2.2.2.2⟩ : _ ∧ k_ ≠ gb324))) (fun _ hk => hk.1.2) (.bool t332)) (fun _ hk => hk.1.2) (.slice Ao43 t333.length co43)) (fun _ hk => hk.2) (.bool t336)) (fun _ hk => hk.2) (.slice Ao46 t337.length co46)) (fun _ h_ => h_.1)) (fun _ h_ => h_.1)))) hb); replace HO339 := Aside0.mk (Kd.V_below (Kd.V_up ((Kd.V_mono (Kd.V_mono (Kd.V_far (p := ⟨gb324, 1, none⟩) (Kd.V_far (p := ⟨gb324, 0, none⟩) (Kd.V_far (p := ⟨gb323, 1, none⟩) (Kd.V_far (p := ⟨gb323, 0, none⟩) (Kd.V_mono (Kd.V_mono HO339.out (fun k_ hk => (⟨hk, hk.2.2.2.1⟩ : _ ∧ k_ ≠ gb323))) (fun k_ hk => (⟨hk, hk.1.2.2.2.2⟩ : _ ∧ k_ ≠ gb324))) (fun _ hk => hk.1.2) (.bool t332)) (fun _ hk => hk.1.2) (.slice Ao43 t333.length co43)) (fun _ hk => hk.2) (.bool t336)) (fun _ hk => hk.2) (.slice Ao46 t337.length co46)) (fun _ h_ => h_.1)) (fun _ h_ => h_.1)))) hb); replace BK321 := Aside0.mk (blk_below (g := gb321) (o := .cells #[.bool a0_0, .slice A0_1 l0_1.length c0_1] 25 (0, 0)) (by refine blk_ups ?_; refine blk_far ?_ NB321_324.out _; refine blk_ups ?_; refine blk_far ?_ NB321_324.out _; refine blk_ups ?_; refine blk_far ?_ NB321_323.out _; refine blk_ups ?_; refine blk_far ?_ NB321_323.out _; exact blk_up BK321.out) hb); replace BK322 := Aside0.mk (blk_below (g := gb322) (o := .cells #[.bool a1_0, .slice A1_1 l1_1.length c1_1] 25 (0, 0)) (by refine blk_ups ?_; refine blk_far ?_ NB322_324.out _; refine blk_ups ?_; refine blk_far ?_ NB322_324.out _; refine blk_ups ?_; refine blk_far ?_ NB322_323.out _; refine blk_ups ?_; refine blk_far ?_ NB322_323.out _; exact blk_up BK322.out) hb); replace BK323 := Aside0.mk (blk_below (g := gb323) (o := .cells #[.bool t332, .slice Ao43 t333.length co43] 25 (0, 0)) (by refine blk_ups ?_; refine blk_far ?_ NB323_324.out _; refine blk_ups ?_; refine blk_far ?_ NB323_324.out _; refine blk_ups ?_; refine blk_put (cs := #[.bool t332, .slice none 0 0]) ?_ 1 _ rfl; refine blk_ups ?_; refine blk_put (cs := #[.bool false, .slice none 0 0]) ?_ 0 _ rfl; exact blk_up BK323.out) hb); replace BK324 := Aside0.mk (blk_below (g := gb324) (o := .cells #[.bool t336, .slice Ao46 t337.length co46] 25 (0, 0)) (by refine blk_ups ?_; refine blk_put (cs := #[.bool t336, .slice none 0 0]) ?_ 1 _ rfl; refine blk_ups ?_; refine blk_put (cs := #[.bool false, .slice none 0 0]) ?_ 0 _ rfl; refine blk_ups ?_; refine blk_far ?_ NB324_323.out _; refine blk_ups ?_; refine blk_far ?_ NB324_323.out _; exact blk_up BK324.out) hb); replace HB := Aside0.mk (below_step (by with_reducible repeat first | exact HB.out | apply below_alloc | apply pw_below_drewN | apply below_drew1 | refine below_set ?_ GE321.out | refine below_set ?_ GE322.out | refine below_set ?_ GE323.out | refine below_set ?_ GE324.out) hb); (try clear hb); (try clear hb2); (try clear hk); (try clear hi); have hcz60_0 : w59.cell? ⟨gb324, 0, none⟩ = some (.bool t336) := (blk_cell BK324.out 0).trans rfl; have hcz60_1 : w59.cell? ⟨gb324, 1, none⟩ = some (.slice Ao46 t337.length co46) := (blk_cell BK324.out 1).trans rfl; have hfz60_0 := blk_frozen BK324.out 0; have hfz60_1 := blk_frozen BK324.out 1; have hnb61 := NB322_321.out; have hnc61 := NB321_322.out; have hnb62 := NB322_323.out; have hnc62 := NB323_322.out; have hcz63_0 : w59.cell? ⟨gb322, 0, none⟩ = some (.bool a1_0) := (blk_cell BK322.out 0).trans rfl; have hcz63_1 : w59.cell? ⟨gb322, 1, none⟩ = some (.slice A1_1 l1_1.length c1_1) := (blk_cell BK322.out 1).trans rfl; have hfz63_0 := blk_frozen BK322.out 0; have hfz63_1 := blk_frozen BK322.out 1))
    go_meet
    case rel => exact ⟨_, ((t336 != a1_0)), (by first | rfl | (simp; done) | (simp [*]; done) | (simp <;> omega)), H', ⟨by first | omega | exact Nat.le_refl _⟩, ⟨Kd.V_up (Kd.V_mono HO0_1.out (fun _ hk => ⟨hk.1.1.1.1, ⟨hk.1.1.1.2, ⟨hk.1.1.2, ⟨hk.1.2, hk.2⟩⟩⟩⟩))⟩, ⟨Kd.V_up HO335.out⟩, ⟨Kd.V_up HO339.out⟩, ⟨by (with_reducible repeat (first | refine blk_drewN ?_ _ | refine blk_drew ?_ | refine blk_alloc ?_ _)); exact BK321.out⟩, ⟨by (with_reducible repeat (first | refine blk_drewN ?_ _ | refine blk_drew ?_ | refine blk_alloc ?_ _)); exact BK322.out⟩, ⟨by (with_reducible repeat (first | refine blk_drewN ?_ _ | refine blk_drew ?_ | refine blk_alloc ?_ _)); exact BK323.out⟩, ⟨by (with_reducible repeat (first | refine blk_drewN ?_ _ | refine blk_drew ?_ | refine blk_alloc ?_ _)); exact BK324.out⟩, ⟨by with_reducible repeat first | exact HB.out | apply below_alloc | apply pw_below_drewN | apply below_drew1 | refine below_set ?_ GE321.out | refine below_set ?_ GE322.out | refine below_set ?_ GE323.out | refine below_set ?_ GE324.out⟩⟩
  case rest =>
   clear HC22
   obtain ⟨kq, x42_21, rfl, HA, HJ21, HO_322001, HO_324001, HO_325001, BK321, BK322, BK323, BK324, HB⟩ := hcut
   cases kq with
   | zero => exact absurd HA.out (by simp [integer_DivMod.j0])
   | succ kj21 =>
    have H := HA.out
    clear HA
    simp only [integer_DivMod.j0] at H
    by_cases c64 : x42_21 = true
    ·
     subst c64
     have H1 : ((integer_From.f kj21 1).bind fun bt341 => ((integer_Sub.f kj21 t332 t333 bt341.1 bt341.2).bind fun bt345 => ((integer_Add.f kj21 t336 t337 a1_0 l1_1).bind fun bt349 => (some (bt345.1, bt345.2, bt349.1, bt349.2, 0))))) = some (r1, r2, r3, r4, r5) := by rw [if_pos rfl] at H; exact H
     clear H
     have H := H1
     clear H1
     replace H := Option.bind_eq_some_iff.mp H
     obtain ⟨⟨t341, t342⟩, A650, H⟩ := H
     try dsimp only at H
     have A65 := Aside0.mk A650
     clear A650
     replace H := Option.bind_eq_some_iff.mp H
     obtain ⟨⟨t345, t346⟩, A660, H⟩ := H
     try dsimp only at H
     have A66 := Aside0.mk A660
     clear A660
     replace H := Option.bind_eq_some_iff.mp H
     obtain ⟨⟨t349, t350⟩, A670, H⟩ := H
     try dsimp only at H
     have A67 := Aside0.mk A670
     clear A670
     simp only [Option.some.injEq, Prod.mk.injEq] at H
     obtain ⟨rfl, rfl, rfl, rfl, rfl⟩ := H
     try go_wp2
     replace HO_322001 := Aside0.mk (Kd.V_drew HO_322001.out)
     replace HO_324001 := Aside0.mk (Kd.V_drew HO_324001.out)
     replace HO_325001 := Aside0.mk (Kd.V_drew HO_325001.out)
     replace BK321 := Aside0.mk (blk_drew BK321.out)
     replace BK322 := Aside0.mk (blk_drew BK322.out)
     replace BK323 := Aside0.mk (blk_drew BK323.out)
     replace BK324 := Aside0.mk (blk_drew BK324.out)
     replace HB := Aside0.mk (below_drew1 HB.out)
     refine start_ (n := 8) (S := fun w' => w'.cell? ⟨gb323, 0, none⟩ = some (.bool t332) ∧ w'.cell? ⟨gb323, 1, none⟩ = some (.slice Ao43 t333.length co43) ∧ w'.cell? ⟨gb324, 0, none⟩ = some (.bool t336) ∧ w'.cell? ⟨gb324, 1, none⟩ = some (.slice Ao46 t337.length co46) ∧ w'.cell? ⟨gb322, 0, none⟩ = some (.bool a1_0) ∧ w'.cell? ⟨gb322, 1, none⟩ = some (.slice A1_1 l1_1.length c1_1)) (ds := [6, 7]) #[false, false, false, false, false, false, false, false] (by kernel_rfl) rfl rfl ⟨(blk_cell BK323.out 0).trans rfl, (blk_cell BK323.out 1).trans rfl, (blk_cell BK324.out 0).trans rfl, (blk_cell BK324.out 1).trans rfl, (blk_cell BK322.out 0).trans rfl, (blk_cell BK322.out 1).trans rfl⟩ (fun hHeld => ?_); refine with_tabW integer_DivMod.tab6 integer_DivMod.bits6 (fun HT_ HW_ => ?_)
     generalize wc.drew = w68 at HO_322001 HO_324001 HO_325001 BK321 BK322 BK323 BK324 HB hHeld ⊢
     refine take_ (i := 0) (N := some 43) (v := ?_) (a' := ?_) #[true, false, false, false, false, false, false, false] rfl rfl (take_ofW HT_.out HW_.out (by kernel_rfl)) (fun _ _ _ h => h) (Or.inl ⟨by rfl, ?_⟩) hHeld ?_ ?_
     rotate_left
     ·
      rintro w' ⟨s0, s1, s2, s3, s4, s5⟩
      go_simp
      with_reducible rfl
     rotate_left
     ·
      simp only [Act.put, List.setIfInBounds_toArray, List.set_cons_zero, List.set_cons_succ, i64_w, i32_w]
      rfl
     refine take_ (i := 3) (N := some 46) (v := ?_) (a' := ?_) #[true, false, false, true, false, false, false, false] rfl rfl (take_ofW HT_.out HW_.out (by kernel_rfl)) (fun _ _ _ h => h) (Or.inl ⟨by rfl, ?_⟩) hHeld ?_ ?_
     rotate_left
     ·
      rintro w' ⟨s0, s1, s2, s3, s4, s5⟩
      go_simp
      with_reducible rfl
     rotate_left
     ·
      simp only [Act.put, List.setIfInBounds_toArray, List.set_cons_zero, List.set_cons_succ, i64_w, i32_w]
      rfl
     refine take_ (i := 4) (N := some 47) (v := ?_) (a' := ?_) #[true, false, false, true, true, false, false, false] rfl rfl (take_ofW HT_.out HW_.out (by kernel_rfl)) (fun _ _ _ h => h) (Or.inl ⟨by rfl, ?_⟩) hHeld ?_ ?_
     rotate_left
     ·
      rintro w' ⟨s0, s1, s2, s3, s4, s5⟩
      go_simp
      with_reducible rfl
     rotate_left
     ·
      simp only [Act.put, List.setIfInBounds_toArray, List.set_cons_zero, List.set_cons_succ, i64_w, i32_w]
      rfl
     refine one_ (i := 1) (N := some 44) #[true, true, false, true, true, false, false, false] rfl rfl (one_of HT_.out (by kernel_rfl)) (by decide) (fun K hK => ?_)
     refine goes_ Tryd.func15 (by kernel_rfl) rfl #[.int .i64 1] (by rfl) rfl rfl (by (try simp only [List.map_toArray, List.map_cons, List.map_nil]); first | done | rfl | (simp only [List.length_drop, List.length_take]; rfl)) ?_
     with_reducible refine (integer_From.calls kj21 1 t341 t342 _ A65.out).mono ?_
     rintro e w69 ⟨v343, rfl, ho0, hb⟩
     refine ⟨_, rfl, ?_⟩
     replace HO_322001 := Aside0.mk (Kd.V_below (Kd.V_up HO_322001.out) hb)
     replace HO_324001 := Aside0.mk (Kd.V_below (Kd.V_up HO_324001.out) hb)
     replace HO_325001 := Aside0.mk (Kd.V_below (Kd.V_up HO_325001.out) hb)
     have HO344 := Aside0.mk (Kd.V_lower (Kd.V_mono (ok' := fun k_ => (P0_1_ k_ ∨ w.heap.size ≤ k_) ∧ k_ ≠ gb321 ∧ k_ ≠ gb322 ∧ k_ ≠ gb323 ∧ k_ ≠ gb324) ho0 (fun k_ hk_ => ⟨(.inr (Nat.le_trans (below_size (by with_reducible repeat first | exact HB.out | apply below_alloc | apply pw_below_drewN | apply below_drew1 | refine below_set ?_ GE321.out | refine below_set ?_ GE322.out | refine below_set ?_ GE323.out | refine below_set ?_ GE324.out)) hk_)), (Kd.freshB (g := gb321) (o := .cells #[.bool a0_0, .slice A0_1 l0_1.length c0_1] 25 (0, 0)) (blk_up BK321.out) k_ hk_), (Kd.freshB (g := gb322) (o := .cells #[.bool a1_0, .slice A1_1 l1_1.length c1_1] 25 (0, 0)) (blk_up BK322.out) k_ hk_), (Kd.freshB (g := gb323) (o := .cells #[.bool t332, .slice Ao43 t333.length co43] 25 (0, 0)) (blk_up BK323.out) k_ hk_), (Kd.freshB (g := gb324) (o := .cells #[.bool t336, .slice Ao46 t337.length co46] 25 (0, 0)) (blk_up BK324.out) k_ hk_)⟩)) (below_size (by with_reducible repeat first | exact HB.out | apply below_alloc | apply pw_below_drewN | apply below_drew1 | refine below_set ?_ GE321.out | refine below_set ?_ GE322.out | refine below_set ?_ GE323.out | refine below_set ?_ GE324.out)))
     replace BK321 := Aside0.mk (blk_below (blk_up BK321.out) hb)
     replace BK322 := Aside0.mk (blk_below (blk_up BK322.out) hb)
     replace BK323 := Aside0.mk (blk_below (blk_up BK323.out) hb)
     replace BK324 := Aside0.mk (blk_below (blk_up BK324.out) hb)
     replace HB := Aside0.mk (below_step (by with_reducible repeat first | exact HB.out | apply below_alloc | apply pw_below_drewN | apply below_drew1 | refine below_set ?_ GE321.out | refine below_set ?_ GE322.out | refine below_set ?_ GE323.out | refine below_set ?_ GE324.out) hb)
     (try clear hb)
     (try clear hb2)
     (try clear hk)
     (try clear hi)
     (try clear ho0)
     obtain ⟨Ao70, co70, eo70⟩ := Kd.V_slice HO344.out
     (first | subst eo70 | (injection eo70 with f1_ f2_ f3_; have f4_ := f1_.symm; have f5_ := f3_.symm; clear f1_ f2_ f3_; subst f4_; subst f5_))
     refine hK.out _ _ ⟨(blk_cell BK323.out 0).trans rfl, (blk_cell BK323.out 1).trans rfl, (blk_cell BK324.out 0).trans rfl, (blk_cell BK324.out 1).trans rfl, (blk_cell BK322.out 0).trans rfl, (blk_cell BK322.out 1).trans rfl⟩ (fun hHeld => ?_)
     clear hK K
     refine norm_ (a' := ?_) ?_ ?_
     rotate_left
     ·
      show Act.put _ (some 44) _ = _
      simp only [Act.put, List.setIfInBounds_toArray, List.set_cons_zero, List.set_cons_succ, i64_w, i32_w]
      rfl
     refine one_ (i := 2) (N := some 45) #[true, true, true, true, true, false, false, false] rfl rfl (one_of HT_.out (by kernel_rfl)) (by decide) (fun K hK => ?_)
     refine goes_ Tryd.func37 (by kernel_rfl) rfl #[.agg #[.bool t332, .slice Ao43 t333.length co43], .agg #[.bool t341, .slice Ao70 t342.length co70]] (by rfl) rfl rfl (by (try simp only [List.map_toArray, List.map_cons, List.map_nil]); first | done | rfl | (simp only [List.length_drop, List.length_take]; rfl)) ?_
     with_reducible refine (integer_Sub.calls kj21 t332 _ _ t333 t341 (fun k_ => ((P0_1_ k_ ∨ w.heap.size ≤ k_) ∧ (k_ ≠ gb321 ∧ (k_ ≠ gb322 ∧ (k_ ≠ gb323 ∧ k_ ≠ gb324))))) _ _ t342 t345 t346 _ ?side1 ?side2 ?side3 A66.out).mono ?_
     (case side1 => repeat (first | exact (Kd.V_reads' HO_324001.out).2.2 | (with_reducible refine Kd.C_alloc ?_ _) | (with_reducible refine Kd.C_drewN ?_ _) | (with_reducible refine Kd.C_drew ?_)))
     (case side2 => exact (Kd.V_reads' HO_324001.out).2.1)
     (case side3 => exact HO344.out)
     rintro e w71 ⟨v347, rfl, ho0, hb⟩
     refine ⟨_, rfl, ?_⟩
     replace HO_322001 := Aside0.mk (Kd.V_below (Kd.V_up HO_322001.out) hb)
     replace HO_324001 := Aside0.mk (Kd.V_below (Kd.V_up HO_324001.out) hb)
     replace HO_325001 := Aside0.mk (Kd.V_below (Kd.V_up HO_325001.out) hb)
     replace HO344 := Aside0.mk (Kd.V_below (Kd.V_up HO344.out) hb)
     have HO348 := Aside0.mk (Kd.V_lower (Kd.V_mono (ok' := fun k_ => (P0_1_ k_ ∨ w.heap.size ≤ k_) ∧ k_ ≠ gb321 ∧ k_ ≠ gb322 ∧ k_ ≠ gb323 ∧ k_ ≠ gb324) ho0 (fun k_ hk_ => ⟨Or.elim hk_ (fun hs_ => hs_.1) (fun hn_ => (.inr (Nat.le_trans (below_size (by with_reducible repeat first | exact HB.out | apply below_alloc | apply pw_below_drewN | apply below_drew1 | refine below_set ?_ GE321.out | refine below_set ?_ GE322.out | refine below_set ?_ GE323.out | refine below_set ?_ GE324.out)) hn_))), Or.elim hk_ (fun hs_ => hs_.2.1) (fun hn_ => (Kd.freshB (g := gb321) (o := .cells #[.bool a0_0, .slice A0_1 l0_1.length c0_1] 25 (0, 0)) (blk_up BK321.out) k_ hn_)), Or.elim hk_ (fun hs_ => hs_.2.2.1) (fun hn_ => (Kd.freshB (g := gb322) (o := .cells #[.bool a1_0, .slice A1_1 l1_1.length c1_1] 25 (0, 0)) (blk_up BK322.out) k_ hn_)), Or.elim hk_ (fun hs_ => hs_.2.2.2.1) (fun hn_ => (Kd.freshB (g := gb323) (o := .cells #[.bool t332, .slice Ao43 t333.length co43] 25 (0, 0)) (blk_up BK323.out) k_ hn_)), Or.elim hk_ (fun hs_ => hs_.2.2.2.2) (fun hn_ => (Kd.freshB (g := gb324) (o := .cells #[.bool t336, .slice Ao46 t337.length co46] 25 (0, 0)) (blk_up BK324.out) k_ hn_))⟩)) (below_size (by with_reducible repeat first | exact HB.out | apply below_alloc | apply pw_below_drewN | apply below_drew1 | refine below_set ?_ GE321.out | refine below_set ?_ GE322.out | refine below_set ?_ GE323.out | refine below_set ?_ GE324.out)))
     replace BK321 := Aside0.mk (blk_below (blk_up BK321.out) hb)
     replace BK322 := Aside0.mk (blk_below (blk_up BK322.out) hb)
     replace BK323 := Aside0.mk (blk_below (blk_up BK323.out) hb)
     replace BK324 := Aside0.mk (blk_below (blk_up BK324.out) hb)
     replace HB := Aside0.mk (below_step (by with_reducible repeat first | exact HB.out | apply below_alloc | apply pw_below_drewN | apply below_drew1 | refine below_set ?_ GE321.out | refine below_set ?_ GE322.out | refine below_set ?_ GE323.out | refine below_set ?_ GE324.out) hb)
     (try clear hb)
     (try clear hb2)
     (try clear hk)
     (try clear hi)
     (try clear ho0)
     refine hK.out _ _ ⟨(blk_cell BK323.out 0).trans rfl, (blk_cell BK323.out 1).trans rfl, (blk_cell BK324.out 0).trans rfl, (blk_cell BK324.out 1).trans rfl, (blk_cell BK322.out 0).trans rfl, (blk_cell BK322.out 1).trans rfl⟩ (fun hHeld => ?_)
     clear hK K
     refine norm_ (a' := ?_) ?_ ?_
     rotate_left
     ·
      show Act.put _ (some 45) _ = _
      simp only [Act.put, List.setIfInBounds_toArray, List.set_cons_zero, List.set_cons_succ, i64_w, i32_w]
      rfl
     refine one_ (i := 5) (N := some 48) #[true, true, true, true, true, true, false, false] rfl rfl (one_of HT_.out (by kernel_rfl)) (by decide) (fun K hK => ?_)
     refine goes_ Tryd.func35 (by kernel_rfl) rfl #[.agg #[.bool t336, .slice Ao46 t337.length co46], .agg #[.bool a1_0, .slice A1_1 l1_1.length c1_1]] (by rfl) rfl rfl (by (try simp only [List.map_toArray, List.map_cons, List.map_nil]); first | done | rfl | (simp only [List.length_drop, List.length_take]; rfl)) ?_
     with_reducible refine (integer_Add.calls kj21 t336 _ _ t337 a1_0 _ _ l1_1 t349 t350 _ ?side1 ?side2 ?side3 ?side4 A67.out).mono ?_
     (case side1 => repeat (first | exact (Kd.V_reads' HO_325001.out).2.2 | (with_reducible refine Kd.C_alloc ?_ _) | (with_reducible refine Kd.C_drewN ?_ _) | (with_reducible refine Kd.C_drew ?_)))
     (case side2 => exact (Kd.V_reads' HO_325001.out).2.1)
     (case side3 => repeat (first | exact (Kd.C_below HR1_1.out HB.out) | (with_reducible refine Kd.C_alloc ?_ _) | (with_reducible refine Kd.C_drewN ?_ _) | (with_reducible refine Kd.C_drew ?_)))
     (case side4 => exact HC1_1.out)
     rintro e w72 ⟨v351, rfl, ho0, hb⟩
     refine ⟨_, rfl, ?_⟩
     replace HO_322001 := Aside0.mk (Kd.V_below (Kd.V_up HO_322001.out) hb)
     replace HO_324001 := Aside0.mk (Kd.V_below (Kd.V_up HO_324001.out) hb)
     replace HO_325001 := Aside0.mk (Kd.V_below (Kd.V_up HO_325001.out) hb)
     replace HO344 := Aside0.mk (Kd.V_below (Kd.V_up HO344.out) hb)
     replace HO348 := Aside0.mk (Kd.V_below (Kd.V_up HO348.out) hb)
     have HO352 := Aside0.mk (Kd.V_lower (Kd.V_mono (ok' := fun k_ => (P0_1_ k_ ∨ w.heap.size ≤ k_) ∧ k_ ≠ gb321 ∧ k_ ≠ gb322 ∧ k_ ≠ gb323 ∧ k_ ≠ gb324) ho0 (fun k_ hk_ => ⟨(.inr (Nat.le_trans (below_size (by with_reducible repeat first | exact HB.out | apply below_alloc | apply pw_below_drewN | apply below_drew1 | refine below_set ?_ GE321.out | refine below_set ?_ GE322.out | refine below_set ?_ GE323.out | refine below_set ?_ GE324.out)) hk_)), (Kd.freshB (g := gb321) (o := .cells #[.bool a0_0, .slice A0_1 l0_1.length c0_1] 25 (0, 0)) (blk_up BK321.out) k_ hk_), (Kd.freshB (g := gb322) (o := .cells #[.bool a1_0, .slice A1_1 l1_1.length c1_1] 25 (0, 0)) (blk_up BK322.out) k_ hk_), (Kd.freshB (g := gb323) (o := .cells #[.bool t332, .slice Ao43 t333.length co43] 25 (0, 0)) (blk_up BK323.out) k_ hk_), (Kd.freshB (g := gb324) (o := .cells #[.bool t336, .slice Ao46 t337.length co46] 25 (0, 0)) (blk_up BK324.out) k_ hk_)⟩)) (below_size (by with_reducible repeat first | exact HB.out | apply below_alloc | apply pw_below_drewN | apply below_drew1 | refine below_set ?_ GE321.out | refine below_set ?_ GE322.out | refine below_set ?_ GE323.out | refine below_set ?_ GE324.out)))
     replace BK321 := Aside0.mk (blk_below (blk_up BK321.out) hb)
     replace BK322 := Aside0.mk (blk_below (blk_up BK322.out) hb)
     replace BK323 := Aside0.mk (blk_below (blk_up BK323.out) hb)
     replace BK324 := Aside0.mk (blk_below (blk_up BK324.out) hb)
     replace HB := Aside0.mk (below_step (by with_reducible repeat first | exact HB.out | apply below_alloc | apply pw_below_drewN | apply below_drew1 | refine below_set ?_ GE321.out | refine below_set ?_ GE322.out | refine below_set ?_ GE323.out | refine below_set ?_ GE324.out) hb)
     (try clear hb)
     (try clear hb2)
     (try clear hk)
     (try clear hi)
     (try clear ho0)
     obtain ⟨Ao74, co74, eo74⟩ := Kd.V_slice HO348.out
     (first | subst eo74 | (injection eo74 with f1_ f2_ f3_; have f4_ := f1_.symm; have f5_ := f3_.symm; clear f1_ f2_ f3_; subst f4_; subst f5_))
     obtain ⟨Ao77, co77, eo77⟩ := Kd.V_slice HO352.out
     (first | subst eo77 | (injection eo77 with f1_ f2_ f3_; have f4_ := f1_.symm; have f5_ := f3_.symm; clear f1_ f2_ f3_; subst f4_; subst f5_))
     refine hK.out _ _ ⟨(blk_cell BK323.out 0).trans rfl, (blk_cell BK323.out 1).trans rfl, (blk_cell BK324.out 0).trans rfl, (blk_cell BK324.out 1).trans rfl, (blk_cell BK322.out 0).trans rfl, (blk_cell BK322.out 1).trans rfl⟩ (fun hHeld => ?_)
     clear hK K
     refine norm_ (a' := ?_) ?_ ?_
     rotate_left
     ·
      show Act.put _ (some 48) _ = _
      simp only [Act.put, List.setIfInBounds_toArray, List.set_cons_zero, List.set_cons_succ, i64_w, i32_w]
      rfl
     refine last_ (i := 6) (N := none) #[true, true, true, true, true, true, true, false] rfl rfl (one_of HT_.out (by kernel_rfl)) (by decide) (fun K hK => ?_)
     have hs73 : w72.cell? ⟨gb323, 0, none⟩ = some (.bool t332) := (blk_cell BK323.out 0).trans rfl
     have hfs73 := blk_frozen BK323.out 0
     have hns73_0 := NB321_323.out
     have hns73_1 := NB322_323.out
     have hns73_3 := NB324_323.out
     have hms73_0 := NB323_321.out
     have hms73_1 := NB323_322.out
     have hms73_3 := NB323_324.out
     have hs75 : w72.cell? ⟨gb323, 1, none⟩ = some (.slice Ao43 t333.length co43) := (blk_cell BK323.out 1).trans rfl
     have hfs75 := blk_frozen BK323.out 1
     have hns75_0 := NB321_323.out
     have hns75_1 := NB322_323.out
     have hns75_3 := NB324_323.out
     have hms75_0 := NB323_321.out
     have hms75_1 := NB323_322.out
     have hms75_3 := NB323_324.out
     refine skip_ (w1 := ?_) (by rfl) rfl ?_ ?_
     rotate_left
     ·
      go_simp
      rfl
     refine hK.out _ _ ?_
     clear hK K
     refine last_ (i := 7) (N := none) #[true, true, true, true, true, true, true, true] rfl rfl (one_of HT_.out (by kernel_rfl)) (by decide) (fun K hK => ?_)
     have hs76 : w72.cell? ⟨gb324, 0, none⟩ = some (.bool t336) := (blk_cell BK324.out 0).trans rfl
     have hfs76 := blk_frozen BK324.out 0
     have hns76_0 := NB321_324.out
     have hns76_1 := NB322_324.out
     have hns76_2 := NB323_324.out
     have hms76_0 := NB324_321.out
     have hms76_1 := NB324_322.out
     have hms76_2 := NB324_323.out
     have hs78 : w72.cell? ⟨gb324, 1, none⟩ = some (.slice Ao46 t337.length co46) := (blk_cell BK324.out 1).trans rfl
     have hfs78 := blk_frozen BK324.out 1
     have hns78_0 := NB321_324.out
     have hns78_1 := NB322_324.out
     have hns78_2 := NB323_324.out
     have hms78_0 := NB324_321.out
     have hms78_1 := NB324_322.out
     have hms78_2 := NB324_323.out
     refine skip_ (w1 := ?_) (by rfl) rfl ?_ ?_
     rotate_left
     ·
      go_simp
      rfl
     refine hK.out _ _ ?_
     clear hK K
     refine done_ (done_of HT_.out (by kernel_rfl)) ?_
     try go_wp2
     have n0_ : Aside0 (Kd.V (Kd.int .u32) 60 ((((w72.setCell ⟨gb323, 0, none⟩ (.bool t345)).setCell ⟨gb323, 1, none⟩ (.slice Ao74 t346.length co74)).setCell ⟨gb324, 0, none⟩ (.bool t349)).setCell ⟨gb324, 1, none⟩ (.slice Ao77 t350.length co77)) w.heap.size (fun k_ => (P0_1_ k_ ∨ w.heap.size ≤ k_) ∧ k_ ≠ gb321 ∧ k_ ≠ gb322 ∧ k_ ≠ gb323 ∧ k_ ≠ gb324) (.slice A0_1 l0_1.length c0_1) l0_1) := ⟨Kd.V_up (Kd.V_mono (Kd.V_far (p := ⟨gb324, 1, none⟩) (Kd.V_far (p := ⟨gb324, 0, none⟩) (Kd.V_far (p := ⟨gb323, 1, none⟩) (Kd.V_far (p := ⟨gb323, 0, none⟩) (Kd.V_mono (Kd.V_mono HO_322001.out (fun k_ hk => (⟨hk, hk.2.2.2.1⟩ : _ ∧ k_ ≠ gb323))) (fun k_ hk => (⟨hk, hk.1.2.2.2.2⟩ : _ ∧ k_ ≠ gb324))) (fun _ hk => hk.1.2) (.bool t345)) (fun _ hk => hk.1.2) (.slice Ao74 t346.length co74)) (fun _ hk => hk.2) (.bool t349)) (fun _ hk => hk.2) (.slice Ao77 t350.length co77)) (fun _ hk => ⟨hk.1.1.1, ⟨hk.1.1.2.1, ⟨hk.1.1.2.2.1, ⟨hk.1.1.2.2.2.1, hk.1.1.2.2.2.2⟩⟩⟩⟩))⟩
     have n1_ : Aside0 (Kd.V (Kd.int .u32) 60 ((((w72.setCell ⟨gb323, 0, none⟩ (.bool t345)).setCell ⟨gb323, 1, none⟩ (.slice Ao74 t346.length co74)).setCell ⟨gb324, 0, none⟩ (.bool t349)).setCell ⟨gb324, 1, none⟩ (.slice Ao77 t350.length co77)) w.heap.size (fun k_ => (P0_1_ k_ ∨ w.heap.size ≤ k_) ∧ k_ ≠ gb321 ∧ k_ ≠ gb322 ∧ k_ ≠ gb323 ∧ k_ ≠ gb324) (.slice Ao43 t333.length co43) t333) := ⟨Kd.V_up (Kd.V_mono (Kd.V_far (p := ⟨gb324, 1, none⟩) (Kd.V_far (p := ⟨gb324, 0, none⟩) (Kd.V_far (p := ⟨gb323, 1, none⟩) (Kd.V_far (p := ⟨gb323, 0, none⟩) (Kd.V_mono (Kd.V_mono HO_324001.out (fun k_ hk => (⟨hk, hk.2.2.2.1⟩ : _ ∧ k_ ≠ gb323))) (fun k_ hk => (⟨hk, hk.1.2.2.2.2⟩ : _ ∧ k_ ≠ gb324))) (fun _ hk => hk.1.2) (.bool t345)) (fun _ hk => hk.1.2) (.slice Ao74 t346.length co74)) (fun _ hk => hk.2) (.bool t349)) (fun _ hk => hk.2) (.slice Ao77 t350.length co77)) (fun _ hk => ⟨hk.1.1.1, ⟨hk.1.1.2.1, ⟨hk.1.1.2.2.1, ⟨hk.1.1.2.2.2.1, hk.1.1.2.2.2.2⟩⟩⟩⟩))⟩
     have n2_ : Aside0 (Kd.V (Kd.int .u32) 60 ((((w72.setCell ⟨gb323, 0, none⟩ (.bool t345)).setCell ⟨gb323, 1, none⟩ (.slice Ao74 t346.length co74)).setCell ⟨gb324, 0, none⟩ (.bool t349)).setCell ⟨gb324, 1, none⟩ (.slice Ao77 t350.length co77)) w.heap.size (fun k_ => (P0_1_ k_ ∨ w.heap.size ≤ k_) ∧ k_ ≠ gb321 ∧ k_ ≠ gb322 ∧ k_ ≠ gb323 ∧ k_ ≠ gb324) (.slice Ao46 t337.length co46) t337) := ⟨Kd.V_up (Kd.V_mono (Kd.V_far (p := ⟨gb324, 1, none⟩) (Kd.V_far (p := ⟨gb324, 0, none⟩) (Kd.V_far (p := ⟨gb323, 1, none⟩) (Kd.V_far (p := ⟨gb323, 0, none⟩) (Kd.V_mono (Kd.V_mono HO_325001.out (fun k_ hk => (⟨hk, hk.2.2.2.1⟩ : _ ∧ k_ ≠ gb323))) (fun k_ hk => (⟨hk, hk.1.2.2.2.2⟩ : _ ∧ k_ ≠ gb324))) (fun _ hk => hk.1.2) (.bool t345)) (fun _ hk => hk.1.2) (.slice Ao74 t346.length co74)) (fun _ hk => hk.2) (.bool t349)) (fun _ hk => hk.2) (.slice Ao77 t350.length co77)) (fun _ hk => ⟨hk.1.1.1, ⟨hk.1.1.2.1, ⟨hk.1.1.2.2.1, ⟨hk.1.1.2.2.2.1, hk.1.1.2.2.2.2⟩⟩⟩⟩))⟩
     have n3_ : Aside0 (Kd.V (Kd.int .u32) 60 ((((w72.setCell ⟨gb323, 0, none⟩ (.bool t345)).setCell ⟨gb323, 1, none⟩ (.slice Ao74 t346.length co74)).setCell ⟨gb324, 0, none⟩ (.bool t349)).setCell ⟨gb324, 1, none⟩ (.slice Ao77 t350.length co77)) w.heap.size (fun k_ => (P0_1_ k_ ∨ w.heap.size ≤ k_) ∧ k_ ≠ gb321 ∧ k_ ≠ gb322 ∧ k_ ≠ gb323 ∧ k_ ≠ gb324) (.slice Ao70 t342.length co70) t342) := ⟨Kd.V_up (Kd.V_mono (Kd.V_far (p := ⟨gb324, 1, none⟩) (Kd.V_far (p := ⟨gb324, 0, none⟩) (Kd.V_far (p := ⟨gb323, 1, none⟩) (Kd.V_far (p := ⟨gb323, 0, none⟩) (Kd.V_mono (Kd.V_mono HO344.out (fun k_ hk => (⟨hk, hk.2.2.2.1⟩ : _ ∧ k_ ≠ gb323))) (fun k_ hk => (⟨hk, hk.1.2.2.2.2⟩ : _ ∧ k_ ≠ gb324))) (fun _ hk => hk.1.2) (.bool t345)) (fun _ hk => hk.1.2) (.slice Ao74 t346.length co74)) (fun _ hk => hk.2) (.bool t349)) (fun _ hk => hk.2) (.slice Ao77 t350.length co77)) (fun _ hk => ⟨hk.1.1.1, ⟨hk.1.1.2.1, ⟨hk.1.1.2.2.1, ⟨hk.1.1.2.2.2.1, hk.1.1.2.2.2.2⟩⟩⟩⟩))⟩
     have n4_ : Aside0 (Kd.V (Kd.int .u32) 60 ((((w72.setCell ⟨gb323, 0, none⟩ (.bool t345)).setCell ⟨gb323, 1, none⟩ (.slice Ao74 t346.length co74)).setCell ⟨gb324, 0, none⟩ (.bool t349)).setCell ⟨gb324, 1, none⟩ (.slice Ao77 t350.length co77)) w.heap.size (fun k_ => (P0_1_ k_ ∨ w.heap.size ≤ k_) ∧ k_ ≠ gb321 ∧ k_ ≠ gb322 ∧ k_ ≠ gb323 ∧ k_ ≠ gb324) (.slice Ao74 t346.length co74) t346) := ⟨Kd.V_up (Kd.V_mono (Kd.V_far (p := ⟨gb324, 1, none⟩) (Kd.V_far (p := ⟨gb324, 0, none⟩) (Kd.V_far (p := ⟨gb323, 1, none⟩) (Kd.V_far (p := ⟨gb323, 0, none⟩) (Kd.V_mono (Kd.V_mono HO348.out (fun k_ hk => (⟨hk, hk.2.2.2.1⟩ : _ ∧ k_ ≠ gb323))) (fun k_ hk => (⟨hk, hk.1.2.2.2.2⟩ : _ ∧ k_ ≠ gb324))) (fun _ hk => hk.1.2) (.bool t345)) (fun _ hk => hk.1.2) (.slice Ao74 t346.length co74)) (fun _ hk => hk.2) (.bool t349)) (fun _ hk => hk.2) (.slice Ao77 t350.length co77)) (fun _ hk => ⟨hk.1.1.1, ⟨hk.1.1.2.1, ⟨hk.1.1.2.2.1, ⟨hk.1.1.2.2.2.1, hk.1.1.2.2.2.2⟩⟩⟩⟩))⟩
     have n5_ : Aside0 (Kd.V (Kd.int .u32) 60 ((((w72.setCell ⟨gb323, 0, none⟩ (.bool t345)).setCell ⟨gb323, 1, none⟩ (.slice Ao74 t346.length co74)).setCell ⟨gb324, 0, none⟩ (.bool t349)).setCell ⟨gb324, 1, none⟩ (.slice Ao77 t350.length co77)) w.heap.size (fun k_ => (P0_1_ k_ ∨ w.heap.size ≤ k_) ∧ k_ ≠ gb321 ∧ k_ ≠ gb322 ∧ k_ ≠ gb323 ∧ k_ ≠ gb324) (.slice Ao77 t350.length co77) t350) := ⟨Kd.V_up (Kd.V_mono (Kd.V_far (p := ⟨gb324, 1, none⟩) (Kd.V_far (p := ⟨gb324, 0, none⟩) (Kd.V_far (p := ⟨gb323, 1, none⟩) (Kd.V_far (p := ⟨gb323, 0, none⟩) (Kd.V_mono (Kd.V_mono HO352.out (fun k_ hk => (⟨hk, hk.2.2.2.1⟩ : _ ∧ k_ ≠ gb323))) (fun k_ hk => (⟨hk, hk.1.2.2.2.2⟩ : _ ∧ k_ ≠ gb324))) (fun _ hk => hk.1.2) (.bool t345)) (fun _ hk => hk.1.2) (.slice Ao74 t346.length co74)) (fun _ hk => hk.2) (.bool t349)) (fun _ hk => hk.2) (.slice Ao77 t350.length co77)) (fun _ hk => ⟨hk.1.1.1, ⟨hk.1.1.2.1, ⟨hk.1.1.2.2.1, ⟨hk.1.1.2.2.2.1, hk.1.1.2.2.2.2⟩⟩⟩⟩))⟩
     have n6_ : Aside0 (((((w72.setCell ⟨gb323, 0, none⟩ (.bool t345)).setCell ⟨gb323, 1, none⟩ (.slice Ao74 t346.length co74)).setCell ⟨gb324, 0, none⟩ (.bool t349)).setCell ⟨gb324, 1, none⟩ (.slice Ao77 t350.length co77)).heap[gb321]? = some (.cells #[.bool a0_0, .slice A0_1 l0_1.length c0_1] 25 (0, 0))) := ⟨by (with_reducible repeat (first | refine blk_drewN ?_ _ | refine blk_drew ?_ | refine blk_alloc ?_ _)); refine blk_far ?_ NB321_324.out _; refine blk_ups ?_; refine blk_far ?_ NB321_324.out _; refine blk_ups ?_; refine blk_far ?_ NB321_323.out _; refine blk_ups ?_; refine blk_far ?_ NB321_323.out _; exact blk_up BK321.out⟩
     have n7_ : Aside0 (((((w72.setCell ⟨gb323, 0, none⟩ (.bool t345)).setCell ⟨gb323, 1, none⟩ (.slice Ao74 t346.length co74)).setCell ⟨gb324, 0, none⟩ (.bool t349)).setCell ⟨gb324, 1, none⟩ (.slice Ao77 t350.length co77)).heap[gb322]? = some (.cells #[.bool a1_0, .slice A1_1 l1_1.length c1_1] 25 (0, 0))) := ⟨by (with_reducible repeat (first | refine blk_drewN ?_ _ | refine blk_drew ?_ | refine blk_alloc ?_ _)); refine blk_far ?_ NB322_324.out _; refine blk_ups ?_; refine blk_far ?_ NB322_324.out _; refine blk_ups ?_; refine blk_far ?_ NB322_323.out _; refine blk_ups ?_; refine blk_far ?_ NB322_323.out _; exact blk_up BK322.out⟩
     have n8_ : Aside0 (((((w72.setCell ⟨gb323, 0, none⟩ (.bool t345)).setCell ⟨gb323, 1, none⟩ (.slice Ao74 t346.length co74)).setCell ⟨gb324, 0, none⟩ (.bool t349)).setCell ⟨gb324, 1, none⟩ (.slice Ao77 t350.length co77)).heap[gb323]? = some (.cells #[.bool t345, .slice Ao74 t346.length co74] 25 (0, 0))) := ⟨by (with_reducible repeat (first | refine blk_drewN ?_ _ | refine blk_drew ?_ | refine blk_alloc ?_ _)); refine blk_far ?_ NB323_324.out _; refine blk_ups ?_; refine blk_far ?_ NB323_324.out _; refine blk_ups ?_; refine blk_put (cs := #[.bool t345, .slice Ao43 t333.length co43]) ?_ 1 _ rfl; refine blk_ups ?_; refine blk_put (cs := #[.bool t332, .slice Ao43 t333.length co43]) ?_ 0 _ rfl; exact blk_up BK323.out⟩
     have n9_ : Aside0 (((((w72.setCell ⟨gb323, 0, none⟩ (.bool t345)).setCell ⟨gb323, 1, none⟩ (.slice Ao74 t346.length co74)).setCell ⟨gb324, 0, none⟩ (.bool t349)).setCell ⟨gb324, 1, none⟩ (.slice Ao77 t350.length co77)).heap[gb324]? = some (.cells #[.bool t349, .slice Ao77 t350.length co77] 25 (0, 0))) := ⟨by (with_reducible repeat (first | refine blk_drewN ?_ _ | refine blk_drew ?_ | refine blk_alloc ?_ _)); refine blk_put (cs := #[.bool t349, .slice Ao46 t337.length co46]) ?_ 1 _ rfl; refine blk_ups ?_; refine blk_put (cs := #[.bool t336, .slice Ao46 t337.length co46]) ?_ 0 _ rfl; refine blk_ups ?_; refine blk_far ?_ NB324_323.out _; refine blk_ups ?_; refine blk_far ?_ NB324_323.out _; exact blk_up BK324.out⟩
     have n10_ : Aside0 (Below w.heap.size w ((((w72.setCell ⟨gb323, 0, none⟩ (.bool t345)).setCell ⟨gb323, 1, none⟩ (.slice Ao74 t346.length co74)).setCell ⟨gb324, 0, none⟩ (.bool t349)).setCell ⟨gb324, 1, none⟩ (.slice Ao77 t350.length co77))) := ⟨by with_reducible repeat first | exact HB.out | apply below_alloc | apply pw_below_drewN | apply below_drew1 | refine below_set ?_ GE321.out | refine below_set ?_ GE322.out | refine below_set ?_ GE323.out | refine below_set ?_ GE324.out⟩
     (try clear HO_322001)
     (try clear HO_324001)
     (try clear HO_325001)
     (try clear HO344)
     (try clear HO348)
     (try clear HO352)
     (try clear BK321)
     (try clear BK322)
     (try clear BK323)
     (try clear BK324)
     (try clear HB)
     generalize ((((w72.setCell ⟨gb323, 0, none⟩ (.bool t345)).setCell ⟨gb323, 1, none⟩ (.slice Ao74 t346.length co74)).setCell ⟨gb324, 0, none⟩ (.bool t349)).setCell ⟨gb324, 1, none⟩ (.slice Ao77 t350.length co77)) = w79 at n0_ n1_ n2_ n3_ n4_ n5_ n6_ n7_ n8_ n9_ n10_ ⊢
     have HO_322001 := n0_
     have HO_324001 := n1_
     have HO_325001 := n2_
     have HO344 := n3_
     have HO348 := n4_
     have HO352 := n5_
     have BK321 := n6_
     have BK322 := n7_
     have BK323 := n8_
     have BK324 := n9_
     have HB := n10_
     clear n0_ n1_ n2_ n3_ n4_ n5_ n6_ n7_ n8_ n9_ n10_
     replace HO_322001 := Aside0.mk (Kd.V_drew HO_322001.out)
     replace HO_324001 := Aside0.mk (Kd.V_drew HO_324001.out)
     replace HO_325001 := Aside0.mk (Kd.V_drew HO_325001.out)
     replace HO344 := Aside0.mk (Kd.V_drew HO344.out)
     replace HO348 := Aside0.mk (Kd.V_drew HO348.out)
     replace HO352 := Aside0.mk (Kd.V_drew HO352.out)
     replace BK321 := Aside0.mk (blk_drew BK321.out)
     replace BK322 := Aside0.mk (blk_drew BK322.out)
     replace BK323 := Aside0.mk (blk_drew BK323.out)
     replace BK324 := Aside0.mk (blk_drew BK324.out)
     replace HB := Aside0.mk (below_drew1 HB.out)
     refine start_ (n := 5) (S := fun w' => w'.cell? ⟨gb323, 0, none⟩ = some (.bool t345) ∧ w'.cell? ⟨gb323, 1, none⟩ = some (.slice Ao74 t346.length co74) ∧ w'.cell? ⟨gb324, 0, none⟩ = some (.bool t349) ∧ w'.cell? ⟨gb324, 1, none⟩ = some (.slice Ao77 t350.length co77)) (ds := []) #[false, false, false, false, false] (by kernel_rfl) rfl rfl ⟨(blk_cell BK323.out 0).trans rfl, (blk_cell BK323.out 1).trans rfl, (blk_cell BK324.out 0).trans rfl, (blk_cell BK324.out 1).trans rfl⟩ (fun hHeld => ?_)
     generalize w79.drew = w80 at HO_322001 HO_324001 HO_325001 HO344 HO348 HO352 BK321 BK322 BK323 BK324 HB hHeld ⊢
     refine take_ (i := 0) (N := some 49) (v := ?_) (a' := ?_) #[true, false, false, false, false] rfl rfl (by kernel_rfl) (fun _ _ _ h => h) (Or.inl ⟨by rfl, ?_⟩) hHeld ?_ ?_
     rotate_left
     ·
      rintro w' ⟨s0, s1, s2, s3⟩
      go_simp
      with_reducible rfl
     rotate_left
     ·
      simp only [Act.put, List.setIfInBounds_toArray, List.set_cons_zero, List.set_cons_succ, i64_w, i32_w]
      rfl
     refine take_ (i := 1) (N := some 50) (v := ?_) (a' := ?_) #[true, true, false, false, false] rfl rfl (by kernel_rfl) (fun _ _ _ h => h) (Or.inl ⟨by rfl, ?_⟩) hHeld ?_ ?_
     rotate_left
     ·
      rintro w' ⟨s0, s1, s2, s3⟩
      go_simp
      with_reducible rfl
     rotate_left
     ·
      simp only [Act.put, List.setIfInBounds_toArray, List.set_cons_zero, List.set_cons_succ, i64_w, i32_w]
      rfl
     refine one_ (i := 2) (N := none) #[true, true, true, false, false] rfl rfl (by kernel_rfl) (by decide) (fun K hK => ?_)
     have hs81 : w80.cell? ⟨gb323, 0, none⟩ = some (.bool t345) := (blk_cell BK323.out 0).trans rfl
     have hfs81 := blk_frozen BK323.out 0
     have hns81_0 := NB321_323.out
     have hns81_1 := NB322_323.out
     have hns81_3 := NB324_323.out
     have hms81_0 := NB323_321.out
     have hms81_1 := NB323_322.out
     have hms81_3 := NB323_324.out
     have hs82 : w80.cell? ⟨gb323, 1, none⟩ = some (.slice Ao74 t346.length co74) := (blk_cell BK323.out 1).trans rfl
     have hfs82 := blk_frozen BK323.out 1
     have hns82_0 := NB321_323.out
     have hns82_1 := NB322_323.out
     have hns82_3 := NB324_323.out
     have hms82_0 := NB323_321.out
     have hms82_1 := NB323_322.out
     have hms82_3 := NB323_324.out
     refine skip_ (w1 := ?_) (by rfl) rfl ?_ ?_
     rotate_left
     ·
      go_simp
      rfl
     refine hK.out _ _ ⟨(cell_same ((cell_same (hHeld.1) (hHeld.1))) ((cell_same (hHeld.2.1) (hHeld.1)))), (cell_same ((cell_same (hHeld.2.1) (hHeld.1))) ((cell_same (hHeld.2.1) (hHeld.1)))), ((cell_far (p := ⟨gb323, _, none⟩) NB324_323.out _).trans (((cell_far (p := ⟨gb323, _, none⟩) NB324_323.out _).trans (hHeld.2.2.1)))), ((cell_far (p := ⟨gb323, _, none⟩) NB324_323.out _).trans (((cell_far (p := ⟨gb323, _, none⟩) NB324_323.out _).trans (hHeld.2.2.2))))⟩ (fun hHeld => ?_)
     clear hK K
     refine one_ (i := 3) (N := none) #[true, true, true, true, false] rfl rfl (by kernel_rfl) (by decide) (fun K hK => ?_)
     have hs83 : w80.cell? ⟨gb324, 0, none⟩ = some (.bool t349) := (blk_cell BK324.out 0).trans rfl
     have hfs83 := blk_frozen BK324.out 0
     have hns83_0 := NB321_324.out
     have hns83_1 := NB322_324.out
     have hns83_2 := NB323_324.out
     have hms83_0 := NB324_321.out
     have hms83_1 := NB324_322.out
     have hms83_2 := NB324_323.out
     have hs84 : w80.cell? ⟨gb324, 1, none⟩ = some (.slice Ao77 t350.length co77) := (blk_cell BK324.out 1).trans rfl
     have hfs84 := blk_frozen BK324.out 1
     have hns84_0 := NB321_324.out
     have hns84_1 := NB322_324.out
     have hns84_2 := NB323_324.out
     have hms84_0 := NB324_321.out
     have hms84_1 := NB324_322.out
     have hms84_2 := NB324_323.out
     refine skip_ (w1 := ?_) (by rfl) rfl ?_ ?_
     rotate_left
     ·
      go_simp
      rfl
     refine hK.out _ _ ⟨((cell_far (p := ⟨gb324, _, none⟩) NB323_324.out _).trans (((cell_far (p := ⟨gb324, _, none⟩) NB323_324.out _).trans (hHeld.1)))), ((cell_far (p := ⟨gb324, _, none⟩) NB323_324.out _).trans (((cell_far (p := ⟨gb324, _, none⟩) NB323_324.out _).trans (hHeld.2.1)))), (cell_same ((cell_same (hHeld.2.2.1) (hHeld.2.2.1))) ((cell_same (hHeld.2.2.2) (hHeld.2.2.1)))), (cell_same ((cell_same (hHeld.2.2.2) (hHeld.2.2.1))) ((cell_same (hHeld.2.2.2) (hHeld.2.2.1))))⟩ (fun hHeld => ?_)
     clear hK K
     refine pure_ (i := 4) (N := some 6) (v := ?_) (a' := ?_) #[true, true, true, true, true] rfl rfl (by kernel_rfl) (fun _ _ _ h => h) (Or.inl ⟨by rfl, ?_⟩) ?_ ?_
     rotate_left
     ·
      intro w'
      go_simp
      with_reducible rfl
     rotate_left
     ·
      simp only [Act.put, List.setIfInBounds_toArray, List.set_cons_zero, List.set_cons_succ, i64_w, i32_w]
      rfl
     refine done_ (by kernel_rfl) ?_
     try go_wp2
     refine bodyPost_ret (results_list (rs := [.cell 4 25, .cell 5 25, .tmp 6]) rfl (by simp) (.cell gb323 25 #[.bool t345, .slice Ao74 t346.length co74] (0, 0) _ rfl (by refine blk_ups ?_; refine blk_far ?_ NB323_324.out _; refine blk_ups ?_; refine blk_far ?_ NB323_324.out _; refine blk_ups ?_; refine blk_put (cs := #[.bool t345, .slice Ao74 t346.length co74]) ?_ 1 _ rfl; refine blk_ups ?_; refine blk_put (cs := #[.bool t345, .slice Ao74 t346.length co74]) ?_ 0 _ rfl; exact blk_up BK323.out) Tryd.underlying25 rfl (by kernel_rfl) (.cell gb324 25 #[.bool t349, .slice Ao77 t350.length co77] (0, 0) _ rfl (by refine blk_ups ?_; refine blk_put (cs := #[.bool t349, .slice Ao77 t350.length co77]) ?_ 1 _ rfl; refine blk_ups ?_; refine blk_put (cs := #[.bool t349, .slice Ao77 t350.length co77]) ?_ 0 _ rfl; refine blk_ups ?_; refine blk_far ?_ NB324_323.out _; refine blk_ups ?_; refine blk_far ?_ NB324_323.out _; exact blk_up BK324.out) Tryd.underlying25 rfl (by kernel_rfl) (.tmp .nil)))) rfl ?_
     exact ⟨_, _, by first | rfl | (simp [errW_none, errW_some] <;> rfl) | (simp [*, errW_none, errW_some] <;> rfl), Kd.V_up (Kd.V_mono (Kd.V_far (p := ⟨gb324, 1, none⟩) (Kd.V_far (p := ⟨gb324, 0, none⟩) (Kd.V_far (p := ⟨gb323, 1, none⟩) (Kd.V_far (p := ⟨gb323, 0, none⟩) (Kd.V_mono (Kd.V_mono HO348.out (fun k_ hk => (⟨hk, hk.2.2.2.1⟩ : _ ∧ k_ ≠ gb323))) (fun k_ hk => (⟨hk, hk.1.2.2.2.2⟩ : _ ∧ k_ ≠ gb324))) (fun _ hk => hk.1.2) (.bool t345)) (fun _ hk => hk.1.2) (.slice Ao74 t346.length co74)) (fun _ hk => hk.2) (.bool t349)) (fun _ hk => hk.2) (.slice Ao77 t350.length co77)) (fun _ hk => hk.1.1.1)), Kd.V_up (Kd.V_mono (Kd.V_far (p := ⟨gb324, 1, none⟩) (Kd.V_far (p := ⟨gb324, 0, none⟩) (Kd.V_far (p := ⟨gb323, 1, none⟩) (Kd.V_far (p := ⟨gb323, 0, none⟩) (Kd.V_mono (Kd.V_mono HO352.out (fun k_ hk => (⟨hk, hk.2.2.2.1⟩ : _ ∧ k_ ≠ gb323))) (fun k_ hk => (⟨hk, hk.1.2.2.2.2⟩ : _ ∧ k_ ≠ gb324))) (fun _ hk => hk.1.2) (.bool t345)) (fun _ hk => hk.1.2) (.slice Ao74 t346.length co74)) (fun _ hk => hk.2) (.bool t349)) (fun _ hk => hk.2) (.slice Ao77 t350.length co77)) (fun _ hk => hk.1.1.1)), by with_reducible repeat first | exact HB.out | apply below_alloc | apply pw_below_drewN | apply below_drew1 | refine below_set ?_ GE321.out | refine below_set ?_ GE322.out | refine below_set ?_ GE323.out | refine below_set ?_ GE324.out⟩
    ·
     replace c64 := Bool.eq_false_iff.mpr c64
     subst c64
     have H1 : (some (t332, t333, t336, t337, 0)) = some (r1, r2, r3, r4, r5) := by rw [if_neg (show ¬ (false = true) by decide)] at H; exact H
     clear H
     have H := H1
     clear H1
     simp only [Option.some.injEq, Prod.mk.injEq] at H
     obtain ⟨rfl, rfl, rfl, rfl, rfl⟩ := H
     try go_wp2
     replace HO_322001 := Aside0.mk (Kd.V_drew HO_322001.out)
     replace HO_324001 := Aside0.mk (Kd.V_drew HO_324001.out)
     replace HO_325001 := Aside0.mk (Kd.V_drew HO_325001.out)
     replace BK321 := Aside0.mk (blk_drew BK321.out)
     replace BK322 := Aside0.mk (blk_drew BK322.out)
     replace BK323 := Aside0.mk (blk_drew BK323.out)
     replace BK324 := Aside0.mk (blk_drew BK324.out)
     replace HB := Aside0.mk (below_drew1 HB.out)
     refine start_ (n := 5) (S := fun w' => w'.cell? ⟨gb323, 0, none⟩ = some (.bool t332) ∧ w'.cell? ⟨gb323, 1, none⟩ = some (.slice Ao43 t333.length co43) ∧ w'.cell? ⟨gb324, 0, none⟩ = some (.bool t336) ∧ w'.cell? ⟨gb324, 1, none⟩ = some (.slice Ao46 t337.length co46)) (ds := []) #[false, false, false, false, false] (by kernel_rfl) rfl rfl ⟨(blk_cell BK323.out 0).trans rfl, (blk_cell BK323.out 1).trans rfl, (blk_cell BK324.out 0).trans rfl, (blk_cell BK324.out 1).trans rfl⟩ (fun hHeld => ?_)
     generalize wc.drew = w85 at HO_322001 HO_324001 HO_325001 BK321 BK322 BK323 BK324 HB hHeld ⊢
     refine take_ (i := 0) (N := some 49) (v := ?_) (a' := ?_) #[true, false, false, false, false] rfl rfl (by kernel_rfl) (fun _ _ _ h => h) (Or.inl ⟨by rfl, ?_⟩) hHeld ?_ ?_
     rotate_left
     ·
      rintro w' ⟨s0, s1, s2, s3⟩
      go_simp
      with_reducible rfl
     rotate_left
     ·
      simp only [Act.put, List.setIfInBounds_toArray, List.set_cons_zero, List.set_cons_succ, i64_w, i32_w]
      rfl
     refine take_ (i := 1) (N := some 50) (v := ?_) (a' := ?_) #[true, true, false, false, false] rfl rfl (by kernel_rfl) (fun _ _ _ h => h) (Or.inl ⟨by rfl, ?_⟩) hHeld ?_ ?_
     rotate_left
     ·
      rintro w' ⟨s0, s1, s2, s3⟩
      go_simp
      with_reducible rfl
     rotate_left
     ·
      simp only [Act.put, List.setIfInBounds_toArray, List.set_cons_zero, List.set_cons_succ, i64_w, i32_w]
      rfl
     refine one_ (i := 2) (N := none) #[true, true, true, false, false] rfl rfl (by kernel_rfl) (by decide) (fun K hK => ?_)
     have hs86 : w85.cell? ⟨gb323, 0, none⟩ = some (.bool t332) := (blk_cell BK323.out 0).trans rfl
     have hfs86 := blk_frozen BK323.out 0
     have hns86_0 := NB321_323.out
     have hns86_1 := NB322_323.out
     have hns86_3 := NB324_323.out
     have hms86_0 := NB323_321.out
     have hms86_1 := NB323_322.out
     have hms86_3 := NB323_324.out
     have hs87 : w85.cell? ⟨gb323, 1, none⟩ = some (.slice Ao43 t333.length co43) := (blk_cell BK323.out 1).trans rfl
     have hfs87 := blk_frozen BK323.out 1
     have hns87_0 := NB321_323.out
     have hns87_1 := NB322_323.out
     have hns87_3 := NB324_323.out
     have hms87_0 := NB323_321.out
     have hms87_1 := NB323_322.out
     have hms87_3 := NB323_324.out
     refine skip_ (w1 := ?_) (by rfl) rfl ?_ ?_
     rotate_left
     ·
      go_simp
      rfl
     refine hK.out _ _ ⟨(cell_same ((cell_same (hHeld.1) (hHeld.1))) ((cell_same (hHeld.2.1) (hHeld.1)))), (cell_same ((cell_same (hHeld.2.1) (hHeld.1))) ((cell_same (hHeld.2.1) (hHeld.1)))), ((cell_far (p := ⟨gb323, _, none⟩) NB324_323.out _).trans (((cell_far (p := ⟨gb323, _, none⟩) NB324_323.out _).trans (hHeld.2.2.1)))), ((cell_far (p := ⟨gb323, _, none⟩) NB324_323.out _).trans (((cell_far (p := ⟨gb323, _, none⟩) NB324_323.out _).trans (hHeld.2.2.2))))⟩ (fun hHeld => ?_)
     clear hK K
     refine one_ (i := 3) (N := none) #[true, true, true, true, false] rfl rfl (by kernel_rfl) (by decide) (fun K hK => ?_)
     have hs88 : w85.cell? ⟨gb324, 0, none⟩ = some (.bool t336) := (blk_cell BK324.out 0).trans rfl
     have hfs88 := blk_frozen BK324.out 0
     have hns88_0 := NB321_324.out
     have hns88_1 := NB322_324.out
     have hns88_2 := NB323_324.out
     have hms88_0 := NB324_321.out
     have hms88_1 := NB324_322.out
     have hms88_2 := NB324_323.out
     have hs89 : w85.cell? ⟨gb324, 1, none⟩ = some (.slice Ao46 t337.length co46) := (blk_cell BK324.out 1).trans rfl
     have hfs89 := blk_frozen BK324.out 1
     have hns89_0 := NB321_324.out
     have hns89_1 := NB322_324.out
     have hns89_2 := NB323_324.out
     have hms89_0 := NB324_321.out
     have hms89_1 := NB324_322.out
     have hms89_2 := NB324_323.out
     refine skip_ (w1 := ?_) (by rfl) rfl ?_ ?_
     rotate_left
     ·
      go_simp
      rfl
     refine hK.out _ _ ⟨((cell_far (p := ⟨gb324, _, none⟩) NB323_324.out _).trans (((cell_far (p := ⟨gb324, _, none⟩) NB323_324.out _).trans (hHeld.1)))), ((cell_far (p := ⟨gb324, _, none⟩) NB323_324.out _).trans (((cell_far (p := ⟨gb324, _, none⟩) NB323_324.out _).trans (hHeld.2.1)))), (cell_same ((cell_same (hHeld.2.2.1) (hHeld.2.2.1))) ((cell_same (hHeld.2.2.2) (hHeld.2.2.1)))), (cell_same ((cell_same (hHeld.2.2.2) (hHeld.2.2.1))) ((cell_same (hHeld.2.2.2) (hHeld.2.2.1))))⟩ (fun hHeld => ?_)
     clear hK K
     refine pure_ (i := 4) (N := some 6) (v := ?_) (a' := ?_) #[true, true, true, true, true] rfl rfl (by kernel_rfl) (fun _ _ _ h => h) (Or.inl ⟨by rfl, ?_⟩) ?_ ?_
     rotate_left
     ·
      intro w'
      go_simp
      with_reducible rfl
     rotate_left
     ·
      simp only [Act.put, List.setIfInBounds_toArray, List.set_cons_zero, List.set_cons_succ, i64_w, i32_w]
      rfl
     refine done_ (by kernel_rfl) ?_
     try go_wp2
     refine bodyPost_ret (results_list (rs := [.cell 4 25, .cell 5 25, .tmp 6]) rfl (by simp) (.cell gb323 25 #[.bool t332, .slice Ao43 t333.length co43] (0, 0) _ rfl (by refine blk_ups ?_; refine blk_far ?_ NB323_324.out _; refine blk_ups ?_; refine blk_far ?_ NB323_324.out _; refine blk_ups ?_; refine blk_put (cs := #[.bool t332, .slice Ao43 t333.length co43]) ?_ 1 _ rfl; refine blk_ups ?_; refine blk_put (cs := #[.bool t332, .slice Ao43 t333.length co43]) ?_ 0 _ rfl; exact blk_up BK323.out) Tryd.underlying25 rfl (by kernel_rfl) (.cell gb324 25 #[.bool t336, .slice Ao46 t337.length co46] (0, 0) _ rfl (by refine blk_ups ?_; refine blk_put (cs := #[.bool t336, .slice Ao46 t337.length co46]) ?_ 1 _ rfl; refine blk_ups ?_; refine blk_put (cs := #[.bool t336, .slice Ao46 t337.length co46]) ?_ 0 _ rfl; refine blk_ups ?_; refine blk_far ?_ NB324_323.out _; refine blk_ups ?_; refine blk_far ?_ NB324_323.out _; exact blk_up BK324.out) Tryd.underlying25 rfl (by kernel_rfl) (.tmp .nil)))) rfl ?_
     exact ⟨_, _, by first | rfl | (simp [errW_none, errW_some] <;> rfl) | (simp [*, errW_none, errW_some] <;> rfl), Kd.V_up (Kd.V_mono (Kd.V_far (p := ⟨gb324, 1, none⟩) (Kd.V_far (p := ⟨gb324, 0, none⟩) (Kd.V_far (p := ⟨gb323, 1, none⟩) (Kd.V_far (p := ⟨gb323, 0, none⟩) (Kd.V_mono (Kd.V_mono HO_324001.out (fun k_ hk => (⟨hk, hk.2.2.2.1⟩ : _ ∧ k_ ≠ gb323))) (fun k_ hk => (⟨hk, hk.1.2.2.2.2⟩ : _ ∧ k_ ≠ gb324))) (fun _ hk => hk.1.2) (.bool t332)) (fun _ hk => hk.1.2) (.slice Ao43 t333.length co43)) (fun _ hk => hk.2) (.bool t336)) (fun _ hk => hk.2) (.slice Ao46 t337.length co46)) (fun _ hk => hk.1.1.1)), Kd.V_up (Kd.V_mono (Kd.V_far (p := ⟨gb324, 1, none⟩) (Kd.V_far (p := ⟨gb324, 0, none⟩) (Kd.V_far (p := ⟨gb323, 1, none⟩) (Kd.V_far (p := ⟨gb323, 0, none⟩) (Kd.V_mono (Kd.V_mono HO_325001.out (fun k_ hk => (⟨hk, hk.2.2.2.1⟩ : _ ∧ k_ ≠ gb323))) (fun k_ hk => (⟨hk, hk.1.2.2.2.2⟩ : _ ∧ k_ ≠ gb324))) (fun _ hk => hk.1.2) (.bool t332)) (fun _ hk => hk.1.2) (.slice Ao43 t333.length co43)) (fun _ hk => hk.2) (.bool t336)) (fun _ hk => hk.2) (.slice Ao46 t337.length co46)) (fun _ hk => hk.1.1.1)), by with_reducible repeat first | exact HB.out | apply below_alloc | apply pw_below_drewN | apply below_drew1 | refine below_set ?_ GE321.out | refine below_set ?_ GE322.out | refine below_set ?_ GE323.out | refine below_set ?_ GE324.out⟩
end Go.Proofs.YtiikfhdmclmjmaaDoor.P
