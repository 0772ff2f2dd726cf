/- Part 5 of the proof of IntegerDivides: what the program's functions compute, told as plain functions, and what these answer. Conditions: none beside the statement's own. Gathered by the session's program merge.py out of its own and the printed texts; no declaration that the proof does not name is left in. -/
import Derived.Test.YtiikfhdmclmjmaaDoorIDiv4
set_option linter.unusedVariables false
set_option linter.unusedSimpArgs false
namespace Go.Proofs.YtiikfhdmclmjmaaDoor.P
open Go.RowKit Go.Proofs.YtiikfhdmclmjmaaDoorW.PrintWords Go.Proofs.YtiikfhdmclmjmaaDoorW.PrintLast
def integer_scale.l0 : Nat → List Int → Int → List Int → Int → List Int → Int → Int → Option (List Int)
 | 0, _, _, _, _, _, _, _ => none
 | k + 1, x0, x1, x7, x8, x17, x18, x19 => if x19 < x18 then (if 0 ≤ x19 then (if x19 < (x17.length : Int) then (if x19 < (x7.length : Int) then (integer_scale.l0 k x0 x1 (x7.set (x19 : Int).toNat ((IntKind.u64.wrap (x8 + (IntKind.u64.wrap ((IntKind.u64.wrap (rd x17 x19)) * (IntKind.u64.wrap (x1)))))) % 4294967296)) ((IntKind.u64.wrap (x8 + (IntKind.u64.wrap ((IntKind.u64.wrap (rd x17 x19)) * (IntKind.u64.wrap (x1)))))) / 4294967296) x17 x18 (wrap64 (x19 + 1))) else (none)) else (none)) else (none)) else (if 0 ≤ (x0.length : Int) then (if (x0.length : Int) < (x7.length : Int) then ((integer_trim.f k (x7.set ((x0.length : Int) : Int).toNat ((x8) % 4294967296))).bind fun t513 => (some t513)) else (none)) else (none))
def integer_scale.f (k : Nat) (l0 : List Int) (a1 : Int) (a2 : Int) : Option (List Int) := if 0 ≤ (wrap64 ((l0.length : Int) + 1)) then (if (wrap64 ((l0.length : Int) + 1) : Int).toNat ≤ 70368744177664 then (integer_scale.l0 k l0 a1 (List.replicate (wrap64 ((l0.length : Int) + 1) : Int).toNat 0) (IntKind.u64.wrap (a2)) l0 (l0.length : Int) 0) else (none)) else (none)
theorem integer_scale.mono_l : ∀ k, (∀ y0 y1 y2 y3 y4 y5 y6, LeO (integer_scale.l0 k y0 y1 y2 y3 y4 y5 y6) (integer_scale.l0 (k + 1) y0 y1 y2 y3 y4 y5 y6))
 | 0 => fun _ _ _ _ _ _ _ r h => by simp [integer_scale.l0] at h
 | k + 1 => by
  have ih0 := integer_scale.mono_l k
  ·
   intro y0 y1 y2 y3 y4 y5 y6
   unfold integer_scale.l0
   repeat' first
   | (with_reducible exact ih0 _ _ _ _ _ _ _)
   | (with_reducible exact integer_trim.mono _ _)
   | (with_reducible exact LeO.refl _)
   | (with_reducible exact LeO.none _)
   | (with_reducible refine LeO.ite ?_ ?_)
   | (with_reducible refine LeO.bind ?_ (fun _ => ?_))
theorem integer_scale.mono : ∀ a0 a1 a2 k, LeO (integer_scale.f k a0 a1 a2) (integer_scale.f (k + 1) a0 a1 a2) := by
 intro a0 a1 a2 k
 have ih0 := integer_scale.mono_l k
 unfold integer_scale.f
 repeat' first
   | (with_reducible exact ih0 _ _ _ _ _ _ _)
   | (with_reducible exact integer_trim.mono _ _)
   | (with_reducible exact LeO.refl _)
   | (with_reducible exact LeO.none _)
   | (with_reducible refine LeO.ite ?_ ?_)
   | (with_reducible refine LeO.bind ?_ (fun _ => ?_))
set_option maxHeartbeats 8000000 in
set_option maxRecDepth 100000 in
theorem integer_scale.calls (k : Nat) (A0 : Option Addr) (c0 : Nat) (l0 : List Int) (a1 : Int) (a2 : Int) (r : List Int) (w : World) (hr0 : Kd.C (Kd.int .u32) w A0 l0.length l0) (hc0 : l0.length ≤ c0) (h : integer_scale.f k l0 a1 a2 = some r) :
  Calls Tryd.prog 57 #[.slice A0 l0.length c0, .int .u32 a1, .int .u32 a2] w fun e w' => ∃ v0_ : Value, e = .returned (v0_) ∧ Kd.V (Kd.int .u32) 60 w' w.heap.size (fun k_ => (w.heap.size ≤ k_)) v0_ r ∧ Below w.heap.size w w' := by
 have HR0 := Aside0.mk hr0
 have HC0 := Aside0.mk hc0
 clear hr0 hc0
 have HB := Aside0.mk (Below.refl w.heap.size w)
 have H := h
 unfold integer_scale.f at H
 clear h
 obtain ⟨ji4, hji4⟩ : ∃ j_ : Int, (wrap64 ((l0.length : Int) + 1)) = j_ := ⟨_, rfl⟩
 replace H : (if 0 ≤ (ji4) then (if (ji4 : Int).toNat ≤ 70368744177664 then (integer_scale.l0 k l0 a1 (List.replicate (ji4 : Int).toNat 0) (IntKind.u64.wrap (a2)) l0 (l0.length : Int) 0) else (none)) else (none)) = some r := by first | (rw [hji4] at H; exact H) | (simp only [hji4] at H ⊢; exact H)
 have hji4w : (IntKind.i64.wrap ((l0.length : Int) + 1)) = ji4 := (i64_w _).trans hji4
 by_cases c5 : 0 ≤ (ji4)
 ·
  rw [if_pos c5] at H
  have c5b0 := eq_true c5
  have c5b1 := decide_eq_true c5
  clear c5
  obtain ⟨c6, H⟩ := ite_some H
  have c6b0 := eq_true c6
  have c6b1 := decide_eq_true c6
  clear c6
  obtain ⟨y507, hy507⟩ : ∃ y_ : List Int, y_ = (List.replicate (ji4 : Int).toNat 0) := ⟨_, rfl⟩
  replace H : (integer_scale.l0 k l0 a1 y507 (IntKind.u64.wrap (a2)) l0 (l0.length : Int) 0) = some r := by first | (rw [hy507]; exact H) | exact H
  have Ny507 := Aside0.mk hy507
  clear hy507
  have H' := Aside0.mk H
  clear H
  go_enter Tryd.func57, Tryd.ntmps57
  go_wp2_with (first | ((with_reducible refine gate_dst (N := 14) rfl ?_); refine Kd.R_make (Kd.int .u32) _ 60 rfl (N := 14) rfl 23 _ _ rfl ji4 rfl rfl Tryd.underlying23 (.int .u32 0) 4 info60 rfl (by decide) (by omega) 0 (ok := fun _ => True) (okp := fun _ => True) rfl (fun _ hk => hk) trivial (of_decide_eq_true (by assumption)) (Nat.le_trans (Nat.mul_le_mul_right _ (of_decide_eq_true (by assumption) : ji4.toNat ≤ 70368744177664)) (by omega)) (Below.refl _ _) (Nat.le_refl _) ?_; intro v508 w7 ho8 hb hg_ hnew_; clear hg_ hnew_; (first | rw [← Ny507.out] at ho8 | (simp only [Int.reduceToNat] at ho8; rw [← Ny507.out] at ho8)); have HO509 := Aside0.mk (Kd.R_lower (Kd.R_newM (M := fun k_ => (w.heap.size ≤ k_)) ho8 (below_size (below_up HB.out)) (fun k_ h_ => h_)) (below_size (below_up HB.out))); replace HB := Aside0.mk (below_step (below_up HB.out) hb); clear hb ho8))
  go_loopg [8, 19] k (fun kq v8 v19 w' => ∃ (x7_1 : List Int) (x8_1 : Int) (x19_1 : Int), v8 = .int .u64 x8_1 ∧ v19 = .int .i64 x19_1 ∧ Aside0 (integer_scale.l0 kq l0 a1 x7_1 x8_1 l0 (l0.length : Int) x19_1 = some r) ∧ Aside0 (kq ≤ k) ∧ Aside0 (Kd.R (Kd.int .u32) 60 w' w.heap.size (fun k_ => (w.heap.size ≤ k_)) v508 x7_1) ∧ Aside0 (Below w.heap.size w w'))
  case atStart => exact ⟨(y507), (IntKind.u64.wrap (a2)), (0), (by first | rfl | (simp; done) | (simp [*]; done) | (simp <;> omega)), (by first | rfl | (simp; done) | (simp [*]; done) | (simp <;> omega)), H', ⟨Nat.le_refl _⟩, ⟨Kd.R_up (Kd.R_mono HO509.out (fun _ hk => hk.1))⟩, ⟨below_up HB.out⟩⟩
  case round =>
   clear H'
   obtain ⟨x7_1, x8_1, x19_1, rfl, rfl, HA, HK1, HO_7, HB⟩ := hrel
   cases gk with
   | zero => exact absurd HA.out (by simp [integer_scale.l0])
   | succ k1 =>
    have H := HA.out
    clear HA
    simp only [integer_scale.l0] at H
    by_cases c9 : x19_1 < (l0.length : Int)
    ·
     rw [if_pos c9] at H
     have c9b0 := decide_eq_true c9
     clear c9
     obtain ⟨c10, H⟩ := ite_some H
     have c10b0 := decide_eq_true c10
     clear c10
     obtain ⟨c11, H⟩ := ite_some H
     have c11b0 := decide_eq_true c11
     clear c11
     obtain ⟨c12, H⟩ := ite_some H
     have c12b0 := decide_eq_true c12
     clear c12
     obtain ⟨y511, hy511⟩ : ∃ y_ : List Int, y_ = (x7_1.set (x19_1 : Int).toNat ((IntKind.u64.wrap (x8_1 + (IntKind.u64.wrap ((IntKind.u64.wrap (rd l0 x19_1)) * (IntKind.u64.wrap (a1)))))) % 4294967296)) := ⟨_, rfl⟩
     replace H : (integer_scale.l0 k1 l0 a1 y511 ((IntKind.u64.wrap (x8_1 + (IntKind.u64.wrap ((IntKind.u64.wrap (rd l0 x19_1)) * (IntKind.u64.wrap (a1)))))) / 4294967296) l0 (l0.length : Int) (wrap64 (x19_1 + 1))) = some r := by first | (rw [hy511]; exact H) | exact H
     have Ny511 := Aside0.mk hy511
     clear hy511
     have H' := Aside0.mk H
     clear H
     have p510 : 0 ≤ (x19_1 : Int) := of_decide_eq_true (by assumption)
     have q510 : x19_1 < (l0.length : Int) := of_decide_eq_true (by assumption)
     obtain ⟨ad510, e510, hx510_0⟩ := Kd.at_int HR0.out x19_1 p510 q510
     cases e510
     replace hx510_0 := (HB.out.cell (World.block_lt_of_cell? w _ hx510_0)).trans hx510_0
     replace p510 := eq_true p510
     replace q510 := eq_true q510
     have p13 : 0 ≤ (x19_1 : Int) := of_decide_eq_true (by assumption)
     have q13 : (x19_1 : Int) < ((x7_1.length : Int) : Int) := of_decide_eq_true (by assumption)
     obtain ⟨go13, co13, eo13, gb13, gl13, cl13, HG13⟩ := Kd.R_form HO_7.out (by omega)
     (first | cases eo13 | (injection eo13 with ea_ en_ ec_; (first | subst ea_ | (injection ea_ with ea_; subst ea_)); subst ec_; clear en_))
     have GB13 := Aside0.mk gb13
     have GG13 := Aside0.mk HG13
     clear gb13 gl13 HG13
     obtain ⟨hx13_0, hf13_0⟩ := Kd.R_celln 0 HO_7.out (x19_1 : Int) p13 q13
     replace p13 := eq_true p13
     replace q13 := eq_true q13
     have HP14 := Kd.R_putg HO_7.out (x19_1 : Int) ((IntKind.u64.wrap (x8_1 + (IntKind.u64.wrap ((IntKind.u64.wrap (rd l0 x19_1)) * (IntKind.u64.wrap (a1)))))) % 4294967296)
     go_wp2_with (first | ((with_reducible refine gate_store (t := 60) (p := 35) rfl ?_); refine store_event (t := 60) (p := 35) (v := ?vo_w15) (w1 := (wr.setCell ⟨go13, (x19_1 : Int).toNat, none⟩ (.int .u32 ((IntKind.u64.wrap (x8_1 + (IntKind.u64.wrap ((IntKind.u64.wrap (rd l0 x19_1)) * (IntKind.u64.wrap (a1)))))) % 4294967296)))) ?hg ?ho ?hn ?hr ?_; (case ho => rfl); (case hg => rfl); (case hn => rfl); (case hr => first | (go_simp; done) | (go_simp; rfl)); intro w15 hw; have hg : wr.grownBy w15 (some go13) := (by rw [hw]; exact HP14.2); have hp_ : Kd.R (Kd.int .u32) 60 w15 w.heap.size (fun k_ => (w.heap.size ≤ k_)) (.slice (some ⟨go13, 0, none⟩) x7_1.length co13) y511 := (by rw [hw, Ny511.out]; exact HP14.1); clear HP14; replace HO_7 := Aside0.mk (hp_); replace HB := Aside0.mk ((by rw [hw]; exact below_set (HB.out) GB13.out : Below w.heap.size w w15)); clear hg hw hp_))
     go_roundg k1
     case measure => have := HK1.out; omega
     case rel => exact ⟨(y511), ((IntKind.u64.wrap (x8_1 + (IntKind.u64.wrap ((IntKind.u64.wrap (rd l0 x19_1)) * (IntKind.u64.wrap (a1)))))) / 4294967296), (wrap64 (x19_1 + 1)), (by first | rfl | (simp; done) | (simp [*]; done) | (simp <;> omega)), (by first | rfl | (simp; done) | (simp [*]; done) | (simp <;> omega)), H', ⟨by have := HK1.out; omega⟩, ⟨Kd.R_up HO_7.out⟩, ⟨below_up HB.out⟩⟩
    ·
     rw [if_neg c9] at H
     have c9b0 := decide_eq_false c9
     clear c9
     obtain ⟨c16, H⟩ := ite_some H
     have c16b0 := decide_eq_true c16
     have c16b1 : decide (0 ≤ l0.length) = true := decide_eq_true (by omega)
     clear c16
     obtain ⟨c17, H⟩ := ite_some H
     have c17b0 := decide_eq_true c17
     have c17b1 : decide (l0.length < x7_1.length) = true := decide_eq_true (Int.ofNat_lt.mp c17)
     clear c17
     obtain ⟨y512, hy512⟩ : ∃ y_ : List Int, y_ = (x7_1.set ((l0.length : Int) : Int).toNat ((x8_1) % 4294967296)) := ⟨_, rfl⟩
     replace H : ((integer_trim.f k1 y512).bind fun t513 => (some t513)) = some r := by first | (rw [hy512]; exact H) | exact H
     have Ny512 := Aside0.mk hy512
     clear hy512
     replace H := Option.bind_eq_some_iff.mp H
     obtain ⟨t513, A190, H⟩ := H
     try dsimp only at H
     have A19 := Aside0.mk A190
     clear A190
     obtain rfl := Option.some.inj H
     have p18 : 0 ≤ ((l0.length : Int) : Int) := of_decide_eq_true (by assumption)
     have q18 : ((l0.length : Int) : Int) < ((x7_1.length : Int) : Int) := of_decide_eq_true (by assumption)
     obtain ⟨go18, co18, eo18, gb18, gl18, cl18, HG18⟩ := Kd.R_form HO_7.out (by omega)
     (first | cases eo18 | (injection eo18 with ea_ en_ ec_; (first | subst ea_ | (injection ea_ with ea_; subst ea_)); subst ec_; clear en_))
     have GB18 := Aside0.mk gb18
     have GG18 := Aside0.mk HG18
     clear gb18 gl18 HG18
     obtain ⟨hx18_0, hf18_0⟩ := Kd.R_celln 0 HO_7.out ((l0.length : Int) : Int) p18 q18
     (try simp only [Go.IntWalk.toNatUp] at hx18_0 hf18_0)
     replace p18 := eq_true p18
     replace q18 := eq_true q18
     have HP20 := Kd.R_putg HO_7.out ((l0.length : Int) : Int) ((x8_1) % 4294967296)
     go_wp2_with (first | ((with_reducible refine gate_store (t := 60) (p := 44) rfl ?_); refine store_event (t := 60) (p := 44) (v := ?vo_w21) (w1 := (wr.setCell ⟨go18, ((l0.length : Int) : Int).toNat, none⟩ (.int .u32 ((x8_1) % 4294967296)))) ?hg ?ho ?hn ?hr ?_; (case ho => rfl); (case hg => rfl); (case hn => rfl); (case hr => first | (go_simp; done) | (go_simp; rfl)); intro w21 hw; have hg : wr.grownBy w21 (some go18) := (by rw [hw]; exact HP20.2); have hp_ : Kd.R (Kd.int .u32) 60 w21 w.heap.size (fun k_ => (w.heap.size ≤ k_)) (.slice (some ⟨go18, 0, none⟩) x7_1.length co18) y512 := (by rw [hw, Ny512.out]; exact HP20.1); clear HP20; replace HO_7 := Aside0.mk (hp_); replace HB := Aside0.mk ((by rw [hw]; exact below_set (HB.out) GB18.out : Below w.heap.size w w21)); clear hg hw hp_) | ((with_reducible refine gate_callee (f := 67) rfl ?_); refine goesL_ (some 46) rfl rfl Tryd.func67 (by kernel_rfl) rfl #[.slice (some ⟨go18, 0, none⟩) y512.length co18] rfl (by (try simp only [List.map_toArray, List.map_cons, List.map_nil]); first | done | (rw [show y512.length = x7_1.length from (Kd.R_reads' HO_7.out).1.symm] <;> rfl) | rfl | (simp only [List.length_drop, List.length_take]; rfl)) ?_; (with_reducible refine (integer_trim.calls k1 (fun k_ => some k_ = (.slice (some ⟨go18, 0, none⟩) x7_1.length co18 : Value).ownBlock) _ _ y512 t513 _ ?side1 A19.out).mono ?_); (case side1 => rw [show y512.length = x7_1.length from (Kd.R_reads' HO_7.out).1.symm]; exact Kd.R_V (Kd.R_tight rfl (HO_7.out))); rintro e w22 ⟨v514, rfl, ho0, hb⟩; refine ⟨_, rfl, ?_⟩; have n1_ := Aside0.mk (Kd.V_lower (Kd.V_mono (ok' := fun k_ => (w.heap.size ≤ k_)) ho0 (fun k_ hk_ => Or.elim hk_ (fun hs_ => ((HO_7.out).1 k_ hs_.symm)) (fun hn_ => (Nat.le_trans (below_size (below_up HB.out)) hn_)))) (below_size (below_up HB.out))); have n2_ := Aside0.mk (below_step (below_up HB.out) hb); (try clear HO_7); clear HB; have HO515 := n1_; have HB := n2_; clear n1_ n2_; (try clear hb); (try clear hb2); (try clear hk); (try clear hi); (try clear ho0)))
     go_ret
     exact ⟨_, by first | rfl | (simp [errW_none, errW_some] <;> rfl) | (simp only [← hji4]; first | rfl | (simp [errW_none, errW_some] <;> rfl)) | (simp [*, errW_none, errW_some] <;> rfl), Kd.V_up HO515.out, below_up HB.out⟩
 ·
  rw [if_neg c5] at H
  exact absurd H (by simp)
mutual
def integer_Parse.j0 : Nat → ByteArray → Bool → Bool → Option (Bool × List Int × Int)
 | 0, _, _, _ => none
 | k + 1, x4, x5, x25 => if x25 = true then (some (false, ([] : List Int), 14)) else (if 0 < (x4.size : Int) then (if (bt x4 0) = 48 then (if (x4.size : Int) > 1 then (integer_Parse.j1 k x4 x5 true) else (integer_Parse.j1 k x4 x5 x5)) else (integer_Parse.j1 k x4 x5 false)) else (none))
def integer_Parse.j1 : Nat → ByteArray → Bool → Bool → Option (Bool × List Int × Int)
 | 0, _, _, _ => none
 | k + 1, x4, x5, x37 => if x37 = true then (some (false, ([] : List Int), 3)) else (integer_Parse.l0 k x4 x5 ([] : List Int))
def integer_Parse.l0 : Nat → ByteArray → Bool → List Int → Option (Bool × List Int × Int)
 | 0, _, _, _ => none
 | k + 1, x4, x5, x6 => if (x4.size : Int) > 0 then (integer_Parse.l1 k x4 x5 x6 (wrap64 ((Int.tmod (wrap64 ((x4.size : Int) - 1)) 9) + 1)) 1 (wrap64 ((Int.tmod (wrap64 ((x4.size : Int) - 1)) 9) + 1)) 0) else ((integer_signed.f k x5 x6).bind fun bt520 => (some (bt520.1, bt520.2, 0)))
def integer_Parse.l1 : Nat → ByteArray → Bool → List Int → Int → Int → Int → Int → Option (Bool × List Int × Int)
 | 0, _, _, _, _, _, _, _ => none
 | k + 1, x4, x5, x6, x7, x8, x47, x48 => if x48 < x47 then (integer_Parse.l1 k x4 x5 x6 x7 ((x8 * 10) % 4294967296) x47 (wrap64 (x48 + 1))) else (if 0 ≤ x7 then (if x7 ≤ (x4.size : Int) then ((strconv_ParseUint_56.f (x4.extract 0 (x7 : Int).toNat) 10 32).bind fun bt524 => ((integer_scale.f k x6 x8 ((bt524.1) % 4294967296)).bind fun t526 => (integer_Parse.l0 k (x4.extract (x7 : Int).toNat x4.size) x5 t526))) else (none)) else (none))
end
def integer_Parse.f (k : Nat) (a0 : ByteArray) : Option (Bool × List Int × Int) := if (a0.size : Int) > 65536 then (some (false, ([] : List Int), 5)) else ((strings_CutPrefix.f a0 (⟨#[45]⟩ : ByteArray)).bind fun bt517 => (if bt517.1.toList = ([] : List UInt8) then (integer_Parse.j0 k bt517.1 bt517.2 true) else ((strings_ContainsFunc_Parse1.f bt517.1).bind fun t519 => (integer_Parse.j0 k bt517.1 bt517.2 t519))))
theorem integer_Parse.mono_l : ∀ k, (∀ y0 y1 y2, LeO (integer_Parse.j0 k y0 y1 y2) (integer_Parse.j0 (k + 1) y0 y1 y2)) ∧ (∀ y0 y1 y2, LeO (integer_Parse.j1 k y0 y1 y2) (integer_Parse.j1 (k + 1) y0 y1 y2)) ∧ (∀ y0 y1 y2, LeO (integer_Parse.l0 k y0 y1 y2) (integer_Parse.l0 (k + 1) y0 y1 y2)) ∧ (∀ y0 y1 y2 y3 y4 y5 y6, LeO (integer_Parse.l1 k y0 y1 y2 y3 y4 y5 y6) (integer_Parse.l1 (k + 1) y0 y1 y2 y3 y4 y5 y6))
 | 0 => ⟨fun _ _ _ r h => by simp [integer_Parse.j0] at h, fun _ _ _ r h => by simp [integer_Parse.j1] at h, fun _ _ _ r h => by simp [integer_Parse.l0] at h, fun _ _ _ _ _ _ _ r h => by simp [integer_Parse.l1] at h⟩
 | k + 1 => by
  obtain ⟨ih0, ih1, ih2, ih3⟩ := integer_Parse.mono_l k
  refine ⟨?_, ?_, ?_, ?_⟩
  ·
   intro y0 y1 y2
   unfold integer_Parse.j0
   repeat' first
   | (with_reducible exact ih0 _ _ _)
   | (with_reducible exact ih1 _ _ _)
   | (with_reducible exact ih2 _ _ _)
   | (with_reducible exact ih3 _ _ _ _ _ _ _)
   | (with_reducible exact integer_scale.mono _ _ _ _)
   | (with_reducible exact integer_signed.mono _ _ _)
   | (with_reducible exact LeO.refl _)
   | (with_reducible exact LeO.none _)
   | (with_reducible refine LeO.ite ?_ ?_)
   | (with_reducible refine LeO.bind ?_ (fun _ => ?_))
  ·
   intro y0 y1 y2
   unfold integer_Parse.j1
   repeat' first
   | (with_reducible exact ih0 _ _ _)
   | (with_reducible exact ih1 _ _ _)
   | (with_reducible exact ih2 _ _ _)
   | (with_reducible exact ih3 _ _ _ _ _ _ _)
   | (with_reducible exact integer_scale.mono _ _ _ _)
   | (with_reducible exact integer_signed.mono _ _ _)
   | (with_reducible exact LeO.refl _)
   | (with_reducible exact LeO.none _)
   | (with_reducible refine LeO.ite ?_ ?_)
   | (with_reducible refine LeO.bind ?_ (fun _ => ?_))
  ·
   intro y0 y1 y2
   unfold integer_Parse.l0
   repeat' first
   | (with_reducible exact ih0 _ _ _)
   | (with_reducible exact ih1 _ _ _)
   | (with_reducible exact ih2 _ _ _)
   | (with_reducible exact ih3 _ _ _ _ _ _ _)
   | (with_reducible exact integer_scale.mono _ _ _ _)
   | (with_reducible exact integer_signed.mono _ _ _)
   | (with_reducible exact LeO.refl _)
   | (with_reducible exact LeO.none _)
   | (with_reducible refine LeO.ite ?_ ?_)
   | (with_reducible refine LeO.bind ?_ (fun _ => ?_))
  ·
   intro y0 y1 y2 y3 y4 y5 y6
   unfold integer_Parse.l1
   repeat' first
   | (with_reducible exact ih0 _ _ _)
   | (with_reducible exact ih1 _ _ _)
   | (with_reducible exact ih2 _ _ _)
   | (with_reducible exact ih3 _ _ _ _ _ _ _)
   | (with_reducible exact integer_scale.mono _ _ _ _)
   | (with_reducible exact integer_signed.mono _ _ _)
   | (with_reducible exact LeO.refl _)
   | (with_reducible exact LeO.none _)
   | (with_reducible refine LeO.ite ?_ ?_)
   | (with_reducible refine LeO.bind ?_ (fun _ => ?_))
theorem integer_Parse.mono : ∀ a0 k, LeO (integer_Parse.f k a0) (integer_Parse.f (k + 1) a0) := by
 intro a0 k
 obtain ⟨ih0, ih1, ih2, ih3⟩ := integer_Parse.mono_l k
 unfold integer_Parse.f
 repeat' first
   | (with_reducible exact ih0 _ _ _)
   | (with_reducible exact ih1 _ _ _)
   | (with_reducible exact ih2 _ _ _)
   | (with_reducible exact ih3 _ _ _ _ _ _ _)
   | (with_reducible exact integer_scale.mono _ _ _ _)
   | (with_reducible exact integer_signed.mono _ _ _)
   | (with_reducible exact LeO.refl _)
   | (with_reducible exact LeO.none _)
   | (with_reducible refine LeO.ite ?_ ?_)
   | (with_reducible refine LeO.bind ?_ (fun _ => ?_))
set_option maxHeartbeats 8000000 in
set_option maxRecDepth 100000 in
theorem integer_Parse.calls (k : Nat) (a0 : ByteArray) (r1 : Bool) (r2 : List Int) (r3 : Int) (w : World) (h : integer_Parse.f k a0 = some (r1, r2, r3)) :
  Calls Tryd.prog 21 #[.string a0] w fun e w' => ∃ v1_ : Value, e = .returned (.tuple #[.agg #[.bool r1, v1_], .int .i64 r3]) ∧ Kd.V (Kd.int .u32) 60 w' w.heap.size (fun k_ => (w.heap.size ≤ k_)) v1_ r2 ∧ Below w.heap.size w w' := by
 have hu25 := Tryd.underlying25
 have HB := Aside0.mk (Below.refl w.heap.size w)
 have H := h
 unfold integer_Parse.f at H
 clear h
 by_cases c2 : (a0.size : Int) > 65536
 ·
  rw [if_pos c2] at H
  have c2b0 := decide_eq_true c2
  have c2b1 : decide (65536 < a0.size) = true := decide_eq_true (by omega)
  clear c2
  simp only [Option.some.injEq, Prod.mk.injEq] at H
  obtain ⟨rfl, rfl, rfl⟩ := H
  go_enter Tryd.func21, Tryd.ntmps21
  go_wp2_with (first | ((with_reducible refine gate_dst (N := 2) rfl ?_); (try (refine gate_guard (by rfl) ?_; dsimp only)); refine box_event ?hg (N := 2) ?hd (cs := #[.bool false, .slice none 0 0]) (t := 25) ?hr ?_; (case hd => rfl); (case hg => rfl); (case hr => first | (go_simp; done) | (go_simp; rfl)); intro gb516 hg w3 hbox hb; have BK516 := Aside0.mk (hbox); have GE516 := Aside0.mk ((size_up hg HB.out : w.heap.size ≤ gb516)); replace HB := Aside0.mk (below_step (below_up HB.out) hb); clear hb hbox hg; have hcz4_0 : w3.cell? ⟨gb516, 0, none⟩ = some (.bool false) := (blk_cell BK516.out 0).trans rfl; have hcz4_1 : w3.cell? ⟨gb516, 1, none⟩ = some (.slice none 0 0) := (blk_cell BK516.out 1).trans rfl; have hfz4_0 := blk_frozen BK516.out 0; have hfz4_1 := blk_frozen BK516.out 1))
  refine bodyPost_ret (results_ct rfl _ _ gb516 25 #[.bool false, .slice none 0 0] (0, 0) _ rfl (by refine blk_ups ?_; refine blk_put (cs := #[.bool false, .slice none 0 0]) ?_ 1 _ rfl; refine blk_ups ?_; refine blk_put (cs := #[.bool false, .slice none 0 0]) ?_ 0 _ rfl; exact blk_up BK516.out) Tryd.underlying25 rfl (by kernel_rfl)) rfl ?_
  exact ⟨_, by first | rfl | (simp [errW_none, errW_some] <;> rfl) | (simp [*, errW_none, errW_some] <;> rfl), by first | exact Kd.R_nil _ _ _ _ _ | exact Kd.N_nil _ _ _ _ _ | exact Kd.V_nil _ _ _ _ _ | exact Kd.Q_nil _ _ _ _ _ | exact Kd.S_nil _ _ _ _ _, by repeat (first | (with_reducible first | exact HB.out | apply below_alloc | apply pw_below_drewN | apply below_drew1 | refine below_set ?_ GE516.out) | exact HB.out)⟩
 ·
  rw [if_neg c2] at H
  have c2b0 := decide_eq_false c2
  have c2b1 : decide (65536 < a0.size) = false := decide_eq_false (by omega)
  clear c2
  replace H := Option.bind_eq_some_iff.mp H
  obtain ⟨⟨t517, t518⟩, A50, H⟩ := H
  try dsimp only at H
  have A5 := Aside0.mk A50
  clear A50
  have HC6 := Aside0.mk H
  clear H
  go_enter Tryd.func21, Tryd.ntmps21
  go_upto_region 4 with (first | ((with_reducible refine gate_dst (N := 2) rfl ?_); (try (refine gate_guard (by rfl) ?_; dsimp only)); refine box_event ?hg (N := 2) ?hd (cs := #[.bool false, .slice none 0 0]) (t := 25) ?hr ?_; (case hd => rfl); (case hg => rfl); (case hr => first | (go_simp; done) | (go_simp; rfl)); intro gb516 hg w7 hbox hb; have BK516 := Aside0.mk (hbox); have GE516 := Aside0.mk ((size_up hg HB.out : w.heap.size ≤ gb516)); replace HB := Aside0.mk (below_step (below_up HB.out) hb); clear hb hbox hg) | ((with_reducible refine gate_callee (f := 53) rfl ?_); refine gl_ (some 17) Tryd.func53 #[.string a0, .string (⟨#[45]⟩ : ByteArray)] ?_; (with_reducible refine (strings_CutPrefix.calls a0 (⟨#[45]⟩ : ByteArray) t517 t518 _ A5.out).mono ?_); rintro e w' ⟨rfl, ⟨nd, rfl⟩⟩; refine ⟨_, rfl, ?_⟩))
  (try simp only [Act.put, List.setIfInBounds_toArray, List.set_cons_zero, List.set_cons_succ])
  go_cut [25] (fun v25 wc => ∃ (kq : Nat) (x25_5 : Bool), v25 = .bool x25_5 ∧ Aside0 (integer_Parse.j0 kq t517 t518 x25_5 = some (r1, r2, r3)) ∧ Aside0 (kq ≤ k) ∧ Aside0 (wc.heap[gb516]? = some (.cells #[.bool false, (.slice none 0 0)] 25 (0, 0))) ∧ Aside0 (Below w.heap.size w wc))
  case first =>
   have H := HC6.out
   clear HC6
   by_cases c8 : t517.toList = ([] : List UInt8)
   ·
    rw [if_pos c8] at H
    have c8b0 : (t517.toList == ([] : List UInt8)) = true := beq_iff_eq.mpr c8
    have c8b1 : (t517.toList != ([] : List UInt8)) = false := bne_eq_false_iff_eq.mpr c8
    clear c8
    (first | rw [c8b0] | (simp only [i64_w, i32_w]; rw [c8b0]) | skip)
    have H' := Aside0.mk H
    clear H
    go_wp2
    go_meet
    case rel => exact ⟨_, (true), (by first | rfl | (simp; done) | (simp [*]; done) | (simp <;> omega)), H', ⟨by first | omega | exact Nat.le_refl _⟩, ⟨by (with_reducible repeat (first | refine blk_drewN ?_ _ | refine blk_drew ?_ | refine blk_alloc ?_ _)); exact BK516.out⟩, ⟨by repeat (first | (with_reducible first | exact HB.out | apply below_alloc | apply pw_below_drewN | apply below_drew1 | refine below_set ?_ GE516.out) | exact HB.out)⟩⟩
   ·
    rw [if_neg c8] at H
    have c8b0 : (t517.toList == ([] : List UInt8)) = false := beq_eq_false_iff_ne.mpr c8
    have c8b1 : (t517.toList != ([] : List UInt8)) = true := bne_iff_ne.mpr c8
    (first | rw [c8b0] | (simp only [i64_w, i32_w]; rw [c8b0]) | skip)
    replace H := Option.bind_eq_some_iff.mp H
    obtain ⟨t519, A90, H⟩ := H
    try dsimp only at H
    have A9 := Aside0.mk A90
    clear A90
    have H' := Aside0.mk H
    clear H
    go_wp2_with (first | (go_at_call 54; (with_reducible refine (strings_ContainsFunc_Parse1.calls t517 t519 _ A9.out).mono ?_); rintro e w10 ⟨rfl, hb⟩; replace BK516 := Aside0.mk (blk_below (g := gb516) (o := .cells #[.bool false, .slice none 0 0] 25 (0, 0)) (blk_up BK516.out) hb); replace HB := Aside0.mk (below_step (by repeat (first | (with_reducible first | exact HB.out | apply below_alloc | apply pw_below_drewN | apply below_drew1 | refine below_set ?_ GE516.out) | exact HB.out)) hb); (try clear hb); (try clear hb2); (try clear hk); (try clear hi)))
    go_meet
    case rel => exact ⟨_, (t519), (by first | rfl | (simp; done) | (simp [*]; done) | (simp <;> omega)), H', ⟨by first | omega | exact Nat.le_refl _⟩, ⟨by (with_reducible repeat (first | refine blk_drewN ?_ _ | refine blk_drew ?_ | refine blk_alloc ?_ _)); exact BK516.out⟩, ⟨by repeat (first | (with_reducible first | exact HB.out | apply below_alloc | apply pw_below_drewN | apply below_drew1 | refine below_set ?_ GE516.out) | exact HB.out)⟩⟩
  case rest =>
   clear HC6
   obtain ⟨kq, x25_5, rfl, HA, HJ5, BK516, HB⟩ := hcut
   cases kq with
   | zero => exact absurd HA.out (by simp [integer_Parse.j0])
   | succ kj5 =>
    have H := HA.out
    clear HA
    simp only [integer_Parse.j0] at H
    by_cases c11 : x25_5 = true
    ·
     subst c11
     have H1 : (some (false, ([] : List Int), 14)) = some (r1, r2, r3) := by rw [if_pos rfl] at H; exact H
     clear H
     have H := H1
     clear H1
     simp only [Option.some.injEq, Prod.mk.injEq] at H
     obtain ⟨rfl, rfl, rfl⟩ := H
     have hcz12_0 : wc.cell? ⟨gb516, 0, none⟩ = some (.bool false) := (blk_cell BK516.out 0).trans rfl
     have hcz12_1 : wc.cell? ⟨gb516, 1, none⟩ = some (.slice none 0 0) := (blk_cell BK516.out 1).trans rfl
     have hfz12_0 := blk_frozen BK516.out 0
     have hfz12_1 := blk_frozen BK516.out 1
     go_wp2
     refine bodyPost_ret (results_ct rfl _ _ gb516 25 #[.bool false, .slice none 0 0] (0, 0) _ rfl (by refine blk_ups ?_; refine blk_put (cs := #[.bool false, .slice none 0 0]) ?_ 1 _ rfl; refine blk_ups ?_; refine blk_put (cs := #[.bool false, .slice none 0 0]) ?_ 0 _ rfl; exact blk_up BK516.out) Tryd.underlying25 rfl (by kernel_rfl)) rfl ?_
     exact ⟨_, by first | rfl | (simp [errW_none, errW_some] <;> rfl) | (simp [*, errW_none, errW_some] <;> rfl), by first | exact Kd.R_nil _ _ _ _ _ | exact Kd.N_nil _ _ _ _ _ | exact Kd.V_nil _ _ _ _ _ | exact Kd.Q_nil _ _ _ _ _ | exact Kd.S_nil _ _ _ _ _, by repeat (first | (with_reducible first | exact HB.out | apply below_alloc | apply pw_below_drewN | apply below_drew1 | refine below_set ?_ GE516.out) | exact HB.out)⟩
    ·
     replace c11 := Bool.eq_false_iff.mpr c11
     subst c11
     have H1 : (if 0 < (t517.size : Int) then (if (bt t517 0) = 48 then (if (t517.size : Int) > 1 then (integer_Parse.j1 kj5 t517 t518 true) else (integer_Parse.j1 kj5 t517 t518 t518)) else (integer_Parse.j1 kj5 t517 t518 false)) else (none)) = some (r1, r2, r3) := by rw [if_neg (show ¬ (false = true) by decide)] at H; exact H
     clear H
     have H := H1
     clear H1
     have HC13 := Aside0.mk H
     clear H
     go_upto_region 6 with (fail)
     go_cut [37] (fun v37 wc => ∃ (kq : Nat) (x37_12 : Bool), v37 = .bool x37_12 ∧ Aside0 (integer_Parse.j1 kq t517 t518 x37_12 = some (r1, r2, r3)) ∧ Aside0 (kq ≤ kj5) ∧ Aside0 (wc.heap[gb516]? = some (.cells #[.bool false, (.slice none 0 0)] 25 (0, 0))) ∧ Aside0 (Below w.heap.size w wc))
     case first =>
      have H := HC13.out
      clear HC13
      obtain ⟨c14, H⟩ := ite_some H
      have c14b0 := decide_eq_true c14
      have c14b1 : decide (0 < t517.size) = true := decide_eq_true (by omega)
      clear c14
      (first | rw [c14b0] | (simp only [i64_w, i32_w]; rw [c14b0]) | skip)
      by_cases c16 : (bt t517 0) = 48
      ·
       rw [if_pos c16] at H
       have c16b0 : ((bt t517 0) == 48) = true := beq_iff_eq.mpr c16
       have c16b1 : ((bt t517 0) != 48) = false := bne_eq_false_iff_eq.mpr c16
       clear c16
       by_cases c17 : (t517.size : Int) > 1
       ·
        rw [if_pos c17] at H
        have c17b0 := decide_eq_true c17
        have c17b1 : decide (1 < t517.size) = true := decide_eq_true (by omega)
        clear c17
        have H' := Aside0.mk H
        clear H
        have p15 : 0 ≤ (0 : Int) := (by omega)
        have q15 : 0 < t517.size := (by have : (0 : Int) < (t517.size : Int) := of_decide_eq_true (by assumption); omega)
        have hx15 : ∀ h : 0 < t517.size, ((t517[0]'h).toNat : Int) = bt t517 0 := bt_at t517 0
        clear p15
        have qi15 : (0 < (t517.size : Int)) = True := eq_true (of_decide_eq_true (by assumption))
        replace q15 := eq_true q15
        go_wp2
        go_meet
        case rel => exact ⟨_, (true), (by first | rfl | (simp; done) | (simp [*]; done) | (simp <;> omega)), H', ⟨by have := HJ5.out; first | omega | exact Nat.le_refl _⟩, ⟨by (with_reducible repeat (first | refine blk_drewN ?_ _ | refine blk_drew ?_ | refine blk_alloc ?_ _)); exact BK516.out⟩, ⟨by repeat (first | (with_reducible first | exact HB.out | apply below_alloc | apply pw_below_drewN | apply below_drew1 | refine below_set ?_ GE516.out) | exact HB.out)⟩⟩
       ·
        rw [if_neg c17] at H
        have c17b0 := decide_eq_false c17
        have c17b1 : decide (1 < t517.size) = false := decide_eq_false (by omega)
        clear c17
        have H' := Aside0.mk H
        clear H
        have p15 : 0 ≤ (0 : Int) := (by omega)
        have q15 : 0 < t517.size := (by have : (0 : Int) < (t517.size : Int) := of_decide_eq_true (by assumption); omega)
        have hx15 : ∀ h : 0 < t517.size, ((t517[0]'h).toNat : Int) = bt t517 0 := bt_at t517 0
        clear p15
        have qi15 : (0 < (t517.size : Int)) = True := eq_true (of_decide_eq_true (by assumption))
        replace q15 := eq_true q15
        go_wp2
        go_meet
        case rel => exact ⟨_, (t518), (by first | rfl | (simp; done) | (simp [*]; done) | (simp <;> omega)), H', ⟨by have := HJ5.out; first | omega | exact Nat.le_refl _⟩, ⟨by (with_reducible repeat (first | refine blk_drewN ?_ _ | refine blk_drew ?_ | refine blk_alloc ?_ _)); exact BK516.out⟩, ⟨by repeat (first | (with_reducible first | exact HB.out | apply below_alloc | apply pw_below_drewN | apply below_drew1 | refine below_set ?_ GE516.out) | exact HB.out)⟩⟩
      ·
       rw [if_neg c16] at H
       have c16b0 : ((bt t517 0) == 48) = false := beq_eq_false_iff_ne.mpr c16
       have c16b1 : ((bt t517 0) != 48) = true := bne_iff_ne.mpr c16
       have H' := Aside0.mk H
       clear H
       have p15 : 0 ≤ (0 : Int) := (by omega)
       have q15 : 0 < t517.size := (by have : (0 : Int) < (t517.size : Int) := of_decide_eq_true (by assumption); omega)
       have hx15 : ∀ h : 0 < t517.size, ((t517[0]'h).toNat : Int) = bt t517 0 := bt_at t517 0
       clear p15
       have qi15 : (0 < (t517.size : Int)) = True := eq_true (of_decide_eq_true (by assumption))
       replace q15 := eq_true q15
       go_wp2
       go_meet
       case rel => exact ⟨_, (false), (by first | rfl | (simp; done) | (simp [*]; done) | (simp <;> omega)), H', ⟨by have := HJ5.out; first | omega | exact Nat.le_refl _⟩, ⟨by (with_reducible repeat (first | refine blk_drewN ?_ _ | refine blk_drew ?_ | refine blk_alloc ?_ _)); exact BK516.out⟩, ⟨by repeat (first | (with_reducible first | exact HB.out | apply below_alloc | apply pw_below_drewN | apply below_drew1 | refine below_set ?_ GE516.out) | exact HB.out)⟩⟩
     case rest =>
      clear HC13
      obtain ⟨kq, x37_12, rfl, HA, HJ12, BK516, HB⟩ := hcut
      cases kq with
      | zero => exact absurd HA.out (by simp [integer_Parse.j1])
      | succ kj12 =>
       have H := HA.out
       clear HA
       simp only [integer_Parse.j1] at H
       by_cases c18 : x37_12 = true
       ·
        subst c18
        have H1 : (some (false, ([] : List Int), 3)) = some (r1, r2, r3) := by rw [if_pos rfl] at H; exact H
        clear H
        have H := H1
        clear H1
        simp only [Option.some.injEq, Prod.mk.injEq] at H
        obtain ⟨rfl, rfl, rfl⟩ := H
        have hcz19_0 : wc.cell? ⟨gb516, 0, none⟩ = some (.bool false) := (blk_cell BK516.out 0).trans rfl
        have hcz19_1 : wc.cell? ⟨gb516, 1, none⟩ = some (.slice none 0 0) := (blk_cell BK516.out 1).trans rfl
        have hfz19_0 := blk_frozen BK516.out 0
        have hfz19_1 := blk_frozen BK516.out 1
        go_wp2
        refine bodyPost_ret (results_ct rfl _ _ gb516 25 #[.bool false, .slice none 0 0] (0, 0) _ rfl (by refine blk_ups ?_; refine blk_put (cs := #[.bool false, .slice none 0 0]) ?_ 1 _ rfl; refine blk_ups ?_; refine blk_put (cs := #[.bool false, .slice none 0 0]) ?_ 0 _ rfl; exact blk_up BK516.out) Tryd.underlying25 rfl (by kernel_rfl)) rfl ?_
        exact ⟨_, by first | rfl | (simp [errW_none, errW_some] <;> rfl) | (simp [*, errW_none, errW_some] <;> rfl), by first | exact Kd.R_nil _ _ _ _ _ | exact Kd.N_nil _ _ _ _ _ | exact Kd.V_nil _ _ _ _ _ | exact Kd.Q_nil _ _ _ _ _ | exact Kd.S_nil _ _ _ _ _, by repeat (first | (with_reducible first | exact HB.out | apply below_alloc | apply pw_below_drewN | apply below_drew1 | refine below_set ?_ GE516.out) | exact HB.out)⟩
       ·
        replace c18 := Bool.eq_false_iff.mpr c18
        subst c18
        have H1 : (integer_Parse.l0 kj12 t517 t518 ([] : List Int)) = some (r1, r2, r3) := by rw [if_neg (show ¬ (false = true) by decide)] at H; exact H
        clear H
        have H := H1
        clear H1
        have H' := Aside0.mk H
        clear H
        go_wp2
        go_loopg [4, 6] kj12 (fun kq v4 v6 w' => ∃ (x4_3 : ByteArray) (x6_3 : List Int), v4 = .string x4_3 ∧ Aside0 (integer_Parse.l0 kq x4_3 t518 x6_3 = some (r1, r2, r3)) ∧ Aside0 (kq ≤ kj12) ∧ Aside0 (Kd.V (Kd.int .u32) 60 w' w.heap.size (fun k_ => (w.heap.size ≤ k_) ∧ k_ ≠ gb516) v6 x6_3) ∧ Aside0 (w'.heap[gb516]? = some (.cells #[.bool false, (.slice none 0 0)] 25 (0, 0))) ∧ Aside0 (Below w.heap.size w w'))
        case atStart => exact ⟨(t517), (([] : List Int)), (by first | rfl | (simp; done) | (simp [*]; done) | (simp <;> omega)), H', ⟨Nat.le_refl _⟩, ⟨by first | exact Kd.R_nil _ _ _ _ _ | exact Kd.N_nil _ _ _ _ _ | exact Kd.V_nil _ _ _ _ _ | exact Kd.Q_nil _ _ _ _ _ | exact Kd.S_nil _ _ _ _ _⟩, ⟨by (with_reducible repeat (first | refine blk_drewN ?_ _ | refine blk_drew ?_ | refine blk_alloc ?_ _)); exact BK516.out⟩, ⟨by repeat (first | (with_reducible first | exact HB.out | apply below_alloc | apply pw_below_drewN | apply below_drew1 | refine below_set ?_ GE516.out) | exact HB.out)⟩⟩
        case round =>
         clear H'
         obtain ⟨x4_3, x6_3, rfl, HA, HK3, HO_6, BK516, HB⟩ := hrel
         cases gk with
         | zero => exact absurd HA.out (by simp [integer_Parse.l0])
         | succ k3 =>
          have H := HA.out
          clear HA
          simp only [integer_Parse.l0] at H
          by_cases c20 : (x4_3.size : Int) > 0
          ·
           rw [if_pos c20] at H
           have c20b0 := decide_eq_true c20
           have c20b1 : decide (0 < x4_3.size) = true := decide_eq_true (by omega)
           clear c20
           have H' := Aside0.mk H
           clear H
           go_wp2
           go_loopg [8, 48] k3 (fun kq v8 v48 w' => ∃ (x8_4 : Int) (x48_4 : Int), v8 = .int .u32 x8_4 ∧ v48 = .int .i64 x48_4 ∧ Aside0 (integer_Parse.l1 kq x4_3 t518 x6_3 (wrap64 ((Int.tmod (wrap64 ((x4_3.size : Int) - 1)) 9) + 1)) x8_4 (wrap64 ((Int.tmod (wrap64 ((x4_3.size : Int) - 1)) 9) + 1)) x48_4 = some (r1, r2, r3)) ∧ Aside0 (kq ≤ k3) ∧ Aside0 (Kd.V (Kd.int .u32) 60 w' w.heap.size (fun k_ => (w.heap.size ≤ k_) ∧ k_ ≠ gb516) u6 x6_3) ∧ Aside0 (w'.heap[gb516]? = some (.cells #[.bool false, (.slice none 0 0)] 25 (0, 0))) ∧ Aside0 (Below w.heap.size w w'))
           case atStart => exact ⟨(1), (0), (by first | rfl | (simp; done) | (simp [*]; done) | (simp <;> omega)), (by first | rfl | (simp; done) | (simp [*]; done) | (simp <;> omega)), H', ⟨Nat.le_refl _⟩, ⟨Kd.V_up HO_6.out⟩, ⟨by (with_reducible repeat (first | refine blk_drewN ?_ _ | refine blk_drew ?_ | refine blk_alloc ?_ _)); exact BK516.out⟩, ⟨by repeat (first | (with_reducible first | exact HB.out | apply below_alloc | apply pw_below_drewN | apply below_drew1 | refine below_set ?_ GE516.out) | exact HB.out)⟩⟩
           case round =>
            clear H'
            obtain ⟨x8_4, x48_4, rfl, rfl, HA, HK4, HO_6, BK516, HB⟩ := hrel
            cases gk with
            | zero => exact absurd HA.out (by simp [integer_Parse.l1])
            | succ k4 =>
             have H := HA.out
             clear HA
             simp only [integer_Parse.l1] at H
             by_cases c21 : x48_4 < (wrap64 ((Int.tmod (wrap64 ((x4_3.size : Int) - 1)) 9) + 1))
             ·
              rw [if_pos c21] at H
              have c21b0 := decide_eq_true c21
              clear c21
              have H' := Aside0.mk H
              clear H
              go_wp2
              go_roundg k4
              case measure => have := HJ5.out; have := HJ12.out; have := HK3.out; have := HK4.out; omega
              case rel => exact ⟨((x8_4 * 10) % 4294967296), (wrap64 (x48_4 + 1)), (by first | rfl | (simp; done) | (simp [*]; done) | (simp <;> omega)), (by first | rfl | (simp; done) | (simp [*]; done) | (simp <;> omega)), H', ⟨by have := HJ5.out; have := HJ12.out; have := HK3.out; have := HK4.out; omega⟩, ⟨Kd.V_up HO_6.out⟩, ⟨by (with_reducible repeat (first | refine blk_drewN ?_ _ | refine blk_drew ?_ | refine blk_alloc ?_ _)); exact BK516.out⟩, ⟨by repeat (first | (with_reducible first | exact HB.out | apply below_alloc | apply pw_below_drewN | apply below_drew1 | refine below_set ?_ GE516.out) | exact HB.out)⟩⟩
             ·
              rw [if_neg c21] at H
              have c21b0 := decide_eq_false c21
              clear c21
              obtain ⟨ji22, hji22⟩ : ∃ j_ : Int, (wrap64 ((Int.tmod (wrap64 ((x4_3.size : Int) - 1)) 9) + 1)) = j_ := ⟨_, rfl⟩
              replace H : (if 0 ≤ (ji22) then (if (ji22) ≤ (x4_3.size : Int) then ((strconv_ParseUint_56.f (x4_3.extract 0 ((ji22) : Int).toNat) 10 32).bind fun bt524 => ((integer_scale.f k4 x6_3 x8_4 ((bt524.1) % 4294967296)).bind fun t526 => (integer_Parse.l0 k4 (x4_3.extract ((ji22) : Int).toNat x4_3.size) t518 t526))) else (none)) else (none)) = some (r1, r2, r3) := by first | (rw [hji22] at H; exact H) | (simp only [hji22] at H ⊢; exact H)
              (try rw [hji22] at c21b0)
              have hji22w : (IntKind.i64.wrap ((Int.tmod (wrap64 ((x4_3.size : Int) - 1)) 9) + 1)) = ji22 := (i64_w _).trans hji22
              obtain ⟨c23, H⟩ := ite_some H
              have c23b0 := eq_true c23
              have c23b1 := decide_eq_true c23
              clear c23
              obtain ⟨c24, H⟩ := ite_some H
              have c24b0 := eq_true c24
              have c24b1 := decide_eq_true c24
              clear c24
              replace H := Option.bind_eq_some_iff.mp H
              obtain ⟨⟨t524, t525⟩, A250, H⟩ := H
              try dsimp only at H
              have A25 := Aside0.mk A250
              clear A250
              replace H := Option.bind_eq_some_iff.mp H
              obtain ⟨t526, A260, H⟩ := H
              try dsimp only at H
              have A26 := Aside0.mk A260
              clear A260
              have c27b0 := eq_true (of_decide_eq_true (by assumption) : 0 ≤ (ji22))
              have c28b0 := eq_true (of_decide_eq_true (by assumption) : (ji22) ≤ (x4_3.size : Int))
              have H' := Aside0.mk H
              clear H
              go_wp2_with (first | ((with_reducible refine gate_callee (f := 56) rfl ?_); refine goesL_ (some 57) rfl rfl Tryd.func56 (by kernel_rfl) rfl #[.string (x4_3.extract 0 ((ji22) : Int).toNat), .int .i64 10, .int .i64 32] rfl (by (try simp only [List.map_toArray, List.map_cons, List.map_nil]); first | done | (simp only [hji22]; rfl) | rfl | (simp only [List.length_drop, List.length_take]; rfl)) ?_; (with_reducible refine (strconv_ParseUint_56.calls (x4_3.extract 0 ((ji22) : Int).toNat) 10 32 t524 t525 _ A25.out).mono ?_); rintro e w29 ⟨rfl, hb⟩; refine ⟨_, rfl, ?_⟩; replace HO_6 := Aside0.mk (Kd.V_below (Kd.V_up HO_6.out) hb); replace BK516 := Aside0.mk (blk_below (g := gb516) (o := .cells #[.bool false, .slice none 0 0] 25 (0, 0)) (blk_up BK516.out) hb); replace HB := Aside0.mk (below_step (by repeat (first | (with_reducible first | exact HB.out | apply below_alloc | apply pw_below_drewN | apply below_drew1 | refine below_set ?_ GE516.out) | exact HB.out)) hb); (try clear hb); (try clear hb2); (try clear hk); (try clear hi); (try simp only [errW_none, errW_some]); obtain ⟨Ao30, co30, eo30⟩ := Kd.V_slice HO_6.out; subst eo30) | ((with_reducible refine gate_callee (f := 57) rfl ?_); refine gl_ (some 64) Tryd.func57 #[.slice Ao30 x6_3.length co30, .int .u32 x8_4, .int .u32 ((t524) % 4294967296)] ?_; (with_reducible refine (integer_scale.calls k4 _ _ x6_3 x8_4 ((t524) % 4294967296) t526 _ ?side1 ?side2 A26.out).mono ?_); (case side1 => repeat (first | exact (Kd.V_reads' HO_6.out).2.2 | (with_reducible refine Kd.C_alloc ?_ _) | (with_reducible refine Kd.C_drewN ?_ _) | (with_reducible refine Kd.C_drew ?_))); (case side2 => exact (Kd.V_reads' HO_6.out).2.1); rintro e w31 ⟨v527, rfl, ho0, hb⟩; refine ⟨_, rfl, ?_⟩; replace HO_6 := Aside0.mk (Kd.V_below (Kd.V_up HO_6.out) hb); have HO528 := Aside0.mk (Kd.V_lower (Kd.V_mono (ok' := fun k_ => (w.heap.size ≤ k_) ∧ k_ ≠ gb516) ho0 (fun k_ hk_ => ⟨(Nat.le_trans (below_size (by repeat (first | (with_reducible first | exact HB.out | apply below_alloc | apply pw_below_drewN | apply below_drew1 | refine below_set ?_ GE516.out) | exact HB.out))) hk_), (Kd.freshB (g := gb516) (o := .cells #[.bool false, .slice none 0 0] 25 (0, 0)) (blk_up BK516.out) k_ hk_)⟩)) (below_size (by repeat (first | (with_reducible first | exact HB.out | apply below_alloc | apply pw_below_drewN | apply below_drew1 | refine below_set ?_ GE516.out) | exact HB.out)))); replace BK516 := Aside0.mk (blk_below (g := gb516) (o := .cells #[.bool false, .slice none 0 0] 25 (0, 0)) (blk_up BK516.out) hb); replace HB := Aside0.mk (below_step (by repeat (first | (with_reducible first | exact HB.out | apply below_alloc | apply pw_below_drewN | apply below_drew1 | refine below_set ?_ GE516.out) | exact HB.out)) hb); (try clear hb); (try clear hb2); (try clear hk); (try clear hi); (try clear ho0)))
              go_roundg k4
              case measure => have := HJ5.out; have := HJ12.out; have := HK3.out; have := HK4.out; omega
              case rel => exact ⟨(x4_3.extract ((ji22) : Int).toNat x4_3.size), (t526), (by first | rfl | (simp; done) | (simp only [← hji22] <;> (first | rfl | simp)) | (simp [*]; done)), H', ⟨by have := HJ5.out; have := HJ12.out; have := HK3.out; have := HK4.out; omega⟩, ⟨Kd.V_up HO528.out⟩, ⟨by (with_reducible repeat (first | refine blk_drewN ?_ _ | refine blk_drew ?_ | refine blk_alloc ?_ _)); exact BK516.out⟩, ⟨by repeat (first | (with_reducible first | exact HB.out | apply below_alloc | apply pw_below_drewN | apply below_drew1 | refine below_set ?_ GE516.out) | exact HB.out)⟩⟩
          ·
           rw [if_neg c20] at H
           have c20b0 := decide_eq_false c20
           have c20b1 : decide (0 < x4_3.size) = false := decide_eq_false (by omega)
           clear c20
           replace H := Option.bind_eq_some_iff.mp H
           obtain ⟨⟨t520, t521⟩, A320, H⟩ := H
           try dsimp only at H
           have A32 := Aside0.mk A320
           clear A320
           simp only [Option.some.injEq, Prod.mk.injEq] at H
           obtain ⟨rfl, rfl, rfl⟩ := H
           obtain ⟨Ao33, co33, eo33⟩ := Kd.V_slice HO_6.out
           subst eo33
           go_wp2_with (first | ((with_reducible refine gate_callee (f := 45) rfl ?_); refine gl_ (some 70) Tryd.func45 #[.bool t518, .slice Ao33 x6_3.length co33] ?_; (with_reducible refine (integer_signed.calls k3 t518 (fun k_ => ((w.heap.size ≤ k_) ∧ k_ ≠ gb516)) _ _ x6_3 t520 t521 _ ?side1 A32.out).mono ?_); (case side1 => exact HO_6.out); rintro e w34 ⟨v522, rfl, ho0, hb⟩; refine ⟨_, rfl, ?_⟩; have n1_ := Aside0.mk (Kd.V_lower (Kd.V_mono (ok' := fun k_ => (w.heap.size ≤ k_) ∧ k_ ≠ gb516) ho0 (fun k_ hk_ => ⟨Or.elim hk_ (fun hs_ => hs_.1) (fun hn_ => (Nat.le_trans (below_size (by repeat (first | (with_reducible first | exact HB.out | apply below_alloc | apply pw_below_drewN | apply below_drew1 | refine below_set ?_ GE516.out) | exact HB.out))) hn_)), Or.elim hk_ (fun hs_ => hs_.2) (fun hn_ => (Kd.freshB (g := gb516) (o := .cells #[.bool false, .slice none 0 0] 25 (0, 0)) (blk_up BK516.out) k_ hn_))⟩)) (below_size (by repeat (first | (with_reducible first | exact HB.out | apply below_alloc | apply pw_below_drewN | apply below_drew1 | refine below_set ?_ GE516.out) | exact HB.out)))); have n2_ := Aside0.mk (blk_below (g := gb516) (o := .cells #[.bool false, .slice none 0 0] 25 (0, 0)) (blk_up BK516.out) hb); have n3_ := Aside0.mk (below_step (by repeat (first | (with_reducible first | exact HB.out | apply below_alloc | apply pw_below_drewN | apply below_drew1 | refine below_set ?_ GE516.out) | exact HB.out)) hb); (try clear HO_6); clear BK516 HB; have HO523 := n1_; have BK516 := n2_; have HB := n3_; clear n1_ n2_ n3_; (try clear hb); (try clear hb2); (try clear hk); (try clear hi); (try clear ho0); have hcz35_0 : w34.cell? ⟨gb516, 0, none⟩ = some (.bool false) := (blk_cell BK516.out 0).trans rfl; have hcz35_1 : w34.cell? ⟨gb516, 1, none⟩ = some (.slice none 0 0) := (blk_cell BK516.out 1).trans rfl; have hfz35_0 := blk_frozen BK516.out 0; have hfz35_1 := blk_frozen BK516.out 1; obtain ⟨Ao36, co36, eo36⟩ := Kd.V_slice HO523.out; subst eo36))
           refine bodyPost_ret (results_ct rfl _ _ gb516 25 #[.bool t520, .slice Ao36 t521.length co36] (0, 0) _ rfl (by refine blk_ups ?_; refine blk_put (cs := #[.bool t520, .slice none 0 0]) ?_ 1 _ rfl; refine blk_ups ?_; refine blk_put (cs := #[.bool false, .slice none 0 0]) ?_ 0 _ rfl; exact blk_up BK516.out) Tryd.underlying25 rfl (by kernel_rfl)) rfl ?_
           exact ⟨_, by first | rfl | (simp [errW_none, errW_some] <;> rfl) | (simp [*, errW_none, errW_some] <;> rfl), Kd.V_up (Kd.V_mono (Kd.V_far (p := ⟨gb516, 1, none⟩) (Kd.V_far (p := ⟨gb516, 0, none⟩) (Kd.V_mono HO523.out (fun k_ hk => (⟨hk, hk.2⟩ : _ ∧ k_ ≠ gb516))) (fun _ hk => hk.2) (.bool t520)) (fun _ hk => hk.2) (.slice Ao36 t521.length co36)) (fun _ hk => hk.1.1)), by repeat (first | (with_reducible first | exact HB.out | apply below_alloc | apply pw_below_drewN | apply below_drew1 | refine below_set ?_ GE516.out) | exact HB.out)⟩
def dowellaw01_read.f (k : Nat) (a0 : ByteArray) : Option (Bool × List Int × Bool) := if (a0.size : Int) > 120 then (some (false, ([] : List Int), false)) else ((dowelref01_Check.f k a0).bind fun t551 => (if t551 = 0 then ((integer_Parse.f k a0).bind fun bt552 => (some (bt552.1, bt552.2.1, (bt552.2.2 == 0)))) else (some (false, ([] : List Int), false))))
theorem dowellaw01_read.mono : ∀ a0 k, LeO (dowellaw01_read.f k a0) (dowellaw01_read.f (k + 1) a0) := by
 intro a0 k
 unfold dowellaw01_read.f
 repeat' first
   | (with_reducible exact dowelref01_Check.mono _ _)
   | (with_reducible exact integer_Parse.mono _ _)
   | (with_reducible exact LeO.refl _)
   | (with_reducible exact LeO.none _)
   | (with_reducible refine LeO.ite ?_ ?_)
   | (with_reducible refine LeO.bind ?_ (fun _ => ?_))
set_option maxHeartbeats 8000000 in
set_option maxRecDepth 100000 in
theorem dowellaw01_read.calls (k : Nat) (a0 : ByteArray) (r1 : Bool) (r2 : List Int) (r3 : Bool) (w : World) (h : dowellaw01_read.f k a0 = some (r1, r2, r3)) :
  Calls Tryd.prog 24 #[.string a0] w fun e w' => ∃ v1_ : Value, e = .returned (.tuple #[.agg #[.bool r1, v1_], .bool r3]) ∧ Kd.V (Kd.int .u32) 60 w' w.heap.size (fun k_ => (w.heap.size ≤ k_)) v1_ r2 ∧ Below w.heap.size w w' := by
 have hu25 := Tryd.underlying25
 have HB := Aside0.mk (Below.refl w.heap.size w)
 have H := h
 unfold dowellaw01_read.f at H
 clear h
 by_cases c2 : (a0.size : Int) > 120
 ·
  rw [if_pos c2] at H
  have c2b0 := decide_eq_true c2
  have c2b1 : decide (120 < a0.size) = true := decide_eq_true (by omega)
  clear c2
  simp only [Option.some.injEq, Prod.mk.injEq] at H
  obtain ⟨rfl, rfl, rfl⟩ := H
  go_enter Tryd.func24, Tryd.ntmps24
  go_wp2_with (first | ((with_reducible refine gate_dst (N := 2) rfl ?_); refine box_event ?hg (N := 2) ?hd (cs := #[.bool false, .slice none 0 0]) (t := 25) ?hr ?_; (case hd => rfl); (case hg => rfl); (case hr => first | (go_simp; done) | (go_simp; rfl)); intro gb550 hg w3 hbox hb; have BK550 := Aside0.mk (hbox); have GE550 := Aside0.mk ((size_up hg HB.out : w.heap.size ≤ gb550)); replace HB := Aside0.mk (below_step (below_up HB.out) hb); clear hb hbox hg; have hcz4_0 : w3.cell? ⟨gb550, 0, none⟩ = some (.bool false) := (blk_cell BK550.out 0).trans rfl; have hcz4_1 : w3.cell? ⟨gb550, 1, none⟩ = some (.slice none 0 0) := (blk_cell BK550.out 1).trans rfl; have hfz4_0 := blk_frozen BK550.out 0; have hfz4_1 := blk_frozen BK550.out 1))
  refine bodyPost_ret (results_ct rfl _ _ gb550 25 #[.bool false, .slice none 0 0] (0, 0) _ rfl (by refine blk_ups ?_; refine blk_put (cs := #[.bool false, .slice none 0 0]) ?_ 1 _ rfl; refine blk_ups ?_; refine blk_put (cs := #[.bool false, .slice none 0 0]) ?_ 0 _ rfl; exact blk_up BK550.out) Tryd.underlying25 rfl (by kernel_rfl)) rfl ?_
  exact ⟨_, by first | rfl | (simp [errW_none, errW_some] <;> rfl) | (simp [*, errW_none, errW_some] <;> rfl), by first | exact Kd.R_nil _ _ _ _ _ | exact Kd.N_nil _ _ _ _ _ | exact Kd.V_nil _ _ _ _ _ | exact Kd.Q_nil _ _ _ _ _ | exact Kd.S_nil _ _ _ _ _, by repeat (first | (with_reducible first | exact HB.out | apply below_alloc | apply pw_below_drewN | apply below_drew1 | refine below_set ?_ GE550.out) | exact HB.out)⟩
 ·
  rw [if_neg c2] at H
  have c2b0 := decide_eq_false c2
  have c2b1 : decide (120 < a0.size) = false := decide_eq_false (by omega)
  clear c2
  replace H := Option.bind_eq_some_iff.mp H
  obtain ⟨t551, A50, H⟩ := H
  try dsimp only at H
  have A5 := Aside0.mk A50
  clear A50
  by_cases c6 : t551 = 0
  ·
   rw [if_pos c6] at H
   have c6b0 : (t551 == 0) = true := beq_iff_eq.mpr c6
   have c6b1 : (t551 != 0) = false := bne_eq_false_iff_eq.mpr c6
   clear c6
   replace H := Option.bind_eq_some_iff.mp H
   obtain ⟨⟨t552, t553, t556⟩, A70, H⟩ := H
   try dsimp only at H
   have A7 := Aside0.mk A70
   clear A70
   simp only [Option.some.injEq, Prod.mk.injEq] at H
   obtain ⟨rfl, rfl, rfl⟩ := H
   go_enter Tryd.func24, Tryd.ntmps24
   go_wp2_with (first | ((with_reducible refine gate_dst (N := 2) rfl ?_); refine box_event ?hg (N := 2) ?hd (cs := #[.bool false, .slice none 0 0]) (t := 25) ?hr ?_; (case hd => rfl); (case hg => rfl); (case hr => first | (go_simp; done) | (go_simp; rfl)); intro gb550 hg w8 hbox hb; have BK550 := Aside0.mk (hbox); have GE550 := Aside0.mk ((size_up hg HB.out : w.heap.size ≤ gb550)); replace HB := Aside0.mk (below_step (below_up HB.out) hb); clear hb hbox hg) | (go_at_call 22; (with_reducible refine (dowelref01_Check.calls k a0 t551 _ A5.out).mono ?_); rintro e w' ⟨rfl, ⟨nd, rfl⟩⟩; (try (rw [drewN_self w8]; generalize hq_ : World.drewN w8 _ = w8; have n0_ : Aside0 (w8.heap[gb550]? = some (.cells #[.bool false, .slice none 0 0] 25 (0, 0))) := ⟨by rw [← hq_]; exact (blk_up BK550.out)⟩; have n1_ : Aside0 (Below w.heap.size w w8) := ⟨by rw [← hq_]; exact (by repeat (first | (with_reducible first | exact HB.out | apply below_alloc | apply pw_below_drewN | apply below_drew1 | refine below_set ?_ GE550.out) | exact HB.out))⟩; clear BK550 HB hq_; have BK550 := n0_; have HB := n1_; clear n0_ n1_))) | ((with_reducible refine gate_callee (f := 21) rfl ?_); refine gl_ (some 17) Tryd.func21 #[.string a0] ?_; (with_reducible refine (integer_Parse.calls k a0 t552 t553 t556 _ A7.out).mono ?_); rintro e w9 ⟨v554, rfl, ho0, hb⟩; refine ⟨_, rfl, ?_⟩; have HO555 := Aside0.mk (Kd.V_lower (Kd.V_mono (ok' := fun k_ => (w.heap.size ≤ k_) ∧ k_ ≠ gb550) ho0 (fun k_ hk_ => ⟨(Nat.le_trans (below_size (by repeat (first | (with_reducible first | exact HB.out | apply below_alloc | apply pw_below_drewN | apply below_drew1 | refine below_set ?_ GE550.out) | exact HB.out))) hk_), (Kd.freshB (g := gb550) (o := .cells #[.bool false, .slice none 0 0] 25 (0, 0)) (blk_up BK550.out) k_ hk_)⟩)) (below_size (by repeat (first | (with_reducible first | exact HB.out | apply below_alloc | apply pw_below_drewN | apply below_drew1 | refine below_set ?_ GE550.out) | exact HB.out)))); replace BK550 := Aside0.mk (blk_below (g := gb550) (o := .cells #[.bool false, .slice none 0 0] 25 (0, 0)) (blk_up BK550.out) hb); replace HB := Aside0.mk (below_step (by repeat (first | (with_reducible first | exact HB.out | apply below_alloc | apply pw_below_drewN | apply below_drew1 | refine below_set ?_ GE550.out) | exact HB.out)) hb); (try clear hb); (try clear hb2); (try clear hk); (try clear hi); (try clear ho0)) | ((with_reducible refine gate_dst (N := 4) rfl ?_); refine box_event ?hg (N := 4) ?hd (cs := #[.bool false, .slice none 0 0]) (t := 25) ?hr ?_; (case hd => rfl); (case hg => rfl); (case hr => first | (go_simp; done) | (go_simp; rfl)); intro gb557 hg w10 hbox hb; replace HO555 := Aside0.mk (Kd.V_below (Kd.V_elderB (Kd.V_up HO555.out) gb557 (Nat.le_of_eq hg.symm)) hb); have BK557 := Aside0.mk (hbox); have GE557 := Aside0.mk ((by rw [hg]; exact (below_size (by repeat (first | (with_reducible first | exact HB.out | apply below_alloc | apply pw_below_drewN | apply below_drew1 | refine below_set ?_ GE550.out) | exact HB.out))) : w.heap.size ≤ gb557)); replace HB := Aside0.mk (below_step (by repeat (first | (with_reducible first | exact HB.out | apply below_alloc | apply pw_below_drewN | apply below_drew1 | refine below_set ?_ GE550.out) | exact HB.out)) hb); have NB550_557 := Aside0.mk ((blk_nw hg BK550.out : gb550 ≠ gb557)); have NB557_550 := Aside0.mk ((nw_blk hg BK550.out : gb557 ≠ gb550)); replace BK550 := Aside0.mk (blk_below (g := gb550) (o := .cells #[.bool false, .slice none 0 0] 25 (0, 0)) (blk_up BK550.out) hb); clear hb hbox hg; have hnb11 := NB557_550.out; have hnc11 := NB550_557.out; have hcz12_0 : w10.cell? ⟨gb557, 0, none⟩ = some (.bool false) := (blk_cell BK557.out 0).trans rfl; have hcz12_1 : w10.cell? ⟨gb557, 1, none⟩ = some (.slice none 0 0) := (blk_cell BK557.out 1).trans rfl; have hfz12_0 := blk_frozen BK557.out 0; have hfz12_1 := blk_frozen BK557.out 1; obtain ⟨Ao13, co13, eo13⟩ := Kd.V_slice HO555.out; subst eo13; have hcz14_0 : w10.cell? ⟨gb550, 0, none⟩ = some (.bool false) := (blk_cell BK550.out 0).trans rfl; have hcz14_1 : w10.cell? ⟨gb550, 1, none⟩ = some (.slice none 0 0) := (blk_cell BK550.out 1).trans rfl; have hfz14_0 := blk_frozen BK550.out 0; have hfz14_1 := blk_frozen BK550.out 1))
   refine bodyPost_ret (results_ct rfl _ _ gb550 25 #[.bool t552, .slice Ao13 t553.length co13] (0, 0) _ rfl (by refine blk_ups ?_; refine blk_put (cs := #[.bool t552, .slice none 0 0]) ?_ 1 _ rfl; refine blk_ups ?_; refine blk_put (cs := #[.bool false, .slice none 0 0]) ?_ 0 _ rfl; refine blk_ups ?_; refine blk_far ?_ NB550_557.out _; refine blk_ups ?_; refine blk_far ?_ NB550_557.out _; exact blk_up BK550.out) Tryd.underlying25 rfl (by kernel_rfl)) rfl ?_
   exact ⟨_, by first | rfl | (simp [errW_none, errW_some] <;> rfl) | (simp [*, errW_none, errW_some] <;> rfl), Kd.V_up (Kd.V_mono (Kd.V_far (p := ⟨gb550, 1, none⟩) (Kd.V_far (p := ⟨gb550, 0, none⟩) (Kd.V_far (p := ⟨gb557, 1, none⟩) (Kd.V_far (p := ⟨gb557, 0, none⟩) (Kd.V_mono (Kd.V_mono HO555.out (fun k_ hk => (⟨hk, hk.2⟩ : _ ∧ k_ ≠ gb557))) (fun k_ hk => (⟨hk, hk.1.1.2⟩ : _ ∧ k_ ≠ gb550))) (fun _ hk => hk.1.2) (.bool t552)) (fun _ hk => hk.1.2) (.slice Ao13 t553.length co13)) (fun _ hk => hk.2) (.bool t552)) (fun _ hk => hk.2) (.slice Ao13 t553.length co13)) (fun _ hk => hk.1.1.1.1)), by repeat (first | (with_reducible first | exact HB.out | apply below_alloc | apply pw_below_drewN | apply below_drew1 | refine below_set ?_ GE550.out | refine below_set ?_ GE557.out) | exact HB.out)⟩
  ·
   rw [if_neg c6] at H
   have c6b0 : (t551 == 0) = false := beq_eq_false_iff_ne.mpr c6
   have c6b1 : (t551 != 0) = true := bne_iff_ne.mpr c6
   simp only [Option.some.injEq, Prod.mk.injEq] at H
   obtain ⟨rfl, rfl, rfl⟩ := H
   go_enter Tryd.func24, Tryd.ntmps24
   go_wp2_with (first | ((with_reducible refine gate_dst (N := 2) rfl ?_); refine box_event ?hg (N := 2) ?hd (cs := #[.bool false, .slice none 0 0]) (t := 25) ?hr ?_; (case hd => rfl); (case hg => rfl); (case hr => first | (go_simp; done) | (go_simp; rfl)); intro gb550 hg w15 hbox hb; have BK550 := Aside0.mk (hbox); have GE550 := Aside0.mk ((size_up hg HB.out : w.heap.size ≤ gb550)); replace HB := Aside0.mk (below_step (below_up HB.out) hb); clear hb hbox hg) | (go_at_call 22; (with_reducible refine (dowelref01_Check.calls k a0 t551 _ A5.out).mono ?_); rintro e w' ⟨rfl, ⟨nd, rfl⟩⟩; (try (rw [drewN_self w15]; generalize hq_ : World.drewN w15 _ = w15; have n0_ : Aside0 (w15.heap[gb550]? = some (.cells #[.bool false, .slice none 0 0] 25 (0, 0))) := ⟨by rw [← hq_]; exact (blk_up BK550.out)⟩; have n1_ : Aside0 (Below w.heap.size w w15) := ⟨by rw [← hq_]; exact (by repeat (first | (with_reducible first | exact HB.out | apply below_alloc | apply pw_below_drewN | apply below_drew1 | refine below_set ?_ GE550.out) | exact HB.out))⟩; clear BK550 HB hq_; have BK550 := n0_; have HB := n1_; clear n0_ n1_)); have hcz16_0 : w15.cell? ⟨gb550, 0, none⟩ = some (.bool false) := (blk_cell BK550.out 0).trans rfl; have hcz16_1 : w15.cell? ⟨gb550, 1, none⟩ = some (.slice none 0 0) := (blk_cell BK550.out 1).trans rfl; have hfz16_0 := blk_frozen BK550.out 0; have hfz16_1 := blk_frozen BK550.out 1))
   refine bodyPost_ret (results_ct rfl _ _ gb550 25 #[.bool false, .slice none 0 0] (0, 0) _ rfl (by refine blk_ups ?_; refine blk_put (cs := #[.bool false, .slice none 0 0]) ?_ 1 _ rfl; refine blk_ups ?_; refine blk_put (cs := #[.bool false, .slice none 0 0]) ?_ 0 _ rfl; exact blk_up BK550.out) Tryd.underlying25 rfl (by kernel_rfl)) rfl ?_
   exact ⟨_, by first | rfl | (simp [errW_none, errW_some] <;> rfl) | (simp [*, errW_none, errW_some] <;> rfl), by first | exact Kd.R_nil _ _ _ _ _ | exact Kd.N_nil _ _ _ _ _ | exact Kd.V_nil _ _ _ _ _ | exact Kd.Q_nil _ _ _ _ _ | exact Kd.S_nil _ _ _ _ _, by repeat (first | (with_reducible first | exact HB.out | apply below_alloc | apply pw_below_drewN | apply below_drew1 | refine below_set ?_ GE550.out) | exact HB.out)⟩
def dowelref01_trim.l0 : Nat → List Int → Int → Option (List Int)
 | 0, _, _ => none
 | k + 1, x0, x3 => if x3 > 0 then (if 0 ≤ (wrap64 (x3 - 1)) then (if (wrap64 (x3 - 1)) < (x0.length : Int) then (if (rd x0 (wrap64 (x3 - 1))) = 0 then (dowelref01_trim.l0 k x0 (wrap64 (x3 - 1))) else (if 0 ≤ x3 then (if x3 ≤ (x0.length : Int) then (some (x0.take (x3 : Int).toNat)) else (none)) else (none))) else (none)) else (none)) else (if 0 ≤ x3 then (if x3 ≤ (x0.length : Int) then (some (x0.take (x3 : Int).toNat)) else (none)) else (none))
def dowelref01_trim.f (k : Nat) (l0 : List Int) : Option (List Int) := dowelref01_trim.l0 k l0 (l0.length : Int)
theorem dowelref01_trim.mono_l : ∀ k, (∀ y0 y1, LeO (dowelref01_trim.l0 k y0 y1) (dowelref01_trim.l0 (k + 1) y0 y1))
 | 0 => fun _ _ r h => by simp [dowelref01_trim.l0] at h
 | k + 1 => by
  have ih0 := dowelref01_trim.mono_l k
  ·
   intro y0 y1
   unfold dowelref01_trim.l0
   repeat' first
   | (with_reducible exact ih0 _ _)
   | (with_reducible exact LeO.refl _)
   | (with_reducible exact LeO.none _)
   | (with_reducible refine LeO.ite ?_ ?_)
   | (with_reducible refine LeO.bind ?_ (fun _ => ?_))
theorem dowelref01_trim.mono : ∀ a0 k, LeO (dowelref01_trim.f k a0) (dowelref01_trim.f (k + 1) a0) := by
 intro a0 k
 have ih0 := dowelref01_trim.mono_l k
 unfold dowelref01_trim.f
 repeat' first
   | (with_reducible exact ih0 _ _)
   | (with_reducible exact LeO.refl _)
   | (with_reducible exact LeO.none _)
   | (with_reducible refine LeO.ite ?_ ?_)
   | (with_reducible refine LeO.bind ?_ (fun _ => ?_))
set_option maxHeartbeats 8000000 in
set_option maxRecDepth 100000 in
theorem dowelref01_trim.calls (k : Nat) (P0_ : Nat → Prop) (u9000_ : Value) (l0 : List Int) (r : List Int) (w0 w : World) (hB : Below w0.heap.size w0 w) (ho0 : Kd.R (Kd.int .i64) 3 w w0.heap.size P0_ u9000_ l0) (h : dowelref01_trim.f k l0 = some r) :
  Calls Tryd.prog 60 #[u9000_] w fun e w' => ∃ v0_ : Value, e = .returned (v0_) ∧ Kd.R (Kd.int .i64) 3 w' w0.heap.size (fun k_ => (P0_ k_ ∨ w.heap.size ≤ k_)) v0_ r ∧ Below w0.heap.size w0 w' ∧ Kept w w' (fun k_ => P0_ k_) := by
 have HO0 := Aside0.mk (show Kd.R (Kd.int .i64) 3 w w0.heap.size (fun k_ => (P0_ k_ ∨ w.heap.size ≤ k_)) u9000_ l0 from Kd.R_mono ho0 (fun k_ hk => (.inl hk)))
 have HK := Aside0.mk (Kept.refl w (fun k_ => P0_ k_))
 have HW0 := Aside0.mk hB.size
 have HB := Aside0.mk hB
 clear hB
 have H := h
 unfold dowelref01_trim.f at H
 clear h
 have H' := Aside0.mk H
 clear H
 obtain ⟨Ao2, co2, eo2⟩ := Kd.R_slice HO0.out
 subst eo2
 go_enter Tryd.func60, Tryd.ntmps60
 go_wp2
 go_loopg [3] k (fun kq v3 w' => ∃ (x3_1 : Int), v3 = .int .i64 x3_1 ∧ Aside0 (dowelref01_trim.l0 kq l0 x3_1 = some r) ∧ Aside0 (kq ≤ k) ∧ Aside0 (Kd.R (Kd.int .i64) 3 w' w0.heap.size (fun k_ => (P0_ k_ ∨ w.heap.size ≤ k_)) (.slice Ao2 l0.length co2) l0) ∧ Aside0 (Kept w w' (fun k_ => P0_ k_)) ∧ Aside0 (Below w0.heap.size w0 w'))
 case atStart => exact ⟨((l0.length : Int)), (by first | rfl | (simp; done) | (simp [*]; done) | (simp <;> omega)), H', ⟨Nat.le_refl _⟩, ⟨Kd.R_up HO0.out⟩, ⟨by repeat (first | (with_reducible first | exact HK.out | apply Kept.alloc | apply Kept.drewN | apply Kept.drew) | exact HK.out)⟩, ⟨below_up HB.out⟩⟩
 case round =>
  clear H'
  obtain ⟨x3_1, rfl, HA, HK1, HO_0, HK, HB⟩ := hrel
  cases gk with
  | zero => exact absurd HA.out (by simp [dowelref01_trim.l0])
  | succ k1 =>
   have H := HA.out
   clear HA
   simp only [dowelref01_trim.l0] at H
   by_cases c3 : x3_1 > 0
   ·
    rw [if_pos c3] at H
    have c3b0 := decide_eq_true c3
    clear c3
    obtain ⟨ji4, hji4⟩ : ∃ j_ : Int, (wrap64 (x3_1 - 1)) = j_ := ⟨_, rfl⟩
    replace H : (if 0 ≤ (ji4) then (if (ji4) < (l0.length : Int) then (if (rd l0 (ji4)) = 0 then (dowelref01_trim.l0 k1 l0 ji4) else (if 0 ≤ x3_1 then (if x3_1 ≤ (l0.length : Int) then (some (l0.take (x3_1 : Int).toNat)) else (none)) else (none))) else (none)) else (none)) = some r := by first | (rw [hji4] at H; exact H) | (simp only [hji4] at H ⊢; exact H)
    have hji4w : (IntKind.i64.wrap (x3_1 - 1)) = ji4 := (i64_w _).trans hji4
    obtain ⟨c5, H⟩ := ite_some H
    have c5b0 := decide_eq_true c5
    clear c5
    obtain ⟨c6, H⟩ := ite_some H
    have c6b0 := decide_eq_true c6
    clear c6
    by_cases c7 : (rd l0 (ji4)) = 0
    ·
     rw [if_pos c7] at H
     have c7b0 : ((rd l0 (ji4)) == 0) = true := beq_iff_eq.mpr c7
     have c7b1 : ((rd l0 (ji4)) != 0) = false := bne_eq_false_iff_eq.mpr c7
     clear c7
     have H' := Aside0.mk H
     clear H
     have p443 : 0 ≤ ((ji4) : Int) := of_decide_eq_true (by assumption)
     have q443 : (ji4) < (l0.length : Int) := of_decide_eq_true (by assumption)
     obtain ⟨ad443, e443, hx443_0⟩ := Kd.at_int (Kd.R_reads' HO_0.out).2.2 (ji4) p443 q443
     cases e443
     replace p443 := eq_true p443
     replace q443 := eq_true q443
     go_wp2
     go_roundg k1
     case measure => have := HK1.out; omega
     case rel => exact ⟨(ji4), (by first | rfl | (simp; done) | (simp only [← hji4] <;> (first | rfl | simp)) | (simp [*]; done)), H', ⟨by have := HK1.out; omega⟩, ⟨Kd.R_up HO_0.out⟩, ⟨by repeat (first | (with_reducible first | exact HK.out | apply Kept.alloc | apply Kept.drewN | apply Kept.drew) | exact HK.out)⟩, ⟨below_up HB.out⟩⟩
    ·
     rw [if_neg c7] at H
     have c7b0 : ((rd l0 (ji4)) == 0) = false := beq_eq_false_iff_ne.mpr c7
     have c7b1 : ((rd l0 (ji4)) != 0) = true := bne_iff_ne.mpr c7
     obtain ⟨c8, H⟩ := ite_some H
     have c8b0 := eq_true c8
     have c8b1 := decide_eq_true c8
     clear c8
     obtain ⟨c9, H⟩ := ite_some H
     have c9b0 := eq_true c9
     have c9b1 := decide_eq_true c9
     clear c9
     obtain ⟨y444, hy444⟩ : ∃ y_ : List Int, y_ = (l0.take (x3_1 : Int).toNat) := ⟨_, rfl⟩
     replace H : (some y444) = some r := by first | (rw [hy444]; exact H) | exact H
     have Ny444 := Aside0.mk hy444
     clear hy444
     obtain rfl := Option.some.inj H
     have p443 : 0 ≤ ((ji4) : Int) := of_decide_eq_true (by assumption)
     have q443 : (ji4) < (l0.length : Int) := of_decide_eq_true (by assumption)
     obtain ⟨ad443, e443, hx443_0⟩ := Kd.at_int (Kd.R_reads' HO_0.out).2.2 (ji4) p443 q443
     cases e443
     replace p443 := eq_true p443
     replace q443 := eq_true q443
     have q10 : (x3_1 : Int) ≤ ((l0.length : Int) : Int) := of_decide_eq_true (by assumption)
     obtain ⟨i010, hi010, _, hsz10, _⟩ := info_parts info3
     have hcut10 := cut_to (P := Tryd.prog) 67 3 .i64 Tryd.underlying67 hi010 (some ad443) l0.length co2 x3_1 (of_decide_eq_true (by assumption)) q10 (Kd.R_reads' HO_0.out).2.1
     have hr10 := Kd.R_take (m := (x3_1 : Int).toNat) HO_0.out (by omega)
     have hy10 : y444.length = (x3_1 : Int).toNat := (by rw [Ny444.out, List.length_take]; omega)
     rw [← Ny444.out] at hr10
     rw [← hy10] at hr10 hcut10
     clear hy10 hi010 hsz10 HO_0
     have HO446 := Aside0.mk hr10
     clear hr10
     replace q10 := eq_true q10
     go_wp2
     go_ret
     exact ⟨_, by first | rfl | (simp [errW_none, errW_some] <;> rfl) | (simp only [← hji4]; first | rfl | (simp [errW_none, errW_some] <;> rfl)) | (simp [*, errW_none, errW_some] <;> rfl), Kd.R_up HO446.out, by repeat (first | (with_reducible first | exact HB.out | apply below_alloc | apply pw_below_drewN | apply below_drew1) | exact HB.out), by repeat (first | (with_reducible first | exact HK.out | apply Kept.alloc | apply Kept.drewN | apply Kept.drew) | exact HK.out)⟩
   ·
    rw [if_neg c3] at H
    have c3b0 := decide_eq_false c3
    clear c3
    by_cases c11 : 0 ≤ x3_1
    ·
     rw [if_pos c11] at H
     have c11b0 := eq_true c11
     have c11b1 := decide_eq_true c11
     clear c11
     obtain ⟨c12, H⟩ := ite_some H
     have c12b0 := eq_true c12
     have c12b1 := decide_eq_true c12
     clear c12
     obtain ⟨y447, hy447⟩ : ∃ y_ : List Int, y_ = (l0.take (x3_1 : Int).toNat) := ⟨_, rfl⟩
     replace H : (some y447) = some r := by first | (rw [hy447]; exact H) | exact H
     have Ny447 := Aside0.mk hy447
     clear hy447
     obtain rfl := Option.some.inj H
     have q13 : (x3_1 : Int) ≤ ((l0.length : Int) : Int) := of_decide_eq_true (by assumption)
     obtain ⟨i013, hi013, _, hsz13, _⟩ := info_parts info3
     have hcut13 := cut_to (P := Tryd.prog) 67 3 .i64 Tryd.underlying67 hi013 Ao2 l0.length co2 x3_1 (of_decide_eq_true (by assumption)) q13 (Kd.R_reads' HO_0.out).2.1
     have hr13 := Kd.R_take (m := (x3_1 : Int).toNat) HO_0.out (by omega)
     have hy13 : y447.length = (x3_1 : Int).toNat := (by rw [Ny447.out, List.length_take]; omega)
     rw [← Ny447.out] at hr13
     rw [← hy13] at hr13 hcut13
     clear hy13 hi013 hsz13 HO_0
     have HO449 := Aside0.mk hr13
     clear hr13
     replace q13 := eq_true q13
     go_wp2
     go_ret
     exact ⟨_, by first | rfl | (simp [errW_none, errW_some] <;> rfl) | (simp [*, errW_none, errW_some] <;> rfl), Kd.R_up HO449.out, by repeat (first | (with_reducible first | exact HB.out | apply below_alloc | apply pw_below_drewN | apply below_drew1) | exact HB.out), by repeat (first | (with_reducible first | exact HK.out | apply Kept.alloc | apply Kept.drewN | apply Kept.drew) | exact HK.out)⟩
    ·
     rw [if_neg c11] at H
     exact absurd H (by simp)
mutual
def dowelref01_text.j0 : Nat → List Int → List Int → Option (ByteArray)
 | 0, _, _ => none
 | k + 1, x1, x5 => dowelref01_text.l0 k x1 x5 (wrap64 ((x1.length : Int) - 1))
def dowelref01_text.l0 : Nat → List Int → List Int → Int → Option (ByteArray)
 | 0, _, _, _ => none
 | k + 1, x1, x5, x6 => if x6 ≥ 0 then (if 0 ≤ x6 then (if x6 < (x1.length : Int) then (if x5.length < 140737488355328 then (dowelref01_text.l0 k x1 (x5 ++ [(wrap64 (48 + (rd x1 x6))) % 256]) (wrap64 (x6 - 1))) else (none)) else (none)) else (none)) else (some (strOfNums x5))
end
def dowelref01_text.f (k : Nat) (a0 : Bool) (l1 : List Int) : Option (ByteArray) := (dowelref01_trim.f k l1).bind fun t450 => (if (t450.length : Int) = 0 then (some (⟨#[48]⟩ : ByteArray)) else (if a0 = true then (if ([] : List Int).length < 140737488355328 then (dowelref01_text.j0 k t450 (([] : List Int) ++ [45])) else (none)) else (dowelref01_text.j0 k t450 ([] : List Int))))
theorem dowelref01_text.mono_l : ∀ k, (∀ y0 y1, LeO (dowelref01_text.j0 k y0 y1) (dowelref01_text.j0 (k + 1) y0 y1)) ∧ (∀ y0 y1 y2, LeO (dowelref01_text.l0 k y0 y1 y2) (dowelref01_text.l0 (k + 1) y0 y1 y2))
 | 0 => ⟨fun _ _ r h => by simp [dowelref01_text.j0] at h, fun _ _ _ r h => by simp [dowelref01_text.l0] at h⟩
 | k + 1 => by
  obtain ⟨ih0, ih1⟩ := dowelref01_text.mono_l k
  refine ⟨?_, ?_⟩
  ·
   intro y0 y1
   unfold dowelref01_text.j0
   repeat' first
   | (with_reducible exact ih0 _ _)
   | (with_reducible exact ih1 _ _ _)
   | (with_reducible exact dowelref01_trim.mono _ _)
   | (with_reducible exact LeO.refl _)
   | (with_reducible exact LeO.none _)
   | (with_reducible refine LeO.ite ?_ ?_)
   | (with_reducible refine LeO.bind ?_ (fun _ => ?_))
  ·
   intro y0 y1 y2
   unfold dowelref01_text.l0
   repeat' first
   | (with_reducible exact ih0 _ _)
   | (with_reducible exact ih1 _ _ _)
   | (with_reducible exact dowelref01_trim.mono _ _)
   | (with_reducible exact LeO.refl _)
   | (with_reducible exact LeO.none _)
   | (with_reducible refine LeO.ite ?_ ?_)
   | (with_reducible refine LeO.bind ?_ (fun _ => ?_))
theorem dowelref01_text.mono : ∀ a0 a1 k, LeO (dowelref01_text.f k a0 a1) (dowelref01_text.f (k + 1) a0 a1) := by
 intro a0 a1 k
 obtain ⟨ih0, ih1⟩ := dowelref01_text.mono_l k
 unfold dowelref01_text.f
 repeat' first
   | (with_reducible exact ih0 _ _)
   | (with_reducible exact ih1 _ _ _)
   | (with_reducible exact dowelref01_trim.mono _ _)
   | (with_reducible exact LeO.refl _)
   | (with_reducible exact LeO.none _)
   | (with_reducible refine LeO.ite ?_ ?_)
   | (with_reducible refine LeO.bind ?_ (fun _ => ?_))
set_option maxHeartbeats 8000000 in
set_option maxRecDepth 100000 in
theorem dowelref01_text.calls (k : Nat) (a0 : Bool) (P1_ : Nat → Prop) (u9000_ : Value) (l1 : List Int) (r : ByteArray) (w0 w : World) (hB : Below w0.heap.size w0 w) (ho1 : Kd.R (Kd.int .i64) 3 w w0.heap.size P1_ u9000_ l1) (h : dowelref01_text.f k a0 l1 = some r) :
  Calls Tryd.prog 51 #[.bool a0, u9000_] w fun e w' => e = .returned (.string r) ∧ Below w0.heap.size w0 w' ∧ Kept w w' (fun k_ => P1_ k_) := by
 have HO1 := Aside0.mk (show Kd.R (Kd.int .i64) 3 w w0.heap.size (fun k_ => (P1_ k_ ∨ w.heap.size ≤ k_)) u9000_ l1 from Kd.R_mono ho1 (fun k_ hk => (.inl hk)))
 have HK := Aside0.mk (Kept.refl w (fun k_ => P1_ k_))
 have HW0 := Aside0.mk hB.size
 have HB := Aside0.mk hB
 clear hB
 have H := h
 unfold dowelref01_text.f at H
 clear h
 replace H := Option.bind_eq_some_iff.mp H
 obtain ⟨t450, A30, H⟩ := H
 try dsimp only at H
 have A3 := Aside0.mk A30
 clear A30
 by_cases c4 : (t450.length : Int) = 0
 ·
  rw [if_pos c4] at H
  have c4b0 : ((t450.length : Int) == 0) = true := beq_iff_eq.mpr c4
  have c4b1 : ((t450.length : Int) != 0) = false := bne_eq_false_iff_eq.mpr c4
  clear c4
  obtain rfl := Option.some.inj H
  obtain ⟨Ao5, co5, eo5⟩ := Kd.R_slice HO1.out
  subst eo5
  go_enter Tryd.func51, Tryd.ntmps51
  go_wp2_with (first | ((with_reducible refine gate_callee (f := 60) rfl ?_); refine gl_ (some 8) Tryd.func60 #[.slice Ao5 l1.length co5] ?_; (with_reducible refine (dowelref01_trim.calls k (fun k_ => some k_ = (.slice Ao5 l1.length co5 : Value).ownBlock) (.slice Ao5 l1.length co5) l1 t450 w0 _ ?side1 ?side2 A3.out).mono ?_); (case side1 => exact below_up HB.out); (case side2 => exact Kd.R_tight rfl HO1.out); rintro e w6 ⟨v451, rfl, ho0, hb, hkp⟩; refine ⟨_, rfl, ?_⟩; have HO452 := Aside0.mk (Kd.R_mono (ok' := fun k_ => (P1_ k_ ∨ w.heap.size ≤ k_)) ho0 (fun k_ hk_ => Or.elim hk_ (fun hs_ => (HO1.out.1 k_ (hs_).symm)) (fun hn_ => (.inr (Nat.le_trans (by first | exact HK.out.1 | exact (show Kept w _ (fun k_ => P1_ k_) from by repeat (first | (with_reducible first | exact HK.out | apply Kept.alloc | apply Kept.drewN | apply Kept.drew) | exact HK.out)).1) hn_))))); replace HK := Aside0.mk (Kept.then_ (S := (fun k_ => P1_ k_)) (kept_up HK.out) hkp (fun k_ hs_ => (fun e_ => (HO1.out.1 k_ e_.symm)) hs_)); replace HB := Aside0.mk (hb); clear HO1; (try clear hb); (try clear hkp); (try clear ho0); obtain ⟨Ao7, co7, eo7⟩ := Kd.R_slice HO452.out; subst eo7))
  go_ret
  exact ⟨by first | rfl | (simp [errW_none, errW_some] <;> rfl) | (simp [*, errW_none, errW_some] <;> rfl), by repeat (first | (with_reducible first | exact HB.out | apply below_alloc | apply pw_below_drewN | apply below_drew1) | exact HB.out), by repeat (first | (with_reducible first | exact HK.out | apply Kept.alloc | apply Kept.drewN | apply Kept.drew) | exact HK.out)⟩
 ·
  rw [if_neg c4] at H
  have c4b0 : ((t450.length : Int) == 0) = false := beq_eq_false_iff_ne.mpr c4
  have c4b1 : ((t450.length : Int) != 0) = true := bne_iff_ne.mpr c4
  have c4b2 : ¬ (t450 = []) := fun h_ => c4 (by rw [h_]; rfl)
  have HC8 := Aside0.mk H
  clear H
  obtain ⟨Ao9, co9, eo9⟩ := Kd.R_slice HO1.out
  subst eo9
  go_enter Tryd.func51, Tryd.ntmps51
  go_upto_if 12 with (first | ((with_reducible refine gate_callee (f := 60) rfl ?_); refine gl_ (some 8) Tryd.func60 #[.slice Ao9 l1.length co9] ?_; (with_reducible refine (dowelref01_trim.calls k (fun k_ => some k_ = (.slice Ao9 l1.length co9 : Value).ownBlock) (.slice Ao9 l1.length co9) l1 t450 w0 _ ?side1 ?side2 A3.out).mono ?_); (case side1 => exact below_up HB.out); (case side2 => exact Kd.R_tight rfl HO1.out); rintro e w10 ⟨v451, rfl, ho0, hb, hkp⟩; refine ⟨_, rfl, ?_⟩; have HO452 := Aside0.mk (Kd.R_mono (ok' := fun k_ => (P1_ k_ ∨ w.heap.size ≤ k_)) ho0 (fun k_ hk_ => Or.elim hk_ (fun hs_ => (HO1.out.1 k_ (hs_).symm)) (fun hn_ => (.inr (Nat.le_trans (by first | exact HK.out.1 | exact (show Kept w _ (fun k_ => P1_ k_) from by repeat (first | (with_reducible first | exact HK.out | apply Kept.alloc | apply Kept.drewN | apply Kept.drew) | exact HK.out)).1) hn_))))); replace HK := Aside0.mk (Kept.then_ (S := (fun k_ => P1_ k_)) (kept_up HK.out) hkp (fun k_ hs_ => (fun e_ => (HO1.out.1 k_ e_.symm)) hs_)); replace HB := Aside0.mk (hb); clear HO1; (try clear hb); (try clear hkp); (try clear ho0); obtain ⟨Ao11, co11, eo11⟩ := Kd.R_slice HO452.out; subst eo11))
  (try simp only [Act.put, List.setIfInBounds_toArray, List.set_cons_zero, List.set_cons_succ])
  go_cut [5] (fun v5 wc => ∃ (kq : Nat) (x5_7 : List Int), Aside0 (dowelref01_text.j0 kq t450 x5_7 = some r) ∧ Aside0 (kq ≤ k) ∧ Aside0 (Kd.R (Kd.int .i64) 3 wc w0.heap.size (fun k_ => (P1_ k_ ∨ w.heap.size ≤ k_)) (.slice Ao11 t450.length co11) t450) ∧ Aside0 (Kd.R (Kd.int .u8) 5 wc w0.heap.size (fun k_ => (P1_ k_ ∨ w.heap.size ≤ k_)) v5 x5_7) ∧ Aside0 (Kept w wc (fun k_ => P1_ k_)) ∧ Aside0 (Below w0.heap.size w0 wc))
  case first =>
   have H := HC8.out
   clear HC8
   by_cases c12 : a0 = true
   ·
    subst c12
    have H1 : (if ([] : List Int).length < 140737488355328 then (dowelref01_text.j0 k t450 (([] : List Int) ++ [45])) else (none)) = some r := by rw [if_pos rfl] at H; exact H
    clear H
    have H := H1
    clear H1
    obtain ⟨c13, H⟩ := ite_some H
    have LMc13 := Aside0.mk c13
    clear c13
    obtain ⟨y453, hy453⟩ : ∃ y_ : List Int, y_ = (([] : List Int) ++ [45]) := ⟨_, rfl⟩
    replace H : (dowelref01_text.j0 k t450 y453) = some r := by first | (rw [hy453]; exact H) | exact H
    have Ny453 := Aside0.mk hy453
    clear hy453
    have H' := Aside0.mk H
    clear H
    go_wp2_with (first | ((with_reducible refine gate_builtin (b := .append) (xs := #[.tmp 13, .tmp 14]) rfl ?_); at_builtin; refine Kd.R_append (Kd.int .u8) (w0 := w0) w0.heap.size rfl (.tmp 13) (.tmp 14) 37 5 (.int .u8 0) 1 rfl Tryd.underlying37 info5 rfl (by decide) (by omega) (.slice none 0 0) ([] : List Int) 45 [.int .u8 45] (fun k_ => (P1_ k_ ∨ w.heap.size ≤ k_)) (fun _ => False) rfl rfl ?aP (fun _ hk => hk.elim) ?aF ?aO ?aB ?aS ?aL ?_; (case aP => exact rfl); (case aB => exact (below_up HB.out)); (case aF => exact (fun k_ hk => (.inr (Nat.le_trans (by first | exact HK.out.1 | exact (show Kept w _ (fun k_ => P1_ k_) from by repeat (first | (with_reducible first | exact HK.out | apply Kept.alloc | apply Kept.drewN | apply Kept.drew) | exact HK.out)).1) hk)))); (case aO => exact ((Kd.R_nil _ _ _ _ (fun k_ => (P1_ k_ ∨ w.heap.size ≤ k_))))); (case aS => exact (below_size (below_up HB.out))); (case aL => have := LMc13.out; omega); intro v454 w14 ho hb hg hat; rw [← Ny453.out] at ho; replace HO452 := Aside0.mk (Kd.R_grown (Kd.R_up HO452.out) hg (fun _ _ => by simp [Value.ownBlock])); replace HB := Aside0.mk (hb); replace HK := Aside0.mk (Kept.of_grown (S := (fun k_ => P1_ k_)) hg (kept_up HK.out) (fun k_ e_ => by simp [Value.ownBlock] at e_)); have HO455 := Aside0.mk (ho); clear ho hb hg hat))
    go_meet
    case rel => exact ⟨_, (y453), H', ⟨by first | omega | exact Nat.le_refl _⟩, ⟨Kd.R_up HO452.out⟩, ⟨Kd.R_up HO455.out⟩, ⟨by repeat (first | (with_reducible first | exact HK.out | apply Kept.alloc | apply Kept.drewN | apply Kept.drew) | exact HK.out)⟩, ⟨below_up HB.out⟩⟩
   ·
    replace c12 := Bool.eq_false_iff.mpr c12
    subst c12
    have H1 : (dowelref01_text.j0 k t450 ([] : List Int)) = some r := by rw [if_neg (show ¬ (false = true) by decide)] at H; exact H
    clear H
    have H := H1
    clear H1
    have H' := Aside0.mk H
    clear H
    go_wp2
    go_meet
    case rel => exact ⟨_, (([] : List Int)), H', ⟨by first | omega | exact Nat.le_refl _⟩, ⟨Kd.R_up HO452.out⟩, ⟨by first | exact Kd.R_nil _ _ _ _ _ | exact Kd.N_nil _ _ _ _ _ | exact Kd.V_nil _ _ _ _ _ | exact Kd.Q_nil _ _ _ _ _ | exact Kd.S_nil _ _ _ _ _⟩, ⟨by repeat (first | (with_reducible first | exact HK.out | apply Kept.alloc | apply Kept.drewN | apply Kept.drew) | exact HK.out)⟩, ⟨below_up HB.out⟩⟩
  case rest =>
   clear HC8
   obtain ⟨kq, x5_7, HA, HJ7, HO_1, HO_5, HK, HB⟩ := hcut
   cases kq with
   | zero => exact absurd HA.out (by simp [dowelref01_text.j0])
   | succ kj7 =>
    have H := HA.out
    clear HA
    simp only [dowelref01_text.j0] at H
    have H' := Aside0.mk H
    clear H
    go_wp2
    go_loopg [5, 6] kj7 (fun kq v5 v6 w' => ∃ (x5_2 : List Int) (x6_2 : Int), v6 = .int .i64 x6_2 ∧ Aside0 (dowelref01_text.l0 kq t450 x5_2 x6_2 = some r) ∧ Aside0 (kq ≤ kj7) ∧ Aside0 (Kd.R (Kd.int .i64) 3 w' w0.heap.size (fun k_ => (P1_ k_ ∨ w.heap.size ≤ k_)) (.slice Ao11 t450.length co11) t450) ∧ Aside0 (Kd.R (Kd.int .u8) 5 w' w0.heap.size (fun k_ => (P1_ k_ ∨ w.heap.size ≤ k_)) v5 x5_2) ∧ Aside0 (Kept w w' (fun k_ => P1_ k_)) ∧ Aside0 (Below w0.heap.size w0 w'))
    case atStart => exact ⟨(x5_7), (wrap64 ((t450.length : Int) - 1)), (by first | rfl | (simp; done) | (simp [*]; done) | (simp <;> omega)), H', ⟨Nat.le_refl _⟩, ⟨Kd.R_up HO_1.out⟩, ⟨Kd.R_up HO_5.out⟩, ⟨by repeat (first | (with_reducible first | exact HK.out | apply Kept.alloc | apply Kept.drewN | apply Kept.drew) | exact HK.out)⟩, ⟨below_up HB.out⟩⟩
    case round =>
     clear H'
     obtain ⟨x5_2, x6_2, rfl, HA, HK2, HO_1, HO_5, HK, HB⟩ := hrel
     cases gk with
     | zero => exact absurd HA.out (by simp [dowelref01_text.l0])
     | succ k2 =>
      have H := HA.out
      clear HA
      simp only [dowelref01_text.l0] at H
      by_cases c15 : x6_2 ≥ 0
      ·
       rw [if_pos c15] at H
       have c15b0 := decide_eq_true c15
       clear c15
       obtain ⟨c16, H⟩ := ite_some H
       have c16b0 := decide_eq_true c16
       clear c16
       obtain ⟨c17, H⟩ := ite_some H
       have c17b0 := decide_eq_true c17
       clear c17
       obtain ⟨c18, H⟩ := ite_some H
       have LMc18 := Aside0.mk c18
       clear c18
       obtain ⟨y457, hy457⟩ : ∃ y_ : List Int, y_ = (x5_2 ++ [(wrap64 (48 + (rd t450 x6_2))) % 256]) := ⟨_, rfl⟩
       replace H : (dowelref01_text.l0 k2 t450 y457 (wrap64 (x6_2 - 1))) = some r := by first | (rw [hy457]; exact H) | exact H
       have Ny457 := Aside0.mk hy457
       clear hy457
       have H' := Aside0.mk H
       clear H
       have p456 : 0 ≤ (x6_2 : Int) := of_decide_eq_true (by assumption)
       have q456 : x6_2 < (t450.length : Int) := of_decide_eq_true (by assumption)
       obtain ⟨ad456, e456, hx456_0⟩ := Kd.at_int (Kd.R_reads' HO_1.out).2.2 x6_2 p456 q456
       cases e456
       replace p456 := eq_true p456
       replace q456 := eq_true q456
       go_wp2_with (first | ((with_reducible refine gate_builtin (b := .append) (xs := #[.tmp 23, .tmp 30]) rfl ?_); at_builtin; refine Kd.R_append (Kd.int .u8) (w0 := w0) w0.heap.size rfl (.tmp 23) (.tmp 30) 37 5 (.int .u8 0) 1 rfl Tryd.underlying37 info5 rfl (by decide) (by omega) u5 x5_2 ((wrap64 (48 + (rd t450 x6_2))) % 256) [.int .u8 ((wrap64 (48 + (rd t450 x6_2))) % 256)] (fun k_ => (P1_ k_ ∨ w.heap.size ≤ k_)) (fun _ => False) rfl rfl ?aP (fun _ hk => hk.elim) ?aF ?aO ?aB ?aS ?aL ?_; (case aP => exact rfl); (case aB => exact (below_up HB.out)); (case aF => exact (fun k_ hk => (.inr (Nat.le_trans (by first | exact HK.out.1 | exact (show Kept w _ (fun k_ => P1_ k_) from by repeat (first | (with_reducible first | exact HK.out | apply Kept.alloc | apply Kept.drewN | apply Kept.drew) | exact HK.out)).1) hk)))); (case aO => exact (Kd.R_up HO_5.out)); (case aS => exact (below_size (below_up HB.out))); (case aL => have := LMc18.out; omega); intro v458 w19 ho hb hg hat; rw [← Ny457.out] at ho; replace HO_1 := Aside0.mk (Kd.R_over' (Kd.R_up HO_1.out) (Kd.R_typed (Kd.R_up HO_5.out)) (by decide) hg); replace HB := Aside0.mk (hb); replace HK := Aside0.mk (Kept.of_grown (S := (fun k_ => P1_ k_)) hg (kept_up HK.out) (fun k_ e_ => (HO_5.out.1 k_ e_))); have HO459 := Aside0.mk (ho); clear HO_5 ho hb hg hat))
       go_roundg k2
       case measure => have := HJ7.out; have := HK2.out; omega
       case rel => exact ⟨(y457), (wrap64 (x6_2 - 1)), (by first | rfl | (simp; done) | (simp [*]; done) | (simp <;> omega)), H', ⟨by have := HJ7.out; have := HK2.out; omega⟩, ⟨Kd.R_up HO_1.out⟩, ⟨Kd.R_up HO459.out⟩, ⟨by repeat (first | (with_reducible first | exact HK.out | apply Kept.alloc | apply Kept.drewN | apply Kept.drew) | exact HK.out)⟩, ⟨below_up HB.out⟩⟩
      ·
       rw [if_neg c15] at H
       have c15b0 := decide_eq_false c15
       clear c15
       obtain rfl := Option.some.inj H
       have hcv20 := own_string (P := Tryd.prog) Tryd.underlying37 Tryd.underlying5 Tryd.underlying9 (Kd.own_of_R HO_5.out)
       go_wp2
       go_ret
       exact ⟨by first | rfl | (simp [errW_none, errW_some] <;> rfl) | (simp [*, errW_none, errW_some] <;> rfl), by repeat (first | (with_reducible first | exact HB.out | apply below_alloc | apply pw_below_drewN | apply below_drew1) | exact HB.out), by repeat (first | (with_reducible first | exact HK.out | apply Kept.alloc | apply Kept.drewN | apply Kept.drew) | exact HK.out)⟩
def dowelref01_Sign.f (a0 : ByteArray) : Option (Int) := if a0.toList = ([48] : List UInt8) then (some 0) else (if 0 < (a0.size : Int) then (if (bt a0 0) = 45 then (some (-1)) else (some 1)) else (none))
set_option maxHeartbeats 8000000 in
set_option maxRecDepth 100000 in
theorem dowelref01_Sign.calls (a0 : ByteArray) (r : Int) (w : World) (h : dowelref01_Sign.f a0 = some r) :
  Calls Tryd.prog 33 #[.string a0] w fun e w' => e = .returned (.int .i64 r) ∧ Drawn0 w w' := by
 have H := h
 unfold dowelref01_Sign.f at H
 clear h
 by_cases c2 : a0.toList = ([48] : List UInt8)
 ·
  rw [if_pos c2] at H
  have c2b0 : (a0.toList == ([48] : List UInt8)) = true := beq_iff_eq.mpr c2
  have c2b1 : (a0.toList != ([48] : List UInt8)) = false := bne_eq_false_iff_eq.mpr c2
  clear c2
  obtain rfl := Option.some.inj H
  go_enter Tryd.func33, Tryd.ntmps33
  go_wp2
  go_ret
  exact ⟨by first | rfl | (simp; done) | (simp [*]; done) | (simp <;> omega), by repeat (first | exact Drawn0.refl _ | apply Drawn0.step)⟩
 ·
  rw [if_neg c2] at H
  have c2b0 : (a0.toList == ([48] : List UInt8)) = false := beq_eq_false_iff_ne.mpr c2
  have c2b1 : (a0.toList != ([48] : List UInt8)) = true := bne_iff_ne.mpr c2
  by_cases c3 : 0 < (a0.size : Int)
  ·
   rw [if_pos c3] at H
   have c3b0 := decide_eq_true c3
   have c3b1 : decide (0 < a0.size) = true := decide_eq_true (by omega)
   clear c3
   by_cases c5 : (bt a0 0) = 45
   ·
    rw [if_pos c5] at H
    have c5b0 : ((bt a0 0) == 45) = true := beq_iff_eq.mpr c5
    have c5b1 : ((bt a0 0) != 45) = false := bne_eq_false_iff_eq.mpr c5
    clear c5
    obtain rfl := Option.some.inj H
    have p4 : 0 ≤ (0 : Int) := (by omega)
    have q4 : 0 < a0.size := (by have : (0 : Int) < (a0.size : Int) := of_decide_eq_true (by assumption); omega)
    have hx4 : ∀ h : 0 < a0.size, ((a0[0]'h).toNat : Int) = bt a0 0 := bt_at a0 0
    clear p4
    have qi4 : (0 < (a0.size : Int)) = True := eq_true (of_decide_eq_true (by assumption))
    replace q4 := eq_true q4
    go_enter Tryd.func33, Tryd.ntmps33
    go_wp2
    go_ret
    exact ⟨by first | rfl | (simp; done) | (simp [*]; done) | (simp <;> omega), by repeat (first | exact Drawn0.refl _ | apply Drawn0.step)⟩
   ·
    rw [if_neg c5] at H
    have c5b0 : ((bt a0 0) == 45) = false := beq_eq_false_iff_ne.mpr c5
    have c5b1 : ((bt a0 0) != 45) = true := bne_iff_ne.mpr c5
    obtain rfl := Option.some.inj H
    have p4 : 0 ≤ (0 : Int) := (by omega)
    have q4 : 0 < a0.size := (by have : (0 : Int) < (a0.size : Int) := of_decide_eq_true (by assumption); omega)
    have hx4 : ∀ h : 0 < a0.size, ((a0[0]'h).toNat : Int) = bt a0 0 := bt_at a0 0
    clear p4
    have qi4 : (0 < (a0.size : Int)) = True := eq_true (of_decide_eq_true (by assumption))
    replace q4 := eq_true q4
    go_enter Tryd.func33, Tryd.ntmps33
    go_wp2
    go_ret
    exact ⟨by first | rfl | (simp; done) | (simp [*]; done) | (simp <;> omega), by repeat (first | exact Drawn0.refl _ | apply Drawn0.step)⟩
  ·
   rw [if_neg c3] at H
   exact absurd H (by simp)
def dowelref01_digits.l0 : Nat → ByteArray → List Int → Int → Option (List Int)
 | 0, _, _, _ => none
 | k + 1, x0, x3, x4 => if x4 ≥ 0 then (if 0 ≤ x4 then (if x4 < (x0.size : Int) then (if (bt x0 x4) = 45 then (dowelref01_digits.l0 k x0 x3 (wrap64 (x4 - 1))) else (if x3.length < 17592186044416 then (dowelref01_digits.l0 k x0 (x3 ++ [wrap64 ((wrap64 (bt x0 x4)) - 48)]) (wrap64 (x4 - 1))) else (none))) else (none)) else (none)) else ((dowelref01_trim.f k x3).bind fun t561 => (some t561))
def dowelref01_digits.f (k : Nat) (a0 : ByteArray) : Option (List Int) := dowelref01_digits.l0 k a0 ([] : List Int) (wrap64 ((a0.size : Int) - 1))
theorem dowelref01_digits.mono_l : ∀ k, (∀ y0 y1 y2, LeO (dowelref01_digits.l0 k y0 y1 y2) (dowelref01_digits.l0 (k + 1) y0 y1 y2))
 | 0 => fun _ _ _ r h => by simp [dowelref01_digits.l0] at h
 | k + 1 => by
  have ih0 := dowelref01_digits.mono_l k
  ·
   intro y0 y1 y2
   unfold dowelref01_digits.l0
   repeat' first
   | (with_reducible exact ih0 _ _ _)
   | (with_reducible exact dowelref01_trim.mono _ _)
   | (with_reducible exact LeO.refl _)
   | (with_reducible exact LeO.none _)
   | (with_reducible refine LeO.ite ?_ ?_)
   | (with_reducible refine LeO.bind ?_ (fun _ => ?_))
theorem dowelref01_digits.mono : ∀ a0 k, LeO (dowelref01_digits.f k a0) (dowelref01_digits.f (k + 1) a0) := by
 intro a0 k
 have ih0 := dowelref01_digits.mono_l k
 unfold dowelref01_digits.f
 repeat' first
   | (with_reducible exact ih0 _ _ _)
   | (with_reducible exact dowelref01_trim.mono _ _)
   | (with_reducible exact LeO.refl _)
   | (with_reducible exact LeO.none _)
   | (with_reducible refine LeO.ite ?_ ?_)
   | (with_reducible refine LeO.bind ?_ (fun _ => ?_))
set_option maxHeartbeats 8000000 in
set_option maxRecDepth 100000 in
theorem dowelref01_digits.calls (k : Nat) (a0 : ByteArray) (r : List Int) (w : World) (h : dowelref01_digits.f k a0 = some r) :
  Calls Tryd.prog 58 #[.string a0] w fun e w' => ∃ v0_ : Value, e = .returned (v0_) ∧ Kd.R (Kd.int .i64) 3 w' w.heap.size (fun _ => True) v0_ r ∧ Below w.heap.size w w' := by
 have HB := Aside0.mk (Below.refl w.heap.size w)
 have H := h
 unfold dowelref01_digits.f at H
 clear h
 have H' := Aside0.mk H
 clear H
 go_enter Tryd.func58, Tryd.ntmps58
 go_wp2
 go_loopg [3, 4] k (fun kq v3 v4 w' => ∃ (x3_1 : List Int) (x4_1 : Int), v4 = .int .i64 x4_1 ∧ Aside0 (dowelref01_digits.l0 kq a0 x3_1 x4_1 = some r) ∧ Aside0 (kq ≤ k) ∧ Aside0 (Kd.R (Kd.int .i64) 3 w' w.heap.size (fun _ => True) v3 x3_1) ∧ Aside0 (Below w.heap.size w w'))
 case atStart => exact ⟨(([] : List Int)), (wrap64 ((a0.size : Int) - 1)), (by first | rfl | (simp; done) | (simp [*]; done) | (simp <;> omega)), H', ⟨Nat.le_refl _⟩, ⟨by first | exact Kd.R_nil _ _ _ _ _ | exact Kd.N_nil _ _ _ _ _ | exact Kd.V_nil _ _ _ _ _ | exact Kd.Q_nil _ _ _ _ _ | exact Kd.S_nil _ _ _ _ _⟩, ⟨below_up HB.out⟩⟩
 case round =>
  clear H'
  obtain ⟨x3_1, x4_1, rfl, HA, HK1, HO_3, HB⟩ := hrel
  cases gk with
  | zero => exact absurd HA.out (by simp [dowelref01_digits.l0])
  | succ k1 =>
   have H := HA.out
   clear HA
   simp only [dowelref01_digits.l0] at H
   by_cases c2 : x4_1 ≥ 0
   ·
    rw [if_pos c2] at H
    have c2b0 := decide_eq_true c2
    clear c2
    obtain ⟨c3, H⟩ := ite_some H
    have c3b0 := decide_eq_true c3
    clear c3
    obtain ⟨c4, H⟩ := ite_some H
    have c4b0 := decide_eq_true c4
    clear c4
    by_cases c6 : (bt a0 x4_1) = 45
    ·
     rw [if_pos c6] at H
     have c6b0 : ((bt a0 x4_1) == 45) = true := beq_iff_eq.mpr c6
     have c6b1 : ((bt a0 x4_1) != 45) = false := bne_eq_false_iff_eq.mpr c6
     clear c6
     have H' := Aside0.mk H
     clear H
     have p5 : 0 ≤ (x4_1 : Int) := of_decide_eq_true (by assumption)
     have q5 : x4_1 < (a0.size : Int) := of_decide_eq_true (by assumption)
     have hx5 := bt_at a0 x4_1
     replace p5 := eq_true p5
     replace q5 := eq_true q5
     go_wp2
     go_roundg k1
     case measure => have := HK1.out; omega
     case rel => exact ⟨(x3_1), (wrap64 (x4_1 - 1)), (by first | rfl | (simp; done) | (simp [*]; done) | (simp <;> omega)), H', ⟨by have := HK1.out; omega⟩, ⟨Kd.R_up HO_3.out⟩, ⟨below_up HB.out⟩⟩
    ·
     rw [if_neg c6] at H
     have c6b0 : ((bt a0 x4_1) == 45) = false := beq_eq_false_iff_ne.mpr c6
     have c6b1 : ((bt a0 x4_1) != 45) = true := bne_iff_ne.mpr c6
     obtain ⟨c8, H⟩ := ite_some H
     have LMc8 := Aside0.mk c8
     clear c8
     obtain ⟨y558, hy558⟩ : ∃ y_ : List Int, y_ = (x3_1 ++ [wrap64 ((wrap64 (bt a0 x4_1)) - 48)]) := ⟨_, rfl⟩
     replace H : (dowelref01_digits.l0 k1 a0 y558 (wrap64 (x4_1 - 1))) = some r := by first | (rw [hy558]; exact H) | exact H
     have Ny558 := Aside0.mk hy558
     clear hy558
     have H' := Aside0.mk H
     clear H
     have p5 : 0 ≤ (x4_1 : Int) := of_decide_eq_true (by assumption)
     have q5 : x4_1 < (a0.size : Int) := of_decide_eq_true (by assumption)
     have hx5 := bt_at a0 x4_1
     replace p5 := eq_true p5
     replace q5 := eq_true q5
     have p7 : 0 ≤ (x4_1 : Int) := of_decide_eq_true (by assumption)
     have q7 : x4_1 < (a0.size : Int) := of_decide_eq_true (by assumption)
     have hx7 := bt_at a0 x4_1
     replace p7 := eq_true p7
     replace q7 := eq_true q7
     go_wp2_with (first | ((with_reducible refine gate_builtin (b := .append) (xs := #[.tmp 16, .tmp 22]) rfl ?_); at_builtin; refine Kd.R_append (Kd.int .i64) (w0 := w) w.heap.size rfl (.tmp 16) (.tmp 22) 67 3 (.int .i64 0) 8 rfl Tryd.underlying67 info3 rfl (by decide) (by omega) u3 x3_1 (wrap64 ((wrap64 (bt a0 x4_1)) - 48)) [.int .i64 (wrap64 ((wrap64 (bt a0 x4_1)) - 48))] (fun _ => True) (fun _ => False) rfl rfl ?aP (fun _ hk => hk.elim) ?aF ?aO ?aB ?aS ?aL ?_; (case aP => exact rfl); (case aB => exact (below_up HB.out)); (case aF => exact (fun _ _ => trivial)); (case aO => exact (Kd.R_up HO_3.out)); (case aS => exact (below_size (below_up HB.out))); (case aL => have := LMc8.out; omega); intro v559 w9 ho hb hg hat; rw [← Ny558.out] at ho; replace HB := Aside0.mk (hb); have HO560 := Aside0.mk (ho); clear HO_3 ho hb hg hat))
     go_roundg k1
     case measure => have := HK1.out; omega
     case rel => exact ⟨(y558), (wrap64 (x4_1 - 1)), (by first | rfl | (simp; done) | (simp [*]; done) | (simp <;> omega)), H', ⟨by have := HK1.out; omega⟩, ⟨Kd.R_up HO560.out⟩, ⟨below_up HB.out⟩⟩
   ·
    rw [if_neg c2] at H
    have c2b0 := decide_eq_false c2
    clear c2
    replace H := Option.bind_eq_some_iff.mp H
    obtain ⟨t561, A100, H⟩ := H
    try dsimp only at H
    have A10 := Aside0.mk A100
    clear A100
    obtain rfl := Option.some.inj H
    obtain ⟨Ao11, co11, eo11⟩ := Kd.R_slice HO_3.out
    subst eo11
    go_wp2_with (first | ((with_reducible refine gate_callee (f := 60) rfl ?_); refine gl_ (some 25) Tryd.func60 #[.slice Ao11 x3_1.length co11] ?_; (with_reducible refine (dowelref01_trim.calls k1 (fun k_ => some k_ = (.slice Ao11 x3_1.length co11 : Value).ownBlock) (.slice Ao11 x3_1.length co11) x3_1 t561 w _ ?side1 ?side2 A10.out).mono ?_); (case side1 => exact below_up HB.out); (case side2 => exact Kd.R_tight rfl HO_3.out); rintro e w12 ⟨v562, rfl, ho0, hb, hkp⟩; refine ⟨_, rfl, ?_⟩; have HO563 := Aside0.mk (Kd.R_mono (ok' := fun k_ => True) ho0 (fun k_ hk_ => trivial)); replace HB := Aside0.mk (hb); clear HO_3; (try clear hb); (try clear hkp); (try clear ho0)))
    go_ret
    exact ⟨_, by first | rfl | (simp [errW_none, errW_some] <;> rfl) | (simp [*, errW_none, errW_some] <;> rfl), Kd.R_up HO563.out, below_up HB.out⟩
def dowelref01_order.l0 : Nat → List Int → List Int → Int → Option (Int)
 | 0, _, _, _ => none
 | k + 1, x0, x1, x5 => if x5 ≥ 0 then (if 0 ≤ x5 then (if x5 < (x0.length : Int) then (if x5 < (x1.length : Int) then (if (rd x0 x5) < (rd x1 x5) then (some (-1)) else (if (rd x0 x5) > (rd x1 x5) then (some 1) else (dowelref01_order.l0 k x0 x1 (wrap64 (x5 - 1))))) else (none)) else (none)) else (none)) else (some 0)
def dowelref01_order.f (k : Nat) (l0 : List Int) (l1 : List Int) : Option (Int) := if (l0.length : Int) = (l1.length : Int) then (dowelref01_order.l0 k l0 l1 (wrap64 ((l0.length : Int) - 1))) else (if (l0.length : Int) < (l1.length : Int) then (some (-1)) else (some 1))
theorem dowelref01_order.mono_l : ∀ k, (∀ y0 y1 y2, LeO (dowelref01_order.l0 k y0 y1 y2) (dowelref01_order.l0 (k + 1) y0 y1 y2))
 | 0 => fun _ _ _ r h => by simp [dowelref01_order.l0] at h
 | k + 1 => by
  have ih0 := dowelref01_order.mono_l k
  ·
   intro y0 y1 y2
   unfold dowelref01_order.l0
   repeat' first
   | (with_reducible exact ih0 _ _ _)
   | (with_reducible exact LeO.refl _)
   | (with_reducible exact LeO.none _)
   | (with_reducible refine LeO.ite ?_ ?_)
   | (with_reducible refine LeO.bind ?_ (fun _ => ?_))
theorem dowelref01_order.mono : ∀ a0 a1 k, LeO (dowelref01_order.f k a0 a1) (dowelref01_order.f (k + 1) a0 a1) := by
 intro a0 a1 k
 have ih0 := dowelref01_order.mono_l k
 unfold dowelref01_order.f
 repeat' first
   | (with_reducible exact ih0 _ _ _)
   | (with_reducible exact LeO.refl _)
   | (with_reducible exact LeO.none _)
   | (with_reducible refine LeO.ite ?_ ?_)
   | (with_reducible refine LeO.bind ?_ (fun _ => ?_))
set_option maxHeartbeats 8000000 in
set_option maxRecDepth 100000 in
theorem dowelref01_order.calls (k : Nat) (A0 : Option Addr) (c0 : Nat) (l0 : List Int) (A1 : Option Addr) (c1 : Nat) (l1 : List Int) (r : Int) (w : World) (hr0 : Kd.C (Kd.int .i64) w A0 l0.length l0) (hc0 : l0.length ≤ c0) (hr1 : Kd.C (Kd.int .i64) w A1 l1.length l1) (hc1 : l1.length ≤ c1) (h : dowelref01_order.f k l0 l1 = some r) :
  Calls Tryd.prog 61 #[.slice A0 l0.length c0, .slice A1 l1.length c1] w fun e w' => e = .returned (.int .i64 r) ∧ Drawn0 w w' := by
 have HR0 := Aside0.mk hr0
 have HC0 := Aside0.mk hc0
 clear hr0 hc0
 have HR1 := Aside0.mk hr1
 have HC1 := Aside0.mk hc1
 clear hr1 hc1
 have H := h
 unfold dowelref01_order.f at H
 clear h
 by_cases c3 : (l0.length : Int) = (l1.length : Int)
 ·
  rw [if_pos c3] at H
  have c3b0 : ((l0.length : Int) == (l1.length : Int)) = true := beq_iff_eq.mpr c3
  have c3b1 : ((l0.length : Int) != (l1.length : Int)) = false := bne_eq_false_iff_eq.mpr c3
  have c3b2 : (l0.length == l1.length) = true := by first | simpa using c3 | (simp at c3 ⊢; omega)
  clear c3
  have H' := Aside0.mk H
  clear H
  go_enter Tryd.func61, Tryd.ntmps61
  go_wp2
  repeat (go_quiet (fail); try go_wp2)
  go_loopg [5] k (fun kq v5 w' => ∃ (x5_1 : Int), v5 = .int .i64 x5_1 ∧ Aside0 (dowelref01_order.l0 kq l0 l1 x5_1 = some r) ∧ Aside0 (kq ≤ k) ∧ Drawn0 w w')
  case atStart => exact ⟨(wrap64 ((l0.length : Int) - 1)), (by first | rfl | (simp; done) | (simp [*]; done) | (simp <;> omega)), H', ⟨Nat.le_refl _⟩, by repeat (first | exact Drawn0.refl _ | apply Drawn0.step)⟩
  case round =>
   clear H'
   obtain ⟨x5_1, rfl, HA, HK1, ⟨m1, rfl⟩⟩ := hrel
   cases gk with
   | zero => exact absurd HA.out (by simp [dowelref01_order.l0])
   | succ k1 =>
    have H := HA.out
    clear HA
    simp only [dowelref01_order.l0] at H
    by_cases c4 : x5_1 ≥ 0
    ·
     rw [if_pos c4] at H
     have c4b0 := decide_eq_true c4
     clear c4
     obtain ⟨c5, H⟩ := ite_some H
     have c5b0 := decide_eq_true c5
     clear c5
     obtain ⟨c6, H⟩ := ite_some H
     have c6b0 := decide_eq_true c6
     clear c6
     obtain ⟨c7, H⟩ := ite_some H
     have c7b0 := decide_eq_true c7
     clear c7
     by_cases c8 : (rd l0 x5_1) < (rd l1 x5_1)
     ·
      rw [if_pos c8] at H
      have c8b0 := decide_eq_true c8
      clear c8
      obtain rfl := Option.some.inj H
      have p609 : 0 ≤ (x5_1 : Int) := of_decide_eq_true (by assumption)
      have q609 : x5_1 < (l0.length : Int) := of_decide_eq_true (by assumption)
      obtain ⟨ad609, e609, hx609_0⟩ := Kd.at_int HR0.out x5_1 p609 q609
      cases e609
      replace p609 := eq_true p609
      replace q609 := eq_true q609
      have p610 : 0 ≤ (x5_1 : Int) := of_decide_eq_true (by assumption)
      have q610 : x5_1 < (l1.length : Int) := of_decide_eq_true (by assumption)
      obtain ⟨ad610, e610, hx610_0⟩ := Kd.at_int HR1.out x5_1 p610 q610
      cases e610
      replace p610 := eq_true p610
      replace q610 := eq_true q610
      go_wp2
      repeat (go_quiet (fail); try go_wp2)
      go_ret
      exact ⟨by first | rfl | (simp; done) | (simp [*]; done) | (simp <;> omega), by repeat (first | exact Drawn0.refl _ | apply Drawn0.step)⟩
     ·
      rw [if_neg c8] at H
      have c8b0 := decide_eq_false c8
      clear c8
      by_cases c9 : (rd l0 x5_1) > (rd l1 x5_1)
      ·
       rw [if_pos c9] at H
       have c9b0 := decide_eq_true c9
       clear c9
       obtain rfl := Option.some.inj H
       have p609 : 0 ≤ (x5_1 : Int) := of_decide_eq_true (by assumption)
       have q609 : x5_1 < (l0.length : Int) := of_decide_eq_true (by assumption)
       obtain ⟨ad609, e609, hx609_0⟩ := Kd.at_int HR0.out x5_1 p609 q609
       cases e609
       replace p609 := eq_true p609
       replace q609 := eq_true q609
       have p610 : 0 ≤ (x5_1 : Int) := of_decide_eq_true (by assumption)
       have q610 : x5_1 < (l1.length : Int) := of_decide_eq_true (by assumption)
       obtain ⟨ad610, e610, hx610_0⟩ := Kd.at_int HR1.out x5_1 p610 q610
       cases e610
       replace p610 := eq_true p610
       replace q610 := eq_true q610
       have p611 : 0 ≤ (x5_1 : Int) := of_decide_eq_true (by assumption)
       have q611 : x5_1 < (l0.length : Int) := of_decide_eq_true (by assumption)
       obtain ⟨ad611, e611, hx611_0⟩ := Kd.at_int HR0.out x5_1 p611 q611
       obtain rfl : ad609 = ad611 := (by injection e611)
       replace p611 := eq_true p611
       replace q611 := eq_true q611
       have p612 : 0 ≤ (x5_1 : Int) := of_decide_eq_true (by assumption)
       have q612 : x5_1 < (l1.length : Int) := of_decide_eq_true (by assumption)
       obtain ⟨ad612, e612, hx612_0⟩ := Kd.at_int HR1.out x5_1 p612 q612
       obtain rfl : ad610 = ad612 := (by injection e612)
       replace p612 := eq_true p612
       replace q612 := eq_true q612
       go_wp2
       repeat (go_quiet (fail); try go_wp2)
       go_ret
       exact ⟨by first | rfl | (simp; done) | (simp [*]; done) | (simp <;> omega), by repeat (first | exact Drawn0.refl _ | apply Drawn0.step)⟩
      ·
       rw [if_neg c9] at H
       have c9b0 := decide_eq_false c9
       clear c9
       have H' := Aside0.mk H
       clear H
       have p609 : 0 ≤ (x5_1 : Int) := of_decide_eq_true (by assumption)
       have q609 : x5_1 < (l0.length : Int) := of_decide_eq_true (by assumption)
       obtain ⟨ad609, e609, hx609_0⟩ := Kd.at_int HR0.out x5_1 p609 q609
       cases e609
       replace p609 := eq_true p609
       replace q609 := eq_true q609
       have p610 : 0 ≤ (x5_1 : Int) := of_decide_eq_true (by assumption)
       have q610 : x5_1 < (l1.length : Int) := of_decide_eq_true (by assumption)
       obtain ⟨ad610, e610, hx610_0⟩ := Kd.at_int HR1.out x5_1 p610 q610
       cases e610
       replace p610 := eq_true p610
       replace q610 := eq_true q610
       have p611 : 0 ≤ (x5_1 : Int) := of_decide_eq_true (by assumption)
       have q611 : x5_1 < (l0.length : Int) := of_decide_eq_true (by assumption)
       obtain ⟨ad611, e611, hx611_0⟩ := Kd.at_int HR0.out x5_1 p611 q611
       obtain rfl : ad609 = ad611 := (by injection e611)
       replace p611 := eq_true p611
       replace q611 := eq_true q611
       have p612 : 0 ≤ (x5_1 : Int) := of_decide_eq_true (by assumption)
       have q612 : x5_1 < (l1.length : Int) := of_decide_eq_true (by assumption)
       obtain ⟨ad612, e612, hx612_0⟩ := Kd.at_int HR1.out x5_1 p612 q612
       obtain rfl : ad610 = ad612 := (by injection e612)
       replace p612 := eq_true p612
       replace q612 := eq_true q612
       go_wp2
       repeat (go_quiet (fail); try go_wp2)
       go_roundg k1
       case measure => have := HK1.out; omega
       case rel => exact ⟨(wrap64 (x5_1 - 1)), (by first | rfl | (simp; done) | (simp [*]; done) | (simp <;> omega)), H', ⟨by have := HK1.out; omega⟩, by repeat (first | exact Drawn0.refl _ | apply Drawn0.step)⟩
    ·
     rw [if_neg c4] at H
     have c4b0 := decide_eq_false c4
     clear c4
     obtain rfl := Option.some.inj H
     go_wp2
     repeat (go_quiet (fail); try go_wp2)
     go_ret
     exact ⟨by first | rfl | (simp; done) | (simp [*]; done) | (simp <;> omega), by repeat (first | exact Drawn0.refl _ | apply Drawn0.step)⟩
 ·
  rw [if_neg c3] at H
  have c3b0 : ((l0.length : Int) == (l1.length : Int)) = false := beq_eq_false_iff_ne.mpr c3
  have c3b1 : ((l0.length : Int) != (l1.length : Int)) = true := bne_iff_ne.mpr c3
  have c3b2 : (l0.length == l1.length) = false := by first | simpa using c3 | (simp at c3 ⊢; omega)
  by_cases c10 : (l0.length : Int) < (l1.length : Int)
  ·
   rw [if_pos c10] at H
   have c10b0 := decide_eq_true c10
   have c10b1 : decide (l0.length < l1.length) = true := decide_eq_true (Int.ofNat_lt.mp c10)
   clear c10
   obtain rfl := Option.some.inj H
   go_enter Tryd.func61, Tryd.ntmps61
   go_wp2
   repeat (go_quiet (fail); try go_wp2)
   go_ret
   exact ⟨by first | rfl | (simp; done) | (simp [*]; done) | (simp <;> omega), by repeat (first | exact Drawn0.refl _ | apply Drawn0.step)⟩
  ·
   rw [if_neg c10] at H
   have c10b0 := decide_eq_false c10
   have c10b1 : decide (l0.length < l1.length) = false := decide_eq_false (fun h => c10 (Int.ofNat_lt.mpr h))
   clear c10
   obtain rfl := Option.some.inj H
   go_enter Tryd.func61, Tryd.ntmps61
   go_wp2
   repeat (go_quiet (fail); try go_wp2)
   go_ret
   exact ⟨by first | rfl | (simp; done) | (simp [*]; done) | (simp <;> omega), by repeat (first | exact Drawn0.refl _ | apply Drawn0.step)⟩
def dowelref01_minus.l0 : Nat → List Int → List Int → List Int → Int → Int → Option (List Int)
 | 0, _, _, _, _, _ => none
 | k + 1, x0, x1, x5, x6, x7 => if x7 < (x0.length : Int) then (if 0 ≤ x7 then (if x7 < (x1.length : Int) then (if (wrap64 ((wrap64 ((rd x0 x7) - x6)) - (rd x1 x7))) < 0 then (if x5.length < 17592186044416 then (dowelref01_minus.l0 k x0 x1 (x5 ++ [wrap64 ((wrap64 ((wrap64 ((rd x0 x7) - x6)) - (rd x1 x7))) + 10)]) 1 (wrap64 (x7 + 1))) else (none)) else (if x5.length < 17592186044416 then (dowelref01_minus.l0 k x0 x1 (x5 ++ [wrap64 ((wrap64 ((rd x0 x7) - x6)) - (rd x1 x7))]) 0 (wrap64 (x7 + 1))) else (none))) else (if (wrap64 ((rd x0 x7) - x6)) < 0 then (if x5.length < 17592186044416 then (dowelref01_minus.l0 k x0 x1 (x5 ++ [wrap64 ((wrap64 ((rd x0 x7) - x6)) + 10)]) 1 (wrap64 (x7 + 1))) else (none)) else (if x5.length < 17592186044416 then (dowelref01_minus.l0 k x0 x1 (x5 ++ [wrap64 ((rd x0 x7) - x6)]) 0 (wrap64 (x7 + 1))) else (none)))) else (none)) else ((dowelref01_trim.f k x5).bind fun t613 => (some t613))
def dowelref01_minus.f (k : Nat) (l0 : List Int) (l1 : List Int) : Option (List Int) := dowelref01_minus.l0 k l0 l1 ([] : List Int) 0 0
theorem dowelref01_minus.mono_l : ∀ k, (∀ y0 y1 y2 y3 y4, LeO (dowelref01_minus.l0 k y0 y1 y2 y3 y4) (dowelref01_minus.l0 (k + 1) y0 y1 y2 y3 y4))
 | 0 => fun _ _ _ _ _ r h => by simp [dowelref01_minus.l0] at h
 | k + 1 => by
  have ih0 := dowelref01_minus.mono_l k
  ·
   intro y0 y1 y2 y3 y4
   unfold dowelref01_minus.l0
   repeat' first
   | (with_reducible exact ih0 _ _ _ _ _)
   | (with_reducible exact dowelref01_trim.mono _ _)
   | (with_reducible exact LeO.refl _)
   | (with_reducible exact LeO.none _)
   | (with_reducible refine LeO.ite ?_ ?_)
   | (with_reducible refine LeO.bind ?_ (fun _ => ?_))
theorem dowelref01_minus.mono : ∀ a0 a1 k, LeO (dowelref01_minus.f k a0 a1) (dowelref01_minus.f (k + 1) a0 a1) := by
 intro a0 a1 k
 have ih0 := dowelref01_minus.mono_l k
 unfold dowelref01_minus.f
 repeat' first
   | (with_reducible exact ih0 _ _ _ _ _)
   | (with_reducible exact dowelref01_trim.mono _ _)
   | (with_reducible exact LeO.refl _)
   | (with_reducible exact LeO.none _)
   | (with_reducible refine LeO.ite ?_ ?_)
   | (with_reducible refine LeO.bind ?_ (fun _ => ?_))
set_option maxHeartbeats 8000000 in
set_option maxRecDepth 100000 in
theorem dowelref01_minus.calls (k : Nat) (A0 : Option Addr) (c0 : Nat) (l0 : List Int) (A1 : Option Addr) (c1 : Nat) (l1 : List Int) (r : List Int) (w : World) (hr0 : Kd.C (Kd.int .i64) w A0 l0.length l0) (hc0 : l0.length ≤ c0) (hr1 : Kd.C (Kd.int .i64) w A1 l1.length l1) (hc1 : l1.length ≤ c1) (h : dowelref01_minus.f k l0 l1 = some r) :
  Calls Tryd.prog 62 #[.slice A0 l0.length c0, .slice A1 l1.length c1] w fun e w' => ∃ v0_ : Value, e = .returned (v0_) ∧ Kd.R (Kd.int .i64) 3 w' w.heap.size (fun _ => True) v0_ r ∧ Below w.heap.size w w' := by
 have HR0 := Aside0.mk hr0
 have HC0 := Aside0.mk hc0
 clear hr0 hc0
 have HR1 := Aside0.mk hr1
 have HC1 := Aside0.mk hc1
 clear hr1 hc1
 have HB := Aside0.mk (Below.refl w.heap.size w)
 have H := h
 unfold dowelref01_minus.f at H
 clear h
 have H' := Aside0.mk H
 clear H
 go_enter Tryd.func62, Tryd.ntmps62
 go_wp2
 go_loopg [5, 6, 7] k (fun kq v5 v6 v7 w' => ∃ (x5_1 : List Int) (x6_1 : Int) (x7_1 : Int), v6 = .int .i64 x6_1 ∧ v7 = .int .i64 x7_1 ∧ Aside0 (dowelref01_minus.l0 kq l0 l1 x5_1 x6_1 x7_1 = some r) ∧ Aside0 (kq ≤ k) ∧ Aside0 (Kd.R (Kd.int .i64) 3 w' w.heap.size (fun _ => True) v5 x5_1) ∧ Aside0 (Below w.heap.size w w'))
 case atStart => exact ⟨(([] : List Int)), (0), (0), (by first | rfl | (simp; done) | (simp [*]; done) | (simp <;> omega)), (by first | rfl | (simp; done) | (simp [*]; done) | (simp <;> omega)), H', ⟨Nat.le_refl _⟩, ⟨by first | exact Kd.R_nil _ _ _ _ _ | exact Kd.N_nil _ _ _ _ _ | exact Kd.V_nil _ _ _ _ _ | exact Kd.Q_nil _ _ _ _ _ | exact Kd.S_nil _ _ _ _ _⟩, ⟨below_up HB.out⟩⟩
 case round =>
  clear H'
  obtain ⟨x5_1, x6_1, x7_1, rfl, rfl, HA, HK1, HO_5, HB⟩ := hrel
  cases gk with
  | zero => exact absurd HA.out (by simp [dowelref01_minus.l0])
  | succ k1 =>
   have H := HA.out
   clear HA
   simp only [dowelref01_minus.l0] at H
   by_cases c3 : x7_1 < (l0.length : Int)
   ·
    rw [if_pos c3] at H
    have c3b0 := decide_eq_true c3
    clear c3
    obtain ⟨c4, H⟩ := ite_some H
    have c4b0 := decide_eq_true c4
    clear c4
    by_cases c5 : x7_1 < (l1.length : Int)
    ·
     rw [if_pos c5] at H
     have c5b0 := decide_eq_true c5
     clear c5
     by_cases c6 : (wrap64 ((wrap64 ((rd l0 x7_1) - x6_1)) - (rd l1 x7_1))) < 0
     ·
      rw [if_pos c6] at H
      have c6b0 := decide_eq_true c6
      clear c6
      obtain ⟨c7, H⟩ := ite_some H
      have LMc7 := Aside0.mk c7
      clear c7
      obtain ⟨y618, hy618⟩ : ∃ y_ : List Int, y_ = (x5_1 ++ [wrap64 ((wrap64 ((wrap64 ((rd l0 x7_1) - x6_1)) - (rd l1 x7_1))) + 10)]) := ⟨_, rfl⟩
      replace H : (dowelref01_minus.l0 k1 l0 l1 y618 1 (wrap64 (x7_1 + 1))) = some r := by first | (rw [hy618]; exact H) | exact H
      have Ny618 := Aside0.mk hy618
      clear hy618
      have H' := Aside0.mk H
      clear H
      have p616 : 0 ≤ (x7_1 : Int) := of_decide_eq_true (by assumption)
      have q616 : x7_1 < (l0.length : Int) := of_decide_eq_true (by assumption)
      obtain ⟨ad616, e616, hx616_0⟩ := Kd.at_int HR0.out x7_1 p616 q616
      cases e616
      replace hx616_0 := (HB.out.cell (World.block_lt_of_cell? w _ hx616_0)).trans hx616_0
      replace p616 := eq_true p616
      replace q616 := eq_true q616
      have p617 : 0 ≤ (x7_1 : Int) := of_decide_eq_true (by assumption)
      have q617 : x7_1 < (l1.length : Int) := of_decide_eq_true (by assumption)
      obtain ⟨ad617, e617, hx617_0⟩ := Kd.at_int HR1.out x7_1 p617 q617
      cases e617
      replace hx617_0 := (HB.out.cell (World.block_lt_of_cell? w _ hx617_0)).trans hx617_0
      replace p617 := eq_true p617
      replace q617 := eq_true q617
      go_wp2_with (first | ((with_reducible refine gate_builtin (b := .append) (xs := #[.tmp 35, .tmp 37]) rfl ?_); at_builtin; refine Kd.R_append (Kd.int .i64) (w0 := w) w.heap.size rfl (.tmp 35) (.tmp 37) 67 3 (.int .i64 0) 8 rfl Tryd.underlying67 info3 rfl (by decide) (by omega) u5 x5_1 (wrap64 ((wrap64 ((wrap64 ((rd l0 x7_1) - x6_1)) - (rd l1 x7_1))) + 10)) [.int .i64 (wrap64 ((wrap64 ((wrap64 ((rd l0 x7_1) - x6_1)) - (rd l1 x7_1))) + 10))] (fun _ => True) (fun _ => False) rfl rfl ?aP (fun _ hk => hk.elim) ?aF ?aO ?aB ?aS ?aL ?_; (case aP => exact rfl); (case aB => exact (below_up HB.out)); (case aF => exact (fun _ _ => trivial)); (case aO => exact (Kd.R_up HO_5.out)); (case aS => exact (below_size (below_up HB.out))); (case aL => have := LMc7.out; omega); intro v619 w8 ho hb hg hat; rw [← Ny618.out] at ho; replace HB := Aside0.mk (hb); have HO620 := Aside0.mk (ho); clear HO_5 ho hb hg hat))
      go_roundg k1
      case measure => have := HK1.out; omega
      case rel => exact ⟨(y618), (1), (wrap64 (x7_1 + 1)), (by first | rfl | (simp; done) | (simp [*]; done) | (simp <;> omega)), (by first | rfl | (simp; done) | (simp [*]; done) | (simp <;> omega)), H', ⟨by have := HK1.out; omega⟩, ⟨Kd.R_up HO620.out⟩, ⟨below_up HB.out⟩⟩
     ·
      rw [if_neg c6] at H
      have c6b0 := decide_eq_false c6
      clear c6
      obtain ⟨c9, H⟩ := ite_some H
      have LMc9 := Aside0.mk c9
      clear c9
      obtain ⟨y621, hy621⟩ : ∃ y_ : List Int, y_ = (x5_1 ++ [wrap64 ((wrap64 ((rd l0 x7_1) - x6_1)) - (rd l1 x7_1))]) := ⟨_, rfl⟩
      replace H : (dowelref01_minus.l0 k1 l0 l1 y621 0 (wrap64 (x7_1 + 1))) = some r := by first | (rw [hy621]; exact H) | exact H
      have Ny621 := Aside0.mk hy621
      clear hy621
      have H' := Aside0.mk H
      clear H
      have p616 : 0 ≤ (x7_1 : Int) := of_decide_eq_true (by assumption)
      have q616 : x7_1 < (l0.length : Int) := of_decide_eq_true (by assumption)
      obtain ⟨ad616, e616, hx616_0⟩ := Kd.at_int HR0.out x7_1 p616 q616
      cases e616
      replace hx616_0 := (HB.out.cell (World.block_lt_of_cell? w _ hx616_0)).trans hx616_0
      replace p616 := eq_true p616
      replace q616 := eq_true q616
      have p617 : 0 ≤ (x7_1 : Int) := of_decide_eq_true (by assumption)
      have q617 : x7_1 < (l1.length : Int) := of_decide_eq_true (by assumption)
      obtain ⟨ad617, e617, hx617_0⟩ := Kd.at_int HR1.out x7_1 p617 q617
      cases e617
      replace hx617_0 := (HB.out.cell (World.block_lt_of_cell? w _ hx617_0)).trans hx617_0
      replace p617 := eq_true p617
      replace q617 := eq_true q617
      go_wp2_with (first | ((with_reducible refine gate_builtin (b := .append) (xs := #[.tmp 35, .tmp 37]) rfl ?_); at_builtin; refine Kd.R_append (Kd.int .i64) (w0 := w) w.heap.size rfl (.tmp 35) (.tmp 37) 67 3 (.int .i64 0) 8 rfl Tryd.underlying67 info3 rfl (by decide) (by omega) u5 x5_1 (wrap64 ((wrap64 ((rd l0 x7_1) - x6_1)) - (rd l1 x7_1))) [.int .i64 (wrap64 ((wrap64 ((rd l0 x7_1) - x6_1)) - (rd l1 x7_1)))] (fun _ => True) (fun _ => False) rfl rfl ?aP (fun _ hk => hk.elim) ?aF ?aO ?aB ?aS ?aL ?_; (case aP => exact rfl); (case aB => exact (below_up HB.out)); (case aF => exact (fun _ _ => trivial)); (case aO => exact (Kd.R_up HO_5.out)); (case aS => exact (below_size (below_up HB.out))); (case aL => have := LMc9.out; omega); intro v622 w10 ho hb hg hat; rw [← Ny621.out] at ho; replace HB := Aside0.mk (hb); have HO623 := Aside0.mk (ho); clear HO_5 ho hb hg hat))
      go_roundg k1
      case measure => have := HK1.out; omega
      case rel => exact ⟨(y621), (0), (wrap64 (x7_1 + 1)), (by first | rfl | (simp; done) | (simp [*]; done) | (simp <;> omega)), (by first | rfl | (simp; done) | (simp [*]; done) | (simp <;> omega)), H', ⟨by have := HK1.out; omega⟩, ⟨Kd.R_up HO623.out⟩, ⟨below_up HB.out⟩⟩
    ·
     rw [if_neg c5] at H
     have c5b0 := decide_eq_false c5
     clear c5
     by_cases c11 : (wrap64 ((rd l0 x7_1) - x6_1)) < 0
     ·
      rw [if_pos c11] at H
      have c11b0 := decide_eq_true c11
      clear c11
      obtain ⟨c12, H⟩ := ite_some H
      have LMc12 := Aside0.mk c12
      clear c12
      obtain ⟨y624, hy624⟩ : ∃ y_ : List Int, y_ = (x5_1 ++ [wrap64 ((wrap64 ((rd l0 x7_1) - x6_1)) + 10)]) := ⟨_, rfl⟩
      replace H : (dowelref01_minus.l0 k1 l0 l1 y624 1 (wrap64 (x7_1 + 1))) = some r := by first | (rw [hy624]; exact H) | exact H
      have Ny624 := Aside0.mk hy624
      clear hy624
      have H' := Aside0.mk H
      clear H
      have p616 : 0 ≤ (x7_1 : Int) := of_decide_eq_true (by assumption)
      have q616 : x7_1 < (l0.length : Int) := of_decide_eq_true (by assumption)
      obtain ⟨ad616, e616, hx616_0⟩ := Kd.at_int HR0.out x7_1 p616 q616
      cases e616
      replace hx616_0 := (HB.out.cell (World.block_lt_of_cell? w _ hx616_0)).trans hx616_0
      replace p616 := eq_true p616
      replace q616 := eq_true q616
      go_wp2_with (first | ((with_reducible refine gate_builtin (b := .append) (xs := #[.tmp 35, .tmp 37]) rfl ?_); at_builtin; refine Kd.R_append (Kd.int .i64) (w0 := w) w.heap.size rfl (.tmp 35) (.tmp 37) 67 3 (.int .i64 0) 8 rfl Tryd.underlying67 info3 rfl (by decide) (by omega) u5 x5_1 (wrap64 ((wrap64 ((rd l0 x7_1) - x6_1)) + 10)) [.int .i64 (wrap64 ((wrap64 ((rd l0 x7_1) - x6_1)) + 10))] (fun _ => True) (fun _ => False) rfl rfl ?aP (fun _ hk => hk.elim) ?aF ?aO ?aB ?aS ?aL ?_; (case aP => exact rfl); (case aB => exact (below_up HB.out)); (case aF => exact (fun _ _ => trivial)); (case aO => exact (Kd.R_up HO_5.out)); (case aS => exact (below_size (below_up HB.out))); (case aL => have := LMc12.out; omega); intro v625 w13 ho hb hg hat; rw [← Ny624.out] at ho; replace HB := Aside0.mk (hb); have HO626 := Aside0.mk (ho); clear HO_5 ho hb hg hat))
      go_roundg k1
      case measure => have := HK1.out; omega
      case rel => exact ⟨(y624), (1), (wrap64 (x7_1 + 1)), (by first | rfl | (simp; done) | (simp [*]; done) | (simp <;> omega)), (by first | rfl | (simp; done) | (simp [*]; done) | (simp <;> omega)), H', ⟨by have := HK1.out; omega⟩, ⟨Kd.R_up HO626.out⟩, ⟨below_up HB.out⟩⟩
     ·
      rw [if_neg c11] at H
      have c11b0 := decide_eq_false c11
      clear c11
      obtain ⟨c14, H⟩ := ite_some H
      have LMc14 := Aside0.mk c14
      clear c14
      obtain ⟨y627, hy627⟩ : ∃ y_ : List Int, y_ = (x5_1 ++ [wrap64 ((rd l0 x7_1) - x6_1)]) := ⟨_, rfl⟩
      replace H : (dowelref01_minus.l0 k1 l0 l1 y627 0 (wrap64 (x7_1 + 1))) = some r := by first | (rw [hy627]; exact H) | exact H
      have Ny627 := Aside0.mk hy627
      clear hy627
      have H' := Aside0.mk H
      clear H
      have p616 : 0 ≤ (x7_1 : Int) := of_decide_eq_true (by assumption)
      have q616 : x7_1 < (l0.length : Int) := of_decide_eq_true (by assumption)
      obtain ⟨ad616, e616, hx616_0⟩ := Kd.at_int HR0.out x7_1 p616 q616
      cases e616
      replace hx616_0 := (HB.out.cell (World.block_lt_of_cell? w _ hx616_0)).trans hx616_0
      replace p616 := eq_true p616
      replace q616 := eq_true q616
      go_wp2_with (first | ((with_reducible refine gate_builtin (b := .append) (xs := #[.tmp 35, .tmp 37]) rfl ?_); at_builtin; refine Kd.R_append (Kd.int .i64) (w0 := w) w.heap.size rfl (.tmp 35) (.tmp 37) 67 3 (.int .i64 0) 8 rfl Tryd.underlying67 info3 rfl (by decide) (by omega) u5 x5_1 (wrap64 ((rd l0 x7_1) - x6_1)) [.int .i64 (wrap64 ((rd l0 x7_1) - x6_1))] (fun _ => True) (fun _ => False) rfl rfl ?aP (fun _ hk => hk.elim) ?aF ?aO ?aB ?aS ?aL ?_; (case aP => exact rfl); (case aB => exact (below_up HB.out)); (case aF => exact (fun _ _ => trivial)); (case aO => exact (Kd.R_up HO_5.out)); (case aS => exact (below_size (below_up HB.out))); (case aL => have := LMc14.out; omega); intro v628 w15 ho hb hg hat; rw [← Ny627.out] at ho; replace HB := Aside0.mk (hb); have HO629 := Aside0.mk (ho); clear HO_5 ho hb hg hat))
      go_roundg k1
      case measure => have := HK1.out; omega
      case rel => exact ⟨(y627), (0), (wrap64 (x7_1 + 1)), (by first | rfl | (simp; done) | (simp [*]; done) | (simp <;> omega)), (by first | rfl | (simp; done) | (simp [*]; done) | (simp <;> omega)), H', ⟨by have := HK1.out; omega⟩, ⟨Kd.R_up HO629.out⟩, ⟨below_up HB.out⟩⟩
   ·
    rw [if_neg c3] at H
    have c3b0 := decide_eq_false c3
    clear c3
    replace H := Option.bind_eq_some_iff.mp H
    obtain ⟨t613, A160, H⟩ := H
    try dsimp only at H
    have A16 := Aside0.mk A160
    clear A160
    obtain rfl := Option.some.inj H
    obtain ⟨Ao17, co17, eo17⟩ := Kd.R_slice HO_5.out
    subst eo17
    go_wp2_with (first | ((with_reducible refine gate_callee (f := 60) rfl ?_); refine gl_ (some 40) Tryd.func60 #[.slice Ao17 x5_1.length co17] ?_; (with_reducible refine (dowelref01_trim.calls k1 (fun k_ => some k_ = (.slice Ao17 x5_1.length co17 : Value).ownBlock) (.slice Ao17 x5_1.length co17) x5_1 t613 w _ ?side1 ?side2 A16.out).mono ?_); (case side1 => exact below_up HB.out); (case side2 => exact Kd.R_tight rfl HO_5.out); rintro e w18 ⟨v614, rfl, ho0, hb, hkp⟩; refine ⟨_, rfl, ?_⟩; have HO615 := Aside0.mk (Kd.R_mono (ok' := fun k_ => True) ho0 (fun k_ hk_ => trivial)); replace HB := Aside0.mk (hb); clear HO_5; (try clear hb); (try clear hkp); (try clear ho0)))
    go_ret
    exact ⟨_, by first | rfl | (simp [errW_none, errW_some] <;> rfl) | (simp [*, errW_none, errW_some] <;> rfl), Kd.R_up HO615.out, below_up HB.out⟩
mutual
def dowelref01_plus.l0 : Nat → List Int → List Int → List Int → Int → Int → Option (List Int)
 | 0, _, _, _, _, _ => none
 | k + 1, x0, x1, x5, x6, x7 => if x7 < (x0.length : Int) then (dowelref01_plus.j1 k x0 x1 x5 x6 x7 true) else (if x7 < (x1.length : Int) then (dowelref01_plus.j1 k x0 x1 x5 x6 x7 true) else (dowelref01_plus.j1 k x0 x1 x5 x6 x7 (decide (x6 > 0))))
def dowelref01_plus.j1 : Nat → List Int → List Int → List Int → Int → Int → Bool → Option (List Int)
 | 0, _, _, _, _, _, _ => none
 | k + 1, x0, x1, x5, x6, x7, x22 => if x22 = true then (if x7 < (x0.length : Int) then (if 0 ≤ x7 then (if x7 < (x1.length : Int) then (if x5.length < 17592186044416 then (dowelref01_plus.l0 k x0 x1 (x5 ++ [Int.tmod (wrap64 ((wrap64 (x6 + (rd x0 x7))) + (rd x1 x7))) 10]) (wrap64 (Int.tdiv (wrap64 ((wrap64 (x6 + (rd x0 x7))) + (rd x1 x7))) 10)) (wrap64 (x7 + 1))) else (none)) else (if x5.length < 17592186044416 then (dowelref01_plus.l0 k x0 x1 (x5 ++ [Int.tmod (wrap64 (x6 + (rd x0 x7))) 10]) (wrap64 (Int.tdiv (wrap64 (x6 + (rd x0 x7))) 10)) (wrap64 (x7 + 1))) else (none))) else (none)) else (if x7 < (x1.length : Int) then (if 0 ≤ x7 then (if x5.length < 17592186044416 then (dowelref01_plus.l0 k x0 x1 (x5 ++ [Int.tmod (wrap64 (x6 + (rd x1 x7))) 10]) (wrap64 (Int.tdiv (wrap64 (x6 + (rd x1 x7))) 10)) (wrap64 (x7 + 1))) else (none)) else (none)) else (if x5.length < 17592186044416 then (dowelref01_plus.l0 k x0 x1 (x5 ++ [Int.tmod x6 10]) (wrap64 (Int.tdiv x6 10)) (wrap64 (x7 + 1))) else (none)))) else (some x5)
end
def dowelref01_plus.f (k : Nat) (l0 : List Int) (l1 : List Int) : Option (List Int) := dowelref01_plus.l0 k l0 l1 ([] : List Int) 0 0
theorem dowelref01_plus.mono_l : ∀ k, (∀ y0 y1 y2 y3 y4, LeO (dowelref01_plus.l0 k y0 y1 y2 y3 y4) (dowelref01_plus.l0 (k + 1) y0 y1 y2 y3 y4)) ∧ (∀ y0 y1 y2 y3 y4 y5, LeO (dowelref01_plus.j1 k y0 y1 y2 y3 y4 y5) (dowelref01_plus.j1 (k + 1) y0 y1 y2 y3 y4 y5))
 | 0 => ⟨fun _ _ _ _ _ r h => by simp [dowelref01_plus.l0] at h, fun _ _ _ _ _ _ r h => by simp [dowelref01_plus.j1] at h⟩
 | k + 1 => by
  obtain ⟨ih0, ih1⟩ := dowelref01_plus.mono_l k
  refine ⟨?_, ?_⟩
  ·
   intro y0 y1 y2 y3 y4
   unfold dowelref01_plus.l0
   repeat' first
   | (with_reducible exact ih0 _ _ _ _ _)
   | (with_reducible exact ih1 _ _ _ _ _ _)
   | (with_reducible exact LeO.refl _)
   | (with_reducible exact LeO.none _)
   | (with_reducible refine LeO.ite ?_ ?_)
   | (with_reducible refine LeO.bind ?_ (fun _ => ?_))
  ·
   intro y0 y1 y2 y3 y4 y5
   unfold dowelref01_plus.j1
   repeat' first
   | (with_reducible exact ih0 _ _ _ _ _)
   | (with_reducible exact ih1 _ _ _ _ _ _)
   | (with_reducible exact LeO.refl _)
   | (with_reducible exact LeO.none _)
   | (with_reducible refine LeO.ite ?_ ?_)
   | (with_reducible refine LeO.bind ?_ (fun _ => ?_))
theorem dowelref01_plus.mono : ∀ a0 a1 k, LeO (dowelref01_plus.f k a0 a1) (dowelref01_plus.f (k + 1) a0 a1) := by
 intro a0 a1 k
 obtain ⟨ih0, ih1⟩ := dowelref01_plus.mono_l k
 unfold dowelref01_plus.f
 repeat' first
   | (with_reducible exact ih0 _ _ _ _ _)
   | (with_reducible exact ih1 _ _ _ _ _ _)
   | (with_reducible exact LeO.refl _)
   | (with_reducible exact LeO.none _)
   | (with_reducible refine LeO.ite ?_ ?_)
   | (with_reducible refine LeO.bind ?_ (fun _ => ?_))
set_option maxHeartbeats 8000000 in
set_option maxRecDepth 100000 in
theorem dowelref01_plus.calls (k : Nat) (A0 : Option Addr) (c0 : Nat) (l0 : List Int) (A1 : Option Addr) (c1 : Nat) (l1 : List Int) (r : List Int) (w : World) (hr0 : Kd.C (Kd.int .i64) w A0 l0.length l0) (hc0 : l0.length ≤ c0) (hr1 : Kd.C (Kd.int .i64) w A1 l1.length l1) (hc1 : l1.length ≤ c1) (h : dowelref01_plus.f k l0 l1 = some r) :
  Calls Tryd.prog 65 #[.slice A0 l0.length c0, .slice A1 l1.length c1] w fun e w' => ∃ v0_ : Value, e = .returned (v0_) ∧ Kd.R (Kd.int .i64) 3 w' w.heap.size (fun _ => True) v0_ r ∧ Below w.heap.size w w' := by
 have HR0 := Aside0.mk hr0
 have HC0 := Aside0.mk hc0
 clear hr0 hc0
 have HR1 := Aside0.mk hr1
 have HC1 := Aside0.mk hc1
 clear hr1 hc1
 have HB := Aside0.mk (Below.refl w.heap.size w)
 have H := h
 unfold dowelref01_plus.f at H
 clear h
 have H' := Aside0.mk H
 clear H
 go_enter Tryd.func65, Tryd.ntmps65
 go_wp2
 go_loopg [5, 6, 7] k (fun kq v5 v6 v7 w' => ∃ (x5_1 : List Int) (x6_1 : Int) (x7_1 : Int), v6 = .int .i64 x6_1 ∧ v7 = .int .i64 x7_1 ∧ Aside0 (dowelref01_plus.l0 kq l0 l1 x5_1 x6_1 x7_1 = some r) ∧ Aside0 (kq ≤ k) ∧ Aside0 (Kd.R (Kd.int .i64) 3 w' w.heap.size (fun _ => True) v5 x5_1) ∧ Aside0 (Below w.heap.size w w'))
 case atStart => exact ⟨(([] : List Int)), (0), (0), (by first | rfl | (simp; done) | (simp [*]; done) | (simp <;> omega)), (by first | rfl | (simp; done) | (simp [*]; done) | (simp <;> omega)), H', ⟨Nat.le_refl _⟩, ⟨by first | exact Kd.R_nil _ _ _ _ _ | exact Kd.N_nil _ _ _ _ _ | exact Kd.V_nil _ _ _ _ _ | exact Kd.Q_nil _ _ _ _ _ | exact Kd.S_nil _ _ _ _ _⟩, ⟨below_up HB.out⟩⟩
 case round =>
  clear H'
  obtain ⟨x5_1, x6_1, x7_1, rfl, rfl, HA, HK1, HO_5, HB⟩ := hrel
  cases gk with
  | zero => exact absurd HA.out (by simp [dowelref01_plus.l0])
  | succ k1 =>
   have H := HA.out
   clear HA
   simp only [dowelref01_plus.l0] at H
   have HC3 := Aside0.mk H
   clear H
   go_upto_region 4 with (fail)
   go_cut [22] (fun v22 wc => ∃ (kq : Nat) (x22_2 : Bool), v22 = .bool x22_2 ∧ Aside0 (dowelref01_plus.j1 kq l0 l1 x5_1 x6_1 x7_1 x22_2 = some r) ∧ Aside0 (kq ≤ k1) ∧ Aside0 (Kd.R (Kd.int .i64) 3 wc w.heap.size (fun _ => True) u5 x5_1) ∧ Aside0 (Below w.heap.size w wc))
   case first =>
    have H := HC3.out
    clear HC3
    by_cases c4 : x7_1 < (l0.length : Int)
    ·
     rw [if_pos c4] at H
     have c4b0 := decide_eq_true c4
     clear c4
     (first | rw [c4b0] | (simp only [i64_w, i32_w]; rw [c4b0]) | skip)
     have H' := Aside0.mk H
     clear H
     go_wp2
     go_meet
     case rel => exact ⟨_, (true), (by first | rfl | (simp; done) | (simp [*]; done) | (simp <;> omega)), H', ⟨by have := HK1.out; first | omega | exact Nat.le_refl _⟩, ⟨Kd.R_up HO_5.out⟩, ⟨below_up HB.out⟩⟩
    ·
     rw [if_neg c4] at H
     have c4b0 := decide_eq_false c4
     clear c4
     (first | rw [c4b0] | (simp only [i64_w, i32_w]; rw [c4b0]) | skip)
     by_cases c5 : x7_1 < (l1.length : Int)
     ·
      rw [if_pos c5] at H
      have c5b0 := decide_eq_true c5
      clear c5
      have H' := Aside0.mk H
      clear H
      go_wp2
      go_meet
      case rel => exact ⟨_, (true), (by first | rfl | (simp; done) | (simp [*]; done) | (simp <;> omega)), H', ⟨by have := HK1.out; first | omega | exact Nat.le_refl _⟩, ⟨Kd.R_up HO_5.out⟩, ⟨below_up HB.out⟩⟩
     ·
      rw [if_neg c5] at H
      have c5b0 := decide_eq_false c5
      clear c5
      have H' := Aside0.mk H
      clear H
      go_wp2
      go_meet
      case rel => exact ⟨_, (decide (x6_1 > 0)), (by first | rfl | (simp; done) | (simp [*]; done) | (simp <;> omega)), H', ⟨by have := HK1.out; first | omega | exact Nat.le_refl _⟩, ⟨Kd.R_up HO_5.out⟩, ⟨below_up HB.out⟩⟩
   case rest =>
    clear HC3
    obtain ⟨kq, x22_2, rfl, HA, HJ2, HO_5, HB⟩ := hcut
    cases kq with
    | zero => exact absurd HA.out (by simp [dowelref01_plus.j1])
    | succ kj2 =>
     have H := HA.out
     clear HA
     simp only [dowelref01_plus.j1] at H
     by_cases c6 : x22_2 = true
     ·
      subst c6
      have H1 : (if x7_1 < (l0.length : Int) then (if 0 ≤ x7_1 then (if x7_1 < (l1.length : Int) then (if x5_1.length < 17592186044416 then (dowelref01_plus.l0 kj2 l0 l1 (x5_1 ++ [Int.tmod (wrap64 ((wrap64 (x6_1 + (rd l0 x7_1))) + (rd l1 x7_1))) 10]) (wrap64 (Int.tdiv (wrap64 ((wrap64 (x6_1 + (rd l0 x7_1))) + (rd l1 x7_1))) 10)) (wrap64 (x7_1 + 1))) else (none)) else (if x5_1.length < 17592186044416 then (dowelref01_plus.l0 kj2 l0 l1 (x5_1 ++ [Int.tmod (wrap64 (x6_1 + (rd l0 x7_1))) 10]) (wrap64 (Int.tdiv (wrap64 (x6_1 + (rd l0 x7_1))) 10)) (wrap64 (x7_1 + 1))) else (none))) else (none)) else (if x7_1 < (l1.length : Int) then (if 0 ≤ x7_1 then (if x5_1.length < 17592186044416 then (dowelref01_plus.l0 kj2 l0 l1 (x5_1 ++ [Int.tmod (wrap64 (x6_1 + (rd l1 x7_1))) 10]) (wrap64 (Int.tdiv (wrap64 (x6_1 + (rd l1 x7_1))) 10)) (wrap64 (x7_1 + 1))) else (none)) else (none)) else (if x5_1.length < 17592186044416 then (dowelref01_plus.l0 kj2 l0 l1 (x5_1 ++ [Int.tmod x6_1 10]) (wrap64 (Int.tdiv x6_1 10)) (wrap64 (x7_1 + 1))) else (none)))) = some r := by rw [if_pos rfl] at H; exact H
      clear H
      have H := H1
      clear H1
      by_cases c7 : x7_1 < (l0.length : Int)
      ·
       rw [if_pos c7] at H
       have c7b0 := decide_eq_true c7
       clear c7
       obtain ⟨c8, H⟩ := ite_some H
       have c8b0 := decide_eq_true c8
       clear c8
       by_cases c9 : x7_1 < (l1.length : Int)
       ·
        rw [if_pos c9] at H
        have c9b0 := decide_eq_true c9
        clear c9
        obtain ⟨c10, H⟩ := ite_some H
        have LMc10 := Aside0.mk c10
        clear c10
        obtain ⟨y632, hy632⟩ : ∃ y_ : List Int, y_ = (x5_1 ++ [Int.tmod (wrap64 ((wrap64 (x6_1 + (rd l0 x7_1))) + (rd l1 x7_1))) 10]) := ⟨_, rfl⟩
        replace H : (dowelref01_plus.l0 kj2 l0 l1 y632 (wrap64 (Int.tdiv (wrap64 ((wrap64 (x6_1 + (rd l0 x7_1))) + (rd l1 x7_1))) 10)) (wrap64 (x7_1 + 1))) = some r := by first | (rw [hy632]; exact H) | exact H
        have Ny632 := Aside0.mk hy632
        clear hy632
        have H' := Aside0.mk H
        clear H
        have p630 : 0 ≤ (x7_1 : Int) := of_decide_eq_true (by assumption)
        have q630 : x7_1 < (l0.length : Int) := of_decide_eq_true (by assumption)
        obtain ⟨ad630, e630, hx630_0⟩ := Kd.at_int HR0.out x7_1 p630 q630
        cases e630
        replace hx630_0 := (HB.out.cell (World.block_lt_of_cell? w _ hx630_0)).trans hx630_0
        replace p630 := eq_true p630
        replace q630 := eq_true q630
        have p631 : 0 ≤ (x7_1 : Int) := of_decide_eq_true (by assumption)
        have q631 : x7_1 < (l1.length : Int) := of_decide_eq_true (by assumption)
        obtain ⟨ad631, e631, hx631_0⟩ := Kd.at_int HR1.out x7_1 p631 q631
        cases e631
        replace hx631_0 := (HB.out.cell (World.block_lt_of_cell? w _ hx631_0)).trans hx631_0
        replace p631 := eq_true p631
        replace q631 := eq_true q631
        go_wp2_with (first | ((with_reducible refine gate_builtin (b := .append) (xs := #[.tmp 46, .tmp 49]) rfl ?_); (try (refine gate_guard (by rfl) ?_; dsimp only)); at_builtin; refine Kd.R_append (Kd.int .i64) (w0 := w) w.heap.size rfl (.tmp 46) (.tmp 49) 67 3 (.int .i64 0) 8 rfl Tryd.underlying67 info3 rfl (by decide) (by omega) u5 x5_1 (Int.tmod (wrap64 ((wrap64 (x6_1 + (rd l0 x7_1))) + (rd l1 x7_1))) 10) [.int .i64 (Int.tmod (wrap64 ((wrap64 (x6_1 + (rd l0 x7_1))) + (rd l1 x7_1))) 10)] (fun _ => True) (fun _ => False) rfl rfl ?aP (fun _ hk => hk.elim) ?aF ?aO ?aB ?aS ?aL ?_; (case aP => exact rfl); (case aB => exact (below_up HB.out)); (case aF => exact (fun _ _ => trivial)); (case aO => exact (Kd.R_up HO_5.out)); (case aS => exact (below_size (below_up HB.out))); (case aL => have := LMc10.out; omega); intro v633 w11 ho hb hg hat; rw [← Ny632.out] at ho; replace HB := Aside0.mk (hb); have HO634 := Aside0.mk (ho); clear HO_5 ho hb hg hat))
        go_roundg kj2
        case measure => have := HK1.out; have := HJ2.out; omega
        case rel => exact ⟨(y632), (wrap64 (Int.tdiv (wrap64 ((wrap64 (x6_1 + (rd l0 x7_1))) + (rd l1 x7_1))) 10)), (wrap64 (x7_1 + 1)), (by first | rfl | (simp; done) | (simp [*]; done) | (simp <;> omega)), (by first | rfl | (simp; done) | (simp [*]; done) | (simp <;> omega)), H', ⟨by have := HK1.out; have := HJ2.out; omega⟩, ⟨Kd.R_up HO634.out⟩, ⟨below_up HB.out⟩⟩
       ·
        rw [if_neg c9] at H
        have c9b0 := decide_eq_false c9
        clear c9
        obtain ⟨c12, H⟩ := ite_some H
        have LMc12 := Aside0.mk c12
        clear c12
        obtain ⟨y635, hy635⟩ : ∃ y_ : List Int, y_ = (x5_1 ++ [Int.tmod (wrap64 (x6_1 + (rd l0 x7_1))) 10]) := ⟨_, rfl⟩
        replace H : (dowelref01_plus.l0 kj2 l0 l1 y635 (wrap64 (Int.tdiv (wrap64 (x6_1 + (rd l0 x7_1))) 10)) (wrap64 (x7_1 + 1))) = some r := by first | (rw [hy635]; exact H) | exact H
        have Ny635 := Aside0.mk hy635
        clear hy635
        have H' := Aside0.mk H
        clear H
        have p630 : 0 ≤ (x7_1 : Int) := of_decide_eq_true (by assumption)
        have q630 : x7_1 < (l0.length : Int) := of_decide_eq_true (by assumption)
        obtain ⟨ad630, e630, hx630_0⟩ := Kd.at_int HR0.out x7_1 p630 q630
        cases e630
        replace hx630_0 := (HB.out.cell (World.block_lt_of_cell? w _ hx630_0)).trans hx630_0
        replace p630 := eq_true p630
        replace q630 := eq_true q630
        go_wp2_with (first | ((with_reducible refine gate_builtin (b := .append) (xs := #[.tmp 46, .tmp 49]) rfl ?_); (try (refine gate_guard (by rfl) ?_; dsimp only)); at_builtin; refine Kd.R_append (Kd.int .i64) (w0 := w) w.heap.size rfl (.tmp 46) (.tmp 49) 67 3 (.int .i64 0) 8 rfl Tryd.underlying67 info3 rfl (by decide) (by omega) u5 x5_1 (Int.tmod (wrap64 (x6_1 + (rd l0 x7_1))) 10) [.int .i64 (Int.tmod (wrap64 (x6_1 + (rd l0 x7_1))) 10)] (fun _ => True) (fun _ => False) rfl rfl ?aP (fun _ hk => hk.elim) ?aF ?aO ?aB ?aS ?aL ?_; (case aP => exact rfl); (case aB => exact (below_up HB.out)); (case aF => exact (fun _ _ => trivial)); (case aO => exact (Kd.R_up HO_5.out)); (case aS => exact (below_size (below_up HB.out))); (case aL => have := LMc12.out; omega); intro v636 w13 ho hb hg hat; rw [← Ny635.out] at ho; replace HB := Aside0.mk (hb); have HO637 := Aside0.mk (ho); clear HO_5 ho hb hg hat))
        go_roundg kj2
        case measure => have := HK1.out; have := HJ2.out; omega
        case rel => exact ⟨(y635), (wrap64 (Int.tdiv (wrap64 (x6_1 + (rd l0 x7_1))) 10)), (wrap64 (x7_1 + 1)), (by first | rfl | (simp; done) | (simp [*]; done) | (simp <;> omega)), (by first | rfl | (simp; done) | (simp [*]; done) | (simp <;> omega)), H', ⟨by have := HK1.out; have := HJ2.out; omega⟩, ⟨Kd.R_up HO637.out⟩, ⟨below_up HB.out⟩⟩
      ·
       rw [if_neg c7] at H
       have c7b0 := decide_eq_false c7
       clear c7
       by_cases c14 : x7_1 < (l1.length : Int)
       ·
        rw [if_pos c14] at H
        have c14b0 := decide_eq_true c14
        clear c14
        obtain ⟨c15, H⟩ := ite_some H
        have c15b0 := decide_eq_true c15
        clear c15
        obtain ⟨c16, H⟩ := ite_some H
        have LMc16 := Aside0.mk c16
        clear c16
        obtain ⟨y639, hy639⟩ : ∃ y_ : List Int, y_ = (x5_1 ++ [Int.tmod (wrap64 (x6_1 + (rd l1 x7_1))) 10]) := ⟨_, rfl⟩
        replace H : (dowelref01_plus.l0 kj2 l0 l1 y639 (wrap64 (Int.tdiv (wrap64 (x6_1 + (rd l1 x7_1))) 10)) (wrap64 (x7_1 + 1))) = some r := by first | (rw [hy639]; exact H) | exact H
        have Ny639 := Aside0.mk hy639
        clear hy639
        have H' := Aside0.mk H
        clear H
        have p638 : 0 ≤ (x7_1 : Int) := of_decide_eq_true (by assumption)
        have q638 : x7_1 < (l1.length : Int) := of_decide_eq_true (by assumption)
        obtain ⟨ad638, e638, hx638_0⟩ := Kd.at_int HR1.out x7_1 p638 q638
        cases e638
        replace hx638_0 := (HB.out.cell (World.block_lt_of_cell? w _ hx638_0)).trans hx638_0
        replace p638 := eq_true p638
        replace q638 := eq_true q638
        go_wp2_with (first | ((with_reducible refine gate_builtin (b := .append) (xs := #[.tmp 46, .tmp 49]) rfl ?_); (try (refine gate_guard (by rfl) ?_; dsimp only)); at_builtin; refine Kd.R_append (Kd.int .i64) (w0 := w) w.heap.size rfl (.tmp 46) (.tmp 49) 67 3 (.int .i64 0) 8 rfl Tryd.underlying67 info3 rfl (by decide) (by omega) u5 x5_1 (Int.tmod (wrap64 (x6_1 + (rd l1 x7_1))) 10) [.int .i64 (Int.tmod (wrap64 (x6_1 + (rd l1 x7_1))) 10)] (fun _ => True) (fun _ => False) rfl rfl ?aP (fun _ hk => hk.elim) ?aF ?aO ?aB ?aS ?aL ?_; (case aP => exact rfl); (case aB => exact (below_up HB.out)); (case aF => exact (fun _ _ => trivial)); (case aO => exact (Kd.R_up HO_5.out)); (case aS => exact (below_size (below_up HB.out))); (case aL => have := LMc16.out; omega); intro v640 w17 ho hb hg hat; rw [← Ny639.out] at ho; replace HB := Aside0.mk (hb); have HO641 := Aside0.mk (ho); clear HO_5 ho hb hg hat))
        go_roundg kj2
        case measure => have := HK1.out; have := HJ2.out; omega
        case rel => exact ⟨(y639), (wrap64 (Int.tdiv (wrap64 (x6_1 + (rd l1 x7_1))) 10)), (wrap64 (x7_1 + 1)), (by first | rfl | (simp; done) | (simp [*]; done) | (simp <;> omega)), (by first | rfl | (simp; done) | (simp [*]; done) | (simp <;> omega)), H', ⟨by have := HK1.out; have := HJ2.out; omega⟩, ⟨Kd.R_up HO641.out⟩, ⟨below_up HB.out⟩⟩
       ·
        rw [if_neg c14] at H
        have c14b0 := decide_eq_false c14
        clear c14
        obtain ⟨c18, H⟩ := ite_some H
        have LMc18 := Aside0.mk c18
        clear c18
        obtain ⟨y642, hy642⟩ : ∃ y_ : List Int, y_ = (x5_1 ++ [Int.tmod x6_1 10]) := ⟨_, rfl⟩
        replace H : (dowelref01_plus.l0 kj2 l0 l1 y642 (wrap64 (Int.tdiv x6_1 10)) (wrap64 (x7_1 + 1))) = some r := by first | (rw [hy642]; exact H) | exact H
        have Ny642 := Aside0.mk hy642
        clear hy642
        have H' := Aside0.mk H
        clear H
        go_wp2_with (first | ((with_reducible refine gate_builtin (b := .append) (xs := #[.tmp 46, .tmp 49]) rfl ?_); (try (refine gate_guard (by rfl) ?_; dsimp only)); at_builtin; refine Kd.R_append (Kd.int .i64) (w0 := w) w.heap.size rfl (.tmp 46) (.tmp 49) 67 3 (.int .i64 0) 8 rfl Tryd.underlying67 info3 rfl (by decide) (by omega) u5 x5_1 (Int.tmod x6_1 10) [.int .i64 (Int.tmod x6_1 10)] (fun _ => True) (fun _ => False) rfl rfl ?aP (fun _ hk => hk.elim) ?aF ?aO ?aB ?aS ?aL ?_; (case aP => exact rfl); (case aB => exact (below_up HB.out)); (case aF => exact (fun _ _ => trivial)); (case aO => exact (Kd.R_up HO_5.out)); (case aS => exact (below_size (below_up HB.out))); (case aL => have := LMc18.out; omega); intro v643 w19 ho hb hg hat; rw [← Ny642.out] at ho; replace HB := Aside0.mk (hb); have HO644 := Aside0.mk (ho); clear HO_5 ho hb hg hat))
        go_roundg kj2
        case measure => have := HK1.out; have := HJ2.out; omega
        case rel => exact ⟨(y642), (wrap64 (Int.tdiv x6_1 10)), (wrap64 (x7_1 + 1)), (by first | rfl | (simp; done) | (simp [*]; done) | (simp <;> omega)), (by first | rfl | (simp; done) | (simp [*]; done) | (simp <;> omega)), H', ⟨by have := HK1.out; have := HJ2.out; omega⟩, ⟨Kd.R_up HO644.out⟩, ⟨below_up HB.out⟩⟩
     ·
      replace c6 := Bool.eq_false_iff.mpr c6
      subst c6
      have H1 : (some x5_1) = some r := by rw [if_neg (show ¬ (false = true) by decide)] at H; exact H
      clear H
      have H := H1
      clear H1
      obtain rfl := Option.some.inj H
      go_wp2
      go_ret
      exact ⟨_, by first | rfl | (simp [errW_none, errW_some] <;> rfl) | (simp [*, errW_none, errW_some] <;> rfl), Kd.R_up HO_5.out, below_up HB.out⟩
def dowelref01_Add.f (k : Nat) (a0 : ByteArray) (a1 : ByteArray) : Option (ByteArray) := (dowelref01_digits.f k a0).bind fun t645 => ((dowelref01_digits.f k a1).bind fun t648 => ((dowelref01_Sign.f a0).bind fun t651 => ((dowelref01_Sign.f a1).bind fun t652 => (if ((decide (t651 < 0)) == (decide (t652 < 0))) = true then ((dowelref01_Sign.f a0).bind fun t653 => ((dowelref01_plus.f k t645 t648).bind fun t654 => ((dowelref01_text.f k (decide (t653 < 0)) t654).bind fun t657 => (some t657)))) else ((dowelref01_order.f k t645 t648).bind fun t658 => (if t658 ≥ 0 then ((dowelref01_Sign.f a0).bind fun t659 => ((dowelref01_minus.f k t645 t648).bind fun t660 => ((dowelref01_text.f k (decide (t659 < 0)) t660).bind fun t663 => (some t663)))) else ((dowelref01_Sign.f a1).bind fun t664 => ((dowelref01_minus.f k t648 t645).bind fun t665 => ((dowelref01_text.f k (decide (t664 < 0)) t665).bind fun t668 => (some t668))))))))))
theorem dowelref01_Add.mono : ∀ a0 a1 k, LeO (dowelref01_Add.f k a0 a1) (dowelref01_Add.f (k + 1) a0 a1) := by
 intro a0 a1 k
 unfold dowelref01_Add.f
 repeat' first
   | (with_reducible exact dowelref01_digits.mono _ _)
   | (with_reducible exact dowelref01_minus.mono _ _ _)
   | (with_reducible exact dowelref01_order.mono _ _ _)
   | (with_reducible exact dowelref01_plus.mono _ _ _)
   | (with_reducible exact dowelref01_text.mono _ _ _)
   | (with_reducible exact LeO.refl _)
   | (with_reducible exact LeO.none _)
   | (with_reducible refine LeO.ite ?_ ?_)
   | (with_reducible refine LeO.bind ?_ (fun _ => ?_))
set_option maxHeartbeats 8000000 in
set_option maxRecDepth 100000 in
theorem dowelref01_Add.calls (k : Nat) (a0 : ByteArray) (a1 : ByteArray) (r : ByteArray) (w : World) (h : dowelref01_Add.f k a0 a1 = some r) :
  Calls Tryd.prog 36 #[.string a0, .string a1] w fun e w' => e = .returned (.string r) ∧ Below w.heap.size w w' := by
 have HB := Aside0.mk (Below.refl w.heap.size w)
 have H := h
 unfold dowelref01_Add.f at H
 clear h
 replace H := Option.bind_eq_some_iff.mp H
 obtain ⟨t645, A30, H⟩ := H
 try dsimp only at H
 have A3 := Aside0.mk A30
 clear A30
 replace H := Option.bind_eq_some_iff.mp H
 obtain ⟨t648, A40, H⟩ := H
 try dsimp only at H
 have A4 := Aside0.mk A40
 clear A40
 replace H := Option.bind_eq_some_iff.mp H
 obtain ⟨t651, A50, H⟩ := H
 try dsimp only at H
 have A5 := Aside0.mk A50
 clear A50
 replace H := Option.bind_eq_some_iff.mp H
 obtain ⟨t652, A60, H⟩ := H
 try dsimp only at H
 have A6 := Aside0.mk A60
 clear A60
 by_cases c7 : ((decide (t651 < 0)) == (decide (t652 < 0))) = true
 ·
  rw [if_pos c7] at H
  have c7b0 : ((decide (t651 < 0)) == (decide (t652 < 0))) = true := c7
  (try (have c7b1 : decide ((decide (t651 < 0)) = (decide (t652 < 0))) = true := by simpa using c7))
  (try (have c7b2 : ((decide (t651 < 0)) == (decide (t652 < 0))) = true := by simpa using c7))
  clear c7
  replace H := Option.bind_eq_some_iff.mp H
  obtain ⟨t653, A80, H⟩ := H
  try dsimp only at H
  have A8 := Aside0.mk A80
  clear A80
  replace H := Option.bind_eq_some_iff.mp H
  obtain ⟨t654, A90, H⟩ := H
  try dsimp only at H
  have A9 := Aside0.mk A90
  clear A90
  replace H := Option.bind_eq_some_iff.mp H
  obtain ⟨t657, A100, H⟩ := H
  try dsimp only at H
  have A10 := Aside0.mk A100
  clear A100
  obtain rfl := Option.some.inj H
  go_enter Tryd.func36, Tryd.ntmps36
  go_wp2_with (first | ((with_reducible refine gate_callee (f := 58) rfl ?_); refine gl_ (some 8) Tryd.func58 #[.string a0] ?_; (with_reducible refine (dowelref01_digits.calls k a0 t645 _ A3.out).mono ?_); rintro e w11 ⟨v646, rfl, ho0, hb⟩; refine ⟨_, rfl, ?_⟩; have HO647 := Aside0.mk (Kd.R_lower ho0 (below_size (below_up HB.out))); replace HB := Aside0.mk (below_step (below_up HB.out) hb); (try clear hb); (try clear hb2); (try clear hk); (try clear hi); (try clear ho0)) | ((with_reducible refine gate_callee (f := 58) rfl ?_); refine gl_ (some 10) Tryd.func58 #[.string a1] ?_; (with_reducible refine (dowelref01_digits.calls k a1 t648 _ A4.out).mono ?_); rintro e w12 ⟨v649, rfl, ho0, hb⟩; refine ⟨_, rfl, ?_⟩; have HO650 := Aside0.mk (Kd.R_lower (Kd.R_new' ho0 (Kd.R_lt (Kd.R_up HO647.out))) (below_size (below_up HB.out))); replace HO647 := Aside0.mk (Kd.R_elder' (Kd.R_up HO647.out) (Kd.R_base ho0) hb); replace HB := Aside0.mk (below_step (below_up HB.out) hb); (try clear hb); (try clear hb2); (try clear hk); (try clear hi); (try clear ho0)) | ((with_reducible refine gate_callee (f := 33) rfl ?_); refine gl_ (some 12) Tryd.func33 #[.string a0] ?_; (with_reducible refine (dowelref01_Sign.calls a0 t651 _ A5.out).mono ?_); rintro e w' ⟨rfl, ⟨nd, rfl⟩⟩; refine ⟨_, rfl, ?_⟩) | ((with_reducible refine gate_callee (f := 33) rfl ?_); refine gl_ (some 15) Tryd.func33 #[.string a1] ?_; (with_reducible refine (dowelref01_Sign.calls a1 t652 _ A6.out).mono ?_); rintro e w' ⟨rfl, ⟨nd, rfl⟩⟩; refine ⟨_, rfl, ?_⟩) | ((with_reducible refine gate_callee (f := 33) rfl ?_); refine gl_ (some 19) Tryd.func33 #[.string a0] ?_; (with_reducible refine (dowelref01_Sign.calls a0 t653 _ A8.out).mono ?_); rintro e w' ⟨rfl, ⟨nd, rfl⟩⟩; refine ⟨_, rfl, ?_⟩; obtain ⟨Ao13, co13, eo13⟩ := Kd.R_slice HO647.out; subst eo13; obtain ⟨Ao14, co14, eo14⟩ := Kd.R_slice HO650.out; subst eo14) | ((with_reducible refine gate_callee (f := 65) rfl ?_); refine gl_ (some 23) Tryd.func65 #[.slice Ao13 t645.length co13, .slice Ao14 t648.length co14] ?_; (with_reducible refine (dowelref01_plus.calls k _ _ t645 _ _ t648 t654 _ ?side1 ?side2 ?side3 ?side4 A9.out).mono ?_); (case side1 => repeat (first | exact (Kd.R_reads' HO647.out).2.2 | (with_reducible refine Kd.C_alloc ?_ _) | (with_reducible refine Kd.C_drewN ?_ _) | (with_reducible refine Kd.C_drew ?_))); (case side2 => exact (Kd.R_reads' HO647.out).2.1); (case side3 => repeat (first | exact (Kd.R_reads' HO650.out).2.2 | (with_reducible refine Kd.C_alloc ?_ _) | (with_reducible refine Kd.C_drewN ?_ _) | (with_reducible refine Kd.C_drew ?_))); (case side4 => exact (Kd.R_reads' HO650.out).2.1); rintro e w15 ⟨v655, rfl, ho0, hb⟩; refine ⟨_, rfl, ?_⟩; have HO656 := Aside0.mk (Kd.R_lower (Kd.R_new' (Kd.R_new' ho0 (Kd.R_lt (Kd.R_up HO647.out))) (Kd.R_lt (Kd.R_up HO650.out))) (below_size (below_up HB.out))); replace HO647 := Aside0.mk (Kd.R_elder' (Kd.R_up HO647.out) (Kd.R_base ho0) hb); replace HO650 := Aside0.mk (Kd.R_elder' (Kd.R_up HO650.out) (Kd.R_base ho0) hb); replace HB := Aside0.mk (below_step (below_up HB.out) hb); (try clear hb); (try clear hb2); (try clear hk); (try clear hi); (try clear ho0); obtain ⟨Ao16, co16, eo16⟩ := Kd.R_slice HO656.out; subst eo16) | ((with_reducible refine gate_callee (f := 51) rfl ?_); refine gl_ (some 24) Tryd.func51 #[.bool (decide (t653 < 0)), .slice Ao16 t654.length co16] ?_; (with_reducible refine (dowelref01_text.calls k (decide (t653 < 0)) (fun k_ => some k_ = (.slice Ao16 t654.length co16 : Value).ownBlock) (.slice Ao16 t654.length co16) t654 t657 w _ ?side1 ?side2 A10.out).mono ?_); (case side1 => exact below_up HB.out); (case side2 => exact Kd.R_tight rfl HO656.out); rintro e w17 ⟨rfl, hb, hkp⟩; refine ⟨_, rfl, ?_⟩; replace HO647 := Aside0.mk (Kd.R_mono (ok' := fun k_ => some k_ ≠ (.slice Ao14 t648.length co14 : Value).ownBlock) (Kd.R_keptB (HO647.out) hkp (fun k_ hk_ hs_ => (hk_.2) hs_)) (fun k_ hk_ => hk_.1.1.2)); replace HO650 := Aside0.mk (Kd.R_mono (ok' := fun k_ => some k_ ≠ (.slice Ao13 t645.length co13 : Value).ownBlock) (Kd.R_keptB (HO650.out) hkp (fun k_ hk_ hs_ => (hk_.2) hs_)) (fun k_ hk_ => hk_.1.1.2)); replace HB := Aside0.mk (hb); clear HO656; (try clear hb); (try clear hkp)))
  go_ret
  exact ⟨by first | rfl | (simp [errW_none, errW_some] <;> rfl) | (simp [*, errW_none, errW_some] <;> rfl), below_up HB.out⟩
 ·
  rw [if_neg c7] at H
  have c7b0 : ((decide (t651 < 0)) == (decide (t652 < 0))) = false := by simpa using c7
  (try (have c7b1 : decide ((decide (t651 < 0)) = (decide (t652 < 0))) = false := by simpa using c7))
  (try (have c7b2 : ((decide (t651 < 0)) == (decide (t652 < 0))) = false := by simpa using c7))
  (try (have c7b3 : ¬ ((decide (t651 < 0)) = (decide (t652 < 0))) := by simpa using c7))
  clear c7
  replace H := Option.bind_eq_some_iff.mp H
  obtain ⟨t658, A180, H⟩ := H
  try dsimp only at H
  have A18 := Aside0.mk A180
  clear A180
  by_cases c19 : t658 ≥ 0
  ·
   rw [if_pos c19] at H
   have c19b0 := decide_eq_true c19
   clear c19
   replace H := Option.bind_eq_some_iff.mp H
   obtain ⟨t659, A200, H⟩ := H
   try dsimp only at H
   have A20 := Aside0.mk A200
   clear A200
   replace H := Option.bind_eq_some_iff.mp H
   obtain ⟨t660, A210, H⟩ := H
   try dsimp only at H
   have A21 := Aside0.mk A210
   clear A210
   replace H := Option.bind_eq_some_iff.mp H
   obtain ⟨t663, A220, H⟩ := H
   try dsimp only at H
   have A22 := Aside0.mk A220
   clear A220
   obtain rfl := Option.some.inj H
   go_enter Tryd.func36, Tryd.ntmps36
   go_wp2_with (first | ((with_reducible refine gate_callee (f := 58) rfl ?_); refine gl_ (some 8) Tryd.func58 #[.string a0] ?_; (with_reducible refine (dowelref01_digits.calls k a0 t645 _ A3.out).mono ?_); rintro e w23 ⟨v646, rfl, ho0, hb⟩; refine ⟨_, rfl, ?_⟩; have HO647 := Aside0.mk (Kd.R_lower ho0 (below_size (below_up HB.out))); replace HB := Aside0.mk (below_step (below_up HB.out) hb); (try clear hb); (try clear hb2); (try clear hk); (try clear hi); (try clear ho0)) | ((with_reducible refine gate_callee (f := 58) rfl ?_); refine gl_ (some 10) Tryd.func58 #[.string a1] ?_; (with_reducible refine (dowelref01_digits.calls k a1 t648 _ A4.out).mono ?_); rintro e w24 ⟨v649, rfl, ho0, hb⟩; refine ⟨_, rfl, ?_⟩; have HO650 := Aside0.mk (Kd.R_lower (Kd.R_new' ho0 (Kd.R_lt (Kd.R_up HO647.out))) (below_size (below_up HB.out))); replace HO647 := Aside0.mk (Kd.R_elder' (Kd.R_up HO647.out) (Kd.R_base ho0) hb); replace HB := Aside0.mk (below_step (below_up HB.out) hb); (try clear hb); (try clear hb2); (try clear hk); (try clear hi); (try clear ho0)) | ((with_reducible refine gate_callee (f := 33) rfl ?_); refine gl_ (some 12) Tryd.func33 #[.string a0] ?_; (with_reducible refine (dowelref01_Sign.calls a0 t651 _ A5.out).mono ?_); rintro e w' ⟨rfl, ⟨nd, rfl⟩⟩; refine ⟨_, rfl, ?_⟩) | ((with_reducible refine gate_callee (f := 33) rfl ?_); refine gl_ (some 15) Tryd.func33 #[.string a1] ?_; (with_reducible refine (dowelref01_Sign.calls a1 t652 _ A6.out).mono ?_); rintro e w' ⟨rfl, ⟨nd, rfl⟩⟩; refine ⟨_, rfl, ?_⟩; obtain ⟨Ao25, co25, eo25⟩ := Kd.R_slice HO647.out; subst eo25; obtain ⟨Ao26, co26, eo26⟩ := Kd.R_slice HO650.out; subst eo26) | ((with_reducible refine gate_callee (f := 61) rfl ?_); refine gl_ (some 27) Tryd.func61 #[.slice Ao25 t645.length co25, .slice Ao26 t648.length co26] ?_; (with_reducible refine (dowelref01_order.calls k _ _ t645 _ _ t648 t658 _ ?side1 ?side2 ?side3 ?side4 A18.out).mono ?_); (case side1 => repeat (first | exact (Kd.R_reads' HO647.out).2.2 | (with_reducible refine Kd.C_alloc ?_ _) | (with_reducible refine Kd.C_drewN ?_ _) | (with_reducible refine Kd.C_drew ?_))); (case side2 => exact (Kd.R_reads' HO647.out).2.1); (case side3 => repeat (first | exact (Kd.R_reads' HO650.out).2.2 | (with_reducible refine Kd.C_alloc ?_ _) | (with_reducible refine Kd.C_drewN ?_ _) | (with_reducible refine Kd.C_drew ?_))); (case side4 => exact (Kd.R_reads' HO650.out).2.1); rintro e w' ⟨rfl, ⟨nd, rfl⟩⟩; refine ⟨_, rfl, ?_⟩) | ((with_reducible refine gate_callee (f := 33) rfl ?_); refine gl_ (some 30) Tryd.func33 #[.string a0] ?_; (with_reducible refine (dowelref01_Sign.calls a0 t659 _ A20.out).mono ?_); rintro e w' ⟨rfl, ⟨nd, rfl⟩⟩; refine ⟨_, rfl, ?_⟩) | ((with_reducible refine gate_callee (f := 62) rfl ?_); refine gl_ (some 34) Tryd.func62 #[.slice Ao25 t645.length co25, .slice Ao26 t648.length co26] ?_; (with_reducible refine (dowelref01_minus.calls k _ _ t645 _ _ t648 t660 _ ?side1 ?side2 ?side3 ?side4 A21.out).mono ?_); (case side1 => repeat (first | exact (Kd.R_reads' HO647.out).2.2 | (with_reducible refine Kd.C_alloc ?_ _) | (with_reducible refine Kd.C_drewN ?_ _) | (with_reducible refine Kd.C_drew ?_))); (case side2 => exact (Kd.R_reads' HO647.out).2.1); (case side3 => repeat (first | exact (Kd.R_reads' HO650.out).2.2 | (with_reducible refine Kd.C_alloc ?_ _) | (with_reducible refine Kd.C_drewN ?_ _) | (with_reducible refine Kd.C_drew ?_))); (case side4 => exact (Kd.R_reads' HO650.out).2.1); rintro e w27 ⟨v661, rfl, ho0, hb⟩; refine ⟨_, rfl, ?_⟩; have HO662 := Aside0.mk (Kd.R_lower (Kd.R_new' (Kd.R_new' ho0 (Kd.R_lt (Kd.R_up HO647.out))) (Kd.R_lt (Kd.R_up HO650.out))) (below_size (below_up HB.out))); replace HO647 := Aside0.mk (Kd.R_elder' (Kd.R_up HO647.out) (Kd.R_base ho0) hb); replace HO650 := Aside0.mk (Kd.R_elder' (Kd.R_up HO650.out) (Kd.R_base ho0) hb); replace HB := Aside0.mk (below_step (below_up HB.out) hb); (try clear hb); (try clear hb2); (try clear hk); (try clear hi); (try clear ho0); obtain ⟨Ao28, co28, eo28⟩ := Kd.R_slice HO662.out; subst eo28) | ((with_reducible refine gate_callee (f := 51) rfl ?_); refine gl_ (some 35) Tryd.func51 #[.bool (decide (t659 < 0)), .slice Ao28 t660.length co28] ?_; (with_reducible refine (dowelref01_text.calls k (decide (t659 < 0)) (fun k_ => some k_ = (.slice Ao28 t660.length co28 : Value).ownBlock) (.slice Ao28 t660.length co28) t660 t663 w _ ?side1 ?side2 A22.out).mono ?_); (case side1 => exact below_up HB.out); (case side2 => exact Kd.R_tight rfl HO662.out); rintro e w29 ⟨rfl, hb, hkp⟩; refine ⟨_, rfl, ?_⟩; replace HO647 := Aside0.mk (Kd.R_mono (ok' := fun k_ => some k_ ≠ (.slice Ao26 t648.length co26 : Value).ownBlock) (Kd.R_keptB (HO647.out) hkp (fun k_ hk_ hs_ => (hk_.2) hs_)) (fun k_ hk_ => hk_.1.1.2)); replace HO650 := Aside0.mk (Kd.R_mono (ok' := fun k_ => some k_ ≠ (.slice Ao25 t645.length co25 : Value).ownBlock) (Kd.R_keptB (HO650.out) hkp (fun k_ hk_ hs_ => (hk_.2) hs_)) (fun k_ hk_ => hk_.1.1.2)); replace HB := Aside0.mk (hb); clear HO662; (try clear hb); (try clear hkp)))
   go_ret
   exact ⟨by first | rfl | (simp [errW_none, errW_some] <;> rfl) | (simp [*, errW_none, errW_some] <;> rfl), below_up HB.out⟩
  ·
   rw [if_neg c19] at H
   have c19b0 := decide_eq_false c19
   clear c19
   replace H := Option.bind_eq_some_iff.mp H
   obtain ⟨t664, A300, H⟩ := H
   try dsimp only at H
   have A30 := Aside0.mk A300
   clear A300
   replace H := Option.bind_eq_some_iff.mp H
   obtain ⟨t665, A310, H⟩ := H
   try dsimp only at H
   have A31 := Aside0.mk A310
   clear A310
   replace H := Option.bind_eq_some_iff.mp H
   obtain ⟨t668, A320, H⟩ := H
   try dsimp only at H
   have A32 := Aside0.mk A320
   clear A320
   obtain rfl := Option.some.inj H
   go_enter Tryd.func36, Tryd.ntmps36
   go_wp2_with (first | ((with_reducible refine gate_callee (f := 58) rfl ?_); refine gl_ (some 8) Tryd.func58 #[.string a0] ?_; (with_reducible refine (dowelref01_digits.calls k a0 t645 _ A3.out).mono ?_); rintro e w33 ⟨v646, rfl, ho0, hb⟩; refine ⟨_, rfl, ?_⟩; have HO647 := Aside0.mk (Kd.R_lower ho0 (below_size (below_up HB.out))); replace HB := Aside0.mk (below_step (below_up HB.out) hb); (try clear hb); (try clear hb2); (try clear hk); (try clear hi); (try clear ho0)) | ((with_reducible refine gate_callee (f := 58) rfl ?_); refine gl_ (some 10) Tryd.func58 #[.string a1] ?_; (with_reducible refine (dowelref01_digits.calls k a1 t648 _ A4.out).mono ?_); rintro e w34 ⟨v649, rfl, ho0, hb⟩; refine ⟨_, rfl, ?_⟩; have HO650 := Aside0.mk (Kd.R_lower (Kd.R_new' ho0 (Kd.R_lt (Kd.R_up HO647.out))) (below_size (below_up HB.out))); replace HO647 := Aside0.mk (Kd.R_elder' (Kd.R_up HO647.out) (Kd.R_base ho0) hb); replace HB := Aside0.mk (below_step (below_up HB.out) hb); (try clear hb); (try clear hb2); (try clear hk); (try clear hi); (try clear ho0)) | ((with_reducible refine gate_callee (f := 33) rfl ?_); refine gl_ (some 12) Tryd.func33 #[.string a0] ?_; (with_reducible refine (dowelref01_Sign.calls a0 t651 _ A5.out).mono ?_); rintro e w' ⟨rfl, ⟨nd, rfl⟩⟩; refine ⟨_, rfl, ?_⟩) | ((with_reducible refine gate_callee (f := 33) rfl ?_); refine gl_ (some 15) Tryd.func33 #[.string a1] ?_; (with_reducible refine (dowelref01_Sign.calls a1 t652 _ A6.out).mono ?_); rintro e w' ⟨rfl, ⟨nd, rfl⟩⟩; refine ⟨_, rfl, ?_⟩; obtain ⟨Ao35, co35, eo35⟩ := Kd.R_slice HO647.out; subst eo35; obtain ⟨Ao36, co36, eo36⟩ := Kd.R_slice HO650.out; subst eo36) | ((with_reducible refine gate_callee (f := 61) rfl ?_); refine gl_ (some 27) Tryd.func61 #[.slice Ao35 t645.length co35, .slice Ao36 t648.length co36] ?_; (with_reducible refine (dowelref01_order.calls k _ _ t645 _ _ t648 t658 _ ?side1 ?side2 ?side3 ?side4 A18.out).mono ?_); (case side1 => repeat (first | exact (Kd.R_reads' HO647.out).2.2 | (with_reducible refine Kd.C_alloc ?_ _) | (with_reducible refine Kd.C_drewN ?_ _) | (with_reducible refine Kd.C_drew ?_))); (case side2 => exact (Kd.R_reads' HO647.out).2.1); (case side3 => repeat (first | exact (Kd.R_reads' HO650.out).2.2 | (with_reducible refine Kd.C_alloc ?_ _) | (with_reducible refine Kd.C_drewN ?_ _) | (with_reducible refine Kd.C_drew ?_))); (case side4 => exact (Kd.R_reads' HO650.out).2.1); rintro e w' ⟨rfl, ⟨nd, rfl⟩⟩; refine ⟨_, rfl, ?_⟩) | ((with_reducible refine gate_callee (f := 33) rfl ?_); refine gl_ (some 37) Tryd.func33 #[.string a1] ?_; (with_reducible refine (dowelref01_Sign.calls a1 t664 _ A30.out).mono ?_); rintro e w' ⟨rfl, ⟨nd, rfl⟩⟩; refine ⟨_, rfl, ?_⟩) | ((with_reducible refine gate_callee (f := 62) rfl ?_); refine gl_ (some 41) Tryd.func62 #[.slice Ao36 t648.length co36, .slice Ao35 t645.length co35] ?_; (with_reducible refine (dowelref01_minus.calls k _ _ t648 _ _ t645 t665 _ ?side1 ?side2 ?side3 ?side4 A31.out).mono ?_); (case side1 => repeat (first | exact (Kd.R_reads' HO650.out).2.2 | (with_reducible refine Kd.C_alloc ?_ _) | (with_reducible refine Kd.C_drewN ?_ _) | (with_reducible refine Kd.C_drew ?_))); (case side2 => exact (Kd.R_reads' HO650.out).2.1); (case side3 => repeat (first | exact (Kd.R_reads' HO647.out).2.2 | (with_reducible refine Kd.C_alloc ?_ _) | (with_reducible refine Kd.C_drewN ?_ _) | (with_reducible refine Kd.C_drew ?_))); (case side4 => exact (Kd.R_reads' HO647.out).2.1); rintro e w37 ⟨v666, rfl, ho0, hb⟩; refine ⟨_, rfl, ?_⟩; have n2_ := Aside0.mk (Kd.R_lower (Kd.R_new' (Kd.R_new' ho0 (Kd.R_lt (Kd.R_up HO647.out))) (Kd.R_lt (Kd.R_up HO650.out))) (below_size (below_up HB.out))); have n3_ := Aside0.mk (below_step (below_up HB.out) hb); (try clear HO647); (try clear HO650); clear HB; have HO667 := n2_; have HB := n3_; clear n2_ n3_; (try clear hb); (try clear hb2); (try clear hk); (try clear hi); (try clear ho0); obtain ⟨Ao38, co38, eo38⟩ := Kd.R_slice HO667.out; subst eo38) | ((with_reducible refine gate_callee (f := 51) rfl ?_); refine gl_ (some 42) Tryd.func51 #[.bool (decide (t664 < 0)), .slice Ao38 t665.length co38] ?_; (with_reducible refine (dowelref01_text.calls k (decide (t664 < 0)) (fun k_ => some k_ = (.slice Ao38 t665.length co38 : Value).ownBlock) (.slice Ao38 t665.length co38) t665 t668 w _ ?side1 ?side2 A32.out).mono ?_); (case side1 => exact below_up HB.out); (case side2 => exact Kd.R_tight rfl HO667.out); rintro e w39 ⟨rfl, hb, hkp⟩; refine ⟨_, rfl, ?_⟩; have n2_ := Aside0.mk (hb); clear HB HO667; have HB := n2_; clear n2_; (try clear hb); (try clear hkp)))
   go_ret
   exact ⟨by first | rfl | (simp [errW_none, errW_some] <;> rfl) | (simp [*, errW_none, errW_some] <;> rfl), below_up HB.out⟩
def dowelref01_Neg.f (k : Nat) (a0 : ByteArray) : Option (ByteArray) := (dowelref01_Sign.f a0).bind fun t669 => ((dowelref01_digits.f k a0).bind fun t670 => ((dowelref01_text.f k (decide (t669 > 0)) t670).bind fun t673 => (some t673)))
theorem dowelref01_Neg.mono : ∀ a0 k, LeO (dowelref01_Neg.f k a0) (dowelref01_Neg.f (k + 1) a0) := by
 intro a0 k
 unfold dowelref01_Neg.f
 repeat' first
   | (with_reducible exact dowelref01_digits.mono _ _)
   | (with_reducible exact dowelref01_text.mono _ _ _)
   | (with_reducible exact LeO.refl _)
   | (with_reducible exact LeO.none _)
   | (with_reducible refine LeO.ite ?_ ?_)
   | (with_reducible refine LeO.bind ?_ (fun _ => ?_))
set_option maxHeartbeats 8000000 in
set_option maxRecDepth 100000 in
theorem dowelref01_Neg.calls (k : Nat) (a0 : ByteArray) (r : ByteArray) (w : World) (h : dowelref01_Neg.f k a0 = some r) :
  Calls Tryd.prog 34 #[.string a0] w fun e w' => e = .returned (.string r) ∧ Below w.heap.size w w' := by
 have HB := Aside0.mk (Below.refl w.heap.size w)
 have H := h
 unfold dowelref01_Neg.f at H
 clear h
 replace H := Option.bind_eq_some_iff.mp H
 obtain ⟨t669, A20, H⟩ := H
 try dsimp only at H
 have A2 := Aside0.mk A20
 clear A20
 replace H := Option.bind_eq_some_iff.mp H
 obtain ⟨t670, A30, H⟩ := H
 try dsimp only at H
 have A3 := Aside0.mk A30
 clear A30
 replace H := Option.bind_eq_some_iff.mp H
 obtain ⟨t673, A40, H⟩ := H
 try dsimp only at H
 have A4 := Aside0.mk A40
 clear A40
 obtain rfl := Option.some.inj H
 go_enter Tryd.func34, Tryd.ntmps34
 go_wp2_with (first | ((with_reducible refine gate_callee (f := 33) rfl ?_); refine gl_ (some 4) Tryd.func33 #[.string a0] ?_; (with_reducible refine (dowelref01_Sign.calls a0 t669 _ A2.out).mono ?_); rintro e w' ⟨rfl, ⟨nd, rfl⟩⟩; refine ⟨_, rfl, ?_⟩) | ((with_reducible refine gate_callee (f := 58) rfl ?_); refine gl_ (some 7) Tryd.func58 #[.string a0] ?_; (with_reducible refine (dowelref01_digits.calls k a0 t670 _ A3.out).mono ?_); rintro e w5 ⟨v671, rfl, ho0, hb⟩; refine ⟨_, rfl, ?_⟩; have HO672 := Aside0.mk (Kd.R_lower ho0 (below_size (below_up HB.out))); replace HB := Aside0.mk (below_step (below_up HB.out) hb); (try clear hb); (try clear hb2); (try clear hk); (try clear hi); (try clear ho0); obtain ⟨Ao6, co6, eo6⟩ := Kd.R_slice HO672.out; subst eo6) | ((with_reducible refine gate_callee (f := 51) rfl ?_); refine gl_ (some 8) Tryd.func51 #[.bool (decide (t669 > 0)), .slice Ao6 t670.length co6] ?_; (with_reducible refine (dowelref01_text.calls k (decide (t669 > 0)) (fun k_ => some k_ = (.slice Ao6 t670.length co6 : Value).ownBlock) (.slice Ao6 t670.length co6) t670 t673 w _ ?side1 ?side2 A4.out).mono ?_); (case side1 => exact below_up HB.out); (case side2 => exact Kd.R_tight rfl HO672.out); rintro e w7 ⟨rfl, hb, hkp⟩; refine ⟨_, rfl, ?_⟩; replace HB := Aside0.mk (hb); clear HO672; (try clear hb); (try clear hkp)))
 go_ret
 exact ⟨by first | rfl | (simp [errW_none, errW_some] <;> rfl) | (simp [*, errW_none, errW_some] <;> rfl), below_up HB.out⟩
def dowelref01_Sub.f (k : Nat) (a0 : ByteArray) (a1 : ByteArray) : Option (ByteArray) := (dowelref01_Neg.f k a1).bind fun t674 => ((dowelref01_Add.f k a0 t674).bind fun t675 => (some t675))
theorem dowelref01_Sub.mono : ∀ a0 a1 k, LeO (dowelref01_Sub.f k a0 a1) (dowelref01_Sub.f (k + 1) a0 a1) := by
 intro a0 a1 k
 unfold dowelref01_Sub.f
 repeat' first
   | (with_reducible exact dowelref01_Add.mono _ _ _)
   | (with_reducible exact dowelref01_Neg.mono _ _)
   | (with_reducible exact LeO.refl _)
   | (with_reducible exact LeO.none _)
   | (with_reducible refine LeO.ite ?_ ?_)
   | (with_reducible refine LeO.bind ?_ (fun _ => ?_))
set_option maxHeartbeats 8000000 in
set_option maxRecDepth 100000 in
theorem dowelref01_Sub.calls (k : Nat) (a0 : ByteArray) (a1 : ByteArray) (r : ByteArray) (w : World) (h : dowelref01_Sub.f k a0 a1 = some r) :
  Calls Tryd.prog 38 #[.string a0, .string a1] w fun e w' => e = .returned (.string r) ∧ Below w.heap.size w w' := by
 have HB := Aside0.mk (Below.refl w.heap.size w)
 have H := h
 unfold dowelref01_Sub.f at H
 clear h
 replace H := Option.bind_eq_some_iff.mp H
 obtain ⟨t674, A30, H⟩ := H
 try dsimp only at H
 have A3 := Aside0.mk A30
 clear A30
 replace H := Option.bind_eq_some_iff.mp H
 obtain ⟨t675, A40, H⟩ := H
 try dsimp only at H
 have A4 := Aside0.mk A40
 clear A40
 obtain rfl := Option.some.inj H
 go_enter Tryd.func38, Tryd.ntmps38
 go_wp2_with (first | ((with_reducible refine gate_callee (f := 34) rfl ?_); refine gl_ (some 7) Tryd.func34 #[.string a1] ?_; (with_reducible refine (dowelref01_Neg.calls k a1 t674 _ A3.out).mono ?_); rintro e w5 ⟨rfl, hb⟩; refine ⟨_, rfl, ?_⟩; replace HB := Aside0.mk (below_step (below_up HB.out) hb); (try clear hb); (try clear hb2); (try clear hk); (try clear hi)) | ((with_reducible refine gate_callee (f := 36) rfl ?_); refine gl_ (some 8) Tryd.func36 #[.string a0, .string t674] ?_; (with_reducible refine (dowelref01_Add.calls k a0 t674 t675 _ A4.out).mono ?_); rintro e w6 ⟨rfl, hb⟩; refine ⟨_, rfl, ?_⟩; replace HB := Aside0.mk (below_step (below_up HB.out) hb); (try clear hb); (try clear hb2); (try clear hk); (try clear hi)))
 go_ret
 exact ⟨by first | rfl | (simp [errW_none, errW_some] <;> rfl) | (simp [*, errW_none, errW_some] <;> rfl), below_up HB.out⟩
mutual
def dowelref01_DivMod.l0 : Nat → ByteArray → ByteArray → List Int → List Int → List Int → List Int → Int → Option (ByteArray × ByteArray)
 | 0, _, _, _, _, _, _, _ => none
 | k + 1, x0, x1, x6, x7, x8, x9, x10 => if x10 ≥ 0 then (if 0 ≤ x10 then (if x10 < (x6.length : Int) then ((some (([rd x6 x10] : List Int) : List Int)).bind fun y686 => (if y686.length + x8.length < 17592186044416 then ((dowelref01_trim.f k (y686 ++ x8)).bind fun t692 => (dowelref01_DivMod.l1 k x0 x1 x6 x7 t692 x9 x10)) else (none))) else (none)) else (none)) else ((dowelref01_Sign.f x0).bind fun t701 => ((dowelref01_Sign.f x1).bind fun t702 => ((dowelref01_text.f k (decide ((wrap64 (t701 * t702)) < 0)) x9).bind fun t703 => ((dowelref01_Sign.f x0).bind fun t704 => ((dowelref01_text.f k (decide (t704 < 0)) x8).bind fun t705 => (if t705.toList = ([48] : List UInt8) then (dowelref01_DivMod.j2 k x1 t703 t705 false) else ((dowelref01_Sign.f t705).bind fun t706 => ((dowelref01_Sign.f x1).bind fun t707 => (dowelref01_DivMod.j2 k x1 t703 t705 (t706 != t707))))))))))
def dowelref01_DivMod.l1 : Nat → ByteArray → ByteArray → List Int → List Int → List Int → List Int → Int → Option (ByteArray × ByteArray)
 | 0, _, _, _, _, _, _, _ => none
 | k + 1, x0, x1, x6, x7, x8, x9, x10 => (dowelref01_order.f k x8 x7).bind fun t695 => (if t695 ≥ 0 then ((dowelref01_minus.f k x8 x7).bind fun t696 => (if 0 ≤ x10 then (if x10 < (x9.length : Int) then (dowelref01_DivMod.l1 k x0 x1 x6 x7 t696 (x9.set (x10 : Int).toNat (wrap64 ((rd x9 x10) + 1))) x10) else (none)) else (none))) else (dowelref01_DivMod.l0 k x0 x1 x6 x7 x8 x9 (wrap64 (x10 - 1))))
def dowelref01_DivMod.j2 : Nat → ByteArray → ByteArray → ByteArray → Bool → Option (ByteArray × ByteArray)
 | 0, _, _, _, _ => none
 | k + 1, x1, x4, x5, x67 => if x67 = true then ((dowelref01_Sub.f k x4 (⟨#[49]⟩ : ByteArray)).bind fun t708 => ((dowelref01_Add.f k x5 x1).bind fun t709 => (some (t708, t709)))) else (some (x4, x5))
end
def dowelref01_DivMod.f (k : Nat) (a0 : ByteArray) (a1 : ByteArray) : Option (ByteArray × ByteArray) := (dowelref01_digits.f k a0).bind fun t676 => ((dowelref01_digits.f k a1).bind fun t679 => (if 0 ≤ (t676.length : Int) then (if ((t676.length : Int) : Int).toNat ≤ 35184372088832 then (dowelref01_DivMod.l0 k a0 a1 t676 t679 ([] : List Int) (List.replicate ((t676.length : Int) : Int).toNat 0) (wrap64 ((t676.length : Int) - 1))) else (none)) else (none)))
theorem dowelref01_DivMod.mono_l : ∀ k, (∀ y0 y1 y2 y3 y4 y5 y6, LeO (dowelref01_DivMod.l0 k y0 y1 y2 y3 y4 y5 y6) (dowelref01_DivMod.l0 (k + 1) y0 y1 y2 y3 y4 y5 y6)) ∧ (∀ y0 y1 y2 y3 y4 y5 y6, LeO (dowelref01_DivMod.l1 k y0 y1 y2 y3 y4 y5 y6) (dowelref01_DivMod.l1 (k + 1) y0 y1 y2 y3 y4 y5 y6)) ∧ (∀ y0 y1 y2 y3, LeO (dowelref01_DivMod.j2 k y0 y1 y2 y3) (dowelref01_DivMod.j2 (k + 1) y0 y1 y2 y3))
 | 0 => ⟨fun _ _ _ _ _ _ _ r h => by simp [dowelref01_DivMod.l0] at h, fun _ _ _ _ _ _ _ r h => by simp [dowelref01_DivMod.l1] at h, fun _ _ _ _ r h => by simp [dowelref01_DivMod.j2] at h⟩
 | k + 1 => by
  obtain ⟨ih0, ih1, ih2⟩ := dowelref01_DivMod.mono_l k
  refine ⟨?_, ?_, ?_⟩
  ·
   intro y0 y1 y2 y3 y4 y5 y6
   unfold dowelref01_DivMod.l0
   repeat' first
   | (with_reducible exact ih0 _ _ _ _ _ _ _)
   | (with_reducible exact ih1 _ _ _ _ _ _ _)
   | (with_reducible exact ih2 _ _ _ _)
   | (with_reducible exact dowelref01_Add.mono _ _ _)
   | (with_reducible exact dowelref01_Sub.mono _ _ _)
   | (with_reducible exact dowelref01_digits.mono _ _)
   | (with_reducible exact dowelref01_minus.mono _ _ _)
   | (with_reducible exact dowelref01_order.mono _ _ _)
   | (with_reducible exact dowelref01_text.mono _ _ _)
   | (with_reducible exact dowelref01_trim.mono _ _)
   | (with_reducible exact LeO.refl _)
   | (with_reducible exact LeO.none _)
   | (with_reducible refine LeO.ite ?_ ?_)
   | (with_reducible refine LeO.bind ?_ (fun _ => ?_))
  ·
   intro y0 y1 y2 y3 y4 y5 y6
   unfold dowelref01_DivMod.l1
   repeat' first
   | (with_reducible exact ih0 _ _ _ _ _ _ _)
   | (with_reducible exact ih1 _ _ _ _ _ _ _)
   | (with_reducible exact ih2 _ _ _ _)
   | (with_reducible exact dowelref01_Add.mono _ _ _)
   | (with_reducible exact dowelref01_Sub.mono _ _ _)
   | (with_reducible exact dowelref01_digits.mono _ _)
   | (with_reducible exact dowelref01_minus.mono _ _ _)
   | (with_reducible exact dowelref01_order.mono _ _ _)
   | (with_reducible exact dowelref01_text.mono _ _ _)
   | (with_reducible exact dowelref01_trim.mono _ _)
   | (with_reducible exact LeO.refl _)
   | (with_reducible exact LeO.none _)
   | (with_reducible refine LeO.ite ?_ ?_)
   | (with_reducible refine LeO.bind ?_ (fun _ => ?_))
  ·
   intro y0 y1 y2 y3
   unfold dowelref01_DivMod.j2
   repeat' first
   | (with_reducible exact ih0 _ _ _ _ _ _ _)
   | (with_reducible exact ih1 _ _ _ _ _ _ _)
   | (with_reducible exact ih2 _ _ _ _)
   | (with_reducible exact dowelref01_Add.mono _ _ _)
   | (with_reducible exact dowelref01_Sub.mono _ _ _)
   | (with_reducible exact dowelref01_digits.mono _ _)
   | (with_reducible exact dowelref01_minus.mono _ _ _)
   | (with_reducible exact dowelref01_order.mono _ _ _)
   | (with_reducible exact dowelref01_text.mono _ _ _)
   | (with_reducible exact dowelref01_trim.mono _ _)
   | (with_reducible exact LeO.refl _)
   | (with_reducible exact LeO.none _)
   | (with_reducible refine LeO.ite ?_ ?_)
   | (with_reducible refine LeO.bind ?_ (fun _ => ?_))
theorem dowelref01_DivMod.mono : ∀ a0 a1 k, LeO (dowelref01_DivMod.f k a0 a1) (dowelref01_DivMod.f (k + 1) a0 a1) := by
 intro a0 a1 k
 obtain ⟨ih0, ih1, ih2⟩ := dowelref01_DivMod.mono_l k
 unfold dowelref01_DivMod.f
 repeat' first
   | (with_reducible exact ih0 _ _ _ _ _ _ _)
   | (with_reducible exact ih1 _ _ _ _ _ _ _)
   | (with_reducible exact ih2 _ _ _ _)
   | (with_reducible exact dowelref01_Add.mono _ _ _)
   | (with_reducible exact dowelref01_Sub.mono _ _ _)
   | (with_reducible exact dowelref01_digits.mono _ _)
   | (with_reducible exact dowelref01_minus.mono _ _ _)
   | (with_reducible exact dowelref01_order.mono _ _ _)
   | (with_reducible exact dowelref01_text.mono _ _ _)
   | (with_reducible exact dowelref01_trim.mono _ _)
   | (with_reducible exact LeO.refl _)
   | (with_reducible exact LeO.none _)
   | (with_reducible refine LeO.ite ?_ ?_)
   | (with_reducible refine LeO.bind ?_ (fun _ => ?_))
set_option maxHeartbeats 8000000 in
set_option maxRecDepth 100000 in
theorem dowelref01_DivMod.calls (k : Nat) (a0 : ByteArray) (a1 : ByteArray) (r1 : ByteArray) (r2 : ByteArray) (w : World) (h : dowelref01_DivMod.f k a0 a1 = some (r1, r2)) :
  Calls Tryd.prog 28 #[.string a0, .string a1] w fun e w' => e = .returned (.tuple #[.string r1, .string r2]) ∧ Below w.heap.size w w' := by
 have HB := Aside0.mk (Below.refl w.heap.size w)
 have H := h
 unfold dowelref01_DivMod.f at H
 clear h
 replace H := Option.bind_eq_some_iff.mp H
 obtain ⟨t676, A30, H⟩ := H
 try dsimp only at H
 have A3 := Aside0.mk A30
 clear A30
 replace H := Option.bind_eq_some_iff.mp H
 obtain ⟨t679, A40, H⟩ := H
 try dsimp only at H
 have A4 := Aside0.mk A40
 clear A40
 by_cases c5 : 0 ≤ (t676.length : Int)
 ·
  rw [if_pos c5] at H
  have c5b0 := eq_true c5
  have c5b1 := decide_eq_true c5
  clear c5
  obtain ⟨c6, H⟩ := ite_some H
  have c6b0 := eq_true c6
  have c6b1 := decide_eq_true c6
  clear c6
  obtain ⟨y682, hy682⟩ : ∃ y_ : List Int, y_ = (List.replicate ((t676.length : Int) : Int).toNat 0) := ⟨_, rfl⟩
  replace H : (dowelref01_DivMod.l0 k a0 a1 t676 t679 ([] : List Int) y682 (wrap64 ((t676.length : Int) - 1))) = some (r1, r2) := by first | (rw [hy682]; exact H) | exact H
  have Ny682 := Aside0.mk hy682
  clear hy682
  have H' := Aside0.mk H
  clear H
  go_enter Tryd.func28, Tryd.ntmps28
  go_wp2_with (first | ((with_reducible refine gate_callee (f := 58) rfl ?_); refine gl_ (some 12) Tryd.func58 #[.string a0] ?_; (with_reducible refine (dowelref01_digits.calls k a0 t676 _ A3.out).mono ?_); rintro e w7 ⟨v677, rfl, ho0, hb⟩; refine ⟨_, rfl, ?_⟩; have HO678 := Aside0.mk (Kd.R_lower ho0 (below_size (below_up HB.out))); replace HB := Aside0.mk (below_step (below_up HB.out) hb); (try clear hb); (try clear hb2); (try clear hk); (try clear hi); (try clear ho0)) | ((with_reducible refine gate_callee (f := 58) rfl ?_); refine gl_ (some 14) Tryd.func58 #[.string a1] ?_; (with_reducible refine (dowelref01_digits.calls k a1 t679 _ A4.out).mono ?_); rintro e w8 ⟨v680, rfl, ho0, hb⟩; refine ⟨_, rfl, ?_⟩; have HO681 := Aside0.mk (Kd.R_lower (Kd.R_new' ho0 (Kd.R_lt (Kd.R_up HO678.out))) (below_size (below_up HB.out))); replace HO678 := Aside0.mk (Kd.R_elder' (Kd.R_up HO678.out) (Kd.R_base ho0) hb); replace HB := Aside0.mk (below_step (below_up HB.out) hb); (try clear hb); (try clear hb2); (try clear hk); (try clear hi); (try clear ho0); obtain ⟨Ao9, co9, eo9⟩ := Kd.R_slice HO678.out; subst eo9) | ((with_reducible refine gate_dst (N := 17) rfl ?_); refine Kd.R_make (Kd.int .i64) _ 3 rfl (N := 17) rfl 67 _ _ rfl (t676.length : Int) rfl rfl Tryd.underlying67 (.int .i64 0) 8 info3 rfl (by decide) (by omega) 0 (ok := fun _ => True) (okp := fun _ => True) rfl (fun _ hk => hk) trivial (of_decide_eq_true (by assumption)) (Nat.le_trans (Nat.mul_le_mul_right _ (of_decide_eq_true (by assumption) : (t676.length : Int).toNat ≤ 35184372088832)) (by omega)) (Below.refl _ _) (Nat.le_refl _) ?_; intro v683 w10 ho11 hb hg_ hnew_; clear hg_ hnew_; (first | rw [← Ny682.out] at ho11 | (simp only [Int.reduceToNat] at ho11; rw [← Ny682.out] at ho11)); have HO684 := Aside0.mk (Kd.R_lower (Kd.R_new' (Kd.R_new' ho11 (Kd.R_lt (Kd.R_up HO678.out))) (Kd.R_lt (Kd.R_up HO681.out))) (below_size (below_up HB.out))); replace HO678 := Aside0.mk (Kd.R_elder' (Kd.R_up HO678.out) (Kd.R_base ho11) hb); replace HO681 := Aside0.mk (Kd.R_elder' (Kd.R_up HO681.out) (Kd.R_base ho11) hb); replace HB := Aside0.mk (below_step (below_up HB.out) hb); clear hb ho11))
  go_loopg [8, 10] k (fun kq v8 v10 w' => ∃ (x8_1 : List Int) (x9_1 : List Int) (x10_1 : Int), v10 = .int .i64 x10_1 ∧ Aside0 (dowelref01_DivMod.l0 kq a0 a1 t676 t679 x8_1 x9_1 x10_1 = some (r1, r2)) ∧ Aside0 (kq ≤ k) ∧ Aside0 (Kd.R (Kd.int .i64) 3 w' w.heap.size (fun k_ => some k_ ≠ (v680 : Value).ownBlock ∧ some k_ ≠ (v8 : Value).ownBlock ∧ some k_ ≠ (v683 : Value).ownBlock) (.slice Ao9 t676.length co9) t676) ∧ Aside0 (Kd.R (Kd.int .i64) 3 w' w.heap.size (fun k_ => some k_ ≠ ((.slice Ao9 t676.length co9) : Value).ownBlock ∧ some k_ ≠ (v8 : Value).ownBlock ∧ some k_ ≠ (v683 : Value).ownBlock) v680 t679) ∧ Aside0 (Kd.R (Kd.int .i64) 3 w' w.heap.size (fun k_ => some k_ ≠ ((.slice Ao9 t676.length co9) : Value).ownBlock ∧ some k_ ≠ (v680 : Value).ownBlock ∧ some k_ ≠ (v683 : Value).ownBlock) v8 x8_1) ∧ Aside0 (Kd.R (Kd.int .i64) 3 w' w.heap.size (fun k_ => some k_ ≠ ((.slice Ao9 t676.length co9) : Value).ownBlock ∧ some k_ ≠ (v680 : Value).ownBlock ∧ some k_ ≠ (v8 : Value).ownBlock) v683 x9_1) ∧ Aside0 (Below w.heap.size w w'))
  case atStart => exact ⟨(([] : List Int)), (y682), (wrap64 ((t676.length : Int) - 1)), (by first | rfl | (simp; done) | (simp [*]; done) | (simp <;> omega)), H', ⟨Nat.le_refl _⟩, ⟨Kd.R_up (Kd.R_mono HO678.out (fun _ hk => ⟨hk.1.2, ⟨(by simp [Value.ownBlock]), hk.2⟩⟩))⟩, ⟨Kd.R_up (Kd.R_mono HO681.out (fun _ hk => ⟨hk.1.2, ⟨(by simp [Value.ownBlock]), hk.2⟩⟩))⟩, ⟨by first | exact Kd.R_nil _ _ _ _ _ | exact Kd.N_nil _ _ _ _ _ | exact Kd.V_nil _ _ _ _ _ | exact Kd.Q_nil _ _ _ _ _ | exact Kd.S_nil _ _ _ _ _⟩, ⟨Kd.R_up (Kd.R_mono HO684.out (fun _ hk => ⟨hk.1.2, ⟨hk.2, (by simp [Value.ownBlock])⟩⟩))⟩, ⟨below_up HB.out⟩⟩
  case round =>
   clear H'
   obtain ⟨x8_1, x9_1, x10_1, rfl, HA, HK1, HO_6, HO_7, HO_8, HO_9, HB⟩ := hrel
   cases gk with
   | zero => exact absurd HA.out (by simp [dowelref01_DivMod.l0])
   | succ k1 =>
    have H := HA.out
    clear HA
    simp only [dowelref01_DivMod.l0] at H
    by_cases c12 : x10_1 ≥ 0
    ·
     rw [if_pos c12] at H
     have c12b0 := decide_eq_true c12
     clear c12
     obtain ⟨c13, H⟩ := ite_some H
     have c13b0 := decide_eq_true c13
     clear c13
     obtain ⟨c14, H⟩ := ite_some H
     have c14b0 := decide_eq_true c14
     clear c14
     obtain ⟨y686, hy686⟩ : ∃ y_ : List Int, y_ = (([rd t676 x10_1] : List Int)) := ⟨_, rfl⟩
     replace H : (if y686.length + x8_1.length < 17592186044416 then ((dowelref01_trim.f k1 (y686 ++ x8_1)).bind fun t692 => (dowelref01_DivMod.l1 k1 a0 a1 t676 t679 t692 x9_1 x10_1)) else (none)) = some (r1, r2) := by first | (rw [hy686]; exact H) | exact H
     have Ny686 := Aside0.mk hy686
     clear hy686
     obtain ⟨c15, H⟩ := ite_some H
     have LMc15 := Aside0.mk c15
     clear c15
     obtain ⟨y689, hy689⟩ : ∃ y_ : List Int, y_ = (y686 ++ x8_1) := ⟨_, rfl⟩
     replace H : ((dowelref01_trim.f k1 y689).bind fun t692 => (dowelref01_DivMod.l1 k1 a0 a1 t676 t679 t692 x9_1 x10_1)) = some (r1, r2) := by first | (rw [hy689]; exact H) | exact H
     have Ny689 := Aside0.mk hy689
     clear hy689
     replace H := Option.bind_eq_some_iff.mp H
     obtain ⟨t692, A160, H⟩ := H
     try dsimp only at H
     have A16 := Aside0.mk A160
     clear A160
     have H' := Aside0.mk H
     clear H
     have p685 : 0 ≤ (x10_1 : Int) := of_decide_eq_true (by assumption)
     have q685 : x10_1 < (t676.length : Int) := of_decide_eq_true (by assumption)
     obtain ⟨ad685, e685, hx685_0⟩ := Kd.at_int (Kd.R_reads' HO_6.out).2.2 x10_1 p685 q685
     cases e685
     replace p685 := eq_true p685
     replace q685 := eq_true q685
     go_wp2_with (first | ((with_reducible refine gate_dst (N := 29) rfl ?_); refine Kd.R_lit (Kd.int .i64) _ 3 ?hg (N := 29) ?hd (xs := ([rd t676 x10_1] : List Int)) (inner := [.int .i64 (rd t676 x10_1)]) (ok := fun _ => True) (okp := fun _ => True) ?hr ?hp (fun _ hk => hk) trivial (Below.refl _ _) (Nat.le_refl _) (by simp) ?_; (case hd => rfl); (case hg => rfl); (case hr => first | (go_simp; done) | (go_simp; rfl)); (case hp => exact (Reps.one (show Kd.M (Kd.int .i64) _ _ _ (rd t676 x10_1) [.int .i64 (rd t676 x10_1)] from rfl) (Reps.none _ _))); intro v687 w17 ho18 hb hg_ hnew_; clear hg_ hnew_; (first | rw [← Ny686.out] at ho18 | (simp only [Int.reduceToNat] at ho18; rw [← Ny686.out] at ho18)); have HO688 := Aside0.mk (Kd.R_lower (Kd.R_new' (Kd.R_new' (Kd.R_new' (Kd.R_new' ho18 (Kd.R_lt (Kd.R_up HO_6.out))) (Kd.R_lt (Kd.R_up HO_7.out))) (Kd.R_lt (Kd.R_up HO_8.out))) (Kd.R_lt (Kd.R_up HO_9.out))) (below_size (below_up HB.out))); replace HO_6 := Aside0.mk (Kd.R_elder' (Kd.R_up HO_6.out) (Kd.R_base ho18) hb); replace HO_7 := Aside0.mk (Kd.R_elder' (Kd.R_up HO_7.out) (Kd.R_base ho18) hb); replace HO_8 := Aside0.mk (Kd.R_elder' (Kd.R_up HO_8.out) (Kd.R_base ho18) hb); replace HO_9 := Aside0.mk (Kd.R_elder' (Kd.R_up HO_9.out) (Kd.R_base ho18) hb); replace HB := Aside0.mk (below_step (below_up HB.out) hb); clear hb ho18; obtain ⟨Ao20, co20, eo20⟩ := Kd.R_slice HO_8.out; subst eo20) | ((with_reducible refine gate_builtin (b := .append) (xs := #[.tmp 29, .tmp 30]) rfl ?_); at_builtin; refine Kd.R_append_rows (Kd.int .i64) (w0 := w) w.heap.size rfl (.tmp 29) (.tmp 30) 67 3 (.int .i64 0) 8 rfl Tryd.underlying67 info3 rfl (by decide) (by omega) v687 y686 x8_1 _ _ _ (fun k_ => some k_ ≠ (.slice (some ad685) t676.length co9 : Value).ownBlock ∧ some k_ ≠ (v680 : Value).ownBlock ∧ some k_ ≠ (.slice Ao20 x8_1.length co20 : Value).ownBlock ∧ some k_ ≠ (v683 : Value).ownBlock) (fun _ => False) rfl rfl ?aO ?aR (fun _ _ h => h) (fun _ h => h.elim) ?aF ?aB ?aS ?aL ?_; (case aR => repeat (first | exact (Kd.R_reads' HO_8.out).2.2 | (with_reducible refine Kd.C_alloc ?_ _) | (with_reducible refine Kd.C_drewN ?_ _) | (with_reducible refine Kd.C_drew ?_))); (case aB => exact (below_up HB.out)); (case aF => exact (fun k_ hk => ⟨Kd.fresh' (Kd.R_lt (Kd.R_up HO_6.out)) k_ hk, Kd.fresh' (Kd.R_lt (Kd.R_up HO_7.out)) k_ hk, Kd.fresh' (Kd.R_lt (Kd.R_up HO_8.out)) k_ hk, Kd.fresh' (Kd.R_lt (Kd.R_up HO_9.out)) k_ hk⟩)); (case aO => exact (Kd.R_up (Kd.R_mono HO688.out (fun _ hk => ⟨hk.1.1.1.2, ⟨hk.1.1.2, ⟨hk.1.2, hk.2⟩⟩⟩)))); (case aS => exact (below_size (below_up HB.out))); (case aL => have := LMc15.out; omega); intro v690 w19 ho hb hg hat; rw [← Ny689.out] at ho; replace HO_6 := Aside0.mk (Kd.R_after (ok := (fun k_ => some k_ ≠ (v680 : Value).ownBlock ∧ some k_ ≠ (.slice Ao20 x8_1.length co20 : Value).ownBlock ∧ some k_ ≠ (v683 : Value).ownBlock)) (Kd.R_up HO_6.out) hg hat); replace HO_7 := Aside0.mk (Kd.R_after (ok := (fun k_ => some k_ ≠ (.slice (some ad685) t676.length co9 : Value).ownBlock ∧ some k_ ≠ (.slice Ao20 x8_1.length co20 : Value).ownBlock ∧ some k_ ≠ (v683 : Value).ownBlock)) (Kd.R_up HO_7.out) hg hat); replace HO_8 := Aside0.mk (Kd.R_after (ok := (fun k_ => some k_ ≠ (.slice (some ad685) t676.length co9 : Value).ownBlock ∧ some k_ ≠ (v680 : Value).ownBlock ∧ some k_ ≠ (v683 : Value).ownBlock)) (Kd.R_up HO_8.out) hg hat); replace HO_9 := Aside0.mk (Kd.R_after (ok := (fun k_ => some k_ ≠ (.slice (some ad685) t676.length co9 : Value).ownBlock ∧ some k_ ≠ (v680 : Value).ownBlock ∧ some k_ ≠ (.slice Ao20 x8_1.length co20 : Value).ownBlock)) (Kd.R_up HO_9.out) hg hat); replace HB := Aside0.mk (hb); have HO691 := Aside0.mk (ho); clear HO688 ho hb hg hat; obtain ⟨Ao21, co21, eo21⟩ := Kd.R_slice HO691.out; subst eo21) | ((with_reducible refine gate_callee (f := 60) rfl ?_); refine gl_ (some 32) Tryd.func60 #[.slice Ao21 y689.length co21] ?_; (with_reducible refine (dowelref01_trim.calls k1 (fun k_ => some k_ = (.slice Ao21 y689.length co21 : Value).ownBlock) (.slice Ao21 y689.length co21) y689 t692 w _ ?side1 ?side2 A16.out).mono ?_); (case side1 => exact below_up HB.out); (case side2 => exact Kd.R_tight rfl HO691.out); rintro e w22 ⟨v693, rfl, ho0, hb, hkp⟩; refine ⟨_, rfl, ?_⟩; have HO694 := Aside0.mk (Kd.R_mono (ok' := fun k_ => some k_ ≠ (.slice (some ad685) t676.length co9 : Value).ownBlock ∧ some k_ ≠ (v680 : Value).ownBlock ∧ some k_ ≠ (.slice Ao20 x8_1.length co20 : Value).ownBlock ∧ some k_ ≠ (v683 : Value).ownBlock) ho0 (fun k_ hk_ => ⟨Or.elim hk_ (fun hs_ => fun e_ => (((HO_6.out).1 k_ e_.symm).2) hs_) (fun hn_ => (Kd.fresh' (Kd.R_lt (Kd.R_up HO_6.out)) k_ hn_)), Or.elim hk_ (fun hs_ => fun e_ => (((HO_7.out).1 k_ e_.symm).2) hs_) (fun hn_ => (Kd.fresh' (Kd.R_lt (Kd.R_up HO_7.out)) k_ hn_)), Or.elim hk_ (fun hs_ => fun e_ => (((HO_8.out).1 k_ e_.symm).2) hs_) (fun hn_ => (Kd.fresh' (Kd.R_lt (Kd.R_up HO_8.out)) k_ hn_)), Or.elim hk_ (fun hs_ => fun e_ => (((HO_9.out).1 k_ e_.symm).2) hs_) (fun hn_ => (Kd.fresh' (Kd.R_lt (Kd.R_up HO_9.out)) k_ hn_))⟩)); replace HO_6 := Aside0.mk (Kd.R_mono (ok' := fun k_ => some k_ ≠ (v680 : Value).ownBlock ∧ some k_ ≠ (.slice Ao20 x8_1.length co20 : Value).ownBlock ∧ some k_ ≠ (v683 : Value).ownBlock ∧ some k_ ≠ (v693 : Value).ownBlock) (Kd.R_keptB (HO_6.out) hkp (fun k_ hk_ hs_ => (hk_.2) hs_)) (fun k_ hk_ => ⟨hk_.1.1.1, hk_.1.1.2.1, hk_.1.1.2.2, fun e_ => Or.elim (ho0.1 k_ e_.symm) (fun hs_ => hk_.2.1 hs_) (fun hn_ => Nat.not_le.2 hk_.2.2 hn_)⟩)); replace HO_7 := Aside0.mk (Kd.R_mono (ok' := fun k_ => some k_ ≠ (.slice (some ad685) t676.length co9 : Value).ownBlock ∧ some k_ ≠ (.slice Ao20 x8_1.length co20 : Value).ownBlock ∧ some k_ ≠ (v683 : Value).ownBlock ∧ some k_ ≠ (v693 : Value).ownBlock) (Kd.R_keptB (HO_7.out) hkp (fun k_ hk_ hs_ => (hk_.2) hs_)) (fun k_ hk_ => ⟨hk_.1.1.1, hk_.1.1.2.1, hk_.1.1.2.2, fun e_ => Or.elim (ho0.1 k_ e_.symm) (fun hs_ => hk_.2.1 hs_) (fun hn_ => Nat.not_le.2 hk_.2.2 hn_)⟩)); replace HO_8 := Aside0.mk (Kd.R_mono (ok' := fun k_ => some k_ ≠ (.slice (some ad685) t676.length co9 : Value).ownBlock ∧ some k_ ≠ (v680 : Value).ownBlock ∧ some k_ ≠ (v683 : Value).ownBlock ∧ some k_ ≠ (v693 : Value).ownBlock) (Kd.R_keptB (HO_8.out) hkp (fun k_ hk_ hs_ => (hk_.2) hs_)) (fun k_ hk_ => ⟨hk_.1.1.1, hk_.1.1.2.1, hk_.1.1.2.2, fun e_ => Or.elim (ho0.1 k_ e_.symm) (fun hs_ => hk_.2.1 hs_) (fun hn_ => Nat.not_le.2 hk_.2.2 hn_)⟩)); replace HO_9 := Aside0.mk (Kd.R_mono (ok' := fun k_ => some k_ ≠ (.slice (some ad685) t676.length co9 : Value).ownBlock ∧ some k_ ≠ (v680 : Value).ownBlock ∧ some k_ ≠ (.slice Ao20 x8_1.length co20 : Value).ownBlock ∧ some k_ ≠ (v693 : Value).ownBlock) (Kd.R_keptB (HO_9.out) hkp (fun k_ hk_ hs_ => (hk_.2) hs_)) (fun k_ hk_ => ⟨hk_.1.1.1, hk_.1.1.2.1, hk_.1.1.2.2, fun e_ => Or.elim (ho0.1 k_ e_.symm) (fun hs_ => hk_.2.1 hs_) (fun hn_ => Nat.not_le.2 hk_.2.2 hn_)⟩)); replace HB := Aside0.mk (hb); clear HO691; (try clear hb); (try clear hkp); (try clear ho0)))
     go_loopg [8] k1 (fun kq v8 w' => ∃ (x8_2 : List Int) (x9_2 : List Int), Aside0 (dowelref01_DivMod.l1 kq a0 a1 t676 t679 x8_2 x9_2 x10_1 = some (r1, r2)) ∧ Aside0 (kq ≤ k1) ∧ Aside0 (Kd.R (Kd.int .i64) 3 w' w.heap.size (fun k_ => some k_ ≠ (v680 : Value).ownBlock ∧ some k_ ≠ (v8 : Value).ownBlock ∧ some k_ ≠ (v683 : Value).ownBlock) (.slice (some ad685) t676.length co9) t676) ∧ Aside0 (Kd.R (Kd.int .i64) 3 w' w.heap.size (fun k_ => some k_ ≠ ((.slice (some ad685) t676.length co9) : Value).ownBlock ∧ some k_ ≠ (v8 : Value).ownBlock ∧ some k_ ≠ (v683 : Value).ownBlock) v680 t679) ∧ Aside0 (Kd.R (Kd.int .i64) 3 w' w.heap.size (fun k_ => some k_ ≠ ((.slice (some ad685) t676.length co9) : Value).ownBlock ∧ some k_ ≠ (v680 : Value).ownBlock ∧ some k_ ≠ (v683 : Value).ownBlock) v8 x8_2) ∧ Aside0 (Kd.R (Kd.int .i64) 3 w' w.heap.size (fun k_ => some k_ ≠ ((.slice (some ad685) t676.length co9) : Value).ownBlock ∧ some k_ ≠ (v680 : Value).ownBlock ∧ some k_ ≠ (v8 : Value).ownBlock) v683 x9_2) ∧ Aside0 (Below w.heap.size w w'))
     case atStart => exact ⟨(t692), (x9_1), H', ⟨Nat.le_refl _⟩, ⟨Kd.R_up (Kd.R_mono HO_6.out (fun _ hk => ⟨hk.1, ⟨hk.2.2.2, hk.2.2.1⟩⟩))⟩, ⟨Kd.R_up (Kd.R_mono HO_7.out (fun _ hk => ⟨hk.1, ⟨hk.2.2.2, hk.2.2.1⟩⟩))⟩, ⟨Kd.R_up (Kd.R_mono HO694.out (fun _ hk => ⟨hk.1, ⟨hk.2.1, hk.2.2.2⟩⟩))⟩, ⟨Kd.R_up (Kd.R_mono HO_9.out (fun _ hk => ⟨hk.1, ⟨hk.2.1, hk.2.2.2⟩⟩))⟩, ⟨below_up HB.out⟩⟩
     case round =>
      clear H'
      obtain ⟨x8_2, x9_2, HA, HK2, HO_6, HO_7, HO_8, HO_9, HB⟩ := hrel
      cases gk with
      | zero => exact absurd HA.out (by simp [dowelref01_DivMod.l1])
      | succ k2 =>
       have H := HA.out
       clear HA
       simp only [dowelref01_DivMod.l1] at H
       replace H := Option.bind_eq_some_iff.mp H
       obtain ⟨t695, A230, H⟩ := H
       try dsimp only at H
       have A23 := Aside0.mk A230
       clear A230
       by_cases c24 : t695 ≥ 0
       ·
        rw [if_pos c24] at H
        have c24b0 := decide_eq_true c24
        clear c24
        replace H := Option.bind_eq_some_iff.mp H
        obtain ⟨t696, A250, H⟩ := H
        try dsimp only at H
        have A25 := Aside0.mk A250
        clear A250
        obtain ⟨c26, H⟩ := ite_some H
        have c26b0 := decide_eq_true c26
        clear c26
        obtain ⟨c27, H⟩ := ite_some H
        have c27b0 := decide_eq_true c27
        clear c27
        obtain ⟨y700, hy700⟩ : ∃ y_ : List Int, y_ = (x9_2.set (x10_1 : Int).toNat (wrap64 ((rd x9_2 x10_1) + 1))) := ⟨_, rfl⟩
        replace H : (dowelref01_DivMod.l1 k2 a0 a1 t676 t679 t696 y700 x10_1) = some (r1, r2) := by first | (rw [hy700]; exact H) | exact H
        have Ny700 := Aside0.mk hy700
        clear hy700
        have H' := Aside0.mk H
        clear H
        obtain ⟨Ao29, co29, eo29⟩ := Kd.R_slice HO_8.out
        subst eo29
        obtain ⟨Ao30, co30, eo30⟩ := Kd.R_slice HO_7.out
        subst eo30
        go_wp2_with (first | ((with_reducible refine gate_callee (f := 61) rfl ?_); refine gl_ (some 35) Tryd.func61 #[.slice Ao29 x8_2.length co29, .slice Ao30 t679.length co30] ?_; (with_reducible refine (dowelref01_order.calls k2 _ _ x8_2 _ _ t679 t695 _ ?side1 ?side2 ?side3 ?side4 A23.out).mono ?_); (case side1 => repeat (first | exact (Kd.R_reads' HO_8.out).2.2 | (with_reducible refine Kd.C_alloc ?_ _) | (with_reducible refine Kd.C_drewN ?_ _) | (with_reducible refine Kd.C_drew ?_))); (case side2 => exact (Kd.R_reads' HO_8.out).2.1); (case side3 => repeat (first | exact (Kd.R_reads' HO_7.out).2.2 | (with_reducible refine Kd.C_alloc ?_ _) | (with_reducible refine Kd.C_drewN ?_ _) | (with_reducible refine Kd.C_drew ?_))); (case side4 => exact (Kd.R_reads' HO_7.out).2.1); rintro e w' ⟨rfl, ⟨nd, rfl⟩⟩; refine ⟨_, rfl, ?_⟩; (try (rw [drewN_self wr]; generalize hq_ : World.drewN wr _ = wr; have n0_ : Aside0 (Kd.R (Kd.int .i64) 3 wr w.heap.size (fun k_ => some k_ ≠ (.slice Ao30 t679.length co30 : Value).ownBlock ∧ some k_ ≠ (.slice Ao29 x8_2.length co29 : Value).ownBlock ∧ some k_ ≠ (v683 : Value).ownBlock) (.slice (some ad685) t676.length co9) t676) := ⟨by rw [← hq_]; exact (Kd.R_up HO_6.out)⟩; have n1_ : Aside0 (Kd.R (Kd.int .i64) 3 wr w.heap.size (fun k_ => some k_ ≠ (.slice (some ad685) t676.length co9 : Value).ownBlock ∧ some k_ ≠ (.slice Ao29 x8_2.length co29 : Value).ownBlock ∧ some k_ ≠ (v683 : Value).ownBlock) (.slice Ao30 t679.length co30) t679) := ⟨by rw [← hq_]; exact (Kd.R_up HO_7.out)⟩; have n2_ : Aside0 (Kd.R (Kd.int .i64) 3 wr w.heap.size (fun k_ => some k_ ≠ (.slice (some ad685) t676.length co9 : Value).ownBlock ∧ some k_ ≠ (.slice Ao30 t679.length co30 : Value).ownBlock ∧ some k_ ≠ (v683 : Value).ownBlock) (.slice Ao29 x8_2.length co29) x8_2) := ⟨by rw [← hq_]; exact (Kd.R_up HO_8.out)⟩; have n3_ : Aside0 (Kd.R (Kd.int .i64) 3 wr w.heap.size (fun k_ => some k_ ≠ (.slice (some ad685) t676.length co9 : Value).ownBlock ∧ some k_ ≠ (.slice Ao30 t679.length co30 : Value).ownBlock ∧ some k_ ≠ (.slice Ao29 x8_2.length co29 : Value).ownBlock) v683 x9_2) := ⟨by rw [← hq_]; exact (Kd.R_up HO_9.out)⟩; have n4_ : Aside0 (Below w.heap.size w wr) := ⟨by rw [← hq_]; exact (below_up HB.out)⟩; clear HO_6 HO_7 HO_8 HO_9 HB hq_; have HO_6 := n0_; have HO_7 := n1_; have HO_8 := n2_; have HO_9 := n3_; have HB := n4_; clear n0_ n1_ n2_ n3_ n4_))) | ((with_reducible refine gate_callee (f := 62) rfl ?_); refine gl_ (some 39) Tryd.func62 #[.slice Ao29 x8_2.length co29, .slice Ao30 t679.length co30] ?_; (with_reducible refine (dowelref01_minus.calls k2 _ _ x8_2 _ _ t679 t696 _ ?side1 ?side2 ?side3 ?side4 A25.out).mono ?_); (case side1 => repeat (first | exact (Kd.R_reads' HO_8.out).2.2 | (with_reducible refine Kd.C_alloc ?_ _) | (with_reducible refine Kd.C_drewN ?_ _) | (with_reducible refine Kd.C_drew ?_))); (case side2 => exact (Kd.R_reads' HO_8.out).2.1); (case side3 => repeat (first | exact (Kd.R_reads' HO_7.out).2.2 | (with_reducible refine Kd.C_alloc ?_ _) | (with_reducible refine Kd.C_drewN ?_ _) | (with_reducible refine Kd.C_drew ?_))); (case side4 => exact (Kd.R_reads' HO_7.out).2.1); rintro e w31 ⟨v697, rfl, ho0, hb⟩; refine ⟨_, rfl, ?_⟩; have HO698 := Aside0.mk (Kd.R_lower (Kd.R_new' (Kd.R_new' (Kd.R_new' (Kd.R_new' ho0 (Kd.R_lt (Kd.R_up HO_6.out))) (Kd.R_lt (Kd.R_up HO_7.out))) (Kd.R_lt (Kd.R_up HO_8.out))) (Kd.R_lt (Kd.R_up HO_9.out))) (below_size (below_up HB.out))); replace HO_6 := Aside0.mk (Kd.R_elder' (Kd.R_up HO_6.out) (Kd.R_base ho0) hb); replace HO_7 := Aside0.mk (Kd.R_elder' (Kd.R_up HO_7.out) (Kd.R_base ho0) hb); replace HO_8 := Aside0.mk (Kd.R_elder' (Kd.R_up HO_8.out) (Kd.R_base ho0) hb); replace HO_9 := Aside0.mk (Kd.R_elder' (Kd.R_up HO_9.out) (Kd.R_base ho0) hb); replace HB := Aside0.mk (below_step (below_up HB.out) hb); (try clear hb); (try clear hb2); (try clear hk); (try clear hi); (try clear ho0); obtain ⟨Ao32, co32, eo32⟩ := Kd.R_slice HO_9.out; subst eo32; have p699 : 0 ≤ (x10_1 : Int) := of_decide_eq_true (by assumption); have q699 : x10_1 < (x9_2.length : Int) := of_decide_eq_true (by assumption); obtain ⟨ad699, e699, hx699_0⟩ := Kd.at_int (Kd.R_reads' HO_9.out).2.2 x10_1 p699 q699; cases e699; replace p699 := eq_true p699; replace q699 := eq_true q699; have p28 : 0 ≤ (x10_1 : Int) := of_decide_eq_true (by assumption); have q28 : (x10_1 : Int) < ((x9_2.length : Int) : Int) := of_decide_eq_true (by assumption); obtain ⟨go28, co28, eo28, gb28, gl28, cl28, HG28⟩ := Kd.R_form HO_9.out (by omega); (first | cases eo28 | (injection eo28 with ea_ en_ ec_; (first | subst ea_ | (injection ea_ with ea_; subst ea_)); subst ec_; clear en_)); have GB28 := Aside0.mk gb28; have GG28 := Aside0.mk HG28; clear gb28 gl28 HG28; (first | simp only [add_plain] at hx699_0 | skip); obtain ⟨hx28_0, hf28_0⟩ := Kd.R_celln 0 HO_9.out (x10_1 : Int) p28 q28; replace p28 := eq_true p28; replace q28 := eq_true q28; have n_ := Aside0.mk (Kd.R_mono (ok' := (fun k_ => some k_ ≠ (.slice (some ad685) t676.length co9 : Value).ownBlock ∧ some k_ ≠ (.slice Ao30 t679.length co30 : Value).ownBlock ∧ some k_ ≠ (.slice Ao29 x8_2.length co29 : Value).ownBlock ∧ some k_ ≠ (v697 : Value).ownBlock)) HO_9.out (fun k_ hk => ⟨hk.1.1, ⟨hk.1.2.1, ⟨hk.1.2.2, hk.2⟩⟩⟩)); clear HO_9; have HO_9 := n_; clear n_; obtain ⟨hy33_, hz33_⟩ := Kd.R_celln 0 HO_9.out (x10_1 : Int) (of_decide_eq_true (by assumption)) (of_decide_eq_true (by assumption)); have HP33 := Kd.R_putg HO_9.out (x10_1 : Int) (wrap64 ((rd x9_2 x10_1) + 1))) | ((with_reducible refine gate_store (t := 3) (p := 45) rfl ?_); refine store_event (t := 3) (p := 45) (v := ?vo_w34) (w1 := (w31.setCell ⟨go28, (x10_1 : Int).toNat, none⟩ (.int .i64 (wrap64 ((rd x9_2 x10_1) + 1))))) ?hg ?ho ?hn ?hr ?_; (case ho => rfl); (case hg => rfl); (case hn => rfl); (case hr => first | (go_simp; done) | (go_simp; rfl)); intro w34 hw; have hg : w31.grownBy w34 (some go28) := (by rw [hw]; exact HP33.2); have hp_ : Kd.R (Kd.int .i64) 3 w34 w.heap.size (fun k_ => some k_ ≠ (.slice (some ad685) t676.length co9 : Value).ownBlock ∧ some k_ ≠ (.slice Ao30 t679.length co30 : Value).ownBlock ∧ some k_ ≠ (.slice Ao29 x8_2.length co29 : Value).ownBlock ∧ some k_ ≠ (v697 : Value).ownBlock) (.slice (some ⟨go28, 0, none⟩) x9_2.length co32) y700 := (by rw [hw, Ny700.out]; exact HP33.1); clear HP33; replace HO_6 := Aside0.mk (Kd.R_after (v := (.slice (some ⟨go28, 0, none⟩) x9_2.length co32)) (v1 := (.slice (some ⟨go28, 0, none⟩) x9_2.length co32)) (ok := (fun k_ => some k_ ≠ (.slice Ao30 t679.length co30 : Value).ownBlock ∧ some k_ ≠ (.slice Ao29 x8_2.length co29 : Value).ownBlock ∧ some k_ ≠ (v697 : Value).ownBlock)) (Kd.R_up (Kd.R_mono HO_6.out (fun _ hk => ⟨⟨hk.1.1, ⟨hk.1.2.1, hk.2⟩⟩, hk.1.2.2⟩))) hg (.inl rfl)); replace HO_7 := Aside0.mk (Kd.R_after (v := (.slice (some ⟨go28, 0, none⟩) x9_2.length co32)) (v1 := (.slice (some ⟨go28, 0, none⟩) x9_2.length co32)) (ok := (fun k_ => some k_ ≠ (.slice (some ad685) t676.length co9 : Value).ownBlock ∧ some k_ ≠ (.slice Ao29 x8_2.length co29 : Value).ownBlock ∧ some k_ ≠ (v697 : Value).ownBlock)) (Kd.R_up (Kd.R_mono HO_7.out (fun _ hk => ⟨⟨hk.1.1, ⟨hk.1.2.1, hk.2⟩⟩, hk.1.2.2⟩))) hg (.inl rfl)); replace HO_8 := Aside0.mk (Kd.R_after (v := (.slice (some ⟨go28, 0, none⟩) x9_2.length co32)) (v1 := (.slice (some ⟨go28, 0, none⟩) x9_2.length co32)) (ok := (fun k_ => some k_ ≠ (.slice (some ad685) t676.length co9 : Value).ownBlock ∧ some k_ ≠ (.slice Ao30 t679.length co30 : Value).ownBlock ∧ some k_ ≠ (v697 : Value).ownBlock)) (Kd.R_up (Kd.R_mono HO_8.out (fun _ hk => ⟨⟨hk.1.1, ⟨hk.1.2.1, hk.2⟩⟩, hk.1.2.2⟩))) hg (.inl rfl)); replace HO_9 := Aside0.mk (hp_); replace HO698 := Aside0.mk (Kd.R_after (v := (.slice (some ⟨go28, 0, none⟩) x9_2.length co32)) (v1 := (.slice (some ⟨go28, 0, none⟩) x9_2.length co32)) (ok := (fun k_ => some k_ ≠ (.slice (some ad685) t676.length co9 : Value).ownBlock ∧ some k_ ≠ (.slice Ao30 t679.length co30 : Value).ownBlock ∧ some k_ ≠ (.slice Ao29 x8_2.length co29 : Value).ownBlock)) (Kd.R_up (Kd.R_mono HO698.out (fun _ hk => ⟨⟨hk.1.1.1.2, ⟨hk.1.1.2, hk.1.2⟩⟩, hk.2⟩))) hg (.inl rfl)); replace HB := Aside0.mk ((by rw [hw]; exact below_set (HB.out) GB28.out : Below w.heap.size w w34)); clear hg hw hp_))
        go_roundg k2
        case measure => have := HK1.out; have := HK2.out; omega
        case rel => exact ⟨(t696), (y700), H', ⟨by have := HK1.out; have := HK2.out; omega⟩, ⟨Kd.R_up (Kd.R_mono HO_6.out (fun _ hk => ⟨hk.1.1, ⟨hk.1.2.2, hk.2⟩⟩))⟩, ⟨Kd.R_up (Kd.R_mono HO_7.out (fun _ hk => ⟨hk.1.1, ⟨hk.1.2.2, hk.2⟩⟩))⟩, ⟨Kd.R_up (Kd.R_mono HO698.out (fun _ hk => ⟨hk.1.1, ⟨hk.1.2.1, hk.2⟩⟩))⟩, ⟨Kd.R_up (Kd.R_mono HO_9.out (fun _ hk => ⟨hk.1, ⟨hk.2.1, hk.2.2.2⟩⟩))⟩, ⟨below_up HB.out⟩⟩
       ·
        rw [if_neg c24] at H
        have c24b0 := decide_eq_false c24
        clear c24
        have H' := Aside0.mk H
        clear H
        obtain ⟨Ao35, co35, eo35⟩ := Kd.R_slice HO_8.out
        subst eo35
        obtain ⟨Ao36, co36, eo36⟩ := Kd.R_slice HO_7.out
        subst eo36
        go_wp2_with (first | ((with_reducible refine gate_callee (f := 61) rfl ?_); refine gl_ (some 35) Tryd.func61 #[.slice Ao35 x8_2.length co35, .slice Ao36 t679.length co36] ?_; (with_reducible refine (dowelref01_order.calls k2 _ _ x8_2 _ _ t679 t695 _ ?side1 ?side2 ?side3 ?side4 A23.out).mono ?_); (case side1 => repeat (first | exact (Kd.R_reads' HO_8.out).2.2 | (with_reducible refine Kd.C_alloc ?_ _) | (with_reducible refine Kd.C_drewN ?_ _) | (with_reducible refine Kd.C_drew ?_))); (case side2 => exact (Kd.R_reads' HO_8.out).2.1); (case side3 => repeat (first | exact (Kd.R_reads' HO_7.out).2.2 | (with_reducible refine Kd.C_alloc ?_ _) | (with_reducible refine Kd.C_drewN ?_ _) | (with_reducible refine Kd.C_drew ?_))); (case side4 => exact (Kd.R_reads' HO_7.out).2.1); rintro e w' ⟨rfl, ⟨nd, rfl⟩⟩; refine ⟨_, rfl, ?_⟩))
        go_roundg k2
        case measure => have := HK1.out; have := HK2.out; omega
        case rel => exact ⟨(x8_2), (x9_2), (wrap64 (x10_1 - 1)), (by first | rfl | (simp; done) | (simp [*]; done) | (simp <;> omega)), H', ⟨by have := HK1.out; have := HK2.out; omega⟩, ⟨Kd.R_up HO_6.out⟩, ⟨Kd.R_up HO_7.out⟩, ⟨Kd.R_up HO_8.out⟩, ⟨Kd.R_up HO_9.out⟩, ⟨below_up HB.out⟩⟩
    ·
     rw [if_neg c12] at H
     have c12b0 := decide_eq_false c12
     clear c12
     replace H := Option.bind_eq_some_iff.mp H
     obtain ⟨t701, A370, H⟩ := H
     try dsimp only at H
     have A37 := Aside0.mk A370
     clear A370
     replace H := Option.bind_eq_some_iff.mp H
     obtain ⟨t702, A380, H⟩ := H
     try dsimp only at H
     have A38 := Aside0.mk A380
     clear A380
     replace H := Option.bind_eq_some_iff.mp H
     obtain ⟨t703, A390, H⟩ := H
     try dsimp only at H
     have A39 := Aside0.mk A390
     clear A390
     replace H := Option.bind_eq_some_iff.mp H
     obtain ⟨t704, A400, H⟩ := H
     try dsimp only at H
     have A40 := Aside0.mk A400
     clear A400
     replace H := Option.bind_eq_some_iff.mp H
     obtain ⟨t705, A410, H⟩ := H
     try dsimp only at H
     have A41 := Aside0.mk A410
     clear A410
     have HC42 := Aside0.mk H
     clear H
     go_upto_region 12 with (first | ((with_reducible refine gate_callee (f := 33) rfl ?_); refine gl_ (some 47) Tryd.func33 #[.string a0] ?_; (with_reducible refine (dowelref01_Sign.calls a0 t701 _ A37.out).mono ?_); rintro e w' ⟨rfl, ⟨nd, rfl⟩⟩; refine ⟨_, rfl, ?_⟩) | ((with_reducible refine gate_callee (f := 33) rfl ?_); refine gl_ (some 49) Tryd.func33 #[.string a1] ?_; (with_reducible refine (dowelref01_Sign.calls a1 t702 _ A38.out).mono ?_); rintro e w' ⟨rfl, ⟨nd, rfl⟩⟩; refine ⟨_, rfl, ?_⟩; obtain ⟨Ao43, co43, eo43⟩ := Kd.R_slice HO_9.out; subst eo43) | ((with_reducible refine gate_callee (f := 51) rfl ?_); refine goesL_ (some 53) rfl rfl Tryd.func51 (by kernel_rfl) rfl #[.bool (decide ((wrap64 (t701 * t702)) < 0)), .slice Ao43 x9_1.length co43] rfl (by (try simp only [List.map_toArray, List.map_cons, List.map_nil]); first | done | rfl | (simp only [List.length_drop, List.length_take]; rfl) | (rw [show wrap64 (t701 * t702) = (t701 * t702) from wrap64_of_ _ (by omega) (by omega)]; rfl)) ?_; (with_reducible refine (dowelref01_text.calls k1 (decide ((wrap64 (t701 * t702)) < 0)) (fun k_ => some k_ = (.slice Ao43 x9_1.length co43 : Value).ownBlock) (.slice Ao43 x9_1.length co43) x9_1 t703 w _ ?side1 ?side2 A39.out).mono ?_); (case side1 => exact below_up HB.out); (case side2 => exact Kd.R_tight rfl HO_9.out); rintro e w44 ⟨rfl, hb, hkp⟩; refine ⟨_, rfl, ?_⟩; have n2_ := Aside0.mk (Kd.R_mono (ok' := fun k_ => some k_ ≠ (.slice Ao9 t676.length co9 : Value).ownBlock ∧ some k_ ≠ (v680 : Value).ownBlock) (Kd.R_keptB (HO_8.out) hkp (fun k_ hk_ hs_ => (hk_.2.2) hs_)) (fun k_ hk_ => ⟨hk_.1.1, hk_.1.2.1⟩)); have n3_ := Aside0.mk (hb); (try clear HO_6); (try clear HO_7); clear HO_8 HB HO_9; have HO_8 := n2_; have HB := n3_; clear n2_ n3_; (try clear hb); (try clear hkp)) | ((with_reducible refine gate_callee (f := 33) rfl ?_); refine gl_ (some 55) Tryd.func33 #[.string a0] ?_; (with_reducible refine (dowelref01_Sign.calls a0 t704 _ A40.out).mono ?_); rintro e w' ⟨rfl, ⟨nd, rfl⟩⟩; refine ⟨_, rfl, ?_⟩; obtain ⟨Ao45, co45, eo45⟩ := Kd.R_slice HO_8.out; subst eo45) | ((with_reducible refine gate_callee (f := 51) rfl ?_); refine gl_ (some 58) Tryd.func51 #[.bool (decide (t704 < 0)), .slice Ao45 x8_1.length co45] ?_; (with_reducible refine (dowelref01_text.calls k1 (decide (t704 < 0)) (fun k_ => some k_ = (.slice Ao45 x8_1.length co45 : Value).ownBlock) (.slice Ao45 x8_1.length co45) x8_1 t705 w _ ?side1 ?side2 A41.out).mono ?_); (case side1 => exact below_up HB.out); (case side2 => exact Kd.R_tight rfl HO_8.out); rintro e w46 ⟨rfl, hb, hkp⟩; refine ⟨_, rfl, ?_⟩; have n2_ := Aside0.mk (hb); clear HB HO_8; have HB := n2_; clear n2_; (try clear hb); (try clear hkp)))
     (try simp only [Act.put, List.setIfInBounds_toArray, List.set_cons_zero, List.set_cons_succ])
     go_cut [67] (fun v67 wc => ∃ (kq : Nat) (x67_41 : Bool), v67 = .bool x67_41 ∧ Aside0 (dowelref01_DivMod.j2 kq a1 t703 t705 x67_41 = some (r1, r2)) ∧ Aside0 (kq ≤ k1) ∧ Aside0 (Below w.heap.size w wc))
     case first =>
      have H := HC42.out
      clear HC42
      by_cases c47 : t705.toList = ([48] : List UInt8)
      ·
       rw [if_pos c47] at H
       have c47b0 : (t705.toList == ([48] : List UInt8)) = true := beq_iff_eq.mpr c47
       have c47b1 : (t705.toList != ([48] : List UInt8)) = false := bne_eq_false_iff_eq.mpr c47
       clear c47
       (first | rw [c47b0] | (simp only [i64_w, i32_w]; rw [c47b0]) | skip)
       have H' := Aside0.mk H
       clear H
       go_wp2
       go_meet
       case rel => exact ⟨_, (false), (by first | rfl | (simp; done) | (simp [*]; done) | (simp <;> omega)), H', ⟨by have := HK1.out; first | omega | exact Nat.le_refl _⟩, ⟨below_up HB.out⟩⟩
      ·
       rw [if_neg c47] at H
       have c47b0 : (t705.toList == ([48] : List UInt8)) = false := beq_eq_false_iff_ne.mpr c47
       have c47b1 : (t705.toList != ([48] : List UInt8)) = true := bne_iff_ne.mpr c47
       (first | rw [c47b0] | (simp only [i64_w, i32_w]; rw [c47b0]) | skip)
       replace H := Option.bind_eq_some_iff.mp H
       obtain ⟨t706, A480, H⟩ := H
       try dsimp only at H
       have A48 := Aside0.mk A480
       clear A480
       replace H := Option.bind_eq_some_iff.mp H
       obtain ⟨t707, A490, H⟩ := H
       try dsimp only at H
       have A49 := Aside0.mk A490
       clear A490
       have H' := Aside0.mk H
       clear H
       go_wp2_with (first | (go_at_call 33; (with_reducible refine (dowelref01_Sign.calls t705 t706 _ A48.out).mono ?_); rintro e w' ⟨rfl, ⟨nd, rfl⟩⟩) | (go_at_call 33; (with_reducible refine (dowelref01_Sign.calls a1 t707 _ A49.out).mono ?_); rintro e w' ⟨rfl, ⟨nd, rfl⟩⟩))
       go_meet
       case rel => exact ⟨_, ((t706 != t707)), (by first | rfl | (simp; done) | (simp [*]; done) | (simp <;> omega)), H', ⟨by have := HK1.out; first | omega | exact Nat.le_refl _⟩, ⟨below_up HB.out⟩⟩
     case rest =>
      clear HC42
      obtain ⟨kq, x67_41, rfl, HA, HJ41, HB⟩ := hcut
      cases kq with
      | zero => exact absurd HA.out (by simp [dowelref01_DivMod.j2])
      | succ kj41 =>
       have H := HA.out
       clear HA
       simp only [dowelref01_DivMod.j2] at H
       by_cases c50 : x67_41 = true
       ·
        subst c50
        have H1 : ((dowelref01_Sub.f kj41 t703 (⟨#[49]⟩ : ByteArray)).bind fun t708 => ((dowelref01_Add.f kj41 t705 a1).bind fun t709 => (some (t708, t709)))) = some (r1, r2) := by rw [if_pos rfl] at H; exact H
        clear H
        have H := H1
        clear H1
        replace H := Option.bind_eq_some_iff.mp H
        obtain ⟨t708, A510, H⟩ := H
        try dsimp only at H
        have A51 := Aside0.mk A510
        clear A510
        replace H := Option.bind_eq_some_iff.mp H
        obtain ⟨t709, A520, H⟩ := H
        try dsimp only at H
        have A52 := Aside0.mk A520
        clear A520
        simp only [Option.some.injEq, Prod.mk.injEq] at H
        obtain ⟨rfl, rfl⟩ := H
        go_wp2_with (first | ((with_reducible refine gate_callee (f := 38) rfl ?_); refine gl_ (some 69) Tryd.func38 #[.string t703, .string (⟨#[49]⟩ : ByteArray)] ?_; (with_reducible refine (dowelref01_Sub.calls kj41 t703 (⟨#[49]⟩ : ByteArray) t708 _ A51.out).mono ?_); rintro e w53 ⟨rfl, hb⟩; refine ⟨_, rfl, ?_⟩; replace HB := Aside0.mk (below_step (below_up HB.out) hb); (try clear hb); (try clear hb2); (try clear hk); (try clear hi)) | ((with_reducible refine gate_callee (f := 36) rfl ?_); refine gl_ (some 72) Tryd.func36 #[.string t705, .string a1] ?_; (with_reducible refine (dowelref01_Add.calls kj41 t705 a1 t709 _ A52.out).mono ?_); rintro e w54 ⟨rfl, hb⟩; refine ⟨_, rfl, ?_⟩; replace HB := Aside0.mk (below_step (below_up HB.out) hb); (try clear hb); (try clear hb2); (try clear hk); (try clear hi)))
        go_ret2
        exact ⟨by first | rfl | (simp [errW_none, errW_some] <;> rfl) | (simp [*, errW_none, errW_some] <;> rfl), below_up HB.out⟩
       ·
        replace c50 := Bool.eq_false_iff.mpr c50
        subst c50
        have H1 : (some (t703, t705)) = some (r1, r2) := by rw [if_neg (show ¬ (false = true) by decide)] at H; exact H
        clear H
        have H := H1
        clear H1
        simp only [Option.some.injEq, Prod.mk.injEq] at H
        obtain ⟨rfl, rfl⟩ := H
        go_wp2
        go_ret2
        exact ⟨by first | rfl | (simp [errW_none, errW_some] <;> rfl) | (simp [*, errW_none, errW_some] <;> rfl), below_up HB.out⟩
 ·
  rw [if_neg c5] at H
  exact absurd H (by simp)
def dowellaw01_IntegerDivides.j0 : Nat → ByteArray → ByteArray → Bool → Option (Bool)
 | 0, _, _, _ => none
 | k + 1, x0, x1, x25 => if x25 = true then ((dowellaw01_known.f k).bind fun t713 => (some t713)) else ((dowellaw01_read.f k x0).bind fun bt714 => ((dowellaw01_read.f k x1).bind fun bt720 => ((integer_DivMod.f k bt714.1 bt714.2.1 bt720.1 bt720.2.1).bind fun bt726 => (if x1.toList = ([48] : List UInt8) then (if bt714.2.2 = true then (if bt720.2.2 = true then ((integer_Int_Text.f k bt726.1 bt726.2.1).bind fun t737 => (if t737.toList = ([48] : List UInt8) then ((integer_Int_Text.f k bt726.2.2.1 bt726.2.2.2.1).bind fun t738 => (if t738.toList = ([48] : List UInt8) then (some (bt726.2.2.2.2 == 19)) else (none))) else (none))) else (none)) else (none)) else ((dowelref01_DivMod.f k x0 x1).bind fun bt739 => (if bt714.2.2 = true then (if bt720.2.2 = true then ((integer_Int_Text.f k bt726.1 bt726.2.1).bind fun t741 => (if t741.toList = bt739.1.toList then ((integer_Int_Text.f k bt726.2.2.1 bt726.2.2.2.1).bind fun t742 => (if t742.toList = bt739.2.toList then (some (bt726.2.2.2.2 == 0)) else (none))) else (none))) else (none)) else (none)))))))
def dowellaw01_IntegerDivides.f (k : Nat) (a0 : ByteArray) (a1 : ByteArray) : Option (Bool) := (dowellaw01_known.f k).bind fun t710 => (if t710 = true then ((dowellaw01_right.f k a0).bind fun t711 => (if t711 = true then ((dowellaw01_right.f k a1).bind fun t712 => (dowellaw01_IntegerDivides.j0 k a0 a1 (!t712))) else (dowellaw01_IntegerDivides.j0 k a0 a1 true))) else (dowellaw01_IntegerDivides.j0 k a0 a1 true))
theorem dowellaw01_IntegerDivides.mono_l : ∀ k, (∀ y0 y1 y2, LeO (dowellaw01_IntegerDivides.j0 k y0 y1 y2) (dowellaw01_IntegerDivides.j0 (k + 1) y0 y1 y2))
 | 0 => fun _ _ _ r h => by simp [dowellaw01_IntegerDivides.j0] at h
 | k + 1 => by
  have ih0 := dowellaw01_IntegerDivides.mono_l k
  ·
   intro y0 y1 y2
   unfold dowellaw01_IntegerDivides.j0
   repeat' first
   | (with_reducible exact ih0 _ _ _)
   | (with_reducible exact dowellaw01_known.mono _)
   | (with_reducible exact dowellaw01_read.mono _ _)
   | (with_reducible exact dowellaw01_right.mono _ _)
   | (with_reducible exact dowelref01_DivMod.mono _ _ _)
   | (with_reducible exact integer_DivMod.mono _ _ _ _ _)
   | (with_reducible exact integer_Int_Text.mono _ _ _)
   | (with_reducible exact LeO.refl _)
   | (with_reducible exact LeO.none _)
   | (with_reducible refine LeO.ite ?_ ?_)
   | (with_reducible refine LeO.bind ?_ (fun _ => ?_))
theorem dowellaw01_IntegerDivides.mono : ∀ a0 a1 k, LeO (dowellaw01_IntegerDivides.f k a0 a1) (dowellaw01_IntegerDivides.f (k + 1) a0 a1) := by
 intro a0 a1 k
 have ih0 := dowellaw01_IntegerDivides.mono_l k
 unfold dowellaw01_IntegerDivides.f
 repeat' first
   | (with_reducible exact ih0 _ _ _)
   | (with_reducible exact dowellaw01_known.mono _)
   | (with_reducible exact dowellaw01_read.mono _ _)
   | (with_reducible exact dowellaw01_right.mono _ _)
   | (with_reducible exact dowelref01_DivMod.mono _ _ _)
   | (with_reducible exact integer_DivMod.mono _ _ _ _ _)
   | (with_reducible exact integer_Int_Text.mono _ _ _)
   | (with_reducible exact LeO.refl _)
   | (with_reducible exact LeO.none _)
   | (with_reducible refine LeO.ite ?_ ?_)
   | (with_reducible refine LeO.bind ?_ (fun _ => ?_))
set_option maxHeartbeats 8000000 in
set_option maxRecDepth 100000 in
theorem dowellaw01_IntegerDivides.calls (k : Nat) (a0 : ByteArray) (a1 : ByteArray) (r : Bool) (w : World) (hG : G w) (h : dowellaw01_IntegerDivides.f k a0 a1 = some r) :
  Calls Tryd.prog 6 #[.string a0, .string a1] w fun e w' => e = .returned (.bool r) ∧ Below w.heap.size w w' := by
 have hu25 := Tryd.underlying25
 have HB := Aside0.mk (Below.refl w.heap.size w)
 have HG := Aside0.mk hG
 clear hG
 have H := h
 unfold dowellaw01_IntegerDivides.f at H
 clear h
 have HC3 := Aside0.mk H
 clear H
 go_enter Tryd.func6, Tryd.ntmps6
 go_upto_region 1 with (fail)
 go_cut [25] (fun v25 wc => ∃ (kq : Nat) (x25_2 : Bool), v25 = .bool x25_2 ∧ Aside0 (dowellaw01_IntegerDivides.j0 kq a0 a1 x25_2 = some r) ∧ Aside0 (kq ≤ k) ∧ Aside0 (Below w.heap.size w wc))
 case first =>
  have H := HC3.out
  clear HC3
  replace H := Option.bind_eq_some_iff.mp H
  obtain ⟨t710, A40, H⟩ := H
  try dsimp only at H
  have A4 := Aside0.mk A40
  clear A40
  by_cases c5 : t710 = true
  ·
   subst c5
   have H1 : ((dowellaw01_right.f k a0).bind fun t711 => (if t711 = true then ((dowellaw01_right.f k a1).bind fun t712 => (dowellaw01_IntegerDivides.j0 k a0 a1 (!t712))) else (dowellaw01_IntegerDivides.j0 k a0 a1 true))) = some r := by rw [if_pos rfl] at H; exact H
   clear H
   have H := H1
   clear H1
   replace H := Option.bind_eq_some_iff.mp H
   obtain ⟨t711, A60, H⟩ := H
   try dsimp only at H
   have A6 := Aside0.mk A60
   clear A60
   by_cases c7 : t711 = true
   ·
    subst c7
    have H1 : ((dowellaw01_right.f k a1).bind fun t712 => (dowellaw01_IntegerDivides.j0 k a0 a1 (!t712))) = some r := by rw [if_pos rfl] at H; exact H
    clear H
    have H := H1
    clear H1
    replace H := Option.bind_eq_some_iff.mp H
    obtain ⟨t712, A80, H⟩ := H
    try dsimp only at H
    have A8 := Aside0.mk A80
    clear A80
    have H' := Aside0.mk H
    clear H
    go_wp2_with (first | ((with_reducible refine gate_callee (f := 14) rfl ?_); refine gl_ (some 14) Tryd.func14 #[] ?_; (with_reducible refine (dowellaw01_known.calls k  true _ ?side1 A4.out).mono ?_); (case side1 => exact G_below HG.out (below_up HB.out)); rintro e w9 ⟨rfl, hb⟩; refine ⟨_, rfl, ?_⟩; replace HB := Aside0.mk (below_step (below_up HB.out) hb); (try clear hb); (try clear hb2); (try clear hk); (try clear hi)) | (go_at_call 23; (with_reducible refine (dowellaw01_right.calls k a0 true _ A6.out).mono ?_); rintro e w' ⟨rfl, ⟨nd, rfl⟩⟩) | (go_at_call 23; (with_reducible refine (dowellaw01_right.calls k a1 t712 _ A8.out).mono ?_); rintro e w' ⟨rfl, ⟨nd, rfl⟩⟩))
    go_meet
    case rel => exact ⟨_, (!t712), (by first | rfl | (simp; done) | (simp [*]; done) | (simp <;> omega)), H', ⟨by first | omega | exact Nat.le_refl _⟩, ⟨below_up HB.out⟩⟩
   ·
    replace c7 := Bool.eq_false_iff.mpr c7
    subst c7
    have H1 : (dowellaw01_IntegerDivides.j0 k a0 a1 true) = some r := by rw [if_neg (show ¬ (false = true) by decide)] at H; exact H
    clear H
    have H := H1
    clear H1
    have H' := Aside0.mk H
    clear H
    go_wp2_with (first | ((with_reducible refine gate_callee (f := 14) rfl ?_); refine gl_ (some 14) Tryd.func14 #[] ?_; (with_reducible refine (dowellaw01_known.calls k  true _ ?side1 A4.out).mono ?_); (case side1 => exact G_below HG.out (below_up HB.out)); rintro e w10 ⟨rfl, hb⟩; refine ⟨_, rfl, ?_⟩; replace HB := Aside0.mk (below_step (below_up HB.out) hb); (try clear hb); (try clear hb2); (try clear hk); (try clear hi)) | (go_at_call 23; (with_reducible refine (dowellaw01_right.calls k a0 false _ A6.out).mono ?_); rintro e w' ⟨rfl, ⟨nd, rfl⟩⟩))
    go_meet
    case rel => exact ⟨_, (true), (by first | rfl | (simp; done) | (simp [*]; done) | (simp <;> omega)), H', ⟨by first | omega | exact Nat.le_refl _⟩, ⟨below_up HB.out⟩⟩
  ·
   replace c5 := Bool.eq_false_iff.mpr c5
   subst c5
   have H1 : (dowellaw01_IntegerDivides.j0 k a0 a1 true) = some r := by rw [if_neg (show ¬ (false = true) by decide)] at H; exact H
   clear H
   have H := H1
   clear H1
   have H' := Aside0.mk H
   clear H
   go_wp2_with (first | ((with_reducible refine gate_callee (f := 14) rfl ?_); refine gl_ (some 14) Tryd.func14 #[] ?_; (with_reducible refine (dowellaw01_known.calls k  false _ ?side1 A4.out).mono ?_); (case side1 => exact G_below HG.out (below_up HB.out)); rintro e w11 ⟨rfl, hb⟩; refine ⟨_, rfl, ?_⟩; replace HB := Aside0.mk (below_step (below_up HB.out) hb); (try clear hb); (try clear hb2); (try clear hk); (try clear hi)))
   go_meet
   case rel => exact ⟨_, (true), (by first | rfl | (simp; done) | (simp [*]; done) | (simp <;> omega)), H', ⟨by first | omega | exact Nat.le_refl _⟩, ⟨below_up HB.out⟩⟩
 case rest =>
  clear HC3
  obtain ⟨kq, x25_2, rfl, HA, HJ2, HB⟩ := hcut
  cases kq with
  | zero => exact absurd HA.out (by simp [dowellaw01_IntegerDivides.j0])
  | succ kj2 =>
   have H := HA.out
   clear HA
   simp only [dowellaw01_IntegerDivides.j0] at H
   by_cases c12 : x25_2 = true
   ·
    subst c12
    have H1 : ((dowellaw01_known.f kj2).bind fun t713 => (some t713)) = some r := by rw [if_pos rfl] at H; exact H
    clear H
    have H := H1
    clear H1
    replace H := Option.bind_eq_some_iff.mp H
    obtain ⟨t713, A130, H⟩ := H
    try dsimp only at H
    have A13 := Aside0.mk A130
    clear A130
    obtain rfl := Option.some.inj H
    go_wp2_with (first | ((with_reducible refine gate_callee (f := 14) rfl ?_); refine gl_ (some 26) Tryd.func14 #[] ?_; (with_reducible refine (dowellaw01_known.calls kj2  t713 _ ?side1 A13.out).mono ?_); (case side1 => exact G_below HG.out (below_up HB.out)); rintro e w14 ⟨rfl, hb⟩; refine ⟨_, rfl, ?_⟩; replace HB := Aside0.mk (below_step (below_up HB.out) hb); (try clear hb); (try clear hb2); (try clear hk); (try clear hi)))
    go_ret
    exact ⟨by first | rfl | (simp [errW_none, errW_some] <;> rfl) | (simp [*, errW_none, errW_some] <;> rfl), below_up HB.out⟩
   ·
    replace c12 := Bool.eq_false_iff.mpr c12
    subst c12
    have H1 : ((dowellaw01_read.f kj2 a0).bind fun bt714 => ((dowellaw01_read.f kj2 a1).bind fun bt720 => ((integer_DivMod.f kj2 bt714.1 bt714.2.1 bt720.1 bt720.2.1).bind fun bt726 => (if a1.toList = ([48] : List UInt8) then (if bt714.2.2 = true then (if bt720.2.2 = true then ((integer_Int_Text.f kj2 bt726.1 bt726.2.1).bind fun t737 => (if t737.toList = ([48] : List UInt8) then ((integer_Int_Text.f kj2 bt726.2.2.1 bt726.2.2.2.1).bind fun t738 => (if t738.toList = ([48] : List UInt8) then (some (bt726.2.2.2.2 == 19)) else (none))) else (none))) else (none)) else (none)) else ((dowelref01_DivMod.f kj2 a0 a1).bind fun bt739 => (if bt714.2.2 = true then (if bt720.2.2 = true then ((integer_Int_Text.f kj2 bt726.1 bt726.2.1).bind fun t741 => (if t741.toList = bt739.1.toList then ((integer_Int_Text.f kj2 bt726.2.2.1 bt726.2.2.2.1).bind fun t742 => (if t742.toList = bt739.2.toList then (some (bt726.2.2.2.2 == 0)) else (none))) else (none))) else (none)) else (none))))))) = some r := by rw [if_neg (show ¬ (false = true) by decide)] at H; exact H
    clear H
    have H := H1
    clear H1
    replace H := Option.bind_eq_some_iff.mp H
    obtain ⟨⟨t714, t715, t718⟩, A150, H⟩ := H
    try dsimp only at H
    have A15 := Aside0.mk A150
    clear A150
    replace H := Option.bind_eq_some_iff.mp H
    obtain ⟨⟨t720, t721, t724⟩, A160, H⟩ := H
    try dsimp only at H
    have A16 := Aside0.mk A160
    clear A160
    replace H := Option.bind_eq_some_iff.mp H
    obtain ⟨⟨t726, t727, t730, t731, t734⟩, A170, H⟩ := H
    try dsimp only at H
    have A17 := Aside0.mk A170
    clear A170
    by_cases c18 : a1.toList = ([48] : List UInt8)
    ·
     rw [if_pos c18] at H
     have c18b0 : (a1.toList == ([48] : List UInt8)) = true := beq_iff_eq.mpr c18
     have c18b1 : (a1.toList != ([48] : List UInt8)) = false := bne_eq_false_iff_eq.mpr c18
     clear c18
     by_cases c19 : t718 = true
     ·
      subst c19
      have H1 : (if t724 = true then ((integer_Int_Text.f kj2 t726 t727).bind fun t737 => (if t737.toList = ([48] : List UInt8) then ((integer_Int_Text.f kj2 t730 t731).bind fun t738 => (if t738.toList = ([48] : List UInt8) then (some (t734 == 19)) else (none))) else (none))) else (none)) = some r := by rw [if_pos rfl] at H; exact H
      clear H
      have H := H1
      clear H1
      by_cases c20 : t724 = true
      ·
       subst c20
       have H1 : ((integer_Int_Text.f kj2 t726 t727).bind fun t737 => (if t737.toList = ([48] : List UInt8) then ((integer_Int_Text.f kj2 t730 t731).bind fun t738 => (if t738.toList = ([48] : List UInt8) then (some (t734 == 19)) else (none))) else (none))) = some r := by rw [if_pos rfl] at H; exact H
       clear H
       have H := H1
       clear H1
       replace H := Option.bind_eq_some_iff.mp H
       obtain ⟨t737, A210, H⟩ := H
       try dsimp only at H
       have A21 := Aside0.mk A210
       clear A210
       obtain ⟨c22, H⟩ := ite_some H
       have c22b0 : (t737.toList == ([48] : List UInt8)) = true := beq_iff_eq.mpr c22
       have c22b1 : (t737.toList != ([48] : List UInt8)) = false := bne_eq_false_iff_eq.mpr c22
       clear c22
       replace H := Option.bind_eq_some_iff.mp H
       obtain ⟨t738, A230, H⟩ := H
       try dsimp only at H
       have A23 := Aside0.mk A230
       clear A230
       obtain ⟨c24, H⟩ := ite_some H
       have c24b0 : (t738.toList == ([48] : List UInt8)) = true := beq_iff_eq.mpr c24
       have c24b1 : (t738.toList != ([48] : List UInt8)) = false := bne_eq_false_iff_eq.mpr c24
       clear c24
       obtain rfl := Option.some.inj H
       go_wp2_with (first | ((with_reducible refine gate_callee (f := 24) rfl ?_); refine gl_ (some 29) Tryd.func24 #[.string a0] ?_; (with_reducible refine (dowellaw01_read.calls kj2 a0 t714 t715 true _ A15.out).mono ?_); rintro e w25 ⟨v716, rfl, ho0, hb⟩; refine ⟨_, rfl, ?_⟩; have HO717 := Aside0.mk (Kd.V_lower (Kd.V_mono (ok' := fun k_ => True) ho0 (fun k_ hk_ => trivial)) (below_size (below_up HB.out))); replace HB := Aside0.mk (below_step (below_up HB.out) hb); (try clear hb); (try clear hb2); (try clear hk); (try clear hi); (try clear ho0)) | ((with_reducible refine gate_dst (N := 5) rfl ?_); refine box_event ?hg (N := 5) ?hd (cs := #[.bool false, .slice none 0 0]) (t := 25) ?hr ?_; (case hd => rfl); (case hg => rfl); (case hr => first | (go_simp; done) | (go_simp; rfl)); intro gb719 hg w26 hbox hb; replace HO717 := Aside0.mk (Kd.V_below (Kd.V_elderB (Kd.V_up HO717.out) gb719 (Nat.le_of_eq hg.symm)) hb); have BK719 := Aside0.mk (hbox); have GE719 := Aside0.mk ((size_up hg HB.out : w.heap.size ≤ gb719)); replace HB := Aside0.mk (below_step (below_up HB.out) hb); clear hb hbox hg; have hcz27_0 : w26.cell? ⟨gb719, 0, none⟩ = some (.bool false) := (blk_cell BK719.out 0).trans rfl; have hcz27_1 : w26.cell? ⟨gb719, 1, none⟩ = some (.slice none 0 0) := (blk_cell BK719.out 1).trans rfl; have hfz27_0 := blk_frozen BK719.out 0; have hfz27_1 := blk_frozen BK719.out 1; obtain ⟨Ao28, co28, eo28⟩ := Kd.V_slice HO717.out; subst eo28) | ((with_reducible refine gate_callee (f := 24) rfl ?_); refine gl_ (some 34) Tryd.func24 #[.string a1] ?_; (with_reducible refine (dowellaw01_read.calls kj2 a1 t720 t721 true _ A16.out).mono ?_); rintro e w29 ⟨v722, rfl, ho0, hb⟩; refine ⟨_, rfl, ?_⟩; replace HO717 := Aside0.mk (Kd.V_below (Kd.V_up ((Kd.V_mono (Kd.V_far (p := ⟨gb719, 1, none⟩) (Kd.V_far (p := ⟨gb719, 0, none⟩) (Kd.V_mono HO717.out (fun k_ hk => (⟨hk, hk.2⟩ : _ ∧ k_ ≠ gb719))) (fun _ hk => hk.2) (.bool t714)) (fun _ hk => hk.2) (.slice Ao28 t715.length co28)) (fun _ h_ => h_.1)))) hb); have HO723 := Aside0.mk (Kd.V_lower (Kd.V_mono (ok' := fun k_ => k_ ≠ gb719) ho0 (fun k_ hk_ => (Kd.freshB (g := gb719) (o := .cells #[.bool t714, .slice Ao28 t715.length co28] 25 (0, 0)) (by refine blk_ups ?_; refine blk_put (cs := #[.bool t714, .slice none 0 0]) ?_ 1 _ rfl; refine blk_ups ?_; refine blk_put (cs := #[.bool false, .slice none 0 0]) ?_ 0 _ rfl; exact blk_up BK719.out) k_ hk_))) (below_size (by repeat (first | (with_reducible first | exact HB.out | apply below_alloc | apply pw_below_drewN | apply below_drew1 | refine below_set ?_ GE719.out) | exact HB.out)))); replace BK719 := Aside0.mk (blk_below (g := gb719) (o := .cells #[.bool t714, .slice Ao28 t715.length co28] 25 (0, 0)) (by refine blk_ups ?_; refine blk_put (cs := #[.bool t714, .slice none 0 0]) ?_ 1 _ rfl; refine blk_ups ?_; refine blk_put (cs := #[.bool false, .slice none 0 0]) ?_ 0 _ rfl; exact blk_up BK719.out) hb); replace HB := Aside0.mk (below_step (by repeat (first | (with_reducible first | exact HB.out | apply below_alloc | apply pw_below_drewN | apply below_drew1 | refine below_set ?_ GE719.out) | exact HB.out)) hb); (try clear hb); (try clear hb2); (try clear hk); (try clear hi); (try clear ho0)) | ((with_reducible refine gate_dst (N := 7) rfl ?_); refine box_event ?hg (N := 7) ?hd (cs := #[.bool false, .slice none 0 0]) (t := 25) ?hr ?_; (case hd => rfl); (case hg => rfl); (case hr => first | (go_simp; done) | (go_simp; rfl)); intro gb725 hg w30 hbox hb; replace HO717 := Aside0.mk (Kd.V_below (Kd.V_elderB (Kd.V_up HO717.out) gb725 (Nat.le_of_eq hg.symm)) hb); replace HO723 := Aside0.mk (Kd.V_below (Kd.V_elderB (Kd.V_up HO723.out) gb725 (Nat.le_of_eq hg.symm)) hb); have BK725 := Aside0.mk (hbox); have GE725 := Aside0.mk ((by rw [hg]; exact (below_size (by repeat (first | (with_reducible first | exact HB.out | apply below_alloc | apply pw_below_drewN | apply below_drew1 | refine below_set ?_ GE719.out) | exact HB.out))) : w.heap.size ≤ gb725)); replace HB := Aside0.mk (below_step (by repeat (first | (with_reducible first | exact HB.out | apply below_alloc | apply pw_below_drewN | apply below_drew1 | refine below_set ?_ GE719.out) | exact HB.out)) hb); have NB719_725 := Aside0.mk ((blk_nw hg BK719.out : gb719 ≠ gb725)); have NB725_719 := Aside0.mk ((nw_blk hg BK719.out : gb725 ≠ gb719)); replace BK719 := Aside0.mk (blk_below (g := gb719) (o := .cells #[.bool t714, .slice Ao28 t715.length co28] 25 (0, 0)) (blk_up BK719.out) hb); clear hb hbox hg; have hnb31 := NB725_719.out; have hnc31 := NB719_725.out; have hcz32_0 : w30.cell? ⟨gb725, 0, none⟩ = some (.bool false) := (blk_cell BK725.out 0).trans rfl; have hcz32_1 : w30.cell? ⟨gb725, 1, none⟩ = some (.slice none 0 0) := (blk_cell BK725.out 1).trans rfl; have hfz32_0 := blk_frozen BK725.out 0; have hfz32_1 := blk_frozen BK725.out 1; obtain ⟨Ao33, co33, eo33⟩ := Kd.V_slice HO723.out; subst eo33) | ((with_reducible refine gate_store (t := 25) (p := 7) rfl ?_); refine store_event (t := 25) (p := 7) (v := ?vo_w34) (w1 := ((w30.setCell ⟨gb725, 0, none⟩ (.bool t720)).setCell ⟨gb725, 1, none⟩ (.slice Ao33 t721.length co33))) ?hg ?ho ?hn ?hr ?_; (case ho => rfl); (case hg => rfl); (case hn => rfl); (case hr => first | (go_simp; done) | (go_simp; rfl)); intro w34 hw; replace HO717 : Aside0 (Kd.V (Kd.int .u32) 60 w34 w.heap.size (fun k_ => k_ ≠ gb719 ∧ k_ ≠ gb725) (.slice Ao28 t715.length co28) t715) := ⟨(by rw [hw]; exact (Kd.V_up (Kd.V_mono (Kd.V_far (p := ⟨gb725, 1, none⟩) (Kd.V_far (p := ⟨gb725, 0, none⟩) (Kd.V_mono HO717.out (fun k_ hk => (⟨hk, hk.2⟩ : _ ∧ k_ ≠ gb725))) (fun _ hk => hk.2) (.bool t720)) (fun _ hk => hk.2) (.slice Ao33 t721.length co33)) (fun _ hk => ⟨hk.1.1.2, hk.1.2⟩))))⟩; replace HO723 : Aside0 (Kd.V (Kd.int .u32) 60 w34 w.heap.size (fun k_ => k_ ≠ gb719 ∧ k_ ≠ gb725) (.slice Ao33 t721.length co33) t721) := ⟨(by rw [hw]; exact (Kd.V_up (Kd.V_mono (Kd.V_far (p := ⟨gb725, 1, none⟩) (Kd.V_far (p := ⟨gb725, 0, none⟩) (Kd.V_mono HO723.out (fun k_ hk => (⟨hk, hk.2⟩ : _ ∧ k_ ≠ gb725))) (fun _ hk => hk.2) (.bool t720)) (fun _ hk => hk.2) (.slice Ao33 t721.length co33)) (fun _ hk => ⟨hk.1.1, hk.1.2⟩))))⟩; replace BK719 : Aside0 (w34.heap[gb719]? = some (.cells #[.bool t714, .slice Ao28 t715.length co28] 25 (0, 0))) := ⟨(by rw [hw]; exact (by refine blk_ups ?_; refine blk_far ?_ NB719_725.out _; refine blk_ups ?_; refine blk_far ?_ NB719_725.out _; exact blk_up BK719.out))⟩; replace BK725 : Aside0 (w34.heap[gb725]? = some (.cells #[.bool t720, .slice Ao33 t721.length co33] 25 (0, 0))) := ⟨(by rw [hw]; exact (by refine blk_ups ?_; refine blk_put (cs := #[.bool t720, .slice none 0 0]) ?_ 1 _ rfl; refine blk_ups ?_; refine blk_put (cs := #[.bool false, .slice none 0 0]) ?_ 0 _ rfl; exact blk_up BK725.out))⟩; replace HB : Aside0 (Below w.heap.size w w34) := ⟨(by rw [hw]; exact (by repeat (first | (with_reducible first | exact HB.out | apply below_alloc | apply pw_below_drewN | apply below_drew1 | refine below_set ?_ GE719.out | refine below_set ?_ GE725.out) | exact HB.out)))⟩; clear hw; have hcz35_0 : w34.cell? ⟨gb719, 0, none⟩ = some (.bool t714) := (blk_cell BK719.out 0).trans rfl; have hcz35_1 : w34.cell? ⟨gb719, 1, none⟩ = some (.slice Ao28 t715.length co28) := (blk_cell BK719.out 1).trans rfl; have hfz35_0 := blk_frozen BK719.out 0; have hfz35_1 := blk_frozen BK719.out 1; have hcz36_0 : w34.cell? ⟨gb725, 0, none⟩ = some (.bool t720) := (blk_cell BK725.out 0).trans rfl; have hcz36_1 : w34.cell? ⟨gb725, 1, none⟩ = some (.slice Ao33 t721.length co33) := (blk_cell BK725.out 1).trans rfl; have hfz36_0 := blk_frozen BK725.out 0; have hfz36_1 := blk_frozen BK725.out 1) | ((with_reducible refine gate_callee (f := 27) rfl ?_); refine gl_ (some 40) Tryd.func27 #[.agg #[.bool t714, .slice Ao28 t715.length co28], .agg #[.bool t720, .slice Ao33 t721.length co33]] ?_; (with_reducible refine (integer_DivMod.calls kj2 t714 (fun k_ => (k_ ≠ gb719 ∧ k_ ≠ gb725)) _ _ t715 t720 _ _ t721 t726 t727 t730 t731 t734 _ ?side1 ?side2 ?side3 A17.out).mono ?_); (case side1 => exact HO717.out); (case side2 => repeat (first | exact (Kd.V_reads' HO723.out).2.2 | (with_reducible refine Kd.C_alloc ?_ _) | (with_reducible refine Kd.C_drewN ?_ _) | (with_reducible refine Kd.C_drew ?_))); (case side3 => exact (Kd.V_reads' HO723.out).2.1); rintro e w37 ⟨v728, v732, rfl, ho0, ho1, hb⟩; refine ⟨_, rfl, ?_⟩; replace HO717 := Aside0.mk (Kd.V_below (Kd.V_up HO717.out) hb); replace HO723 := Aside0.mk (Kd.V_below (Kd.V_up HO723.out) hb); have HO729 := Aside0.mk (Kd.V_lower (Kd.V_mono (ok' := fun k_ => k_ ≠ gb719 ∧ k_ ≠ gb725) ho0 (fun k_ hk_ => ⟨Or.elim hk_ (fun hs_ => hs_.1) (fun hn_ => (Kd.freshB (g := gb719) (o := .cells #[.bool t714, .slice Ao28 t715.length co28] 25 (0, 0)) (blk_up BK719.out) k_ hn_)), Or.elim hk_ (fun hs_ => hs_.2) (fun hn_ => (Kd.freshB (g := gb725) (o := .cells #[.bool t720, .slice Ao33 t721.length co33] 25 (0, 0)) (blk_up BK725.out) k_ hn_))⟩)) (below_size (by repeat (first | (with_reducible first | exact HB.out | apply below_alloc | apply pw_below_drewN | apply below_drew1 | refine below_set ?_ GE719.out | refine below_set ?_ GE725.out) | exact HB.out)))); have HO733 := Aside0.mk (Kd.V_lower (Kd.V_mono (ok' := fun k_ => k_ ≠ gb719 ∧ k_ ≠ gb725) ho1 (fun k_ hk_ => ⟨Or.elim hk_ (fun hs_ => hs_.1) (fun hn_ => (Kd.freshB (g := gb719) (o := .cells #[.bool t714, .slice Ao28 t715.length co28] 25 (0, 0)) (blk_up BK719.out) k_ hn_)), Or.elim hk_ (fun hs_ => hs_.2) (fun hn_ => (Kd.freshB (g := gb725) (o := .cells #[.bool t720, .slice Ao33 t721.length co33] 25 (0, 0)) (blk_up BK725.out) k_ hn_))⟩)) (below_size (by repeat (first | (with_reducible first | exact HB.out | apply below_alloc | apply pw_below_drewN | apply below_drew1 | refine below_set ?_ GE719.out | refine below_set ?_ GE725.out) | exact HB.out)))); replace BK719 := Aside0.mk (blk_below (g := gb719) (o := .cells #[.bool t714, .slice Ao28 t715.length co28] 25 (0, 0)) (blk_up BK719.out) hb); replace BK725 := Aside0.mk (blk_below (g := gb725) (o := .cells #[.bool t720, .slice Ao33 t721.length co33] 25 (0, 0)) (blk_up BK725.out) hb); replace HB := Aside0.mk (below_step (by repeat (first | (with_reducible first | exact HB.out | apply below_alloc | apply pw_below_drewN | apply below_drew1 | refine below_set ?_ GE719.out | refine below_set ?_ GE725.out) | exact HB.out)) hb); (try clear hb); (try clear hb2); (try clear hk); (try clear hi); (try clear ho0); (try clear ho1)) | ((with_reducible refine gate_dst (N := 9) rfl ?_); refine box_event ?hg (N := 9) ?hd (cs := #[.bool false, .slice none 0 0]) (t := 25) ?hr ?_; (case hd => rfl); (case hg => rfl); (case hr => first | (go_simp; done) | (go_simp; rfl)); intro gb735 hg w38 hbox hb; replace HO717 := Aside0.mk (Kd.V_below (Kd.V_elderB (Kd.V_up HO717.out) gb735 (Nat.le_of_eq hg.symm)) hb); replace HO723 := Aside0.mk (Kd.V_below (Kd.V_elderB (Kd.V_up HO723.out) gb735 (Nat.le_of_eq hg.symm)) hb); replace HO729 := Aside0.mk (Kd.V_below (Kd.V_elderB (Kd.V_up HO729.out) gb735 (Nat.le_of_eq hg.symm)) hb); replace HO733 := Aside0.mk (Kd.V_below (Kd.V_elderB (Kd.V_up HO733.out) gb735 (Nat.le_of_eq hg.symm)) hb); have BK735 := Aside0.mk (hbox); have GE735 := Aside0.mk ((by rw [hg]; exact (below_size (by repeat (first | (with_reducible first | exact HB.out | apply below_alloc | apply pw_below_drewN | apply below_drew1 | refine below_set ?_ GE719.out | refine below_set ?_ GE725.out) | exact HB.out))) : w.heap.size ≤ gb735)); replace HB := Aside0.mk (below_step (by repeat (first | (with_reducible first | exact HB.out | apply below_alloc | apply pw_below_drewN | apply below_drew1 | refine below_set ?_ GE719.out | refine below_set ?_ GE725.out) | exact HB.out)) hb); have NB719_735 := Aside0.mk ((blk_nw hg BK719.out : gb719 ≠ gb735)); have NB735_719 := Aside0.mk ((nw_blk hg BK719.out : gb735 ≠ gb719)); replace BK719 := Aside0.mk (blk_below (g := gb719) (o := .cells #[.bool t714, .slice Ao28 t715.length co28] 25 (0, 0)) (blk_up BK719.out) hb); have NB725_735 := Aside0.mk ((blk_nw hg BK725.out : gb725 ≠ gb735)); have NB735_725 := Aside0.mk ((nw_blk hg BK725.out : gb735 ≠ gb725)); replace BK725 := Aside0.mk (blk_below (g := gb725) (o := .cells #[.bool t720, .slice Ao33 t721.length co33] 25 (0, 0)) (blk_up BK725.out) hb); clear hb hbox hg) | ((with_reducible refine gate_dst (N := 10) rfl ?_); refine box_event ?hg (N := 10) ?hd (cs := #[.bool false, .slice none 0 0]) (t := 25) ?hr ?_; (case hd => rfl); (case hg => rfl); (case hr => first | (go_simp; done) | (go_simp; rfl)); intro gb736 hg w39 hbox hb; replace HO717 := Aside0.mk (Kd.V_below (Kd.V_elderB (Kd.V_up HO717.out) gb736 (Nat.le_of_eq hg.symm)) hb); replace HO723 := Aside0.mk (Kd.V_below (Kd.V_elderB (Kd.V_up HO723.out) gb736 (Nat.le_of_eq hg.symm)) hb); replace HO729 := Aside0.mk (Kd.V_below (Kd.V_elderB (Kd.V_up HO729.out) gb736 (Nat.le_of_eq hg.symm)) hb); replace HO733 := Aside0.mk (Kd.V_below (Kd.V_elderB (Kd.V_up HO733.out) gb736 (Nat.le_of_eq hg.symm)) hb); have BK736 := Aside0.mk (hbox); have GE736 := Aside0.mk ((by rw [hg]; exact (below_size (by repeat (first | (with_reducible first | exact HB.out | apply below_alloc | apply pw_below_drewN | apply below_drew1 | refine below_set ?_ GE719.out | refine below_set ?_ GE725.out | refine below_set ?_ GE735.out) | exact HB.out))) : w.heap.size ≤ gb736)); replace HB := Aside0.mk (below_step (by repeat (first | (with_reducible first | exact HB.out | apply below_alloc | apply pw_below_drewN | apply below_drew1 | refine below_set ?_ GE719.out | refine below_set ?_ GE725.out | refine below_set ?_ GE735.out) | exact HB.out)) hb); have NB719_736 := Aside0.mk ((blk_nw hg BK719.out : gb719 ≠ gb736)); have NB736_719 := Aside0.mk ((nw_blk hg BK719.out : gb736 ≠ gb719)); replace BK719 := Aside0.mk (blk_below (g := gb719) (o := .cells #[.bool t714, .slice Ao28 t715.length co28] 25 (0, 0)) (blk_up BK719.out) hb); have NB725_736 := Aside0.mk ((blk_nw hg BK725.out : gb725 ≠ gb736)); have NB736_725 := Aside0.mk ((nw_blk hg BK725.out : gb736 ≠ gb725)); replace BK725 := Aside0.mk (blk_below (g := gb725) (o := .cells #[.bool t720, .slice Ao33 t721.length co33] 25 (0, 0)) (blk_up BK725.out) hb); have NB735_736 := Aside0.mk ((blk_nw hg BK735.out : gb735 ≠ gb736)); have NB736_735 := Aside0.mk ((nw_blk hg BK735.out : gb736 ≠ gb735)); replace BK735 := Aside0.mk (blk_below (g := gb735) (o := .cells #[.bool false, .slice none 0 0] 25 (0, 0)) (blk_up BK735.out) hb); clear hb hbox hg; have hnb40 := NB735_719.out; have hnc40 := NB719_735.out; have hnb41 := NB735_725.out; have hnc41 := NB725_735.out; have hnb42 := NB735_736.out; have hnc42 := NB736_735.out; have hcz43_0 : w39.cell? ⟨gb735, 0, none⟩ = some (.bool false) := (blk_cell BK735.out 0).trans rfl; have hcz43_1 : w39.cell? ⟨gb735, 1, none⟩ = some (.slice none 0 0) := (blk_cell BK735.out 1).trans rfl; have hfz43_0 := blk_frozen BK735.out 0; have hfz43_1 := blk_frozen BK735.out 1; obtain ⟨Ao44, co44, eo44⟩ := Kd.V_slice HO729.out; subst eo44) | ((with_reducible refine gate_store (t := 25) (p := 9) rfl ?_); refine store_event (t := 25) (p := 9) (v := ?vo_w45) (w1 := ((w39.setCell ⟨gb735, 0, none⟩ (.bool t726)).setCell ⟨gb735, 1, none⟩ (.slice Ao44 t727.length co44))) ?hg ?ho ?hn ?hr ?_; (case ho => rfl); (case hg => rfl); (case hn => rfl); (case hr => first | (go_simp; done) | (go_simp; rfl)); intro w45 hw; replace HO717 : Aside0 (Kd.V (Kd.int .u32) 60 w45 w.heap.size (fun k_ => k_ ≠ gb719 ∧ k_ ≠ gb725 ∧ k_ ≠ gb735 ∧ k_ ≠ gb736) (.slice Ao28 t715.length co28) t715) := ⟨(by rw [hw]; exact (Kd.V_up (Kd.V_mono (Kd.V_far (p := ⟨gb735, 1, none⟩) (Kd.V_far (p := ⟨gb735, 0, none⟩) (Kd.V_mono HO717.out (fun k_ hk => (⟨hk, hk.1.2⟩ : _ ∧ k_ ≠ gb735))) (fun _ hk => hk.2) (.bool t726)) (fun _ hk => hk.2) (.slice Ao44 t727.length co44)) (fun _ hk => ⟨hk.1.1.1.1, ⟨hk.1.1.1.2, ⟨hk.1.1.2, hk.1.2⟩⟩⟩))))⟩; replace HO723 : Aside0 (Kd.V (Kd.int .u32) 60 w45 w.heap.size (fun k_ => k_ ≠ gb719 ∧ k_ ≠ gb725 ∧ k_ ≠ gb735 ∧ k_ ≠ gb736) (.slice Ao33 t721.length co33) t721) := ⟨(by rw [hw]; exact (Kd.V_up (Kd.V_mono (Kd.V_far (p := ⟨gb735, 1, none⟩) (Kd.V_far (p := ⟨gb735, 0, none⟩) (Kd.V_mono HO723.out (fun k_ hk => (⟨hk, hk.1.2⟩ : _ ∧ k_ ≠ gb735))) (fun _ hk => hk.2) (.bool t726)) (fun _ hk => hk.2) (.slice Ao44 t727.length co44)) (fun _ hk => ⟨hk.1.1.1.1, ⟨hk.1.1.1.2, ⟨hk.1.1.2, hk.1.2⟩⟩⟩))))⟩; replace HO729 : Aside0 (Kd.V (Kd.int .u32) 60 w45 w.heap.size (fun k_ => k_ ≠ gb719 ∧ k_ ≠ gb725 ∧ k_ ≠ gb735 ∧ k_ ≠ gb736) (.slice Ao44 t727.length co44) t727) := ⟨(by rw [hw]; exact (Kd.V_up (Kd.V_mono (Kd.V_far (p := ⟨gb735, 1, none⟩) (Kd.V_far (p := ⟨gb735, 0, none⟩) (Kd.V_mono HO729.out (fun k_ hk => (⟨hk, hk.1.2⟩ : _ ∧ k_ ≠ gb735))) (fun _ hk => hk.2) (.bool t726)) (fun _ hk => hk.2) (.slice Ao44 t727.length co44)) (fun _ hk => ⟨hk.1.1.1.1, ⟨hk.1.1.1.2, ⟨hk.1.1.2, hk.1.2⟩⟩⟩))))⟩; replace HO733 : Aside0 (Kd.V (Kd.int .u32) 60 w45 w.heap.size (fun k_ => k_ ≠ gb719 ∧ k_ ≠ gb725 ∧ k_ ≠ gb735 ∧ k_ ≠ gb736) v732 t731) := ⟨(by rw [hw]; exact (Kd.V_up (Kd.V_mono (Kd.V_far (p := ⟨gb735, 1, none⟩) (Kd.V_far (p := ⟨gb735, 0, none⟩) (Kd.V_mono HO733.out (fun k_ hk => (⟨hk, hk.1.2⟩ : _ ∧ k_ ≠ gb735))) (fun _ hk => hk.2) (.bool t726)) (fun _ hk => hk.2) (.slice Ao44 t727.length co44)) (fun _ hk => ⟨hk.1.1.1.1, ⟨hk.1.1.1.2, ⟨hk.1.1.2, hk.1.2⟩⟩⟩))))⟩; replace BK719 : Aside0 (w45.heap[gb719]? = some (.cells #[.bool t714, .slice Ao28 t715.length co28] 25 (0, 0))) := ⟨(by rw [hw]; exact (by refine blk_ups ?_; refine blk_far ?_ NB719_735.out _; refine blk_ups ?_; refine blk_far ?_ NB719_735.out _; exact blk_up BK719.out))⟩; replace BK725 : Aside0 (w45.heap[gb725]? = some (.cells #[.bool t720, .slice Ao33 t721.length co33] 25 (0, 0))) := ⟨(by rw [hw]; exact (by refine blk_ups ?_; refine blk_far ?_ NB725_735.out _; refine blk_ups ?_; refine blk_far ?_ NB725_735.out _; exact blk_up BK725.out))⟩; replace BK735 : Aside0 (w45.heap[gb735]? = some (.cells #[.bool t726, .slice Ao44 t727.length co44] 25 (0, 0))) := ⟨(by rw [hw]; exact (by refine blk_ups ?_; refine blk_put (cs := #[.bool t726, .slice none 0 0]) ?_ 1 _ rfl; refine blk_ups ?_; refine blk_put (cs := #[.bool false, .slice none 0 0]) ?_ 0 _ rfl; exact blk_up BK735.out))⟩; replace BK736 : Aside0 (w45.heap[gb736]? = some (.cells #[.bool false, .slice none 0 0] 25 (0, 0))) := ⟨(by rw [hw]; exact (by refine blk_ups ?_; refine blk_far ?_ NB736_735.out _; refine blk_ups ?_; refine blk_far ?_ NB736_735.out _; exact blk_up BK736.out))⟩; replace HB : Aside0 (Below w.heap.size w w45) := ⟨(by rw [hw]; exact (by repeat (first | (with_reducible first | exact HB.out | apply below_alloc | apply pw_below_drewN | apply below_drew1 | refine below_set ?_ GE719.out | refine below_set ?_ GE725.out | refine below_set ?_ GE735.out | refine below_set ?_ GE736.out) | exact HB.out)))⟩; clear hw; have hnb46 := NB736_719.out; have hnc46 := NB719_736.out; have hnb47 := NB736_725.out; have hnc47 := NB725_736.out; have hcz48_0 : w45.cell? ⟨gb736, 0, none⟩ = some (.bool false) := (blk_cell BK736.out 0).trans rfl; have hcz48_1 : w45.cell? ⟨gb736, 1, none⟩ = some (.slice none 0 0) := (blk_cell BK736.out 1).trans rfl; have hfz48_0 := blk_frozen BK736.out 0; have hfz48_1 := blk_frozen BK736.out 1; obtain ⟨Ao49, co49, eo49⟩ := Kd.V_slice HO733.out; subst eo49) | ((with_reducible refine gate_store (t := 25) (p := 10) rfl ?_); refine store_event (t := 25) (p := 10) (v := ?vo_w50) (w1 := ((w45.setCell ⟨gb736, 0, none⟩ (.bool t730)).setCell ⟨gb736, 1, none⟩ (.slice Ao49 t731.length co49))) ?hg ?ho ?hn ?hr ?_; (case ho => rfl); (case hg => rfl); (case hn => rfl); (case hr => first | (go_simp; done) | (go_simp; rfl)); intro w50 hw; replace HO717 : Aside0 (Kd.V (Kd.int .u32) 60 w50 w.heap.size (fun k_ => k_ ≠ gb719 ∧ k_ ≠ gb725 ∧ k_ ≠ gb735 ∧ k_ ≠ gb736) (.slice Ao28 t715.length co28) t715) := ⟨(by rw [hw]; exact (Kd.V_up (Kd.V_mono (Kd.V_far (p := ⟨gb736, 1, none⟩) (Kd.V_far (p := ⟨gb736, 0, none⟩) (Kd.V_mono HO717.out (fun k_ hk => (⟨hk, hk.2.2.2⟩ : _ ∧ k_ ≠ gb736))) (fun _ hk => hk.2) (.bool t730)) (fun _ hk => hk.2) (.slice Ao49 t731.length co49)) (fun _ hk => ⟨hk.1.1, ⟨hk.1.2.1, ⟨hk.1.2.2.1, hk.1.2.2.2⟩⟩⟩))))⟩; replace HO723 : Aside0 (Kd.V (Kd.int .u32) 60 w50 w.heap.size (fun k_ => k_ ≠ gb719 ∧ k_ ≠ gb725 ∧ k_ ≠ gb735 ∧ k_ ≠ gb736) (.slice Ao33 t721.length co33) t721) := ⟨(by rw [hw]; exact (Kd.V_up (Kd.V_mono (Kd.V_far (p := ⟨gb736, 1, none⟩) (Kd.V_far (p := ⟨gb736, 0, none⟩) (Kd.V_mono HO723.out (fun k_ hk => (⟨hk, hk.2.2.2⟩ : _ ∧ k_ ≠ gb736))) (fun _ hk => hk.2) (.bool t730)) (fun _ hk => hk.2) (.slice Ao49 t731.length co49)) (fun _ hk => ⟨hk.1.1, ⟨hk.1.2.1, ⟨hk.1.2.2.1, hk.1.2.2.2⟩⟩⟩))))⟩; replace HO729 : Aside0 (Kd.V (Kd.int .u32) 60 w50 w.heap.size (fun k_ => k_ ≠ gb719 ∧ k_ ≠ gb725 ∧ k_ ≠ gb735 ∧ k_ ≠ gb736) (.slice Ao44 t727.length co44) t727) := ⟨(by rw [hw]; exact (Kd.V_up (Kd.V_mono (Kd.V_far (p := ⟨gb736, 1, none⟩) (Kd.V_far (p := ⟨gb736, 0, none⟩) (Kd.V_mono HO729.out (fun k_ hk => (⟨hk, hk.2.2.2⟩ : _ ∧ k_ ≠ gb736))) (fun _ hk => hk.2) (.bool t730)) (fun _ hk => hk.2) (.slice Ao49 t731.length co49)) (fun _ hk => ⟨hk.1.1, ⟨hk.1.2.1, ⟨hk.1.2.2.1, hk.1.2.2.2⟩⟩⟩))))⟩; replace HO733 : Aside0 (Kd.V (Kd.int .u32) 60 w50 w.heap.size (fun k_ => k_ ≠ gb719 ∧ k_ ≠ gb725 ∧ k_ ≠ gb735 ∧ k_ ≠ gb736) (.slice Ao49 t731.length co49) t731) := ⟨(by rw [hw]; exact (Kd.V_up (Kd.V_mono (Kd.V_far (p := ⟨gb736, 1, none⟩) (Kd.V_far (p := ⟨gb736, 0, none⟩) (Kd.V_mono HO733.out (fun k_ hk => (⟨hk, hk.2.2.2⟩ : _ ∧ k_ ≠ gb736))) (fun _ hk => hk.2) (.bool t730)) (fun _ hk => hk.2) (.slice Ao49 t731.length co49)) (fun _ hk => ⟨hk.1.1, ⟨hk.1.2.1, ⟨hk.1.2.2.1, hk.1.2.2.2⟩⟩⟩))))⟩; replace BK719 : Aside0 (w50.heap[gb719]? = some (.cells #[.bool t714, .slice Ao28 t715.length co28] 25 (0, 0))) := ⟨(by rw [hw]; exact (by refine blk_ups ?_; refine blk_far ?_ NB719_736.out _; refine blk_ups ?_; refine blk_far ?_ NB719_736.out _; exact blk_up BK719.out))⟩; replace BK725 : Aside0 (w50.heap[gb725]? = some (.cells #[.bool t720, .slice Ao33 t721.length co33] 25 (0, 0))) := ⟨(by rw [hw]; exact (by refine blk_ups ?_; refine blk_far ?_ NB725_736.out _; refine blk_ups ?_; refine blk_far ?_ NB725_736.out _; exact blk_up BK725.out))⟩; replace BK735 : Aside0 (w50.heap[gb735]? = some (.cells #[.bool t726, .slice Ao44 t727.length co44] 25 (0, 0))) := ⟨(by rw [hw]; exact (by refine blk_ups ?_; refine blk_far ?_ NB735_736.out _; refine blk_ups ?_; refine blk_far ?_ NB735_736.out _; exact blk_up BK735.out))⟩; replace BK736 : Aside0 (w50.heap[gb736]? = some (.cells #[.bool t730, .slice Ao49 t731.length co49] 25 (0, 0))) := ⟨(by rw [hw]; exact (by refine blk_ups ?_; refine blk_put (cs := #[.bool t730, .slice none 0 0]) ?_ 1 _ rfl; refine blk_ups ?_; refine blk_put (cs := #[.bool false, .slice none 0 0]) ?_ 0 _ rfl; exact blk_up BK736.out))⟩; replace HB : Aside0 (Below w.heap.size w w50) := ⟨(by rw [hw]; exact (by repeat (first | (with_reducible first | exact HB.out | apply below_alloc | apply pw_below_drewN | apply below_drew1 | refine below_set ?_ GE719.out | refine below_set ?_ GE725.out | refine below_set ?_ GE735.out | refine below_set ?_ GE736.out) | exact HB.out)))⟩; clear hw; have hcz51_0 : w50.cell? ⟨gb735, 0, none⟩ = some (.bool t726) := (blk_cell BK735.out 0).trans rfl; have hcz51_1 : w50.cell? ⟨gb735, 1, none⟩ = some (.slice Ao44 t727.length co44) := (blk_cell BK735.out 1).trans rfl; have hfz51_0 := blk_frozen BK735.out 0; have hfz51_1 := blk_frozen BK735.out 1) | (go_at_call 17; (with_reducible refine (integer_Int_Text.calls kj2 t726 (fun k_ => (k_ ≠ gb719 ∧ (k_ ≠ gb725 ∧ (k_ ≠ gb735 ∧ k_ ≠ gb736)))) _ _ t727 t737 _ ?side1 ?side2 A21.out).mono ?_); (case side1 => exact HO729.out); (case side2 => exact G_below HG.out (by repeat (first | (with_reducible first | exact HB.out | apply below_alloc | apply pw_below_drewN | apply below_drew1 | refine below_set ?_ GE719.out | refine below_set ?_ GE725.out | refine below_set ?_ GE735.out | refine below_set ?_ GE736.out) | exact HB.out))); rintro e w52 ⟨rfl, hb⟩; replace HO717 := Aside0.mk (Kd.V_below (Kd.V_up HO717.out) hb); replace HO723 := Aside0.mk (Kd.V_below (Kd.V_up HO723.out) hb); replace HO729 := Aside0.mk (Kd.V_below (Kd.V_up HO729.out) hb); replace HO733 := Aside0.mk (Kd.V_below (Kd.V_up HO733.out) hb); replace BK719 := Aside0.mk (blk_below (g := gb719) (o := .cells #[.bool t714, .slice Ao28 t715.length co28] 25 (0, 0)) (blk_up BK719.out) hb); replace BK725 := Aside0.mk (blk_below (g := gb725) (o := .cells #[.bool t720, .slice Ao33 t721.length co33] 25 (0, 0)) (blk_up BK725.out) hb); replace BK735 := Aside0.mk (blk_below (g := gb735) (o := .cells #[.bool t726, .slice Ao44 t727.length co44] 25 (0, 0)) (blk_up BK735.out) hb); replace BK736 := Aside0.mk (blk_below (g := gb736) (o := .cells #[.bool t730, .slice Ao49 t731.length co49] 25 (0, 0)) (blk_up BK736.out) hb); replace HB := Aside0.mk (below_step (by repeat (first | (with_reducible first | exact HB.out | apply below_alloc | apply pw_below_drewN | apply below_drew1 | refine below_set ?_ GE719.out | refine below_set ?_ GE725.out | refine below_set ?_ GE735.out | refine below_set ?_ GE736.out) | exact HB.out)) hb); (try clear hb); (try clear hb2); (try clear hk); (try clear hi); have hcz53_0 : w52.cell? ⟨gb736, 0, none⟩ = some (.bool t730) := (blk_cell BK736.out 0).trans rfl; have hcz53_1 : w52.cell? ⟨gb736, 1, none⟩ = some (.slice Ao49 t731.length co49) := (blk_cell BK736.out 1).trans rfl; have hfz53_0 := blk_frozen BK736.out 0; have hfz53_1 := blk_frozen BK736.out 1) | (go_at_call 17; (with_reducible refine (integer_Int_Text.calls kj2 t730 (fun k_ => (k_ ≠ gb719 ∧ (k_ ≠ gb725 ∧ (k_ ≠ gb735 ∧ k_ ≠ gb736)))) _ _ t731 t738 _ ?side1 ?side2 A23.out).mono ?_); (case side1 => exact HO733.out); (case side2 => exact G_below HG.out (by repeat (first | (with_reducible first | exact HB.out | apply below_alloc | apply pw_below_drewN | apply below_drew1 | refine below_set ?_ GE719.out | refine below_set ?_ GE725.out | refine below_set ?_ GE735.out | refine below_set ?_ GE736.out) | exact HB.out))); rintro e w54 ⟨rfl, hb⟩; replace HO717 := Aside0.mk (Kd.V_below (Kd.V_up HO717.out) hb); replace HO723 := Aside0.mk (Kd.V_below (Kd.V_up HO723.out) hb); replace HO729 := Aside0.mk (Kd.V_below (Kd.V_up HO729.out) hb); replace HO733 := Aside0.mk (Kd.V_below (Kd.V_up HO733.out) hb); replace BK719 := Aside0.mk (blk_below (g := gb719) (o := .cells #[.bool t714, .slice Ao28 t715.length co28] 25 (0, 0)) (blk_up BK719.out) hb); replace BK725 := Aside0.mk (blk_below (g := gb725) (o := .cells #[.bool t720, .slice Ao33 t721.length co33] 25 (0, 0)) (blk_up BK725.out) hb); replace BK735 := Aside0.mk (blk_below (g := gb735) (o := .cells #[.bool t726, .slice Ao44 t727.length co44] 25 (0, 0)) (blk_up BK735.out) hb); replace BK736 := Aside0.mk (blk_below (g := gb736) (o := .cells #[.bool t730, .slice Ao49 t731.length co49] 25 (0, 0)) (blk_up BK736.out) hb); replace HB := Aside0.mk (below_step (by repeat (first | (with_reducible first | exact HB.out | apply below_alloc | apply pw_below_drewN | apply below_drew1 | refine below_set ?_ GE719.out | refine below_set ?_ GE725.out | refine below_set ?_ GE735.out | refine below_set ?_ GE736.out) | exact HB.out)) hb); (try clear hb); (try clear hb2); (try clear hk); (try clear hi)))
       go_ret
       exact ⟨by first | rfl | (simp [errW_none, errW_some] <;> rfl) | (simp [*, errW_none, errW_some] <;> rfl), by repeat (first | (with_reducible first | exact HB.out | apply below_alloc | apply pw_below_drewN | apply below_drew1 | refine below_set ?_ GE719.out | refine below_set ?_ GE725.out | refine below_set ?_ GE735.out | refine below_set ?_ GE736.out) | exact HB.out)⟩
      ·
       replace c20 := Bool.eq_false_iff.mpr c20
       subst c20
       have H1 : (none) = some r := by rw [if_neg (show ¬ (false = true) by decide)] at H; exact H
       clear H
       have H := H1
       clear H1
       exact absurd H (by simp)
     ·
      replace c19 := Bool.eq_false_iff.mpr c19
      subst c19
      have H1 : (none) = some r := by rw [if_neg (show ¬ (false = true) by decide)] at H; exact H
      clear H
      have H := H1
      clear H1
      exact absurd H (by simp)
    ·
     rw [if_neg c18] at H
     have c18b0 : (a1.toList == ([48] : List UInt8)) = false := beq_eq_false_iff_ne.mpr c18
     have c18b1 : (a1.toList != ([48] : List UInt8)) = true := bne_iff_ne.mpr c18
     replace H := Option.bind_eq_some_iff.mp H
     obtain ⟨⟨t739, t740⟩, A550, H⟩ := H
     try dsimp only at H
     have A55 := Aside0.mk A550
     clear A550
     by_cases c56 : t718 = true
     ·
      subst c56
      have H1 : (if t724 = true then ((integer_Int_Text.f kj2 t726 t727).bind fun t741 => (if t741.toList = t739.toList then ((integer_Int_Text.f kj2 t730 t731).bind fun t742 => (if t742.toList = t740.toList then (some (t734 == 0)) else (none))) else (none))) else (none)) = some r := by rw [if_pos rfl] at H; exact H
      clear H
      have H := H1
      clear H1
      by_cases c57 : t724 = true
      ·
       subst c57
       have H1 : ((integer_Int_Text.f kj2 t726 t727).bind fun t741 => (if t741.toList = t739.toList then ((integer_Int_Text.f kj2 t730 t731).bind fun t742 => (if t742.toList = t740.toList then (some (t734 == 0)) else (none))) else (none))) = some r := by rw [if_pos rfl] at H; exact H
       clear H
       have H := H1
       clear H1
       replace H := Option.bind_eq_some_iff.mp H
       obtain ⟨t741, A580, H⟩ := H
       try dsimp only at H
       have A58 := Aside0.mk A580
       clear A580
       obtain ⟨c59, H⟩ := ite_some H
       have c59b0 : (t741.toList == t739.toList) = true := beq_iff_eq.mpr c59
       have c59b1 : (t741.toList != t739.toList) = false := bne_eq_false_iff_eq.mpr c59
       clear c59
       replace H := Option.bind_eq_some_iff.mp H
       obtain ⟨t742, A600, H⟩ := H
       try dsimp only at H
       have A60 := Aside0.mk A600
       clear A600
       obtain ⟨c61, H⟩ := ite_some H
       have c61b0 : (t742.toList == t740.toList) = true := beq_iff_eq.mpr c61
       have c61b1 : (t742.toList != t740.toList) = false := bne_eq_false_iff_eq.mpr c61
       clear c61
       obtain rfl := Option.some.inj H
       go_wp2_with (first | ((with_reducible refine gate_callee (f := 24) rfl ?_); refine gl_ (some 29) Tryd.func24 #[.string a0] ?_; (with_reducible refine (dowellaw01_read.calls kj2 a0 t714 t715 true _ A15.out).mono ?_); rintro e w62 ⟨v716, rfl, ho0, hb⟩; refine ⟨_, rfl, ?_⟩; have HO717 := Aside0.mk (Kd.V_lower (Kd.V_mono (ok' := fun k_ => True) ho0 (fun k_ hk_ => trivial)) (below_size (below_up HB.out))); replace HB := Aside0.mk (below_step (below_up HB.out) hb); (try clear hb); (try clear hb2); (try clear hk); (try clear hi); (try clear ho0)) | ((with_reducible refine gate_dst (N := 5) rfl ?_); refine box_event ?hg (N := 5) ?hd (cs := #[.bool false, .slice none 0 0]) (t := 25) ?hr ?_; (case hd => rfl); (case hg => rfl); (case hr => first | (go_simp; done) | (go_simp; rfl)); intro gb719 hg w63 hbox hb; replace HO717 := Aside0.mk (Kd.V_below (Kd.V_elderB (Kd.V_up HO717.out) gb719 (Nat.le_of_eq hg.symm)) hb); have BK719 := Aside0.mk (hbox); have GE719 := Aside0.mk ((size_up hg HB.out : w.heap.size ≤ gb719)); replace HB := Aside0.mk (below_step (below_up HB.out) hb); clear hb hbox hg; have hcz64_0 : w63.cell? ⟨gb719, 0, none⟩ = some (.bool false) := (blk_cell BK719.out 0).trans rfl; have hcz64_1 : w63.cell? ⟨gb719, 1, none⟩ = some (.slice none 0 0) := (blk_cell BK719.out 1).trans rfl; have hfz64_0 := blk_frozen BK719.out 0; have hfz64_1 := blk_frozen BK719.out 1; obtain ⟨Ao65, co65, eo65⟩ := Kd.V_slice HO717.out; subst eo65) | ((with_reducible refine gate_callee (f := 24) rfl ?_); refine gl_ (some 34) Tryd.func24 #[.string a1] ?_; (with_reducible refine (dowellaw01_read.calls kj2 a1 t720 t721 true _ A16.out).mono ?_); rintro e w66 ⟨v722, rfl, ho0, hb⟩; refine ⟨_, rfl, ?_⟩; replace HO717 := Aside0.mk (Kd.V_below (Kd.V_up ((Kd.V_mono (Kd.V_far (p := ⟨gb719, 1, none⟩) (Kd.V_far (p := ⟨gb719, 0, none⟩) (Kd.V_mono HO717.out (fun k_ hk => (⟨hk, hk.2⟩ : _ ∧ k_ ≠ gb719))) (fun _ hk => hk.2) (.bool t714)) (fun _ hk => hk.2) (.slice Ao65 t715.length co65)) (fun _ h_ => h_.1)))) hb); have HO723 := Aside0.mk (Kd.V_lower (Kd.V_mono (ok' := fun k_ => k_ ≠ gb719) ho0 (fun k_ hk_ => (Kd.freshB (g := gb719) (o := .cells #[.bool t714, .slice Ao65 t715.length co65] 25 (0, 0)) (by refine blk_ups ?_; refine blk_put (cs := #[.bool t714, .slice none 0 0]) ?_ 1 _ rfl; refine blk_ups ?_; refine blk_put (cs := #[.bool false, .slice none 0 0]) ?_ 0 _ rfl; exact blk_up BK719.out) k_ hk_))) (below_size (by repeat (first | (with_reducible first | exact HB.out | apply below_alloc | apply pw_below_drewN | apply below_drew1 | refine below_set ?_ GE719.out) | exact HB.out)))); replace BK719 := Aside0.mk (blk_below (g := gb719) (o := .cells #[.bool t714, .slice Ao65 t715.length co65] 25 (0, 0)) (by refine blk_ups ?_; refine blk_put (cs := #[.bool t714, .slice none 0 0]) ?_ 1 _ rfl; refine blk_ups ?_; refine blk_put (cs := #[.bool false, .slice none 0 0]) ?_ 0 _ rfl; exact blk_up BK719.out) hb); replace HB := Aside0.mk (below_step (by repeat (first | (with_reducible first | exact HB.out | apply below_alloc | apply pw_below_drewN | apply below_drew1 | refine below_set ?_ GE719.out) | exact HB.out)) hb); (try clear hb); (try clear hb2); (try clear hk); (try clear hi); (try clear ho0)) | ((with_reducible refine gate_dst (N := 7) rfl ?_); refine box_event ?hg (N := 7) ?hd (cs := #[.bool false, .slice none 0 0]) (t := 25) ?hr ?_; (case hd => rfl); (case hg => rfl); (case hr => first | (go_simp; done) | (go_simp; rfl)); intro gb725 hg w67 hbox hb; replace HO717 := Aside0.mk (Kd.V_below (Kd.V_elderB (Kd.V_up HO717.out) gb725 (Nat.le_of_eq hg.symm)) hb); replace HO723 := Aside0.mk (Kd.V_below (Kd.V_elderB (Kd.V_up HO723.out) gb725 (Nat.le_of_eq hg.symm)) hb); have BK725 := Aside0.mk (hbox); have GE725 := Aside0.mk ((by rw [hg]; exact (below_size (by repeat (first | (with_reducible first | exact HB.out | apply below_alloc | apply pw_below_drewN | apply below_drew1 | refine below_set ?_ GE719.out) | exact HB.out))) : w.heap.size ≤ gb725)); replace HB := Aside0.mk (below_step (by repeat (first | (with_reducible first | exact HB.out | apply below_alloc | apply pw_below_drewN | apply below_drew1 | refine below_set ?_ GE719.out) | exact HB.out)) hb); have NB719_725 := Aside0.mk ((blk_nw hg BK719.out : gb719 ≠ gb725)); have NB725_719 := Aside0.mk ((nw_blk hg BK719.out : gb725 ≠ gb719)); replace BK719 := Aside0.mk (blk_below (g := gb719) (o := .cells #[.bool t714, .slice Ao65 t715.length co65] 25 (0, 0)) (blk_up BK719.out) hb); clear hb hbox hg; have hnb68 := NB725_719.out; have hnc68 := NB719_725.out; have hcz69_0 : w67.cell? ⟨gb725, 0, none⟩ = some (.bool false) := (blk_cell BK725.out 0).trans rfl; have hcz69_1 : w67.cell? ⟨gb725, 1, none⟩ = some (.slice none 0 0) := (blk_cell BK725.out 1).trans rfl; have hfz69_0 := blk_frozen BK725.out 0; have hfz69_1 := blk_frozen BK725.out 1; obtain ⟨Ao70, co70, eo70⟩ := Kd.V_slice HO723.out; subst eo70) | ((with_reducible refine gate_store (t := 25) (p := 7) rfl ?_); refine store_event (t := 25) (p := 7) (v := ?vo_w71) (w1 := ((w67.setCell ⟨gb725, 0, none⟩ (.bool t720)).setCell ⟨gb725, 1, none⟩ (.slice Ao70 t721.length co70))) ?hg ?ho ?hn ?hr ?_; (case ho => rfl); (case hg => rfl); (case hn => rfl); (case hr => first | (go_simp; done) | (go_simp; rfl)); intro w71 hw; replace HO717 : Aside0 (Kd.V (Kd.int .u32) 60 w71 w.heap.size (fun k_ => k_ ≠ gb719 ∧ k_ ≠ gb725) (.slice Ao65 t715.length co65) t715) := ⟨(by rw [hw]; exact (Kd.V_up (Kd.V_mono (Kd.V_far (p := ⟨gb725, 1, none⟩) (Kd.V_far (p := ⟨gb725, 0, none⟩) (Kd.V_mono HO717.out (fun k_ hk => (⟨hk, hk.2⟩ : _ ∧ k_ ≠ gb725))) (fun _ hk => hk.2) (.bool t720)) (fun _ hk => hk.2) (.slice Ao70 t721.length co70)) (fun _ hk => ⟨hk.1.1.2, hk.1.2⟩))))⟩; replace HO723 : Aside0 (Kd.V (Kd.int .u32) 60 w71 w.heap.size (fun k_ => k_ ≠ gb719 ∧ k_ ≠ gb725) (.slice Ao70 t721.length co70) t721) := ⟨(by rw [hw]; exact (Kd.V_up (Kd.V_mono (Kd.V_far (p := ⟨gb725, 1, none⟩) (Kd.V_far (p := ⟨gb725, 0, none⟩) (Kd.V_mono HO723.out (fun k_ hk => (⟨hk, hk.2⟩ : _ ∧ k_ ≠ gb725))) (fun _ hk => hk.2) (.bool t720)) (fun _ hk => hk.2) (.slice Ao70 t721.length co70)) (fun _ hk => ⟨hk.1.1, hk.1.2⟩))))⟩; replace BK719 : Aside0 (w71.heap[gb719]? = some (.cells #[.bool t714, .slice Ao65 t715.length co65] 25 (0, 0))) := ⟨(by rw [hw]; exact (by refine blk_ups ?_; refine blk_far ?_ NB719_725.out _; refine blk_ups ?_; refine blk_far ?_ NB719_725.out _; exact blk_up BK719.out))⟩; replace BK725 : Aside0 (w71.heap[gb725]? = some (.cells #[.bool t720, .slice Ao70 t721.length co70] 25 (0, 0))) := ⟨(by rw [hw]; exact (by refine blk_ups ?_; refine blk_put (cs := #[.bool t720, .slice none 0 0]) ?_ 1 _ rfl; refine blk_ups ?_; refine blk_put (cs := #[.bool false, .slice none 0 0]) ?_ 0 _ rfl; exact blk_up BK725.out))⟩; replace HB : Aside0 (Below w.heap.size w w71) := ⟨(by rw [hw]; exact (by repeat (first | (with_reducible first | exact HB.out | apply below_alloc | apply pw_below_drewN | apply below_drew1 | refine below_set ?_ GE719.out | refine below_set ?_ GE725.out) | exact HB.out)))⟩; clear hw; have hcz72_0 : w71.cell? ⟨gb719, 0, none⟩ = some (.bool t714) := (blk_cell BK719.out 0).trans rfl; have hcz72_1 : w71.cell? ⟨gb719, 1, none⟩ = some (.slice Ao65 t715.length co65) := (blk_cell BK719.out 1).trans rfl; have hfz72_0 := blk_frozen BK719.out 0; have hfz72_1 := blk_frozen BK719.out 1; have hcz73_0 : w71.cell? ⟨gb725, 0, none⟩ = some (.bool t720) := (blk_cell BK725.out 0).trans rfl; have hcz73_1 : w71.cell? ⟨gb725, 1, none⟩ = some (.slice Ao70 t721.length co70) := (blk_cell BK725.out 1).trans rfl; have hfz73_0 := blk_frozen BK725.out 0; have hfz73_1 := blk_frozen BK725.out 1) | ((with_reducible refine gate_callee (f := 27) rfl ?_); refine gl_ (some 40) Tryd.func27 #[.agg #[.bool t714, .slice Ao65 t715.length co65], .agg #[.bool t720, .slice Ao70 t721.length co70]] ?_; (with_reducible refine (integer_DivMod.calls kj2 t714 (fun k_ => (k_ ≠ gb719 ∧ k_ ≠ gb725)) _ _ t715 t720 _ _ t721 t726 t727 t730 t731 t734 _ ?side1 ?side2 ?side3 A17.out).mono ?_); (case side1 => exact HO717.out); (case side2 => repeat (first | exact (Kd.V_reads' HO723.out).2.2 | (with_reducible refine Kd.C_alloc ?_ _) | (with_reducible refine Kd.C_drewN ?_ _) | (with_reducible refine Kd.C_drew ?_))); (case side3 => exact (Kd.V_reads' HO723.out).2.1); rintro e w74 ⟨v728, v732, rfl, ho0, ho1, hb⟩; refine ⟨_, rfl, ?_⟩; have n2_ := Aside0.mk (Kd.V_lower (Kd.V_mono (ok' := fun k_ => k_ ≠ gb719 ∧ k_ ≠ gb725) ho0 (fun k_ hk_ => ⟨Or.elim hk_ (fun hs_ => hs_.1) (fun hn_ => (Kd.freshB (g := gb719) (o := .cells #[.bool t714, .slice Ao65 t715.length co65] 25 (0, 0)) (blk_up BK719.out) k_ hn_)), Or.elim hk_ (fun hs_ => hs_.2) (fun hn_ => (Kd.freshB (g := gb725) (o := .cells #[.bool t720, .slice Ao70 t721.length co70] 25 (0, 0)) (blk_up BK725.out) k_ hn_))⟩)) (below_size (by repeat (first | (with_reducible first | exact HB.out | apply below_alloc | apply pw_below_drewN | apply below_drew1 | refine below_set ?_ GE719.out | refine below_set ?_ GE725.out) | exact HB.out)))); have n3_ := Aside0.mk (Kd.V_lower (Kd.V_mono (ok' := fun k_ => k_ ≠ gb719 ∧ k_ ≠ gb725) ho1 (fun k_ hk_ => ⟨Or.elim hk_ (fun hs_ => hs_.1) (fun hn_ => (Kd.freshB (g := gb719) (o := .cells #[.bool t714, .slice Ao65 t715.length co65] 25 (0, 0)) (blk_up BK719.out) k_ hn_)), Or.elim hk_ (fun hs_ => hs_.2) (fun hn_ => (Kd.freshB (g := gb725) (o := .cells #[.bool t720, .slice Ao70 t721.length co70] 25 (0, 0)) (blk_up BK725.out) k_ hn_))⟩)) (below_size (by repeat (first | (with_reducible first | exact HB.out | apply below_alloc | apply pw_below_drewN | apply below_drew1 | refine below_set ?_ GE719.out | refine below_set ?_ GE725.out) | exact HB.out)))); have n4_ := Aside0.mk (blk_below (g := gb719) (o := .cells #[.bool t714, .slice Ao65 t715.length co65] 25 (0, 0)) (blk_up BK719.out) hb); have n5_ := Aside0.mk (blk_below (g := gb725) (o := .cells #[.bool t720, .slice Ao70 t721.length co70] 25 (0, 0)) (blk_up BK725.out) hb); have n6_ := Aside0.mk (below_step (by repeat (first | (with_reducible first | exact HB.out | apply below_alloc | apply pw_below_drewN | apply below_drew1 | refine below_set ?_ GE719.out | refine below_set ?_ GE725.out) | exact HB.out)) hb); (try clear HO717); (try clear HO723); clear BK719 BK725 HB; have HO729 := n2_; have HO733 := n3_; have BK719 := n4_; have BK725 := n5_; have HB := n6_; clear n2_ n3_ n4_ n5_ n6_; (try clear hb); (try clear hb2); (try clear hk); (try clear hi); (try clear ho0); (try clear ho1)) | ((with_reducible refine gate_dst (N := 9) rfl ?_); refine box_event ?hg (N := 9) ?hd (cs := #[.bool false, .slice none 0 0]) (t := 25) ?hr ?_; (case hd => rfl); (case hg => rfl); (case hr => first | (go_simp; done) | (go_simp; rfl)); intro gb735 hg w75 hbox hb; have n2_ := Aside0.mk (Kd.V_below (Kd.V_elderB (Kd.V_up HO729.out) gb735 (Nat.le_of_eq hg.symm)) hb); have n3_ := Aside0.mk (Kd.V_below (Kd.V_elderB (Kd.V_up HO733.out) gb735 (Nat.le_of_eq hg.symm)) hb); have n4_ := Aside0.mk (blk_below (g := gb719) (o := .cells #[.bool t714, .slice Ao65 t715.length co65] 25 (0, 0)) (blk_up BK719.out) hb); have n5_ := Aside0.mk (blk_below (g := gb725) (o := .cells #[.bool t720, .slice Ao70 t721.length co70] 25 (0, 0)) (blk_up BK725.out) hb); have n6_ := Aside0.mk (below_step (by repeat (first | (with_reducible first | exact HB.out | apply below_alloc | apply pw_below_drewN | apply below_drew1 | refine below_set ?_ GE719.out | refine below_set ?_ GE725.out) | exact HB.out)) hb); have n7_ := Aside0.mk (hbox); have n9_ := Aside0.mk ((by rw [hg]; exact (below_size (by repeat (first | (with_reducible first | exact HB.out | apply below_alloc | apply pw_below_drewN | apply below_drew1 | refine below_set ?_ GE719.out | refine below_set ?_ GE725.out) | exact HB.out))) : w.heap.size ≤ gb735)); have n10_ := Aside0.mk ((blk_nw hg BK719.out : gb719 ≠ gb735)); have n11_ := Aside0.mk ((nw_blk hg BK719.out : gb735 ≠ gb719)); have n12_ := Aside0.mk ((blk_nw hg BK725.out : gb725 ≠ gb735)); have n13_ := Aside0.mk ((nw_blk hg BK725.out : gb735 ≠ gb725)); clear HO729 HO733 BK719 BK725 HB; have HO729 := n2_; have HO733 := n3_; have BK719 := n4_; have BK725 := n5_; have HB := n6_; have BK735 := n7_; have GE735 := n9_; have NB719_735 := n10_; have NB735_719 := n11_; have NB725_735 := n12_; have NB735_725 := n13_; clear n2_ n3_ n4_ n5_ n6_ n7_ n9_ n10_ n11_ n12_ n13_ hb hbox hg) | ((with_reducible refine gate_dst (N := 10) rfl ?_); refine box_event ?hg (N := 10) ?hd (cs := #[.bool false, .slice none 0 0]) (t := 25) ?hr ?_; (case hd => rfl); (case hg => rfl); (case hr => first | (go_simp; done) | (go_simp; rfl)); intro gb736 hg w76 hbox hb; have n2_ := Aside0.mk (Kd.V_below (Kd.V_elderB (Kd.V_up HO729.out) gb736 (Nat.le_of_eq hg.symm)) hb); have n3_ := Aside0.mk (Kd.V_below (Kd.V_elderB (Kd.V_up HO733.out) gb736 (Nat.le_of_eq hg.symm)) hb); have n6_ := Aside0.mk (blk_below (g := gb735) (o := .cells #[.bool false, .slice none 0 0] 25 (0, 0)) (blk_up BK735.out) hb); have n7_ := Aside0.mk (below_step (by repeat (first | (with_reducible first | exact HB.out | apply below_alloc | apply pw_below_drewN | apply below_drew1 | refine below_set ?_ GE719.out | refine below_set ?_ GE725.out | refine below_set ?_ GE735.out) | exact HB.out)) hb); have n8_ := Aside0.mk (hbox); have n10_ := Aside0.mk ((by rw [hg]; exact (below_size (by repeat (first | (with_reducible first | exact HB.out | apply below_alloc | apply pw_below_drewN | apply below_drew1 | refine below_set ?_ GE719.out | refine below_set ?_ GE725.out | refine below_set ?_ GE735.out) | exact HB.out))) : w.heap.size ≤ gb736)); have n11_ := Aside0.mk ((blk_nw hg BK719.out : gb719 ≠ gb736)); have n12_ := Aside0.mk ((nw_blk hg BK719.out : gb736 ≠ gb719)); have n13_ := Aside0.mk ((blk_nw hg BK725.out : gb725 ≠ gb736)); have n14_ := Aside0.mk ((nw_blk hg BK725.out : gb736 ≠ gb725)); have n15_ := Aside0.mk ((blk_nw hg BK735.out : gb735 ≠ gb736)); have n16_ := Aside0.mk ((nw_blk hg BK735.out : gb736 ≠ gb735)); clear HO729 HO733; (try clear BK719); (try clear BK725); clear BK735 HB; have HO729 := n2_; have HO733 := n3_; have BK735 := n6_; have HB := n7_; have BK736 := n8_; have GE736 := n10_; have NB719_736 := n11_; have NB736_719 := n12_; have NB725_736 := n13_; have NB736_725 := n14_; have NB735_736 := n15_; have NB736_735 := n16_; clear n2_ n3_ n6_ n7_ n8_ n10_ n11_ n12_ n13_ n14_ n15_ n16_ hb hbox hg; have hnb77 := NB735_719.out; have hnc77 := NB719_735.out; have hnb78 := NB735_725.out; have hnc78 := NB725_735.out; have hnb79 := NB735_736.out; have hnc79 := NB736_735.out; have hcz80_0 : w76.cell? ⟨gb735, 0, none⟩ = some (.bool false) := (blk_cell BK735.out 0).trans rfl; have hcz80_1 : w76.cell? ⟨gb735, 1, none⟩ = some (.slice none 0 0) := (blk_cell BK735.out 1).trans rfl; have hfz80_0 := blk_frozen BK735.out 0; have hfz80_1 := blk_frozen BK735.out 1; obtain ⟨Ao81, co81, eo81⟩ := Kd.V_slice HO729.out; subst eo81; have hnb82 := NB736_719.out; have hnc82 := NB719_736.out; have hnb83 := NB736_725.out; have hnc83 := NB725_736.out; have hcz84_0 : w76.cell? ⟨gb736, 0, none⟩ = some (.bool false) := (blk_cell BK736.out 0).trans rfl; have hcz84_1 : w76.cell? ⟨gb736, 1, none⟩ = some (.slice none 0 0) := (blk_cell BK736.out 1).trans rfl; have hfz84_0 := blk_frozen BK736.out 0; have hfz84_1 := blk_frozen BK736.out 1; obtain ⟨Ao85, co85, eo85⟩ := Kd.V_slice HO733.out; subst eo85) | ((with_reducible refine gate_callee (f := 28) rfl ?_); refine gl_ (some 67) Tryd.func28 #[.string a0, .string a1] ?_; (with_reducible refine (dowelref01_DivMod.calls kj2 a0 a1 t739 t740 _ A55.out).mono ?_); rintro e w86 ⟨rfl, hb⟩; refine ⟨_, rfl, ?_⟩; have n2_ := Aside0.mk (Kd.V_below (Kd.V_up ((Kd.V_mono (Kd.V_mono (Kd.V_far (p := ⟨gb736, 1, none⟩) (Kd.V_far (p := ⟨gb736, 0, none⟩) (Kd.V_far (p := ⟨gb735, 1, none⟩) (Kd.V_far (p := ⟨gb735, 0, none⟩) (Kd.V_mono (Kd.V_mono HO729.out (fun k_ hk => (⟨hk, hk.1.2⟩ : _ ∧ k_ ≠ gb735))) (fun k_ hk => (⟨hk, hk.1.2⟩ : _ ∧ k_ ≠ gb736))) (fun _ hk => hk.1.2) (.bool t726)) (fun _ hk => hk.1.2) (.slice Ao81 t727.length co81)) (fun _ hk => hk.2) (.bool t730)) (fun _ hk => hk.2) (.slice Ao85 t731.length co85)) (fun _ h_ => h_.1)) (fun _ h_ => h_.1)))) hb); have n3_ := Aside0.mk (Kd.V_below (Kd.V_up ((Kd.V_mono (Kd.V_mono (Kd.V_far (p := ⟨gb736, 1, none⟩) (Kd.V_far (p := ⟨gb736, 0, none⟩) (Kd.V_far (p := ⟨gb735, 1, none⟩) (Kd.V_far (p := ⟨gb735, 0, none⟩) (Kd.V_mono (Kd.V_mono HO733.out (fun k_ hk => (⟨hk, hk.1.2⟩ : _ ∧ k_ ≠ gb735))) (fun k_ hk => (⟨hk, hk.1.2⟩ : _ ∧ k_ ≠ gb736))) (fun _ hk => hk.1.2) (.bool t726)) (fun _ hk => hk.1.2) (.slice Ao81 t727.length co81)) (fun _ hk => hk.2) (.bool t730)) (fun _ hk => hk.2) (.slice Ao85 t731.length co85)) (fun _ h_ => h_.1)) (fun _ h_ => h_.1)))) hb); have n6_ := Aside0.mk (blk_below (g := gb735) (o := .cells #[.bool t726, .slice Ao81 t727.length co81] 25 (0, 0)) (by refine blk_ups ?_; refine blk_far ?_ NB735_736.out _; refine blk_ups ?_; refine blk_far ?_ NB735_736.out _; refine blk_ups ?_; refine blk_put (cs := #[.bool t726, .slice none 0 0]) ?_ 1 _ rfl; refine blk_ups ?_; refine blk_put (cs := #[.bool false, .slice none 0 0]) ?_ 0 _ rfl; exact blk_up BK735.out) hb); have n7_ := Aside0.mk (blk_below (g := gb736) (o := .cells #[.bool t730, .slice Ao85 t731.length co85] 25 (0, 0)) (by refine blk_ups ?_; refine blk_put (cs := #[.bool t730, .slice none 0 0]) ?_ 1 _ rfl; refine blk_ups ?_; refine blk_put (cs := #[.bool false, .slice none 0 0]) ?_ 0 _ rfl; refine blk_ups ?_; refine blk_far ?_ NB736_735.out _; refine blk_ups ?_; refine blk_far ?_ NB736_735.out _; exact blk_up BK736.out) hb); have n8_ := Aside0.mk (below_step (by repeat (first | (with_reducible first | exact HB.out | apply below_alloc | apply pw_below_drewN | apply below_drew1 | refine below_set ?_ GE719.out | refine below_set ?_ GE725.out | refine below_set ?_ GE735.out | refine below_set ?_ GE736.out) | exact HB.out)) hb); clear HO729 HO733 BK735 BK736 HB; have HO729 := n2_; have HO733 := n3_; have BK735 := n6_; have BK736 := n7_; have HB := n8_; clear n2_ n3_ n6_ n7_ n8_; (try clear hb); (try clear hb2); (try clear hk); (try clear hi); have hcz87_0 : w86.cell? ⟨gb735, 0, none⟩ = some (.bool t726) := (blk_cell BK735.out 0).trans rfl; have hcz87_1 : w86.cell? ⟨gb735, 1, none⟩ = some (.slice Ao81 t727.length co81) := (blk_cell BK735.out 1).trans rfl; have hfz87_0 := blk_frozen BK735.out 0; have hfz87_1 := blk_frozen BK735.out 1) | (go_at_call 17; (with_reducible refine (integer_Int_Text.calls kj2 t726 (fun k_ => (((k_ ≠ gb719 ∧ k_ ≠ gb725) ∧ k_ ≠ gb735) ∧ k_ ≠ gb736)) _ _ t727 t741 _ ?side1 ?side2 A58.out).mono ?_); (case side1 => exact HO729.out); (case side2 => exact G_below HG.out (by repeat (first | (with_reducible first | exact HB.out | apply below_alloc | apply pw_below_drewN | apply below_drew1 | refine below_set ?_ GE719.out | refine below_set ?_ GE725.out | refine below_set ?_ GE735.out | refine below_set ?_ GE736.out) | exact HB.out))); rintro e w88 ⟨rfl, hb⟩; have n3_ := Aside0.mk (Kd.V_below (Kd.V_up HO733.out) hb); have n7_ := Aside0.mk (blk_below (g := gb736) (o := .cells #[.bool t730, .slice Ao85 t731.length co85] 25 (0, 0)) (blk_up BK736.out) hb); have n8_ := Aside0.mk (below_step (by repeat (first | (with_reducible first | exact HB.out | apply below_alloc | apply pw_below_drewN | apply below_drew1 | refine below_set ?_ GE719.out | refine below_set ?_ GE725.out | refine below_set ?_ GE735.out | refine below_set ?_ GE736.out) | exact HB.out)) hb); (try clear HO729); clear HO733; (try clear BK735); clear BK736 HB; have HO733 := n3_; have BK736 := n7_; have HB := n8_; clear n3_ n7_ n8_; (try clear hb); (try clear hb2); (try clear hk); (try clear hi); have hcz89_0 : w88.cell? ⟨gb736, 0, none⟩ = some (.bool t730) := (blk_cell BK736.out 0).trans rfl; have hcz89_1 : w88.cell? ⟨gb736, 1, none⟩ = some (.slice Ao85 t731.length co85) := (blk_cell BK736.out 1).trans rfl; have hfz89_0 := blk_frozen BK736.out 0; have hfz89_1 := blk_frozen BK736.out 1) | (go_at_call 17; (with_reducible refine (integer_Int_Text.calls kj2 t730 (fun k_ => (((k_ ≠ gb719 ∧ k_ ≠ gb725) ∧ k_ ≠ gb735) ∧ k_ ≠ gb736)) _ _ t731 t742 _ ?side1 ?side2 A60.out).mono ?_); (case side1 => exact HO733.out); (case side2 => exact G_below HG.out (by repeat (first | (with_reducible first | exact HB.out | apply below_alloc | apply pw_below_drewN | apply below_drew1 | refine below_set ?_ GE719.out | refine below_set ?_ GE725.out | refine below_set ?_ GE735.out | refine below_set ?_ GE736.out) | exact HB.out))); rintro e w90 ⟨rfl, hb⟩; have n8_ := Aside0.mk (below_step (by repeat (first | (with_reducible first | exact HB.out | apply below_alloc | apply pw_below_drewN | apply below_drew1 | refine below_set ?_ GE719.out | refine below_set ?_ GE725.out | refine below_set ?_ GE735.out | refine below_set ?_ GE736.out) | exact HB.out)) hb); (try clear HO733); (try clear BK736); clear HB; have HB := n8_; clear n8_; (try clear hb); (try clear hb2); (try clear hk); (try clear hi)))
       go_ret
       exact ⟨by first | rfl | (simp [errW_none, errW_some] <;> rfl) | (simp [*, errW_none, errW_some] <;> rfl), by repeat (first | (with_reducible first | exact HB.out | apply below_alloc | apply pw_below_drewN | apply below_drew1 | refine below_set ?_ GE719.out | refine below_set ?_ GE725.out | refine below_set ?_ GE735.out | refine below_set ?_ GE736.out) | exact HB.out)⟩
      ·
       replace c57 := Bool.eq_false_iff.mpr c57
       subst c57
       have H1 : (none) = some r := by rw [if_neg (show ¬ (false = true) by decide)] at H; exact H
       clear H
       have H := H1
       clear H1
       exact absurd H (by simp)
     ·
      replace c56 := Bool.eq_false_iff.mpr c56
      subst c56
      have H1 : (none) = some r := by rw [if_neg (show ¬ (false = true) by decide)] at H; exact H
      clear H
      have H := H1
      clear H1
      exact absurd H (by simp)
def dowellaw01_IntegerDivides.Pure : Prop := ∀ (a0 : ByteArray) (a1 : ByteArray), a0.size ≤ 140737488351232 → a1.size ≤ 140737488351232 → ∃ k, dowellaw01_IntegerDivides.f k a0 a1 = some true
theorem dowellaw01_IntegerDivides.walk (P : dowellaw01_IntegerDivides.Pure) (a0 : ByteArray) (a1 : ByteArray) (w : World) (hG : G w) (w0 : a0.size ≤ 140737488351232) (w1 : a1.size ≤ 140737488351232) :
  Calls Tryd.prog 6 #[.string a0, .string a1] w fun e w' => e = .returned (.bool true) ∧ Below w.heap.size w w' := by
 obtain ⟨k, h⟩ := P a0 a1 w0 w1
 refine (dowellaw01_IntegerDivides.calls k a0 a1 true w hG h).mono ?_
 rintro e w' ⟨rfl, hd⟩
 exact ⟨rfl, hd⟩
end Go.Proofs.YtiikfhdmclmjmaaDoor.P
