/- Part 7 of the proof of IntegerOrder: what the program's functions compute, told as plain functions, and what these answer. Conditions: none beside the statement's own. Gathered by the session's program merge.py out of its own and the printed texts; no declaration that the proof does not name is left in. -/
import Derived.Test.YtiikfhdmclmjmaaDoorIOrd6
import Derived.KernelRfl
import Derived.Test.YtiikfhdmclmjmaaDoorRows
import Derived.Test.YtiikfhdmclmjmaaDoorTie
import Derived.Test.YtiikfhdmclmjmaaDoorCards
import Derived.WalkKit
import Derived.ProofKit
import Derived.LaidMore
import Derived.LaidLaws
import Derived.OpenShut
import Derived.ShutString
import Derived.ChangeOld
import Derived.Below
import Derived.SizedLaws
import Derived.Stop.Joined
import Derived.Stop.LaidErr
import Derived.Lib.LaidTab
import Derived.MakeChecks
import Derived.Handed
import Derived.SevenTiedAt
namespace Go.Proofs.YtiikfhdmclmjmaaDoor.Pure
open Go.RowKit Go.Proofs.YtiikfhdmclmjmaaDoorW.PrintWords Go.Proofs.YtiikfhdmclmjmaaDoor.P
set_option linter.unusedVariables false
set_option linter.unusedSimpArgs false
theorem one_toList : (⟨#[45]⟩ : ByteArray).toList = [45] := by rw [ByteArray.toList_eq]
theorem one_size : (⟨#[45]⟩ : ByteArray).size = 1 := rfl
theorem cut_eq (s : ByteArray) : ∃ d neg, strings_CutPrefix.f s (⟨#[45]⟩ : ByteArray) = some (d, neg) ∧ d.data.toList = body s.data.toList ∧ neg = decide ((s.data.toList.headD 0).toNat = 45) ∧ d.size + (if neg = true then 1 else 0) = s.size := by
  unfold strings_CutPrefix.f stringslite_CutPrefix.f stringslite_HasPrefix.f
  have hl : s.data.toList.length = s.size := dlen s
  rw [one_size, one_toList]
  match hL : s.data.toList, hl with
  | [], hl =>
    simp only [List.length_nil] at hl
    rw [if_neg (by omega)]
    refine ⟨s, false, rfl, ?_, rfl, by rw [if_neg (by decide)]; omega⟩
    rw [hL]
    rfl
  | b :: r, hl =>
    simp only [List.length_cons] at hl
    rw [if_pos (by omega), if_pos (by omega), if_pos (by omega)]
    have e : (s.extract 0 (((1 : Nat) : Int)).toNat).toList = [b] := by
      rw [ByteArray.toList_eq, ext_list, hL]
      rfl
    have e2 : (s.extract (((1 : Nat) : Int)).toNat s.size).data.toList = r := by
      rw [ext_list, hL]
      show List.take (s.size - 1) r = r
      exact List.take_of_length_le (by omega)
    rw [e]
    simp only [Option.bind_some, List.headD_cons]
    by_cases h : b.toNat = 45
    · have hb : b = 45 := byte_eq h
      rw [if_pos (by rw [hb]; rfl), if_pos (by omega), if_pos (by omega)]
      refine ⟨_, true, rfl, ?_, by simp [h], ?_⟩
      · rw [e2]; simp [body, h]
      · rw [bs_list, e2, if_pos rfl]; omega
    · have hb : ¬ (([b] : List UInt8) == [45]) = true := by
        intro hh
        have : b = 45 := by simpa using hh
        rw [this] at h
        exact h rfl
      rw [if_neg hb]
      refine ⟨s, false, rfl, ?_, by simp [h], by simp⟩
      rw [hL]; simp [body, h]
theorem idx_from (p : Nat → Bool) (hp : ∀ x, p x = true ↔ (x < 48 ∨ 57 < x)) (s : ByteArray) : ∀ (n pos f : Nat), pos + n = s.size → n ≤ f → ((0 ≤ Lib.idxFuncFrom p true s f pos) ↔ (s.data.toList.drop pos).all isd = false)
  | 0, pos, f, h, hf => by
    rw [Lib.idxFuncFrom_end p true s f pos (by omega), List.drop_of_length_le (by rw [dlen]; omega)]
    simp
  | n + 1, pos, 0, h, hf => by omega
  | n + 1, pos, f + 1, h, hf => by
    have hlt : pos < s.size := by omega
    have hl : pos < s.data.toList.length := by rw [dlen]; omega
    have hb : s[pos]'hlt = s.data.toList[pos] := by simp [ByteArray.getElem_eq_getElem_data]
    rw [List.drop_eq_getElem_cons hl, List.all_cons]
    unfold Lib.idxFuncFrom
    rw [if_pos hlt]
    by_cases ha : (s[pos]'hlt).toNat < 128
    · rw [decode_ascii s pos hlt ha]
      by_cases hd : isd s.data.toList[pos] = true
      · rw [if_neg (by rw [hp, hb]; rw [isd_iff] at hd; omega), hd, Bool.true_and]
        exact idx_from p hp s n (pos + 1) f (by omega) (by omega)
      · rw [if_pos (by rw [hp, hb]; rw [isd_iff] at hd; omega)]
        rw [Bool.not_eq_true] at hd
        rw [hd, Bool.false_and]
        exact ⟨fun _ => rfl, fun _ => by omega⟩
    · have hh := (decode_high s pos hlt (by omega)).1
      rw [if_pos (by rw [hp]; omega)]
      have hd : isd s.data.toList[pos] = false := decide_eq_false (by rw [← hb]; omega)
      rw [hd, Bool.false_and]
      exact ⟨fun _ => rfl, fun _ => by omega⟩
theorem has_eq (s : ByteArray) : strings_ContainsFunc_Parse1.f s = some (!(s.data.toList.all isd)) := by
  unfold strings_ContainsFunc_Parse1.f Lib.idxFunc
  have := idx_from (fun x => decide (x < 48) || decide (57 < x)) (fun x => by simp) s s.size 0 s.size (by omega) (Nat.le_refl _)
  rw [List.drop_zero] at this
  congr 1
  cases hb : s.data.toList.all isd
  · exact decide_eq_true (this.2 hb)
  · exact decide_eq_false (fun h => by rw [this.1 h] at hb; cases hb)
theorem pum_ok : ∀ (l : List UInt8) (a M : Nat), l.all isd = true → nv a l ≤ M → M < 4294967296 → Lib.parseUintM M a l = .ok (nv a l)
  | [], a, M, _, _, _ => rfl
  | c :: r, a, M, h, h1, h2 => by
    rw [List.all_cons, Bool.and_eq_true, isd_iff] at h
    rw [nv_cons] at h1 ⊢
    have := nv_le (a * 10 + (c.toNat - 48)) r
    unfold Lib.parseUintM
    rw [if_pos h.1, if_neg (by omega), if_neg (by omega)]
    exact pum_ok r _ M h.2 h1 h2
theorem pu_eq (s : ByteArray) (h : s.data.toList.all isd = true) (h0 : 0 < s.size) (h9 : s.size ≤ 9) : strconv_ParseUint_56.f s 10 32 = some (((nv 0 s.data.toList : Nat) : Int), (none : Option Int)) := by
  have hl : s.data.toList.length = s.size := dlen s
  have h1 := nv_lt h
  have h2 : (10 : Nat) ^ s.data.toList.length ≤ 10 ^ 9 := Nat.pow_le_pow_right (by decide) (by omega)
  unfold strconv_ParseUint_56.f Lib.parseUintB
  rw [if_pos ⟨rfl, rfl, by omega⟩, if_neg (fun e => by rw [e] at hl; simp at hl; omega), pum_ok _ 0 _ h (by show _ ≤ 4294967295; omega) (by decide)]
theorem take_all {l : List UInt8} (h : l.all isd = true) (n : Nat) : (l.take n).all isd = true := by
  rw [List.all_eq_true] at h ⊢
  exact fun x hx => h x (List.mem_of_mem_take hx)
theorem drop_all {l : List UInt8} (h : l.all isd = true) (n : Nat) : (l.drop n).all isd = true := by
  rw [List.all_eq_true] at h ⊢
  exact fun x hx => h x (List.mem_of_mem_drop hx)
theorem ten_len {m c : Nat} (h : m < 10 ^ c) : (dgs BB m).length ≤ c :=
  dgs_len BB2 c m (Nat.lt_of_lt_of_le h (Nat.pow_le_pow_left (by decide) c))
theorem parse_l1 (x4 : ByteArray) (x5 : Bool) (m : Nat) (n : Nat) (r : Bool × List Int × Int) (h0 : 0 < n) (h9 : n ≤ 9) (hn : n ≤ x4.size) (hm : (dgs BB m).length ≤ 70368744177663) (hd : x4.data.toList.all isd = true)
    (k : Ev (fun k => integer_Parse.l0 k (x4.extract n x4.size) x5 (dgs BB (m * 10 ^ n + nv 0 (x4.data.toList.take n)))) r) : ∀ (q j : Nat), j + q = n →
    Ev (fun k => integer_Parse.l1 k x4 x5 (dgs BB m) (n : Int) ((10 ^ j : Nat) : Int) (n : Int) (j : Int)) r
  | 0, j, hj => by
    obtain rfl : j = n := by omega
    have hp : 10 ^ j ≤ 10 ^ 9 := Nat.pow_le_pow_right (by decide) h9
    have ee : (x4.extract 0 (((j : Nat) : Int)).toNat).data.toList = x4.data.toList.take j := by
      rw [ext_list, List.drop_zero, Nat.sub_zero, Int.toNat_natCast]
    have hsz : (x4.extract 0 (((j : Nat) : Int)).toNat).size = j := by
      rw [bs_list, ee, List.length_take, dlen]
      omega
    have hu := pu_eq (x4.extract 0 (((j : Nat) : Int)).toNat) (by rw [ee]; exact take_all hd j) (by omega) (by omega)
    rw [ee] at hu
    have hlt := nv_lt (take_all hd j)
    have hle : (10 : Nat) ^ (x4.data.toList.take j).length ≤ 10 ^ 9 := Nat.pow_le_pow_right (by decide) (by rw [List.length_take]; omega)
    refine Ev.step (fun k => integer_Parse.l1.eq_2 ..) (Ev.neg (by omega) (Ev.pos (by omega) (Ev.pos (by omega) (Ev.bind0 hu ?_))))
    have hmod : (((nv 0 (x4.data.toList.take j) : Nat) : Int)) % 4294967296 = (nv 0 (x4.data.toList.take j) : Nat) := by omega
    simp only [hmod]
    refine Ev.bind (scale_ev (dgs BB m) ((10 ^ j : Nat) : Int) ((nv 0 (x4.data.toList.take j) : Nat) : Int) (dgs_digs BB2 m) (Int.natCast_nonneg _) (Int.ofNat_lt.2 (show 10 ^ j < 4294967296 by omega)) (Int.natCast_nonneg _) (Int.ofNat_lt.2 (show nv 0 (x4.data.toList.take j) < 4294967296 by omega)) hm (m * 10 ^ j + nv 0 (x4.data.toList.take j)) ?_) ?_
    · rw [show val 4294967296 (dgs BB m) = (m : Int) from dgs_val BB2 m]
      rw [Int.natCast_add, Int.natCast_mul]
    · rw [Int.toNat_natCast]
      exact k
  | q + 1, j, hj => by
    refine Ev.step (fun k => integer_Parse.l1.eq_2 ..) (Ev.pos (by omega) ?_)
    rw [wsucc (show j < n by omega) (by omega)]
    have hp : 10 ^ (j + 1) ≤ 10 ^ 9 := Nat.pow_le_pow_right (by decide) (by omega)
    have e : (((10 ^ j : Nat) : Int) * 10) % 4294967296 = ((10 ^ (j + 1) : Nat) : Int) := by
      rw [Nat.pow_succ] at hp ⊢
      omega
    rw [e]
    exact parse_l1 x4 x5 m n r h0 h9 hn hm hd k q (j + 1) (by omega)
theorem parse_l0 (x5 : Bool) : ∀ (sz : Nat) (x4 : ByteArray) (m : Nat), x4.size = sz → sz ≤ 65536 → x4.data.toList.all isd = true → (∃ c, m < 10 ^ c ∧ c + sz ≤ 65536) →
    Ev (fun k => integer_Parse.l0 k x4 x5 (dgs BB m)) (decide (x5 = true ∧ nv m x4.data.toList ≠ 0), dgs BB (nv m x4.data.toList), 0) := by
  intro sz
  induction sz using Nat.strongRecOn with
  | _ sz ih =>
    intro x4 m hs hm hd hc
    obtain ⟨c, hc1, hc2⟩ := hc
    have hlen := ten_len hc1
    have hll : x4.data.toList.length = x4.size := dlen x4
    by_cases h : (x4.size : Int) > 0
    · refine Ev.step (fun k => integer_Parse.l0.eq_2 ..) (Ev.pos h ?_)
      obtain ⟨n, hn1, hn2, hn3, hn4⟩ : ∃ n : Nat, wrap64 ((Int.tmod (wrap64 ((x4.size : Int) - 1)) 9) + 1) = (n : Int) ∧ 0 < n ∧ n ≤ 9 ∧ n ≤ x4.size := by
        have e1 : wrap64 ((x4.size : Int) - 1) = ((x4.size - 1 : Nat) : Int) := by rw [w64 _ (by omega) (by omega)]; omega
        have e2 : Int.tmod ((x4.size - 1 : Nat) : Int) 9 = (((x4.size - 1) % 9 : Nat) : Int) := rfl
        refine ⟨(x4.size - 1) % 9 + 1, ?_, by omega, by omega, by omega⟩
        rw [e1, e2, w64 _ (by omega) (by omega)]
        omega
      rw [hn1]
      have ed : (x4.extract n x4.size).data.toList = x4.data.toList.drop n := by
        rw [ext_list]
        exact List.take_of_length_le (by rw [List.length_drop]; omega)
      have hs2 : (x4.extract n x4.size).size = sz - n := by rw [bs_list, ed, List.length_drop]; omega
      have hlt := nv_lt (take_all hd n)
      have htl : (x4.data.toList.take n).length = n := by rw [List.length_take]; omega
      rw [htl] at hlt
      have hnv : nv (m * 10 ^ n + nv 0 (x4.data.toList.take n)) (x4.data.toList.drop n) = nv m x4.data.toList := by
        have := nv_app m (x4.data.toList.take n) (x4.data.toList.drop n)
        rw [List.take_append_drop, nv_pow (x4.data.toList.take n) m, htl] at this
        exact this.symm
      have hcc : m * 10 ^ n + nv 0 (x4.data.toList.take n) < 10 ^ (c + n) := by
        have h3 : (m + 1) * 10 ^ n ≤ 10 ^ c * 10 ^ n := Nat.mul_le_mul_right _ hc1
        rw [Nat.pow_add]
        rw [Nat.add_mul] at h3
        omega
      have ih2 := ih (sz - n) (by omega) (x4.extract n x4.size) (m * 10 ^ n + nv 0 (x4.data.toList.take n)) hs2 (by omega) (by rw [ed]; exact drop_all hd n) ⟨c + n, hcc, by omega⟩
      rw [ed, hnv] at ih2
      exact parse_l1 x4 x5 m n _ hn2 hn3 hn4 (by omega) hd ih2 n 0 (by omega)
    · have e : x4.data.toList = [] := List.length_eq_zero_iff.1 (by omega)
      rw [e, nv_nil]
      refine Ev.step (fun k => integer_Parse.l0.eq_2 ..) (Ev.neg h ?_)
      exact Ev.bind (signed_ev x5 (dgs BB m) m (by omega) (dgs_digs BB2 m) (dgs_val BB2 m)) (Ev.some_ rfl)
theorem parse_ev (s : ByteArray) (hm : s.size ≤ 65536) : ∃ neg N, Ev (fun k => integer_Parse.f k s) (if chk s.data.toList = 0 then (neg, dgs BB N, 0) else (false, [], chk s.data.toList)) ∧
    N = nv 0 (body s.data.toList) ∧ neg = decide (decide ((s.data.toList.headD 0).toNat = 45) = true ∧ N ≠ 0) := by
  obtain ⟨d, ng, h1, h2, h3, h4⟩ := cut_eq s
  refine ⟨_, _, ?_, rfl, rfl⟩
  have hl : s.data.toList.length = s.size := dlen s
  have hdl : d.data.toList.length = d.size := dlen d
  have hds : d.size ≤ s.size := by omega
  unfold integer_Parse.f
  refine Ev.neg (by omega) (Ev.bind0 h1 ?_)
  show Ev (fun k => if d.toList = ([] : List UInt8) then (integer_Parse.j0 k d ng true) else ((strings_ContainsFunc_Parse1.f d).bind fun t489 => (integer_Parse.j0 k d ng t489))) _
  rw [ByteArray.toList_eq, has_eq, h2]
  rw [h2] at hdl
  unfold chk
  by_cases he : body s.data.toList = []
  · rw [if_pos he]
    exact Ev.pos he (Ev.step (fun k => integer_Parse.j0.eq_2 ..) (Ev.pos rfl (Ev.some_ rfl)))
  · rw [if_neg he]
    refine Ev.neg he (Ev.bindS ?_)
    unfold resD
    by_cases hd : (body s.data.toList).all isd = true
    · rw [if_pos hd, hd]
      have hp : 0 < d.size := by
        rcases Nat.eq_zero_or_pos d.size with h0 | h0
        · exact absurd (List.length_eq_zero_iff.1 (by omega)) he
        · exact h0
      have hb := bt_head d hp
      rw [h2] at hb
      refine Ev.step (fun k => integer_Parse.j0.eq_2 ..) (Ev.neg (by simp) (Ev.pos (by omega) ?_))
      rw [hb]
      have fin := parse_l0 ng d.size d 0 rfl (by omega) (by rw [h2]; exact hd) ⟨0, by decide, by omega⟩
      rw [dgs_zero, h2, h3] at fin
      have bad : ∀ b : Bool, b = true → Ev (fun k => integer_Parse.j1 k d ng b) (false, [], 3) := fun b hb2 =>
        Ev.step (fun k => integer_Parse.j1.eq_2 ..) (Ev.pos hb2 (Ev.some_ rfl))
      have good : ∀ b : Bool, b = false → Ev (fun k => integer_Parse.j1 k d ng b) (decide (decide ((s.data.toList.headD 0).toNat = 45) = true ∧ nv 0 (body s.data.toList) ≠ 0), dgs BB (nv 0 (body s.data.toList)), 0) := fun b hb2 => by
        refine Ev.step (fun k => integer_Parse.j1.eq_2 ..) (Ev.neg (by rw [hb2]; simp) ?_)
        rw [h3]
        exact fin
      have key : ∀ (c : Int) (F : Nat → Option (Bool × List Int × Int)) (A : Bool × List Int × Int), (if ((body s.data.toList).headD 0).toNat = 48 ∧ 1 < s.data.toList.length then (3 : Int) else 0) = c → Ev F (if c = 0 then A else (false, [], c)) →
          Ev F (if (if ((body s.data.toList).headD 0).toNat = 48 ∧ 1 < s.data.toList.length then (3 : Int) else 0) = 0 then A else (false, [], (if ((body s.data.toList).headD 0).toNat = 48 ∧ 1 < s.data.toList.length then (3 : Int) else 0))) := by
        intro c F A hc h
        rw [hc]
        exact h
      by_cases h48 : ((body s.data.toList).headD 0).toNat = 48
      · by_cases hg : (d.size : Int) > 1
        · refine key 3 _ _ (if_pos ⟨h48, by omega⟩) ?_
          rw [if_neg (by decide)]
          exact Ev.pos (by omega) (Ev.pos hg (bad true rfl))
        · by_cases hn : ng = true
          · rw [if_pos hn] at h4
            refine key 3 _ _ (if_pos ⟨h48, by omega⟩) ?_
            rw [if_neg (by decide)]
            exact Ev.pos (by omega) (Ev.neg hg (bad ng hn))
          · rw [if_neg hn] at h4
            refine key 0 _ _ (if_neg (by omega)) ?_
            rw [if_pos rfl]
            exact Ev.pos (by omega) (Ev.neg hg (good ng (by simpa using hn)))
      · refine key 0 _ _ (if_neg (fun hh => h48 hh.1)) ?_
        rw [if_pos rfl]
        exact Ev.neg (by omega) (good false rfl)
    · rw [if_neg hd]
      rw [Bool.not_eq_true] at hd
      rw [hd]
      exact Ev.step (fun k => integer_Parse.j0.eq_2 ..) (Ev.pos rfl (Ev.some_ rfl))
theorem parse_ok (s : ByteArray) (hm : s.size ≤ 65536) (h : chk s.data.toList = 0) : ∃ z : Int, s = T z ∧ Ev (fun k => integer_Parse.f k s) (decide (z < 0), lm z, 0) := by
  obtain ⟨neg, N, h1, h2, h3⟩ := parse_ev s hm
  obtain ⟨z, h4, _, h5⟩ := chk_itoa h
  refine ⟨z, ?_, ?_⟩
  · unfold T
    rw [← h4]
  · rw [if_pos h] at h1
    have := signed_mk (neg := decide ((s.data.toList.headD 0).toNat = 45)) (n := N) (z := z) (by rw [h5, h2]; simp only [decide_eq_true_eq])
    rw [Prod.mk.injEq] at this
    rw [h3, this.1, this.2] at h1
    exact h1
theorem read_ev (s : ByteArray) (hm : s.size ≤ 120) (h : chk s.data.toList = 0) : ∃ z : Int, s = T z ∧ Ev (fun k => dowellaw01_read.f k s) (decide (z < 0), lm z, true) := by
  obtain ⟨z, h1, h2⟩ := parse_ok s (by omega) h
  refine ⟨z, h1, ?_⟩
  unfold dowellaw01_read.f
  have hc := check_ev s (by omega)
  rw [h] at hc
  exact Ev.neg (by omega) (Ev.bind hc (Ev.pos rfl (Ev.bind h2 (Ev.some_ rfl))))
theorem right_ev (s : ByteArray) : Ev (fun k => dowellaw01_right.f k s) (decide (s.size ≤ 120 ∧ chk s.data.toList = 0)) := by
  unfold dowellaw01_right.f
  by_cases h : (s.size : Int) ≤ 120
  · refine Ev.pos h (Ev.bind (check_ev s (by omega)) (Ev.some_ ?_))
    have : s.size ≤ 120 := by omega
    by_cases hc : chk s.data.toList = 0 <;> simp [this, hc]
  · exact Ev.neg h (Ev.some_ (decide_eq_false (by omega)).symm)
end Go.Proofs.YtiikfhdmclmjmaaDoor.Pure
namespace Go.Proofs.YtiikfhdmclmjmaaDoor.Pure
open Go.RowKit Go.Proofs.YtiikfhdmclmjmaaDoorW.PrintWords Go.Proofs.YtiikfhdmclmjmaaDoor.P
set_option linter.unusedVariables false
set_option linter.unusedSimpArgs false
theorem lm_small (z : Int) (h : z ≠ 0) (h2 : z.natAbs < 4294967296) : lm z = [(z.natAbs : Int)] := by
  rw [lm, dgs_pos BB2 (by omega), Nat.div_eq_of_lt h2, dgs_zero, Nat.mod_eq_of_lt h2]
theorem kn_div : integer_DivMod.f 100 true [7] false [2] = some (true, [4], false, [1], 0) := by kernel_rfl
theorem kn_pow : integer_Power.f 100 true [10] 3 = some (true, [1000], 0) := by kernel_rfl
theorem kn_gcd : integer_Gcd.f 100 true [12] false [18] = some (false, [6]) := by kernel_rfl
theorem kn_bits : integer_Int_Bits.f false [256] = some 9 := by kernel_rfl
theorem small_text (z : Int) (h : z ≠ 0) (h2 : z.natAbs < 4294967296) : Ev (fun k => integer_Int_Text.f k (decide (z < 0)) [(z.natAbs : Int)]) (T z) := by
  have h10 : (Lib.decDigits z.natAbs).length ≤ 10 := by
    rw [dec_dgs _ (by omega)]
    simpa using dgs_len TEN2 10 z.natAbs (by omega)
  have := text_ev z (by rw [lm_small z h h2]; simp) (by omega)
  rwa [lm_small z h h2] at this
theorem small_from (z : Int) (h : z ≠ 0) (h2 : z.natAbs < 4294967296) : Ev (fun k => integer_From.f k z) (decide (z < 0), [(z.natAbs : Int)]) := by
  have := from_ev z (by omega) (by omega)
  rwa [lm_small z h h2] at this
theorem small_t (z : Int) (b : Bool) (l : List Int) (h : z ≠ 0) (h2 : z.natAbs < 4294967296) (hb : decide (z < 0) = b) (hl : [(z.natAbs : Int)] = l) : Ev (fun k => integer_Int_Text.f k b l) (T z) := hb ▸ hl ▸ small_text z h h2
theorem small_f (z : Int) (b : Bool) (l : List Int) (h : z ≠ 0) (h2 : z.natAbs < 4294967296) (hb : decide (z < 0) = b) (hl : [(z.natAbs : Int)] = l) : Ev (fun k => integer_From.f k z) (b, l) := hb ▸ hl ▸ small_from z h h2
theorem known_ev : Ev (fun k => dowellaw01_known.f k) true := by
  unfold dowellaw01_known.f
  refine Ev.bind (small_f (-7) true [7] (by decide) (by decide) (by decide) rfl) (Ev.bind (small_f 2 false [2] (by decide) (by decide) (by decide) rfl) ?_)
  refine Ev.bind (a := (true, [4], false, [1], 0)) (Ev.of (integer_DivMod.mono _ _ _ _) kn_div) ?_
  refine Ev.bind (small_f (-10) true [10] (by decide) (by decide) (by decide) rfl) ?_
  refine Ev.bind (a := (true, [1000], 0)) (Ev.of (integer_Power.mono _ _ _) kn_pow) ?_
  refine Ev.bind (small_t (-4) true [4] (by decide) (by decide) (by decide) rfl) ?_
  refine Ev.pos ?_ ?_
  · rw [ByteArray.toList_eq]
    show Lib.itoa (-4) = _
    unfold Lib.itoa
    rw [if_pos (by decide), show (-4 : Int).natAbs = 4 from rfl, dec_small (by decide)]
    rfl
  refine Ev.bind (small_t 1 false [1] (by decide) (by decide) (by decide) rfl) ?_
  refine Ev.pos ?_ ?_
  · rw [ByteArray.toList_eq]
    show Lib.itoa ((1 : Nat) : Int) = _
    rw [itoa_nat, dec_small (by decide)]
    rfl
  refine Ev.pos rfl ?_
  refine Ev.bind (small_t (-1000) true [1000] (by decide) (by decide) (by decide) rfl) ?_
  refine Ev.pos ?_ ?_
  · rw [ByteArray.toList_eq]
    show Lib.itoa (-1000) = _
    unfold Lib.itoa
    rw [if_pos (by decide), show (-1000 : Int).natAbs = 1000 from rfl, dec_big (by decide), dec_big (by decide), dec_big (by decide), dec_small (by decide)]
    rfl
  refine Ev.pos rfl ?_
  refine Ev.bind (small_f (-12) true [12] (by decide) (by decide) (by decide) rfl) (Ev.bind (small_f 18 false [18] (by decide) (by decide) (by decide) rfl) ?_)
  refine Ev.bind (a := (false, [6])) (Ev.of (integer_Gcd.mono _ _ _ _) kn_gcd) ?_
  refine Ev.bind (small_t 6 false [6] (by decide) (by decide) (by decide) rfl) ?_
  refine Ev.pos ?_ ?_
  · rw [ByteArray.toList_eq]
    show Lib.itoa ((6 : Nat) : Int) = _
    rw [itoa_nat, dec_small (by decide)]
    rfl
  refine Ev.bind (small_f 256 false [256] (by decide) (by decide) (by decide) rfl) ?_
  exact Ev.bind0 (a := 9) kn_bits (Ev.some_ rfl)
end Go.Proofs.YtiikfhdmclmjmaaDoor.Pure
namespace Go.Proofs.YtiikfhdmclmjmaaDoor.Pure
open Go.RowKit Go.Proofs.YtiikfhdmclmjmaaDoorW.PrintWords Go.Proofs.YtiikfhdmclmjmaaDoor.P
set_option linter.unusedVariables false
set_option linter.unusedSimpArgs false
def Sm (k : Nat) (z : Int) : Prop := z.natAbs < 10 ^ k
theorem p10 (k : Nat) : 1 ≤ 10 ^ k := Nat.one_le_pow _ _ (by decide)
theorem Sm.lm {k : Nat} {z : Int} (h : Sm k z) : (lm z).length ≤ k := ten_len h
theorem dec_len_eq {n : Nat} (h : 0 < n) : (Lib.decDigits n).length = (dgs 10 n).length := by rw [dec_dgs n h]; simp
theorem Sm.dec {k : Nat} {z : Int} (h : Sm (k + 1) z) : (Lib.decDigits z.natAbs).length ≤ k + 1 := (pd_pad k z.natAbs h).1
theorem Sm.mono {j k : Nat} {z : Int} (h : Sm j z) (hk : j ≤ k) : Sm k z := Nat.lt_of_lt_of_le h (Nat.pow_le_pow_right (by decide) hk)
theorem Sm.add {k : Nat} {x y : Int} (h : Sm k x) (g : Sm k y) : Sm (k + 1) (x + y) := by
  unfold Sm at *
  rw [Nat.pow_succ]
  have := Int.natAbs_add_le x y
  omega
theorem Sm.neg {k : Nat} {x : Int} (h : Sm k x) : Sm k (-x) := by unfold Sm at *; rw [Int.natAbs_neg]; exact h
theorem Sm.mul {j k : Nat} {x y : Int} (h : Sm j x) (g : Sm k y) : Sm (j + k) (x * y) := by
  unfold Sm at *
  rw [Int.natAbs_mul, Nat.pow_add]
  exact Nat.mul_lt_mul'' h g
theorem T_size (z : Int) : (T z).size = (Lib.itoa z).length := bsize _
theorem sm_of {z : Int} {k : Nat} (h : (T z).size ≤ k) : Sm k z := by
  rw [T_size, itoa_len] at h
  unfold Sm
  rcases Nat.eq_zero_or_pos z.natAbs with h0 | h0
  · have := p10 k; omega
  · have h1 := dgs_lt_pow TEN2 z.natAbs
    rw [← dec_len_eq h0] at h1
    exact Nat.lt_of_lt_of_le h1 (Nat.pow_le_pow_right (by decide) (by omega))
theorem Sm.itoa {k : Nat} {z : Int} (h : Sm (k + 1) z) : (Lib.itoa z).length ≤ k + 2 := by
  rw [itoa_len]
  have := h.dec
  split <;> omega
theorem sgn_ev (z : Int) : integer_Int_Sign.f (decide (z < 0)) (lm z) = some z.sign := by rw [sign_eq, sign_sign]
theorem read_sm (s : ByteArray) (h : s.size ≤ 120 ∧ chk s.data.toList = 0) : ∃ z : Int, s = T z ∧ Sm 120 z ∧ Ev (fun k => dowellaw01_read.f k s) (decide (z < 0), lm z, true) := by
  obtain ⟨z, h1, h2⟩ := read_ev s h.1 h.2
  exact ⟨z, h1, sm_of (by rw [← h1]; exact h.1), h2⟩
end Go.Proofs.YtiikfhdmclmjmaaDoor.Pure
namespace Go.Proofs.YtiikfhdmclmjmaaDoor.Pure
open Go.RowKit Go.Proofs.YtiikfhdmclmjmaaDoorW.PrintWords Go.Proofs.YtiikfhdmclmjmaaDoor.P
set_option linter.unusedVariables false
set_option linter.unusedSimpArgs false
theorem sign_pos {x : Int} : 0 < x.sign ↔ 0 < x := by
  rcases Int.lt_trichotomy x 0 with h | h | h
  · rw [Int.sign_eq_neg_one_of_neg h]; omega
  · rw [h]; decide
  · rw [Int.sign_eq_one_of_pos h]; omega
theorem sign_le {x : Int} : x.sign ≤ 0 ↔ x ≤ 0 := by
  have := @sign_pos x
  omega
theorem sign_mul_pos {x c : Int} (h : 0 < c) : (x * c).sign = x.sign := by rw [Int.sign_mul, Int.sign_eq_one_of_pos h, Int.mul_one]
theorem IntegerOrder : dowellaw01_IntegerOrder.Pure := by
  intro s t u hs ht hu
  refine Ev.rounds (g := fun k => dowellaw01_IntegerOrder.f k s t u) ?_
  unfold dowellaw01_IntegerOrder.f
  have kn : Ev (fun k => dowellaw01_IntegerOrder.j0 k s t u true) true := Ev.step (fun k => dowellaw01_IntegerOrder.j0.eq_2 ..) (Ev.pos rfl (Ev.bind known_ev (Ev.some_ rfl)))
  refine Ev.bind known_ev (Ev.pos rfl (Ev.bind (right_ev s) ?_))
  by_cases h1 : ¬ (s.size ≤ 120 ∧ chk s.data.toList = 0)
  · exact Ev.neg (by rw [decide_eq_true_eq]; exact h1) kn
  replace h1 := Decidable.not_not.1 h1
  refine Ev.pos (decide_eq_true h1) (Ev.bind (right_ev t) ?_)
  by_cases h2 : ¬ (t.size ≤ 120 ∧ chk t.data.toList = 0)
  · exact Ev.neg (by rw [decide_eq_true_eq]; exact h2) kn
  replace h2 := Decidable.not_not.1 h2
  refine Ev.pos (decide_eq_true h2) (Ev.bind (right_ev u) ?_)
  by_cases h3 : ¬ (u.size ≤ 120 ∧ chk u.data.toList = 0)
  · rw [decide_eq_false h3]; exact kn
  replace h3 := Decidable.not_not.1 h3
  rw [decide_eq_true h3]
  obtain ⟨a, e1, sa, ra⟩ := read_sm s h1
  obtain ⟨b, e2, sb, rb⟩ := read_sm t h2
  obtain ⟨c, e3, sc, rc⟩ := read_sm u h3
  have la := sa.lm
  have lb := sb.lm
  have lc := sc.lm
  have fin : Ev (fun k => dowellaw01_IntegerOrder.j2 k (a - b).sign false (decide (a < 0)) (lm a) (decide (b < 0)) (lm b) (decide (c < 0)) (lm c)) true := by
    refine Ev.step (fun k => dowellaw01_IntegerOrder.j2.eq_2 ..) (Ev.neg (by simp) ?_)
    by_cases hn : (a - b).sign > 0
    · exact Ev.pos hn (Ev.some_ rfl)
    · refine Ev.neg hn (Ev.bind (compare_ev b c (by omega) (by omega)) ?_)
      by_cases hm : (b - c).sign > 0
      · exact Ev.pos hm (Ev.some_ rfl)
      · refine Ev.neg hm (Ev.bind (compare_ev a c (by omega) (by omega)) (Ev.some_ (decide_eq_true ?_)))
        have q1 := sign_le.1 (Int.not_lt.1 hn)
        have q2 := sign_le.1 (Int.not_lt.1 hm)
        exact sign_le.2 (by omega)
  refine Ev.step (fun k => dowellaw01_IntegerOrder.j0.eq_2 ..) (Ev.neg (by simp) (Ev.bind ra (Ev.bind rb (Ev.bind rc ?_))))
  refine Ev.bind (compare_ev a b (by omega) (by omega)) (Ev.bind (sub_ev a b (by omega) (by omega)) (Ev.bind0 (sgn_ev (a - b)) (Ev.pos rfl ?_)))
  have lac := (sa.add sc).lm
  have lbc := (sb.add sc).lm
  refine Ev.bind (add_ev a c (by omega) (by omega)) (Ev.bind (add_ev b c (by omega) (by omega)) (Ev.bind (compare_ev (a + c) (b + c) (by omega) (by omega)) ?_))
  rw [show a + c - (b + c) = a - b by omega, bne_self_eq_false]
  refine Ev.step (fun k => dowellaw01_IntegerOrder.j1.eq_2 ..) (Ev.neg (by simp) (Ev.bind0 (sgn_ev c) ?_))
  by_cases hc : c.sign > 0
  · have mac := (sa.mul sc).lm
    have mbc := (sb.mul sc).lm
    refine Ev.pos hc (Ev.bind (mul_ev a c (by omega)) (Ev.bind (mul_ev b c (by omega)) (Ev.bind (compare_ev (a * c) (b * c) (by omega) (by omega)) ?_)))
    rw [← Int.sub_mul, sign_mul_pos (sign_pos.1 hc), bne_self_eq_false]
    exact fin
  · exact Ev.neg hc fin
end Go.Proofs.YtiikfhdmclmjmaaDoor.Pure
namespace Go.Proofs.YtiikfhdmclmjmaaDoor
namespace LawIntegerOrder
open Go Go.ChangeShapes Go.WideShapes Go.ChangeAt Go.RowKit
open Go.ChangeMaps (open_string shut_string)
set_option linter.unusedVariables false
theorem own : ownKnob Tryd.prog.godebug = none := by kernel_rfl
theorem door_met (os : Os) (args : Array Value) : laidMetH Tryd.prog Rows.integerOrderRow.laid ((World.doorLaid Tryd.prog 62 os).forCall (fun _ _ => 0) ⟨#[], args, []⟩).memory :=
  laidMetH_of_parts3 (fuel := 8) (laidMet_of_run' 8 (by kernel_rfl) (by kernel_rfl)) (by kernel_rfl) (by kernel_rfl)
theorem of_laid {W : World} (h : laidMetH Tryd.prog Rows.integerOrderRow.laid W) : P.G W := by
  rw [MakeChecks.laidMetH_plain _ _ _ (by kernel_rfl)] at h
  replace h := laidMet.tail h
  replace h := laidMet.tail h
  exact Lib.tabIs_of_head (g := 2) (t := 126) (e := 58) (n := 20) (by kernel_rfl) (by kernel_rfl) (by kernel_rfl) (by kernel_rfl) (by kernel_rfl) (by kernel_rfl) h
set_option maxRecDepth 100000 in
theorem lifted (os : Os) (started : os.Started) (H : Type) (enc : TypeId × Value → H) :
    ReturnsInHanded {} Tryd.checked os 11 .any (fun w args => (Rows.integerOrderSpec.pre enc Tryd.prog Tryd.f11 [] false w args ∧ laidMetH Tryd.prog Rows.integerOrderRow.laid w) ∧ sizedMet enc Tryd.prog Tryd.f11 (OpenSpec.ofChange Rows.integerOrderSpec) false w args)
      (Rows.integerOrderSpec.post enc Tryd.prog Tryd.f11 false true false false) := by
  refine returnsInHanded_of_change_and (C := Tryd.checked) (X := fun w _ => laidMetH Tryd.prog Rows.integerOrderRow.laid w) (fun _ _ _ hh h => h.of_heap hh) own started (by kernel_rfl) Tryd.func11
    (ChangeSpec.witness_shaped (enc := enc) (C := Tryd.checked) (os := os) (X := fun w _ => laidMetH Tryd.prog Rows.integerOrderRow.laid w) false (World.doorLaid Tryd.prog 62 os) #[.string ByteArray.empty, .string ByteArray.empty, .string ByteArray.empty] 8 rfl (World.shaped_of_RefB (by kernel_rfl) (by kernel_rfl)) (by kernel_rfl) (by kernel_rfl) (by kernel_rfl) (door_met os _)) ?_
  intro W base args ds gs before hval0 hW _ hsz0 hL _
  have hsz : (DataW.weightsEach Tryd.prog (Tryd.f11.params.toList ++ Rows.integerOrderSpec.plain.varTypes Tryd.prog) (ds ++ gs)).all (· ≤ reachBytes) = true := hsz0
  have hval : ∀ (j : Nat) t v, Tryd.f11.params[j]? = some t → args[j]? = some v → Value.okWide Tryd.prog W .any base t v := hval0
  have hW' := hW
  obtain ⟨p, q, hA0, hV, rfl, hfz, hnd⟩ := hW
  have hA : DataW.TrodAll enc Tryd.prog W 0 (fun _ => true) true Tryd.f11.params.toList args.toList ds p := hA0
  rw [Tryd.params11] at hA hval hsz
  obtain ⟨v0, vs0, d0, ds0, p0, q0, hargs, rfl, rfl, h0, r0⟩ := trodAll_cons hA
  obtain ⟨v1, vs1, d1, ds1, p1, q1, rfl, rfl, rfl, h1, r1⟩ := trodAll_cons r0
  obtain ⟨v2, vs2, d2, ds2, p2, q2, rfl, rfl, rfl, h2, r2⟩ := trodAll_cons r1
  obtain ⟨rfl, rfl, rfl⟩ := trodAll_nil r2
  obtain rfl : args = #[v0, v1, v2] := by cases args; simp_all
  obtain ⟨rfl, rfl⟩ := trodVars_none hV
  obtain ⟨a0, rfl, rfl, rfl, y0⟩ := open_string Tryd.underlying9 (hval 0 9 v0 rfl rfl) h0
  have w0 : a0.size ≤ 140737488351232 := by
    have z := sized_string hsz (j := 0) (t := 9) rfl rfl
    rw [Array.length_toList] at z
    exact z
  obtain ⟨a1, rfl, rfl, rfl, y1⟩ := open_string Tryd.underlying9 (hval 1 9 v1 rfl rfl) h1
  have w1 : a1.size ≤ 140737488351232 := by
    have z := sized_string hsz (j := 1) (t := 9) rfl rfl
    rw [Array.length_toList] at z
    exact z
  obtain ⟨a2, rfl, rfl, rfl, y2⟩ := open_string Tryd.underlying9 (hval 2 9 v2 rfl rfl) h2
  have w2 : a2.size ≤ 140737488351232 := by
    have z := sized_string hsz (j := 2) (t := 9) rfl rfl
    rw [Array.length_toList] at z
    exact z
  clear hA0 hval0 hsz0 hsz
  refine (P.dowellaw01_IntegerOrder.walk Pure.IntegerOrder a0 a1 a2 W (of_laid hL) w0 w1 w2).mono fun e W' ⟨he, bel⟩ => ?_
  subst he
  exact ⟨_, rfl, _, _, _, [], _, [], hW', trodAll_mk1 (shut_bool Tryd.underlying4 _), (trodAll_cons_mk (shut_string Tryd.underlying9 y0) (trodAll_cons_mk (shut_string Tryd.underlying9 y1) (trodAll_cons_mk (shut_string Tryd.underlying9 y2) trodAll_mk0))), rfl, bel.frame _, fun h => by cases h⟩
theorem row_holds : Rows.IntegerOrderSaid :=
  OpenClaim.holds_of_wide 11 Tryd.f11 rfl rfl rfl rfl rfl rfl rfl ⟨rfl, rfl, rfl, rfl, rfl⟩ rfl rfl rfl rfl rfl (by kernel_rfl) Tryd.func11 (by kernel_rfl)
    (of_decide_eq_true (by kernel_rfl)) (by unfold Func.isWrapper; first | (rw [if_pos (by decide +kernel)]; kernel_rfl) | (rw [if_neg (by decide +kernel)]; exact ⟨rfl, rfl⟩))
    (fun os started H enc _ => lifted os started H enc)
end LawIntegerOrder
theorem integerOrder_card_holds : Rows.IntegerOrderCardSaid :=
  Claim7.holds_tied_plain_at .later [] [.data, .data, .data, .sentinel, .sentinel] true (true, "b8e58543a529613f751f62c69502411f664b93e4867ff6487a7340db5e4f00b4") true
    LawIntegerOrder.row_holds (fun _ h => by cases h) (by kernel_rfl) (fun _ h => by cases h) integerOrder_row_tie rfl ⟨rfl, rfl⟩ (by kernel_rfl) rfl
    (fun f fn hf hfn => by
      obtain rfl : f = 11 := Option.some.inj ((show Tryd.prog.funcNamed "dowel/dowellaw01.IntegerOrder" = some 11 by kernel_rfl).symm.trans hf) |>.symm
      obtain rfl : fn = Tryd.f11 := (Option.some.inj (Tryd.func11.symm.trans hfn)).symm
      exact ⟨by kernel_rfl, fun j t ht => by
        rw [Tryd.params11] at ht
        have hm : t ∈ [9, 9, 9] := by simpa using Array.mem_of_getElem? ht
        have hall : ([9, 9, 9].all fun u => !Tryd.prog.wantsStandIn u) = true := by kernel_rfl
        exact (show Tryd.prog.wantsStandIn t = false by simpa using List.all_eq_true.1 hall t hm)⟩)
    (by kernel_rfl)
end Go.Proofs.YtiikfhdmclmjmaaDoor
