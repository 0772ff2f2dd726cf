/- Part 6 of the proof of IntegerFrom: what the program's functions compute, told as plain functions, and what these answer. Conditions: none beside the statement's own. Gathered by the session's program merge.py out of its own and the printed texts; no declaration that the proof does not name is left in. -/
import Derived.Test.YtiikfhdmclmjmaaDoorIFrom5
import Derived.Lib.ItoaNum
import Derived.Laws.BitsLemmas
import Derived.Lib.Repeat
import Derived.Lib.Join
import Derived.Laws.BytesArg
import Derived.KernelRfl
import Derived.Laws.Bits64b
import Derived.Test.YtiikfhdmclmjmaaDoorRows
import Derived.Test.YtiikfhdmclmjmaaDoorTie
import Derived.Test.YtiikfhdmclmjmaaDoorCards
import Derived.WalkKit
import Derived.ProofKit
import Derived.LaidMore
import Derived.LaidLaws
import Derived.OpenShut
import Derived.ShutString
import Derived.ChangeOld
import Derived.Below
import Derived.SizedLaws
import Derived.Stop.Joined
import Derived.Stop.LaidErr
import Derived.Lib.LaidTab
import Derived.MakeChecks
import Derived.Handed
import Derived.SevenTiedAt
namespace Go.Proofs.YtiikfhdmclmjmaaDoor.Pure
open Go.RowKit Go.Proofs.YtiikfhdmclmjmaaDoorW.PrintWords
set_option linter.unusedVariables false
set_option linter.unusedSimpArgs false
theorem Ev.pos {α : Type} {c : Prop} [Decidable c] {A B : Nat → Option α} {r : α} (h : c) (k : Ev A r) : Ev (fun n => if c then A n else B n) r := by
  obtain ⟨K, k⟩ := k
  exact ⟨K, fun n hn => by show (if c then A n else B n) = some r; rw [if_pos h]; exact k n hn⟩
theorem Ev.neg {α : Type} {c : Prop} [Decidable c] {A B : Nat → Option α} {r : α} (h : ¬ c) (k : Ev B r) : Ev (fun n => if c then A n else B n) r := by
  obtain ⟨K, k⟩ := k
  exact ⟨K, fun n hn => by show (if c then A n else B n) = some r; rw [if_neg h]; exact k n hn⟩
theorem Ev.bind0 {α β : Type} {o : Option α} {f : Nat → α → Option β} {a : α} {r : β} (h : o = some a) (k : Ev (fun n => f n a) r) : Ev (fun n => o.bind (f n)) r := by
  subst h
  exact k
theorem Ev.some_ {α : Type} {a r : α} (h : a = r) : Ev (fun _ => some a) r := h ▸ Ev.now a
theorem w64 (z : Int) (h0 : -9223372036854775808 ≤ z) (h1 : z ≤ 9223372036854775807) : wrap64 z = z := by unfold wrap64; omega
theorem wsucc {j n : Nat} (h : j < n) (hn : n ≤ 9223372036854775807) : wrap64 ((j : Int) + 1) = ((j + 1 : Nat) : Int) := by rw [w64 _ (by omega) (by omega)]; omega
theorem u64 (z : Int) : IntKind.u64.wrap z = z % 18446744073709551616 := rfl
theorem u64s (z : Int) (h0 : 0 ≤ z) (h1 : z < 18446744073709551616) : IntKind.u64.wrap z = z := by rw [u64]; omega
def val (B : Int) : List Int → Int
  | [] => 0
  | d :: l => d + B * val B l
def Digs (B : Int) (l : List Int) : Prop := ∀ d ∈ l, 0 ≤ d ∧ d < B
def Norm (l : List Int) : Prop := ∀ d, l.getLast? = some d → d ≠ 0
theorem Digs.cons {B d : Int} {l : List Int} (h : Digs B (d :: l)) : (0 ≤ d ∧ d < B) ∧ Digs B l := ⟨h d (by simp), fun x hx => h x (by simp [hx])⟩
theorem Digs.mk {B d : Int} {l : List Int} (h0 : 0 ≤ d) (h1 : d < B) (h : Digs B l) : Digs B (d :: l) := by
  intro x hx
  rcases List.mem_cons.1 hx with rfl | hx
  · exact ⟨h0, h1⟩
  · exact h x hx
theorem Digs.nil (B : Int) : Digs B [] := fun d h => by cases h
theorem Digs.app {B : Int} {l m : List Int} (h : Digs B l) (k : Digs B m) : Digs B (l ++ m) := by
  intro x hx
  rcases List.mem_append.1 hx with hx | hx
  · exact h x hx
  · exact k x hx
theorem Digs.left {B : Int} {l m : List Int} (h : Digs B (l ++ m)) : Digs B l := fun x hx => h x (List.mem_append_left _ hx)
theorem Digs.take {B : Int} {l : List Int} (h : Digs B l) (n : Nat) : Digs B (l.take n) := fun x hx => h x (List.mem_of_mem_take hx)
theorem Digs.drop {B : Int} {l : List Int} (h : Digs B l) (n : Nat) : Digs B (l.drop n) := fun x hx => h x (List.mem_of_mem_drop hx)
theorem val_nonneg {B : Int} (hB : 0 < B) : ∀ {l : List Int}, Digs B l → 0 ≤ val B l
  | [], _ => Int.le_refl _
  | d :: l, h => by
    have := val_nonneg hB h.cons.2
    have h1 := h.cons.1.1
    have := Int.mul_nonneg (Int.le_of_lt hB) this
    simp only [val]
    omega
theorem val_app (B : Int) : ∀ (l m : List Int), val B (l ++ m) = val B l + B ^ l.length * val B m
  | [], m => by simp [val]
  | d :: l, m => by
    simp only [List.cons_append, val, List.length_cons]
    rw [val_app B l m, Int.pow_succ, Int.mul_add, Int.mul_comm (B ^ l.length) B, Int.mul_assoc]
    omega
theorem val_lt {B : Int} (hB : 0 < B) : ∀ {l : List Int}, Digs B l → val B l < B ^ l.length
  | [], _ => by simp [val]
  | d :: l, h => by
    have h1 := val_lt hB h.cons.2
    have h2 := h.cons.1.2
    simp only [val, List.length_cons]
    rw [Int.pow_succ, Int.mul_comm (B ^ l.length) B]
    have : B * (val B l + 1) ≤ B * B ^ l.length := Int.mul_le_mul_of_nonneg_left (by omega) (Int.le_of_lt hB)
    rw [Int.mul_add, Int.mul_one] at this
    omega
theorem getLast?_tail {d : Int} {l : List Int} (h : l ≠ []) : (d :: l).getLast? = l.getLast? := by
  cases l with
  | nil => exact absurd rfl h
  | cons a l => rfl
theorem Norm.tail {d : Int} {l : List Int} (h : Norm (d :: l)) : Norm l := by
  intro x hx
  cases l with
  | nil => simp at hx
  | cons a l => exact h x (by rw [getLast?_tail (by simp)]; exact hx)
theorem Norm.nil : Norm [] := fun d h => by simp at h
theorem norm_pos {B : Int} (hB : 0 < B) : ∀ {l : List Int}, Digs B l → Norm l → l ≠ [] → 0 < val B l
  | [], _, _, h => absurd rfl h
  | [d], hd, hn, _ => by
    have h1 := hd.cons.1.1
    have h2 := hn d rfl
    simp only [val]
    omega
  | d :: e :: l, hd, hn, _ => by
    have := norm_pos hB hd.cons.2 hn.tail (by simp)
    have h1 := hd.cons.1.1
    have h2 := Int.mul_pos hB this
    simp only [val] at *
    omega
theorem val_uniq {B : Int} (hB : 0 < B) : ∀ {l m : List Int}, Digs B l → Digs B m → Norm l → Norm m → val B l = val B m → l = m
  | [], [], _, _, _, _, _ => rfl
  | [], b :: m, _, hm, _, nm, h => by
    have := norm_pos hB hm nm (by simp)
    rw [← h] at this
    exact absurd this (by simp [val])
  | a :: l, [], hl, _, nl, _, h => by
    have := norm_pos hB hl nl (by simp)
    rw [h] at this
    exact absurd this (by simp [val])
  | a :: l, b :: m, hl, hm, nl, nm, h => by
    simp only [val] at h
    have ha := hl.cons.1
    have hb := hm.cons.1
    have e1 : a = b := by
      have h1 : (a + B * val B l) % B = a := by rw [Int.add_mul_emod_self_left]; exact Int.emod_eq_of_lt ha.1 ha.2
      have h2 : (b + B * val B m) % B = b := by rw [Int.add_mul_emod_self_left]; exact Int.emod_eq_of_lt hb.1 hb.2
      rw [← h1, ← h2, h]
    subst e1
    have e2 : val B l = val B m := by
      have : B * val B l = B * val B m := by omega
      exact Int.eq_of_mul_eq_mul_left (by omega) this
    rw [val_uniq hB hl.cons.2 hm.cons.2 nl.tail nm.tail e2]
def dgs (B : Nat) (n : Nat) : List Int := if h : n = 0 ∨ B < 2 then [] else ((n % B : Nat) : Int) :: dgs B (n / B)
termination_by n
decreasing_by exact Nat.div_lt_self (by omega) (by omega)
theorem dgs_zero (B : Nat) : dgs B 0 = [] := by rw [dgs]; simp
theorem dgs_pos {B n : Nat} (hB : 2 ≤ B) (hn : 0 < n) : dgs B n = ((n % B : Nat) : Int) :: dgs B (n / B) := by rw [dgs, dif_neg (by omega)]
theorem dgs_all {B : Nat} (hB : 2 ≤ B) (n : Nat) : Digs B (dgs B n) ∧ Norm (dgs B n) ∧ val B (dgs B n) = n := by
  induction n using Nat.strongRecOn with
  | _ n ih =>
    rcases Nat.eq_zero_or_pos n with rfl | h
    · rw [dgs_zero]
      exact ⟨Digs.nil _, Norm.nil, rfl⟩
    · obtain ⟨h1, h2, h3⟩ := ih (n / B) (Nat.div_lt_self h (by omega))
      rw [dgs_pos hB h]
      have hm : n % B < B := Nat.mod_lt _ (by omega)
      refine ⟨Digs.mk (by omega) (by omega) h1, ?_, ?_⟩
      · intro d hd
        by_cases hz : n / B = 0
        · rw [hz, dgs_zero] at hd
          simp at hd
          have := Nat.div_add_mod n B
          rw [hz] at this
          omega
        · have hne : dgs B (n / B) ≠ [] := by rw [dgs_pos hB (Nat.pos_of_ne_zero hz)]; simp
          rw [getLast?_tail hne] at hd
          exact h2 d hd
      · simp only [val]
        rw [h3]
        have := Nat.mod_add_div n B
        exact_mod_cast this
theorem dgs_digs {B : Nat} (hB : 2 ≤ B) (n : Nat) : Digs B (dgs B n) := (dgs_all hB n).1
theorem dgs_norm {B : Nat} (hB : 2 ≤ B) (n : Nat) : Norm (dgs B n) := (dgs_all hB n).2.1
theorem dgs_val {B : Nat} (hB : 2 ≤ B) (n : Nat) : val B (dgs B n) = n := (dgs_all hB n).2.2
theorem dgs_of {B : Nat} (hB : 2 ≤ B) {l : List Int} {n : Nat} (h1 : Digs B l) (h2 : Norm l) (h3 : val B l = n) : l = dgs B n :=
  val_uniq (by omega) h1 (dgs_digs hB n) h2 (dgs_norm hB n) (by rw [h3, dgs_val hB])
theorem dgs_nil {B : Nat} (hB : 2 ≤ B) {n : Nat} : dgs B n = [] ↔ n = 0 := by
  constructor
  · intro h
    rcases Nat.eq_zero_or_pos n with h0 | h0
    · exact h0
    · rw [dgs_pos hB h0] at h
      cases h
  · rintro rfl
    exact dgs_zero B
def trimL (l : List Int) : List Int := (l.reverse.dropWhile (· == 0)).reverse
theorem trimL_snoc0 (l : List Int) : trimL (l ++ [0]) = trimL l := by simp [trimL]
theorem trimL_snoc {d : Int} (l : List Int) (h : d ≠ 0) : trimL (l ++ [d]) = l ++ [d] := by simp [trimL, h]
theorem trimL_ind {P : List Int → List Int → Prop} (h0 : P [] []) (h1 : ∀ l r, P l r → P (l ++ [0]) r) (h2 : ∀ l d, d ≠ 0 → P (l ++ [d]) (l ++ [d])) (l : List Int) : P l (trimL l) := by
  induction hn : l.length generalizing l with
  | zero =>
    obtain rfl := List.length_eq_zero_iff.1 hn
    exact h0
  | succ n ih =>
    obtain ⟨m, d, rfl⟩ : ∃ m d, l = m ++ [d] := ⟨l.dropLast, l.getLast (by intro h; simp [h] at hn), (List.dropLast_concat_getLast _).symm⟩
    by_cases hd : d = 0
    · subst hd
      rw [trimL_snoc0]
      exact h1 m _ (ih m (by simp at hn; omega))
    · rw [trimL_snoc m hd]
      exact h2 m d hd
theorem trimL_val (B : Int) (l : List Int) : val B (trimL l) = val B l :=
  trimL_ind (P := fun l r => val B r = val B l) rfl (fun l r h => by rw [h, val_app]; simp [val]) (fun _ _ _ => rfl) l
theorem trimL_digs {B : Int} {l : List Int} (h : Digs B l) : Digs B (trimL l) :=
  trimL_ind (P := fun l r => Digs B l → Digs B r) (fun h => h) (fun l r k h => k h.left) (fun _ _ _ h => h) l h
theorem trimL_norm (l : List Int) : Norm (trimL l) :=
  trimL_ind (P := fun _ r => Norm r) Norm.nil (fun _ _ h => h) (fun l d hd x hx => by simp at hx; omega) l
theorem trimL_len (l : List Int) : (trimL l).length ≤ l.length :=
  trimL_ind (P := fun l r => r.length ≤ l.length) (Nat.le_refl _) (fun l r h => by simp; omega) (fun _ _ _ => Nat.le_refl _) l
theorem trimL_of_norm {l : List Int} (h : Norm l) : trimL l = l := by
  rcases List.eq_nil_or_concat l with rfl | ⟨m, d, rfl⟩
  · rfl
  · rw [List.concat_eq_append] at *
    exact trimL_snoc m (h d (by simp))
theorem trimL_dgs {B : Nat} (hB : 2 ≤ B) {l : List Int} {n : Nat} (h1 : Digs B l) (h3 : val B l = n) : trimL l = dgs B n :=
  dgs_of hB (trimL_digs h1) (trimL_norm l) (by rw [trimL_val, h3])
theorem dgs_len {B : Nat} (hB : 2 ≤ B) : ∀ (m n : Nat), n < B ^ m → (dgs B n).length ≤ m
  | 0, n, h => by
    have : n = 0 := by simpa using h
    subst this
    simp [dgs_zero]
  | m + 1, n, h => by
    rcases Nat.eq_zero_or_pos n with rfl | hn
    · simp [dgs_zero]
    · rw [dgs_pos hB hn, List.length_cons]
      have : n / B < B ^ m := by
        rw [Nat.pow_succ, Nat.mul_comm] at h
        exact Nat.div_lt_of_lt_mul h
      have := dgs_len hB m (n / B) this
      omega
theorem rd_at {l : List Int} {i : Nat} (h : i < l.length) : rd l (i : Int) = l[i] := by
  unfold rd
  simp [List.getD_eq_getElem?_getD, h]
theorem rd_digs {B : Int} {l : List Int} (hl : Digs B l) {i : Nat} (h : i < l.length) : 0 ≤ rd l (i : Int) ∧ rd l (i : Int) < B := by
  rw [rd_at h]
  exact hl _ (List.getElem_mem h)
theorem drop_at {l : List Int} {i : Nat} (h : i < l.length) : l.drop i = rd l (i : Int) :: l.drop (i + 1) := by
  rw [rd_at h]
  exact List.drop_eq_getElem_cons h
theorem take_at {l : List Int} {i : Nat} (h : i < l.length) : l.take (i + 1) = l.take i ++ [rd l (i : Int)] := by
  rw [rd_at h, List.take_succ_eq_append_getElem h]
end Go.Proofs.YtiikfhdmclmjmaaDoor.Pure
namespace Go.Proofs.YtiikfhdmclmjmaaDoor.P
open Go.RowKit Go.Proofs.YtiikfhdmclmjmaaDoorW.PrintWords Go.Proofs.YtiikfhdmclmjmaaDoorW.PrintLast
set_option linter.unusedVariables false
set_option linter.unusedSimpArgs false
def integer_Abs.f (a0_0 : Bool) (l0_1 : List Int) : Option (Bool × List Int) := some (false, l0_1)
end Go.Proofs.YtiikfhdmclmjmaaDoor.P
namespace Go.Proofs.YtiikfhdmclmjmaaDoor.Pure
open Go.RowKit Go.Proofs.YtiikfhdmclmjmaaDoorW.PrintWords Go.Proofs.YtiikfhdmclmjmaaDoor.P
set_option linter.unusedVariables false
set_option linter.unusedSimpArgs false
abbrev BB : Nat := 4294967296
theorem BB2 : 2 ≤ BB := by decide
abbrev lm (z : Int) : List Int := dgs BB z.natAbs
theorem lm_digs (z : Int) : Digs 4294967296 (lm z) := dgs_digs BB2 _
theorem lm_norm (z : Int) : Norm (lm z) := dgs_norm BB2 _
theorem lm_val (z : Int) : val 4294967296 (lm z) = z.natAbs := dgs_val BB2 _
theorem lm_nil {z : Int} : lm z = [] ↔ z = 0 := by rw [lm, dgs_nil BB2]; omega
theorem lm_len0 {z : Int} : (lm z).length = 0 ↔ z = 0 := by rw [List.length_eq_zero_iff, lm_nil]
theorem trim_ev (l : List Int) (h : l.length ≤ 4611686018427387904) : Ev (fun k => integer_trim.f k l) (trimL l) := by
  show Ev (fun k => integer_trim.l0 k l) (trimL l)
  revert h
  refine trimL_ind (P := fun l r => l.length ≤ 4611686018427387904 → Ev (fun k => integer_trim.l0 k l) r) ?_ ?_ ?_ l
  · intro _
    exact Ev.step (fun k => integer_trim.l0.eq_2 ..) (Ev.neg (by simp) (Ev.now _))
  · intro l r ih h
    have hq : (l ++ [0]).length = l.length + 1 := by simp
    have e : wrap64 (((l ++ [0]).length : Int) - 1) = (l.length : Int) := by
      rw [w64 _ (by omega) (by omega)]
      omega
    refine Ev.step (fun k => integer_trim.l0.eq_2 ..) ?_
    rw [e]
    refine Ev.pos (by omega) (Ev.pos (by omega) (Ev.pos (by omega) (Ev.pos ?_ (Ev.pos (by omega) ?_))))
    · rw [rd_at (by simp)]; simp
    · have : (l ++ [0]).take ((l.length : Int) : Int).toNat = l := by simp
      rw [this]
      exact ih (by simp at h; omega)
  · intro l d hd h
    have hq : (l ++ [d]).length = l.length + 1 := by simp
    have e : wrap64 (((l ++ [d]).length : Int) - 1) = (l.length : Int) := by
      rw [w64 _ (by omega) (by omega)]
      omega
    refine Ev.step (fun k => integer_trim.l0.eq_2 ..) ?_
    rw [e]
    refine Ev.pos (by omega) (Ev.pos (by omega) (Ev.pos (by omega) (Ev.neg ?_ (Ev.now _))))
    rw [rd_at (by simp)]; simpa using hd
theorem signed_ev (neg : Bool) (l : List Int) (n : Nat) (hl : l.length ≤ 4611686018427387904) (hd : Digs 4294967296 l) (hv : val 4294967296 l = n) :
    Ev (fun k => integer_signed.f k neg l) (decide (neg = true ∧ n ≠ 0), dgs BB n) := by
  have ht : trimL l = dgs BB n := trimL_dgs BB2 hd hv
  refine Ev.bind (trim_ev l hl) ?_
  rw [ht]
  by_cases hn : neg = true
  · refine Ev.pos hn (Ev.some_ ?_)
    have : (0 < (dgs BB n).length) = (neg = true ∧ n ≠ 0) := by
      apply propext
      rw [Nat.pos_iff_ne_zero, Ne, List.length_eq_zero_iff, dgs_nil BB2]
      simp [hn]
    simp only [this]
  · refine Ev.neg hn (Ev.some_ ?_)
    simp [hn]
theorem signed_mk {neg : Bool} {n : Nat} {z : Int} (h : z = if neg = true then -(n : Int) else n) : ((decide (neg = true ∧ n ≠ 0), dgs BB n) : Bool × List Int) = (decide (z < 0), lm z) := by
  have h1 : z.natAbs = n := by split at h <;> omega
  have h2 : (neg = true ∧ n ≠ 0) = (z < 0) := by
    apply propext
    split at h
    · rename_i hn
      simp only [hn, true_and]
      omega
    · rename_i hn
      exact ⟨fun hh => absurd hh.1 hn, fun hh => by omega⟩
  rw [lm, h1]
  simp only [h2]
theorem signed_to (neg : Bool) (l : List Int) (n : Nat) (z : Int) (hl : l.length ≤ 4611686018427387904) (hd : Digs 4294967296 l) (hv : val 4294967296 l = n) (hz : z = if neg = true then -(n : Int) else n) :
    Ev (fun k => integer_signed.f k neg l) (decide (z < 0), lm z) := signed_mk hz ▸ signed_ev neg l n hl hd hv
theorem from_ev (z : Int) (h0 : -9223372036854775808 ≤ z) (h1 : z ≤ 9223372036854775807) : Ev (fun k => integer_From.f k z) (decide (z < 0), lm z) := by
  unfold integer_From.f
  by_cases hz : z < 0
  · refine Ev.pos hz ?_
    have e : IntKind.u64.wrap (-(IntKind.u64.wrap z)) = (z.natAbs : Int) := by simp only [u64]; omega
    rw [e]
    refine Ev.bind (signed_to true _ z.natAbs z (by simp) ?_ ?_ (by simp; omega)) (Ev.some_ (by simp [hz]))
    · exact Digs.mk (by omega) (by omega) (Digs.mk (by omega) (by omega) (Digs.nil _))
    · simp only [val]; omega
  · refine Ev.neg hz ?_
    have e : IntKind.u64.wrap z = (z.natAbs : Int) := by simp only [u64]; omega
    rw [e]
    refine Ev.bind (signed_to false _ z.natAbs z (by simp) ?_ ?_ (by simp; omega)) (Ev.some_ (by simp [hz]))
    · exact Digs.mk (by omega) (by omega) (Digs.mk (by omega) (by omega) (Digs.nil _))
    · simp only [val]; omega
theorem sign_eq (z : Int) : integer_Int_Sign.f (decide (z < 0)) (lm z) = some (if z = 0 then 0 else if z < 0 then -1 else 1) := by
  unfold integer_Int_Sign.f
  by_cases h : z = 0
  · rw [if_pos (by rw [lm_len0.2 h]; rfl), if_pos h]
  · rw [if_neg (by have := mt lm_len0.1 h; omega), if_neg h]
    by_cases h2 : z < 0 <;> simp [h2]
def ordL : List Int → List Int → Int
  | [], _ => 0
  | _, [] => 0
  | a :: l, b :: m => if ordL l m ≠ 0 then ordL l m else if a = b then 0 else if a < b then -1 else 1
theorem ordL_val {B : Int} (hB : 0 < B) : ∀ {l m : List Int}, l.length = m.length → Digs B l → Digs B m → ordL l m = (val B l - val B m).sign
  | [], [], _, _, _ => rfl
  | a :: l, b :: m, hlen, hl, hm => by
    have ih := ordL_val hB (l := l) (m := m) (by simpa using hlen) hl.cons.2 hm.cons.2
    have ha := hl.cons.1
    have hb := hm.cons.1
    simp only [ordL, val]
    rw [ih]
    rcases Int.lt_trichotomy (val B l) (val B m) with h | h | h
    · have h1 : B * (val B l + 1) ≤ B * val B m := Int.mul_le_mul_of_nonneg_left (by omega) (by omega)
      rw [Int.mul_add, Int.mul_one] at h1
      rw [Int.sign_eq_neg_one_of_neg (show val B l - val B m < 0 by omega), Int.sign_eq_neg_one_of_neg (show a + B * val B l - (b + B * val B m) < 0 by omega)]
      simp
    · rw [h, show val B m - val B m = 0 by omega]
      simp only [Int.sign_zero, ne_eq, not_true, if_false]
      rcases Int.lt_trichotomy a b with k | k | k
      · rw [if_neg (by omega), if_pos k, Int.sign_eq_neg_one_of_neg (by omega)]
      · rw [if_pos k, k, show b + B * val B m - (b + B * val B m) = 0 by omega]; rfl
      · rw [if_neg (by omega), if_neg (by omega), Int.sign_eq_one_of_pos (by omega)]
    · have h1 : B * (val B m + 1) ≤ B * val B l := Int.mul_le_mul_of_nonneg_left (by omega) (by omega)
      rw [Int.mul_add, Int.mul_one] at h1
      rw [Int.sign_eq_one_of_pos (show 0 < val B l - val B m by omega), Int.sign_eq_one_of_pos (show 0 < a + B * val B l - (b + B * val B m) by omega)]
      simp
theorem pow_mono {B : Int} (hB : 0 < B) {i j : Nat} (h : i ≤ j) : B ^ i ≤ B ^ j := by
  obtain ⟨d, rfl⟩ := Nat.exists_eq_add_of_le h
  clear h
  induction d with
  | zero => exact Int.le_refl _
  | succ d ih =>
    rw [← Nat.add_assoc, Int.pow_succ]
    have h1 : 0 < B ^ (i + d) := Int.pow_pos hB
    have := Int.mul_le_mul_of_nonneg_left (show 1 ≤ B by omega) (Int.le_of_lt h1)
    rw [Int.mul_one] at this
    omega
theorem norm_low {B : Int} (hB : 0 < B) : ∀ {l : List Int}, Digs B l → Norm l → l ≠ [] → B ^ (l.length - 1) ≤ val B l
  | [], _, _, h => absurd rfl h
  | [d], hd, hn, _ => by
    have := norm_pos hB hd hn (by simp)
    show B ^ 0 ≤ _
    rw [Int.pow_zero]
    omega
  | d :: e :: l, hd, hn, _ => by
    have ih := norm_low hB hd.cons.2 hn.tail (by simp)
    have h1 := hd.cons.1.1
    simp only [List.length_cons, Nat.add_sub_cancel] at ih ⊢
    rw [Int.pow_succ, Int.mul_comm]
    have := Int.mul_le_mul_of_nonneg_left ih (Int.le_of_lt hB)
    simp only [val] at this ⊢
    omega
theorem len_lt_val {B : Int} (hB : 1 < B) {l m : List Int} (hl : Digs B l) (hm : Digs B m) (nm : Norm m) (h : l.length < m.length) : val B l < val B m := by
  have h1 := val_lt (by omega : 0 < B) hl
  have h2 := norm_low (by omega : 0 < B) hm nm (by intro e; simp [e] at h)
  have h3 : B ^ l.length ≤ B ^ (m.length - 1) := pow_mono (by omega) (by omega)
  omega
theorem order_l0 (l m : List Int) (hlen : l.length = m.length) (hm : l.length ≤ 4611686018427387904) : ∀ i : Nat, i ≤ l.length → ordL (l.drop i) (m.drop i) = 0 → Ev (fun k => integer_order.l0 k l m ((i : Int) - 1)) (ordL l m)
  | 0, _, h => by
    refine Ev.step (fun k => integer_order.l0.eq_2 ..) (Ev.neg (by omega) (Ev.some_ ?_))
    simpa using h.symm
  | i + 1, hi, h => by
    have e : (((i + 1 : Nat) : Int) - 1) = (i : Int) := by omega
    rw [e]
    have hs : ordL (l.drop i) (m.drop i) = if rd l (i : Int) = rd m (i : Int) then 0 else if rd l (i : Int) < rd m (i : Int) then -1 else 1 := by
      rw [drop_at (l := l) (by omega), drop_at (l := m) (by omega)]
      simp [ordL, h]
    refine Ev.step (fun k => integer_order.l0.eq_2 ..) ?_
    refine Ev.pos (by omega) (Ev.pos (by omega) (Ev.pos (by omega) (Ev.pos (by omega) ?_)))
    rw [w64 ((i : Int) - 1) (by omega) (by omega)]
    by_cases hq : rd l (i : Int) = rd m (i : Int)
    · exact Ev.pos hq (order_l0 l m hlen hm i (by omega) (by rw [hs, if_pos hq]))
    · refine Ev.neg hq ?_
      have hne : ordL (l.drop i) (m.drop i) = ordL l m := ordL_drop l m i (by rw [hs, if_neg hq]; split <;> decide)
      rw [if_neg hq] at hs
      rw [← hne, hs]
      by_cases hq2 : rd l (i : Int) < rd m (i : Int)
      · exact Ev.pos hq2 (Ev.some_ (by rw [if_pos hq2]))
      · exact Ev.neg hq2 (Ev.some_ (by rw [if_neg hq2]))
where
  ordL_drop : ∀ (l m : List Int) (i : Nat), ordL (l.drop i) (m.drop i) ≠ 0 → ordL (l.drop i) (m.drop i) = ordL l m
    | l, m, 0, _ => rfl
    | [], m, i + 1, h => by simp [ordL] at h
    | a :: l, [], i + 1, h => by
      rw [List.drop_nil] at h
      cases hq : (a :: l).drop (i + 1) <;> simp [ordL, hq] at h
    | a :: l, b :: m, i + 1, h => by
      have ih := ordL_drop l m i h
      simp only [List.drop_succ_cons] at h ⊢
      rw [ih] at h ⊢
      simp [ordL, h]
theorem order_ev (l m : List Int) (hl : Digs 4294967296 l) (hm : Digs 4294967296 m) (nl : Norm l) (nm : Norm m) (h1 : l.length ≤ 4611686018427387904) (h2 : m.length ≤ 4611686018427387904) :
    Ev (fun k => integer_order.f k l m) (val 4294967296 l - val 4294967296 m).sign := by
  unfold integer_order.f
  by_cases h : (l.length : Int) = (m.length : Int)
  · refine Ev.pos h ?_
    rw [w64 _ (by omega) (by omega), ← ordL_val (by decide) (by omega) hl hm]
    refine order_l0 l m (by omega) h1 l.length (Nat.le_refl _) ?_
    rw [List.drop_of_length_le (Nat.le_refl _)]
    rfl
  · refine Ev.neg h ?_
    by_cases h3 : (l.length : Int) < (m.length : Int)
    · have := len_lt_val (B := 4294967296) (by decide) hl hm nm (by omega)
      exact Ev.pos h3 (Ev.some_ (by rw [Int.sign_eq_neg_one_of_neg (by omega)]))
    · have := len_lt_val (B := 4294967296) (by decide) hm hl nl (by omega)
      exact Ev.neg h3 (Ev.some_ (by rw [Int.sign_eq_one_of_pos (by omega)]))
theorem lorder_ev (x y : Int) (h1 : (lm x).length ≤ 4611686018427387904) (h2 : (lm y).length ≤ 4611686018427387904) :
    Ev (fun k => integer_order.f k (lm x) (lm y)) ((x.natAbs : Int) - y.natAbs).sign := by
  have := order_ev (lm x) (lm y) (lm_digs x) (lm_digs y) (lm_norm x) (lm_norm y) h1 h2
  rwa [lm_val, lm_val] at this
theorem compare_ev (x y : Int) (h1 : (lm x).length ≤ 4611686018427387904) (h2 : (lm y).length ≤ 4611686018427387904) :
    Ev (fun k => integer_Compare.f k (decide (x < 0)) (lm x) (decide (y < 0)) (lm y)) (x - y).sign := by
  unfold integer_Compare.f
  by_cases hx : x < 0 <;> by_cases hy : y < 0
  · refine Ev.neg (by simp [hx, hy]) (Ev.pos (by simpa using hx) ?_)
    refine Ev.bind (lorder_ev y x h2 h1) (Ev.some_ ?_)
    congr 1
    omega
  · refine Ev.pos (by simp [hx, hy]) (Ev.pos (by simpa using hx) (Ev.some_ ?_))
    rw [Int.sign_eq_neg_one_of_neg (by omega)]
  · refine Ev.pos (by simp [hx, hy]) (Ev.neg (by simpa using hx) (Ev.some_ ?_))
    rw [Int.sign_eq_one_of_pos (by omega)]
  · refine Ev.neg (by simp [hx, hy]) (Ev.neg (by simpa using hx) ?_)
    refine Ev.bind (lorder_ev x y h1 h2) (Ev.some_ ?_)
    congr 1
    omega
end Go.Proofs.YtiikfhdmclmjmaaDoor.Pure
namespace Go.Proofs.YtiikfhdmclmjmaaDoor.P
open Go.RowKit Go.Proofs.YtiikfhdmclmjmaaDoorW.PrintWords Go.Proofs.YtiikfhdmclmjmaaDoorW.PrintLast
set_option linter.unusedVariables false
set_option linter.unusedSimpArgs false
def integer_scale.l0 : Nat → List Int → Int → List Int → Int → List Int → Int → Int → Option (List Int)
  | 0, _, _, _, _, _, _, _ => none
  | k + 1, x0, x1, x7, x8, x17, x18, x19 => if x19 < x18 then (if 0 ≤ x19 then (if x19 < (x17.length : Int) then (if x19 < (x7.length : Int) then (integer_scale.l0 k x0 x1 (x7.set (x19 : Int).toNat ((IntKind.u64.wrap (x8 + (IntKind.u64.wrap ((IntKind.u64.wrap (rd x17 x19)) * (IntKind.u64.wrap (x1)))))) % 4294967296)) ((IntKind.u64.wrap (x8 + (IntKind.u64.wrap ((IntKind.u64.wrap (rd x17 x19)) * (IntKind.u64.wrap (x1)))))) / 4294967296) x17 x18 (wrap64 (x19 + 1))) else (none)) else (none)) else (none)) else (if 0 ≤ (x0.length : Int) then (if (x0.length : Int) < (x7.length : Int) then ((integer_trim.f k (x7.set ((x0.length : Int) : Int).toNat ((x8) % 4294967296))).bind fun t483 => (some t483)) else (none)) else (none))
def integer_scale.f (k : Nat) (l0 : List Int) (a1 : Int) (a2 : Int) : Option (List Int) := if 0 ≤ (wrap64 ((l0.length : Int) + 1)) then (if (wrap64 ((l0.length : Int) + 1) : Int).toNat ≤ 70368744177664 then (integer_scale.l0 k l0 a1 (List.replicate (wrap64 ((l0.length : Int) + 1) : Int).toNat 0) (IntKind.u64.wrap (a2)) l0 (l0.length : Int) 0) else (none)) else (none)
theorem integer_scale.mono_l : ∀ k, (∀ y0 y1 y2 y3 y4 y5 y6, LeO (integer_scale.l0 k y0 y1 y2 y3 y4 y5 y6) (integer_scale.l0 (k + 1) y0 y1 y2 y3 y4 y5 y6))
  | 0 => fun _ _ _ _ _ _ _ r h => by simp [integer_scale.l0] at h
  | k + 1 => by
    have ih0 := integer_scale.mono_l k
    · intro y0 y1 y2 y3 y4 y5 y6
      unfold integer_scale.l0
      repeat' first
      | (with_reducible exact ih0 _ _ _ _ _ _ _)
      | (with_reducible exact integer_trim.mono _ _)
      | (with_reducible exact LeO.refl _)
      | (with_reducible exact LeO.none _)
      | (with_reducible refine LeO.ite ?_ ?_)
      | (with_reducible refine LeO.bind ?_ (fun _ => ?_))
      | exact ih0 _ _ _ _ _ _ _
      | exact integer_trim.mono _ _
      | exact LeO.none _
      | refine LeO.ite ?_ ?_
      | refine LeO.bind ?_ (fun _ => ?_)
theorem integer_scale.mono : ∀ a0 a1 a2 k, LeO (integer_scale.f k a0 a1 a2) (integer_scale.f (k + 1) a0 a1 a2) := by
  intro a0 a1 a2 k
  have ih0 := integer_scale.mono_l k
  unfold integer_scale.f
  repeat' first
      | (with_reducible exact ih0 _ _ _ _ _ _ _)
      | (with_reducible exact integer_trim.mono _ _)
      | (with_reducible exact LeO.refl _)
      | (with_reducible exact LeO.none _)
      | (with_reducible refine LeO.ite ?_ ?_)
      | (with_reducible refine LeO.bind ?_ (fun _ => ?_))
      | exact ih0 _ _ _ _ _ _ _
      | exact integer_trim.mono _ _
      | exact LeO.none _
      | refine LeO.ite ?_ ?_
      | refine LeO.bind ?_ (fun _ => ?_)
end Go.Proofs.YtiikfhdmclmjmaaDoor.P
namespace Go.Proofs.YtiikfhdmclmjmaaDoor.Pure
open Go.RowKit Go.Proofs.YtiikfhdmclmjmaaDoorW.PrintWords Go.Proofs.YtiikfhdmclmjmaaDoor.P
set_option linter.unusedVariables false
set_option linter.unusedSimpArgs false
theorem or_high (x d : Int) (hx : 0 ≤ x) (hx1 : x < 4294967296) (hd : 0 ≤ d) (hd1 : d < 4294967296) : Go.bits .or .u64 (x * 4294967296) d = x * 4294967296 + d :=
  bits_join .u64 64 (by decide) (fun n h0 h1 => u64s n h0 h1) 32 _ d (by omega) (by omega) (by omega) hd hd1 (by omega)
end Go.Proofs.YtiikfhdmclmjmaaDoor.Pure
namespace Go.Proofs.YtiikfhdmclmjmaaDoor.Pure
open Go.RowKit Go.Proofs.YtiikfhdmclmjmaaDoorW.PrintWords Go.Proofs.YtiikfhdmclmjmaaDoor.P
set_option linter.unusedVariables false
set_option linter.unusedSimpArgs false
def shortR (b : Int) : List Int → List Int × Int
  | [] => ([], 0)
  | d :: l => (((shortR b l).2 * 4294967296 + d) / b :: (shortR b l).1, ((shortR b l).2 * 4294967296 + d) % b)
theorem shortR_all (b : Int) (b0 : 0 < b) (b1 : b < 4294967296) : ∀ (l : List Int), Digs 4294967296 l →
    Digs 4294967296 (shortR b l).1 ∧ val 4294967296 l = val 4294967296 (shortR b l).1 * b + (shortR b l).2 ∧ 0 ≤ (shortR b l).2 ∧ (shortR b l).2 < b ∧ (shortR b l).1.length = l.length
  | [], _ => ⟨Digs.nil _, by simp [shortR, val], by simp [shortR], by simpa [shortR] using b0, rfl⟩
  | d :: l, h => by
    obtain ⟨h1, h2, h3, h4, h5⟩ := shortR_all b b0 b1 l h.cons.2
    have hd := h.cons.1
    have hm := Int.emod_nonneg ((shortR b l).2 * 4294967296 + d) (show b ≠ 0 by omega)
    have hm2 := Int.emod_lt_of_pos ((shortR b l).2 * 4294967296 + d) b0
    have hq0 : 0 ≤ ((shortR b l).2 * 4294967296 + d) / b := Int.ediv_nonneg (by omega) (by omega)
    have hq1 : ((shortR b l).2 * 4294967296 + d) / b < 4294967296 := Int.ediv_lt_of_lt_mul b0 (by omega)
    have hdm := Int.mul_ediv_add_emod ((shortR b l).2 * 4294967296 + d) b
    rw [Int.mul_comm b] at hdm
    simp only [shortR]
    refine ⟨Digs.mk hq0 hq1 h1, ?_, hm, hm2, by simp [h5]⟩
    simp only [val]
    rw [h2, Int.add_mul, Int.mul_assoc]
    omega
theorem short_l0 (l : List Int) (b : Int) (hl : Digs 4294967296 l) (b0 : 0 < b) (b1 : b < 4294967296) (hmax : l.length ≤ 70368744177663) :
    ∀ (i : Nat), i ≤ l.length →
      Ev (fun k => integer_short.l0 k l b (List.replicate i 0 ++ (shortR b (l.drop i)).1) (shortR b (l.drop i)).2 ((i : Int) - 1)) (trimL (shortR b l).1, (shortR b l).2)
  | 0, hi => by
    have hs := shortR_all b b0 b1 l hl
    refine Ev.step (fun k => integer_short.l0.eq_2 ..) (Ev.neg (by omega) ?_)
    simp only [List.drop_zero, List.replicate_zero, List.nil_append]
    refine Ev.bind (trim_ev _ (by omega)) (Ev.some_ ?_)
    rw [Int.emod_eq_of_lt hs.2.2.1 (by omega)]
  | i + 1, hi => by
    have ha := rd_digs hl (show i < l.length by omega)
    have hs := shortR_all b b0 b1 (l.drop (i + 1)) (hl.drop _)
    have e : (((i + 1 : Nat) : Int) - 1) = (i : Int) := by omega
    have ew : wrap64 ((i : Int) - 1) = (i : Int) - 1 := w64 _ (by omega) (by omega)
    have hlen2 : (List.replicate (i + 1) (0 : Int) ++ (shortR b (l.drop (i + 1))).1).length = l.length := by simp [hs.2.2.2.2]; omega
    have ih := short_l0 l b hl b0 b1 hmax i (by omega)
    rw [e]
    refine Ev.step (fun k => integer_short.l0.eq_2 ..) (Ev.pos (by omega) (Ev.pos (by omega) (Ev.pos (by omega) (Ev.neg ?_ (Ev.pos (by omega) ?_)))))
    · rw [u64s b (by omega) (by omega)]; omega
    · rw [u64s b (by omega) (by omega), u64s (rd l (i : Int)) (by omega) (by omega), u64s (_ * 4294967296) (by omega) (by omega), or_high _ _ hs.2.2.1 (by omega) ha.1 ha.2, ew]
      have hq0 : 0 ≤ ((shortR b (l.drop (i + 1))).2 * 4294967296 + rd l (i : Int)) / b := Int.ediv_nonneg (by omega) (by omega)
      have hq1 : ((shortR b (l.drop (i + 1))).2 * 4294967296 + rd l (i : Int)) / b < 4294967296 := Int.ediv_lt_of_lt_mul b0 (by omega)
      have et : Int.tdiv ((shortR b (l.drop (i + 1))).2 * 4294967296 + rd l (i : Int)) b = ((shortR b (l.drop (i + 1))).2 * 4294967296 + rd l (i : Int)) / b := Int.tdiv_eq_ediv_of_nonneg (by omega)
      have em : Int.tmod ((shortR b (l.drop (i + 1))).2 * 4294967296 + rd l (i : Int)) b = ((shortR b (l.drop (i + 1))).2 * 4294967296 + rd l (i : Int)) % b := Int.tmod_eq_emod_of_nonneg (by omega)
      rw [et, em, u64s _ hq0 (by omega), Int.emod_eq_of_lt hq0 hq1]
      have hx : (List.replicate (i + 1) (0 : Int) ++ (shortR b (l.drop (i + 1))).1).set ((i : Int) : Int).toNat (((shortR b (l.drop (i + 1))).2 * 4294967296 + rd l (i : Int)) / b) = List.replicate i 0 ++ (shortR b (l.drop i)).1 := by
        rw [List.replicate_succ', List.append_assoc, Int.toNat_natCast]
        have : i = (List.replicate i (0 : Int)).length := by simp
        conv => lhs; arg 2; rw [this]
        rw [List.set_append_right _ _ (Nat.le_refl _), Nat.sub_self, drop_at (l := l) (i := i) (by omega)]
        rfl
      have hy : ((shortR b (l.drop (i + 1))).2 * 4294967296 + rd l (i : Int)) % b = (shortR b (l.drop i)).2 := by
        rw [drop_at (l := l) (i := i) (by omega)]; rfl
      rw [hx, hy]
      exact ih
theorem short_ev (l : List Int) (b : Int) (hl : Digs 4294967296 l) (b0 : 0 < b) (b1 : b < 4294967296) (hmax : l.length ≤ 70368744177663) :
    Ev (fun k => integer_short.f k l b) (dgs BB ((val 4294967296 l).toNat / b.toNat), ((val 4294967296 l).toNat % b.toNat : Nat)) := by
  unfold integer_short.f
  obtain ⟨h1, h2, h3, h4, h5⟩ := shortR_all b b0 b1 l hl
  have hv := val_nonneg (B := 4294967296) (by decide) h1
  have hv2 := val_nonneg (B := 4294967296) (by decide) hl
  have hp := Int.mul_nonneg hv (Int.le_of_lt b0)
  rw [w64 _ (by omega) (by omega)]
  refine Ev.pos (by omega) (Ev.pos (by omega) ?_)
  have := short_l0 l b hl b0 b1 hmax l.length (Nat.le_refl _)
  rw [List.drop_of_length_le (Nat.le_refl _)] at this
  simp only [shortR, List.append_nil] at this
  rw [show ((l.length : Int) : Int).toNat = l.length by omega]
  obtain ⟨q, hq⟩ : ∃ q : Nat, val 4294967296 (shortR b l).1 = q := ⟨_, (Int.toNat_of_nonneg hv).symm⟩
  obtain ⟨r, hr⟩ : ∃ r : Nat, (shortR b l).2 = r := ⟨_, (Int.toNat_of_nonneg h3).symm⟩
  obtain ⟨c, rfl⟩ : ∃ c : Nat, b = c := ⟨_, (Int.toNat_of_nonneg (by omega)).symm⟩
  have hn : (val 4294967296 l).toNat = q * c + r := by
    rw [h2, hq, hr]
    have : ((q : Int) * c + r) = ((q * c + r : Nat) : Int) := by push_cast; rfl
    rw [this, Int.toNat_natCast]
  have e1 : (q * c + r) / c = q := by
    rw [Nat.mul_comm, Nat.mul_add_div (by omega), Nat.div_eq_of_lt (by omega)]; omega
  have e2 : (q * c + r) % c = r := by
    rw [Nat.mul_comm, Nat.mul_add_mod, Nat.mod_eq_of_lt (by omega)]
  rw [trimL_dgs BB2 h1 hq, hr] at this
  rw [hn, Int.toNat_natCast, e1, e2]
  exact this
end Go.Proofs.YtiikfhdmclmjmaaDoor.Pure
namespace Go.Proofs.YtiikfhdmclmjmaaDoor.Pure
open Go.RowKit Go.Proofs.YtiikfhdmclmjmaaDoorW.PrintWords Go.Proofs.YtiikfhdmclmjmaaDoor.P
set_option linter.unusedVariables false
set_option linter.unusedSimpArgs false
def pd : Nat → Nat → List UInt8
  | 0, _ => []
  | k + 1, r => pd k (r / 10) ++ [UInt8.ofNat (48 + r % 10)]
theorem pd_len : ∀ k r, (pd k r).length = k
  | 0, _ => rfl
  | k + 1, r => by simp [pd, pd_len k]
theorem dec_small {n : Nat} (h : n < 10) : Lib.decDigits n = [UInt8.ofNat (48 + n)] := by rw [Lib.decDigits, dif_pos h]
theorem dec_big {n : Nat} (h : ¬ n < 10) : Lib.decDigits n = Lib.decDigits (n / 10) ++ [UInt8.ofNat (48 + n % 10)] := by rw [Lib.decDigits, dif_neg h]
theorem dec_len_pos (n : Nat) : 1 ≤ (Lib.decDigits n).length := by
  by_cases h : n < 10
  · rw [dec_small h]; simp
  · rw [dec_big h]; simp
theorem dec_split : ∀ (k n : Nat), 10 ^ k ≤ n → Lib.decDigits n = Lib.decDigits (n / 10 ^ k) ++ pd k (n % 10 ^ k)
  | 0, n, h => by simp [pd]
  | k + 1, n, h => by
    have hp : 1 ≤ 10 ^ k := Nat.one_le_pow _ _ (by decide)
    rw [Nat.pow_succ] at h
    have h1 : 10 ^ k ≤ n / 10 := (Nat.le_div_iff_mul_le (by decide)).2 h
    rw [dec_big (by omega), dec_split k (n / 10) h1, Nat.div_div_eq_div_mul, Nat.mul_comm 10 (10 ^ k), ← Nat.pow_succ]
    simp only [pd]
    have e1 : n % 10 ^ (k + 1) / 10 = n / 10 % 10 ^ k := by
      rw [Nat.pow_succ, Nat.mul_comm, Nat.mod_mul_right_div_self]
    have e2 : n % 10 ^ (k + 1) % 10 = n % 10 := Nat.mod_mod_of_dvd n ⟨10 ^ k, by rw [Nat.pow_succ, Nat.mul_comm]⟩
    rw [e1, e2, List.append_assoc]
theorem pd_zero : ∀ k, pd k 0 = List.replicate k 48
  | 0 => rfl
  | k + 1 => by rw [pd, Nat.zero_div, pd_zero k, List.replicate_succ']; rfl
theorem pd_pad : ∀ (k r : Nat), r < 10 ^ (k + 1) → (Lib.decDigits r).length ≤ k + 1 ∧ pd (k + 1) r = List.replicate (k + 1 - (Lib.decDigits r).length) 48 ++ Lib.decDigits r
  | k, r, h => by
    by_cases hr : r < 10
    · rw [dec_small hr, pd, Nat.div_eq_of_lt hr, Nat.mod_eq_of_lt hr, pd_zero]
      exact ⟨by simp, by simp⟩
    · cases k with
      | zero => simp at h; omega
      | succ k =>
        have h1 : r / 10 < 10 ^ (k + 1) := by
          rw [Nat.pow_succ, Nat.mul_comm] at h
          exact Nat.div_lt_of_lt_mul h
        obtain ⟨i1, i2⟩ := pd_pad k (r / 10) h1
        rw [dec_big hr]
        refine ⟨by simp; omega, ?_⟩
        rw [pd, i2]
        have e : k + 1 + 1 - (Lib.decDigits (r / 10) ++ [UInt8.ofNat (48 + r % 10)]).length = k + 1 - (Lib.decDigits (r / 10)).length := by simp
        rw [e, List.append_assoc]
theorem dec_len_split {k n : Nat} (h : 10 ^ k ≤ n) : (Lib.decDigits n).length = (Lib.decDigits (n / 10 ^ k)).length + k := by
  rw [dec_split k n h]
  simp [pd_len]
theorem dgs_lt_pow {B : Nat} (hB : 2 ≤ B) (n : Nat) : n < B ^ (dgs B n).length := by
  have := val_lt (B := (B : Int)) (by omega) (dgs_digs hB n)
  rw [dgs_val hB n] at this
  exact_mod_cast this
theorem dgs_len_mono {m n : Nat} (h : m ≤ n) : (dgs BB m).length ≤ (dgs BB n).length :=
  dgs_len BB2 _ m (Nat.lt_of_le_of_lt h (dgs_lt_pow BB2 n))
theorem rev_l0 : ∀ (n : Nat) (m a b : List ByteArray), m.length = n → a.length + m.length + b.length ≤ 4611686018427387904 → Ev (fun k => slices_Reverse_string_string.l0 k (a ++ m ++ b) (a.length : Int) ((a.length : Int) + (m.length : Int) - 1)) (a ++ m.reverse ++ b)
  | n, m, a, b, hn, hmax => by
    by_cases h : m.length < 2
    · refine Ev.step (fun k => slices_Reverse_string_string.l0.eq_2 ..) (Ev.neg (by omega) (Ev.some_ ?_))
      have : m.reverse = m := by
        match m, h with
        | [], _ => rfl
        | [x], _ => rfl
      rw [this]
    · obtain ⟨x, m1, rfl⟩ : ∃ x m1, m = x :: m1 := by
        cases m with
        | nil => simp at h
        | cons x m1 => exact ⟨x, m1, rfl⟩
      obtain ⟨m2, y, rfl⟩ : ∃ m2 y, m1 = m2 ++ [y] := ⟨m1.dropLast, m1.getLast (fun e => by rw [e] at h; simp at h), (List.dropLast_concat_getLast _).symm⟩
      have hl : (x :: (m2 ++ [y])).length = m2.length + 2 := by simp
      have hL : (a ++ x :: (m2 ++ [y]) ++ b).length = a.length + (m2.length + 2) + b.length := by simp; omega
      have ej : ((a.length : Int) + ((x :: (m2 ++ [y])).length : Int) - 1) = ((a.length + m2.length + 1 : Nat) : Int) := by rw [hl]; omega
      have q1 : (a.length : Int) < ((a.length + m2.length + 1 : Nat) : Int) := by omega
      have q2 : (0 : Int) ≤ ((a.length + m2.length + 1 : Nat) : Int) := by omega
      have q3 : ((a.length + m2.length + 1 : Nat) : Int) < ((a ++ x :: (m2 ++ [y]) ++ b).length : Int) := by rw [hL]; omega
      have q4 : (a.length : Int) < ((a ++ x :: (m2 ++ [y]) ++ b).length : Int) := by rw [hL]; omega
      have q5 : (0 : Int) ≤ (a.length : Int) := by omega
      have w1 : a.length < a.length + 1 := by omega
      have w2 : a.length + 1 ≤ 9223372036854775807 := by omega
      have w3 : wrap64 (((a.length + m2.length + 1 : Nat) : Int) - 1) = ((a ++ [y]).length : Int) + (m2.length : Int) - 1 := by
        rw [w64 _ (by omega) (by omega)]; simp; omega
      have e1 : rdOf ByteArray.empty (a ++ x :: (m2 ++ [y]) ++ b) ((a.length + m2.length + 1 : Nat) : Int) = y := by
        unfold rdOf
        rw [Int.toNat_natCast, List.getD_eq_getElem?_getD]
        have : a ++ x :: (m2 ++ [y]) ++ b = (a ++ x :: m2) ++ y :: b := by simp
        rw [this, show a.length + m2.length + 1 = (a ++ x :: m2).length by simp; omega, List.getElem?_append_right (Nat.le_refl _), Nat.sub_self]
        rfl
      have e2 : rdOf ByteArray.empty (a ++ x :: (m2 ++ [y]) ++ b) (a.length : Int) = x := by
        unfold rdOf
        rw [Int.toNat_natCast, List.getD_eq_getElem?_getD, List.append_assoc, List.getElem?_append_right (Nat.le_refl _), Nat.sub_self]
        rfl
      have e3 : ((a ++ x :: (m2 ++ [y]) ++ b).set ((a.length : Int)).toNat y).set (((a.length + m2.length + 1 : Nat) : Int)).toNat x = (a ++ [y]) ++ m2 ++ (x :: b) := by
        rw [Int.toNat_natCast, Int.toNat_natCast]
        have t1 : (a ++ x :: (m2 ++ [y]) ++ b).set a.length y = (a ++ y :: m2) ++ y :: b := by
          rw [List.append_assoc, List.set_append_right _ _ (Nat.le_refl _), Nat.sub_self]
          simp
        rw [t1, show a.length + m2.length + 1 = (a ++ y :: m2).length by simp; omega, List.set_append_right _ _ (Nat.le_refl _), Nat.sub_self]
        simp
      rw [ej]
      have ih := rev_l0 m2.length m2 (a ++ [y]) (x :: b) rfl (by simp at hmax ⊢; omega)
      have e4 : a ++ (x :: (m2 ++ [y])).reverse ++ b = (a ++ [y]) ++ m2.reverse ++ (x :: b) := by simp
      rw [e4]
      refine Ev.step (fun k => slices_Reverse_string_string.l0.eq_2 ..) (Ev.pos q1 (Ev.pos q2 (Ev.pos q3 (Ev.pos q5 (Ev.pos q4 ?_)))))
      rw [e1, e2, e3, w3, wsucc w1 w2]
      have e5 : ((a.length + 1 : Nat) : Int) = ((a ++ [y]).length : Int) := by simp
      rw [e5]
      exact ih
termination_by n => n
decreasing_by simp at hn; omega
theorem rev_ev (m : List ByteArray) (h : m.length ≤ 4611686018427387904) : Ev (fun k => slices_Reverse_string_string.f k m) m.reverse := by
  unfold slices_Reverse_string_string.f
  have := rev_l0 m.length m [] [] rfl (by simpa using h)
  rw [w64 _ (by omega) (by omega)]
  simpa using this
def flat (xs : List ByteArray) : List UInt8 := (xs.reverse.map (·.data.toList)).flatten
theorem flat_snoc (xs : List ByteArray) (s : ByteArray) : flat (xs ++ [s]) = s.data.toList ++ flat xs := by simp [flat]
def sgn (neg : Bool) (l : List UInt8) : ByteArray := ⟨(if neg = true then 45 :: l else l).toArray⟩
theorem join_flat (xs : List (List UInt8)) : Lib.join xs [] = xs.flatten := by
  induction xs with
  | nil => rfl
  | cons x r ih =>
    rw [Lib.join_cons]
    simp [Lib.joinTail]
theorem sgn_app (l : List UInt8) : (⟨#[45]⟩ : ByteArray) ++ ⟨l.toArray⟩ = ⟨(45 :: l).toArray⟩ := by
  apply ByteArray.ext
  simp [ByteArray.data_append]
theorem bsize (l : List UInt8) : (⟨l.toArray⟩ : ByteArray).size = l.length := by simp [ByteArray.size]
theorem fin_ev (xs : List ByteArray) (neg : Bool) (h1 : xs.length ≤ 140737488355327) (h2 : (flat xs).length ≤ 140737488355327) :
    Ev (fun k => (slices_Reverse_string_string.f k xs).bind fun t173 => ((strings_Join.f t173 (⟨#[]⟩ : ByteArray)).bind fun t174 => (if neg = true then (if 1 + t174.size ≤ 9223372036854775807 then (some ((⟨#[45]⟩ : ByteArray) ++ t174)) else (none)) else (some t174)))) (sgn neg (flat xs)) := by
  refine Ev.bind (rev_ev xs (by omega)) (Ev.bind0 (a := ⟨(flat xs).toArray⟩) ?_ ?_)
  · unfold strings_Join.f
    have e : Lib.join (xs.reverse.map (·.data.toList)) (ByteArray.mk #[]).data.toList = flat xs := join_flat _
    rw [e, if_pos ⟨by simp; omega, by omega⟩]
  · by_cases hn : neg = true
    · refine Ev.pos hn (Ev.pos (by rw [bsize]; omega) (Ev.some_ ?_))
      rw [sgn_app, sgn, if_pos hn]
    · refine Ev.neg hn (Ev.some_ ?_)
      rw [sgn, if_neg hn]
theorem itoa_nat (n : Nat) : Lib.itoa (n : Int) = Lib.decDigits n := by
  unfold Lib.itoa
  rw [if_neg (by omega), Int.toNat_natCast]
theorem text_l0 (mg : List Int) (neg : Bool) : ∀ (n : Nat) (xs : List ByteArray), (dgs BB n).length ≤ 70368744177663 → xs.length + (if n = 0 then 0 else 2 * (Lib.decDigits n).length) + (flat xs).length ≤ 1099511627776 →
    Ev (fun k => integer_Int_Text.l0 k xs (dgs BB n) neg mg) (sgn neg ((if n = 0 then [] else Lib.decDigits n) ++ flat xs)) := by
  intro n
  induction n using Nat.strongRecOn with
  | _ n ih =>
    intro xs hlen htot
    rcases Nat.eq_zero_or_pos n with rfl | hn
    · rw [dgs_zero, if_pos rfl]
      rw [if_pos rfl] at htot
      refine Ev.step (fun k => integer_Int_Text.l0.eq_2 ..) (Ev.neg (by simp) ?_)
      exact fin_ev xs neg (by omega) (by omega)
    · rw [if_neg (by omega)] at htot ⊢
      have hne : 0 < (dgs BB n).length := by
        have := mt (dgs_nil BB2 (n := n)).1 (by omega)
        exact Nat.pos_of_ne_zero (fun e => this (List.length_eq_zero_iff.1 e))
      have hs := short_ev (dgs BB n) 1000000000 (dgs_digs BB2 n) (by decide) (by decide) hlen
      have hv : (val 4294967296 (dgs BB n)).toNat = n := by
        have := dgs_val BB2 n
        have h2 : val 4294967296 (dgs BB n) = n := this
        rw [h2, Int.toNat_natCast]
      rw [hv, show (1000000000 : Int).toNat = 1000000000 from rfl] at hs
      have hr : n % 1000000000 < 10 ^ (8 + 1) := Nat.mod_lt _ (by decide)
      obtain ⟨p1, p2⟩ := pd_pad 8 (n % 1000000000) hr
      refine Ev.step (fun k => integer_Int_Text.l0.eq_2 ..) (Ev.pos (by omega) (Ev.bind hs ?_))
      refine Ev.bind0 (a := ⟨(Lib.decDigits (n % 1000000000)).toArray⟩) ?_ ?_
      · have w : wrap64 ((n % 1000000000 : Nat) : Int) = ((n % 1000000000 : Nat) : Int) := w64 _ (by omega) (by omega)
        show strconv_Itoa_47.f (wrap64 ((n % 1000000000 : Nat) : Int)) = _
        rw [w]
        unfold strconv_Itoa_47.f
        rw [if_pos ⟨by omega, by omega⟩, itoa_nat]
      · have hq := dgs_nil BB2 (n := n / 1000000000)
        by_cases hb : n < 1000000000
        · have hz : n / 1000000000 = 0 := by omega
          have hm : n % 1000000000 = n := by omega
          rw [hz, hm, dgs_zero]
          refine Ev.neg (by simp) (Ev.pos (by omega) ?_)
          have := ih 0 hn (xs ++ [⟨(Lib.decDigits n).toArray⟩]) (by simp [dgs_zero]) (by
            rw [flat_snoc, if_pos rfl]
            have := dec_len_pos n
            simp
            omega)
          rw [dgs_zero, if_pos rfl, flat_snoc] at this
          exact this
        · have hz : n / 1000000000 ≠ 0 := by omega
          have hql : 0 < (dgs BB (n / 1000000000)).length := Nat.pos_of_ne_zero (fun e => hz (hq.1 (List.length_eq_zero_iff.1 e)))
          have hsplit := dec_split 9 n (by omega)
          have hls := dec_len_split (k := 9) (n := n) (by omega)
          have e9 : (10 : Nat) ^ 9 = 1000000000 := rfl
          rw [e9] at hsplit hls
          refine Ev.pos (by show ((dgs BB (n / 1000000000)).length : Int) > 0; omega) ?_
          have hsz : (⟨(Lib.decDigits (n % 1000000000)).toArray⟩ : ByteArray).size = (Lib.decDigits (n % 1000000000)).length := bsize _
          refine Ev.bind0 (a := ⟨(List.replicate (9 - (Lib.decDigits (n % 1000000000)).length) 48).toArray⟩) ?_ ?_
          · rw [hsz, w64 _ (by omega) (by omega)]
            unfold strings_Repeat.f
            have c1 : (9 - ((Lib.decDigits (n % 1000000000)).length : Int)).toNat = 9 - (Lib.decDigits (n % 1000000000)).length := by omega
            rw [if_pos ⟨by omega, by omega, by rw [c1]; show 1 * _ ≤ _; omega⟩, c1]
            have := Lib.repeatL_replicate 48 1 (9 - (Lib.decDigits (n % 1000000000)).length)
            rw [Nat.mul_one] at this
            exact congrArg (fun l => some (ByteArray.mk (List.toArray l))) this
          · have happ : (⟨(List.replicate (9 - (Lib.decDigits (n % 1000000000)).length) 48).toArray⟩ : ByteArray) ++ ⟨(Lib.decDigits (n % 1000000000)).toArray⟩ = ⟨(pd 9 (n % 1000000000)).toArray⟩ := by
              apply ByteArray.ext
              rw [p2]
              simp [ByteArray.data_append]
            refine Ev.pos (by rw [bsize, bsize]; simp; omega) (Ev.pos (by omega) ?_)
            rw [happ]
            have := ih (n / 1000000000) (by omega) (xs ++ [⟨(pd 9 (n % 1000000000)).toArray⟩]) (Nat.le_trans (dgs_len_mono (Nat.div_le_self _ _)) hlen) (by
              rw [flat_snoc, if_neg hz]
              simp [pd_len]
              omega)
            rw [if_neg hz, flat_snoc, ← List.append_assoc] at this
            rw [hsplit]
            exact this
theorem text_ev (z : Int) (h1 : (lm z).length ≤ 70368744177663) (h2 : (Lib.decDigits z.natAbs).length ≤ 274877906944) :
    Ev (fun k => integer_Int_Text.f k (decide (z < 0)) (lm z)) ⟨(Lib.itoa z).toArray⟩ := by
  unfold integer_Int_Text.f
  by_cases hz : z = 0
  · refine Ev.pos (by have := lm_len0.2 hz; omega) (Ev.some_ ?_)
    subst hz
    show _ = (⟨(Lib.itoa ((0 : Nat) : Int)).toArray⟩ : ByteArray)
    rw [itoa_nat, dec_small (by decide)]
    rfl
  · refine Ev.neg (by have := mt lm_len0.1 hz; omega) ?_
    have := text_l0 (lm z) (decide (z < 0)) z.natAbs [] h1 (by rw [if_neg (by omega)]; simp [flat]; omega)
    rw [if_neg (by omega)] at this
    have e : sgn (decide (z < 0)) (Lib.decDigits z.natAbs ++ flat []) = ⟨(Lib.itoa z).toArray⟩ := by
      unfold sgn Lib.itoa flat
      by_cases hn : z < 0
      · rw [if_pos (by simpa using hn), if_pos hn]; simp
      · rw [if_neg (by simpa using hn), if_neg hn, show z.toNat = z.natAbs by omega]; simp
    rw [e] at this
    exact this
end Go.Proofs.YtiikfhdmclmjmaaDoor.Pure
namespace Go.Proofs.YtiikfhdmclmjmaaDoor.P
open Go.RowKit Go.Proofs.YtiikfhdmclmjmaaDoorW.PrintWords Go.Proofs.YtiikfhdmclmjmaaDoorW.PrintLast
set_option linter.unusedVariables false
set_option linter.unusedSimpArgs false
def dowelref01_digits.l0 : Nat → ByteArray → List Int → Int → Option (List Int)
  | 0, _, _, _ => none
  | k + 1, x0, x3, x4 => if x4 ≥ 0 then (if 0 ≤ x4 then (if x4 < (x0.size : Int) then (if (bt x0 x4) = 45 then (dowelref01_digits.l0 k x0 x3 (wrap64 (x4 - 1))) else (if x3.length < 17592186044416 then (dowelref01_digits.l0 k x0 (x3 ++ [wrap64 ((wrap64 (bt x0 x4)) - 48)]) (wrap64 (x4 - 1))) else (none))) else (none)) else (none)) else ((dowelref01_trim.f k x3).bind fun t531 => (some t531))
def dowelref01_digits.f (k : Nat) (a0 : ByteArray) : Option (List Int) := dowelref01_digits.l0 k a0 ([] : List Int) (wrap64 ((a0.size : Int) - 1))
theorem dowelref01_digits.mono_l : ∀ k, (∀ y0 y1 y2, LeO (dowelref01_digits.l0 k y0 y1 y2) (dowelref01_digits.l0 (k + 1) y0 y1 y2))
  | 0 => fun _ _ _ r h => by simp [dowelref01_digits.l0] at h
  | k + 1 => by
    have ih0 := dowelref01_digits.mono_l k
    · intro y0 y1 y2
      unfold dowelref01_digits.l0
      repeat' first
      | (with_reducible exact ih0 _ _ _)
      | (with_reducible exact dowelref01_trim.mono _ _)
      | (with_reducible exact LeO.refl _)
      | (with_reducible exact LeO.none _)
      | (with_reducible refine LeO.ite ?_ ?_)
      | (with_reducible refine LeO.bind ?_ (fun _ => ?_))
      | exact ih0 _ _ _
      | exact dowelref01_trim.mono _ _
      | exact LeO.none _
      | refine LeO.ite ?_ ?_
      | refine LeO.bind ?_ (fun _ => ?_)
theorem dowelref01_digits.mono : ∀ a0 k, LeO (dowelref01_digits.f k a0) (dowelref01_digits.f (k + 1) a0) := by
  intro a0 k
  have ih0 := dowelref01_digits.mono_l k
  unfold dowelref01_digits.f
  repeat' first
      | (with_reducible exact ih0 _ _ _)
      | (with_reducible exact dowelref01_trim.mono _ _)
      | (with_reducible exact LeO.refl _)
      | (with_reducible exact LeO.none _)
      | (with_reducible refine LeO.ite ?_ ?_)
      | (with_reducible refine LeO.bind ?_ (fun _ => ?_))
      | exact ih0 _ _ _
      | exact dowelref01_trim.mono _ _
      | exact LeO.none _
      | refine LeO.ite ?_ ?_
      | refine LeO.bind ?_ (fun _ => ?_)
end Go.Proofs.YtiikfhdmclmjmaaDoor.P
namespace Go.Proofs.YtiikfhdmclmjmaaDoor.P
open Go.RowKit Go.Proofs.YtiikfhdmclmjmaaDoorW.PrintWords Go.Proofs.YtiikfhdmclmjmaaDoorW.PrintLast
set_option linter.unusedVariables false
set_option linter.unusedSimpArgs false
def dowelref01_Sign.f (a0 : ByteArray) : Option (Int) := if a0.toList = ([48] : List UInt8) then (some 0) else (if 0 < (a0.size : Int) then (if (bt a0 0) = 45 then (some (-1)) else (some 1)) else (none))
end Go.Proofs.YtiikfhdmclmjmaaDoor.P
namespace Go.Proofs.YtiikfhdmclmjmaaDoor.Pure
open Go.RowKit Go.Proofs.YtiikfhdmclmjmaaDoorW.PrintWords Go.Proofs.YtiikfhdmclmjmaaDoor.P
set_option linter.unusedVariables false
set_option linter.unusedSimpArgs false
theorem TEN2 : 2 ≤ 10 := by decide
abbrev T (z : Int) : ByteArray := ⟨(Lib.itoa z).toArray⟩
theorem rtrim_l0 (l : List Int) (hmax : l.length ≤ 4611686018427387904) : ∀ i : Nat, i ≤ l.length → Ev (fun k => dowelref01_trim.l0 k l (i : Int)) (trimL (l.take i))
  | 0, hi => Ev.step (fun k => dowelref01_trim.l0.eq_2 ..) (Ev.neg (by omega) (Ev.pos (by omega) (Ev.pos (by omega) (Ev.some_ (by simp [trimL])))))
  | i + 1, hi => by
    have e : wrap64 (((i + 1 : Nat) : Int) - 1) = (i : Int) := by rw [w64 _ (by omega) (by omega)]; omega
    have q1 : ((i + 1 : Nat) : Int) > 0 := by omega
    have q2 : (0 : Int) ≤ (i : Int) := by omega
    have q3 : (i : Int) < (l.length : Int) := by omega
    have q4 : (0 : Int) ≤ ((i + 1 : Nat) : Int) := by omega
    have q5 : ((i + 1 : Nat) : Int) ≤ (l.length : Int) := by omega
    have q6 : i ≤ l.length := by omega
    refine Ev.step (fun k => dowelref01_trim.l0.eq_2 ..) (Ev.pos q1 ?_)
    rw [e]
    refine Ev.pos q2 (Ev.pos q3 ?_)
    rw [take_at (show i < l.length by omega)]
    by_cases hz : rd l (i : Int) = 0
    · rw [hz, trimL_snoc0]
      exact Ev.pos rfl (rtrim_l0 l hmax i q6)
    · refine Ev.neg hz (Ev.pos q4 (Ev.pos q5 (Ev.some_ ?_)))
      rw [trimL_snoc _ hz, Int.toNat_natCast, take_at (show i < l.length by omega)]
theorem rtrim_ev (l : List Int) (hmax : l.length ≤ 4611686018427387904) : Ev (fun k => dowelref01_trim.f k l) (trimL l) := by
  have := rtrim_l0 l hmax l.length (Nat.le_refl _)
  rwa [List.take_length] at this
def chr10 (d : Int) : UInt8 := UInt8.ofNat (48 + d.toNat)
theorem dec_dgs (n : Nat) (h : 0 < n) : Lib.decDigits n = (dgs 10 n).reverse.map chr10 := by
  induction n using Nat.strongRecOn with
  | _ n ih =>
    rw [dgs_pos TEN2 h, List.reverse_cons, List.map_append]
    by_cases hs : n < 10
    · rw [dec_small hs, Nat.div_eq_of_lt hs, dgs_zero, Nat.mod_eq_of_lt hs]
      simp [chr10]
    · rw [dec_big hs, ih (n / 10) (by omega) (by omega)]
      simp only [List.map_cons, List.map_nil, chr10, Int.toNat_natCast]
theorem dec_zero : Lib.decDigits 0 = [48] := dec_small (by decide)
theorem rtext_l0 (l : List Int) (hl : Digs 10 l) (hmax : l.length ≤ 1099511627776) : ∀ (i : Nat) (x : List Int), i ≤ l.length → x.length + i ≤ 1099511627777 →
    Ev (fun k => dowelref01_text.l0 k l x ((i : Int) - 1)) (strOfNums (x ++ ((l.take i).reverse.map fun d => 48 + d)))
  | 0, x, hi, hx => by
    refine Ev.step (fun k => dowelref01_text.l0.eq_2 ..) (Ev.neg (by omega) (Ev.some_ ?_))
    simp
  | i + 1, x, hi, hx => by
    have hd := rd_digs hl (show i < l.length by omega)
    have e : (((i + 1 : Nat) : Int) - 1) = (i : Int) := by omega
    have q1 : (i : Int) ≥ 0 := by omega
    have q3 : (i : Int) < (l.length : Int) := by omega
    have q4 : x.length < 140737488355328 := by omega
    have q6 : i ≤ l.length := by omega
    have ew : wrap64 ((i : Int) - 1) = (i : Int) - 1 := w64 _ (by omega) (by omega)
    have ed : (wrap64 (48 + (rd l (i : Int)))) % 256 = 48 + rd l (i : Int) := by rw [w64 _ (by omega) (by omega)]; omega
    have ih := rtext_l0 l hl hmax i (x ++ [48 + rd l (i : Int)]) q6 (by simp; omega)
    rw [take_at (show i < l.length by omega), e]
    refine Ev.step (fun k => dowelref01_text.l0.eq_2 ..) (Ev.pos q1 (Ev.pos q1 (Ev.pos q3 (Ev.pos q4 ?_))))
    rw [ed, ew]
    simpa using ih
theorem nums_chr (x : List Int) (l : List Int) (h : Digs 10 l) : strOfNums (x ++ (l.reverse.map fun d => 48 + d)) = ⟨((x.map fun n => UInt8.ofNat n.toNat) ++ l.reverse.map chr10).toArray⟩ := by
  unfold strOfNums
  rw [List.map_append, List.map_map]
  congr 3
  apply List.map_congr_left
  intro d hd
  have := h d (by simpa using hd)
  show UInt8.ofNat (48 + d).toNat = UInt8.ofNat (48 + d.toNat)
  congr 1
  omega
theorem rtext_ev (neg : Bool) (l : List Int) (n : Nat) (hl : Digs 10 l) (hv : val 10 l = n) (hmax : l.length ≤ 1099511627776) :
    Ev (fun k => dowelref01_text.f k neg l) (T (if neg = true then -(n : Int) else n)) := by
  have ht : trimL l = dgs 10 n := trimL_dgs TEN2 hl hv
  have hlen := trimL_len l
  rw [ht] at hlen
  refine Ev.bind (rtrim_ev l (by omega)) ?_
  rw [ht]
  have hd := dgs_digs TEN2 n
  have hn0 := dgs_nil TEN2 (n := n)
  rcases Nat.eq_zero_or_pos n with rfl | hn
  · rw [dgs_zero]
    refine Ev.pos rfl (Ev.some_ ?_)
    have : (if neg = true then -((0 : Nat) : Int) else ((0 : Nat) : Int)) = ((0 : Nat) : Int) := by split <;> rfl
    rw [this]
    show _ = (⟨(Lib.itoa ((0 : Nat) : Int)).toArray⟩ : ByteArray)
    rw [itoa_nat, dec_zero]
  · have hne : ¬ ((dgs 10 n).length : Int) = 0 := by
      intro e
      have : (dgs 10 n).length = 0 := by omega
      have := hn0.1 (List.length_eq_zero_iff.1 this)
      omega
    have hw : wrap64 (((dgs 10 n).length : Int) - 1) = ((dgs 10 n).length : Int) - 1 := w64 _ (by omega) (by omega)
    refine Ev.neg hne ?_
    by_cases hg : neg = true
    · refine Ev.pos hg (Ev.pos (by simp) (Ev.step (fun k => dowelref01_text.j0.eq_2 ..) ?_))
      rw [hw]
      have := rtext_l0 (dgs 10 n) hd (by omega) (dgs 10 n).length ([] ++ [45]) (Nat.le_refl _) (by simp; omega)
      rw [List.take_length, nums_chr _ _ hd] at this
      rw [if_pos hg]
      have e : (⟨((([] ++ [45] : List Int).map fun n => UInt8.ofNat n.toNat) ++ (dgs 10 n).reverse.map chr10).toArray⟩ : ByteArray) = T (-(n : Int)) := by
        rw [← dec_dgs n hn]
        unfold T Lib.itoa
        rw [if_pos (by omega), show (-(n : Int)).natAbs = n by omega]
        rfl
      rw [e] at this
      exact this
    · refine Ev.neg hg (Ev.step (fun k => dowelref01_text.j0.eq_2 ..) ?_)
      rw [hw]
      have := rtext_l0 (dgs 10 n) hd (by omega) (dgs 10 n).length [] (Nat.le_refl _) (by simp; omega)
      rw [List.take_length, nums_chr _ _ hd] at this
      rw [if_neg hg]
      have e : (⟨((([] : List Int).map fun n => UInt8.ofNat n.toNat) ++ (dgs 10 n).reverse.map chr10).toArray⟩ : ByteArray) = T n := by
        rw [← dec_dgs n hn]
        show _ = (⟨(Lib.itoa (n : Int)).toArray⟩ : ByteArray)
        rw [itoa_nat]
        rfl
      rw [e] at this
      exact this
theorem rtext_to (neg : Bool) (l : List Int) (n : Nat) (z : Int) (hl : Digs 10 l) (hv : val 10 l = n) (hmax : l.length ≤ 1099511627776) (hz : z = if neg = true then -(n : Int) else n) :
    Ev (fun k => dowelref01_text.f k neg l) (T z) := by
  rw [hz]
  exact rtext_ev neg l n hl hv hmax
def num10 (b : UInt8) : Int := (b.toNat : Int) - 48
theorem dec_rev (n : Nat) : trimL ((Lib.decDigits n).reverse.map num10) = dgs 10 n := by
  rcases Nat.eq_zero_or_pos n with rfl | h
  · rw [dec_zero, dgs_zero]
    rfl
  · rw [dec_dgs n h, ← List.map_reverse, List.reverse_reverse, List.map_map]
    have : (dgs 10 n).map (num10 ∘ chr10) = (dgs 10 n).map id := by
      apply List.map_congr_left
      intro d hd
      have := dgs_digs TEN2 n d hd
      show ((UInt8.ofNat (48 + d.toNat)).toNat : Int) - 48 = d
      rw [UInt8.toNat_ofNat']
      omega
    rw [this, List.map_id]
    exact trimL_of_norm (dgs_norm TEN2 n)
theorem itoa_48 {z : Int} : Lib.itoa z = [48] ↔ z = 0 := by
  constructor
  · intro h
    unfold Lib.itoa at h
    split at h
    · cases h
    · have h2 := dec_rev z.toNat
      rw [h] at h2
      have : dgs 10 z.toNat = [] := h2.symm
      have := (dgs_nil TEN2).1 this
      omega
  · rintro rfl
    show Lib.itoa ((0 : Nat) : Int) = _
    rw [itoa_nat, dec_zero]
theorem T_48 (z : Int) : (T z).toList = ([48] : List UInt8) ↔ z = 0 := by
  rw [ByteArray.toList_eq]
  exact itoa_48
theorem rfrom_l0 (z : Int) : ∀ (m : Nat) (y : Int) (x : List Int), y.natAbs = m → (0 < y → ¬ z < 0) → (y < 0 → z < 0) → -9223372036854775808 ≤ y → y ≤ 9223372036854775807 → Digs 10 x → val 10 x + 10 ^ x.length * (y.natAbs : Int) = z.natAbs → x.length + (dgs 10 m).length ≤ 1099511627776 →
    Ev (fun k => dowelref01_From.l0 k z x y) (T z) := by
  intro m
  induction m using Nat.strongRecOn with
  | _ m ih =>
    intro y x hm hp hn b0 b1 hx hv hl
    by_cases hy : y = 0
    · refine Ev.step (fun k => dowelref01_From.l0.eq_2 ..) (Ev.pos hy ?_)
      subst hy
      refine Ev.bind (rtext_to _ x z.natAbs z hx (by simpa using hv) (by omega) ?_) (Ev.now _)
      by_cases hz : z < 0
      · rw [if_pos (by simpa using hz)]; omega
      · rw [if_neg (by simpa using hz)]; omega
    · have hq : (Int.tdiv y 10).natAbs = m / 10 := by rw [← hm, Int.natAbs_tdiv]; rfl
      have hpos : 0 < m := by omega
      have hd : dgs 10 m = ((m % 10 : Nat) : Int) :: dgs 10 (m / 10) := dgs_pos TEN2 hpos
      have hlen : (dgs 10 m).length = (dgs 10 (m / 10)).length + 1 := by rw [hd]; simp
      have hvv : ∀ d : Int, d = ((m % 10 : Nat) : Int) → Digs 10 (x ++ [d]) ∧ val 10 (x ++ [d]) + 10 ^ (x ++ [d]).length * ((Int.tdiv y 10).natAbs : Int) = z.natAbs := by
        rintro d rfl
        refine ⟨hx.app (Digs.mk (by omega) (by omega) (Digs.nil _)), ?_⟩
        rw [val_app, hq, List.length_append, List.length_singleton, Int.pow_succ, Int.mul_assoc]
        simp only [val]
        rw [Int.mul_zero, Int.add_zero, Int.add_assoc, ← Int.mul_add, ← hv, hm]
        congr 2
        omega
      have et : Int.tdiv y 10 = if 0 ≤ y then y / 10 else -((-y) / 10) := by
        by_cases h : 0 ≤ y
        · rw [if_pos h, Int.tdiv_eq_ediv_of_nonneg h]
        · rw [if_neg h, ← Int.tdiv_eq_ediv_of_nonneg (by omega), Int.neg_tdiv]; omega
      have em : Int.tmod y 10 = if 0 ≤ y then y % 10 else -((-y) % 10) := by
        by_cases h : 0 ≤ y
        · rw [if_pos h, Int.tmod_eq_emod_of_nonneg h]
        · rw [if_neg h, ← Int.tmod_eq_emod_of_nonneg (by omega), Int.neg_tmod]; omega
      have ew : wrap64 (Int.tdiv y 10) = Int.tdiv y 10 := w64 _ (by rw [et]; split <;> omega) (by rw [et]; split <;> omega)
      have s0 : -9223372036854775808 ≤ Int.tdiv y 10 := by rw [et]; split <;> omega
      have s1 : Int.tdiv y 10 ≤ 9223372036854775807 := by rw [et]; split <;> omega
      have s2 : 0 < Int.tdiv y 10 → ¬ z < 0 := by rw [et]; intro h; apply hp; split at h <;> omega
      have s3 : Int.tdiv y 10 < 0 → z < 0 := by rw [et]; intro h; apply hn; split at h <;> omega
      have s4 : x.length < 17592186044416 := by omega
      have s5 : m / 10 < m := by omega
      refine Ev.step (fun k => dowelref01_From.l0.eq_2 ..) (Ev.neg hy ?_)
      rw [ew]
      by_cases hs : Int.tmod y 10 < 0
      · have e1 : wrap64 (-(Int.tmod y 10)) = ((m % 10 : Nat) : Int) := by
          rw [em] at hs ⊢
          split at hs
          · omega
          · rename_i hy2
            rw [if_neg hy2, w64 _ (by omega) (by omega)]
            omega
        have hh := hvv _ e1
        refine Ev.pos hs (Ev.pos s4 ?_)
        exact ih (m / 10) s5 _ _ hq s2 s3 s0 s1 hh.1 hh.2 (by simp; omega)
      · have e1 : Int.tmod y 10 = ((m % 10 : Nat) : Int) := by
          rw [em] at hs ⊢
          split at hs
          · rename_i hy2
            rw [if_pos hy2]
            omega
          · rename_i hy2
            rw [if_neg hy2]
            omega
        have hh := hvv _ e1
        refine Ev.neg hs (Ev.pos s4 ?_)
        exact ih (m / 10) s5 _ _ hq s2 s3 s0 s1 hh.1 hh.2 (by simp; omega)
theorem rfrom_ev (z : Int) (h0 : -9223372036854775808 ≤ z) (h1 : z ≤ 9223372036854775807) : Ev (fun k => dowelref01_From.f k z) (T z) := by
  refine rfrom_l0 z z.natAbs z [] rfl (by omega) (by omega) h0 h1 (Digs.nil _) (by simp [val]) ?_
  have := dgs_len TEN2 20 z.natAbs (by omega)
  simp
  omega
end Go.Proofs.YtiikfhdmclmjmaaDoor.Pure
namespace Go.Proofs.YtiikfhdmclmjmaaDoor.Pure
open Go.RowKit Go.Proofs.YtiikfhdmclmjmaaDoorW.PrintWords Go.Proofs.YtiikfhdmclmjmaaDoor.P
set_option linter.unusedVariables false
set_option linter.unusedSimpArgs false
theorem lm_small (z : Int) (h : z ≠ 0) (h2 : z.natAbs < 4294967296) : lm z = [(z.natAbs : Int)] := by
  rw [lm, dgs_pos BB2 (by omega), Nat.div_eq_of_lt h2, dgs_zero, Nat.mod_eq_of_lt h2]
theorem kn_div : integer_DivMod.f 100 true [7] false [2] = some (true, [4], false, [1], 0) := by kernel_rfl
theorem kn_pow : integer_Power.f 100 true [10] 3 = some (true, [1000], 0) := by kernel_rfl
theorem kn_gcd : integer_Gcd.f 100 true [12] false [18] = some (false, [6]) := by kernel_rfl
theorem kn_bits : integer_Int_Bits.f false [256] = some 9 := by kernel_rfl
theorem small_text (z : Int) (h : z ≠ 0) (h2 : z.natAbs < 4294967296) : Ev (fun k => integer_Int_Text.f k (decide (z < 0)) [(z.natAbs : Int)]) (T z) := by
  have h10 : (Lib.decDigits z.natAbs).length ≤ 10 := by
    rw [dec_dgs _ (by omega)]
    simpa using dgs_len TEN2 10 z.natAbs (by omega)
  have := text_ev z (by rw [lm_small z h h2]; simp) (by omega)
  rwa [lm_small z h h2] at this
theorem small_from (z : Int) (h : z ≠ 0) (h2 : z.natAbs < 4294967296) : Ev (fun k => integer_From.f k z) (decide (z < 0), [(z.natAbs : Int)]) := by
  have := from_ev z (by omega) (by omega)
  rwa [lm_small z h h2] at this
theorem small_t (z : Int) (b : Bool) (l : List Int) (h : z ≠ 0) (h2 : z.natAbs < 4294967296) (hb : decide (z < 0) = b) (hl : [(z.natAbs : Int)] = l) : Ev (fun k => integer_Int_Text.f k b l) (T z) := hb ▸ hl ▸ small_text z h h2
theorem small_f (z : Int) (b : Bool) (l : List Int) (h : z ≠ 0) (h2 : z.natAbs < 4294967296) (hb : decide (z < 0) = b) (hl : [(z.natAbs : Int)] = l) : Ev (fun k => integer_From.f k z) (b, l) := hb ▸ hl ▸ small_from z h h2
theorem known_ev : Ev (fun k => dowellaw01_known.f k) true := by
  unfold dowellaw01_known.f
  refine Ev.bind (small_f (-7) true [7] (by decide) (by decide) (by decide) rfl) (Ev.bind (small_f 2 false [2] (by decide) (by decide) (by decide) rfl) ?_)
  refine Ev.bind (a := (true, [4], false, [1], 0)) (Ev.of (integer_DivMod.mono _ _ _ _) kn_div) ?_
  refine Ev.bind (small_f (-10) true [10] (by decide) (by decide) (by decide) rfl) ?_
  refine Ev.bind (a := (true, [1000], 0)) (Ev.of (integer_Power.mono _ _ _) kn_pow) ?_
  refine Ev.bind (small_t (-4) true [4] (by decide) (by decide) (by decide) rfl) ?_
  refine Ev.pos ?_ ?_
  · rw [ByteArray.toList_eq]
    show Lib.itoa (-4) = _
    unfold Lib.itoa
    rw [if_pos (by decide), show (-4 : Int).natAbs = 4 from rfl, dec_small (by decide)]
    rfl
  refine Ev.bind (small_t 1 false [1] (by decide) (by decide) (by decide) rfl) ?_
  refine Ev.pos ?_ ?_
  · rw [ByteArray.toList_eq]
    show Lib.itoa ((1 : Nat) : Int) = _
    rw [itoa_nat, dec_small (by decide)]
    rfl
  refine Ev.pos rfl ?_
  refine Ev.bind (small_t (-1000) true [1000] (by decide) (by decide) (by decide) rfl) ?_
  refine Ev.pos ?_ ?_
  · rw [ByteArray.toList_eq]
    show Lib.itoa (-1000) = _
    unfold Lib.itoa
    rw [if_pos (by decide), show (-1000 : Int).natAbs = 1000 from rfl, dec_big (by decide), dec_big (by decide), dec_big (by decide), dec_small (by decide)]
    rfl
  refine Ev.pos rfl ?_
  refine Ev.bind (small_f (-12) true [12] (by decide) (by decide) (by decide) rfl) (Ev.bind (small_f 18 false [18] (by decide) (by decide) (by decide) rfl) ?_)
  refine Ev.bind (a := (false, [6])) (Ev.of (integer_Gcd.mono _ _ _ _) kn_gcd) ?_
  refine Ev.bind (small_t 6 false [6] (by decide) (by decide) (by decide) rfl) ?_
  refine Ev.pos ?_ ?_
  · rw [ByteArray.toList_eq]
    show Lib.itoa ((6 : Nat) : Int) = _
    rw [itoa_nat, dec_small (by decide)]
    rfl
  refine Ev.bind (small_f 256 false [256] (by decide) (by decide) (by decide) rfl) ?_
  exact Ev.bind0 (a := 9) kn_bits (Ev.some_ rfl)
end Go.Proofs.YtiikfhdmclmjmaaDoor.Pure
namespace Go.Proofs.YtiikfhdmclmjmaaDoor.Pure
open Go.RowKit Go.Proofs.YtiikfhdmclmjmaaDoorW.PrintWords Go.Proofs.YtiikfhdmclmjmaaDoor.P
set_option linter.unusedVariables false
set_option linter.unusedSimpArgs false
theorem or_zero (d : Int) (h0 : 0 ≤ d) (h1 : d < 4294967296) : Go.bits .or .u64 0 d = d := by
  have := bits_join .u64 64 (by decide) (fun n h0 h1 => u64s n h0 h1) 32 0 d (by omega) (by omega) (by omega) h0 h1 (by omega)
  rw [this]; omega
theorem or_low (d x : Int) (h0 : 0 ≤ d) (h1 : d < 4294967296) (x0 : 0 ≤ x) (x1 : x < 4294967296) : Go.bits .or .u64 d (x * 4294967296) = d + x * 4294967296 := by
  obtain ⟨a, rfl⟩ := Int.eq_ofNat_of_zero_le h0
  obtain ⟨b, rfl⟩ := Int.eq_ofNat_of_zero_le x0
  have ha : a < 2 ^ 64 := by omega
  have hb : b * 4294967296 < 2 ^ 64 := by omega
  have e : ((b : Int) * 4294967296) = ((b * 4294967296 : Nat) : Int) := by omega
  have k1 := (bits_nat .u64 64 (by decide) (fun n h0 h1 => u64s n h0 h1) a (b * 4294967296) ha hb).2
  have k2 := (bits_nat .u64 64 (by decide) (fun n h0 h1 => u64s n h0 h1) (b * 4294967296) a hb ha).2
  have k3 := bits_join .u64 64 (by decide) (fun n h0 h1 => u64s n h0 h1) 32 ((b * 4294967296 : Nat) : Int) (a : Int) (by omega) (by omega) (by omega) (by omega) (by omega) (by omega)
  rw [e, k1, Nat.or_comm, ← k2, k3]
  omega
theorem shl_0 (d : Int) (h0 : 0 ≤ d) (h1 : d < 4294967296) : shl .u64 d 0 = d := by
  unfold shl
  rw [show min (0 : Int).toNat IntKind.u64.bits = 0 from rfl, Int.pow_zero, Int.mul_one, u64s d h0 (by omega)]
theorem shl_32 (d : Int) (h0 : 0 ≤ d) (h1 : d < 4294967296) : shl .u64 d 32 = d * 4294967296 := by
  unfold shl
  rw [show min (32 : Int).toNat IntKind.u64.bits = 32 from rfl, show (2 : Int) ^ 32 = 4294967296 from rfl, u64s _ (by omega) (by omega)]
theorem w0 : wrap64 (32 * 0) = 0 := by rw [w64 _ (by decide) (by decide)]; rfl
theorem w1 : wrap64 (32 * 1) = 32 := by rw [w64 _ (by decide) (by decide)]; rfl
theorem w01 : wrap64 (0 + 1) = 1 := by rw [w64 _ (by decide) (by decide)]; rfl
theorem w12 : wrap64 (1 + 1) = 2 := by rw [w64 _ (by decide) (by decide)]; rfl
theorem int_end (z : Int) (l : List Int) (n len : Int) (hz : (z.natAbs : Int) < 18446744073709551616) (h : ¬ n < len) :
    Ev (fun k => integer_Int_Int.l0 k (z.natAbs : Int) l len n (decide (z < 0)) (lm z)) (if -9223372036854775808 ≤ z ∧ z ≤ 9223372036854775807 then (z, true) else (0, false)) := by
  refine Ev.step (fun k => integer_Int_Int.l0.eq_2 ..) (Ev.neg h ?_)
  by_cases hn : z < 0
  · refine Ev.pos (by simpa using hn) (Ev.step (fun k => integer_Int_Int.j1.eq_2 ..) (Ev.neg (by simp) (Ev.pos (by simpa using hn) ?_)))
    by_cases hb : (z.natAbs : Int) ≤ 9223372036854775808
    · refine Ev.pos hb (Ev.some_ ?_)
      rw [if_pos (by omega)]
      have : wrap64 (IntKind.u64.wrap (-(z.natAbs : Int))) = z := by
        rw [u64]
        unfold wrap64
        omega
      rw [this]
    · exact Ev.neg hb (Ev.some_ (by rw [if_neg (by omega)]))
  · refine Ev.neg (by simpa using hn) (Ev.step (fun k => integer_Int_Int.j1.eq_2 ..) ?_)
    by_cases hb : (z.natAbs : Int) < 9223372036854775808
    · refine Ev.pos (by simpa using hb) (Ev.some_ ?_)
      rw [if_pos (by omega), w64 _ (by omega) (by omega)]
      have : (z.natAbs : Int) = z := by omega
      rw [this]
    · exact Ev.neg (by simpa using hb) (Ev.neg (by simpa using hn) (Ev.some_ (by rw [if_neg (by omega)])))
theorem int_ev (z : Int) : Ev (fun k => integer_Int_Int.f k (decide (z < 0)) (lm z)) (if -9223372036854775808 ≤ z ∧ z ≤ 9223372036854775807 then (z, true) else (0, false)) := by
  unfold integer_Int_Int.f
  have hd := lm_digs z
  have hv := lm_val z
  have hl := lm_norm z
  have hlt := val_lt (B := 4294967296) (by decide) hd
  match hm : lm z, hd, hv, hl, hlt with
  | [], hd, hv, hl, hlt =>
    have : z = 0 := lm_nil.1 hm
    refine Ev.neg (by simp) ?_
    have e := int_end z [] 0 0 (by simp [val] at hv; omega) (by omega)
    rw [hm] at e
    simp only [val] at hv
    rw [← hv] at e
    exact e
  | [a], hd, hv, hl, hlt =>
    have ha := hd.cons.1
    simp only [val] at hv
    have e := int_end z [a] 1 1 (by omega) (by omega)
    rw [hm, ← hv, show a + 4294967296 * 0 = a by omega] at e
    refine Ev.neg (by simp) (Ev.step (fun k => integer_Int_Int.l0.eq_2 ..) (Ev.pos (by simp) (Ev.pos (by omega) (Ev.pos (by simp) ?_))))
    rw [w0, w01, show rd [a] 0 = a from rfl, u64s a ha.1 (by omega), shl_0 a ha.1 ha.2, or_zero a ha.1 ha.2]
    exact Ev.pos (by omega) e
  | [a, b], hd, hv, hl, hlt =>
    have ha := hd.cons.1
    have hb := hd.cons.2.cons.1
    simp only [val] at hv
    have e := int_end z [a, b] 2 2 (by omega) (by omega)
    rw [hm, ← hv, show a + 4294967296 * (b + 4294967296 * 0) = a + b * 4294967296 by omega] at e
    refine Ev.neg (by simp) (Ev.step (fun k => integer_Int_Int.l0.eq_2 ..) (Ev.pos (by simp) (Ev.pos (by omega) (Ev.pos (by simp) ?_))))
    rw [w0, w01, show rd [a, b] 0 = a from rfl, u64s a ha.1 (by omega), shl_0 a ha.1 ha.2, or_zero a ha.1 ha.2]
    refine Ev.pos (by omega) (Ev.step (fun k => integer_Int_Int.l0.eq_2 ..) (Ev.pos (by simp) (Ev.pos (by omega) (Ev.pos (by simp) ?_))))
    rw [w1, w12, show rd [a, b] 1 = b from rfl, u64s b hb.1 (by omega), shl_32 b hb.1 hb.2, or_low a b ha.1 ha.2 hb.1 hb.2]
    exact Ev.pos (by omega) e
  | a :: b :: c :: r, hd, hv, hl, hlt =>
    refine Ev.pos (by simp; omega) (Ev.some_ ?_)
    have ha := hd.cons.1
    have hb := hd.cons.2.cons.1
    have hn := norm_pos (B := 4294967296) (by decide) hd.cons.2.cons.2 hl.tail.tail (by simp)
    rw [val, val] at hv
    rw [if_neg (by omega)]
end Go.Proofs.YtiikfhdmclmjmaaDoor.Pure
namespace Go.Proofs.YtiikfhdmclmjmaaDoor.Pure
open Go.RowKit Go.Proofs.YtiikfhdmclmjmaaDoorW.PrintWords Go.Proofs.YtiikfhdmclmjmaaDoor.P
set_option linter.unusedVariables false
set_option linter.unusedSimpArgs false
theorem i64_bounds {z : Int} (h : (Lit.int .i64 z).wf = true) : -9223372036854775808 ≤ z ∧ z ≤ 9223372036854775807 := by
  simp [Lit.wf, IntKind.min, IntKind.max, IntKind.signed, IntKind.bits] at h
  omega
theorem lm_small_len (z : Int) (h0 : -9223372036854775808 ≤ z) (h1 : z ≤ 9223372036854775807) : (lm z).length ≤ 2 := dgs_len BB2 2 _ (by show _ < 18446744073709551616; omega)
theorem dec_small_len (n k : Nat) (h : n < 10 ^ (k + 1)) : (Lib.decDigits n).length ≤ k + 1 := (pd_pad k n h).1
theorem IntegerFrom : dowellaw01_IntegerFrom.Pure := by
  intro z hz
  obtain ⟨h0, h1⟩ := i64_bounds hz
  have hl := lm_small_len z h0 h1
  have hd : (Lib.decDigits z.natAbs).length ≤ 20 := dec_small_len _ 19 (by show _ < 100000000000000000000; omega)
  refine Ev.rounds (g := fun k => dowellaw01_IntegerFrom.f k z) ?_
  unfold dowellaw01_IntegerFrom.f
  refine Ev.bind known_ev (Ev.pos rfl (Ev.bind (from_ev z h0 h1) ?_))
  have hi := int_ev z
  rw [if_pos ⟨h0, h1⟩] at hi
  refine Ev.bind hi (Ev.bind (text_ev z (by omega) (by omega)) (Ev.bind (rfrom_ev z h0 h1) (Ev.pos rfl (Ev.pos rfl (Ev.pos rfl ?_)))))
  have l0 : lm 0 = [] := lm_nil.2 rfl
  have t0 := text_ev 0 (by rw [l0]; simp) (by rw [show (0 : Int).natAbs = 0 from rfl, dec_zero]; simp)
  rw [l0] at t0
  refine Ev.bind t0 (Ev.pos ((T_48 0).2 rfl) ?_)
  have s0 := sign_eq 0
  rw [l0] at s0
  refine Ev.bind0 s0 (Ev.pos rfl ?_)
  refine Ev.bind (from_ev 0 (by decide) (by decide)) ?_
  have c0 := compare_ev 0 0 (by rw [l0]; simp) (by rw [l0]; simp)
  rw [l0] at c0 ⊢
  exact Ev.bind c0 (Ev.some_ rfl)
end Go.Proofs.YtiikfhdmclmjmaaDoor.Pure
namespace Go.Proofs.YtiikfhdmclmjmaaDoor
namespace LawIntegerFrom
open Go Go.ChangeShapes Go.WideShapes Go.ChangeAt Go.RowKit
open Go.ChangeMaps (open_string shut_string)
set_option linter.unusedVariables false
theorem own : ownKnob Tryd.prog.godebug = none := by kernel_rfl
theorem door_met (os : Os) (args : Array Value) : laidMetH Tryd.prog Rows.integerFromRow.laid ((World.doorLaid Tryd.prog 62 os).forCall (fun _ _ => 0) ⟨#[], args, []⟩).memory :=
  laidMetH_of_parts3 (fuel := 8) (laidMet_of_run' 8 (by kernel_rfl) (by kernel_rfl)) (by kernel_rfl) (by kernel_rfl)
theorem of_laid {W : World} (h : laidMetH Tryd.prog Rows.integerFromRow.laid W) : P.G W := by
  rw [MakeChecks.laidMetH_plain _ _ _ (by kernel_rfl)] at h
  replace h := laidMet.tail h
  replace h := laidMet.tail h
  exact Lib.tabIs_of_head (g := 2) (t := 126) (e := 58) (n := 20) (by kernel_rfl) (by kernel_rfl) (by kernel_rfl) (by kernel_rfl) (by kernel_rfl) (by kernel_rfl) h
set_option maxRecDepth 100000 in
theorem lifted (os : Os) (started : os.Started) (H : Type) (enc : TypeId × Value → H) :
    ReturnsInHanded {} Tryd.checked os 3 .any (fun w args => (Rows.integerFromSpec.pre enc Tryd.prog Tryd.f3 [] false w args ∧ laidMetH Tryd.prog Rows.integerFromRow.laid w) ∧ sizedMet enc Tryd.prog Tryd.f3 (OpenSpec.ofChange Rows.integerFromSpec) false w args)
      (Rows.integerFromSpec.post enc Tryd.prog Tryd.f3 false true false false) := by
  refine returnsInHanded_of_change_and (C := Tryd.checked) (X := fun w _ => laidMetH Tryd.prog Rows.integerFromRow.laid w) (fun _ _ _ hh h => h.of_heap hh) own started (by kernel_rfl) Tryd.func3
    (ChangeSpec.witness_shaped (enc := enc) (C := Tryd.checked) (os := os) (X := fun w _ => laidMetH Tryd.prog Rows.integerFromRow.laid w) false (World.doorLaid Tryd.prog 62 os) #[.int .i64 0] 8 rfl (World.shaped_of_RefB (by kernel_rfl) (by kernel_rfl)) (by kernel_rfl) (by kernel_rfl) (by kernel_rfl) (door_met os _)) ?_
  intro W base args ds gs before hval0 hW _ hsz0 hL _
  have hval : ∀ (j : Nat) t v, Tryd.f3.params[j]? = some t → args[j]? = some v → Value.okWide Tryd.prog W .any base t v := hval0
  have hW' := hW
  obtain ⟨p, q, hA0, hV, rfl, hfz, hnd⟩ := hW
  have hA : DataW.TrodAll enc Tryd.prog W 0 (fun _ => true) true Tryd.f3.params.toList args.toList ds p := hA0
  rw [Tryd.params3] at hA hval
  obtain ⟨v0, vs0, d0, ds0, p0, q0, hargs, rfl, rfl, h0, r0⟩ := trodAll_cons hA
  obtain ⟨rfl, rfl, rfl⟩ := trodAll_nil r0
  obtain rfl : args = #[v0] := by cases args; simp_all
  obtain ⟨rfl, rfl⟩ := trodVars_none hV
  obtain ⟨a0, rfl, rfl, rfl, w0⟩ := open_int Tryd.underlying3 (hval 0 3 v0 rfl rfl) h0
  clear hA0 hval0 hsz0
  refine (P.dowellaw01_IntegerFrom.walk Pure.IntegerFrom a0 W (of_laid hL) w0).mono fun e W' ⟨he, bel⟩ => ?_
  subst he
  exact ⟨_, rfl, _, _, _, [], _, [], hW', trodAll_mk1 (shut_bool Tryd.underlying4 _), (trodAll_cons_mk (shut_int Tryd.underlying3 w0) trodAll_mk0), rfl, bel.frame _, fun h => by cases h⟩
theorem row_holds : Rows.IntegerFromSaid :=
  OpenClaim.holds_of_wide 3 Tryd.f3 rfl rfl rfl rfl rfl rfl rfl ⟨rfl, rfl, rfl, rfl, rfl⟩ rfl rfl rfl rfl rfl (by kernel_rfl) Tryd.func3 (by kernel_rfl)
    (of_decide_eq_true (by kernel_rfl)) (by unfold Func.isWrapper; first | (rw [if_pos (by decide +kernel)]; kernel_rfl) | (rw [if_neg (by decide +kernel)]; exact ⟨rfl, rfl⟩))
    (fun os started H enc _ => lifted os started H enc)
end LawIntegerFrom
theorem integerFrom_card_holds : Rows.IntegerFromCardSaid :=
  Claim7.holds_tied_plain_at .later [] [.data, .data, .data] true (true, "b8e58543a529613f751f62c69502411f664b93e4867ff6487a7340db5e4f00b4") true
    LawIntegerFrom.row_holds (fun _ h => by cases h) (by kernel_rfl) (fun _ h => by cases h) integerFrom_row_tie rfl ⟨rfl, rfl⟩ (by kernel_rfl) rfl
    (fun f fn hf hfn => by
      obtain rfl : f = 3 := Option.some.inj ((show Tryd.prog.funcNamed "dowel/dowellaw01.IntegerFrom" = some 3 by kernel_rfl).symm.trans hf) |>.symm
      obtain rfl : fn = Tryd.f3 := (Option.some.inj (Tryd.func3.symm.trans hfn)).symm
      exact ⟨by kernel_rfl, fun j t ht => by
        rw [Tryd.params3] at ht
        have hm : t ∈ [3] := by simpa using Array.mem_of_getElem? ht
        have hall : ([3].all fun u => !Tryd.prog.wantsStandIn u) = true := by kernel_rfl
        exact (show Tryd.prog.wantsStandIn t = false by simpa using List.all_eq_true.1 hall t hm)⟩)
    (by kernel_rfl)
end Go.Proofs.YtiikfhdmclmjmaaDoor
