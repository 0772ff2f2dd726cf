/- Part 6 of the proof of IntegerGcds: what the program's functions compute, told as plain functions, and what these answer. Conditions: none beside the statement's own. Gathered by the session's program merge.py out of its own and the printed texts; no declaration that the proof does not name is left in. -/
import Derived.Test.YtiikfhdmclmjmaaDoorIGcd5
import Derived.Lib.Repeat
import Derived.Lib.Join
import Derived.Laws.BytesArg
import Derived.Laws.RangeAny
import Derived.KernelRfl
import Derived.Test.YtiikfhdmclmjmaaDoorRows
import Derived.Test.YtiikfhdmclmjmaaDoorTie
import Derived.Test.YtiikfhdmclmjmaaDoorCards
import Derived.WalkKit
import Derived.ProofKit
import Derived.LaidMore
import Derived.LaidLaws
import Derived.OpenShut
import Derived.ShutString
import Derived.ChangeOld
import Derived.Below
import Derived.SizedLaws
import Derived.Stop.Joined
import Derived.Stop.LaidErr
import Derived.Lib.LaidTab
import Derived.MakeChecks
import Derived.Handed
import Derived.SevenTiedAt
set_option linter.unusedVariables false
set_option linter.unusedSimpArgs false
namespace Go.Proofs.YtiikfhdmclmjmaaDoor.Pure
open Go.RowKit Go.Proofs.YtiikfhdmclmjmaaDoorW.PrintWords Go.Proofs.YtiikfhdmclmjmaaDoor.P
theorem val_inj {B : Int} (hB : 0 < B) : ∀ (l m : List Int), l.length = m.length → Digs B l → Digs B m → val B l = val B m → l = m
 | [], [], _, _, _, _ => rfl
 | a :: l, b :: m, hl, da, db, h => by
  have ha := da.cons.1
  have hb := db.cons.1
  simp only [val] at h
  have e1 : a = b := by
   have h1 : (a + B * val B l) % B = a := by rw [Int.add_mul_emod_self_left]; exact Int.emod_eq_of_lt ha.1 ha.2
   have h2 : (b + B * val B m) % B = b := by rw [Int.add_mul_emod_self_left]; exact Int.emod_eq_of_lt hb.1 hb.2
   rw [← h1, ← h2, h]
  subst e1
  have e2 : val B l = val B m := Int.eq_of_mul_eq_mul_left (by omega) (show B * val B l = B * val B m by omega)
  rw [val_inj hB l m (by simpa using hl) da.cons.2 db.cons.2 e2]
def padR (n : Nat) (z : Int) : List Int := dgs BB z.toNat ++ List.replicate (n - (dgs BB z.toNat).length) 0
theorem padR_all {n : Nat} {z : Int} (h0 : 0 ≤ z) (h1 : z < 4294967296 ^ n) : (padR n z).length = n ∧ Digs 4294967296 (padR n z) ∧ val 4294967296 (padR n z) = z := by
 have hl : (dgs BB z.toNat).length ≤ n := dgs_len BB2 n z.toNat (by
  have : ((z.toNat : Nat) : Int) < ((BB ^ n : Nat) : Int) := by rw [Int.natCast_pow, Int.toNat_of_nonneg h0]; exact h1
  exact Int.ofNat_lt.1 this)
 unfold padR
 refine ⟨by rw [List.length_append, List.length_replicate]; omega, (dgs_digs BB2 _).app (Digs.zeros _ (by decide) _), ?_⟩
 rw [val_app, val_zeros, Int.mul_zero, Int.add_zero]
 have := dgs_val BB2 z.toNat
 rw [Int.toNat_of_nonneg h0] at this
 exact this
theorem digit_ev (u v : List Int) (n : Nat) (hn : 2 ≤ n) (hmax : n ≤ 1000000) (hv : v.length = n) (hu : u.length = n + 1) (dv : Digs 4294967296 v) (du : Digs 4294967296 u) (ht : 2147483648 ≤ rd v ((n - 1 : Nat) : Int)) (hUV : val 4294967296 u < 4294967296 * val 4294967296 v) :
  Ev (fun k => integer_digit.f k u v) (val 4294967296 u / val 4294967296 v, padR (n + 1) (val 4294967296 u % val 4294967296 v)) := by
 have b1 := rd_digs dv (show n - 1 < v.length by omega)
 have b2 := rd_digs dv (show n - 2 < v.length by omega)
 have c0 := rd_digs du (show n < u.length by omega)
 have c1 := rd_digs du (show n - 1 < u.length by omega)
 have c2 := rd_digs du (show n - 2 < u.length by omega)
 have cv := val_cut 4294967296 v (n - 2) (by omega)
 have cu := val_cut 4294967296 u (n - 2) (by omega)
 rw [drop_at (l := v) (i := n - 2) (by omega), drop_at (l := v) (i := n - 2 + 1) (by omega), List.drop_of_length_le (show v.length ≤ n - 2 + 1 + 1 by omega)] at cv
 rw [drop_at (l := u) (i := n - 2) (by omega), drop_at (l := u) (i := n - 2 + 1) (by omega), drop_at (l := u) (i := n - 2 + 1 + 1) (by omega), List.drop_of_length_le (show u.length ≤ n - 2 + 1 + 1 + 1 by omega)] at cu
 rw [show n - 2 + 1 + 1 = n by omega] at cu
 rw [show n - 2 + 1 = n - 1 by omega] at cv cu
 simp only [val, Int.mul_zero, Int.add_zero] at cv cu
 have tv := val_lt (B := 4294967296) (by decide) (dv.take (n - 2))
 have tu := val_lt (B := 4294967296) (by decide) (du.take (n - 2))
 have tv0 := val_nonneg (B := 4294967296) (by decide) (dv.take (n - 2))
 have tu0 := val_nonneg (B := 4294967296) (by decide) (du.take (n - 2))
 rw [List.length_take, Nat.min_eq_left (by omega)] at tv tu
 have hP : (0 : Int) < 4294967296 ^ (n - 2) := Int.pow_pos (by decide)
 have vlt := val_lt (B := 4294967296) (by decide) dv
 rw [hv] at vlt
 have hPn : (4294967296 : Int) ^ n ≤ 4294967296 ^ (n + 1) := pow_mono (by decide) (by omega)
 have U0 := val_nonneg (B := 4294967296) (by decide) du
 have V00 := val_nonneg (B := 4294967296) (by decide) dv
 have V0 : 0 < val 4294967296 v := by omega
 obtain ⟨U, hU⟩ : ∃ U, val 4294967296 u = U := ⟨_, rfl⟩
 obtain ⟨V, hV⟩ : ∃ V, val 4294967296 v = V := ⟨_, rfl⟩
 rw [hU, hV] at hUV ⊢
 rw [hV] at V0 vlt cv
 rw [hU] at U0 cu
 have hm0 := Int.emod_nonneg U (show V ≠ 0 by omega)
 have hm1 := Int.emod_lt_of_pos U V0
 have hp := padR_all (n := n + 1) (z := U % V) hm0 (by omega)
 have fin : ∀ (q' : Int) (w : List Int), w.length = n + 1 → Digs 4294967296 w → val 4294967296 w = U - q' * V → val 4294967296 w < V → 0 ≤ U - q' * V → ((q', w) : Int × List Int) = (U / V, padR (n + 1) (U % V)) := by
  intro q' w h1 h2 h3 h4 h5
  have h6 := (Int.ediv_emod_unique (a := U) (b := V) (r := U - q' * V) (q := q') V0).2 ⟨by rw [Int.mul_comm V]; omega, h5, by omega⟩
  rw [h6.1]
  congr 1
  exact val_inj (by decide) w _ (by rw [h1, hp.1]) h2 hp.2.1 (by rw [hp.2.2, h3, h6.2])
 generalize (4294967296 : Int) ^ (n - 2) = P at *
 have htop : rd u ((n - 1 : Nat) : Int) + 4294967296 * rd u ((n : Nat) : Int) < 4294967296 * rd v ((n - 1 : Nat) : Int) + 4294967296 := by
  rcases Int.lt_or_le (rd v ((n - 1 : Nat) : Int)) (rd u ((n : Nat) : Int)) with g | g
  ·
   exfalso
   have h1 : P * (4294967296 * (rd v ((n - 1 : Nat) : Int) + 1)) ≤ P * (rd u ((n - 1 : Nat) : Int) + 4294967296 * rd u ((n : Nat) : Int)) := Int.mul_le_mul_of_nonneg_left (by omega) (Int.le_of_lt hP)
   have h2 : P * (rd v ((n - 2 : Nat) : Int) + 4294967296 * rd v ((n - 1 : Nat) : Int) + 1) ≤ P * (4294967296 * (rd v ((n - 1 : Nat) : Int) + 1)) := Int.mul_le_mul_of_nonneg_left (by omega) (Int.le_of_lt hP)
   rw [Int.mul_add P _ 1] at h2
   have h3 := Int.mul_nonneg (Int.le_of_lt hP) c2.1
   rw [Int.mul_add P (rd u ((n - 2 : Nat) : Int)), Int.mul_left_comm P 4294967296] at cu
   omega
  ·
   omega
 unfold integer_digit.f
 refine Ev.pos (by omega) (Ev.pos (by omega) ?_)
 rw [w64 ((v.length : Int) - 1) (by omega) (by omega), hv, show (n : Int) - 1 = ((n - 1 : Nat) : Int) by omega]
 refine Ev.pos (by omega) (Ev.pos (by omega) (Ev.pos (by omega) ?_))
 rw [u64s (rd v ((n - 1 : Nat) : Int)) (by omega) (by omega), u64s (rd u (n : Int)) (by omega) (by omega), u64s (rd u ((n - 1 : Nat) : Int)) (by omega) (by omega), u64s (rd u (n : Int) * 4294967296) (by omega) (by omega), or_high _ _ c0.1 c0.2 c1.1 c1.2]
 obtain ⟨high, hh⟩ : ∃ high, rd u (n : Int) * 4294967296 + rd u ((n - 1 : Nat) : Int) = high := ⟨_, rfl⟩
 rw [hh]
 have hh2 : rd u ((n - 1 : Nat) : Int) + 4294967296 * rd u (n : Int) = high := by omega
 rw [hh2] at cu htop
 have h0 : 0 ≤ high := by omega
 have hd0 := Int.ediv_nonneg (a := high) (b := rd v ((n - 1 : Nat) : Int)) h0 (by omega)
 have hd1 : high / rd v ((n - 1 : Nat) : Int) ≤ high := Int.ediv_le_self _ h0
 have hr0 := Int.emod_nonneg high (show rd v ((n - 1 : Nat) : Int) ≠ 0 by omega)
 have hr1 := Int.emod_lt_of_pos high (show 0 < rd v ((n - 1 : Nat) : Int) by omega)
 have hdm := Int.mul_ediv_add_emod high (rd v ((n - 1 : Nat) : Int))
 rw [Int.tdiv_eq_ediv_of_nonneg h0, Int.tmod_eq_emod_of_nonneg h0, u64s _ hd0 (by omega), ]
 refine Ev.neg (by omega) ?_
 refine dig_l0 u v n _ hn hmax hv hu dv du P _ _ V U _ _ (rd u (n : Int)) (rd u ((n - 1 : Nat) : Int)) _ high hP tv0 tv tu0 tu rfl rfl rfl (by omega) b1.2 b2.1 b2.2 c2.1 c2.2 h0 (by omega) cv cu hUV V0 U0 (by omega) ?_ _ _ _ rfl hd0 hr0 (by omega) (by rw [Int.mul_comm]; omega) ?_
 ·
  intro q hq
  obtain ⟨k0, k1, k2, k3⟩ := hq
  refine Ev.step (fun k => integer_digit.j1.eq_2 ..) ?_
  refine dig_l1 v n q _ hv hmax dv k0 k1 (U - q * V) ?_ ?_ n 0 [] u 0 0 (by omega) rfl hu (Digs.nil _) du (by omega) (by omega) (by omega) (by omega) (by rw [Int.pow_zero, List.drop_zero, hU, hV]; simp [val])
  ·
   intro w h1 h2 h3
   have h4 := val_nonneg (B := 4294967296) (by decide) h2
   refine Ev.some_ ?_
   rw [show q % 4294967296 = q by omega]
   refine fin q w h1 h2 h3 ?_ (by omega)
   rcases Int.lt_or_le (val 4294967296 w) V with g | g
   ·
    exact g
   ·
    have := k2 (q + 1) (by omega) (by rw [Int.add_mul, Int.one_mul]; omega)
    omega
  ·
   intro w h1 h2 h3 h4
   have q1 : 1 ≤ q := by
    rcases Int.lt_or_le q 1 with g | g
    ·
     obtain rfl : q = 0 := by omega
     rw [Int.zero_mul] at h4
     omega
    ·
     exact g
   have k4 := k3 q1
   rw [Int.sub_mul, Int.one_mul] at k4
   have := dig_l2 v n q (U / V, padR (n + 1) (U % V)) hv hmax dv (U - q * V + 4294967296 ^ (n + 1)) ?_ n 0 [] w 0 (by omega) rfl h1 (Digs.nil _) h2 (by omega) (by omega) (by rw [Int.pow_zero, List.drop_zero, h3]; simp [val])
   ·
    exact this
   ·
    intro w' g1 g2 ⟨k, g3⟩
    have g4 := val_nonneg (B := 4294967296) (by decide) g2
    have g5 := val_lt (B := 4294967296) (by decide) g2
    rw [g1] at g5
    rw [hV] at g3
    have hPP : (0 : Int) < 4294967296 ^ (n + 1) := Int.pow_pos (by decide)
    have hk : k = -1 := by
     generalize (4294967296 : Int) ^ (n + 1) = Y at *
     rcases Int.lt_trichotomy k (-1) with e | e | e
     ·
      have := Int.mul_le_mul_of_nonneg_left (show k ≤ -2 by omega) (Int.le_of_lt hPP)
      omega
     ·
      exact e
     ·
      have := Int.mul_le_mul_of_nonneg_left (show 0 ≤ k by omega) (Int.le_of_lt hPP)
      omega
    subst hk
    refine Ev.some_ ?_
    rw [u64s (q - 1) (by omega) (by omega), show (q - 1) % 4294967296 = q - 1 by omega]
    have e5 : (q - 1) * V = q * V - V := by rw [Int.sub_mul, Int.one_mul]
    refine fin (q - 1) w' g1 g2 (by rw [e5]; omega) (by omega) (by rw [e5]; omega)
 ·
  intro Q Q0 hQ
  rw [cv, cu] at hQ
  exact kn_init (B := 4294967296) (by decide) hP tv0 tu (by omega) b2.1 c2.2 Q0 hQ
def pd : Nat → Nat → List UInt8
 | 0, _ => []
 | k + 1, r => pd k (r / 10) ++ [UInt8.ofNat (48 + r % 10)]
theorem pd_len : ∀ k r, (pd k r).length = k
 | 0, _ => rfl
 | k + 1, r => by simp [pd, pd_len k]
theorem dec_small {n : Nat} (h : n < 10) : Lib.decDigits n = [UInt8.ofNat (48 + n)] := by rw [Lib.decDigits, dif_pos h]
theorem dec_big {n : Nat} (h : ¬ n < 10) : Lib.decDigits n = Lib.decDigits (n / 10) ++ [UInt8.ofNat (48 + n % 10)] := by rw [Lib.decDigits, dif_neg h]
theorem dec_len_pos (n : Nat) : 1 ≤ (Lib.decDigits n).length := by
 by_cases h : n < 10
 ·
  rw [dec_small h]; simp
 ·
  rw [dec_big h]; simp
theorem dec_split : ∀ (k n : Nat), 10 ^ k ≤ n → Lib.decDigits n = Lib.decDigits (n / 10 ^ k) ++ pd k (n % 10 ^ k)
 | 0, n, h => by simp [pd]
 | k + 1, n, h => by
  have hp : 1 ≤ 10 ^ k := Nat.one_le_pow _ _ (by decide)
  rw [Nat.pow_succ] at h
  have h1 : 10 ^ k ≤ n / 10 := (Nat.le_div_iff_mul_le (by decide)).2 h
  rw [dec_big (by omega), dec_split k (n / 10) h1, Nat.div_div_eq_div_mul, Nat.mul_comm 10 (10 ^ k), ← Nat.pow_succ]
  simp only [pd]
  have e1 : n % 10 ^ (k + 1) / 10 = n / 10 % 10 ^ k := by
   rw [Nat.pow_succ, Nat.mul_comm, Nat.mod_mul_right_div_self]
  have e2 : n % 10 ^ (k + 1) % 10 = n % 10 := Nat.mod_mod_of_dvd n ⟨10 ^ k, by rw [Nat.pow_succ, Nat.mul_comm]⟩
  rw [e1, e2, List.append_assoc]
theorem pd_zero : ∀ k, pd k 0 = List.replicate k 48
 | 0 => rfl
 | k + 1 => by rw [pd, Nat.zero_div, pd_zero k, List.replicate_succ']; rfl
theorem pd_pad : ∀ (k r : Nat), r < 10 ^ (k + 1) → (Lib.decDigits r).length ≤ k + 1 ∧ pd (k + 1) r = List.replicate (k + 1 - (Lib.decDigits r).length) 48 ++ Lib.decDigits r
 | k, r, h => by
  by_cases hr : r < 10
  ·
   rw [dec_small hr, pd, Nat.div_eq_of_lt hr, Nat.mod_eq_of_lt hr, pd_zero]
   exact ⟨by simp, by simp⟩
  ·
   cases k with
   | zero => simp at h; omega
   | succ k =>
    have h1 : r / 10 < 10 ^ (k + 1) := by
     rw [Nat.pow_succ, Nat.mul_comm] at h
     exact Nat.div_lt_of_lt_mul h
    obtain ⟨i1, i2⟩ := pd_pad k (r / 10) h1
    rw [dec_big hr]
    refine ⟨by simp; omega, ?_⟩
    rw [pd, i2]
    have e : k + 1 + 1 - (Lib.decDigits (r / 10) ++ [UInt8.ofNat (48 + r % 10)]).length = k + 1 - (Lib.decDigits (r / 10)).length := by simp
    rw [e, List.append_assoc]
theorem dec_len_split {k n : Nat} (h : 10 ^ k ≤ n) : (Lib.decDigits n).length = (Lib.decDigits (n / 10 ^ k)).length + k := by
 rw [dec_split k n h]
 simp [pd_len]
theorem dgs_lt_pow {B : Nat} (hB : 2 ≤ B) (n : Nat) : n < B ^ (dgs B n).length := by
 have := val_lt (B := (B : Int)) (by omega) (dgs_digs hB n)
 rw [dgs_val hB n] at this
 exact_mod_cast this
theorem dgs_len_mono {m n : Nat} (h : m ≤ n) : (dgs BB m).length ≤ (dgs BB n).length :=
 dgs_len BB2 _ m (Nat.lt_of_le_of_lt h (dgs_lt_pow BB2 n))
theorem rev_l0 : ∀ (n : Nat) (m a b : List ByteArray), m.length = n → a.length + m.length + b.length ≤ 4611686018427387904 → Ev (fun k => slices_Reverse_string_string.l0 k (a ++ m ++ b) (a.length : Int) ((a.length : Int) + (m.length : Int) - 1)) (a ++ m.reverse ++ b)
 | n, m, a, b, hn, hmax => by
  by_cases h : m.length < 2
  ·
   refine Ev.step (fun k => slices_Reverse_string_string.l0.eq_2 ..) (Ev.neg (by omega) (Ev.some_ ?_))
   have : m.reverse = m := by
    match m, h with
    | [], _ => rfl
    | [x], _ => rfl
   rw [this]
  ·
   obtain ⟨x, m1, rfl⟩ : ∃ x m1, m = x :: m1 := by
    cases m with
    | nil => simp at h
    | cons x m1 => exact ⟨x, m1, rfl⟩
   obtain ⟨m2, y, rfl⟩ : ∃ m2 y, m1 = m2 ++ [y] := ⟨m1.dropLast, m1.getLast (fun e => by rw [e] at h; simp at h), (List.dropLast_concat_getLast _).symm⟩
   have hl : (x :: (m2 ++ [y])).length = m2.length + 2 := by simp
   have hL : (a ++ x :: (m2 ++ [y]) ++ b).length = a.length + (m2.length + 2) + b.length := by simp; omega
   have ej : ((a.length : Int) + ((x :: (m2 ++ [y])).length : Int) - 1) = ((a.length + m2.length + 1 : Nat) : Int) := by rw [hl]; omega
   have q1 : (a.length : Int) < ((a.length + m2.length + 1 : Nat) : Int) := by omega
   have q2 : (0 : Int) ≤ ((a.length + m2.length + 1 : Nat) : Int) := by omega
   have q3 : ((a.length + m2.length + 1 : Nat) : Int) < ((a ++ x :: (m2 ++ [y]) ++ b).length : Int) := by rw [hL]; omega
   have q4 : (a.length : Int) < ((a ++ x :: (m2 ++ [y]) ++ b).length : Int) := by rw [hL]; omega
   have q5 : (0 : Int) ≤ (a.length : Int) := by omega
   have w1 : a.length < a.length + 1 := by omega
   have w2 : a.length + 1 ≤ 9223372036854775807 := by omega
   have w3 : wrap64 (((a.length + m2.length + 1 : Nat) : Int) - 1) = ((a ++ [y]).length : Int) + (m2.length : Int) - 1 := by
    rw [w64 _ (by omega) (by omega)]; simp; omega
   have e1 : rdOf ByteArray.empty (a ++ x :: (m2 ++ [y]) ++ b) ((a.length + m2.length + 1 : Nat) : Int) = y := by
    unfold rdOf
    rw [Int.toNat_natCast, List.getD_eq_getElem?_getD]
    have : a ++ x :: (m2 ++ [y]) ++ b = (a ++ x :: m2) ++ y :: b := by simp
    rw [this, show a.length + m2.length + 1 = (a ++ x :: m2).length by simp; omega, List.getElem?_append_right (Nat.le_refl _), Nat.sub_self]
    rfl
   have e2 : rdOf ByteArray.empty (a ++ x :: (m2 ++ [y]) ++ b) (a.length : Int) = x := by
    unfold rdOf
    rw [Int.toNat_natCast, List.getD_eq_getElem?_getD, List.append_assoc, List.getElem?_append_right (Nat.le_refl _), Nat.sub_self]
    rfl
   have e3 : ((a ++ x :: (m2 ++ [y]) ++ b).set ((a.length : Int)).toNat y).set (((a.length + m2.length + 1 : Nat) : Int)).toNat x = (a ++ [y]) ++ m2 ++ (x :: b) := by
    rw [Int.toNat_natCast, Int.toNat_natCast]
    have t1 : (a ++ x :: (m2 ++ [y]) ++ b).set a.length y = (a ++ y :: m2) ++ y :: b := by
     rw [List.append_assoc, List.set_append_right _ _ (Nat.le_refl _), Nat.sub_self]
     simp
    rw [t1, show a.length + m2.length + 1 = (a ++ y :: m2).length by simp; omega, List.set_append_right _ _ (Nat.le_refl _), Nat.sub_self]
    simp
   rw [ej]
   have ih := rev_l0 m2.length m2 (a ++ [y]) (x :: b) rfl (by simp at hmax ⊢; omega)
   have e4 : a ++ (x :: (m2 ++ [y])).reverse ++ b = (a ++ [y]) ++ m2.reverse ++ (x :: b) := by simp
   rw [e4]
   refine Ev.step (fun k => slices_Reverse_string_string.l0.eq_2 ..) (Ev.pos q1 (Ev.pos q2 (Ev.pos q3 (Ev.pos q5 (Ev.pos q4 ?_)))))
   rw [e1, e2, e3, w3, wsucc w1 w2]
   have e5 : ((a.length + 1 : Nat) : Int) = ((a ++ [y]).length : Int) := by simp
   rw [e5]
   exact ih
termination_by n => n
decreasing_by simp at hn; omega
theorem rev_ev (m : List ByteArray) (h : m.length ≤ 4611686018427387904) : Ev (fun k => slices_Reverse_string_string.f k m) m.reverse := by
 unfold slices_Reverse_string_string.f
 have := rev_l0 m.length m [] [] rfl (by simpa using h)
 rw [w64 _ (by omega) (by omega)]
 simpa using this
def flat (xs : List ByteArray) : List UInt8 := (xs.reverse.map (·.data.toList)).flatten
theorem flat_snoc (xs : List ByteArray) (s : ByteArray) : flat (xs ++ [s]) = s.data.toList ++ flat xs := by simp [flat]
def sgn (neg : Bool) (l : List UInt8) : ByteArray := ⟨(if neg = true then 45 :: l else l).toArray⟩
theorem join_flat (xs : List (List UInt8)) : Lib.join xs [] = xs.flatten := by
 induction xs with
 | nil => rfl
 | cons x r ih =>
  rw [Lib.join_cons]
  simp [Lib.joinTail]
theorem sgn_app (l : List UInt8) : (⟨#[45]⟩ : ByteArray) ++ ⟨l.toArray⟩ = ⟨(45 :: l).toArray⟩ := by
 apply ByteArray.ext
 simp [ByteArray.data_append]
theorem bsize (l : List UInt8) : (⟨l.toArray⟩ : ByteArray).size = l.length := by simp [ByteArray.size]
theorem fin_ev (xs : List ByteArray) (neg : Bool) (h1 : xs.length ≤ 140737488355327) (h2 : (flat xs).length ≤ 140737488355327) :
  Ev (fun k => (slices_Reverse_string_string.f k xs).bind fun t173 => ((strings_Join.f t173 (⟨#[]⟩ : ByteArray)).bind fun t174 => (if neg = true then (if 1 + t174.size ≤ 9223372036854775807 then (some ((⟨#[45]⟩ : ByteArray) ++ t174)) else (none)) else (some t174)))) (sgn neg (flat xs)) := by
 refine Ev.bind (rev_ev xs (by omega)) (Ev.bind0 (a := ⟨(flat xs).toArray⟩) ?_ ?_)
 ·
  unfold strings_Join.f
  have e : Lib.join (xs.reverse.map (·.data.toList)) (ByteArray.mk #[]).data.toList = flat xs := join_flat _
  rw [e, if_pos ⟨by simp; omega, by omega⟩]
 ·
  by_cases hn : neg = true
  ·
   refine Ev.pos hn (Ev.pos (by rw [bsize]; omega) (Ev.some_ ?_))
   rw [sgn_app, sgn, if_pos hn]
  ·
   refine Ev.neg hn (Ev.some_ ?_)
   rw [sgn, if_neg hn]
theorem itoa_nat (n : Nat) : Lib.itoa (n : Int) = Lib.decDigits n := by
 unfold Lib.itoa
 rw [if_neg (by omega), Int.toNat_natCast]
theorem text_l0 (mg : List Int) (neg : Bool) : ∀ (n : Nat) (xs : List ByteArray), (dgs BB n).length ≤ 70368744177663 → xs.length + (if n = 0 then 0 else 2 * (Lib.decDigits n).length) + (flat xs).length ≤ 1099511627776 →
  Ev (fun k => integer_Int_Text.l0 k xs (dgs BB n) neg mg) (sgn neg ((if n = 0 then [] else Lib.decDigits n) ++ flat xs)) := by
 intro n
 induction n using Nat.strongRecOn with
 | _ n ih =>
  intro xs hlen htot
  rcases Nat.eq_zero_or_pos n with rfl | hn
  ·
   rw [dgs_zero, if_pos rfl]
   rw [if_pos rfl] at htot
   refine Ev.step (fun k => integer_Int_Text.l0.eq_2 ..) (Ev.neg (by simp) ?_)
   exact fin_ev xs neg (by omega) (by omega)
  ·
   rw [if_neg (by omega)] at htot ⊢
   have hne : 0 < (dgs BB n).length := by
    have := mt (dgs_nil BB2 (n := n)).1 (by omega)
    exact Nat.pos_of_ne_zero (fun e => this (List.length_eq_zero_iff.1 e))
   have hs := short_ev (dgs BB n) 1000000000 (dgs_digs BB2 n) (by decide) (by decide) hlen
   have hv : (val 4294967296 (dgs BB n)).toNat = n := by
    have := dgs_val BB2 n
    have h2 : val 4294967296 (dgs BB n) = n := this
    rw [h2, Int.toNat_natCast]
   rw [hv, show (1000000000 : Int).toNat = 1000000000 from rfl] at hs
   have hr : n % 1000000000 < 10 ^ (8 + 1) := Nat.mod_lt _ (by decide)
   obtain ⟨p1, p2⟩ := pd_pad 8 (n % 1000000000) hr
   refine Ev.step (fun k => integer_Int_Text.l0.eq_2 ..) (Ev.pos (by omega) (Ev.bind hs ?_))
   refine Ev.bind0 (a := ⟨(Lib.decDigits (n % 1000000000)).toArray⟩) ?_ ?_
   ·
    have w : wrap64 ((n % 1000000000 : Nat) : Int) = ((n % 1000000000 : Nat) : Int) := w64 _ (by omega) (by omega)
    show strconv_Itoa_47.f (wrap64 ((n % 1000000000 : Nat) : Int)) = _
    rw [w]
    unfold strconv_Itoa_47.f
    rw [if_pos ⟨by omega, by omega⟩, itoa_nat]
   ·
    have hq := dgs_nil BB2 (n := n / 1000000000)
    by_cases hb : n < 1000000000
    ·
     have hz : n / 1000000000 = 0 := by omega
     have hm : n % 1000000000 = n := by omega
     rw [hz, hm, dgs_zero]
     refine Ev.neg (by simp) (Ev.pos (by omega) ?_)
     have := ih 0 hn (xs ++ [⟨(Lib.decDigits n).toArray⟩]) (by simp [dgs_zero]) (by
      rw [flat_snoc, if_pos rfl]
      have := dec_len_pos n
      simp
      omega)
     rw [dgs_zero, if_pos rfl, flat_snoc] at this
     exact this
    ·
     have hz : n / 1000000000 ≠ 0 := by omega
     have hql : 0 < (dgs BB (n / 1000000000)).length := Nat.pos_of_ne_zero (fun e => hz (hq.1 (List.length_eq_zero_iff.1 e)))
     have hsplit := dec_split 9 n (by omega)
     have hls := dec_len_split (k := 9) (n := n) (by omega)
     have e9 : (10 : Nat) ^ 9 = 1000000000 := rfl
     rw [e9] at hsplit hls
     refine Ev.pos (by show ((dgs BB (n / 1000000000)).length : Int) > 0; omega) ?_
     have hsz : (⟨(Lib.decDigits (n % 1000000000)).toArray⟩ : ByteArray).size = (Lib.decDigits (n % 1000000000)).length := bsize _
     refine Ev.bind0 (a := ⟨(List.replicate (9 - (Lib.decDigits (n % 1000000000)).length) 48).toArray⟩) ?_ ?_
     ·
      rw [hsz, w64 _ (by omega) (by omega)]
      unfold strings_Repeat.f
      have c1 : (9 - ((Lib.decDigits (n % 1000000000)).length : Int)).toNat = 9 - (Lib.decDigits (n % 1000000000)).length := by omega
      rw [if_pos ⟨by omega, by omega, by rw [c1]; show 1 * _ ≤ _; omega⟩, c1]
      have := Lib.repeatL_replicate 48 1 (9 - (Lib.decDigits (n % 1000000000)).length)
      rw [Nat.mul_one] at this
      exact congrArg (fun l => some (ByteArray.mk (List.toArray l))) this
     ·
      have happ : (⟨(List.replicate (9 - (Lib.decDigits (n % 1000000000)).length) 48).toArray⟩ : ByteArray) ++ ⟨(Lib.decDigits (n % 1000000000)).toArray⟩ = ⟨(pd 9 (n % 1000000000)).toArray⟩ := by
       apply ByteArray.ext
       rw [p2]
       simp [ByteArray.data_append]
      refine Ev.pos (by rw [bsize, bsize]; simp; omega) (Ev.pos (by omega) ?_)
      rw [happ]
      have := ih (n / 1000000000) (by omega) (xs ++ [⟨(pd 9 (n % 1000000000)).toArray⟩]) (Nat.le_trans (dgs_len_mono (Nat.div_le_self _ _)) hlen) (by
       rw [flat_snoc, if_neg hz]
       simp [pd_len]
       omega)
      rw [if_neg hz, flat_snoc, ← List.append_assoc] at this
      rw [hsplit]
      exact this
theorem text_ev (z : Int) (h1 : (lm z).length ≤ 70368744177663) (h2 : (Lib.decDigits z.natAbs).length ≤ 274877906944) :
  Ev (fun k => integer_Int_Text.f k (decide (z < 0)) (lm z)) ⟨(Lib.itoa z).toArray⟩ := by
 unfold integer_Int_Text.f
 by_cases hz : z = 0
 ·
  refine Ev.pos (by have := lm_len0.2 hz; omega) (Ev.some_ ?_)
  subst hz
  show _ = (⟨(Lib.itoa ((0 : Nat) : Int)).toArray⟩ : ByteArray)
  rw [itoa_nat, dec_small (by decide)]
  rfl
 ·
  refine Ev.neg (by have := mt lm_len0.1 hz; omega) ?_
  have := text_l0 (lm z) (decide (z < 0)) z.natAbs [] h1 (by rw [if_neg (by omega)]; simp [flat]; omega)
  rw [if_neg (by omega)] at this
  have e : sgn (decide (z < 0)) (Lib.decDigits z.natAbs ++ flat []) = ⟨(Lib.itoa z).toArray⟩ := by
   unfold sgn Lib.itoa flat
   by_cases hn : z < 0
   ·
    rw [if_pos (by simpa using hn), if_pos hn]; simp
   ·
    rw [if_neg (by simpa using hn), if_neg hn, show z.toNat = z.natAbs by omega]; simp
  rw [e] at this
  exact this
end Go.Proofs.YtiikfhdmclmjmaaDoor.Pure
namespace Go.Proofs.YtiikfhdmclmjmaaDoor.P
open Go.RowKit Go.Proofs.YtiikfhdmclmjmaaDoorW.PrintWords Go.Proofs.YtiikfhdmclmjmaaDoorW.PrintLast
def dowelref01_From.l0 : Nat → Int → List Int → Int → Option (ByteArray)
 | 0, _, _, _ => none
 | k + 1, x0, x3, x4 => if x4 = 0 then ((dowelref01_text.f k (decide (x0 < 0)) x3).bind fun t460 => (some t460)) else (if (Int.tmod x4 10) < 0 then (if x3.length < 17592186044416 then (dowelref01_From.l0 k x0 (x3 ++ [wrap64 (-(Int.tmod x4 10))]) (wrap64 (Int.tdiv x4 10))) else (none)) else (if x3.length < 17592186044416 then (dowelref01_From.l0 k x0 (x3 ++ [Int.tmod x4 10]) (wrap64 (Int.tdiv x4 10))) else (none)))
def dowelref01_From.f (k : Nat) (a0 : Int) : Option (ByteArray) := dowelref01_From.l0 k a0 ([] : List Int) a0
theorem dowelref01_From.mono_l : ∀ k, (∀ y0 y1 y2, LeO (dowelref01_From.l0 k y0 y1 y2) (dowelref01_From.l0 (k + 1) y0 y1 y2))
 | 0 => fun _ _ _ r h => by simp [dowelref01_From.l0] at h
 | k + 1 => by
  have ih0 := dowelref01_From.mono_l k
  ·
   intro y0 y1 y2
   unfold dowelref01_From.l0
   repeat' with_reducible first | exact ih0 _ _ _ | exact dowelref01_text.mono _ _ _ | exact LeO.refl _ | exact LeO.none _ | refine LeO.ite ?_ ?_ | refine LeO.bind ?_ (fun _ => ?_)
theorem dowelref01_From.mono : ∀ a0 k, LeO (dowelref01_From.f k a0) (dowelref01_From.f (k + 1) a0) := by
 intro a0 k
 have ih0 := dowelref01_From.mono_l k
 unfold dowelref01_From.f
 repeat' with_reducible first | exact ih0 _ _ _ | exact dowelref01_text.mono _ _ _ | exact LeO.refl _ | exact LeO.none _ | refine LeO.ite ?_ ?_ | refine LeO.bind ?_ (fun _ => ?_)
end Go.Proofs.YtiikfhdmclmjmaaDoor.P
namespace Go.Proofs.YtiikfhdmclmjmaaDoor.Pure
open Go.RowKit Go.Proofs.YtiikfhdmclmjmaaDoorW.PrintWords Go.Proofs.YtiikfhdmclmjmaaDoor.P
theorem TEN2 : 2 ≤ 10 := by decide
abbrev T (z : Int) : ByteArray := ⟨(Lib.itoa z).toArray⟩
theorem rtrim_l0 (l : List Int) (hmax : l.length ≤ 4611686018427387904) : ∀ i : Nat, i ≤ l.length → Ev (fun k => dowelref01_trim.l0 k l (i : Int)) (trimL (l.take i))
 | 0, hi => Ev.step (fun k => dowelref01_trim.l0.eq_2 ..) (Ev.neg (by omega) (Ev.pos (by omega) (Ev.pos (by omega) (Ev.some_ (by simp [trimL])))))
 | i + 1, hi => by
  have e : wrap64 (((i + 1 : Nat) : Int) - 1) = (i : Int) := by rw [w64 _ (by omega) (by omega)]; omega
  have q1 : ((i + 1 : Nat) : Int) > 0 := by omega
  have q2 : (0 : Int) ≤ (i : Int) := by omega
  have q3 : (i : Int) < (l.length : Int) := by omega
  have q4 : (0 : Int) ≤ ((i + 1 : Nat) : Int) := by omega
  have q5 : ((i + 1 : Nat) : Int) ≤ (l.length : Int) := by omega
  have q6 : i ≤ l.length := by omega
  refine Ev.step (fun k => dowelref01_trim.l0.eq_2 ..) (Ev.pos q1 ?_)
  rw [e]
  refine Ev.pos q2 (Ev.pos q3 ?_)
  rw [take_at (show i < l.length by omega)]
  by_cases hz : rd l (i : Int) = 0
  ·
   rw [hz, trimL_snoc0]
   exact Ev.pos rfl (rtrim_l0 l hmax i q6)
  ·
   refine Ev.neg hz (Ev.pos q4 (Ev.pos q5 (Ev.some_ ?_)))
   rw [trimL_snoc _ hz, Int.toNat_natCast, take_at (show i < l.length by omega)]
theorem rtrim_ev (l : List Int) (hmax : l.length ≤ 4611686018427387904) : Ev (fun k => dowelref01_trim.f k l) (trimL l) := by
 have := rtrim_l0 l hmax l.length (Nat.le_refl _)
 rwa [List.take_length] at this
def chr10 (d : Int) : UInt8 := UInt8.ofNat (48 + d.toNat)
theorem dec_dgs (n : Nat) (h : 0 < n) : Lib.decDigits n = (dgs 10 n).reverse.map chr10 := by
 induction n using Nat.strongRecOn with
 | _ n ih =>
  rw [dgs_pos TEN2 h, List.reverse_cons, List.map_append]
  by_cases hs : n < 10
  ·
   rw [dec_small hs, Nat.div_eq_of_lt hs, dgs_zero, Nat.mod_eq_of_lt hs]
   simp [chr10]
  ·
   rw [dec_big hs, ih (n / 10) (by omega) (by omega)]
   simp only [List.map_cons, List.map_nil, chr10, Int.toNat_natCast]
theorem dec_zero : Lib.decDigits 0 = [48] := dec_small (by decide)
theorem dec_byte (n : Nat) : ∀ b ∈ Lib.decDigits n, 48 ≤ b.toNat ∧ b.toNat ≤ 57 := by
 intro b hb
 rcases Nat.eq_zero_or_pos n with rfl | h
 ·
  rw [dec_zero] at hb
  simp at hb
  subst hb
  decide
 ·
  rw [dec_dgs n h] at hb
  obtain ⟨d, hd, rfl⟩ := List.mem_map.1 hb
  have := dgs_digs TEN2 n d (by simpa using hd)
  unfold chr10
  rw [UInt8.toNat_ofNat']
  omega
theorem rtext_l0 (l : List Int) (hl : Digs 10 l) (hmax : l.length ≤ 1099511627776) : ∀ (i : Nat) (x : List Int), i ≤ l.length → x.length + i ≤ 1099511627777 →
  Ev (fun k => dowelref01_text.l0 k l x ((i : Int) - 1)) (strOfNums (x ++ ((l.take i).reverse.map fun d => 48 + d)))
 | 0, x, hi, hx => by
  refine Ev.step (fun k => dowelref01_text.l0.eq_2 ..) (Ev.neg (by omega) (Ev.some_ ?_))
  simp
 | i + 1, x, hi, hx => by
  have hd := rd_digs hl (show i < l.length by omega)
  have e : (((i + 1 : Nat) : Int) - 1) = (i : Int) := by omega
  have q1 : (i : Int) ≥ 0 := by omega
  have q3 : (i : Int) < (l.length : Int) := by omega
  have q4 : x.length < 140737488355328 := by omega
  have q6 : i ≤ l.length := by omega
  have ew : wrap64 ((i : Int) - 1) = (i : Int) - 1 := w64 _ (by omega) (by omega)
  have ed : (wrap64 (48 + (rd l (i : Int)))) % 256 = 48 + rd l (i : Int) := by rw [w64 _ (by omega) (by omega)]; omega
  have ih := rtext_l0 l hl hmax i (x ++ [48 + rd l (i : Int)]) q6 (by simp; omega)
  rw [take_at (show i < l.length by omega), e]
  refine Ev.step (fun k => dowelref01_text.l0.eq_2 ..) (Ev.pos q1 (Ev.pos q1 (Ev.pos q3 (Ev.pos q4 ?_))))
  rw [ed, ew]
  simpa using ih
theorem nums_chr (x : List Int) (l : List Int) (h : Digs 10 l) : strOfNums (x ++ (l.reverse.map fun d => 48 + d)) = ⟨((x.map fun n => UInt8.ofNat n.toNat) ++ l.reverse.map chr10).toArray⟩ := by
 unfold strOfNums
 rw [List.map_append, List.map_map]
 congr 3
 apply List.map_congr_left
 intro d hd
 have := h d (by simpa using hd)
 show UInt8.ofNat (48 + d).toNat = UInt8.ofNat (48 + d.toNat)
 congr 1
 omega
theorem rtext_ev (neg : Bool) (l : List Int) (n : Nat) (hl : Digs 10 l) (hv : val 10 l = n) (hmax : l.length ≤ 1099511627776) :
  Ev (fun k => dowelref01_text.f k neg l) (T (if neg = true then -(n : Int) else n)) := by
 have ht : trimL l = dgs 10 n := trimL_dgs TEN2 hl hv
 have hlen := trimL_len l
 rw [ht] at hlen
 refine Ev.bind (rtrim_ev l (by omega)) ?_
 rw [ht]
 have hd := dgs_digs TEN2 n
 have hn0 := dgs_nil TEN2 (n := n)
 rcases Nat.eq_zero_or_pos n with rfl | hn
 ·
  rw [dgs_zero]
  refine Ev.pos rfl (Ev.some_ ?_)
  have : (if neg = true then -((0 : Nat) : Int) else ((0 : Nat) : Int)) = ((0 : Nat) : Int) := by split <;> rfl
  rw [this]
  show _ = (⟨(Lib.itoa ((0 : Nat) : Int)).toArray⟩ : ByteArray)
  rw [itoa_nat, dec_zero]
 ·
  have hne : ¬ ((dgs 10 n).length : Int) = 0 := by
   intro e
   have : (dgs 10 n).length = 0 := by omega
   have := hn0.1 (List.length_eq_zero_iff.1 this)
   omega
  have hw : wrap64 (((dgs 10 n).length : Int) - 1) = ((dgs 10 n).length : Int) - 1 := w64 _ (by omega) (by omega)
  refine Ev.neg hne ?_
  by_cases hg : neg = true
  ·
   refine Ev.pos hg (Ev.pos (by simp) (Ev.step (fun k => dowelref01_text.j0.eq_2 ..) ?_))
   rw [hw]
   have := rtext_l0 (dgs 10 n) hd (by omega) (dgs 10 n).length ([] ++ [45]) (Nat.le_refl _) (by simp; omega)
   rw [List.take_length, nums_chr _ _ hd] at this
   rw [if_pos hg]
   have e : (⟨((([] ++ [45] : List Int).map fun n => UInt8.ofNat n.toNat) ++ (dgs 10 n).reverse.map chr10).toArray⟩ : ByteArray) = T (-(n : Int)) := by
    rw [← dec_dgs n hn]
    unfold T Lib.itoa
    rw [if_pos (by omega), show (-(n : Int)).natAbs = n by omega]
    rfl
   rw [e] at this
   exact this
  ·
   refine Ev.neg hg (Ev.step (fun k => dowelref01_text.j0.eq_2 ..) ?_)
   rw [hw]
   have := rtext_l0 (dgs 10 n) hd (by omega) (dgs 10 n).length [] (Nat.le_refl _) (by simp; omega)
   rw [List.take_length, nums_chr _ _ hd] at this
   rw [if_neg hg]
   have e : (⟨((([] : List Int).map fun n => UInt8.ofNat n.toNat) ++ (dgs 10 n).reverse.map chr10).toArray⟩ : ByteArray) = T n := by
    rw [← dec_dgs n hn]
    show _ = (⟨(Lib.itoa (n : Int)).toArray⟩ : ByteArray)
    rw [itoa_nat]
    rfl
   rw [e] at this
   exact this
theorem rtext_to (neg : Bool) (l : List Int) (n : Nat) (z : Int) (hl : Digs 10 l) (hv : val 10 l = n) (hmax : l.length ≤ 1099511627776) (hz : z = if neg = true then -(n : Int) else n) :
  Ev (fun k => dowelref01_text.f k neg l) (T z) := by
 rw [hz]
 exact rtext_ev neg l n hl hv hmax
def num10 (b : UInt8) : Int := (b.toNat : Int) - 48
theorem dlen (s : ByteArray) : s.data.toList.length = s.size := Array.length_toList
theorem bt_get (s : ByteArray) (i : Nat) (h : i < s.size) : bt s (i : Int) = (s.data.toList[i]'(by rw [dlen]; exact h)).toNat := by
 unfold bt
 rw [dif_pos (by simpa using h)]
 simp [ByteArray.getElem_eq_getElem_data]
theorem rdigits_l0 (s : ByteArray) (hmax : s.size ≤ 1099511627776) : ∀ (i : Nat) (x : List Int), i ≤ s.size → x.length + i ≤ 1099511627776 →
  Ev (fun k => dowelref01_digits.l0 k s x ((i : Int) - 1)) (trimL (x ++ ((s.data.toList.take i).reverse.filter (fun b => !(b.toNat == 45))).map num10))
 | 0, x, hi, hx => by
  refine Ev.step (fun k => dowelref01_digits.l0.eq_2 ..) (Ev.neg (by omega) ?_)
  simp only [List.take_zero, List.reverse_nil, List.filter_nil, List.map_nil, List.append_nil]
  exact Ev.bind (rtrim_ev _ (by omega)) (Ev.now _)
 | i + 1, x, hi, hx => by
  have e : (((i + 1 : Nat) : Int) - 1) = (i : Int) := by omega
  have q1 : (i : Int) ≥ 0 := by omega
  have q3 : (i : Int) < (s.size : Int) := by omega
  have q4 : x.length < 17592186044416 := by omega
  have hl : i < s.data.toList.length := by rw [dlen]; omega
  have hb := bt_get s i (by omega)
  have hr := bt_range s (i : Int)
  have q6 : i ≤ s.size := by omega
  have ew : wrap64 ((i : Int) - 1) = (i : Int) - 1 := w64 _ (by omega) (by omega)
  have ed : wrap64 ((wrap64 (bt s (i : Int))) - 48) = bt s (i : Int) - 48 := by
   rw [w64 (bt s (i : Int)) (by omega) (by omega), w64 _ (by omega) (by omega)]
  rw [List.take_succ_eq_append_getElem hl, List.reverse_append, e]
  simp only [List.reverse_cons, List.reverse_nil, List.nil_append, List.cons_append]
  refine Ev.step (fun k => dowelref01_digits.l0.eq_2 ..) (Ev.pos q1 (Ev.pos q1 (Ev.pos q3 ?_)))
  rw [ew, ed]
  by_cases h45 : bt s (i : Int) = 45
  ·
   refine Ev.pos h45 ?_
   rw [hb] at h45
   have h46 : (s.data.toList[i]).toNat = 45 := by omega
   rw [List.filter_cons_of_neg (by simp only [h46]; decide)]
   exact rdigits_l0 s hmax i x q6 (by omega)
  ·
   refine Ev.neg h45 (Ev.pos q4 ?_)
   have ih := rdigits_l0 s hmax i (x ++ [bt s (i : Int) - 48]) q6 (by simp; omega)
   rw [hb] at h45 ih ⊢
   have h46 : ¬ (s.data.toList[i]).toNat = 45 := by omega
   rw [List.filter_cons_of_pos (by rw [Bool.not_eq_true']; exact beq_eq_false_iff_ne.2 h46)]
   simpa [num10] using ih
theorem itoa_len (z : Int) : (Lib.itoa z).length = (Lib.decDigits z.natAbs).length + (if z < 0 then 1 else 0) := by
 unfold Lib.itoa
 by_cases h : z < 0
 ·
  rw [if_pos h, if_pos h]; simp
 ·
  rw [if_neg h, if_neg h, show z.toNat = z.natAbs by omega]; simp
theorem dec_rev (n : Nat) : trimL ((Lib.decDigits n).reverse.map num10) = dgs 10 n := by
 rcases Nat.eq_zero_or_pos n with rfl | h
 ·
  rw [dec_zero, dgs_zero]
  rfl
 ·
  rw [dec_dgs n h, ← List.map_reverse, List.reverse_reverse, List.map_map]
  have : (dgs 10 n).map (num10 ∘ chr10) = (dgs 10 n).map id := by
   apply List.map_congr_left
   intro d hd
   have := dgs_digs TEN2 n d hd
   show ((UInt8.ofNat (48 + d.toNat)).toNat : Int) - 48 = d
   rw [UInt8.toNat_ofNat']
   omega
  rw [this, List.map_id]
  exact trimL_of_norm (dgs_norm TEN2 n)
theorem rdigits_ev (z : Int) (hmax : (Lib.itoa z).length ≤ 1099511627776) : Ev (fun k => dowelref01_digits.f k (T z)) (dgs 10 z.natAbs) := by
 unfold dowelref01_digits.f
 have hsz : (T z).size = (Lib.itoa z).length := bsize _
 have := rdigits_l0 (T z) (by omega) (T z).size [] (Nat.le_refl _) (by simp; omega)
 rw [w64 _ (by omega) (by omega)]
 have e : trimL ([] ++ (((T z).data.toList.take (T z).size).reverse.filter (fun b => !(b.toNat == 45))).map num10) = dgs 10 z.natAbs := by
  have e1 : (T z).data.toList = Lib.itoa z := rfl
  rw [e1, hsz, List.take_length, List.nil_append]
  have hk : ∀ n, ((Lib.decDigits n).reverse.filter (fun b => !(b.toNat == 45))) = (Lib.decDigits n).reverse := by
   intro n
   apply List.filter_eq_self.2
   intro b hb
   have := dec_byte n b (by simpa using hb)
   simp
   omega
  unfold Lib.itoa
  by_cases h : z < 0
  ·
   rw [if_pos h, List.reverse_cons, List.filter_append, hk, List.filter_cons_of_neg (by decide)]
   simp only [List.filter_nil, List.append_nil]
   exact dec_rev _
  ·
   rw [if_neg h, hk, show z.toNat = z.natAbs by omega]
   exact dec_rev _
 rw [e] at this
 exact this
theorem itoa_48 {z : Int} : Lib.itoa z = [48] ↔ z = 0 := by
 constructor
 ·
  intro h
  unfold Lib.itoa at h
  split at h
  ·
   cases h
  ·
   have h2 := dec_rev z.toNat
   rw [h] at h2
   have : dgs 10 z.toNat = [] := h2.symm
   have := (dgs_nil TEN2).1 this
   omega
 ·
  rintro rfl
  show Lib.itoa ((0 : Nat) : Int) = _
  rw [itoa_nat, dec_zero]
theorem T_48 (z : Int) : (T z).toList = ([48] : List UInt8) ↔ z = 0 := by
 rw [ByteArray.toList_eq]
 exact itoa_48
theorem T_pos (z : Int) : 0 < (T z).size := by
 rw [bsize, itoa_len]
 have := dec_len_pos z.natAbs
 omega
theorem T_first (z : Int) : bt (T z) 0 = 45 ↔ z < 0 := by
 have h := bt_get (T z) 0 (T_pos z)
 have e1 : (T z).data.toList = Lib.itoa z := rfl
 rw [show (0 : Int) = ((0 : Nat) : Int) from rfl, h]
 by_cases hz : z < 0
 ·
  have : Lib.itoa z = 45 :: Lib.decDigits z.natAbs := by unfold Lib.itoa; rw [if_pos hz]
  simp only [e1, this]
  simp [hz]
 ·
  have hi : Lib.itoa z = Lib.decDigits z.toNat := by unfold Lib.itoa; rw [if_neg hz]
  have hp := dec_len_pos z.toNat
  have hb := dec_byte z.toNat ((Lib.decDigits z.toNat)[0]'(by omega)) (List.getElem_mem _)
  simp only [e1, hi]
  constructor
  ·
   intro hh; omega
  ·
   intro hh; omega
theorem rsign_eq (z : Int) : dowelref01_Sign.f (T z) = some z.sign := by
 unfold dowelref01_Sign.f
 by_cases h0 : z = 0
 ·
  rw [if_pos ((T_48 z).2 h0), h0]; rfl
 ·
  rw [if_neg (mt (T_48 z).1 h0), if_pos (by have := T_pos z; omega)]
  by_cases h : z < 0
  ·
   rw [if_pos ((T_first z).2 h), Int.sign_eq_neg_one_of_neg h]
  ·
   rw [if_neg (mt (T_first z).1 h), Int.sign_eq_one_of_pos (by omega)]
def isd (b : UInt8) : Bool := decide (48 ≤ b.toNat ∧ b.toNat ≤ 57)
theorem isd_iff {b : UInt8} : isd b = true ↔ 48 ≤ b.toNat ∧ b.toNat ≤ 57 := by simp [isd]
def body : List UInt8 → List UInt8
 | [] => []
 | b :: r => if b.toNat = 45 then r else b :: r
def resD (R : List UInt8) (n : Nat) : Int := if R.all isd = true then (if (R.headD 0).toNat = 48 ∧ 1 < n then 3 else 0) else 14
def chk (L : List UInt8) : Int := if body L = [] then 14 else resD (body L) L.length
def nv (a : Nat) (l : List UInt8) : Nat := l.foldl (fun a c => a * 10 + (c.toNat - 48)) a
theorem nv_nil (a : Nat) : nv a [] = a := rfl
theorem nv_cons (a : Nat) (c : UInt8) (r : List UInt8) : nv a (c :: r) = nv (a * 10 + (c.toNat - 48)) r := by unfold nv; rw [List.foldl_cons]
theorem nv_app (a : Nat) (l m : List UInt8) : nv a (l ++ m) = nv (nv a l) m := by unfold nv; rw [List.foldl_append]
theorem nv_arith (a x P N : Nat) : (a * 10 + x) * P + N = a * (P * 10) + (x * P + N) := by
 rw [Nat.add_mul, Nat.mul_assoc a 10, Nat.mul_comm 10 P]
 omega
theorem nv_pow (l : List UInt8) : ∀ (a : Nat), nv a l = a * 10 ^ l.length + nv 0 l := by
 induction l with
 | nil => exact fun a => (Nat.mul_one a).symm
 | cons c r ih =>
  intro a
  have h1 := ih (a * 10 + (c.toNat - 48))
  have h2 := ih (0 * 10 + (c.toNat - 48))
  rw [nv_cons, nv_cons, h1, h2, Nat.zero_mul, Nat.zero_add, List.length_cons, Nat.pow_succ]
  exact nv_arith _ _ _ _
theorem nv_lt : ∀ {l : List UInt8}, l.all isd = true → nv 0 l < 10 ^ l.length
 | [], _ => by simp [nv_nil]
 | c :: r, h => by
  rw [List.all_cons, Bool.and_eq_true, isd_iff] at h
  have ih := nv_lt h.2
  rw [nv_cons, nv_pow r, List.length_cons, Nat.pow_succ, Nat.zero_mul, Nat.zero_add]
  have : (c.toNat - 48) * 10 ^ r.length ≤ 9 * 10 ^ r.length := Nat.mul_le_mul_right _ (by omega)
  omega
theorem nv_le (a : Nat) (l : List UInt8) : a ≤ nv a l := by
 rw [nv_pow]
 have : 1 ≤ 10 ^ l.length := Nat.one_le_pow _ _ (by decide)
 have := Nat.mul_le_mul_left a this
 omega
theorem dec_nv (n : Nat) : ∀ (D : List UInt8), D.length = n → D ≠ [] → D.all isd = true → (D.headD 0).toNat ≠ 48 → Lib.decDigits (nv 0 D) = D ∧ 0 < nv 0 D := by
 induction n with
 | zero => intro D h hne; exact absurd (List.length_eq_zero_iff.1 h) hne
 | succ n ih =>
  intro D h hne hd hh
  obtain ⟨E, b, rfl⟩ : ∃ E b, D = E ++ [b] := ⟨D.dropLast, D.getLast hne, (List.dropLast_concat_getLast _).symm⟩
  rw [List.all_append, Bool.and_eq_true] at hd
  have hb : 48 ≤ b.toNat ∧ b.toNat ≤ 57 := isd_iff.1 (by simpa using hd.2)
  rw [nv_app]
  show Lib.decDigits (nv 0 E * 10 + (b.toNat - 48)) = _ ∧ 0 < nv 0 E * 10 + (b.toNat - 48)
  have hby : UInt8.ofNat (48 + (b.toNat - 48)) = b := by
   rw [show 48 + (b.toNat - 48) = b.toNat by omega]
   simp
  rcases List.eq_nil_or_concat E with rfl | ⟨_, _, rfl⟩
  ·
   simp only [List.nil_append, List.headD_cons] at hh
   rw [nv_nil, Nat.zero_mul, Nat.zero_add, List.nil_append]
   rw [dec_small (by omega), hby]
   exact ⟨rfl, by omega⟩
  ·
   rename_i F f
   rw [List.concat_eq_append] at *
   have hE : (F ++ [f]) ≠ [] := by simp
   have hhd : ((F ++ [f] ++ [b]).headD 0) = ((F ++ [f]).headD 0) := by cases F <;> rfl
   rw [hhd] at hh
   obtain ⟨h1, h2⟩ := ih (F ++ [f]) (by simp at h ⊢; omega) hE hd.1 hh
   rw [dec_big (by omega), show (nv 0 (F ++ [f]) * 10 + (b.toNat - 48)) / 10 = nv 0 (F ++ [f]) by omega, show (nv 0 (F ++ [f]) * 10 + (b.toNat - 48)) % 10 = b.toNat - 48 by omega, h1, hby]
   exact ⟨rfl, by omega⟩
theorem byte_eq {b : UInt8} {n : Nat} (h : b.toNat = n) : b = UInt8.ofNat n := by rw [← h]; simp
theorem chk_itoa {L : List UInt8} (h : chk L = 0) : ∃ z : Int, L = Lib.itoa z ∧ (body L).all isd = true ∧ z = if (L.headD 0).toNat = 45 then -(nv 0 (body L) : Int) else (nv 0 (body L) : Int) := by
 unfold chk at h
 by_cases hb : body L = []
 ·
  rw [if_pos hb] at h; cases h
 ·
  rw [if_neg hb] at h
  unfold resD at h
  by_cases hd : (body L).all isd = true
  ·
   rw [if_pos hd] at h
   by_cases hz : ((body L).headD 0).toNat = 48 ∧ 1 < L.length
   ·
    rw [if_pos hz] at h; cases h
   ·
    clear h
    refine ⟨_, ?_, hd, rfl⟩
    match L, hb, hd, hz with
    | b :: r, hb, hd, hz =>
     show b :: r = Lib.itoa (if b.toNat = 45 then _ else _)
     by_cases h45 : b.toNat = 45
     ·
      have e : body (b :: r) = r := by simp [body, h45]
      rw [e] at hb hd hz ⊢
      rw [if_pos h45]
      have hl : 1 < (b :: r).length := by
       cases r with
       | nil => exact absurd rfl hb
       | cons _ _ => simp
      obtain ⟨h1, h2⟩ := dec_nv r.length r rfl hb hd (fun hh => hz ⟨hh, hl⟩)
      unfold Lib.itoa
      rw [if_pos (by omega), show (-(nv 0 r : Int)).natAbs = nv 0 r by omega, h1, byte_eq h45]
      rfl
     ·
      have e : body (b :: r) = b :: r := by simp [body, h45]
      rw [e] at hb hd hz ⊢
      rw [if_neg h45, itoa_nat]
      by_cases h48 : b.toNat = 48
      ·
       have : r = [] := by
        cases r with
        | nil => rfl
        | cons _ _ => exact absurd ⟨h48, by simp⟩ hz
       subst this
       rw [nv_cons, nv_nil, h48]
       rw [dec_small (by decide), byte_eq h48]
      ·
       exact (dec_nv (b :: r).length (b :: r) rfl hb hd h48).1.symm
  ·
   rw [if_neg hd] at h; cases h
theorem bs_list (s : ByteArray) : s.size = s.data.toList.length := (dlen s).symm
theorem headD_at {R : List UInt8} (h : 0 < R.length) : R.headD 0 = R[0] := by cases R <;> simp at h ⊢
theorem bt_head (s : ByteArray) (h : 0 < s.size) : bt s 0 = ((s.data.toList.headD 0).toNat : Int) := by
 rw [headD_at (by rw [dlen]; exact h)]
 exact bt_get s 0 h
theorem chk_l0 (x0 x3 : ByteArray) (hm : x3.size ≤ 65536) (hp : 0 < x3.size) (hle : x3.size ≤ x0.size) : ∀ (n i : Nat), i + n = x3.size → (x3.data.toList.take i).all isd = true →
  Ev (fun k => dowelref01_Check.l0 k x0 x3 (i : Int)) (resD x3.data.toList x0.size)
 | 0, i, hn, hi => by
  have hall : x3.data.toList.all isd = true := by
   rw [List.take_of_length_le (by rw [dlen]; omega)] at hi
   exact hi
  refine Ev.step (fun k => dowelref01_Check.l0.eq_2 ..) (Ev.neg (by omega) (Ev.pos (by omega) ?_))
  rw [bt_head x3 hp]
  unfold resD
  rw [if_pos hall]
  by_cases h48 : (x3.data.toList.headD 0).toNat = 48
  ·
   refine Ev.pos (by omega) ?_
   by_cases h1 : (x3.size : Int) > 1
   ·
    exact Ev.pos h1 (Ev.some_ (by rw [if_pos ⟨h48, by omega⟩]))
   ·
    refine Ev.neg h1 ?_
    by_cases h2 : (x0.size : Int) > 1
    ·
     exact Ev.pos h2 (Ev.some_ (by rw [if_pos ⟨h48, by omega⟩]))
    ·
     exact Ev.neg h2 (Ev.some_ (by rw [if_neg (by omega)]))
  ·
   exact Ev.neg (by omega) (Ev.some_ (by rw [if_neg (by omega)]))
 | n + 1, i, hn, hi => by
  have hl : i < x3.data.toList.length := by rw [dlen]; omega
  have hb := bt_get x3 i (by omega)
  have hmem : x3.data.toList[i] ∈ x3.data.toList := List.getElem_mem hl
  have bad : isd x3.data.toList[i] = false → resD x3.data.toList x0.size = 14 := by
   intro h
   unfold resD
   rw [if_neg]
   intro hall
   rw [List.all_eq_true] at hall
   rw [hall _ hmem] at h
   cases h
  refine Ev.step (fun k => dowelref01_Check.l0.eq_2 ..) (Ev.pos (by omega) (Ev.pos (by omega) ?_))
  rw [hb]
  by_cases h1 : (((x3.data.toList[i]).toNat : Nat) : Int) < 48
  ·
   exact Ev.pos h1 (Ev.some_ (bad (decide_eq_false (by omega))).symm)
  ·
   refine Ev.neg h1 ?_
   by_cases h2 : (((x3.data.toList[i]).toNat : Nat) : Int) > 57
   ·
    exact Ev.pos h2 (Ev.some_ (bad (decide_eq_false (by omega))).symm)
   ·
    refine Ev.neg h2 ?_
    rw [wsucc (show i < x3.size by omega) (by omega)]
    refine chk_l0 x0 x3 hm hp hle n (i + 1) (by omega) ?_
    rw [List.take_succ_eq_append_getElem hl, List.all_append, hi, Bool.true_and, List.all_cons, List.all_nil, Bool.and_true]
    exact decide_eq_true (by omega)
theorem ext_list (s : ByteArray) (i j : Nat) : (s.extract i j).data.toList = (s.data.toList.drop i).take (j - i) := by
 rw [ByteArray.data_extract, Array.toList_extract, List.extract_eq_take_drop]
theorem chk_j1 (x0 x3 : ByteArray) (hm : x3.size ≤ 65536) (hle : x3.size ≤ x0.size) : Ev (fun k => dowelref01_Check.j1 k x0 x3) (if x3.data.toList = [] then 14 else resD x3.data.toList x0.size) := by
 refine Ev.step (fun k => dowelref01_Check.j1.eq_2 ..) ?_
 by_cases h : (x3.size : Int) = 0
 ·
  refine Ev.pos h (Ev.some_ ?_)
  rw [if_pos (List.length_eq_zero_iff.1 (by rw [dlen]; omega))]
 ·
  refine Ev.neg h ?_
  rw [if_neg (fun e => h (by rw [bs_list, e]; rfl))]
  exact chk_l0 x0 x3 hm (by omega) hle x3.size 0 (by omega) rfl
theorem check_ev (s : ByteArray) (hm : s.size ≤ 65536) : Ev (fun k => dowelref01_Check.f k s) (chk s.data.toList) := by
 unfold dowelref01_Check.f
 refine Ev.neg (by omega) ?_
 by_cases h : (s.size : Int) > 0
 ·
  refine Ev.pos h (Ev.pos (by omega) (Ev.step (fun k => dowelref01_Check.j0.eq_2 ..) ?_))
  rw [bt_head s (by omega)]
  have hl : s.data.toList.length = s.size := dlen s
  match hL : s.data.toList, hl with
  | [], hl => simp at hl; omega
  | b :: r, hl =>
   simp only [List.headD_cons]
   by_cases h45 : b.toNat = 45
   ·
    refine Ev.pos (by simp [h45]) (Ev.pos (by omega) ?_)
    have e : (s.extract 1 s.size).data.toList = r := by
     rw [ext_list, hL]
     simp only [List.drop_succ_cons, List.drop_zero]
     exact List.take_of_length_le (by simp at hl; omega)
    have hsz : (s.extract 1 s.size).size = r.length := by rw [bs_list, e]
    have := chk_j1 s (s.extract 1 s.size) (by rw [hsz]; simp at hl; omega) (by rw [hsz]; simp at hl; omega)
    rw [e] at this
    unfold chk
    rw [show body (b :: r) = r by simp [body, h45], hl]
    exact this
   ·
    refine Ev.neg (by simp; omega) ?_
    have := chk_j1 s s hm (Nat.le_refl _)
    rw [hL] at this
    unfold chk
    rw [show body (b :: r) = b :: r by simp [body, h45], hl]
    exact this
 ·
  refine Ev.neg h (Ev.step (fun k => dowelref01_Check.j0.eq_2 ..) (Ev.neg (by simp) ?_))
  have e : s.data.toList = [] := List.length_eq_zero_iff.1 (by rw [dlen]; omega)
  have := chk_j1 s s hm (Nat.le_refl _)
  rw [e] at this ⊢
  exact this
theorem one_toList : (⟨#[45]⟩ : ByteArray).toList = [45] := by rw [ByteArray.toList_eq]
theorem one_size : (⟨#[45]⟩ : ByteArray).size = 1 := rfl
theorem cut_eq (s : ByteArray) : ∃ d neg, strings_CutPrefix.f s (⟨#[45]⟩ : ByteArray) = some (d, neg) ∧ d.data.toList = body s.data.toList ∧ neg = decide ((s.data.toList.headD 0).toNat = 45) ∧ d.size + (if neg = true then 1 else 0) = s.size := by
 unfold strings_CutPrefix.f stringslite_CutPrefix.f stringslite_HasPrefix.f
 have hl : s.data.toList.length = s.size := dlen s
 rw [one_size, one_toList]
 match hL : s.data.toList, hl with
 | [], hl =>
  simp only [List.length_nil] at hl
  rw [if_neg (by omega)]
  refine ⟨s, false, rfl, ?_, rfl, by rw [if_neg (by decide)]; omega⟩
  rw [hL]
  rfl
 | b :: r, hl =>
  simp only [List.length_cons] at hl
  rw [if_pos (by omega), if_pos (by omega), if_pos (by omega)]
  have e : (s.extract 0 (((1 : Nat) : Int)).toNat).toList = [b] := by
   rw [ByteArray.toList_eq, ext_list, hL]
   rfl
  have e2 : (s.extract (((1 : Nat) : Int)).toNat s.size).data.toList = r := by
   rw [ext_list, hL]
   show List.take (s.size - 1) r = r
   exact List.take_of_length_le (by omega)
  rw [e]
  simp only [Option.bind_some, List.headD_cons]
  by_cases h : b.toNat = 45
  ·
   have hb : b = 45 := byte_eq h
   rw [if_pos (by rw [hb]; rfl), if_pos (by omega), if_pos (by omega)]
   refine ⟨_, true, rfl, ?_, by simp [h], ?_⟩
   ·
    rw [e2]; simp [body, h]
   ·
    rw [bs_list, e2, if_pos rfl]; omega
  ·
   have hb : ¬ (([b] : List UInt8) == [45]) = true := by
    intro hh
    have : b = 45 := by simpa using hh
    rw [this] at h
    exact h rfl
   rw [if_neg hb]
   refine ⟨s, false, rfl, ?_, by simp [h], by simp⟩
   rw [hL]; simp [body, h]
theorem idx_from (p : Nat → Bool) (hp : ∀ x, p x = true ↔ (x < 48 ∨ 57 < x)) (s : ByteArray) : ∀ (n pos f : Nat), pos + n = s.size → n ≤ f → ((0 ≤ Lib.idxFuncFrom p true s f pos) ↔ (s.data.toList.drop pos).all isd = false)
 | 0, pos, f, h, hf => by
  rw [Lib.idxFuncFrom_end p true s f pos (by omega), List.drop_of_length_le (by rw [dlen]; omega)]
  simp
 | n + 1, pos, 0, h, hf => by omega
 | n + 1, pos, f + 1, h, hf => by
  have hlt : pos < s.size := by omega
  have hl : pos < s.data.toList.length := by rw [dlen]; omega
  have hb : s[pos]'hlt = s.data.toList[pos] := by simp [ByteArray.getElem_eq_getElem_data]
  rw [List.drop_eq_getElem_cons hl, List.all_cons]
  unfold Lib.idxFuncFrom
  rw [if_pos hlt]
  by_cases ha : (s[pos]'hlt).toNat < 128
  ·
   rw [decode_ascii s pos hlt ha]
   by_cases hd : isd s.data.toList[pos] = true
   ·
    rw [if_neg (by rw [hp, hb]; rw [isd_iff] at hd; omega), hd, Bool.true_and]
    exact idx_from p hp s n (pos + 1) f (by omega) (by omega)
   ·
    rw [if_pos (by rw [hp, hb]; rw [isd_iff] at hd; omega)]
    rw [Bool.not_eq_true] at hd
    rw [hd, Bool.false_and]
    exact ⟨fun _ => rfl, fun _ => by omega⟩
  ·
   have hh := (decode_high s pos hlt (by omega)).1
   rw [if_pos (by rw [hp]; omega)]
   have hd : isd s.data.toList[pos] = false := decide_eq_false (by rw [← hb]; omega)
   rw [hd, Bool.false_and]
   exact ⟨fun _ => rfl, fun _ => by omega⟩
theorem has_eq (s : ByteArray) : strings_ContainsFunc_Parse1.f s = some (!(s.data.toList.all isd)) := by
 unfold strings_ContainsFunc_Parse1.f Lib.idxFunc
 have := idx_from (fun x => decide (x < 48) || decide (57 < x)) (fun x => by simp) s s.size 0 s.size (by omega) (Nat.le_refl _)
 rw [List.drop_zero] at this
 congr 1
 cases hb : s.data.toList.all isd
 ·
  exact decide_eq_true (this.2 hb)
 ·
  exact decide_eq_false (fun h => by rw [this.1 h] at hb; cases hb)
theorem pum_ok : ∀ (l : List UInt8) (a M : Nat), l.all isd = true → nv a l ≤ M → M < 4294967296 → Lib.parseUintM M a l = .ok (nv a l)
 | [], a, M, _, _, _ => rfl
 | c :: r, a, M, h, h1, h2 => by
  rw [List.all_cons, Bool.and_eq_true, isd_iff] at h
  rw [nv_cons] at h1 ⊢
  have := nv_le (a * 10 + (c.toNat - 48)) r
  unfold Lib.parseUintM
  rw [if_pos h.1, if_neg (by omega), if_neg (by omega)]
  exact pum_ok r _ M h.2 h1 h2
theorem pu_eq (s : ByteArray) (h : s.data.toList.all isd = true) (h0 : 0 < s.size) (h9 : s.size ≤ 9) : strconv_ParseUint_56.f s 10 32 = some (((nv 0 s.data.toList : Nat) : Int), (none : Option Int)) := by
 have hl : s.data.toList.length = s.size := dlen s
 have h1 := nv_lt h
 have h2 : (10 : Nat) ^ s.data.toList.length ≤ 10 ^ 9 := Nat.pow_le_pow_right (by decide) (by omega)
 unfold strconv_ParseUint_56.f Lib.parseUintB
 rw [if_pos ⟨rfl, rfl, by omega⟩, if_neg (fun e => by rw [e] at hl; simp at hl; omega), pum_ok _ 0 _ h (by show _ ≤ 4294967295; omega) (by decide)]
theorem take_all {l : List UInt8} (h : l.all isd = true) (n : Nat) : (l.take n).all isd = true := by
 rw [List.all_eq_true] at h ⊢
 exact fun x hx => h x (List.mem_of_mem_take hx)
theorem drop_all {l : List UInt8} (h : l.all isd = true) (n : Nat) : (l.drop n).all isd = true := by
 rw [List.all_eq_true] at h ⊢
 exact fun x hx => h x (List.mem_of_mem_drop hx)
theorem ten_len {m c : Nat} (h : m < 10 ^ c) : (dgs BB m).length ≤ c :=
 dgs_len BB2 c m (Nat.lt_of_lt_of_le h (Nat.pow_le_pow_left (by decide) c))
theorem parse_l1 (x4 : ByteArray) (x5 : Bool) (m : Nat) (n : Nat) (r : Bool × List Int × Int) (h0 : 0 < n) (h9 : n ≤ 9) (hn : n ≤ x4.size) (hm : (dgs BB m).length ≤ 70368744177663) (hd : x4.data.toList.all isd = true)
  (k : Ev (fun k => integer_Parse.l0 k (x4.extract n x4.size) x5 (dgs BB (m * 10 ^ n + nv 0 (x4.data.toList.take n)))) r) : ∀ (q j : Nat), j + q = n →
  Ev (fun k => integer_Parse.l1 k x4 x5 (dgs BB m) (n : Int) ((10 ^ j : Nat) : Int) (n : Int) (j : Int)) r
 | 0, j, hj => by
  obtain rfl : j = n := by omega
  have hp : 10 ^ j ≤ 10 ^ 9 := Nat.pow_le_pow_right (by decide) h9
  have ee : (x4.extract 0 (((j : Nat) : Int)).toNat).data.toList = x4.data.toList.take j := by
   rw [ext_list, List.drop_zero, Nat.sub_zero, Int.toNat_natCast]
  have hsz : (x4.extract 0 (((j : Nat) : Int)).toNat).size = j := by
   rw [bs_list, ee, List.length_take, dlen]
   omega
  have hu := pu_eq (x4.extract 0 (((j : Nat) : Int)).toNat) (by rw [ee]; exact take_all hd j) (by omega) (by omega)
  rw [ee] at hu
  have hlt := nv_lt (take_all hd j)
  have hle : (10 : Nat) ^ (x4.data.toList.take j).length ≤ 10 ^ 9 := Nat.pow_le_pow_right (by decide) (by rw [List.length_take]; omega)
  refine Ev.step (fun k => integer_Parse.l1.eq_2 ..) (Ev.neg (by omega) (Ev.pos (by omega) (Ev.pos (by omega) (Ev.bind0 hu ?_))))
  have hmod : (((nv 0 (x4.data.toList.take j) : Nat) : Int)) % 4294967296 = (nv 0 (x4.data.toList.take j) : Nat) := by omega
  simp only [hmod]
  refine Ev.bind (scale_ev (dgs BB m) ((10 ^ j : Nat) : Int) ((nv 0 (x4.data.toList.take j) : Nat) : Int) (dgs_digs BB2 m) (Int.natCast_nonneg _) (Int.ofNat_lt.2 (show 10 ^ j < 4294967296 by omega)) (Int.natCast_nonneg _) (Int.ofNat_lt.2 (show nv 0 (x4.data.toList.take j) < 4294967296 by omega)) hm (m * 10 ^ j + nv 0 (x4.data.toList.take j)) ?_) ?_
  ·
   rw [show val 4294967296 (dgs BB m) = (m : Int) from dgs_val BB2 m]
   rw [Int.natCast_add, Int.natCast_mul]
  ·
   rw [Int.toNat_natCast]
   exact k
 | q + 1, j, hj => by
  refine Ev.step (fun k => integer_Parse.l1.eq_2 ..) (Ev.pos (by omega) ?_)
  rw [wsucc (show j < n by omega) (by omega)]
  have hp : 10 ^ (j + 1) ≤ 10 ^ 9 := Nat.pow_le_pow_right (by decide) (by omega)
  have e : (((10 ^ j : Nat) : Int) * 10) % 4294967296 = ((10 ^ (j + 1) : Nat) : Int) := by
   rw [Nat.pow_succ] at hp ⊢
   omega
  rw [e]
  exact parse_l1 x4 x5 m n r h0 h9 hn hm hd k q (j + 1) (by omega)
theorem parse_l0 (x5 : Bool) : ∀ (sz : Nat) (x4 : ByteArray) (m : Nat), x4.size = sz → sz ≤ 65536 → x4.data.toList.all isd = true → (∃ c, m < 10 ^ c ∧ c + sz ≤ 65536) →
  Ev (fun k => integer_Parse.l0 k x4 x5 (dgs BB m)) (decide (x5 = true ∧ nv m x4.data.toList ≠ 0), dgs BB (nv m x4.data.toList), 0) := by
 intro sz
 induction sz using Nat.strongRecOn with
 | _ sz ih =>
  intro x4 m hs hm hd hc
  obtain ⟨c, hc1, hc2⟩ := hc
  have hlen := ten_len hc1
  have hll : x4.data.toList.length = x4.size := dlen x4
  by_cases h : (x4.size : Int) > 0
  ·
   refine Ev.step (fun k => integer_Parse.l0.eq_2 ..) (Ev.pos h ?_)
   obtain ⟨n, hn1, hn2, hn3, hn4⟩ : ∃ n : Nat, wrap64 ((Int.tmod (wrap64 ((x4.size : Int) - 1)) 9) + 1) = (n : Int) ∧ 0 < n ∧ n ≤ 9 ∧ n ≤ x4.size := by
    have e1 : wrap64 ((x4.size : Int) - 1) = ((x4.size - 1 : Nat) : Int) := by rw [w64 _ (by omega) (by omega)]; omega
    have e2 : Int.tmod ((x4.size - 1 : Nat) : Int) 9 = (((x4.size - 1) % 9 : Nat) : Int) := rfl
    refine ⟨(x4.size - 1) % 9 + 1, ?_, by omega, by omega, by omega⟩
    rw [e1, e2, w64 _ (by omega) (by omega)]
    omega
   rw [hn1]
   have ed : (x4.extract n x4.size).data.toList = x4.data.toList.drop n := by
    rw [ext_list]
    exact List.take_of_length_le (by rw [List.length_drop]; omega)
   have hs2 : (x4.extract n x4.size).size = sz - n := by rw [bs_list, ed, List.length_drop]; omega
   have hlt := nv_lt (take_all hd n)
   have htl : (x4.data.toList.take n).length = n := by rw [List.length_take]; omega
   rw [htl] at hlt
   have hnv : nv (m * 10 ^ n + nv 0 (x4.data.toList.take n)) (x4.data.toList.drop n) = nv m x4.data.toList := by
    have := nv_app m (x4.data.toList.take n) (x4.data.toList.drop n)
    rw [List.take_append_drop, nv_pow (x4.data.toList.take n) m, htl] at this
    exact this.symm
   have hcc : m * 10 ^ n + nv 0 (x4.data.toList.take n) < 10 ^ (c + n) := by
    have h3 : (m + 1) * 10 ^ n ≤ 10 ^ c * 10 ^ n := Nat.mul_le_mul_right _ hc1
    rw [Nat.pow_add]
    rw [Nat.add_mul] at h3
    omega
   have ih2 := ih (sz - n) (by omega) (x4.extract n x4.size) (m * 10 ^ n + nv 0 (x4.data.toList.take n)) hs2 (by omega) (by rw [ed]; exact drop_all hd n) ⟨c + n, hcc, by omega⟩
   rw [ed, hnv] at ih2
   exact parse_l1 x4 x5 m n _ hn2 hn3 hn4 (by omega) hd ih2 n 0 (by omega)
  ·
   have e : x4.data.toList = [] := List.length_eq_zero_iff.1 (by omega)
   rw [e, nv_nil]
   refine Ev.step (fun k => integer_Parse.l0.eq_2 ..) (Ev.neg h ?_)
   exact Ev.bind (signed_ev x5 (dgs BB m) m (by omega) (dgs_digs BB2 m) (dgs_val BB2 m)) (Ev.some_ rfl)
theorem parse_ev (s : ByteArray) (hm : s.size ≤ 65536) : ∃ neg N, Ev (fun k => integer_Parse.f k s) (if chk s.data.toList = 0 then (neg, dgs BB N, 0) else (false, [], chk s.data.toList)) ∧
  N = nv 0 (body s.data.toList) ∧ neg = decide (decide ((s.data.toList.headD 0).toNat = 45) = true ∧ N ≠ 0) := by
 obtain ⟨d, ng, h1, h2, h3, h4⟩ := cut_eq s
 refine ⟨_, _, ?_, rfl, rfl⟩
 have hl : s.data.toList.length = s.size := dlen s
 have hdl : d.data.toList.length = d.size := dlen d
 have hds : d.size ≤ s.size := by omega
 unfold integer_Parse.f
 refine Ev.neg (by omega) (Ev.bind0 h1 ?_)
 show Ev (fun k => if d.toList = ([] : List UInt8) then (integer_Parse.j0 k d ng true) else ((strings_ContainsFunc_Parse1.f d).bind fun t489 => (integer_Parse.j0 k d ng t489))) _
 rw [ByteArray.toList_eq, has_eq, h2]
 rw [h2] at hdl
 unfold chk
 by_cases he : body s.data.toList = []
 ·
  rw [if_pos he]
  exact Ev.pos he (Ev.step (fun k => integer_Parse.j0.eq_2 ..) (Ev.pos rfl (Ev.some_ rfl)))
 ·
  rw [if_neg he]
  refine Ev.neg he (Ev.bindS ?_)
  unfold resD
  by_cases hd : (body s.data.toList).all isd = true
  ·
   rw [if_pos hd, hd]
   have hp : 0 < d.size := by
    rcases Nat.eq_zero_or_pos d.size with h0 | h0
    ·
     exact absurd (List.length_eq_zero_iff.1 (by omega)) he
    ·
     exact h0
   have hb := bt_head d hp
   rw [h2] at hb
   refine Ev.step (fun k => integer_Parse.j0.eq_2 ..) (Ev.neg (by simp) (Ev.pos (by omega) ?_))
   rw [hb]
   have fin := parse_l0 ng d.size d 0 rfl (by omega) (by rw [h2]; exact hd) ⟨0, by decide, by omega⟩
   rw [dgs_zero, h2, h3] at fin
   have bad : ∀ b : Bool, b = true → Ev (fun k => integer_Parse.j1 k d ng b) (false, [], 3) := fun b hb2 =>
    Ev.step (fun k => integer_Parse.j1.eq_2 ..) (Ev.pos hb2 (Ev.some_ rfl))
   have good : ∀ b : Bool, b = false → Ev (fun k => integer_Parse.j1 k d ng b) (decide (decide ((s.data.toList.headD 0).toNat = 45) = true ∧ nv 0 (body s.data.toList) ≠ 0), dgs BB (nv 0 (body s.data.toList)), 0) := fun b hb2 => by
    refine Ev.step (fun k => integer_Parse.j1.eq_2 ..) (Ev.neg (by rw [hb2]; simp) ?_)
    rw [h3]
    exact fin
   have key : ∀ (c : Int) (F : Nat → Option (Bool × List Int × Int)) (A : Bool × List Int × Int), (if ((body s.data.toList).headD 0).toNat = 48 ∧ 1 < s.data.toList.length then (3 : Int) else 0) = c → Ev F (if c = 0 then A else (false, [], c)) →
     Ev F (if (if ((body s.data.toList).headD 0).toNat = 48 ∧ 1 < s.data.toList.length then (3 : Int) else 0) = 0 then A else (false, [], (if ((body s.data.toList).headD 0).toNat = 48 ∧ 1 < s.data.toList.length then (3 : Int) else 0))) := by
    intro c F A hc h
    rw [hc]
    exact h
   by_cases h48 : ((body s.data.toList).headD 0).toNat = 48
   ·
    by_cases hg : (d.size : Int) > 1
    ·
     refine key 3 _ _ (if_pos ⟨h48, by omega⟩) ?_
     rw [if_neg (by decide)]
     exact Ev.pos (by omega) (Ev.pos hg (bad true rfl))
    ·
     by_cases hn : ng = true
     ·
      rw [if_pos hn] at h4
      refine key 3 _ _ (if_pos ⟨h48, by omega⟩) ?_
      rw [if_neg (by decide)]
      exact Ev.pos (by omega) (Ev.neg hg (bad ng hn))
     ·
      rw [if_neg hn] at h4
      refine key 0 _ _ (if_neg (by omega)) ?_
      rw [if_pos rfl]
      exact Ev.pos (by omega) (Ev.neg hg (good ng (by simpa using hn)))
   ·
    refine key 0 _ _ (if_neg (fun hh => h48 hh.1)) ?_
    rw [if_pos rfl]
    exact Ev.neg (by omega) (good false rfl)
  ·
   rw [if_neg hd]
   rw [Bool.not_eq_true] at hd
   rw [hd]
   exact Ev.step (fun k => integer_Parse.j0.eq_2 ..) (Ev.pos rfl (Ev.some_ rfl))
theorem parse_ok (s : ByteArray) (hm : s.size ≤ 65536) (h : chk s.data.toList = 0) : ∃ z : Int, s = T z ∧ Ev (fun k => integer_Parse.f k s) (decide (z < 0), lm z, 0) := by
 obtain ⟨neg, N, h1, h2, h3⟩ := parse_ev s hm
 obtain ⟨z, h4, _, h5⟩ := chk_itoa h
 refine ⟨z, ?_, ?_⟩
 ·
  unfold T
  rw [← h4]
 ·
  rw [if_pos h] at h1
  have := signed_mk (neg := decide ((s.data.toList.headD 0).toNat = 45)) (n := N) (z := z) (by rw [h5, h2]; simp only [decide_eq_true_eq])
  rw [Prod.mk.injEq] at this
  rw [h3, this.1, this.2] at h1
  exact h1
theorem read_ev (s : ByteArray) (hm : s.size ≤ 120) (h : chk s.data.toList = 0) : ∃ z : Int, s = T z ∧ Ev (fun k => dowellaw01_read.f k s) (decide (z < 0), lm z, true) := by
 obtain ⟨z, h1, h2⟩ := parse_ok s (by omega) h
 refine ⟨z, h1, ?_⟩
 unfold dowellaw01_read.f
 have hc := check_ev s (by omega)
 rw [h] at hc
 exact Ev.neg (by omega) (Ev.bind hc (Ev.pos rfl (Ev.bind h2 (Ev.some_ rfl))))
theorem right_ev (s : ByteArray) : Ev (fun k => dowellaw01_right.f k s) (decide (s.size ≤ 120 ∧ chk s.data.toList = 0)) := by
 unfold dowellaw01_right.f
 by_cases h : (s.size : Int) ≤ 120
 ·
  refine Ev.pos h (Ev.bind (check_ev s (by omega)) (Ev.some_ ?_))
  have : s.size ≤ 120 := by omega
  by_cases hc : chk s.data.toList = 0 <;> simp [this, hc]
 ·
  exact Ev.neg h (Ev.some_ (decide_eq_false (by omega)).symm)
theorem lm_small (z : Int) (h : z ≠ 0) (h2 : z.natAbs < 4294967296) : lm z = [(z.natAbs : Int)] := by
 rw [lm, dgs_pos BB2 (by omega), Nat.div_eq_of_lt h2, dgs_zero, Nat.mod_eq_of_lt h2]
theorem kn_div : integer_DivMod.f 100 true [7] false [2] = some (true, [4], false, [1], 0) := by kernel_rfl
theorem kn_pow : integer_Power.f 100 true [10] 3 = some (true, [1000], 0) := by kernel_rfl
theorem kn_gcd : integer_Gcd.f 100 true [12] false [18] = some (false, [6]) := by kernel_rfl
theorem kn_bits : integer_Int_Bits.f false [256] = some 9 := by kernel_rfl
theorem small_text (z : Int) (h : z ≠ 0) (h2 : z.natAbs < 4294967296) : Ev (fun k => integer_Int_Text.f k (decide (z < 0)) [(z.natAbs : Int)]) (T z) := by
 have h10 : (Lib.decDigits z.natAbs).length ≤ 10 := by
  rw [dec_dgs _ (by omega)]
  simpa using dgs_len TEN2 10 z.natAbs (by omega)
 have := text_ev z (by rw [lm_small z h h2]; simp) (by omega)
 rwa [lm_small z h h2] at this
theorem small_from (z : Int) (h : z ≠ 0) (h2 : z.natAbs < 4294967296) : Ev (fun k => integer_From.f k z) (decide (z < 0), [(z.natAbs : Int)]) := by
 have := from_ev z (by omega) (by omega)
 rwa [lm_small z h h2] at this
theorem small_t (z : Int) (b : Bool) (l : List Int) (h : z ≠ 0) (h2 : z.natAbs < 4294967296) (hb : decide (z < 0) = b) (hl : [(z.natAbs : Int)] = l) : Ev (fun k => integer_Int_Text.f k b l) (T z) := hb ▸ hl ▸ small_text z h h2
theorem small_f (z : Int) (b : Bool) (l : List Int) (h : z ≠ 0) (h2 : z.natAbs < 4294967296) (hb : decide (z < 0) = b) (hl : [(z.natAbs : Int)] = l) : Ev (fun k => integer_From.f k z) (b, l) := hb ▸ hl ▸ small_from z h h2
theorem known_ev : Ev (fun k => dowellaw01_known.f k) true := by
 unfold dowellaw01_known.f
 refine Ev.bind (small_f (-7) true [7] (by decide) (by decide) (by decide) rfl) (Ev.bind (small_f 2 false [2] (by decide) (by decide) (by decide) rfl) ?_)
 refine Ev.bind (a := (true, [4], false, [1], 0)) (Ev.of (integer_DivMod.mono _ _ _ _) kn_div) ?_
 refine Ev.bind (small_f (-10) true [10] (by decide) (by decide) (by decide) rfl) ?_
 refine Ev.bind (a := (true, [1000], 0)) (Ev.of (integer_Power.mono _ _ _) kn_pow) ?_
 refine Ev.bind (small_t (-4) true [4] (by decide) (by decide) (by decide) rfl) ?_
 refine Ev.pos ?_ ?_
 ·
  rw [ByteArray.toList_eq]
  show Lib.itoa (-4) = _
  unfold Lib.itoa
  rw [if_pos (by decide), show (-4 : Int).natAbs = 4 from rfl, dec_small (by decide)]
  rfl
 refine Ev.bind (small_t 1 false [1] (by decide) (by decide) (by decide) rfl) ?_
 refine Ev.pos ?_ ?_
 ·
  rw [ByteArray.toList_eq]
  show Lib.itoa ((1 : Nat) : Int) = _
  rw [itoa_nat, dec_small (by decide)]
  rfl
 refine Ev.pos rfl ?_
 refine Ev.bind (small_t (-1000) true [1000] (by decide) (by decide) (by decide) rfl) ?_
 refine Ev.pos ?_ ?_
 ·
  rw [ByteArray.toList_eq]
  show Lib.itoa (-1000) = _
  unfold Lib.itoa
  rw [if_pos (by decide), show (-1000 : Int).natAbs = 1000 from rfl, dec_big (by decide), dec_big (by decide), dec_big (by decide), dec_small (by decide)]
  rfl
 refine Ev.pos rfl ?_
 refine Ev.bind (small_f (-12) true [12] (by decide) (by decide) (by decide) rfl) (Ev.bind (small_f 18 false [18] (by decide) (by decide) (by decide) rfl) ?_)
 refine Ev.bind (a := (false, [6])) (Ev.of (integer_Gcd.mono _ _ _ _) kn_gcd) ?_
 refine Ev.bind (small_t 6 false [6] (by decide) (by decide) (by decide) rfl) ?_
 refine Ev.pos ?_ ?_
 ·
  rw [ByteArray.toList_eq]
  show Lib.itoa ((6 : Nat) : Int) = _
  rw [itoa_nat, dec_small (by decide)]
  rfl
 refine Ev.bind (small_f 256 false [256] (by decide) (by decide) (by decide) rfl) ?_
 exact Ev.bind0 (a := 9) kn_bits (Ev.some_ rfl)
def Sm (k : Nat) (z : Int) : Prop := z.natAbs < 10 ^ k
theorem p10 (k : Nat) : 1 ≤ 10 ^ k := Nat.one_le_pow _ _ (by decide)
theorem Sm.lm {k : Nat} {z : Int} (h : Sm k z) : (lm z).length ≤ k := ten_len h
theorem dec_len_eq {n : Nat} (h : 0 < n) : (Lib.decDigits n).length = (dgs 10 n).length := by rw [dec_dgs n h]; simp
theorem Sm.dec {k : Nat} {z : Int} (h : Sm (k + 1) z) : (Lib.decDigits z.natAbs).length ≤ k + 1 := (pd_pad k z.natAbs h).1
theorem Sm.mono {j k : Nat} {z : Int} (h : Sm j z) (hk : j ≤ k) : Sm k z := Nat.lt_of_lt_of_le h (Nat.pow_le_pow_right (by decide) hk)
theorem Sm.add {k : Nat} {x y : Int} (h : Sm k x) (g : Sm k y) : Sm (k + 1) (x + y) := by
 unfold Sm at *
 rw [Nat.pow_succ]
 have := Int.natAbs_add_le x y
 omega
theorem Sm.neg {k : Nat} {x : Int} (h : Sm k x) : Sm k (-x) := by unfold Sm at *; rw [Int.natAbs_neg]; exact h
theorem Sm.abs {k : Nat} {x : Int} (h : Sm k x) : Sm k (x.natAbs : Int) := by unfold Sm at *; simpa using h
theorem T_size (z : Int) : (T z).size = (Lib.itoa z).length := bsize _
theorem sm_of {z : Int} {k : Nat} (h : (T z).size ≤ k) : Sm k z := by
 rw [T_size, itoa_len] at h
 unfold Sm
 rcases Nat.eq_zero_or_pos z.natAbs with h0 | h0
 ·
  have := p10 k; omega
 ·
  have h1 := dgs_lt_pow TEN2 z.natAbs
  rw [← dec_len_eq h0] at h1
  exact Nat.lt_of_lt_of_le h1 (Nat.pow_le_pow_right (by decide) (by omega))
theorem Sm.itoa {k : Nat} {z : Int} (h : Sm (k + 1) z) : (Lib.itoa z).length ≤ k + 2 := by
 rw [itoa_len]
 have := h.dec
 split <;> omega
theorem sgn_ev (z : Int) : integer_Int_Sign.f (decide (z < 0)) (lm z) = some z.sign := by rw [sign_eq, sign_sign]
theorem read_sm (s : ByteArray) (h : s.size ≤ 120 ∧ chk s.data.toList = 0) : ∃ z : Int, s = T z ∧ Sm 120 z ∧ Ev (fun k => dowellaw01_read.f k s) (decide (z < 0), lm z, true) := by
 obtain ⟨z, h1, h2⟩ := read_ev s h.1 h.2
 exact ⟨z, h1, sm_of (by rw [← h1]; exact h.1), h2⟩
theorem text_sm {k : Nat} {z : Int} (h : Sm (k + 1) z) (hk : k ≤ 1000000) : Ev (fun k => integer_Int_Text.f k (decide (z < 0)) (lm z)) (T z) :=
 text_ev z (by have := h.lm; omega) (by have := h.dec; omega)
end Go.Proofs.YtiikfhdmclmjmaaDoor.Pure
namespace Go.Proofs.YtiikfhdmclmjmaaDoor.P
open Go.RowKit Go.Proofs.YtiikfhdmclmjmaaDoorW.PrintWords Go.Proofs.YtiikfhdmclmjmaaDoorW.PrintLast
def dowelref01_Compare.f (k : Nat) (a0 : ByteArray) (a1 : ByteArray) : Option (Int) := (dowelref01_Sign.f a0).bind fun t876 => ((dowelref01_Sign.f a1).bind fun t877 => (if t876 < t877 then (some (-1)) else (if t876 > t877 then (some 1) else (if t876 < 0 then ((dowelref01_digits.f k a1).bind fun t878 => ((dowelref01_digits.f k a0).bind fun t881 => ((dowelref01_order.f k t878 t881).bind fun t884 => (some t884)))) else ((dowelref01_digits.f k a0).bind fun t885 => ((dowelref01_digits.f k a1).bind fun t888 => ((dowelref01_order.f k t885 t888).bind fun t891 => (some t891))))))))
theorem dowelref01_Compare.mono : ∀ a0 a1 k, LeO (dowelref01_Compare.f k a0 a1) (dowelref01_Compare.f (k + 1) a0 a1) := by
 intro a0 a1 k
 unfold dowelref01_Compare.f
 repeat' with_reducible first | exact dowelref01_digits.mono _ _ | exact dowelref01_order.mono _ _ _ | exact LeO.refl _ | exact LeO.none _ | refine LeO.ite ?_ ?_ | refine LeO.bind ?_ (fun _ => ?_)
end Go.Proofs.YtiikfhdmclmjmaaDoor.P
namespace Go.Proofs.YtiikfhdmclmjmaaDoor.Pure
open Go.RowKit Go.Proofs.YtiikfhdmclmjmaaDoorW.PrintWords Go.Proofs.YtiikfhdmclmjmaaDoor.P
theorem rorder_l0 (l m : List Int) (hlen : l.length = m.length) (hm : l.length ≤ 4611686018427387904) : ∀ i : Nat, i ≤ l.length → ordL (l.drop i) (m.drop i) = 0 → Ev (fun k => dowelref01_order.l0 k l m ((i : Int) - 1)) (ordL l m)
 | 0, _, h => by
  refine Ev.step (fun k => dowelref01_order.l0.eq_2 ..) (Ev.neg (by omega) (Ev.some_ ?_))
  simpa using h.symm
 | i + 1, hi, h => by
  have e : (((i + 1 : Nat) : Int) - 1) = (i : Int) := by omega
  rw [e]
  have hs : ordL (l.drop i) (m.drop i) = if rd l (i : Int) = rd m (i : Int) then 0 else if rd l (i : Int) < rd m (i : Int) then -1 else 1 := by
   rw [drop_at (l := l) (by omega), drop_at (l := m) (by omega)]
   simp [ordL, h]
  refine Ev.step (fun k => dowelref01_order.l0.eq_2 ..) ?_
  refine Ev.pos (by omega) (Ev.pos (by omega) (Ev.pos (by omega) (Ev.pos (by omega) ?_)))
  rw [w64 ((i : Int) - 1) (by omega) (by omega)]
  have hne : ordL (l.drop i) (m.drop i) ≠ 0 → ordL (l.drop i) (m.drop i) = ordL l m := order_l0.ordL_drop l m i
  by_cases hq1 : rd l (i : Int) < rd m (i : Int)
  ·
   rw [if_neg (by omega), if_pos hq1] at hs
   exact Ev.pos hq1 (Ev.some_ (by rw [← hne (by rw [hs]; decide), hs]))
  ·
   refine Ev.neg hq1 ?_
   by_cases hq2 : rd l (i : Int) > rd m (i : Int)
   ·
    rw [if_neg (by omega), if_neg hq1] at hs
    exact Ev.pos hq2 (Ev.some_ (by rw [← hne (by rw [hs]; decide), hs]))
   ·
    exact Ev.neg hq2 (rorder_l0 l m hlen hm i (by omega) (by rw [hs, if_pos (by omega)]))
theorem rorder_ev (l m : List Int) (hl : Digs 10 l) (hm : Digs 10 m) (nl : Norm l) (nm : Norm m) (h1 : l.length ≤ 4611686018427387904) (h2 : m.length ≤ 4611686018427387904) :
  Ev (fun k => dowelref01_order.f k l m) (val 10 l - val 10 m).sign := by
 unfold dowelref01_order.f
 by_cases h : (l.length : Int) = (m.length : Int)
 ·
  refine Ev.pos h ?_
  rw [w64 _ (by omega) (by omega), ← ordL_val (by decide) (by omega) hl hm]
  refine rorder_l0 l m (by omega) h1 l.length (Nat.le_refl _) ?_
  rw [List.drop_of_length_le (Nat.le_refl _)]
  rfl
 ·
  refine Ev.neg h ?_
  by_cases h3 : (l.length : Int) < (m.length : Int)
  ·
   have := len_lt_val (B := 10) (by decide) hl hm nm (by omega)
   exact Ev.pos h3 (Ev.some_ (by rw [Int.sign_eq_neg_one_of_neg (by omega)]))
  ·
   have := len_lt_val (B := 10) (by decide) hm hl nl (by omega)
   exact Ev.neg h3 (Ev.some_ (by rw [Int.sign_eq_one_of_pos (by omega)]))
theorem val_drop (l : List Int) (i : Nat) : val 10 (l.drop i) = (if i < l.length then rd l (i : Int) else 0) + 10 * val 10 (l.drop (i + 1)) := by
 by_cases h : i < l.length
 ·
  rw [drop_at h, if_pos h]; rfl
 ·
  rw [if_neg h, List.drop_of_length_le (by omega), List.drop_of_length_le (by omega)]; rfl
theorem carry_arith (P c d1 d2 v1 v2 s q r V X : Int) (hs : s = c + d1 + d2) (hr : r + 10 * q = s) (h : V = X + P * r + P * 10 * (q + v1 + v2)) : V = X + P * (c + (d1 + 10 * v1) + (d2 + 10 * v2)) := by
 rw [h, show c + (d1 + 10 * v1) + (d2 + 10 * v2) = r + 10 * (q + v1 + v2) by omega, Int.mul_add P r, Int.mul_assoc P 10, Int.add_assoc]
theorem rplus_l0 (a b : List Int) (ha : Digs 10 a) (hb : Digs 10 b) (ma : a.length ≤ 1000000000) (mb : b.length ≤ 1000000000) : ∀ (n i : Nat) (x : List Int) (c : Int), x.length = i → n + i = max a.length b.length + 1 → 0 ≤ c → c ≤ 1 → (n = 0 → c = 0) → Digs 10 x →
  ∃ r, Ev (fun k => dowelref01_plus.l0 k a b x c (i : Int)) r ∧ Digs 10 r ∧ val 10 r = val 10 x + 10 ^ i * (c + val 10 (a.drop i) + val 10 (b.drop i)) ∧ r.length ≤ max a.length b.length + 1 := by
 intro n
 induction n with
 | zero =>
  intro i x c hx hn c0 c1 hc hd
  obtain rfl := hc rfl
  refine ⟨x, ?_, hd, ?_, by omega⟩
  ·
   refine Ev.step (fun k => dowelref01_plus.l0.eq_2 ..) (Ev.neg (by omega) (Ev.neg (by omega) (Ev.step (fun k => dowelref01_plus.j1.eq_2 ..) (Ev.neg (by simp) (Ev.some_ rfl)))))
  ·
   rw [List.drop_of_length_le (by omega), List.drop_of_length_le (by omega)]
   simp [val]
 | succ n ih =>
  intro i x c hx hn c0 c1 _ hd
  have r1 : i < a.length → 0 ≤ rd a (i : Int) ∧ rd a (i : Int) < 10 := fun h => rd_digs ha h
  have r2 : i < b.length → 0 ≤ rd b (i : Int) ∧ rd b (i : Int) < 10 := fun h => rd_digs hb h
  have q4 : x.length < 17592186044416 := by omega
  have go : ∀ s : Int, 0 ≤ s → s ≤ 19 → (s = c + (if i < a.length then rd a (i : Int) else 0) + (if i < b.length then rd b (i : Int) else 0)) → (n = 0 → s ≤ 9) →
    ∃ r, Ev (fun k => dowelref01_plus.l0 k a b (x ++ [Int.tmod s 10]) (wrap64 (Int.tdiv s 10)) (wrap64 ((i : Int) + 1))) r ∧ Digs 10 r ∧ val 10 r = val 10 x + 10 ^ i * (c + val 10 (a.drop i) + val 10 (b.drop i)) ∧ r.length ≤ max a.length b.length + 1 := by
   intro s s0 s1 hs hz
   have et : Int.tdiv s 10 = s / 10 := Int.tdiv_eq_ediv_of_nonneg s0
   have em : Int.tmod s 10 = s % 10 := Int.tmod_eq_emod_of_nonneg s0
   rw [wsucc (j := i) (n := i + 1) (by omega) (by omega), et, em, w64 _ (by omega) (by omega)]
   obtain ⟨r, k1, k2, k3, k4⟩ := ih (i + 1) (x ++ [s % 10]) (s / 10) (by simp [hx]) (by omega) (by omega) (by omega) (fun h => by have := hz h; omega) (hd.app (Digs.mk (by omega) (by omega) (Digs.nil _)))
   refine ⟨r, k1, k2, ?_, k4⟩
   rw [val_drop a i, val_drop b i]
   refine carry_arith _ _ _ _ _ _ s (s / 10) (s % 10) _ _ hs (by omega) ?_
   rw [k3, val_app, hx, Int.pow_succ]
   simp [val]
  by_cases h1 : (i : Int) < (a.length : Int)
  ·
   have b1 := r1 (by omega)
   by_cases h2 : (i : Int) < (b.length : Int)
   ·
    have b2 := r2 (by omega)
    obtain ⟨r, k1, k2⟩ := go (c + rd a (i : Int) + rd b (i : Int)) (by omega) (by omega) (by rw [if_pos (by omega), if_pos (by omega)]) (by omega)
    refine ⟨r, Ev.step (fun k => dowelref01_plus.l0.eq_2 ..) (Ev.pos h1 (Ev.step (fun k => dowelref01_plus.j1.eq_2 ..) (Ev.pos rfl (Ev.pos h1 (Ev.pos (by omega) (Ev.pos h2 (Ev.pos q4 ?_))))))), k2⟩
    rw [w64 (c + rd a (i : Int)) (by omega) (by omega), w64 (c + rd a (i : Int) + rd b (i : Int)) (by omega) (by omega)]
    exact k1
   ·
    obtain ⟨r, k1, k2⟩ := go (c + rd a (i : Int)) (by omega) (by omega) (by rw [if_pos (by omega), if_neg (by omega), Int.add_zero]) (by omega)
    refine ⟨r, Ev.step (fun k => dowelref01_plus.l0.eq_2 ..) (Ev.pos h1 (Ev.step (fun k => dowelref01_plus.j1.eq_2 ..) (Ev.pos rfl (Ev.pos h1 (Ev.pos (by omega) (Ev.neg h2 (Ev.pos q4 ?_))))))), k2⟩
    rw [w64 (c + rd a (i : Int)) (by omega) (by omega)]
    exact k1
  ·
   by_cases h2 : (i : Int) < (b.length : Int)
   ·
    have b2 := r2 (by omega)
    obtain ⟨r, k1, k2⟩ := go (c + rd b (i : Int)) (by omega) (by omega) (by rw [if_neg (by omega), if_pos (by omega), Int.add_zero]) (by omega)
    refine ⟨r, Ev.step (fun k => dowelref01_plus.l0.eq_2 ..) (Ev.neg h1 (Ev.pos h2 (Ev.step (fun k => dowelref01_plus.j1.eq_2 ..) (Ev.pos rfl (Ev.neg h1 (Ev.pos h2 (Ev.pos (by omega) (Ev.pos q4 ?_)))))))), k2⟩
    rw [w64 (c + rd b (i : Int)) (by omega) (by omega)]
    exact k1
   ·
    by_cases h3 : c > 0
    ·
     obtain ⟨r, k1, k2⟩ := go c (by omega) (by omega) (by rw [if_neg (by omega), if_neg (by omega)]; omega) (by omega)
     exact ⟨r, Ev.step (fun k => dowelref01_plus.l0.eq_2 ..) (Ev.neg h1 (Ev.neg h2 (Ev.step (fun k => dowelref01_plus.j1.eq_2 ..) (Ev.pos (decide_eq_true h3) (Ev.neg h1 (Ev.neg h2 (Ev.pos q4 k1))))))), k2⟩
    ·
     refine ⟨x, Ev.step (fun k => dowelref01_plus.l0.eq_2 ..) (Ev.neg h1 (Ev.neg h2 (Ev.step (fun k => dowelref01_plus.j1.eq_2 ..) (Ev.neg (by rw [decide_eq_true_eq]; exact h3) (Ev.some_ rfl))))), hd, ?_, by omega⟩
     obtain rfl : c = 0 := by omega
     rw [List.drop_of_length_le (by omega), List.drop_of_length_le (by omega)]
     simp [val]
theorem rplus_ev (a b : List Int) (ha : Digs 10 a) (hb : Digs 10 b) (ma : a.length ≤ 1000000000) (mb : b.length ≤ 1000000000) :
  ∃ r, Ev (fun k => dowelref01_plus.f k a b) r ∧ Digs 10 r ∧ val 10 r = val 10 a + val 10 b ∧ r.length ≤ max a.length b.length + 1 := by
 obtain ⟨r, k1, k2, k3, k4⟩ := rplus_l0 a b ha hb ma mb (max a.length b.length + 1) 0 [] 0 rfl (by omega) (by omega) (by omega) (by omega) (Digs.nil _)
 refine ⟨r, k1, k2, ?_, k4⟩
 rw [k3, Int.pow_zero]
 simp [val]
theorem borrow_arith (P c d1 d2 v1 v2 s q r V X : Int) (hs : s = d1 - c - d2) (hr : r - 10 * q = s) (h : V = X + P * r + P * 10 * (v1 - v2 - q)) : V = X + P * ((d1 + 10 * v1) - (d2 + 10 * v2) - c) := by
 rw [h, show (d1 + 10 * v1) - (d2 + 10 * v2) - c = r + 10 * (v1 - v2 - q) by omega, Int.mul_add P r, Int.mul_assoc P 10, Int.add_assoc]
theorem wsub1 {x c : Int} (h0 : 0 ≤ x) (h1 : x < 10) (c0 : 0 ≤ c) (c1 : c ≤ 1) : wrap64 (x - c) = x - c := w64 _ (by omega) (by omega)
theorem wsub2 {x c y : Int} (h0 : 0 ≤ x) (h1 : x < 10) (y0 : 0 ≤ y) (y1 : y < 10) (c0 : 0 ≤ c) (c1 : c ≤ 1) : wrap64 (wrap64 (x - c) - y) = x - c - y := by rw [wsub1 h0 h1 c0 c1, w64 _ (by omega) (by omega)]
theorem rminus_l0 (a b : List Int) (ha : Digs 10 a) (hb : Digs 10 b) (ma : a.length ≤ 1000000000) (hle : val 10 b ≤ val 10 a) : ∀ (n i : Nat) (x : List Int) (c : Int), x.length = i → n + i = a.length → 0 ≤ c → c ≤ 1 → Digs 10 x →
  val 10 a - val 10 b = val 10 x + 10 ^ i * (val 10 (a.drop i) - val 10 (b.drop i) - c) →
  ∃ r, Ev (fun k => dowelref01_minus.l0 k a b x c (i : Int)) r ∧ Digs 10 r ∧ val 10 r = val 10 a - val 10 b ∧ r.length ≤ a.length ∧ Norm r := by
 intro n
 induction n with
 | zero =>
  intro i x c hx hn c0 c1 hd hv
  refine ⟨trimL x, ?_, trimL_digs hd, ?_, by have := trimL_len x; omega, trimL_norm x⟩
  ·
   exact Ev.step (fun k => dowelref01_minus.l0.eq_2 ..) (Ev.neg (by omega) (Ev.bind (rtrim_ev x (by omega)) (Ev.some_ rfl)))
  ·
   rw [trimL_val, hv]
   have hlt := val_lt (B := 10) (by decide) hd
   rw [hx] at hlt
   have hP : (0 : Int) < 10 ^ i := Int.pow_pos (by decide)
   have hb0 := val_nonneg (B := 10) (by decide) (hb.drop i)
   rw [List.drop_of_length_le (l := a) (by omega)] at hv ⊢
   simp only [val] at hv ⊢
   have hz : val 10 (b.drop i) + c = 0 := by
    rcases Int.lt_or_le 0 (val 10 (b.drop i) + c) with h | h
    ·
     have := Int.mul_le_mul_of_nonneg_left (show 0 - val 10 (b.drop i) - c ≤ -1 by omega) (Int.le_of_lt hP)
     omega
    ·
     omega
   rw [show 0 - val 10 (b.drop i) - c = 0 by omega]
   omega
 | succ n ih =>
  intro i x c hx hn c0 c1 hd hv
  have b1 : 0 ≤ rd a (i : Int) ∧ rd a (i : Int) < 10 := rd_digs ha (by omega)
  have r2 : i < b.length → 0 ≤ rd b (i : Int) ∧ rd b (i : Int) < 10 := fun h => rd_digs hb h
  have q4 : x.length < 17592186044416 := by omega
  have q1 : (i : Int) < (a.length : Int) := by omega
  have q0 : (0 : Int) ≤ (i : Int) := by omega
  have go : ∀ s q r : Int, (s = rd a (i : Int) - c - (if i < b.length then rd b (i : Int) else 0)) → r - 10 * q = s → 0 ≤ r → r < 10 → 0 ≤ q → q ≤ 1 →
    ∃ y, Ev (fun k => dowelref01_minus.l0 k a b (x ++ [r]) q (wrap64 ((i : Int) + 1))) y ∧ Digs 10 y ∧ val 10 y = val 10 a - val 10 b ∧ y.length ≤ a.length ∧ Norm y := by
   intro s q r hs hr r0 r1 q0 q1
   rw [wsucc (j := i) (n := i + 1) (by omega) (by omega)]
   refine ih (i + 1) (x ++ [r]) q (by simp [hx]) (by omega) q0 q1 (hd.app (Digs.mk r0 r1 (Digs.nil _))) ?_
   rw [val_app, hx, Int.pow_succ]
   simp only [val, Int.mul_zero, Int.add_zero]
   rw [hv]
   rw [val_drop a i, val_drop b i, if_pos (show i < a.length by omega)]
   exact (borrow_arith _ _ _ _ _ _ s q r _ _ hs hr rfl).symm
  by_cases h2 : (i : Int) < (b.length : Int)
  ·
   have b2 := r2 (by omega)
   by_cases h3 : rd a (i : Int) - c - rd b (i : Int) < 0
   ·
    obtain ⟨r, k1, k2⟩ := go (rd a (i : Int) - c - rd b (i : Int)) 1 (rd a (i : Int) - c - rd b (i : Int) + 10) (by rw [if_pos (by omega)]) (by omega) (by omega) (by omega) (by omega) (by omega)
    refine ⟨r, Ev.step (fun k => dowelref01_minus.l0.eq_2 ..) (Ev.pos q1 (Ev.pos q0 (Ev.pos h2 (Ev.pos (by rw [wsub2 b1.1 b1.2 b2.1 b2.2 c0 c1]; exact h3) (Ev.pos q4 ?_))))), k2⟩
    rw [wsub2 b1.1 b1.2 b2.1 b2.2 c0 c1, w64 (rd a (i : Int) - c - rd b (i : Int) + 10) (by omega) (by omega)]
    exact k1
   ·
    obtain ⟨r, k1, k2⟩ := go (rd a (i : Int) - c - rd b (i : Int)) 0 (rd a (i : Int) - c - rd b (i : Int)) (by rw [if_pos (by omega)]) (by omega) (by omega) (by omega) (by omega) (by omega)
    refine ⟨r, Ev.step (fun k => dowelref01_minus.l0.eq_2 ..) (Ev.pos q1 (Ev.pos q0 (Ev.pos h2 (Ev.neg (by rw [wsub2 b1.1 b1.2 b2.1 b2.2 c0 c1]; exact h3) (Ev.pos q4 ?_))))), k2⟩
    rw [wsub2 b1.1 b1.2 b2.1 b2.2 c0 c1]
    exact k1
  ·
   by_cases h3 : rd a (i : Int) - c < 0
   ·
    obtain ⟨r, k1, k2⟩ := go (rd a (i : Int) - c) 1 (rd a (i : Int) - c + 10) (by rw [if_neg (by omega)]; omega) (by omega) (by omega) (by omega) (by omega) (by omega)
    refine ⟨r, Ev.step (fun k => dowelref01_minus.l0.eq_2 ..) (Ev.pos q1 (Ev.pos q0 (Ev.neg h2 (Ev.pos (by rw [wsub1 b1.1 b1.2 c0 c1]; exact h3) (Ev.pos q4 ?_))))), k2⟩
    rw [wsub1 b1.1 b1.2 c0 c1, w64 (rd a (i : Int) - c + 10) (by omega) (by omega)]
    exact k1
   ·
    obtain ⟨r, k1, k2⟩ := go (rd a (i : Int) - c) 0 (rd a (i : Int) - c) (by rw [if_neg (by omega)]; omega) (by omega) (by omega) (by omega) (by omega) (by omega)
    refine ⟨r, Ev.step (fun k => dowelref01_minus.l0.eq_2 ..) (Ev.pos q1 (Ev.pos q0 (Ev.neg h2 (Ev.neg (by rw [wsub1 b1.1 b1.2 c0 c1]; exact h3) (Ev.pos q4 ?_))))), k2⟩
    rw [wsub1 b1.1 b1.2 c0 c1]
    exact k1
theorem rminus_ev (a b : List Int) (ha : Digs 10 a) (hb : Digs 10 b) (ma : a.length ≤ 1000000000) (hle : val 10 b ≤ val 10 a) :
  ∃ r, Ev (fun k => dowelref01_minus.f k a b) r ∧ Digs 10 r ∧ val 10 r = val 10 a - val 10 b ∧ r.length ≤ a.length ∧ Norm r :=
 rminus_l0 a b ha hb ma hle a.length 0 [] 0 rfl (by omega) (by omega) (by omega) (Digs.nil _) (by rw [Int.pow_zero]; simp [val])
abbrev dg (z : Int) : List Int := dgs 10 z.natAbs
theorem dg_digs (z : Int) : Digs 10 (dg z) := dgs_digs TEN2 _
theorem dg_norm (z : Int) : Norm (dg z) := dgs_norm TEN2 _
theorem dg_val (z : Int) : val 10 (dg z) = (z.natAbs : Int) := dgs_val TEN2 _
theorem Sm.dg {k : Nat} {z : Int} (h : Sm k z) : (dg z).length ≤ k := dgs_len TEN2 k _ h
theorem rdig_sm {k : Nat} {z : Int} (h : Sm (k + 1) z) (hk : k ≤ 1000000) : Ev (fun k => dowelref01_digits.f k (T z)) (dg z) := rdigits_ev z (by have := h.itoa; omega)
theorem sign_lt0 {x : Int} : x.sign < 0 ↔ x < 0 := by
 rcases Int.lt_trichotomy x 0 with h | h | h
 ·
  rw [Int.sign_eq_neg_one_of_neg h]; omega
 ·
  rw [h]; decide
 ·
  rw [Int.sign_eq_one_of_pos h]; omega
theorem sign_gt0 {x : Int} : x.sign > 0 ↔ x > 0 := by
 rcases Int.lt_trichotomy x 0 with h | h | h
 ·
  rw [Int.sign_eq_neg_one_of_neg h]; omega
 ·
  rw [h]; decide
 ·
  rw [Int.sign_eq_one_of_pos h]; omega
theorem rneg_ev {k : Nat} {x : Int} (hx : Sm (k + 1) x) (hk : k ≤ 1000000) : Ev (fun k => dowelref01_Neg.f k (T x)) (T (-x)) := by
 unfold dowelref01_Neg.f
 have lx := hx.dg
 refine Ev.bind0 (rsign_eq x) (Ev.bind (rdig_sm hx hk) (Ev.bind (rtext_to _ (dg x) x.natAbs (-x) (dg_digs x) (dg_val x) (by omega) ?_) (Ev.some_ rfl)))
 have a2 := @sign_gt0 x
 by_cases h : x > 0
 ·
  rw [if_pos (decide_eq_true (a2.2 h))]; omega
 ·
  rw [if_neg (by rw [decide_eq_true_eq]; exact fun hh => h (a2.1 hh))]; omega
theorem radd_ev {k : Nat} {x y : Int} (hx : Sm (k + 1) x) (hy : Sm (k + 1) y) (hk : k ≤ 1000000) : Ev (fun k => dowelref01_Add.f k (T x) (T y)) (T (x + y)) := by
 unfold dowelref01_Add.f
 have lx := hx.dg
 have ly := hy.dg
 refine Ev.bind (rdig_sm hx hk) (Ev.bind (rdig_sm hy hk) (Ev.bind0 (rsign_eq x) (Ev.bind0 (rsign_eq y) ?_)))
 have a1 := @sign_lt0 x
 have b1 := @sign_lt0 y
 have dx : ∀ z : Int, (decide (z.sign < 0)) = decide (z < 0) := fun z => by
  have := @sign_lt0 z
  by_cases h : z < 0
  ·
   rw [decide_eq_true h, decide_eq_true (this.2 h)]
  ·
   rw [decide_eq_false h, decide_eq_false (fun hh => h (this.1 hh))]
 simp only [dx]
 by_cases h : (decide (x < 0) == decide (y < 0)) = true
 ·
  refine Ev.pos h (Ev.bind0 (rsign_eq x) ?_)
  rw [dx]
  obtain ⟨r, k1, k2, k3, k4⟩ := rplus_ev (dg x) (dg y) (dg_digs x) (dg_digs y) (by omega) (by omega)
  rw [dg_val, dg_val] at k3
  refine Ev.bind k1 (Ev.bind (rtext_to _ r (x.natAbs + y.natAbs) (x + y) k2 (by rw [k3]; rfl) (by omega) ?_) (Ev.some_ rfl))
  rw [beq_iff_eq] at h
  by_cases hx0 : x < 0
  ·
   rw [decide_eq_true hx0] at h ⊢
   have := of_decide_eq_true h.symm
   rw [if_pos rfl]; omega
  ·
   rw [decide_eq_false hx0] at h ⊢
   have := of_decide_eq_false h.symm
   rw [if_neg (by simp)]; omega
 ·
  refine Ev.neg h ?_
  have ho := rorder_ev (dg x) (dg y) (dg_digs x) (dg_digs y) (dg_norm x) (dg_norm y) (by omega) (by omega)
  rw [dg_val, dg_val] at ho
  refine Ev.bind ho ?_
  have hne : (x < 0 ∧ ¬ y < 0) ∨ (¬ x < 0 ∧ y < 0) := by
   by_cases p : x < 0 <;> by_cases q : y < 0 <;> simp [p, q] at h ⊢
  have g1 := @sign_lt0 ((x.natAbs : Int) - y.natAbs)
  by_cases hs : ((x.natAbs : Int) - y.natAbs).sign ≥ 0
  ·
   refine Ev.pos hs (Ev.bind0 (rsign_eq x) ?_)
   rw [dx]
   obtain ⟨r, k1, k2, k3, k4, _⟩ := rminus_ev (dg x) (dg y) (dg_digs x) (dg_digs y) (by omega) (by rw [dg_val, dg_val]; omega)
   rw [dg_val, dg_val] at k3
   refine Ev.bind k1 (Ev.bind (rtext_to _ r (x.natAbs - y.natAbs) (x + y) k2 (by rw [k3]; omega) (by omega) ?_) (Ev.some_ rfl))
   by_cases hx0 : x < 0
   ·
    rw [if_pos (decide_eq_true hx0)]; omega
   ·
    rw [if_neg (by rw [decide_eq_true_eq]; exact hx0)]; omega
  ·
   refine Ev.neg hs (Ev.bind0 (rsign_eq y) ?_)
   rw [dx]
   obtain ⟨r, k1, k2, k3, k4, _⟩ := rminus_ev (dg y) (dg x) (dg_digs y) (dg_digs x) (by omega) (by rw [dg_val, dg_val]; omega)
   rw [dg_val, dg_val] at k3
   refine Ev.bind k1 (Ev.bind (rtext_to _ r (y.natAbs - x.natAbs) (x + y) k2 (by rw [k3]; omega) (by omega) ?_) (Ev.some_ rfl))
   by_cases hy0 : y < 0
   ·
    rw [if_pos (decide_eq_true hy0)]; omega
   ·
    rw [if_neg (by rw [decide_eq_true_eq]; exact hy0)]; omega
theorem rsub_ev {k : Nat} {x y : Int} (hx : Sm (k + 1) x) (hy : Sm (k + 1) y) (hk : k ≤ 1000000) : Ev (fun k => dowelref01_Sub.f k (T x) (T y)) (T (x - y)) := by
 unfold dowelref01_Sub.f
 rw [Int.sub_eq_add_neg]
 exact Ev.bind (rneg_ev hy hk) (Ev.bind (radd_ev hx hy.neg hk) (Ev.some_ rfl))
def IsQR (x y q r : Int) : Prop := x = q * y + r ∧ ((0 ≤ r ∧ r < y) ∨ (y < r ∧ r ≤ 0))
theorem IsQR.uniq {x y q r q' r' : Int} (h : IsQR x y q r) (g : IsQR x y q' r') : q = q' ∧ r = r' := by
 obtain ⟨h1, h2⟩ := h
 obtain ⟨g1, g2⟩ := g
 have e : (q - q') * y = r' - r := by rw [Int.sub_mul]; omega
 have hq : q = q' := by
  rcases Int.lt_trichotomy (q - q') 0 with k | k | k
  ·
   exfalso
   rcases h2 with h2 | h2 <;> rcases g2 with g2 | g2
   ·
    have := Int.mul_le_mul_of_nonneg_right (show q - q' ≤ -1 by omega) (show 0 ≤ y by omega)
    omega
   ·
    omega
   ·
    omega
   ·
    have := Int.mul_le_mul_of_nonpos_right (show q - q' ≤ -1 by omega) (show y ≤ 0 by omega)
    omega
  ·
   omega
  ·
   exfalso
   rcases h2 with h2 | h2 <;> rcases g2 with g2 | g2
   ·
    have := Int.mul_le_mul_of_nonneg_right (show 1 ≤ q - q' by omega) (show 0 ≤ y by omega)
    omega
   ·
    omega
   ·
    omega
   ·
    have := Int.mul_le_mul_of_nonpos_right (show 1 ≤ q - q' by omega) (show y ≤ 0 by omega)
    omega
 subst hq
 exact ⟨rfl, by omega⟩
theorem ite_sign (z u v : Int) : (if decide (z.sign < 0) = true then u else v) = (if z < 0 then u else v) := by
 by_cases h : z < 0
 ·
  rw [if_pos h, if_pos (decide_eq_true (sign_lt0.2 h))]
 ·
  rw [if_neg h, if_neg (by rw [decide_eq_true_eq]; exact fun hh => h (sign_lt0.1 hh))]
section
variable (x0 x1 : ByteArray) (a b : List Int) (R : ByteArray × ByteArray)
theorem rdm_l1 (hb : Digs 10 b) (nb : Norm b) (hmb : b.length ≤ 1000000) (m : Nat) (qs : List Int) (d v : Int) (v1 : v < 10 * val 10 b) (hlen : m + 1 + qs.length = a.length) (hma : a.length ≤ 1000000)
  (H : ∀ (c : Int) (rest : List Int), 0 ≤ c → c < 10 → Digs 10 rest → Norm rest → rest.length ≤ 2000000 → v = c * val 10 b + val 10 rest → val 10 rest < val 10 b →
   Ev (fun k => dowelref01_DivMod.l0 k x0 x1 a b rest (List.replicate m 0 ++ c :: qs) ((m : Int) - 1)) R) :
  ∀ (n : Nat) (c : Int) (rest : List Int), val 10 rest = n → 0 ≤ c → Digs 10 rest → Norm rest → rest.length ≤ 2000000 → v = c * val 10 b + val 10 rest → 0 < val 10 b →
   Ev (fun k => dowelref01_DivMod.l1 k x0 x1 a b rest (List.replicate m 0 ++ c :: qs) (m : Int)) R := by
 intro n
 induction n using Nat.strongRecOn with
 | _ n ih =>
  intro c rest hn c0 hd nr hl hv hp
  have ho := rorder_ev rest b hd hb nr nb (by omega) (by omega)
  have hv0 := val_nonneg (B := 10) (by decide) hd
  have c10 : c < 10 := by
   rcases Int.lt_or_le c 10 with h | h
   ·
    exact h
   ·
    have := Int.mul_le_mul_of_nonneg_right h (Int.le_of_lt hp)
    omega
  refine Ev.step (fun k => dowelref01_DivMod.l1.eq_2 ..) (Ev.bind ho ?_)
  by_cases hs : (val 10 rest - val 10 b).sign ≥ 0
  ·
   have hle : val 10 b ≤ val 10 rest := by
    have := @sign_lt0 (val 10 rest - val 10 b)
    omega
   obtain ⟨r, k1, k2, k3, k4, k5⟩ := rminus_ev rest b hd hb (by omega) hle
   have e1 : (List.replicate m (0 : Int)).length = m := List.length_replicate
   refine Ev.pos hs (Ev.bind k1 (Ev.pos (by omega) (Ev.pos ?_ ?_)))
   ·
    rw [List.length_append, List.length_cons, e1]
    omega
   ·
    rw [rd_mid e1 rfl, set_mid2 e1 rfl, w64 (c + 1) (by omega) (by omega)]
    refine ih (val 10 r).toNat (by omega) (c + 1) r (by have := val_nonneg (B := 10) (by decide) k2; omega) (by omega) k2 k5 (by omega) ?_ hp
    rw [Int.add_mul, k3]
    omega
  ·
   refine Ev.neg hs ?_
   rw [w64 ((m : Int) - 1) (by omega) (by omega)]
   have := @sign_lt0 (val 10 rest - val 10 b)
   exact H c rest c0 c10 hd nr hl hv (by omega)
theorem rdm_l0 (ha : Digs 10 a) (hb : Digs 10 b) (nb : Norm b) (hmb : b.length ≤ 1000000) (hma : a.length ≤ 1000000) (hp : 0 < val 10 b)
  (H : ∀ (q rest : List Int), q.length = a.length → Digs 10 q → Digs 10 rest → Norm rest → rest.length ≤ 2000000 → val 10 a = val 10 q * val 10 b + val 10 rest → val 10 rest < val 10 b →
   Ev (fun k => dowelref01_DivMod.l0 k x0 x1 a b rest q (-1)) R) :
  ∀ (m : Nat) (qs rest : List Int), m + qs.length = a.length → Digs 10 qs → Digs 10 rest → Norm rest → rest.length ≤ 1000000 + (a.length - m) → val 10 (a.drop m) = val 10 qs * val 10 b + val 10 rest → val 10 rest < val 10 b →
   Ev (fun k => dowelref01_DivMod.l0 k x0 x1 a b rest (List.replicate m 0 ++ qs) ((m : Int) - 1)) R
 | 0, qs, rest, hl, hq, hr, nr, hlr, hv, hlt => by
  have := H qs rest (by omega) hq hr nr (by omega) hv hlt
  simpa using this
 | m + 1, qs, rest, hl, hq, hr, nr, hlr, hv, hlt => by
  have hd := rd_digs ha (show m < a.length by omega)
  have e0 : ((m + 1 : Nat) : Int) - 1 = (m : Int) := by omega
  have hv0 := val_nonneg (B := 10) (by decide) hr
  rw [e0]
  have hlb : rest.length ≤ b.length := by
   rcases Nat.lt_or_ge b.length rest.length with h | h
   ·
    have := len_lt_val (B := 10) (by decide) hb hr nr h
    omega
   ·
    exact h
  have hdd : Digs 10 ([rd a (m : Int)] ++ rest) := (Digs.mk hd.1 hd.2 (Digs.nil _)).app hr
  have hll : ([rd a (m : Int)] ++ rest).length = rest.length + 1 := by simp
  have htl := trimL_len ([rd a (m : Int)] ++ rest)
  have hvt : val 10 (trimL ([rd a (m : Int)] ++ rest)) = rd a (m : Int) + 10 * val 10 rest := by
   rw [trimL_val]
   rfl
  refine Ev.step (fun k => dowelref01_DivMod.l0.eq_2 ..) (Ev.pos (by omega) (Ev.pos (by omega) (Ev.pos (by omega) (Ev.bindS (Ev.pos (by simp; omega) (Ev.bind (rtrim_ev _ (by omega)) ?_))))))
  have es : List.replicate (m + 1) (0 : Int) ++ qs = List.replicate m 0 ++ 0 :: qs := by
   rw [List.replicate_succ']
   simp
  rw [es]
  refine rdm_l1 x0 x1 a b R hb nb hmb m qs (rd a (m : Int)) (rd a (m : Int) + 10 * val 10 rest) (by omega) (by omega) hma ?_ (val 10 (trimL ([rd a (m : Int)] ++ rest))).toNat 0 (trimL ([rd a (m : Int)] ++ rest)) (by rw [hvt]; omega) (by omega) (trimL_digs hdd) (trimL_norm _) (by omega) (by rw [hvt]; omega) hp
  intro c rest' c0 c1 hd' nr' hl' hv' hlt'
  have hlb' : rest'.length ≤ b.length := by
   rcases Nat.lt_or_ge b.length rest'.length with h | h
   ·
    have := len_lt_val (B := 10) (by decide) hb hd' nr' h
    omega
   ·
    exact h
  refine rdm_l0 ha hb nb hmb hma hp H m (c :: qs) rest' (by simp; omega) (Digs.mk c0 c1 hq) hd' nr' (by omega) ?_ hlt'
  rw [drop_at (l := a) (i := m) (by omega)]
  simp only [val]
  rw [hv, Int.add_mul, Int.mul_assoc 10, Int.mul_add]
  omega
end
theorem rdivmod_ev {k j : Nat} {x y : Int} (hx : Sm (k + 1) x) (hy : Sm (j + 1) y) (hk : k ≤ 500000) (hj : j ≤ 500000) (h0 : y ≠ 0) :
  ∃ q r, IsQR x y q r ∧ Ev (fun k => dowelref01_DivMod.f k (T x) (T y)) (T q, T r) := by
 have lx := hx.dg
 have ly := hy.dg
 have hp : 0 < val 10 (dg y) := by rw [dg_val]; omega
 
 have hdiv := Nat.div_add_mod x.natAbs y.natAbs
 have hmod := Nat.mod_lt x.natAbs (show 0 < y.natAbs by omega)
 have main : ∀ (Q Rr : Nat) (q r : Int), x.natAbs = Q * y.natAbs + Rr → Rr < y.natAbs → q = (if x * y < 0 then -(Q : Int) else Q) → r = (if x < 0 then -(Rr : Int) else Rr) →
   ∃ q' r', IsQR x y q' r' ∧ ∀ (ql rl : List Int), ql.length ≤ 1000000 → Digs 10 ql → Digs 10 rl → rl.length ≤ 2000000 → val 10 ql = Q → val 10 rl = Rr →
    Ev (fun k => dowelref01_DivMod.l0 k (T x) (T y) (dg x) (dg y) rl ql (-1)) (T q', T r') := by
  intro Q Rr q r hQ hR hq hr
  have hmul : (x * y < 0) = ((x < 0 ∧ 0 < y) ∨ (0 < x ∧ y < 0)) := by
   apply propext
   rcases Int.lt_trichotomy x 0 with h | h | h <;> rcases Int.lt_trichotomy y 0 with g | g | g
   ·
    have := Int.mul_pos_of_neg_of_neg h g; omega
   ·
    omega
   ·
    have := Int.mul_neg_of_neg_of_pos h g; omega
   ·
    rw [h]; simp
   ·
    omega
   ·
    rw [h]; simp
   ·
    have := Int.mul_neg_of_pos_of_neg h g; omega
   ·
    omega
   ·
    have := Int.mul_pos h g; omega
  have hqy : x = q * y + r := by
   have hz : ((Q : Int) * (y.natAbs : Int)) = (x.natAbs : Int) - Rr := by
    have : (x.natAbs : Int) = (Q : Int) * (y.natAbs : Int) + Rr := by rw [hQ, Int.natCast_add, Int.natCast_mul]
    omega
   rw [hq, hr]
   simp only [hmul]
   rcases Int.lt_trichotomy x 0 with h | h | h <;> rcases Int.lt_trichotomy y 0 with g | g | g
   ·
    rw [if_neg (by omega), if_pos h]
    have e : (y.natAbs : Int) = -y := by omega
    rw [e, Int.mul_neg] at hz
    omega
   ·
    omega
   ·
    rw [if_pos (by omega), if_pos h]
    have e : (y.natAbs : Int) = y := by omega
    rw [e] at hz
    rw [Int.neg_mul]
    omega
   ·
    rw [if_neg (by omega), if_neg (by omega)]
    have e : (y.natAbs : Int) = -y := by omega
    rw [e, Int.mul_neg] at hz
    have h3 : (Rr : Int) = 0 := by
     have hQ0 : (Q : Int) * (y.natAbs : Int) ≥ 0 := Int.mul_nonneg (by omega) (by omega)
     rw [e, Int.mul_neg] at hQ0
     omega
    omega
   ·
    omega
   ·
    rw [if_neg (by omega), if_neg (by omega)]
    have e : (y.natAbs : Int) = y := by omega
    rw [e] at hz
    have h3 : (Rr : Int) = 0 := by
     have hQ0 : (Q : Int) * (y.natAbs : Int) ≥ 0 := Int.mul_nonneg (by omega) (by omega)
     rw [e] at hQ0
     omega
    omega
   ·
    rw [if_pos (by omega), if_neg (by omega)]
    have e : (y.natAbs : Int) = -y := by omega
    rw [e, Int.mul_neg] at hz
    rw [Int.neg_mul]
    omega
   ·
    omega
   ·
    rw [if_neg (by omega), if_neg (by omega)]
    have e : (y.natAbs : Int) = y := by omega
    rw [e] at hz
    omega
  have sq : Sm (k + 1) q := by
   unfold Sm at *
   have h1 : q.natAbs = Q := by rw [hq]; split <;> omega
   have : Q * 1 ≤ Q * y.natAbs := Nat.mul_le_mul_left _ (by omega)
   omega
  have sr : Sm (j + 1) r := by
   unfold Sm at *
   have h1 : r.natAbs = Rr := by rw [hr]; split <;> omega
   omega
  have rneg : (r < 0) = (x < 0 ∧ 0 < Rr) := by apply propext; rw [hr]; split <;> omega
  have r0 : (r = 0) = (Rr = 0) := by apply propext; rw [hr]; split <;> omega
  by_cases hfix : r ≠ 0 ∧ r.sign ≠ y.sign
  ·
   refine ⟨q - 1, r + y, ⟨?_, ?_⟩, ?_⟩
   ·
    rw [Int.sub_mul]; omega
   ·
    have a1 := @sign_lt0 r
    have a2 := @sign_gt0 r
    have b1 := @sign_lt0 y
    have b2 := @sign_gt0 y
    have := Int.sign_trichotomy r
    have := Int.sign_trichotomy y
    have h1 : r.natAbs = Rr := by rw [hr]; split <;> omega
    omega
   ·
    intro ql rl hl1 hd1 hd2 hl2 hv1 hv2
    refine Ev.step (fun k => dowelref01_DivMod.l0.eq_2 ..) (Ev.neg (by decide) (Ev.bind0 (rsign_eq x) (Ev.bind0 (rsign_eq y) ?_)))
    have hs := Int.sign_trichotomy (x * y)
    rw [← Int.sign_mul, w64 _ (by omega) (by omega)]
    have d1 := @sign_lt0 (x * y)
    have d2 := @sign_lt0 x
    refine Ev.bind (rtext_to _ ql Q q hd1 hv1 (by omega) (hq.trans (ite_sign _ _ _).symm)) (Ev.bind0 (rsign_eq x) (Ev.bind (rtext_to _ rl Rr r hd2 hv2 (by omega) (hr.trans (ite_sign _ _ _).symm)) ?_))
    refine Ev.neg (mt (T_48 r).1 hfix.1) (Ev.bind0 (rsign_eq r) (Ev.bind0 (rsign_eq y) (Ev.step (fun k => dowelref01_DivMod.j2.eq_2 ..) (Ev.pos (bne_iff_ne.2 hfix.2) ?_))))
    have s1 : Sm (k + j + 1) (1 : Int) := by
     show 1 < 10 ^ (k + j + 1)
     rw [Nat.pow_succ]
     have := p10 (k + j)
     omega
    have e1 : (⟨#[49]⟩ : ByteArray) = T 1 := by
     show (⟨#[49]⟩ : ByteArray) = ⟨(Lib.itoa ((1 : Nat) : Int)).toArray⟩
     rw [itoa_nat, dec_small (by decide)]
     rfl
    rw [e1]
    exact Ev.bind (rsub_ev (k := k + j) (sq.mono (by omega)) s1 (by omega)) (Ev.bind (radd_ev (k := j) sr hy (by omega)) (Ev.some_ rfl))
  ·
   refine ⟨q, r, ⟨hqy, ?_⟩, ?_⟩
   ·
    have a1 := @sign_lt0 r
    have a2 := @sign_gt0 r
    have b1 := @sign_lt0 y
    have b2 := @sign_gt0 y
    have := Int.sign_trichotomy r
    have := Int.sign_trichotomy y
    have h1 : r.natAbs = Rr := by rw [hr]; split <;> omega
    by_cases hz : r = 0
    ·
     omega
    ·
     have hss : r.sign = y.sign := Decidable.not_not.1 (fun hh => hfix ⟨hz, hh⟩)
     omega
   ·
    intro ql rl hl1 hd1 hd2 hl2 hv1 hv2
    refine Ev.step (fun k => dowelref01_DivMod.l0.eq_2 ..) (Ev.neg (by decide) (Ev.bind0 (rsign_eq x) (Ev.bind0 (rsign_eq y) ?_)))
    have hs := Int.sign_trichotomy (x * y)
    rw [← Int.sign_mul, w64 _ (by omega) (by omega)]
    have d1 := @sign_lt0 (x * y)
    have d2 := @sign_lt0 x
    refine Ev.bind (rtext_to _ ql Q q hd1 hv1 (by omega) (hq.trans (ite_sign _ _ _).symm)) (Ev.bind0 (rsign_eq x) (Ev.bind (rtext_to _ rl Rr r hd2 hv2 (by omega) (hr.trans (ite_sign _ _ _).symm)) ?_))
    by_cases hz : r = 0
    ·
     exact Ev.pos ((T_48 r).2 hz) (Ev.step (fun k => dowelref01_DivMod.j2.eq_2 ..) (Ev.neg (by simp) (Ev.some_ rfl)))
    ·
     have hss : r.sign = y.sign := Decidable.not_not.1 (fun hh => hfix ⟨hz, hh⟩)
     refine Ev.neg (mt (T_48 r).1 hz) (Ev.bind0 (rsign_eq r) (Ev.bind0 (rsign_eq y) (Ev.step (fun k => dowelref01_DivMod.j2.eq_2 ..) (Ev.neg ?_ (Ev.some_ rfl)))))
     rw [hss, bne_self_eq_false]
     simp
 obtain ⟨q', r', hqr, hev⟩ := main (x.natAbs / y.natAbs) (x.natAbs % y.natAbs) _ _ (by rw [Nat.mul_comm]; omega) hmod rfl rfl
 refine ⟨q', r', hqr, ?_⟩
 unfold dowelref01_DivMod.f
 refine Ev.bind (rdig_sm hx (by omega)) (Ev.bind (rdig_sm hy (by omega)) (Ev.pos (by omega) (Ev.pos (by omega) ?_)))
 rw [Int.toNat_natCast, w64 _ (by omega) (by omega)]
 have fin := rdm_l0 (T x) (T y) (dg x) (dg y) (T q', T r') (dg_digs x) (dg_digs y) (dg_norm y) (by omega) (by omega) hp (fun q rest h1 h2 h3 h4 h5 h6 h7 => ?_) (dg x).length [] [] (by simp) (Digs.nil _) (Digs.nil _) Norm.nil (by simp) (by rw [List.drop_of_length_le (Nat.le_refl _)]; simp [val]) hp
 ·
  rw [List.append_nil] at fin
  exact fin
 ·
  rw [dg_val, dg_val] at h6
  rw [dg_val] at h7
  have q0 := val_nonneg (B := 10) (by decide) h2
  have r0 := val_nonneg (B := 10) (by decide) h3
  obtain ⟨Q, hQ⟩ : ∃ Q : Nat, val 10 q = (Q : Int) := ⟨(val 10 q).toNat, by omega⟩
  obtain ⟨Rr, hR⟩ : ∃ Rr : Nat, val 10 rest = (Rr : Int) := ⟨(val 10 rest).toNat, by omega⟩
  rw [hQ, hR, ← Int.natCast_mul] at h6
  have h8 : x.natAbs = Q * y.natAbs + Rr := by omega
  have h9 : Rr < y.natAbs := by omega
  have u1 : x.natAbs / y.natAbs = Q := by
   rw [h8, Nat.add_comm, Nat.add_mul_div_right _ _ (by omega), Nat.div_eq_of_lt h9]
   omega
  have u2 : x.natAbs % y.natAbs = Rr := by
   rw [h8, Nat.add_comm, Nat.add_mul_mod_self_right, Nat.mod_eq_of_lt h9]
  exact hev q rest (by omega) h2 h3 h5 (by rw [u1]; exact hQ) (by rw [u2]; exact hR)
end Go.Proofs.YtiikfhdmclmjmaaDoor.Pure
namespace Go.Proofs.YtiikfhdmclmjmaaDoor.P
open Go.RowKit Go.Proofs.YtiikfhdmclmjmaaDoorW.PrintWords Go.Proofs.YtiikfhdmclmjmaaDoorW.PrintLast
def dowelref01_Bits.l0 : Nat → ByteArray → Int → Option (Int)
 | 0, _, _ => none
 | k + 1, x3, x4 => if x3.toList = ([48] : List UInt8) then (some x4) else ((dowelref01_DivMod.f k x3 (⟨#[50]⟩ : ByteArray)).bind fun bt969 => (dowelref01_Bits.l0 k bt969.1 (wrap64 (x4 + 1))))
def dowelref01_Bits.f (k : Nat) (a0 : ByteArray) : Option (Int) := (dowelref01_digits.f k a0).bind fun t965 => ((dowelref01_text.f k false t965).bind fun t968 => (dowelref01_Bits.l0 k t968 0))
theorem dowelref01_Bits.mono_l : ∀ k, (∀ y0 y1, LeO (dowelref01_Bits.l0 k y0 y1) (dowelref01_Bits.l0 (k + 1) y0 y1))
 | 0 => fun _ _ r h => by simp [dowelref01_Bits.l0] at h
 | k + 1 => by
  have ih0 := dowelref01_Bits.mono_l k
  ·
   intro y0 y1
   unfold dowelref01_Bits.l0
   repeat' with_reducible first | exact ih0 _ _ | exact dowelref01_DivMod.mono _ _ _ | exact dowelref01_digits.mono _ _ | exact dowelref01_text.mono _ _ _ | exact LeO.refl _ | exact LeO.none _ | refine LeO.ite ?_ ?_ | refine LeO.bind ?_ (fun _ => ?_)
theorem dowelref01_Bits.mono : ∀ a0 k, LeO (dowelref01_Bits.f k a0) (dowelref01_Bits.f (k + 1) a0) := by
 intro a0 k
 have ih0 := dowelref01_Bits.mono_l k
 unfold dowelref01_Bits.f
 repeat' with_reducible first | exact ih0 _ _ | exact dowelref01_DivMod.mono _ _ _ | exact dowelref01_digits.mono _ _ | exact dowelref01_text.mono _ _ _ | exact LeO.refl _ | exact LeO.none _ | refine LeO.ite ?_ ?_ | refine LeO.bind ?_ (fun _ => ?_)
end Go.Proofs.YtiikfhdmclmjmaaDoor.P
namespace Go.Proofs.YtiikfhdmclmjmaaDoor.Pure
open Go.RowKit Go.Proofs.YtiikfhdmclmjmaaDoorW.PrintWords Go.Proofs.YtiikfhdmclmjmaaDoor.P
def bl (n : Nat) : Nat := if h : n = 0 then 0 else bl (n / 2) + 1
termination_by n
decreasing_by exact Nat.div_lt_self (by omega) (by omega)
theorem bl_zero : bl 0 = 0 := by rw [bl]; rfl
theorem bl_pos {n : Nat} (h : 0 < n) : bl n = bl (n / 2) + 1 := by rw [bl, dif_neg (by omega)]
theorem bl_le : ∀ (k n : Nat), n < 2 ^ k → bl n ≤ k
 | 0, n, h => by
  have : n = 0 := by simpa using h
  rw [this, bl_zero]
  exact Nat.le_refl _
 | k + 1, n, h => by
  rcases Nat.eq_zero_or_pos n with rfl | hn
  ·
   rw [bl_zero]; omega
  ·
   rw [bl_pos hn]
   rw [Nat.pow_succ] at h
   have := bl_le k (n / 2) (by omega)
   omega
theorem aux_bl : ∀ (f x : Nat), x < 2 ^ f → Lib.bitLenAux f x = bl x
 | 0, x, h => by
  have : x = 0 := by simpa using h
  rw [this, bl_zero]
  rfl
 | f + 1, x, h => by
  unfold Lib.bitLenAux
  by_cases hx : x = 0
  ·
   rw [if_pos hx, hx, bl_zero]
  ·
   rw [Nat.pow_succ] at h
   rw [if_neg hx, aux_bl f (x / 2) (by omega), bl_pos (n := x) (by omega)]
   omega
theorem or32 (s : Nat) {S : Int} (hS : (2 : Int) ^ s = S) (c h : Int) (c0 : 0 ≤ c) (c1 : c < S) (h0 : 0 ≤ h) (hs : h * S < 4294967296) (hc : c < 4294967296) : Go.bits .or .u32 c (h * S) = h * S + c := by
 subst hS
 have e : Go.bits .or .u32 c (h * 2 ^ s) = Go.bits .or .u32 (h * 2 ^ s) c := by simp only [Go.bits, BitVec.or_comm]
 rw [e]
 exact bits_join .u32 32 (by decide) (fun n n0 n1 => by rw [IntKind.wrap_u32]; omega) s _ c (Int.mul_nonneg h0 (Int.le_of_lt (Int.pow_pos (by decide)))) (Int.mul_emod_left _ _) hs c0 c1 hc
theorem shl32 (s : Nat) {S : Int} (hS : (2 : Int) ^ s = S) (x : Int) (hs : s ≤ 31) : shl .u32 x (s : Int) = (x * S) % 4294967296 := by
 unfold shl
 rw [IntKind.wrap_u32, Int.toNat_natCast, show min s IntKind.u32.bits = s from Nat.min_eq_left (by show s ≤ 32; omega), hS]
theorem shl64 (s : Nat) {S : Int} (hS : (2 : Int) ^ s = S) (x : Int) (hs : s ≤ 31) : shl .u64 x (s : Int) = (x * S) % 18446744073709551616 := by
 unfold shl
 rw [u64, Int.toNat_natCast, show min s IntKind.u64.bits = s from Nat.min_eq_left (by show s ≤ 64; omega), hS]
theorem shr32 (s : Nat) {S : Int} (hS : (2 : Int) ^ s = S) (x : Int) (hs : s ≤ 31) : shr .u32 x (s : Int) = x / S := by
 unfold shr
 rw [Int.toNat_natCast, show min s IntKind.u32.bits = s from Nat.min_eq_left (by show s ≤ 32; omega), hS]
theorem shr64 (s : Nat) {S : Int} (hS : (2 : Int) ^ s = S) (x : Int) (hs : s ≤ 31) : shr .u64 x (s : Int) = x / S := by
 unfold shr
 rw [Int.toNat_natCast, show min s IntKind.u64.bits = s from Nat.min_eq_left (by show s ≤ 64; omega), hS]
theorem high_lt {S T : Int} (hS : 0 < S) (hT : 0 < T) (hST : S * T = 4294967296) {d : Int} (d0 : 0 ≤ d) (d1 : d < 4294967296) : 0 ≤ d / T ∧ d / T < S := by
 refine ⟨Int.ediv_nonneg d0 (by omega), Int.ediv_lt_of_lt_mul hT ?_⟩
 rw [hST]; exact d1
theorem parts_eq {S T : Int} (hS : 0 < S) (hT : 0 < T) (hST : S * T = 4294967296) (d : Int) : d % T * S + 4294967296 * (d / T) = d * S := by
 have := Int.mul_ediv_add_emod d T
 rw [← hST, Int.mul_assoc, Int.mul_comm (d % T) S, ← Int.mul_add]
 rw [Int.mul_comm d S, show d % T + T * (d / T) = d by omega]
theorem raise_low {S T : Int} (h1 : 0 < S) (h2 : 0 < T) (h3 : S * T = 4294967296) (d : Int) : (d * S) % 4294967296 = d % T * S := by
 rw [← h3, Int.mul_comm d S, Int.mul_emod_mul_of_pos _ _ h1, Int.mul_comm]
theorem hd_mod {S T : Int} (hS : 0 < S) (hT : 0 < T) (hST : S * T = 4294967296) (l : List Int) : val 4294967296 l % S = hd0 l % S := by
 rw [val_hd, ← hST, Int.mul_assoc, Int.add_mul_emod_self_left]
def raisedR (S T : Int) : List Int → Int → List Int
 | [], c => [c]
 | d :: l, c => (d % T * S + c) :: raisedR S T l (d / T)
theorem raisedR_len (S T : Int) : ∀ l c, (raisedR S T l c).length = l.length + 1
 | [], _ => rfl
 | d :: l, c => by simp [raisedR, raisedR_len S T l]
section
variable {S T : Int} (hS : 0 < S) (hT : 0 < T) (hST : S * T = 4294967296)
include hS hT hST
theorem part_lt {d c : Int} (c0 : 0 ≤ c) (c1 : c < S) : 0 ≤ d % T * S + c ∧ d % T * S + c < 4294967296 := by
 have h0 := Int.emod_nonneg d (show T ≠ 0 by omega)
 have h1 := Int.emod_lt_of_pos d hT
 have h2 : (d % T + 1) * S ≤ T * S := Int.mul_le_mul_of_nonneg_right (by omega) (by omega)
 have h3 : 0 ≤ d % T * S := Int.mul_nonneg h0 (by omega)
 rw [Int.add_mul, Int.one_mul, Int.mul_comm T S, hST] at h2
 omega
theorem raisedR_all : ∀ (l : List Int) (c : Int), Digs 4294967296 l → 0 ≤ c → c < S → S ≤ 4294967296 → Digs 4294967296 (raisedR S T l c) ∧ val 4294967296 (raisedR S T l c) = val 4294967296 l * S + c
 | [], c, _, c0, c1, hb => ⟨Digs.mk c0 (by omega) (Digs.nil _), by simp [raisedR, val]⟩
 | d :: l, c, h, c0, c1, hb => by
  have hd := h.cons.1
  have hp := part_lt hS hT hST (d := d) c0 c1
  have hh := high_lt hS hT hST hd.1 hd.2
  obtain ⟨k1, k2⟩ := raisedR_all l (d / T) h.cons.2 hh.1 hh.2 hb
  refine ⟨Digs.mk hp.1 hp.2 k1, ?_⟩
  simp only [raisedR, val]
  rw [k2, Int.mul_add, Int.add_mul]
  have := parts_eq hS hT hST d
  rw [Int.mul_assoc]
  omega
end
theorem pows (s : Nat) (hs : s ≤ 31) : (0 : Int) < 2 ^ s ∧ (0 : Int) < 2 ^ (32 - s) ∧ (2 : Int) ^ s * 2 ^ (32 - s) = 4294967296 ∧ (2 : Int) ^ s ≤ 2147483648 := by
 refine ⟨Int.pow_pos (by decide), Int.pow_pos (by decide), ?_, ?_⟩
 ·
  rw [← Int.pow_add, show s + (32 - s) = 32 by omega]; rfl
 ·
  exact pow_mono (B := 2) (by decide) (j := 31) hs
section
variable {S T : Int} (h1 : 0 < S) (h2 : 0 < T) (h3 : S * T = 4294967296)
include h1 h2 h3
theorem raise_high (h4 : S ≤ 2147483648) (d : Int) (d0 : 0 ≤ d) (d1 : d < 4294967296) : ((d * S) % 18446744073709551616 / 4294967296) % 4294967296 = d / T := by
 have hh := high_lt h1 h2 h3 d0 d1
 have h5 : d * S ≤ d * 2147483648 := Int.mul_le_mul_of_nonneg_left h4 d0
 have h6 : 0 ≤ d * S := Int.mul_nonneg d0 (by omega)
 rw [Int.emod_eq_of_lt h6 (by omega)]
 have e : d * S / 4294967296 = d / T := by
  rw [← h3, Int.mul_comm d S, Int.mul_ediv_mul_of_pos _ _ h1]
 rw [e]
 exact Int.emod_eq_of_lt hh.1 (by omega)
theorem raised_l0 (h4 : S ≤ 2147483648) (l : List Int) (s : Nat) (hs : s ≤ 31) (hSs : (2 : Int) ^ s = S) (hl : Digs 4294967296 l) (hmax : l.length ≤ 70368744177663) :
  ∀ (m i : Nat) (p : List Int) (c : Int), p.length = i → i + m = l.length → 0 ≤ c → c < S →
   Ev (fun k => integer_raised.l0 k (s : Int) (p ++ c :: List.replicate m 0) l (l.length : Int) (i : Int)) (p ++ raisedR S T (l.drop i) c)
 | 0, i, p, c, hp, hi, c0, c1 => by
  refine Ev.step (fun k => integer_raised.l0.eq_2 ..) (Ev.neg (by omega) (Ev.some_ ?_))
  rw [List.drop_of_length_le (by omega)]
  rfl
 | m + 1, i, p, c, hp, hi, c0, c1 => by
  have hlen : (p ++ c :: List.replicate (m + 1) 0).length = l.length + 1 := by simp; omega
  have hil : i < l.length := by omega
  have hdr := drop_at (l := l) (i := i) hil
  have q1 : (i : Int) < (l.length : Int) := by omega
  have q2 : (0 : Int) ≤ (i : Int) := by omega
  have q3 : (i : Int) < ((p ++ c :: List.replicate (m + 1) 0).length : Int) := by rw [hlen]; omega
  have q4 : (0 : Int) ≤ (s : Int) := by omega
  have q5 : (0 : Int) ≤ ((i + 1 : Nat) : Int) := by omega
  have q6 : ((i + 1 : Nat) : Int) < ((p ++ c :: List.replicate (m + 1) 0).length : Int) := by rw [hlen]; omega
  have hd := rd_digs hl hil
  have hh := high_lt h1 h2 h3 hd.1 hd.2
  have hp2 := part_lt h1 h2 h3 (d := rd l (i : Int)) (c := 0) (by omega) h1
  have ew : wrap64 ((i : Int) + 1) = ((i + 1 : Nat) : Int) := wsucc (n := l.length) (by omega) (by omega)
  have hT0 := Int.emod_nonneg (rd l (i : Int)) (show T ≠ 0 by omega)
  rw [Int.add_zero] at hp2
  have ih := raised_l0 h4 l s hs hSs hl hmax m (i + 1) (p ++ [rd l (i : Int) % T * S + c]) (rd l (i : Int) / T) (by simp [hp]) (by omega) hh.1 hh.2
  refine Ev.step (fun k => integer_raised.l0.eq_2 ..) (Ev.pos q1 (Ev.pos q2 (Ev.pos q1 (Ev.pos q3 (Ev.pos q4 (Ev.pos (by rw [ew]; exact q5) (Ev.pos (by rw [ew]; exact q6) ?_)))))))
  rw [ew, rd_mid hp rfl, shl32 s hSs _ hs, raise_low h1 h2 h3, or32 s hSs c _ c0 c1 hT0 hp2.2 (by omega), set_mid2 hp rfl, List.replicate_succ, u64s _ hd.1 (by omega), shl64 s hSs _ hs, raise_high h1 h2 h3 h4 _ hd.1 hd.2, app_cons]
  rw [set_mid2 (i := i + 1) (by simp [hp]) rfl]
  rw [hdr, raisedR]
  simpa only [List.append_assoc, List.cons_append, List.nil_append] using ih
end
theorem raised_ev (l : List Int) (s : Nat) (hs : s ≤ 31) (hl : Digs 4294967296 l) (hmax : l.length ≤ 70368744177663) :
  ∃ r, Ev (fun k => integer_raised.f k l (s : Int)) r ∧ r.length = l.length + 1 ∧ Digs 4294967296 r ∧ val 4294967296 r = val 4294967296 l * 2 ^ s := by
 obtain ⟨h1, h2, h3, h4⟩ := pows s hs
 obtain ⟨k1, k2⟩ := raisedR_all h1 h2 h3 l 0 hl (by omega) h1 (by omega)
 refine ⟨raisedR (2 ^ s) (2 ^ (32 - s)) l 0, ?_, raisedR_len _ _ _ _, k1, by rw [k2, Int.add_zero]⟩
 unfold integer_raised.f
 have ew : wrap64 ((l.length : Int) + 1) = ((l.length + 1 : Nat) : Int) := by rw [w64 _ (by omega) (by omega)]; omega
 rw [ew, Int.toNat_natCast]
 refine Ev.pos (by omega) (Ev.pos (by omega) ?_)
 have := raised_l0 h1 h2 h3 h4 l s hs rfl hl hmax l.length 0 [] 0 rfl (by omega) (by omega) h1
 rw [List.replicate_succ]
 simpa using this
def loweredR (S T : Int) : List Int → List Int
 | [] => []
 | d :: l => (hd0 l % S * T + d / S) :: loweredR S T l
section
variable {S T : Int} (hS : 0 < S) (hT : 0 < T) (hST : S * T = 4294967296)
include hS hT hST
theorem loweredR_all : ∀ (l : List Int), Digs 4294967296 l → Digs 4294967296 (loweredR S T l) ∧ val 4294967296 (loweredR S T l) = val 4294967296 l / S
 | [], _ => ⟨Digs.nil _, by simp [loweredR, val]⟩
 | d :: l, h => by
  have hd := h.cons.1
  have hTS : T * S = 4294967296 := by rw [Int.mul_comm]; exact hST
  have hp := part_lt hT hS hTS (d := hd0 l) (c := d / S) (Int.ediv_nonneg hd.1 (by omega)) (high_lt hT hS hTS hd.1 hd.2).2
  obtain ⟨k1, k2⟩ := loweredR_all l h.cons.2
  refine ⟨Digs.mk hp.1 hp.2 k1, ?_⟩
  simp only [loweredR, val]
  rw [k2, ← hd_mod hS hT hST l]
  have e1 : (d + 4294967296 * val 4294967296 l) / S = d / S + T * val 4294967296 l := by
   rw [← hST, Int.mul_assoc, Int.add_mul_ediv_left _ _ (by omega)]
  have e2 := Int.mul_ediv_add_emod (val 4294967296 l) S
  rw [e1]
  have e3 : 4294967296 * (val 4294967296 l / S) = T * (S * (val 4294967296 l / S)) := by rw [← hTS, Int.mul_assoc]
  have e4 : T * val 4294967296 l = T * (S * (val 4294967296 l / S)) + T * (val 4294967296 l % S) := by rw [← Int.mul_add, e2]
  have e5 : val 4294967296 l % S * T = T * (val 4294967296 l % S) := Int.mul_comm _ _
  omega
end
section
variable {S T : Int} (h1 : 0 < S) (h2 : 0 < T) (h3 : S * T = 4294967296)
include h1 h2 h3
theorem lower_high (d : Int) : (d * 4294967296 / S) % 4294967296 = d % S * T := by
 have e : d * 4294967296 / S = d * T := by
  rw [← h3, ← Int.mul_assoc, Int.mul_comm d S, Int.mul_assoc, Int.mul_ediv_cancel_left _ (by omega)]
 rw [e, ← h3, Int.mul_comm d T, Int.mul_comm S T, Int.mul_emod_mul_of_pos _ _ h2, Int.mul_comm]
theorem lowered_l0 (h4 : S ≤ 2147483648) (l : List Int) (s : Nat) (hs : s ≤ 31) (hSs : (2 : Int) ^ s = S) (hTs : (2 : Int) ^ (32 - s) = T) (hl : Digs 4294967296 l) (hmax : l.length ≤ 70368744177663) :
  ∀ (m i : Nat) (p : List Int), p.length = i → i + m = l.length →
   Ev (fun k => integer_lowered.l0 k l (s : Int) (p ++ l.drop i) (l.length : Int) (i : Int)) (trimL (p ++ loweredR S T (l.drop i)))
 | 0, i, p, hp, hi => by
  rw [List.drop_of_length_le (by omega)]
  refine Ev.step (fun k => integer_lowered.l0.eq_2 ..) (Ev.neg (by omega) (Ev.bind (trim_ev _ (by simp; omega)) (Ev.some_ rfl)))
 | m + 1, i, p, hp, hi => by
  have hlen : (p ++ l.drop i).length = l.length := by simp; omega
  have hil : i < l.length := by omega
  have hdr := drop_at (l := l) (i := i) hil
  have q1 : (i : Int) < (l.length : Int) := by omega
  have q2 : (0 : Int) ≤ (i : Int) := by omega
  have q3 : (i : Int) < ((p ++ l.drop i).length : Int) := by rw [hlen]; omega
  have q4 : (0 : Int) ≤ (s : Int) := by omega
  have q5 : (0 : Int) ≤ ((i + 1 : Nat) : Int) := by omega
  have h3' : T * S = 4294967296 := by rw [Int.mul_comm]; exact h3
  have hd := rd_digs hl hil
  have hh := high_lt h2 h1 h3' hd.1 hd.2
  have ew : wrap64 ((i : Int) + 1) = ((i + 1 : Nat) : Int) := wsucc (n := l.length) (by omega) (by omega)
  have hi1 : i + 1 + m = l.length := by omega
  have ih := lowered_l0 h4 l s hs hSs hTs hl hmax m (i + 1)
  refine Ev.step (fun k => integer_lowered.l0.eq_2 ..) (Ev.pos q1 (Ev.pos q2 (Ev.pos q3 (Ev.pos q4 (Ev.bindS ?_)))))
  rw [ew, shr32 s hSs _ hs]
  rw [hdr, rd_mid hp rfl, set_mid2 hp rfl]
  by_cases hm : i + 1 < l.length
  ·
   have hd2 := rd_digs hl hm
   have hq := part_lt h2 h1 h3' (d := rd l ((i + 1 : Nat) : Int)) (c := 0) (by omega) h2
   rw [Int.add_zero] at hq
   have hS0 := Int.emod_nonneg (rd l ((i + 1 : Nat) : Int)) (show S ≠ 0 by omega)
   have hTle : T ≤ 4294967296 := by
    have := Int.mul_le_mul_of_nonneg_right (show (1 : Int) ≤ S by omega) (show 0 ≤ T by omega)
    omega
   have hxx := hd2.1
   have hxy := hd2.2
   have y1 : rd l ((i + 1 : Nat) : Int) < 18446744073709551616 := Int.lt_trans hxy (by decide)
   have y2 : 0 ≤ rd l ((i + 1 : Nat) : Int) * 4294967296 := Int.mul_nonneg hxx (by decide)
   have y3 : rd l ((i + 1 : Nat) : Int) * 4294967296 < 18446744073709551616 := Int.mul_lt_mul_of_pos_right (a := rd l ((i + 1 : Nat) : Int)) (b := 4294967296) hxy (by decide)
   have y4 : rd l (i : Int) / S < 4294967296 := Int.lt_of_lt_of_le hh.2 hTle
   refine Ev.pos (Int.ofNat_lt.2 hm) (Ev.pos q5 ?_)
   rw [rd_mid hp rfl, u64s (rd l ((i + 1 : Nat) : Int)) hxx y1, u64s _ y2 y3, shr64 s hSs _ hs, lower_high h1 h2 h3, or32 (32 - s) hTs _ _ hh.1 hh.2 hS0 hq.2 y4, set_mid2 hp rfl, app_cons]
   have := ih (p ++ [rd l ((i + 1 : Nat) : Int) % S * T + rd l (i : Int) / S]) (by simp [hp]) hi1
   have e : hd0 (l.drop (i + 1)) = rd l ((i + 1 : Nat) : Int) := by rw [drop_hd, if_pos hm]
   simp only [loweredR]
   rw [e]
   simpa only [List.append_assoc, List.cons_append, List.nil_append] using this
  ·
   refine Ev.neg (mt Int.ofNat_lt.1 hm) ?_
   rw [app_cons]
   have := ih (p ++ [rd l (i : Int) / S]) (by simp [hp]) hi1
   have e : hd0 (l.drop (i + 1)) = 0 := by rw [drop_hd, if_neg hm]
   simp only [loweredR]
   rw [e, Int.zero_emod, Int.zero_mul, Int.zero_add]
   simpa only [List.append_assoc, List.cons_append, List.nil_append] using this
end
theorem lowered_ev (l : List Int) (s : Nat) (hs : s ≤ 31) (hl : Digs 4294967296 l) (hmax : l.length ≤ 10000000) (n : Nat) (hn : val 4294967296 l / 2 ^ s = n) :
  Ev (fun k => integer_lowered.f k l (s : Int)) (dgs BB n) := by
 obtain ⟨h1, h2, h3, h4⟩ := pows s hs
 obtain ⟨k1, k2⟩ := loweredR_all h1 h2 h3 l hl
 unfold integer_lowered.f
 refine Ev.bind0 (a := l) (by unfold slices_Clone_uint32_uint32.f; rw [if_pos (by omega)]) ?_
 have := lowered_l0 h1 h2 h3 h4 l s hs rfl rfl hl (by omega) l.length 0 [] rfl (by omega)
 rw [List.drop_zero, List.nil_append, List.nil_append, trimL_dgs BB2 k1 (k2.trans hn)] at this
 exact this
theorem bl_bounds : ∀ n : Nat, 0 < n → 1 ≤ bl n ∧ 2 ^ (bl n - 1) ≤ n ∧ n < 2 ^ bl n := by
 intro n
 induction n using Nat.strongRecOn with
 | _ n ih =>
  intro hn
  rw [bl_pos hn]
  rcases Nat.eq_zero_or_pos (n / 2) with h | h
  ·
   have : n = 1 := by omega
   subst this
   rw [h, bl_zero]
   decide
  ·
   obtain ⟨h1, h2, h3⟩ := ih (n / 2) (by omega) h
   refine ⟨by omega, ?_, ?_⟩
   ·
    have : 2 ^ (bl (n / 2) + 1 - 1) = 2 ^ (bl (n / 2) - 1) * 2 := by rw [← Nat.pow_succ]; congr 1; omega
    rw [this]; omega
   ·
    rw [Nat.pow_succ]; omega
theorem div_step {U0 X a w d r V Q : Int} (h : U0 = X * 4294967296 * Q * V + (a + X * w)) (hw : w = V * d + r) : U0 = X * (d + 4294967296 * Q) * V + (a + X * r) := by
 rw [h, hw, Int.mul_add X d, Int.add_mul, Int.mul_add X, Int.mul_assoc X d V, Int.mul_comm d V, ← Int.mul_assoc X 4294967296 Q]
 omega
theorem win_split (u : List Int) (i n : Nat) (h : i + n + 1 ≤ u.length) :
  ∃ w0 W1, (u.take (i + n + 1)).drop i = w0 :: W1 ∧ W1.length = n ∧ u.drop i = (w0 :: W1) ++ u.drop (i + n + 1) ∧ u.drop (i + 1) = W1 ++ u.drop (i + n + 1) := by
 obtain ⟨W, hW⟩ : ∃ W, (u.take (i + n + 1)).drop i = W := ⟨_, rfl⟩
 have hWl : W.length = n + 1 := by rw [← hW, List.length_drop, List.length_take]; omega
 have hsp : u.drop i = W ++ u.drop (i + n + 1) := by
  have h1 := List.take_append_drop (i + n + 1) u
  have h2 : (u.take (i + n + 1) ++ u.drop (i + n + 1)).drop i = (u.take (i + n + 1)).drop i ++ u.drop (i + n + 1) := List.drop_append_of_le_length (by rw [List.length_take]; omega)
  rw [h1, hW] at h2
  exact h2
 cases W with
 | nil => simp at hWl
 | cons a l =>
  refine ⟨a, l, hW, by simpa using hWl, hsp, ?_⟩
  have h3 : u.drop (i + 1) = (u.drop i).drop 1 := by rw [List.drop_drop]
  rw [h3, hsp]
  rfl
theorem win_rest {x r P V : Int} (h : x + P * r < V) (hV : V < P) (x0 : 0 ≤ x) (r0 : 0 ≤ r) (P0 : 0 < P) : r = 0 := by
 rcases Int.lt_or_le 0 r with k | k
 ·
  have := Int.mul_le_mul_of_nonneg_left (show (1 : Int) ≤ r from k) (Int.le_of_lt P0)
  omega
 ·
  omega
theorem win_lt {w x V : Int} (w1 : w < 4294967296) (h : x < V) : w + 4294967296 * x < 4294967296 * V := by omega
theorem div_idx {i n m q u : Nat} (h1 : i + 1 + q = m) (h2 : u = m + n) (hm : m ≤ 1000000) (hn : n ≤ 1000000) :
  ((i : Int) ≥ 0) ∧ ((i : Int) ≤ ((i + n + 1 : Nat) : Int)) ∧ (((i + n + 1 : Nat) : Int) ≤ (u : Int)) ∧ i + n + 1 ≤ u ∧ wrap64 ((wrap64 ((i : Int) + (n : Int))) + 1) = ((i + n + 1 : Nat) : Int) ∧ wrap64 ((i : Int) - 1) = (i : Int) - 1 := by
 refine ⟨by omega, by omega, by omega, by omega, ?_, w64 _ (by omega) (by omega)⟩
 rw [wadd (by omega), w64 _ (by omega) (by omega)]
 omega
theorem divide_l0 (v : List Int) (n s m : Nat) (U0 : Int) (R : List Int × List Int) (hn : 2 ≤ n) (hmax : n ≤ 1000000) (hv : v.length = n) (dv : Digs 4294967296 v) (ht : 2147483648 ≤ rd v ((n - 1 : Nat) : Int)) (hmm : m ≤ 1000000)
  (H : ∀ q u, Digs 4294967296 q → q.length = m → Digs 4294967296 u → u.length = m + n → U0 = val 4294967296 q * val 4294967296 v + val 4294967296 u → val 4294967296 u < val 4294967296 v → Ev (fun k => integer_divide.l0 k q (s : Int) u v (-1)) R) :
  ∀ (j : Nat) (qs u : List Int), j + qs.length = m → Digs 4294967296 qs → Digs 4294967296 u → u.length = m + n → U0 = 4294967296 ^ j * val 4294967296 qs * val 4294967296 v + val 4294967296 u → val 4294967296 (u.drop j) < val 4294967296 v →
   Ev (fun k => integer_divide.l0 k (List.replicate j 0 ++ qs) (s : Int) u v ((j : Int) - 1)) R
 | 0, qs, u, hj, hq, hu, hul, hU, hlt => by
  rw [Int.pow_zero, Int.one_mul] at hU
  rw [List.drop_zero] at hlt
  have := H qs u hq (by clear hU hlt; omega) hu hul hU hlt
  rw [List.replicate_zero, List.nil_append]
  exact this
 | i + 1, qs, u, hj, hq, hu, hul, hU, hlt => by
  obtain ⟨q1, q2, q3, q4, q5, q6⟩ := div_idx hj hul hmm hmax
  have e0 : (((i + 1 : Nat) : Int) - 1) = (i : Int) := by clear hU hlt q5 q6; omega
  have hti : (u.take i).length = i := by clear hU hlt q5 q6; rw [List.length_take]; omega
  have hiq : i + (qs.length + 1) = m := by clear hU hlt q5 q6; omega
  have hqlen : ((i : Int) < ((List.replicate (i + 1) (0 : Int) ++ qs).length : Int)) := by
   clear hU hlt q5 q6
   rw [List.length_append, List.length_replicate]
   omega
  have hil : i ≤ u.length := by clear hU hlt q5 q6; omega
  have hlen' : i + (n + 1 + (u.length - (i + n + 1))) = m + n := by clear hU hlt q5 q6; omega
  obtain ⟨w0, W1, hW, hW1l, hsp, hsp1⟩ := win_split u i n q4
  have hWd : Digs 4294967296 (w0 :: W1) := by rw [← hW]; exact (hu.take _).drop _
  have hrd : Digs 4294967296 (u.drop (i + n + 1)) := hu.drop _
  have vlt := val_lt (B := 4294967296) (by decide) dv
  rw [hv] at vlt
  have hP : (0 : Int) < 4294967296 ^ n := Int.pow_pos (by decide)
  have hPn : (4294967296 : Int) ^ n ≤ 4294967296 ^ (n + 1) := pow_mono (by decide) (Nat.le_succ n)
  rw [hsp1, val_app, hW1l] at hlt
  have hrest := win_rest hlt vlt (val_nonneg (B := 4294967296) (by decide) hWd.cons.2) (val_nonneg (B := 4294967296) (by decide) hrd) hP
  rw [hrest, Int.mul_zero, Int.add_zero] at hlt
  have hUV : val 4294967296 (w0 :: W1) < 4294967296 * val 4294967296 v := win_lt hWd.cons.1.2 hlt
  have hVp : 0 < val 4294967296 v := Int.lt_of_le_of_lt (val_nonneg (B := 4294967296) (by decide) hWd.cons.2) hlt
  have hVne : val 4294967296 v ≠ 0 := fun h => by rw [h] at hVp; exact absurd hVp (by decide)
  have hw0n : 0 ≤ val 4294967296 (w0 :: W1) := val_nonneg (B := 4294967296) (by decide) hWd
  have hm0 := Int.emod_nonneg (val 4294967296 (w0 :: W1)) hVne
  have hm1 := Int.emod_lt_of_pos (val 4294967296 (w0 :: W1)) hVp
  have hpad := padR_all (n := n + 1) (z := val 4294967296 (w0 :: W1) % val 4294967296 v) hm0 (Int.lt_of_lt_of_le (Int.lt_trans hm1 vlt) hPn)
  have hdig := digit_ev (w0 :: W1) v n hn hmax hv (by rw [List.length_cons, hW1l]) dv hWd ht hUV
  have hdat : Ev (fun k => integer_digit_at.f k u (i : Int) ((i + n + 1 : Nat) : Int) v) (val 4294967296 (w0 :: W1) / val 4294967296 v, u.take i ++ (padR (n + 1) (val 4294967296 (w0 :: W1) % val 4294967296 v) ++ u.drop (i + n + 1))) := by
   obtain ⟨K, hK⟩ := hdig
   refine ⟨K, fun k hk => ?_⟩
   show integer_digit_at.f k u (i : Int) ((i + n + 1 : Nat) : Int) v = _
   unfold integer_digit_at.f
   rw [Int.toNat_natCast, Int.toNat_natCast, hW, show integer_digit.f k (w0 :: W1) v = _ from hK k hk]
   rfl
  have hq0 : 0 ≤ val 4294967296 (w0 :: W1) / val 4294967296 v := Int.ediv_nonneg hw0n (Int.le_of_lt hVp)
  have hq1 : val 4294967296 (w0 :: W1) / val 4294967296 v < 4294967296 := Int.ediv_lt_of_lt_mul hVp hUV
  have hdm := Int.mul_ediv_add_emod (val 4294967296 (w0 :: W1)) (val 4294967296 v)
  have hUu : val 4294967296 u = val 4294967296 (u.take i) + 4294967296 ^ i * val 4294967296 (w0 :: W1) := by
   rw [val_cut 4294967296 u i hil, hsp, val_app 4294967296 (w0 :: W1), hrest, Int.mul_zero, Int.add_zero]
  rw [e0]
  rw [← hv] at q5
  refine Ev.step (fun k => integer_divide.l0.eq_2 ..) (Ev.pos q1 (Ev.pos q1 (Ev.pos (by rw [q5, hv]; exact q2) (Ev.pos (by rw [q5, hv]; exact q3) ?_))))
  rw [q5, hv]
  refine Ev.bind hdat (Ev.pos hqlen ?_)
  have es : List.replicate (i + 1) (0 : Int) ++ qs = List.replicate i 0 ++ 0 :: qs := by
   rw [List.replicate_succ', List.append_assoc]
   rfl
  rw [es, set_mid2 (i := i) List.length_replicate rfl, q6]
  generalize hd : val 4294967296 (w0 :: W1) / val 4294967296 v = d at *
  generalize hr : val 4294967296 (w0 :: W1) % val 4294967296 v = r at *
  refine divide_l0 v n s m U0 R hn hmax hv dv ht hmm H i (d :: qs) _ (by rw [List.length_cons]; exact hiq) (Digs.mk hq0 hq1 hq) ((hu.take _).app (hpad.2.1.app hrd)) ?_ ?_ ?_
  ·
   rw [List.length_append, List.length_append, hti, hpad.1, List.length_drop]; exact hlen'
  ·
   rw [val_app, val_app, hpad.2.2, hrest, Int.mul_zero, Int.add_zero, hti]
   simp only [val]
   refine div_step (w := val 4294967296 (w0 :: W1)) ?_ hdm.symm
   rw [hU, hUu, Int.pow_succ]
  ·
   have hd2 : List.drop i (u.take i ++ (padR (n + 1) r ++ u.drop (i + n + 1))) = padR (n + 1) r ++ u.drop (i + n + 1) := by
    rw [List.drop_append_of_le_length (Nat.le_of_eq hti.symm), List.drop_of_length_le (Nat.le_of_eq hti), List.nil_append]
   rw [hd2, val_app, hpad.2.2, hrest, Int.mul_zero, Int.add_zero]
   exact hm1
theorem top_digit (y n : Nat) (hy : 0 < y) (hn : (dgs BB y).length = n) :
  1 ≤ n ∧ ∃ t : Nat, 0 < t ∧ t < 4294967296 ∧ rd (dgs BB y) ((n - 1 : Nat) : Int) = t ∧ 4294967296 ^ (n - 1) * (t : Int) ≤ y ∧ (y : Int) < 4294967296 ^ (n - 1) * ((t : Int) + 1) := by
 have dy : Digs 4294967296 (dgs BB y) := dgs_digs BB2 y
 have vy : val 4294967296 (dgs BB y) = y := dgs_val BB2 y
 have hne : dgs BB y ≠ [] := fun h => by rw [dgs_nil BB2] at h; omega
 have hlp : 0 < (dgs BB y).length := List.length_pos_iff.2 hne
 have hlo := norm_low (B := 4294967296) (by decide) dy (dgs_norm BB2 y) hne
 have htop := rd_digs dy (show n - 1 < (dgs BB y).length by omega)
 have ecut := val_cut 4294967296 (dgs BB y) (n - 1) (by omega)
 rw [drop_at (l := dgs BB y) (i := n - 1) (by omega), List.drop_of_length_le (by omega)] at ecut
 have tlt := val_lt (B := 4294967296) (by decide) (dy.take (n - 1))
 have tn := val_nonneg (B := 4294967296) (by decide) (dy.take (n - 1))
 rw [List.length_take, Nat.min_eq_left (by omega)] at tlt
 rw [hn, vy] at hlo
 simp only [val, Int.mul_zero, Int.add_zero] at ecut
 rw [vy] at ecut
 refine ⟨by omega, ?_⟩
 obtain ⟨t, htt⟩ : ∃ t : Nat, rd (dgs BB y) ((n - 1 : Nat) : Int) = t := ⟨_, (Int.toNat_of_nonneg htop.1).symm⟩
 rw [htt] at ecut htop
 generalize (4294967296 : Int) ^ (n - 1) = P at *
 generalize val 4294967296 (List.take (n - 1) (dgs BB y)) = a at *
 refine ⟨t, ?_, by omega, htt, by omega, by rw [Int.mul_add]; omega⟩
 rcases Nat.eq_zero_or_pos t with h | h
 ·
  exfalso
  subst h
  simp at ecut
  omega
 ·
  exact h
theorem lead_zeros (t : Nat) (h0 : 0 < t) (h1 : t < 4294967296) : ∃ s : Nat, s ≤ 31 ∧ bits_LeadingZeros32.f (t : Int) = some (s : Int) ∧ ((t : Int) + 1) * 2 ^ s ≤ 4294967296 ∧ 2147483648 ≤ (t : Int) * 2 ^ s := by
 obtain ⟨b1, b2, b3⟩ := bl_bounds t h0
 have b4 : bl t ≤ 32 := bl_le 32 t h1
 have hbl : Lib.bitLen t = bl t := aux_bl 64 t (Nat.lt_trans h1 (by decide))
 have e1 : bl t + (32 - bl t) = 32 := by omega
 have e2 : bl t - 1 + (32 - bl t) = 31 := by omega
 have hS0 : (0 : Int) < 2 ^ (32 - bl t) := Int.pow_pos (by decide)
 refine ⟨32 - bl t, by clear b2 b3 hS0; omega, ?_, ?_, ?_⟩
 ·
  unfold bits_LeadingZeros32.f
  clear b2 b3 hS0
  rw [if_pos (by omega), Int.toNat_natCast, hbl]
  congr 1
  omega
 ·
  have h1 : ((t : Int) + 1) ≤ 2 ^ bl t := by
   have h2 : ((t + 1 : Nat) : Int) ≤ ((2 ^ bl t : Nat) : Int) := Int.ofNat_le.2 b3
   rw [Int.natCast_pow] at h2
   exact h2
  have h2 := Int.mul_le_mul_of_nonneg_right h1 (Int.le_of_lt hS0)
  rw [← Int.pow_add, e1] at h2
  exact h2
 ·
  have h1 : (2 : Int) ^ (bl t - 1) ≤ t := by
   have h2 : ((2 ^ (bl t - 1) : Nat) : Int) ≤ (t : Int) := Int.ofNat_le.2 b2
   rw [Int.natCast_pow] at h2
   exact h2
  have h2 := Int.mul_le_mul_of_nonneg_right h1 (Int.le_of_lt hS0)
  rw [← Int.pow_add, e2] at h2
  exact h2
theorem hpp (a s : Nat) : (a : Int) * 2 ^ s = ((a * 2 ^ s : Nat) : Int) := by rw [Int.natCast_mul, Int.natCast_pow]; rfl
theorem up_digits (y n s t : Nat) (hn : 1 ≤ n) (h1 : 4294967296 ^ (n - 1) * (t : Int) ≤ y) (h2 : (y : Int) < 4294967296 ^ (n - 1) * ((t : Int) + 1)) (h3 : ((t : Int) + 1) * 2 ^ s ≤ 4294967296) (h4 : 2147483648 ≤ (t : Int) * 2 ^ s) :
  (dgs BB (y * 2 ^ s)).length = n ∧ 2147483648 ≤ rd (dgs BB (y * 2 ^ s)) ((n - 1 : Nat) : Int) := by
 obtain ⟨v, hvd⟩ : ∃ v, v = dgs BB (y * 2 ^ s) := ⟨_, rfl⟩
 have dv : Digs 4294967296 v := by rw [hvd]; exact dgs_digs BB2 _
 have vval : val 4294967296 v = (y : Int) * 2 ^ s := by rw [hvd, hpp]; exact dgs_val BB2 _
 have hS0 : (0 : Int) < 2 ^ s := Int.pow_pos (by decide)
 have hP0 : (0 : Int) < 4294967296 ^ (n - 1) := Int.pow_pos (by decide)
 have hPn : (4294967296 : Int) ^ n = 4294967296 ^ (n - 1) * 4294967296 := by rw [← Int.pow_succ]; congr 1; omega
 have vlt : val 4294967296 v < 4294967296 ^ n := by
  rw [vval, hPn]
  have k2 := Int.mul_lt_mul_of_pos_right h2 hS0
  have k3 := Int.mul_le_mul_of_nonneg_left h3 (Int.le_of_lt hP0)
  rw [Int.mul_assoc] at k2
  exact Int.lt_of_lt_of_le k2 k3
 have vge : 4294967296 ^ (n - 1) * 2147483648 ≤ val 4294967296 v := by
  rw [vval]
  have k2 := Int.mul_le_mul_of_nonneg_right h1 (Int.le_of_lt hS0)
  have k3 := Int.mul_le_mul_of_nonneg_left h4 (Int.le_of_lt hP0)
  rw [Int.mul_assoc] at k2
  exact Int.le_trans k3 k2
 have vlen : v.length = n := by
  have k1 : v.length ≤ n := by
   rw [hvd]
   refine dgs_len BB2 n _ ?_
   rw [vval, hpp] at vlt
   have : ((y * 2 ^ s : Nat) : Int) < ((BB ^ n : Nat) : Int) := by rw [Int.natCast_pow]; exact vlt
   exact Int.ofNat_lt.1 this
  rcases Nat.lt_or_ge v.length n with h | h
  ·
   have k2 := val_lt (B := 4294967296) (by decide) dv
   have k3 : (4294967296 : Int) ^ v.length ≤ 4294967296 ^ (n - 1) := pow_mono (by decide) (by clear h1 h2 h3 h4 vlt vge hPn hP0 hS0 vval k2; omega)
   have k4 := Int.lt_of_lt_of_le k2 k3
   generalize (4294967296 : Int) ^ (n - 1) = P at *
   clear h1 h2 h3 h4 hPn vlt vval k2 k3
   exfalso
   omega
  ·
   exact Nat.le_antisymm k1 h
 rw [← hvd]
 refine ⟨vlen, ?_⟩
 have c1 := val_cut 4294967296 v (n - 1) (by rw [vlen]; exact Nat.sub_le _ _)
 rw [drop_at (l := v) (i := n - 1) (by rw [vlen]; exact Nat.sub_lt hn (by decide)), List.drop_of_length_le (by rw [vlen, Nat.sub_add_cancel hn]; exact Nat.le_refl _)] at c1
 have c2 := val_lt (B := 4294967296) (by decide) (dv.take (n - 1))
 rw [List.length_take, Nat.min_eq_left (by rw [vlen]; exact Nat.sub_le _ _)] at c2
 simp only [val, Int.mul_zero, Int.add_zero] at c1
 clear h1 h2 h3 h4 hPn vlt vval
 rcases Int.lt_or_le (rd v ((n - 1 : Nat) : Int)) 2147483648 with h | h
 ·
  exfalso
  have c3 := Int.mul_le_mul_of_nonneg_left (show rd v ((n - 1 : Nat) : Int) + 1 ≤ 2147483648 from h) (Int.le_of_lt hP0)
  rw [Int.mul_add] at c3
  generalize (4294967296 : Int) ^ (n - 1) = P at *
  generalize val 4294967296 (List.take (n - 1) v) = a at *
  omega
 ·
  exact h
theorem quot_rest {x y s Q Z : Nat} (hy : 0 < y) (hU : (x : Int) * 2 ^ s = (Q : Int) * ((y : Int) * 2 ^ s) + Z) (hlt : (Z : Int) < (y : Int) * 2 ^ s) : x / y = Q ∧ (Z : Int) = ((x % y : Nat) : Int) * 2 ^ s := by
 rw [hpp, hpp, ← Int.natCast_mul, ← Int.natCast_add] at hU
 rw [hpp] at hlt
 have hU' : x * 2 ^ s = Q * (y * 2 ^ s) + Z := Int.ofNat_inj.1 hU
 have hlt' : Z < y * 2 ^ s := Int.ofNat_lt.1 hlt
 have hsp : 0 < 2 ^ s := Nat.pow_pos (by decide)
 rw [← Nat.mul_assoc] at hU'
 have hle : Q * y ≤ x := Nat.le_of_mul_le_mul_right (c := 2 ^ s) (by rw [hU']; exact Nat.le_add_right _ _) hsp
 have hz : Z = (x - Q * y) * 2 ^ s := by
  rw [Nat.sub_mul, hU', Nat.add_sub_cancel_left]
 have hr : x - Q * y < y := by
  rw [hz] at hlt'
  exact Nat.lt_of_mul_lt_mul_right hlt'
 have hx : x - Q * y + y * Q = x := by rw [Nat.mul_comm y Q]; exact Nat.sub_add_cancel hle
 have e1 : x / y = Q := by
  conv => lhs; rw [← hx]
  rw [Nat.add_mul_div_left _ _ hy, Nat.div_eq_of_lt hr, Nat.zero_add]
 have e2 : x % y = x - Q * y := by
  conv => lhs; rw [← hx]
  rw [Nat.add_mul_mod_self_left, Nat.mod_eq_of_lt hr]
 exact ⟨e1, by rw [e2, hpp, ← hz]⟩
theorem start_lt {x y s n m l : Nat} {u0 : List Int} (hx : (x : Int) < 4294967296 ^ l) (hl : l = (n - 1) + m) (hy : (4294967296 : Int) ^ (n - 1) ≤ y) (ud : Digs 4294967296 u0) (hm : m ≤ u0.length) (uv : val 4294967296 u0 = (x : Int) * 2 ^ s) : val 4294967296 (u0.drop m) < (y : Int) * 2 ^ s := by
 have c1 := val_cut 4294967296 u0 m hm
 rw [uv] at c1
 have c2 := val_nonneg (B := 4294967296) (by decide) (ud.take m)
 have hPm : (0 : Int) < 4294967296 ^ m := Int.pow_pos (by decide)
 have hS0 : (0 : Int) < 2 ^ s := Int.pow_pos (by decide)
 rw [hl, Int.pow_add] at hx
 have h1 := Int.mul_lt_mul_of_pos_right hx hS0
 have h2 := Int.mul_le_mul_of_nonneg_right hy (Int.le_of_lt hS0)
 refine Int.lt_of_lt_of_le (Int.lt_of_mul_lt_mul_left (a := 4294967296 ^ m) ?_ (Int.le_of_lt hPm)) h2
 have e : 4294967296 ^ m * (4294967296 ^ (n - 1) * 2 ^ s) = (4294967296 : Int) ^ (n - 1) * 4294967296 ^ m * 2 ^ s := by
  rw [← Int.mul_assoc, Int.mul_comm (4294967296 ^ m)]
 rw [e]
 refine Int.lt_of_le_of_lt ?_ h1
 rw [c1]
 exact Int.le_add_of_nonneg_left c2
theorem divide_ev (x y : Nat) (hy : 0 < y) (lx : (dgs BB x).length ≤ 900000) (ly : (dgs BB y).length ≤ 900000) :
  Ev (fun k => integer_divide.f k (dgs BB x) (dgs BB y)) (dgs BB (x / y), dgs BB (x % y)) := by
 have dx : Digs 4294967296 (dgs BB x) := dgs_digs BB2 x
 have dy : Digs 4294967296 (dgs BB y) := dgs_digs BB2 y
 have vx : val 4294967296 (dgs BB x) = x := dgs_val BB2 x
 have vy : val 4294967296 (dgs BB y) = y := dgs_val BB2 y
 have nx := dgs_norm BB2 x
 have ny := dgs_norm BB2 y
 have ho := order_ev (dgs BB x) (dgs BB y) dx dy nx ny (by omega) (by omega)
 rw [vx, vy] at ho
 unfold integer_divide.f
 refine Ev.bind ho ?_
 by_cases hlt : x < y
 ·
  refine Ev.pos (Int.sign_neg_iff.2 (by omega)) (Ev.some_ ?_)
  rw [Nat.div_eq_of_lt hlt, Nat.mod_eq_of_lt hlt, dgs_zero]
 refine Ev.neg (mt Int.sign_neg_iff.1 (by omega)) ?_
 by_cases h1 : (dgs BB y).length = 1
 ·
  obtain ⟨d, hd⟩ := List.length_eq_one_iff.1 h1
  have hdy : (d : Int) = y := by rw [← vy, hd]; simp [val]
  have hdb := dy d (by rw [hd]; simp)
  refine Ev.pos (by omega) (Ev.pos (by omega) ?_)
  rw [hd, show rd [d] 0 = d from rfl]
  have hs := short_ev (dgs BB x) d dx (by omega) hdb.2 (by omega)
  rw [vx, hdy, Int.toNat_natCast, Int.toNat_natCast] at hs
  rw [hdy]
  refine Ev.bind hs (Ev.bind (trim_ev _ (by simp)) (Ev.some_ ?_))
  have hm := Nat.mod_lt x hy
  have hyb : y < 4294967296 := by omega
  rw [trimL_dgs BB2 (l := [((x % y : Nat) : Int)]) (n := x % y) (Digs.mk (Int.natCast_nonneg _) (Int.ofNat_lt.2 (Nat.lt_trans hm hyb)) (Digs.nil _)) (by simp [val])]
 
 obtain ⟨n, hnl⟩ : ∃ n, (dgs BB y).length = n := ⟨_, rfl⟩
 have hn0 := (top_digit y n hy hnl).1
 have hlen : n ≤ (dgs BB x).length := by
  rcases Nat.lt_or_ge (dgs BB x).length n with h | h
  ·
   have := len_lt_val (B := 4294967296) (by decide) dx dy ny (by omega)
   omega
  ·
   exact h
 obtain ⟨m, hm⟩ : ∃ m, m = (dgs BB x).length - n + 1 := ⟨_, rfl⟩
 obtain ⟨z1, z2, z3, z4, z5, z6, z7, z8, z9, y1, y2, y3, y4, y5, y6⟩ : (dgs BB x).length + 1 = m + n ∧ m ≤ 1000000 ∧ n ≤ 1000000 ∧ (dgs BB x).length ≤ 70368744177663 ∧ (dgs BB y).length ≤ 70368744177663 ∧ (dgs BB x).length = (n - 1) + m ∧ m ≤ (dgs BB x).length + 1 ∧ ¬ ((((dgs BB y).length : Nat) : Int) = 1) ∧ (m : Nat) ≤ 70368744177664 ∧ m ≤ 4611686018427387904 ∧ m + n ≤ 4611686018427387904 ∧ m + n ≤ 10000000 ∧ (dgs BB y).length + 1 ≤ 4611686018427387904 ∧ -9223372036854775808 ≤ (m : Int) - 1 ∧ (m : Int) - 1 ≤ 9223372036854775807 := by omega
 have ew1 : wrap64 (((dgs BB y).length : Int) - 1) = ((n - 1 : Nat) : Int) := by rw [w64 _ (by omega) (by omega)]; omega
 have ei : 0 ≤ ((n - 1 : Nat) : Int) ∧ ((n - 1 : Nat) : Int) < (((dgs BB y).length : Nat) : Int) := by clear ew1; omega
 have ew2 : wrap64 ((wrap64 (((dgs BB x).length : Int) - ((dgs BB y).length : Int))) + 1) = (m : Int) := by
  clear ew1
  rw [w64 (((dgs BB x).length : Int) - ((dgs BB y).length : Int)) (by omega) (by omega), w64 _ (by omega) (by omega)]
  omega
 have hn2 : 2 ≤ n := by clear ew1 ew2; omega
 obtain ⟨hn1, t, t0, tb, htt, t1, t2⟩ := top_digit y n hy hnl
 obtain ⟨s, hs31, hlz, s1, s2⟩ := lead_zeros t t0 tb
 obtain ⟨vlen, vtop⟩ := up_digits y n s t hn1 t1 t2 s1 s2
 obtain ⟨u0, eu, ul, ud, uv⟩ := raised_ev (dgs BB x) s hs31 dx z4
 obtain ⟨v0, ev, vl, vd, vv⟩ := raised_ev (dgs BB y) s hs31 dy z5
 rw [vx] at uv
 rw [vy] at vv
 have hvtrim : trimL v0 = dgs BB (y * 2 ^ s) := trimL_dgs BB2 vd (by show val 4294967296 v0 = _; rw [vv, hpp])
 have dv : Digs 4294967296 (dgs BB (y * 2 ^ s)) := dgs_digs BB2 _
 have vval : val 4294967296 (dgs BB (y * 2 ^ s)) = (y : Int) * 2 ^ s := by rw [hpp]; exact dgs_val BB2 _
 have hlo := norm_low (B := 4294967296) (by decide) dy ny (fun h => by rw [h] at hnl; simp at hnl; rw [← hnl] at hn2; exact absurd hn2 (by decide))
 rw [vy, hnl] at hlo
 have hxl := val_lt (B := 4294967296) (by decide) dx
 rw [vx] at hxl
 have hv0l : v0.length ≤ 4611686018427387904 := by rw [vl]; exact y4
 refine Ev.neg z8 (Ev.pos (by rw [ew1]; exact ei.1) (Ev.pos (by rw [ew1]; exact ei.2) ?_))
 rw [ew1, htt]
 refine Ev.bind0 hlz (Ev.bind eu (Ev.bind ev (Ev.bind (trim_ev v0 hv0l) ?_)))
 rw [hvtrim, ew2, Int.toNat_natCast]
 refine Ev.pos (Int.natCast_nonneg m) (Ev.pos z9 (Ev.bindS ?_))
 rw [List.length_replicate, w64 ((m : Int) - 1) y5 y6]
 have key := divide_l0 (dgs BB (y * 2 ^ s)) n s m ((x : Int) * 2 ^ s) (dgs BB (x / y), dgs BB (x % y)) hn2 z3 vlen dv vtop z2 ?_ m [] u0 rfl (Digs.nil _) ud (by rw [ul]; exact z1) (by rw [uv]; simp [val]) (by rw [vval]; exact start_lt hxl z6 hlo ud (by rw [ul]; exact z7) uv)
 ·
  rw [List.append_nil] at key
  exact key
 ·
  intro q u dq hql du hul hU hlt2
  rw [vval] at hU hlt2
  obtain ⟨Q, hQ⟩ : ∃ Q : Nat, val 4294967296 q = Q := ⟨_, (Int.toNat_of_nonneg (val_nonneg (B := 4294967296) (by decide) dq)).symm⟩
  obtain ⟨Z, hZ⟩ : ∃ Z : Nat, val 4294967296 u = Z := ⟨_, (Int.toNat_of_nonneg (val_nonneg (B := 4294967296) (by decide) du)).symm⟩
  rw [hQ, hZ] at hU
  rw [hZ] at hlt2
  obtain ⟨e1, e2⟩ := quot_rest hy hU hlt2
  have l1 : q.length ≤ 4611686018427387904 := by rw [hql]; exact y1
  have l2 : u.length ≤ 4611686018427387904 := by rw [hul]; exact y2
  have l3 : (trimL u).length ≤ 10000000 := Nat.le_trans (trimL_len u) (by rw [hul]; exact y3)
  refine Ev.step (fun k => integer_divide.l0.eq_2 ..) (Ev.neg (by decide) (Ev.bind (trim_ev q l1) (Ev.bind (trim_ev u l2) ?_)))
  have hS0 : (2 : Int) ^ s ≠ 0 := Int.ne_of_gt (Int.pow_pos (by decide))
  have hlow := lowered_ev (trimL u) s hs31 (trimL_digs du) l3 (x % y) (by rw [trimL_val, hZ, e2, Int.mul_ediv_cancel _ hS0])
  refine Ev.bind hlow (Ev.some_ ?_)
  rw [e1, trimL_dgs BB2 dq hQ]
theorem quo_eq (x y : Int) (Q Rr : Nat) (hQ : x.natAbs = Q * y.natAbs + Rr) (hb : Rr < y.natAbs) (q r : Int) (hq : q = if (decide (x < 0) != decide (y < 0)) = true then -(Q : Int) else Q) (hr : r = if decide (x < 0) = true then -(Rr : Int) else Rr) :
  x = q * y + r ∧ (r < 0 ↔ x < 0 ∧ 0 < Rr) ∧ (r = 0 ↔ Rr = 0) ∧ r.natAbs = Rr := by
 have hz : ((Q : Int) * (y.natAbs : Int)) = (x.natAbs : Int) - Rr := by
  have : (x.natAbs : Int) = (Q : Int) * (y.natAbs : Int) + Rr := by rw [hQ, Int.natCast_add, Int.natCast_mul]
  omega
 have hr2 : r = if x < 0 then -(Rr : Int) else Rr := by rw [hr]; simp only [decide_eq_true_eq]
 have hr3 : (r < 0 ↔ x < 0 ∧ 0 < Rr) ∧ (r = 0 ↔ Rr = 0) ∧ r.natAbs = Rr := by rw [hr2]; split <;> omega
 refine ⟨?_, hr3⟩
 rw [hq, hr2]
 by_cases h : x < 0 <;> by_cases g : y < 0
 ·
  rw [decide_eq_true h, decide_eq_true g, if_neg (by decide), if_pos h]
  rw [show (y.natAbs : Int) = -y by omega, Int.mul_neg] at hz
  omega
 ·
  rw [decide_eq_true h, decide_eq_false g, if_pos (by decide), if_pos h, Int.neg_mul]
  rw [show (y.natAbs : Int) = y by omega] at hz
  omega
 ·
  rw [decide_eq_false h, decide_eq_true g, if_pos (by decide), if_neg h, Int.neg_mul]
  rw [show (y.natAbs : Int) = -y by omega, Int.mul_neg] at hz
  omega
 ·
  rw [decide_eq_false h, decide_eq_false g, if_neg (by decide), if_neg h]
  rw [show (y.natAbs : Int) = y by omega] at hz
  omega
theorem divmod_ev (x y : Int) (h0 : y ≠ 0) (lx : (lm x).length ≤ 800000) (ly : (lm y).length ≤ 800000) :
  ∃ q r, IsQR x y q r ∧ r.natAbs ≤ y.natAbs ∧ q.natAbs ≤ x.natAbs + 1 ∧ Ev (fun k => integer_DivMod.f k (decide (x < 0)) (lm x) (decide (y < 0)) (lm y)) (decide (q < 0), lm q, decide (r < 0), lm r, 0) := by
 have hy : 0 < y.natAbs := by omega
 have hdiv := Nat.div_add_mod x.natAbs y.natAbs
 have hmod := Nat.mod_lt x.natAbs hy
 obtain ⟨Q, hQ⟩ : ∃ Q, x.natAbs / y.natAbs = Q := ⟨_, rfl⟩
 obtain ⟨Rr, hRr⟩ : ∃ Rr, x.natAbs % y.natAbs = Rr := ⟨_, rfl⟩
 have hd := divide_ev x.natAbs y.natAbs hy (Nat.le_trans lx (by decide)) (Nat.le_trans ly (by decide))
 rw [hQ, hRr] at hd hdiv
 rw [hRr] at hmod
 rw [Nat.mul_comm] at hdiv
 obtain ⟨q, hq⟩ : ∃ q : Int, q = if (decide (x < 0) != decide (y < 0)) = true then -(Q : Int) else Q := ⟨_, rfl⟩
 obtain ⟨r, hr⟩ : ∃ r : Int, r = if decide (x < 0) = true then -(Rr : Int) else Rr := ⟨_, rfl⟩
 obtain ⟨e1, e2, e3, e4⟩ := quo_eq x y Q Rr hdiv.symm hmod q r hq hr
 have hqa : q.natAbs = Q := by rw [hq]; split <;> omega
 have hQle : Q ≤ x.natAbs := by rw [← hQ]; exact Nat.div_le_self _ _
 have lenle : ∀ (a b : Nat), a ≤ b → (dgs BB a).length ≤ (dgs BB b).length := by
  intro a b hab
  rcases Nat.lt_or_ge (dgs BB b).length (dgs BB a).length with h | h
  ·
   have := len_lt_val (B := 4294967296) (by decide) (dgs_digs BB2 b) (dgs_digs BB2 a) (dgs_norm BB2 a) h
   have e1 : val 4294967296 (dgs BB b) = b := dgs_val BB2 b
   have e2 : val 4294967296 (dgs BB a) = a := dgs_val BB2 a
   rw [e1, e2] at this
   omega
  ·
   exact h
 have lQ : (dgs BB Q).length ≤ 800000 := Nat.le_trans (lenle _ _ hQle) lx
 have lR : (dgs BB Rr).length ≤ 800000 := Nat.le_trans (lenle _ _ (Nat.le_of_lt hmod)) ly
 have sq := signed_to (decide (x < 0) != decide (y < 0)) (dgs BB Q) Q q (by omega) (dgs_digs BB2 Q) (dgs_val BB2 Q) hq
 have sr := signed_to (decide (x < 0)) (dgs BB Rr) Rr r (by omega) (dgs_digs BB2 Rr) (dgs_val BB2 Rr) hr
 have lq : (lm q).length ≤ 800000 := by rw [lm, hqa]; exact lQ
 have lr : (lm r).length ≤ 800000 := by rw [lm, e4]; exact lR
 have hsy : y.sign ≠ 0 := fun h => h0 (Int.sign_eq_zero_iff_zero.1 h)
 by_cases hz : r = 0
 ·
  refine ⟨q, r, ⟨e1, by omega⟩, by omega, by omega, ?_⟩
  unfold integer_DivMod.f
  refine Ev.bind0 (sgn_ev y) (Ev.neg hsy (Ev.bind hd (Ev.bind sq (Ev.bind sr (Ev.bind0 (sgn_ev r) (Ev.pos (by rw [hz]; rfl) ?_))))))
  exact Ev.step (fun k => integer_DivMod.j0.eq_2 ..) (Ev.neg (by decide) (Ev.some_ rfl))
 ·
  have hrs : r.sign ≠ 0 := fun h => hz (Int.sign_eq_zero_iff_zero.1 h)
  by_cases hf : (decide (r < 0) != decide (y < 0)) = true
  ·
   have hf2 : (r < 0 ∧ ¬ y < 0) ∨ (¬ r < 0 ∧ y < 0) := by
    by_cases a : r < 0 <;> by_cases b : y < 0 <;> simp [a, b] at hf ⊢
   refine ⟨q - 1, r + y, ⟨by rw [Int.sub_mul]; omega, by omega⟩, by omega, by omega, ?_⟩
   have f1 := from_ev 1 (by decide) (by decide)
   have l1 : (lm (1 : Int)).length ≤ 70368744177663 := by
    have : (dgs BB 1).length ≤ 1 := dgs_len BB2 1 1 (by decide)
    show (dgs BB 1).length ≤ _
    omega
   unfold integer_DivMod.f
   refine Ev.bind0 (sgn_ev y) (Ev.neg hsy (Ev.bind hd (Ev.bind sq (Ev.bind sr (Ev.bind0 (sgn_ev r) (Ev.neg hrs ?_))))))
   refine Ev.step (fun k => integer_DivMod.j0.eq_2 ..) (Ev.pos hf (Ev.bind f1 (Ev.bind (sub_ev q 1 (by omega) l1) (Ev.bind (add_ev r y (by omega) (by omega)) (Ev.some_ rfl)))))
  ·
   have hf2 : (r < 0 ∧ y < 0) ∨ (¬ r < 0 ∧ ¬ y < 0) := by
    by_cases a : r < 0 <;> by_cases b : y < 0 <;> simp [a, b] at hf ⊢
   refine ⟨q, r, ⟨e1, by omega⟩, by omega, by omega, ?_⟩
   unfold integer_DivMod.f
   refine Ev.bind0 (sgn_ev y) (Ev.neg hsy (Ev.bind hd (Ev.bind sq (Ev.bind sr (Ev.bind0 (sgn_ev r) (Ev.neg hrs ?_))))))
   exact Ev.step (fun k => integer_DivMod.j0.eq_2 ..) (Ev.neg hf (Ev.some_ rfl))
theorem gcd_l0 : ∀ (n a b : Nat), b ≤ n → (dgs BB a).length ≤ 800000 → (dgs BB b).length ≤ 800000 → Ev (fun k => integer_Gcd.l0 k (dgs BB a) (dgs BB b)) (false, dgs BB (Nat.gcd a b)) := by
 intro n
 induction n using Nat.strongRecOn with
 | _ n ih =>
  intro a b hb la lb
  rcases Nat.eq_zero_or_pos b with h | h
  ·
   subst h
   refine Ev.step (fun k => integer_Gcd.l0.eq_2 ..) (Ev.neg (by rw [dgs_zero]; decide) (Ev.some_ (by rw [Nat.gcd_zero_right])))
  ·
   have hne : 0 < (dgs BB b).length := List.length_pos_iff.2 (fun hh => by rw [dgs_nil BB2] at hh; omega)
   have hm := Nat.mod_lt a h
   refine Ev.step (fun k => integer_Gcd.l0.eq_2 ..) (Ev.pos (by omega) (Ev.bind (divide_ev a b h (by omega) (by omega)) ?_))
   have hl : (dgs BB (a % b)).length ≤ 800000 := by
    rcases Nat.lt_or_ge (dgs BB b).length (dgs BB (a % b)).length with g | g
    ·
     have := len_lt_val (B := 4294967296) (by decide) (dgs_digs BB2 b) (dgs_digs BB2 (a % b)) (dgs_norm BB2 (a % b)) g
     have e1 : val 4294967296 (dgs BB b) = b := dgs_val BB2 b
     have e2 : val 4294967296 (dgs BB (a % b)) = ((a % b : Nat) : Int) := dgs_val BB2 (a % b)
     rw [e1, e2] at this
     omega
    ·
     omega
   have := ih (a % b) (by omega) b (a % b) (Nat.le_refl _) lb hl
   rw [Nat.gcd_comm b (a % b), ← Nat.gcd_rec, Nat.gcd_comm b a] at this
   exact this
theorem gcd_ev (x y : Int) (lx : (lm x).length ≤ 800000) (ly : (lm y).length ≤ 800000) :
  Ev (fun k => integer_Gcd.f k (decide (x < 0)) (lm x) (decide (y < 0)) (lm y)) (decide (((Int.gcd x y : Nat) : Int) < 0), lm (Int.gcd x y : Nat)) := by
 unfold integer_Gcd.f
 have := gcd_l0 y.natAbs x.natAbs y.natAbs (Nat.le_refl _) lx ly
 rw [decide_eq_false (by omega)]
 exact this
theorem rgcd_l0 (j : Nat) (hj : j ≤ 500000) : ∀ (n a b : Nat), b ≤ n → Sm (j + 1) (a : Int) → Sm (j + 1) (b : Int) → Ev (fun k => dowelref01_Gcd.l0 k (T (a : Int)) (T (b : Int))) (T ((Nat.gcd a b : Nat) : Int)) := by
 intro n
 induction n using Nat.strongRecOn with
 | _ n ih =>
  intro a b hb sa sb
  rcases Nat.eq_zero_or_pos b with h | h
  ·
   subst h
   refine Ev.step (fun k => dowelref01_Gcd.l0.eq_2 ..) (Ev.pos ((T_48 0).2 rfl) (Ev.some_ (by rw [Nat.gcd_zero_right])))
  ·
   obtain ⟨q, r, hqr, href⟩ := rdivmod_ev (k := j) (j := j) sa sb hj hj (show (b : Int) ≠ 0 by omega)
   have hm := Nat.mod_lt a h
   have hd := Nat.div_add_mod a b
   obtain ⟨rfl, rfl⟩ := hqr.uniq (q' := ((a / b : Nat) : Int)) (r' := ((a % b : Nat) : Int)) ⟨by rw [← Int.natCast_mul, ← Int.natCast_add, Nat.mul_comm, hd], Or.inl (by omega)⟩
   refine Ev.step (fun k => dowelref01_Gcd.l0.eq_2 ..) (Ev.neg (mt (T_48 _).1 (by omega)) (Ev.bind href ?_))
   have := ih (a % b) (by omega) b (a % b) (Nat.le_refl _) sb (by unfold Sm at *; omega)
   rw [Nat.gcd_comm b (a % b), ← Nat.gcd_rec, Nat.gcd_comm b a] at this
   exact this
theorem rgcd_ev {j : Nat} {x y : Int} (hx : Sm (j + 1) x) (hy : Sm (j + 1) y) (hj : j ≤ 500000) : Ev (fun k => dowelref01_Gcd.f k (T x) (T y)) (T ((Int.gcd x y : Nat) : Int)) := by
 unfold dowelref01_Gcd.f
 have lx : (dg x).length ≤ 1099511627776 := by have := hx.dg; omega
 have ly : (dg y).length ≤ 1099511627776 := by have := hy.dg; omega
 refine Ev.bind (rdig_sm hx (by omega)) (Ev.bind (rtext_to false (dg x) x.natAbs (x.natAbs : Int) (dg_digs x) (dg_val x) lx rfl) (Ev.bind (rdig_sm hy (by omega)) (Ev.bind (rtext_to false (dg y) y.natAbs (y.natAbs : Int) (dg_digs y) (dg_val y) ly rfl) ?_)))
 exact rgcd_l0 j hj y.natAbs x.natAbs y.natAbs (Nat.le_refl _) hx.abs hy.abs
theorem divmod_exact (x : Int) (g : Nat) (hg : 0 < g) (hd : (g : Int) ∣ x) (lx : (lm x).length ≤ 800000) (ly : (lm (g : Int)).length ≤ 800000) :
  Ev (fun k => integer_DivMod.f k (decide (x < 0)) (lm x) (decide ((g : Int) < 0)) (lm (g : Int))) (decide (x / g < 0), lm (x / g), decide ((0 : Int) < 0), lm 0, 0) := by
 obtain ⟨q, r, hqr, hr, hq, hev⟩ := divmod_ev x g (by omega) lx ly
 obtain ⟨rfl, rfl⟩ := hqr.uniq (q' := x / g) (r' := 0) ⟨by rw [Int.ediv_mul_cancel hd, Int.add_zero], Or.inl (by omega)⟩
 exact hev
theorem sm_len {k : Nat} {z w : Int} (h : Sm k z) (hw : w.natAbs ≤ z.natAbs) : Sm k w := by unfold Sm at *; omega
theorem IntegerGcds : dowellaw01_IntegerGcds.Pure := by
 intro s t hs ht
 refine Ev.rounds (g := fun k => dowellaw01_IntegerGcds.f k s t) ?_
 unfold dowellaw01_IntegerGcds.f
 have kn : Ev (fun k => dowellaw01_IntegerGcds.j0 k s t true) true := Ev.step (fun k => dowellaw01_IntegerGcds.j0.eq_2 ..) (Ev.pos rfl (Ev.bind known_ev (Ev.some_ rfl)))
 refine Ev.bind known_ev (Ev.pos rfl (Ev.bind (right_ev s) ?_))
 by_cases h1 : ¬ (s.size ≤ 120 ∧ chk s.data.toList = 0)
 ·
  exact Ev.neg (by rw [decide_eq_true_eq]; exact h1) kn
 replace h1 := Decidable.not_not.1 h1
 refine Ev.pos (decide_eq_true h1) (Ev.bind (right_ev t) ?_)
 by_cases h2 : ¬ (t.size ≤ 120 ∧ chk t.data.toList = 0)
 ·
  exact Ev.neg (by rw [decide_eq_true_eq]; exact h2) kn
 replace h2 := Decidable.not_not.1 h2
 refine Ev.pos (decide_eq_true h2) ?_
 by_cases h60 : (s.size : Int) > 60
 ·
  exact Ev.pos h60 kn
 refine Ev.neg h60 ?_
 by_cases g60 : 60 < t.size
 ·
  rw [decide_eq_true g60]; exact kn
 rw [decide_eq_false g60]
 obtain ⟨a, e1, sa', ra⟩ := read_sm s h1
 obtain ⟨b, e2, sb', rb⟩ := read_sm t h2
 subst e1
 subst e2
 have sa : Sm 60 a := sm_of (by omega)
 have sb : Sm 60 b := sm_of (by omega)
 have la := sa.lm
 have lb := sb.lm
 have hg := gcd_ev a b (by omega) (by omega)
 have hg2 := gcd_ev b a (by omega) (by omega)
 rw [Int.gcd_comm b a] at hg2
 have hda : ((Int.gcd a b : Nat) : Int) ∣ a := Int.gcd_dvd_left ..
 have hdb : ((Int.gcd a b : Nat) : Int) ∣ b := Int.gcd_dvd_right ..
 have hgz : Int.gcd a b = 0 → a = 0 ∧ b = 0 := Int.gcd_eq_zero_iff.1
 have hone : 0 < Int.gcd a b → Int.gcd (a / (Int.gcd a b : Nat)) (b / (Int.gcd a b : Nat)) = 1 := fun h => Int.gcd_ediv_gcd_ediv_gcd h
 have sg : Sm 60 ((Int.gcd a b : Nat) : Int) := by
  rcases Int.lt_trichotomy a 0 with h | h | h
  ·
   exact sm_len sa (by have := Int.le_of_dvd (show 0 < -a by omega) ((Int.dvd_neg).2 hda); omega)
  ·
   subst h
   rw [Int.gcd_zero_left]
   exact sb.abs
  ·
   exact sm_len sa (by have := Int.le_of_dvd h hda; omega)
 have lg := sg.lm
 have tg := text_sm (k := 59) sg (by decide)
 have rg := rgcd_ev (j := 59) sa sb (by decide)
 generalize hG : Int.gcd a b = g at *
 refine Ev.step (fun k => dowellaw01_IntegerGcds.j0.eq_2 ..) (Ev.neg (by decide) (Ev.bind ra (Ev.bind rb (Ev.bind hg (Ev.pos rfl (Ev.pos rfl (Ev.bind tg (Ev.bind rg (Ev.pos rfl (Ev.bind hg2 (Ev.bind tg (Ev.bind tg ?_))))))))))))
 rw [bne_self_eq_false]
 refine Ev.step (fun k => dowellaw01_IntegerGcds.j1.eq_2 ..) (Ev.neg (by decide) (Ev.bind0 (sgn_ev _) ?_))
 rcases Nat.eq_zero_or_pos g with h | h
 ·
  obtain ⟨ha0, hb0⟩ := hgz h
  subst h
  refine Ev.pos rfl (Ev.pos ((T_48 a).2 ha0) (Ev.some_ ?_))
  rw [(T_48 b).2 hb0]
  rfl
 ·
  refine Ev.neg (fun hh => by have := Int.sign_eq_zero_iff_zero.1 hh; omega) ?_
  have qa : (a / (g : Int)).natAbs ≤ a.natAbs := Int.natAbs_ediv_le_natAbs a g
  have qb : (b / (g : Int)).natAbs ≤ b.natAbs := Int.natAbs_ediv_le_natAbs b g
  have xa := (sm_len sa qa).lm
  have xb := (sm_len sb qb).lm
  have hgx := gcd_ev (a / (g : Int)) (b / (g : Int)) (by omega) (by omega)
  rw [hone h] at hgx
  have s1 : Sm 60 ((1 : Nat) : Int) := by show 1 < 10 ^ 60; decide
  have t1 := text_sm (k := 59) s1 (by decide)
  refine Ev.bind (divmod_exact a g h hda (by omega) (by omega)) (Ev.bind (divmod_exact b g h hdb (by omega) (by omega)) (Ev.pos rfl (Ev.pos rfl (Ev.bind0 (sgn_ev 0) (Ev.pos rfl (Ev.bind0 (sgn_ev 0) (Ev.pos rfl (Ev.bind hgx (Ev.bind t1 (Ev.some_ ?_))))))))))
  have e1 : T ((1 : Nat) : Int) = (⟨#[49]⟩ : ByteArray) := by
   show (⟨(Lib.itoa ((1 : Nat) : Int)).toArray⟩ : ByteArray) = _
   rw [itoa_nat, dec_small (by decide)]
   rfl
  rw [e1, ByteArray.toList_eq]
  rfl
end Go.Proofs.YtiikfhdmclmjmaaDoor.Pure
namespace Go.Proofs.YtiikfhdmclmjmaaDoor
namespace LawIntegerGcds
open Go Go.ChangeShapes Go.WideShapes Go.ChangeAt Go.RowKit
open Go.ChangeMaps (open_string shut_string)
theorem own : ownKnob Tryd.prog.godebug = none := by kernel_rfl
theorem door_met (os : Os) (args : Array Value) : laidMetH Tryd.prog Rows.integerGcdsRow.laid ((World.doorLaid Tryd.prog 62 os).forCall (fun _ _ => 0) ⟨#[], args, []⟩).memory :=
 laidMetH_of_parts3 (fuel := 8) (laidMet_of_run' 8 (by kernel_rfl) (by kernel_rfl)) (by kernel_rfl) (by kernel_rfl)
theorem of_laid {W : World} (h : laidMetH Tryd.prog Rows.integerGcdsRow.laid W) : P.G W := by
 rw [MakeChecks.laidMetH_plain _ _ _ (by kernel_rfl)] at h
 replace h := laidMet.tail h
 replace h := laidMet.tail h
 exact Lib.tabIs_of_head (g := 2) (t := 126) (e := 58) (n := 20) (by kernel_rfl) (by kernel_rfl) (by kernel_rfl) (by kernel_rfl) (by kernel_rfl) (by kernel_rfl) h
set_option maxRecDepth 100000 in
theorem lifted (os : Os) (started : os.Started) (H : Type) (enc : TypeId × Value → H) :
  ReturnsInHanded {} Tryd.checked os 7 .any (fun w args => (Rows.integerGcdsSpec.pre enc Tryd.prog Tryd.f7 [] false w args ∧ laidMetH Tryd.prog Rows.integerGcdsRow.laid w) ∧ sizedMet enc Tryd.prog Tryd.f7 (OpenSpec.ofChange Rows.integerGcdsSpec) false w args)
   (Rows.integerGcdsSpec.post enc Tryd.prog Tryd.f7 false true false false) := by
 refine returnsInHanded_of_change_and (C := Tryd.checked) (X := fun w _ => laidMetH Tryd.prog Rows.integerGcdsRow.laid w) (fun _ _ _ hh h => h.of_heap hh) own started (by kernel_rfl) Tryd.func7
  (ChangeSpec.witness_shaped (enc := enc) (C := Tryd.checked) (os := os) (X := fun w _ => laidMetH Tryd.prog Rows.integerGcdsRow.laid w) false (World.doorLaid Tryd.prog 62 os) #[.string ByteArray.empty, .string ByteArray.empty] 8 rfl (World.shaped_of_RefB (by kernel_rfl) (by kernel_rfl)) (by kernel_rfl) (by kernel_rfl) (by kernel_rfl) (door_met os _)) ?_
 intro W base args ds gs before hval0 hW _ hsz0 hL _
 have hsz : (DataW.weightsEach Tryd.prog (Tryd.f7.params.toList ++ Rows.integerGcdsSpec.plain.varTypes Tryd.prog) (ds ++ gs)).all (· ≤ reachBytes) = true := hsz0
 have hval : ∀ (j : Nat) t v, Tryd.f7.params[j]? = some t → args[j]? = some v → Value.okWide Tryd.prog W .any base t v := hval0
 have hW' := hW
 obtain ⟨p, q, hA0, hV, rfl, hfz, hnd⟩ := hW
 have hA : DataW.TrodAll enc Tryd.prog W 0 (fun _ => true) true Tryd.f7.params.toList args.toList ds p := hA0
 rw [Tryd.params7] at hA hval hsz
 obtain ⟨v0, vs0, d0, ds0, p0, q0, hargs, rfl, rfl, h0, r0⟩ := trodAll_cons hA
 obtain ⟨v1, vs1, d1, ds1, p1, q1, rfl, rfl, rfl, h1, r1⟩ := trodAll_cons r0
 obtain ⟨rfl, rfl, rfl⟩ := trodAll_nil r1
 obtain rfl : args = #[v0, v1] := by cases args; simp_all
 obtain ⟨rfl, rfl⟩ := trodVars_none hV
 obtain ⟨a0, rfl, rfl, rfl, y0⟩ := open_string Tryd.underlying9 (hval 0 9 v0 rfl rfl) h0
 have w0 : a0.size ≤ 140737488351232 := by
  have z := sized_string hsz (j := 0) (t := 9) rfl rfl
  rw [Array.length_toList] at z
  exact z
 obtain ⟨a1, rfl, rfl, rfl, y1⟩ := open_string Tryd.underlying9 (hval 1 9 v1 rfl rfl) h1
 have w1 : a1.size ≤ 140737488351232 := by
  have z := sized_string hsz (j := 1) (t := 9) rfl rfl
  rw [Array.length_toList] at z
  exact z
 clear hA0 hval0 hsz0 hsz
 refine (P.dowellaw01_IntegerGcds.walk Pure.IntegerGcds a0 a1 W (of_laid hL) w0 w1).mono fun e W' ⟨he, bel⟩ => ?_
 subst he
 exact ⟨_, rfl, _, _, _, [], _, [], hW', trodAll_mk1 (shut_bool Tryd.underlying4 _), (trodAll_cons_mk (shut_string Tryd.underlying9 y0) (trodAll_cons_mk (shut_string Tryd.underlying9 y1) trodAll_mk0)), rfl, bel.frame _, fun h => by cases h⟩
theorem row_holds : Rows.IntegerGcdsSaid :=
 OpenClaim.holds_of_wide 7 Tryd.f7 rfl rfl rfl rfl rfl rfl rfl ⟨rfl, rfl, rfl, rfl, rfl⟩ rfl rfl rfl rfl rfl (by kernel_rfl) Tryd.func7 (by kernel_rfl)
  (of_decide_eq_true (by kernel_rfl)) (by unfold Func.isWrapper; first | (rw [if_pos (by decide +kernel)]; kernel_rfl) | (rw [if_neg (by decide +kernel)]; exact ⟨rfl, rfl⟩))
  (fun os started H enc _ => lifted os started H enc)
end LawIntegerGcds
theorem integerGcds_card_holds : Rows.IntegerGcdsCardSaid :=
 Claim7.holds_tied_plain_at .later [] [.data, .data, .data, .sentinel, .sentinel] true (true, "b8e58543a529613f751f62c69502411f664b93e4867ff6487a7340db5e4f00b4") true
  LawIntegerGcds.row_holds (fun _ h => by cases h) (by kernel_rfl) (fun _ h => by cases h) integerGcds_row_tie rfl ⟨rfl, rfl⟩ (by kernel_rfl) rfl
  (fun f fn hf hfn => by
   obtain rfl : f = 7 := Option.some.inj ((show Tryd.prog.funcNamed "dowel/dowellaw01.IntegerGcds" = some 7 by kernel_rfl).symm.trans hf) |>.symm
   obtain rfl : fn = Tryd.f7 := (Option.some.inj (Tryd.func7.symm.trans hfn)).symm
   exact ⟨by kernel_rfl, fun j t ht => by
    rw [Tryd.params7] at ht
    have hm : t ∈ [9, 9] := by simpa using Array.mem_of_getElem? ht
    have hall : ([9, 9].all fun u => !Tryd.prog.wantsStandIn u) = true := by kernel_rfl
    exact (show Tryd.prog.wantsStandIn t = false by simpa using List.all_eq_true.1 hall t hm)⟩)
  (by kernel_rfl)
end Go.Proofs.YtiikfhdmclmjmaaDoor
