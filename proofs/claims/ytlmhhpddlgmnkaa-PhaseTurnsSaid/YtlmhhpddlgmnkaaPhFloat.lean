import Derived.Laws.FloatArith
import Derived.Laws.ComplexArith
namespace Go.Proofs.Ytlmhhpddlgmnkaa.Ph
open Ieee
set_option linter.unusedVariables false
set_option linter.unusedSimpArgs false
/-! Whole numbers below 2^53 as floats of 64 bits: what is read of their words, and that sums and products of them are theirs. -/
def dw (s : Bool) (n : Nat) : Nat := double.write (.number s n 0)
theorem log2_shift {n : Nat} (h : n ≠ 0) (c : Nat) : (n <<< c).log2 = n.log2 + c := by
  induction c with
  | zero => simp
  | succ c ih =>
    rw [Nat.shiftLeft_succ, Nat.log2_two_mul, ih]; omega
    rw [Nat.shiftLeft_eq]; exact Nat.mul_ne_zero h (Nat.ne_of_gt (Nat.two_pow_pos c))
theorem cut_shift (s : Bool) {n : Nat} (h : n ≠ 0) (d : Nat) : Toward.even.cut s (n <<< d) d = n := by
  have hm : min d ((n <<< d).log2 + 2) = d := by rw [log2_shift h]; omega
  have hp : 0 < 2 ^ d := Nat.two_pow_pos d
  simp only [Toward.cut, hm]
  rw [Nat.shiftLeft_eq 1 d, Nat.one_mul, Nat.shiftLeft_eq, Nat.mul_div_cancel _ hp, Nat.mul_mod_left]
  have h1 : ¬ (2 ^ d < 2 * 0) := by omega
  have h2 : (2 ^ d == 2 * 0) = false := by simp
  simp [h2]
theorem shift_shift (n a b : Nat) : (n <<< a) <<< b = n <<< (a + b) := by rw [Nat.shiftLeft_add]
theorem lp : double.leastPlace = -1074 := by decide
/-- The rung of a whole number. -/
def rung (n : Nat) : Nat := (n.log2 + 1022) * 2 ^ 52 + n <<< (52 - n.log2)
theorem norm_bd {n : Nat} (h : n ≠ 0) (h2 : n < 2 ^ 53) : n.log2 ≤ 52 ∧ 2 ^ 52 ≤ n <<< (52 - n.log2) ∧ n <<< (52 - n.log2) < 2 ^ 53 := by
  have hk : n.log2 < 53 := (Nat.log2_lt h).2 h2
  have h3 := Nat.log2_self_le h
  have h4 := @Nat.lt_log2_self n
  refine ⟨by omega, ?_, ?_⟩
  · rw [Nat.shiftLeft_eq]
    calc 2 ^ 52 = 2 ^ n.log2 * 2 ^ (52 - n.log2) := by rw [← Nat.pow_add]; congr 1; omega
      _ ≤ n * 2 ^ (52 - n.log2) := Nat.mul_le_mul_right _ h3
  · rw [Nat.shiftLeft_eq]
    calc n * 2 ^ (52 - n.log2) < 2 ^ (n.log2 + 1) * 2 ^ (52 - n.log2) := Nat.mul_lt_mul_of_pos_right h4 (Nat.two_pow_pos _)
      _ = 2 ^ 53 := by rw [← Nat.pow_add]; congr 1; omega
theorem nearest_shift (s : Bool) {n : Nat} (h : n ≠ 0) (h2 : n < 2 ^ 53) (c : Nat) : double.nearest s (n <<< c) (-(c : Int)) = double.word s (rung n) := by
  obtain ⟨hk, hl, hu⟩ := norm_bd h h2
  have hne : n <<< c ≠ 0 := by rw [Nat.shiftLeft_eq]; exact Nat.mul_ne_zero h (Nat.ne_of_gt (Nat.two_pow_pos c))
  unfold Format.nearest
  rw [if_neg hne, lp, log2_shift h]
  have hlast : max (-(c : Int) + ((n.log2 + c : Nat) : Int) - (double.fractionBits : Int)) (-1074) = (n.log2 : Int) - 52 := by
    have : double.fractionBits = 52 := rfl
    rw [this]; omega
  rw [hlast]
  have hkept : Toward.even.cut s ((n <<< c) <<< (-(c : Int) - ((n.log2 : Int) - 52)).toNat) ((n.log2 : Int) - 52 - -(c : Int)).toNat = n <<< (52 - n.log2) := by
    rcases Nat.lt_or_ge (n.log2 + c) 52 with h5 | h5
    · rw [show ((n.log2 : Int) - 52 - -(c : Int)).toNat = 0 by omega, shift_shift, show c + (-(c : Int) - ((n.log2 : Int) - 52)).toNat = 52 - n.log2 by omega]
      have e := cut_shift s (n := n <<< (52 - n.log2)) (by omega) 0
      simpa using e
    · rw [show (-(c : Int) - ((n.log2 : Int) - 52)).toNat = 0 by omega, show ((n.log2 : Int) - 52 - -(c : Int)).toNat = n.log2 + c - 52 by omega, shift_shift, show c + 0 = (52 - n.log2) + (n.log2 + c - 52) by omega, ← shift_shift]
      exact cut_shift s (by omega) _
  dsimp only
  rw [hkept]
  have hb : double.binade = 2 ^ 52 := rfl
  have hi : double.infRung = 2047 * 2 ^ 52 := rfl
  rw [hb, hi, show ((n.log2 : Int) - 52 - -1074).toNat = n.log2 + 1022 by omega]
  congr 1
  unfold rung
  omega
theorem dw_zero (s : Bool) : dw s 0 = double.word s 0 := rfl
theorem dw_pos (s : Bool) {n : Nat} (h : n ≠ 0) (h2 : n < 2 ^ 53) : dw s n = double.word s (rung n) := by
  have := nearest_shift s h h2 0
  simpa [dw, Format.write] using this
/-- What is written of a whole number at any scale is its word. -/
theorem write_shift (s : Bool) {n : Nat} (h2 : n < 2 ^ 53) (c : Nat) : double.write (.number s (n <<< c) (-(c : Int))) = dw s n := by
  by_cases h : n = 0
  · subst h; simp [dw, Format.write, Format.nearest]
  · rw [dw_pos s h h2]; exact nearest_shift s h h2 c
/-- The scale at which a whole number is read. -/
def sc (n : Nat) : Nat := if n = 0 then 1074 else 52 - n.log2
theorem read_word (s : Bool) {r : Nat} (h : r < 2 ^ 63) : double.read (double.word s r) = (if r < double.binade then .number s r double.leastPlace
    else if r < double.infRung then .number s (double.binade + r % double.binade) (double.leastPlace + (r / double.binade - 1 : Nat))
    else if r = double.infRung then .infinity s else .nan s (r - double.infRung)) := by
  have hw : double.signWeight = 2 ^ 63 := rfl
  have h1 : (double.word s r / double.signWeight % 2 == 1) = s := by
    unfold Format.word
    rw [hw]
    cases s
    · simp; omega
    · simp; omega
  have h2 : double.word s r % double.signWeight = r := by
    unfold Format.word
    rw [hw]
    cases s
    · simp; omega
    · simp; omega
  unfold Format.read
  rw [h1, h2]
theorem read_dw (s : Bool) {n : Nat} (h2 : n < 2 ^ 53) : double.read (dw s n) = .number s (n <<< sc n) (-(sc n : Int)) := by
  have hb : double.binade = 2 ^ 52 := rfl
  have hi : double.infRung = 2047 * 2 ^ 52 := rfl
  by_cases h : n = 0
  · subst h
    have e := read_word s (r := 0) (Nat.two_pow_pos _)
    rw [hb, if_pos (Nat.two_pow_pos _), lp] at e
    have hsc : (-((sc 0 : Nat) : Int)) = -1074 := by unfold sc; rw [if_pos rfl]; omega
    rw [hsc]
    rw [Nat.zero_shiftLeft]
    rw [dw_zero]
    exact e
  · obtain ⟨hk, hl, hu⟩ := norm_bd h h2
    have hr : rung n = (n.log2 + 1023) * 2 ^ 52 + (n <<< (52 - n.log2) - 2 ^ 52) := by unfold rung; omega
    have hd : rung n / 2 ^ 52 = n.log2 + 1023 := by omega
    have hm : rung n % 2 ^ 52 = n <<< (52 - n.log2) - 2 ^ 52 := by omega
    rw [dw_pos s h h2, read_word s (by omega), hb, hi, if_neg (by omega), if_pos (by omega), hd, hm, lp]
    unfold sc
    rw [if_neg h]
    rw [show 2 ^ 52 + (n <<< (52 - n.log2) - 2 ^ 52) = n <<< (52 - n.log2) by omega, show (-1074 : Int) + ((n.log2 + 1023 - 1 : Nat) : Int) = -((52 - n.log2 : Nat) : Int) by omega]
/-- b is a float that is the whole number n. -/
def FR (b : Nat) (n : Int) : Prop := n.natAbs < 2 ^ 53 ∧ ∃ s : Bool, b = dw s n.natAbs ∧ (n ≠ 0 → s = decide (n < 0))
theorem fr_read {b : Nat} {n : Int} (h : FR b n) : ∃ (s : Bool) (m c : Nat), double.read b = .number s m (-(c : Int)) ∧ m = n.natAbs <<< c ∧ (n ≠ 0 → s = decide (n < 0)) ∧ signed s m 0 = n * 2 ^ c := by
  obtain ⟨h1, s, rfl, h2⟩ := h
  refine ⟨s, n.natAbs <<< sc n.natAbs, sc n.natAbs, read_dw s h1, rfl, h2, ?_⟩
  by_cases h0 : n = 0
  · subst h0
    rw [show Int.natAbs 0 = 0 from rfl, Nat.zero_shiftLeft]
    cases s <;> simp [signed]
  · have e := h2 h0
    subst e
    unfold signed
    rw [Nat.shiftLeft_zero, Nat.shiftLeft_eq]
    by_cases hn : n < 0
    · simp only [hn, decide_true, if_true]
      rw [Int.natCast_mul, Int.natCast_pow]
      rw [show ((n.natAbs : Nat) : Int) = -n by omega]
      simp [Int.neg_mul]
    · simp only [hn, decide_false]
      rw [show (if false = true then -((n.natAbs * 2 ^ sc n.natAbs : Nat) : Int) else ((n.natAbs * 2 ^ sc n.natAbs : Nat) : Int)) = ((n.natAbs * 2 ^ sc n.natAbs : Nat) : Int) from rfl, Int.natCast_mul, Int.natCast_pow, show ((n.natAbs : Nat) : Int) = n by omega]
      rfl
theorem signed_shift (s : Bool) (m k : Nat) : signed s m k = signed s m 0 * 2 ^ k := by
  unfold signed
  rw [Nat.shiftLeft_zero, Nat.shiftLeft_eq]
  cases s <;> simp [Int.neg_mul]
theorem abs_pow (n : Int) (k : Nat) : (n * 2 ^ k).natAbs = n.natAbs <<< k := by
  rw [Int.natAbs_mul, Nat.shiftLeft_eq, Int.natAbs_pow]; rfl
theorem neg_pow {n : Int} {k : Nat} : n * 2 ^ k < 0 ↔ n < 0 := by
  have hp : (0 : Int) < 2 ^ k := Int.pow_pos (by omega)
  constructor
  · intro h
    rcases Int.lt_or_le n 0 with h1 | h1
    · exact h1
    · have := Int.mul_nonneg h1 (Int.le_of_lt hp); omega
  · intro h; exact Int.mul_neg_of_neg_of_pos h hp
theorem zero_pow {n : Int} {k : Nat} : n * 2 ^ k = 0 ↔ n = 0 := by
  have hp : (2 : Int) ^ k ≠ 0 := Int.ne_of_gt (Int.pow_pos (by omega))
  constructor
  · intro h
    rcases Int.mul_eq_zero.1 h with h1 | h1
    · exact h1
    · exact absurd h1 hp
  · rintro rfl; simp
/-- The sum of two that are read, one of them turned or not. -/
theorem sum_read {s t : Bool} {m k c d : Nat} {a b : Int} (ha : signed s m 0 = a * 2 ^ c) (hb : signed t k 0 = b * 2 ^ d) (hs : (a + b).natAbs < 2 ^ 53) :
    ∃ r, ((Datum.number s m (-(c : Int))).sum (.number t k (-(d : Int)))).map double.write = some r ∧ FR r (a + b) := by
  obtain ⟨e, he⟩ : ∃ e : Nat, e = max c d := ⟨_, rfl⟩
  have hbase : min (-(c : Int)) (-(d : Int)) = -(e : Int) := by omega
  have h1 : (-(c : Int) - -(e : Int)).toNat = e - c := by omega
  have h2 : (-(d : Int) - -(e : Int)).toNat = e - d := by omega
  have hc : c + (e - c) = e := by omega
  have hd : d + (e - d) = e := by omega
  have htot : signed s m (e - c) + signed t k (e - d) = (a + b) * 2 ^ e := by
    rw [signed_shift s m, signed_shift t k, ha, hb, Int.mul_assoc, Int.mul_assoc, ← Int.pow_add, ← Int.pow_add, hc, hd, ← Int.add_mul]
  refine ⟨dw (if a + b = 0 then s && t else decide (a + b < 0)) (a + b).natAbs, ?_, hs, _, rfl, fun h => by rw [if_neg h]⟩
  simp only [Datum.sum, hbase, h1, h2, htot, Option.map_some]
  rw [abs_pow, write_shift _ hs]
  congr 2
  by_cases h0 : a + b = 0
  · rw [if_pos h0, if_pos (zero_pow.2 h0)]
  · rw [if_neg h0, if_neg (fun h => h0 (zero_pow.1 h))]
    simp only [neg_pow]
theorem fr_add {x y : Nat} {a b : Int} (hx : FR x a) (hy : FR y b) (hs : (a + b).natAbs < 2 ^ 53) : ∃ r, double.add x y = some r ∧ FR r (a + b) := by
  obtain ⟨s, m, c, r1, _, _, v1⟩ := fr_read hx
  obtain ⟨t, k, d, r2, _, _, v2⟩ := fr_read hy
  obtain ⟨r, h1, h2⟩ := sum_read v1 v2 hs
  exact ⟨r, by rw [Format.add, r1, r2]; exact h1, h2⟩
theorem signed_not (s : Bool) (m k : Nat) : signed (!s) m k = -signed s m k := by cases s <;> simp [signed]
theorem fr_sub {x y : Nat} {a b : Int} (hx : FR x a) (hy : FR y b) (hs : (a - b).natAbs < 2 ^ 53) : ∃ r, double.sub x y = some r ∧ FR r (a - b) := by
  obtain ⟨s, m, c, r1, _, _, v1⟩ := fr_read hx
  obtain ⟨t, k, d, r2, _, _, v2⟩ := fr_read hy
  obtain ⟨r, h1, h2⟩ := sum_read (a := a) (b := -b) (t := !t) v1 (by rw [signed_not, v2, Int.neg_mul]) (by omega)
  exact ⟨r, by rw [Format.sub, r1, r2]; exact h1, h2⟩
theorem fr_mul {x y : Nat} {a b : Int} (hx : FR x a) (hy : FR y b) (hs : (a * b).natAbs < 2 ^ 53) : ∃ r, double.mul x y = some r ∧ FR r (a * b) := by
  obtain ⟨s, m, c, r1, m1, s1, _⟩ := fr_read hx
  obtain ⟨t, k, d, r2, m2, s2, _⟩ := fr_read hy
  have hp : (m * k) = (a * b).natAbs <<< (c + d) := by
    rw [m1, m2, Int.natAbs_mul, Nat.shiftLeft_eq, Nat.shiftLeft_eq, Nat.shiftLeft_eq, Nat.pow_add]
    ac_rfl
  refine ⟨dw (s ^^ t) (a * b).natAbs, ?_, hs, _, rfl, fun h => ?_⟩
  · rw [Format.mul, r1, r2]
    simp only [Datum.product, Option.map_some]
    rw [hp, show -(c : Int) + -(d : Int) = -((c + d : Nat) : Int) by omega, write_shift _ hs]
  · have ha : a ≠ 0 := fun e => h (by rw [e, Int.zero_mul])
    have hb : b ≠ 0 := fun e => h (by rw [e, Int.mul_zero])
    rw [s1 ha, s2 hb]
    rcases Int.lt_or_gt_of_ne ha with h1 | h1 <;> rcases Int.lt_or_gt_of_ne hb with h2 | h2
    · have := Int.mul_pos_of_neg_of_neg h1 h2
      simp [h1, h2]; omega
    · have := Int.mul_neg_of_neg_of_pos h1 h2
      rw [decide_eq_true h1, decide_eq_false (by omega), decide_eq_true this]; rfl
    · have := Int.mul_neg_of_pos_of_neg h1 h2
      rw [decide_eq_true h2, decide_eq_false (by omega), decide_eq_true this]; rfl
    · have := Int.mul_pos h1 h2
      rw [decide_eq_false (by omega), decide_eq_false (by omega), decide_eq_false (by omega)]; rfl
theorem fr_order {x y : Nat} {a b : Int} (hx : FR x a) (hy : FR y b) : double.order x y = some (compare a b) := by
  obtain ⟨s, m, c, r1, _, _, v1⟩ := fr_read hx
  obtain ⟨t, k, d, r2, _, _, v2⟩ := fr_read hy
  obtain ⟨e, he⟩ : ∃ e : Nat, e = max c d := ⟨_, rfl⟩
  have hbase : min (-(c : Int)) (-(d : Int)) = -(e : Int) := by omega
  have h1 : (-(c : Int) - -(e : Int)).toNat = e - c := by omega
  have h2 : (-(d : Int) - -(e : Int)).toNat = e - d := by omega
  have hc : c + (e - c) = e := by omega
  have hd : d + (e - d) = e := by omega
  have hp : (0 : Int) < 2 ^ e := Int.pow_pos (by omega)
  rw [Format.order, r1, r2]
  simp only [Datum.order, hbase, h1, h2]
  rw [signed_shift s m, signed_shift t k, v1, v2, Int.mul_assoc, Int.mul_assoc, ← Int.pow_add, ← Int.pow_add, hc, hd]
  have key : ∀ x y : Int, compare x y = if x < y then .lt else if x = y then .eq else .gt := fun _ _ => rfl
  have e1 : a * 2 ^ e < b * 2 ^ e ↔ a < b := ⟨fun h => Int.lt_of_mul_lt_mul_right h (Int.le_of_lt hp), fun h => Int.mul_lt_mul_of_pos_right h hp⟩
  have e2 : a * 2 ^ e = b * 2 ^ e ↔ a = b := ⟨fun h => Int.eq_of_mul_eq_mul_right (Int.ne_of_gt hp) h, fun h => by rw [h]⟩
  rw [key, key]
  simp only [e1, e2]
theorem fr_int {x : Nat} {a : Int} (hx : FR x a) : (double.read x).toInt .zero = some a := by
  obtain ⟨s, m, c, r1, m1, s1, v1⟩ := fr_read hx
  rw [r1]
  simp only [Datum.toInt, Datum.integral]
  have e1 : (-(c : Int)).toNat = 0 := by omega
  have e2 : (- -(c : Int)).toNat = c := by omega
  rw [e1, e2, Nat.shiftLeft_zero]
  by_cases h0 : a = 0
  · subst h0
    have : m = 0 := by rw [m1]; exact Nat.zero_shiftLeft _
    subst this
    have : Toward.zero.cut s 0 c = 0 := by simp [Toward.cut]
    rw [this]
    cases s <;> rfl
  · have hn : a.natAbs ≠ 0 := by omega
    have hcut : Toward.zero.cut s m c = a.natAbs := by
      rw [m1]
      have hm : min c ((a.natAbs <<< c).log2 + 2) = c := by rw [log2_shift hn]; omega
      have hp : 0 < 2 ^ c := Nat.two_pow_pos c
      simp only [Toward.cut, hm]
      rw [Nat.shiftLeft_eq 1 c, Nat.one_mul, Nat.shiftLeft_eq, Nat.mul_div_cancel _ hp]
      rfl
    rw [hcut, s1 h0]
    unfold signed
    rw [Nat.shiftLeft_zero]
    by_cases hn : a < 0
    · simp only [hn, decide_true, if_true]; congr 1; omega
    · simp only [hn, decide_false]; congr 1; show ((a.natAbs : Nat) : Int) = a; omega
theorem fr_of {n : Int} (h : n.natAbs < 2 ^ 53) : FR (double.write (.number (n < 0) n.natAbs 0)) n := ⟨h, _, rfl, fun _ => rfl⟩
end Go.Proofs.Ytlmhhpddlgmnkaa.Ph
