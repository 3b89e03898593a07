namespace Go.Proofs.Ytdbaeigbejcobaa.Dl
set_option linter.unusedVariables false
/-! Least common multiples of periods. -/
def lc (z : Nat → Nat) : Nat → Nat
  | 0 => 1
  | i + 1 => Nat.lcm (lc z i) (z i)
theorem lc_pos {z : Nat → Nat} {n : Nat} (h : ∀ i, i < n → 0 < z i) (i : Nat) (hi : i ≤ n) : 0 < lc z i := by
  induction i with
  | zero => exact Nat.one_pos
  | succ i ih => exact Nat.lcm_pos (ih (by omega)) (h i (by omega))
theorem lc_mono {z : Nat → Nat} {n : Nat} (h : ∀ i, i < n → 0 < z i) (i : Nat) (hi : i < n) : lc z i ≤ lc z (i + 1) :=
  Nat.le_of_dvd (lc_pos h (i + 1) (by omega)) (Nat.dvd_lcm_left _ _)
theorem lc_le {z : Nat → Nat} {n : Nat} (h : ∀ i, i < n → 0 < z i) (i : Nat) (hi : i ≤ n) : lc z i ≤ lc z n := by
  induction n with
  | zero =>
    obtain rfl : i = 0 := by omega
    exact Nat.le_refl _
  | succ n ih =>
    rcases Nat.lt_or_ge i (n + 1) with h1 | h1
    · exact Nat.le_trans (ih (fun j hj => h j (by omega)) (by omega)) (lc_mono h n (by omega))
    · obtain rfl : i = n + 1 := by omega
      exact Nat.le_refl _
theorem lc_dvd {z : Nat → Nat} (n i : Nat) (hi : i < n) : z i ∣ lc z n := by
  induction n with
  | zero => omega
  | succ n ih =>
    rcases Nat.lt_or_ge i n with h1 | h1
    · exact Nat.dvd_trans (ih h1) (Nat.dvd_lcm_left _ _)
    · obtain rfl : i = n := by omega
      exact Nat.dvd_lcm_right _ _
theorem lc_least {z : Nat → Nat} (n k : Nat) (h : ∀ i, i < n → z i ∣ k) : lc z n ∣ k := by
  induction n with
  | zero => exact Nat.one_dvd k
  | succ n ih => exact Nat.lcm_dvd (ih fun i hi => h i (by omega)) (h n (by omega))
/-- n / gcd(n, p) * p is the least common multiple. -/
theorem lcm_step (n p : Nat) : n / Nat.gcd n p * p = Nat.lcm n p := by
  rw [Nat.lcm, Nat.div_mul_right_comm (Nat.gcd_dvd_left n p)]
/-- What all jobs of k ticks cost, of the first i tasks. -/
def cost (P C : Nat → Int) (k : Int) : Nat → Int
  | 0 => 0
  | i + 1 => cost P C k i + k / P i * C i
theorem cost_bd {P C : Nat → Int} {k : Int} {n : Nat} (hk : 0 ≤ k) (h : ∀ i, i < n → 1 ≤ P i ∧ 0 ≤ C i ∧ C i ≤ P i) (i : Nat) (hi : i ≤ n) : 0 ≤ cost P C k i ∧ cost P C k i ≤ i * k := by
  induction i with
  | zero => simp [cost]
  | succ i ih =>
    have h1 := ih (by omega)
    obtain ⟨p1, c0, c1⟩ := h i (by omega)
    have q0 := Int.ediv_nonneg hk (show 0 ≤ P i by omega)
    have q1 := Int.mul_nonneg q0 c0
    have q2 : k / P i * C i ≤ k / P i * P i := Int.mul_le_mul_of_nonneg_left c1 q0
    have q3 := Int.ediv_mul_le k (b := P i) (by omega)
    have e : ((i + 1 : Nat) : Int) * k = i * k + k := by rw [Int.natCast_succ, Int.add_mul]; omega
    show 0 ≤ cost P C k i + k / P i * C i ∧ cost P C k i + k / P i * C i ≤ ((i + 1 : Nat) : Int) * k
    rw [e]
    omega
end Go.Proofs.Ytdbaeigbejcobaa.Dl
