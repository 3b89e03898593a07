import Derived.RowKit
/- Plain facts on whole numbers for the laws of drift: products within bounds, quotients rounded down, a sum's step. -/
namespace Go.Proofs.Ytapebhefbokcfaa.DMath
open Go.RowKit

theorem w64 {x : Int} (h1 : -9223372036854775808 ≤ x) (h2 : x ≤ 9223372036854775807) : wrap64 x = x := by unfold wrap64; omega

theorem mul_bd {t r : Int} (B R : Int) (h1 : -B ≤ t) (h2 : t ≤ B) (h3 : -R ≤ r) (h4 : r ≤ R) : -(B * R) ≤ t * r ∧ t * r ≤ B * R := by
  have hB : t.natAbs ≤ B.toNat := by omega
  have hR : r.natAbs ≤ R.toNat := by omega
  have h := Nat.mul_le_mul hB hR
  rw [← Int.natAbs_mul] at h
  have e : ((B.toNat * R.toNat : Nat) : Int) = B * R := by
    rw [Int.natCast_mul, Int.toNat_of_nonneg (by omega), Int.toNat_of_nonneg (by omega)]
  omega

/-- A quotient cut toward zero, and then one less where something below 0 is left, is the quotient rounded down. -/
theorem floor_eq (a b : Int) (hb : 0 < b) : (if Int.tmod a b < 0 then Int.tdiv a b - 1 else Int.tdiv a b) = a / b := by
  have h1 := Int.mul_tdiv_add_tmod a b
  have h2 := Int.tmod_lt_of_pos a hb
  have h3 := Int.lt_tmod_of_pos a hb
  split
  · rename_i h
    exact ((Int.ediv_emod_unique (r := Int.tmod a b + b) hb).2 ⟨by grind, by omega, by omega⟩).1.symm
  · exact ((Int.ediv_emod_unique (r := Int.tmod a b) hb).2 ⟨by omega, by omega, by omega⟩).1.symm

theorem tdiv_bd (a b : Int) (B : Int) (h1 : -B ≤ a) (h2 : a ≤ B) : -B ≤ Int.tdiv a b ∧ Int.tdiv a b ≤ B := by
  have h := Int.natAbs_tdiv a b
  have h' : a.natAbs.div b.natAbs ≤ a.natAbs := Nat.div_le_self _ _
  omega

def W : Int := 1000000000
/-- The far time of a near one. -/
def F (a f r n : Int) : Int := f + (n - a) + ((n - a) * r) / 1000000000
def Rt (a f r : Int) : Prop := -500000 ≤ r ∧ r ≤ 500000 ∧ -1099511627776 ≤ a ∧ a ≤ 1099511627776 ∧ -1099511627776 ≤ f ∧ f ≤ 1099511627776
instance (a f r : Int) : Decidable (Rt a f r) := by unfold Rt; exact inferInstance
def cl (n : Int) : Int := if 1099511627776 < n then 1099511627776 else if n < -1099511627776 then -1099511627776 else n

theorem parts_eq (d r : Int) : (d / 1000000000) * r + ((d - (d / 1000000000) * 1000000000) * r) / 1000000000 = (d * r) / 1000000000 := by
  have e : d * r = (d - (d / 1000000000) * 1000000000) * r + 1000000000 * ((d / 1000000000) * r) := by grind
  rw [e, Int.add_mul_ediv_left _ _ (by decide)]
  omega

theorem F_eq (a f r n : Int) : F a f r n = f + ((n - a) * (1000000000 + r)) / 1000000000 := by
  unfold F
  have e : (n - a) * (1000000000 + r) = (n - a) * r + 1000000000 * (n - a) := by grind
  rw [e, Int.add_mul_ediv_left _ _ (by decide)]
  omega

theorem F_step (a f r n : Int) (h1 : -500000 ≤ r) (h2 : r ≤ 500000) : F a f r n ≤ F a f r (n + 1) ∧ F a f r n + 1 ≤ F a f r (n + 2) := by
  rw [F_eq, F_eq, F_eq]
  have e1 : (n + 1 - a) * (1000000000 + r) = (n - a) * (1000000000 + r) + (1000000000 + r) := by grind
  have e2 : (n + 2 - a) * (1000000000 + r) = (n - a) * (1000000000 + r) + 2 * (1000000000 + r) := by grind
  rw [e1, e2]
  generalize (n - a) * (1000000000 + r) = x
  omega

theorem F_mono (a f r : Int) (h1 : -500000 ≤ r) (h2 : r ≤ 500000) {n m : Int} (h : n ≤ m) : F a f r n ≤ F a f r m := by
  rw [F_eq, F_eq]
  have e : (n - a) * (1000000000 + r) ≤ (m - a) * (1000000000 + r) := Int.mul_le_mul_of_nonneg_right (by omega) (by omega)
  have := Int.ediv_le_ediv (c := 1000000000) (by decide) e
  omega

/-- The far time is not far from the near one. -/
theorem F_bd (a f r n : Int) (h : Rt a f r) (hn : -8796093022208 ≤ n) (hn' : n ≤ 8796093022208) : -13194139533312 ≤ F a f r n ∧ F a f r n ≤ 13194139533312 := by
  obtain ⟨h1, h2, h3, h4, h5, h6⟩ := h
  unfold F
  have := mul_bd 9895604649984 500000 (t := n - a) (r := r) (by omega) (by omega) h1 h2
  generalize (n - a) * r = x at *
  omega

end Go.Proofs.Ytapebhefbokcfaa.DMath
