import Derived.RowKit
/- Days of the calendar, in whole numbers: closed forms. -/
namespace Go.Proofs.Ytdbaeigbejcobaa.Cal
open Go.RowKit
set_option linter.unusedVariables false
def lp (y : Int) : Int := if (y % 4 = 0 ∧ ¬ y % 100 = 0) ∨ y % 400 = 0 then 1 else 0
/-- The number of a year's first day. -/
def fst (y : Int) : Int := 365 * (y - 1970) + ((y - 1) / 4 - (y - 1) / 100 + (y - 1) / 400) - 477
theorem lp_01 (y : Int) : 0 ≤ lp y ∧ lp y ≤ 1 := by unfold lp; split <;> omega
theorem fst_succ (y : Int) : fst (y + 1) = fst y + 365 + lp y := by
  unfold fst lp
  split <;> omega
theorem fst_1970 : fst 1970 = 0 := by decide
theorem fst_mono {a b : Int} (h : a ≤ b) : fst a ≤ fst b := by unfold fst; omega
theorem fst_lt {a b : Int} (h : a < b) : fst a + 365 ≤ fst b := by
  have := fst_succ a
  have := lp_01 a
  have := fst_mono (a := a + 1) (b := b) (by omega)
  omega
/-- How many days a month has. -/
def dim (y m : Int) : Int := if m = 2 then 28 + lp y else 30 + (m + m / 8) % 2
/-- How many days of the year are ahead of a month. -/
def cum (y m : Int) : Int := if m ≤ 1 then 0 else if m = 2 then 31 else (153 * (m - 3) + 2) / 5 + 59 + lp y
theorem dim_bd {y m : Int} (h1 : 1 ≤ m) (h2 : m ≤ 12) : 28 ≤ dim y m ∧ dim y m ≤ 31 := by
  have := lp_01 y
  unfold dim; split <;> omega
theorem cum_succ {y m : Int} (h1 : 1 ≤ m) (h2 : m ≤ 12) : cum y (m + 1) = cum y m + dim y m := by
  have h : m = 1 ∨ m = 2 ∨ m = 3 ∨ m = 4 ∨ m = 5 ∨ m = 6 ∨ m = 7 ∨ m = 8 ∨ m = 9 ∨ m = 10 ∨ m = 11 ∨ m = 12 := by omega
  rcases h with rfl | rfl | rfl | rfl | rfl | rfl | rfl | rfl | rfl | rfl | rfl | rfl <;> simp [cum, dim] <;> omega
theorem cum_13 (y : Int) : cum y 13 = 365 + lp y := by simp [cum]
theorem cum_1 (y : Int) : cum y 1 = 0 := by simp [cum]
theorem cum_mono {y m k : Int} (h0 : 1 ≤ m) (h : m ≤ k) (hk : k ≤ 13) : cum y m ≤ cum y k := by
  have := lp_01 y
  unfold cum
  (repeat' split) <;> omega
/-- A day's number. -/
def num (y m d : Int) : Int := fst y + cum y m + d - 1
def Vld (y m d : Int) : Prop := (1 ≤ y ∧ y ≤ 9999) ∧ (1 ≤ m ∧ m ≤ 12) ∧ 1 ≤ d ∧ d ≤ dim y m
instance (y m d : Int) : Decidable (Vld y m d) := by unfold Vld; exact inferInstance
theorem num_year {y m d : Int} (h : Vld y m d) : fst y ≤ num y m d ∧ num y m d < fst (y + 1) := by
  obtain ⟨_, ⟨h1, h2⟩, h3, h4⟩ := h
  have a := cum_mono (y := y) (m := 1) (k := m) (by omega) h1 (by omega)
  have b := cum_mono (y := y) (m := m + 1) (k := 13) (by omega) (by omega) (by omega)
  have c := cum_succ (y := y) h1 h2
  have e := fst_succ y
  rw [cum_1] at a
  rw [cum_13] at b
  unfold num; omega
/-- A number is that of one day alone. -/
theorem num_inj {y m d y' m' d' : Int} (h : Vld y m d) (h' : Vld y' m' d') (e : num y m d = num y' m' d') : y = y' ∧ m = m' ∧ d = d' := by
  have a := num_year h
  have b := num_year h'
  have hy : y = y' := by
    rcases Int.lt_trichotomy y y' with c | c | c
    · have := fst_mono (a := y + 1) (b := y') (by omega); omega
    · exact c
    · have := fst_mono (a := y' + 1) (b := y) (by omega); omega
  subst hy
  obtain ⟨_, ⟨h1, h2⟩, h3, h4⟩ := h
  obtain ⟨_, ⟨g1, g2⟩, g3, g4⟩ := h'
  have c1 := cum_succ (y := y) h1 h2
  have c2 := cum_succ (y := y) g1 g2
  unfold num at e
  have hm : m = m' := by
    rcases Int.lt_trichotomy m m' with c | c | c
    · have := cum_mono (y := y) (m := m + 1) (k := m') (by omega) (by omega) (by omega); omega
    · exact c
    · have := cum_mono (y := y) (m := m' + 1) (k := m) (by omega) (by omega) (by omega); omega
  subst hm
  exact ⟨rfl, rfl, by omega⟩

/-- A day's number, of years that begin with March. -/
theorem num_march {y m d : Int} (hy : 1 ≤ y) (h1 : 1 ≤ m) (h2 : m ≤ 12) :
    num y m d = if m ≤ 2 then (y - 1) / 400 * 146097 + (y - 1) % 400 * 365 + (y - 1) % 400 / 4 - (y - 1) % 400 / 100 + ((153 * (m + 12 - 3) + 2) / 5 + d - 1) - 719468 else y / 400 * 146097 + y % 400 * 365 + y % 400 / 4 - y % 400 / 100 + ((153 * (m - 3) + 2) / 5 + d - 1) - 719468 := by
  split
  · have h : m = 1 ∨ m = 2 := by omega
    rcases h with rfl | rfl <;> simp [num, cum, fst] <;> omega
  · have e : cum y m = (153 * (m - 3) + 2) / 5 + 59 + lp y := by unfold cum; rw [if_neg (by omega), if_neg (by omega)]
    have e2 := fst_succ y
    unfold num
    rw [e]
    have e3 : fst y = fst (y + 1) - 365 - lp y := by omega
    rw [e3]
    unfold fst
    omega
/-- The year of a day of 400 years that begin with March. -/
def yoe (i : Int) : Int := (i - i / 1460 + i / 36524 - i / 146096) / 365
theorem yoe_ok {i : Int} (h0 : 0 ≤ i) (h1 : i < 146097) : 0 ≤ yoe i ∧ yoe i ≤ 399 ∧ 365 * yoe i + yoe i / 4 - yoe i / 100 ≤ i ∧ i < 365 * (yoe i + 1) + (yoe i + 1) / 4 - (yoe i + 1) / 100 + (if yoe i = 399 then 1 else 0) := by
  by_cases hl : i = 146096
  · subst hl; decide
  · obtain ⟨c, a, r, hc0, hc1, ha0, ha1, hr0, hr1, hi, hj⟩ : ∃ c a r : Int, 0 ≤ c ∧ c ≤ 3 ∧ 0 ≤ a ∧ a ≤ 24 ∧ 0 ≤ r ∧ r ≤ 1460 ∧ i = 36524 * c + 1461 * a + r ∧ 1461 * a + r < 36524 :=
      ⟨i / 36524, i % 36524 / 1461, i % 36524 % 1461, by omega, by omega, by omega, by omega, by omega, by omega, by omega, by omega⟩
    have h1 : i / 36524 = c := by omega
    have h2 : i / 146096 = 0 := by omega
    have h3 : i / 1460 = 25 * c + a ∨ (i / 1460 = 25 * c + a + 1 ∧ 1364 ≤ r) := by omega
    obtain ⟨t, ht0, ht1, ht2, ht3⟩ : ∃ t : Int, 0 ≤ t ∧ t ≤ 3 ∧ 365 * t ≤ r ∧ (r < 365 * (t + 1) ∨ t = 3) := by
      by_cases b1 : r < 365
      · exact ⟨0, by omega, by omega, by omega, by omega⟩
      · by_cases b2 : r < 730
        · exact ⟨1, by omega, by omega, by omega, by omega⟩
        · by_cases b3 : r < 1095
          · exact ⟨2, by omega, by omega, by omega, by omega⟩
          · exact ⟨3, by omega, by omega, by omega, by omega⟩
    have hy : yoe i = 100 * c + 4 * a + t := by
      unfold yoe
      rw [h1, h2]
      rcases h3 with h3 | ⟨h3, h4⟩ <;> rw [h3] <;> omega
    rw [hy]
    have e1 : (100 * c + 4 * a + t) / 4 = 25 * c + a := by omega
    have e2 : (100 * c + 4 * a + t) / 100 = c := by omega
    have e3 : (100 * c + 4 * a + t + 1) / 4 = 25 * c + a + (if t = 3 then 1 else 0) := by split <;> omega
    have e4 : (100 * c + 4 * a + t + 1) / 100 = c + (if a = 24 ∧ t = 3 then 1 else 0) := by split <;> omega
    rw [e1, e2, e3, e4]
    refine ⟨by omega, by omega, by omega, ?_⟩
    (repeat' split) <;> omega
end Go.Proofs.Ytdbaeigbejcobaa.Cal
