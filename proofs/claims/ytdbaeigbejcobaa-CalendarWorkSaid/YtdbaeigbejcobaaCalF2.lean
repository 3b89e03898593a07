import Derived.Test.YtdbaeigbejcobaaCalF
namespace Go.Proofs.Ytdbaeigbejcobaa.Cal
open Go.RowKit Go.Proofs.Ytdbaeigbejcobaa.PCalendarWork Go.Proofs.YtdbaeigbejcobaaW.PrintWords
set_option linter.unusedVariables false
set_option linter.unusedSimpArgs false
theorem rlong_f {y : Int} (hy : 1 ≤ y) : fuseeref07_Long.f y = some (decide (lp y = 1)) := by
  unfold fuseeref07_Long.f lp
  simp (disch := omega) only [tm]
  (repeat' split) <;> simp <;> omega
theorem ryear_f {y : Int} (hy : 1 ≤ y) : fuseeref07_year.f y = some (365 + lp y) := by
  have l := lp_01 y
  unfold fuseeref07_year.f
  rw [rlong_f hy]
  simp only [Option.bind_some, decide_eq_true_eq]
  by_cases h : lp y = 1
  · rw [if_pos h, h]; rfl
  · rw [if_neg h, show lp y = 0 by omega]; rfl
theorem fst_bd {y : Int} (h1 : 0 ≤ y) (h2 : y ≤ 20000) : -1000000 ≤ fst y ∧ fst y ≤ 10000000 := by unfold fst; omega
theorem first_l1 {y : Int} (hy : 1 ≤ y) (d : Nat) : ∀ (k : Nat) (x : Int), x + 1 - y = d → x ≤ 1969 → d < k → fuseeref07_First.l1 k y (fst (x + 1)) x = some (fst y) := by
  induction d with
  | zero =>
    intro k x hd hx hk
    obtain ⟨k, rfl⟩ : ∃ m, k = m + 1 := ⟨k - 1, by omega⟩
    simp only [fuseeref07_First.l1]
    rw [if_neg (by omega), show x + 1 = y by omega]
  | succ d ih =>
    intro k x hd hx hk
    obtain ⟨k, rfl⟩ : ∃ m, k = m + 1 := ⟨k - 1, by omega⟩
    simp only [fuseeref07_First.l1]
    have hs := fst_succ x
    have hb := fst_bd (y := x + 1) (by omega) (by omega)
    have l := lp_01 x
    rw [if_pos (by omega), ryear_f (by omega)]
    simp only [Option.bind_some]
    rw [w64 (by omega) (by omega), w64 (by omega) (by omega), show fst (x + 1) - (365 + lp x) = fst (x - 1 + 1) by rw [show x - 1 + 1 = x by omega]; omega]
    exact ih k (x - 1) (by omega) (by omega) (by omega)
theorem first_l0 {y : Int} (hy : 1 ≤ y) (hy2 : y ≤ 15000) (d : Nat) : ∀ (k : Nat) (x : Int), 1970 ≤ x → (x ≤ y ∨ x = 1970) → (y - x).toNat = d → d + 2000 < k → fuseeref07_First.l0 k y (fst x) x = some (fst y) := by
  induction d with
  | zero =>
    intro k x h0 h1 hd hk
    obtain ⟨k, rfl⟩ : ∃ m, k = m + 1 := ⟨k - 1, by omega⟩
    simp only [fuseeref07_First.l0]
    rw [if_neg (by omega)]
    by_cases c : x = 1970
    · subst c
      by_cases e : y ≤ 1969
      · have := first_l1 hy (1970 - y).toNat k 1969 (by omega) (by omega) (by omega)
        rwa [show (1969 : Int) + 1 = 1970 from rfl] at this
      · obtain rfl : y = 1970 := by omega
        exact first_l1 hy 0 k 1969 (by omega) (by omega) (by omega)
    · obtain rfl : x = y := by omega
      obtain ⟨k, rfl⟩ : ∃ m, k = m + 1 := ⟨k - 1, by omega⟩
      simp only [fuseeref07_First.l1]
      rw [if_neg (by omega)]
  | succ d ih =>
    intro k x h0 h1 hd hk
    obtain ⟨k, rfl⟩ : ∃ m, k = m + 1 := ⟨k - 1, by omega⟩
    simp only [fuseeref07_First.l0]
    have hs := fst_succ x
    have hb := fst_bd (y := x) (by omega) (by omega)
    have l := lp_01 x
    rw [if_pos (by omega), ryear_f (by omega)]
    simp only [Option.bind_some]
    rw [w64 (by omega) (by omega), w64 (by omega) (by omega), show fst x + (365 + lp x) = fst (x + 1) by omega]
    exact ih k (x + 1) (by omega) (by omega) (by omega) (by omega)
theorem first_f {y : Int} (hy : 1 ≤ y) (hy2 : y ≤ 15000) {k : Nat} (hk : 20000 ≤ k) : fuseeref07_First.f k y = some (fst y) := by
  unfold fuseeref07_First.f
  have := first_l0 hy hy2 (y - 1970).toNat k 1970 (by omega) (by omega) rfl (by omega)
  rwa [fst_1970] at this
theorem rdays_f (y m : Int) {k : Nat} (hk : 1 ≤ k) : fuseeref07_Days.f k y m = some (dimA y m) := by
  obtain ⟨k, rfl⟩ : ∃ j, k = j + 1 := ⟨k - 1, by omega⟩
  unfold fuseeref07_Days.f dimA
  by_cases a : y < 1
  · rw [if_pos a, if_neg (by omega)]; simp [fuseeref07_Days.j0]
  · rw [if_neg a]
    by_cases b : y > 9999
    · rw [if_pos b, if_neg (by omega)]; simp [fuseeref07_Days.j0]
    · rw [if_neg b]
      by_cases c : m < 1
      · rw [if_pos c, if_neg (by omega)]; simp [fuseeref07_Days.j0]
      · rw [if_neg c]
        by_cases e : m > 12
        · rw [if_neg (by omega)]; simp [fuseeref07_Days.j0, e]
        · rw [if_pos (by omega)]
          have l := lp_01 y
          simp only [fuseeref07_Days.j0, decide_eq_true_eq, if_neg e, rlong_f (show 1 ≤ y by omega), Option.bind_some]
          have hm : m = 1 ∨ m = 2 ∨ m = 3 ∨ m = 4 ∨ m = 5 ∨ m = 6 ∨ m = 7 ∨ m = 8 ∨ m = 9 ∨ m = 10 ∨ m = 11 ∨ m = 12 := by omega
          unfold dim
          by_cases hl : lp y = 1
          · rw [hl]
            rcases hm with rfl | rfl | rfl | rfl | rfl | rfl | rfl | rfl | rfl | rfl | rfl | rfl <;> first | rfl | decide +kernel
          · have hl0 : lp y = 0 := by omega
            rw [hl0]
            rcases hm with rfl | rfl | rfl | rfl | rfl | rfl | rfl | rfl | rfl | rfl | rfl | rfl <;> first | rfl | decide +kernel
end Go.Proofs.Ytdbaeigbejcobaa.Cal
