import Derived.Test.YtdbaeigbejcobaaPCalendarWorkx3
import Derived.Test.YtdbaeigbejcobaaCalMath
/- What the printed functions of the calendar come to, in closed forms. -/
namespace Go.Proofs.Ytdbaeigbejcobaa.Cal
open Go.RowKit Go.Proofs.Ytdbaeigbejcobaa.PCalendarWork Go.Proofs.YtdbaeigbejcobaaW.PrintWords
set_option linter.unusedVariables false
set_option linter.unusedSimpArgs false
theorem w64 {x : Int} (h1 : -9223372036854775808 ≤ x) (h2 : x ≤ 9223372036854775807) : wrap64 x = x := by unfold wrap64; omega
theorem td {a b : Int} (h : 0 ≤ a) : Int.tdiv a b = a / b := Int.tdiv_eq_ediv_of_nonneg h
theorem tm {a b : Int} (h : 0 ≤ a) : Int.tmod a b = a % b := Int.tmod_eq_emod_of_nonneg h
theorem count_f {y m d : Int} (hy : 1 ≤ y) (hy2 : y ≤ 9999) (h1 : 1 ≤ m) (h2 : m ≤ 12) (hd : -1000 ≤ d) (hd2 : d ≤ 1000) : civil_count.f y m d = some (num y m d) := by
  have e := num_march (d := d) hy h1 h2
  unfold civil_count.f
  by_cases h : m ≤ 2
  · rw [if_pos h]
    rw [if_pos h] at e
    rw [e]
    simp (disch := omega) only [w64, td, tm]
  · rw [if_neg h]
    rw [if_neg h] at e
    rw [e]
    simp (disch := omega) only [w64, td, tm]
theorem long_f {y : Int} (hy : 1 ≤ y) : civil_Long.f y = some (decide (lp y = 1)) := by
  unfold civil_Long.f lp
  simp (disch := omega) only [tm]
  (repeat' split) <;> simp <;> omega
def dimA (y m : Int) : Int := if (1 ≤ y ∧ y ≤ 9999) ∧ (1 ≤ m ∧ m ≤ 12) then dim y m else 0
theorem days_f (y m : Int) (k : Nat) : civil_Days.f (k + 2) y m = some (dimA y m) := by
  unfold civil_Days.f dimA
  by_cases a : y < 1
  · rw [if_pos a, if_neg (by omega)]; simp [civil_Days.j0]
  · rw [if_neg a]
    by_cases b : y > 9999
    · rw [if_pos b, if_neg (by omega)]; simp [civil_Days.j0]
    · rw [if_neg b]
      by_cases c : m < 1
      · rw [if_pos c, if_neg (by omega)]; simp [civil_Days.j0]
      · rw [if_neg c]
        by_cases e : m > 12
        · rw [if_neg (by omega)]; simp [civil_Days.j0, e]
        · rw [if_pos (by omega)]
          have l := lp_01 y
          simp only [civil_Days.j0, decide_eq_true_eq, if_neg e, long_f (show 1 ≤ y by omega), Option.bind_some, civil_Days.j1]
          unfold dim
          by_cases h2 : m = 2
          · rw [if_pos h2, if_pos h2, if_pos h2]
            by_cases hl : lp y = 1
            · rw [if_pos hl, hl]; rfl
            · rw [if_neg hl, show lp y = 0 by omega]; rfl
          · rw [if_neg h2, if_neg h2, if_neg h2]
            simp (disch := omega) only [w64, td, tm]
            rw [if_neg (by decide)]
theorem is_f (y m d : Int) (k : Nat) : civil_is.f (k + 2) y m d = some (decide (Vld y m d)) := by
  unfold civil_is.f
  rw [days_f]
  unfold dimA Vld
  by_cases h : d ≥ 1
  · rw [if_pos h]
    simp only [Option.bind_some]
    split
    · exact congrArg some (decide_eq_decide.2 (by omega))
    · exact congrArg some (decide_eq_decide.2 (by omega))
  · rw [if_neg h]
    exact congrArg some (decide_eq_false (by omega)).symm
theorem number_f (y m d : Int) (k : Nat) : civil_Number.f (k + 2) y m d = some (if Vld y m d then (num y m d, true) else (0, false)) := by
  unfold civil_Number.f
  rw [is_f]
  simp only [Option.bind_some, decide_eq_true_eq]
  by_cases h : Vld y m d
  · have hb := dim_bd (y := y) h.2.1.1 h.2.1.2
    have h' := h
    obtain ⟨⟨a, b⟩, ⟨c, e⟩, f, g⟩ := h'
    rw [if_pos h, if_pos h, count_f a b c e (by omega) (by omega)]; rfl
  · rw [if_neg h, if_neg h]
theorem day_no (n : Int) (h : n < -719162 ∨ 2932896 < n) (k : Nat) : civil_Day.f (k + 1) n = some (0, 0, 0, false) := by
  unfold civil_Day.f
  rw [count_f (by omega) (by omega) (by omega) (by omega) (by omega) (by omega), count_f (by omega) (by omega) (by omega) (by omega) (by omega) (by omega)]
  have e1 : num 1 1 1 = -719162 := by decide
  have e2 : num 9999 12 31 = 2932896 := by decide
  simp only [Option.bind_some]
  rw [e1, e2]
  by_cases a : n < -719162
  · rw [if_pos a]; simp [civil_Day.j0]
  · rw [if_neg a]
    have b : n > 2932896 := by omega
    simp [civil_Day.j0, b]
theorem leap_of {E Y : Int} (y0 : 0 ≤ Y) (y1 : Y ≤ 399) (h : Y / 4 - Y / 100 < (Y + 1) / 4 - (Y + 1) / 100 + (if Y = 399 then 1 else 0)) : lp (E * 400 + Y + 1) = 1 := by
  unfold lp
  by_cases h9 : Y = 399
  · subst h9
    rw [if_pos (.inr (by omega))]
  · rw [if_neg h9] at h
    have a : (Y + 1) % 4 = 0 := by omega
    have b : ¬ (Y + 1) % 100 = 0 := by omega
    rw [if_pos (.inl ⟨by omega, by omega⟩)]
theorem day_yes (n : Int) (h1 : -719162 ≤ n) (h2 : n ≤ 2932896) : ∃ y m d, Vld y m d ∧ num y m d = n ∧ ∀ k, civil_Day.f (k + 1) n = some (y, m, d, true) := by
  obtain ⟨E, i, hE, hi0, hi1, hn⟩ : ∃ E i : Int, 0 ≤ E ∧ 0 ≤ i ∧ i < 146097 ∧ n + 719468 = E * 146097 + i := ⟨(n + 719468) / 146097, (n + 719468) % 146097, by omega, by omega, by omega, by omega⟩
  obtain ⟨y0, y1, y2, y3⟩ := yoe_ok hi0 hi1
  obtain ⟨Y, hY⟩ : ∃ Y, yoe i = Y := ⟨_, rfl⟩
  rw [hY] at y0 y1 y2 y3
  obtain ⟨o, ho⟩ : ∃ o, o = i - (365 * Y + Y / 4 - Y / 100) := ⟨_, rfl⟩
  have ho0 : 0 ≤ o := by omega
  have ho1 : o ≤ 365 := by split at y3 <;> omega
  obtain ⟨M, hM⟩ : ∃ M, (5 * o + 2) / 153 = M := ⟨_, rfl⟩
  have hM0 : 0 ≤ M ∧ M ≤ 11 := by omega
  have hlo : o ≤ 364 ∨ lp (E * 400 + Y + 1) = 1 := by
    by_cases h : o ≤ 364
    · exact .inl h
    · exact .inr (leap_of y0 y1 (by omega))
  have q1 : Int.tmod (wrap64 (n + 719468)) 146097 = i := by rw [w64 (by omega) (by omega), tm (by omega)]; omega
  have q2 : Int.tdiv (wrap64 (n + 719468)) 146097 = E := by rw [w64 (by omega) (by omega), td (by omega)]; omega
  have q3 : (i - i / 1460 + i / 36524 - i / 146096) / 365 = Y := hY
  have hd0 : 0 ≤ o - (153 * M + 2) / 5 := by omega
  have hrun : ∀ k, civil_Day.f (k + 1) n = some (if M + 3 > 12 then (E * 400 + Y + 1, M + 3 - 12, o - (153 * M + 2) / 5 + 1, true) else (E * 400 + Y, M + 3, o - (153 * M + 2) / 5 + 1, true)) := by
    intro k
    unfold civil_Day.f
    rw [count_f (by omega) (by omega) (by omega) (by omega) (by omega) (by omega), count_f (by omega) (by omega) (by omega) (by omega) (by omega) (by omega)]
    have e1 : num 1 1 1 = -719162 := by decide
    have e2 : num 9999 12 31 = 2932896 := by decide
    simp only [Option.bind_some]
    rw [e1, e2, if_neg (by omega), decide_eq_false (show ¬ n > 2932896 by omega)]
    simp only [civil_Day.j0]
    rw [if_neg (by decide)]
    simp only [q1, q2]
    have r1 : wrap64 (Int.tdiv (wrap64 (wrap64 (wrap64 (i - wrap64 (Int.tdiv i 1460)) + wrap64 (Int.tdiv i 36524)) - wrap64 (Int.tdiv i 146096))) 365) = Y := by
      simp (disch := omega) only [w64, td]
      exact q3
    simp only [r1]
    have r2 : wrap64 (i - wrap64 (wrap64 (wrap64 (365 * Y) + wrap64 (Int.tdiv Y 4)) - wrap64 (Int.tdiv Y 100))) = o := by
      simp (disch := omega) only [w64, td]
      omega
    simp only [r2]
    have r3 : wrap64 (Int.tdiv (wrap64 (wrap64 (5 * o) + 2)) 153) = M := by
      simp (disch := omega) only [w64, td]
      exact hM
    simp only [r3]
    have r4 : wrap64 (M + 3) = M + 3 := w64 (by omega) (by omega)
    rw [r4]
    have r5 : wrap64 (wrap64 (o - wrap64 (Int.tdiv (wrap64 (wrap64 (153 * M) + 2)) 5)) + 1) = o - (153 * M + 2) / 5 + 1 := by
      simp (disch := omega) only [w64, td]
    rw [r5]
    have r6 : wrap64 (wrap64 (wrap64 E * 400) + Y) = E * 400 + Y := by
      simp (disch := omega) only [w64]
    rw [r6]
    by_cases hm : M + 3 > 12
    · rw [if_pos hm, if_pos hm, w64 (by omega) (by omega), w64 (by omega) (by omega)]
    · rw [if_neg hm, if_neg hm]
  by_cases hm : M + 3 > 12
  · refine ⟨E * 400 + Y + 1, M + 3 - 12, o - (153 * M + 2) / 5 + 1, ?_, ?_, fun k => by rw [hrun, if_pos hm]⟩
    · refine ⟨by omega, by omega, by omega, ?_⟩
      have l := lp_01 (E * 400 + Y + 1)
      unfold dim
      have : M = 10 ∨ M = 11 := by omega
      rcases this with rfl | rfl
      · simp; omega
      · simp; omega
    · rw [num_march (by omega) (by omega) (by omega), if_pos (by omega)]
      have e1 : (E * 400 + Y + 1 - 1) / 400 = E := by omega
      have e2 : (E * 400 + Y + 1 - 1) % 400 = Y := by omega
      rw [e1, e2, show 153 * (M + 3 - 12 + 12 - 3) = 153 * M by omega]
      omega
  · refine ⟨E * 400 + Y, M + 3, o - (153 * M + 2) / 5 + 1, ?_, ?_, fun k => by rw [hrun, if_neg hm]⟩
    · refine ⟨by omega, by omega, by omega, ?_⟩
      unfold dim
      rw [if_neg (by omega)]
      have : M = 0 ∨ M = 1 ∨ M = 2 ∨ M = 3 ∨ M = 4 ∨ M = 5 ∨ M = 6 ∨ M = 7 ∨ M = 8 ∨ M = 9 := by omega
      rcases this with rfl | rfl | rfl | rfl | rfl | rfl | rfl | rfl | rfl | rfl <;> simp <;> omega
    · rw [num_march (by omega) (by omega) (by omega), if_neg (by omega)]
      have e1 : (E * 400 + Y) / 400 = E := by omega
      have e2 : (E * 400 + Y) % 400 = Y := by omega
      rw [e1, e2, show 153 * (M + 3 - 3) = 153 * M by omega]
      omega
end Go.Proofs.Ytdbaeigbejcobaa.Cal
