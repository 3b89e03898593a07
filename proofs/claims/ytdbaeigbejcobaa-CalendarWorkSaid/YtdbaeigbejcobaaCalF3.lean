import Derived.Test.YtdbaeigbejcobaaCalF2
namespace Go.Proofs.Ytdbaeigbejcobaa.Cal
open Go.RowKit Go.Proofs.Ytdbaeigbejcobaa.PCalendarWork Go.Proofs.YtdbaeigbejcobaaW.PrintWords
set_option linter.unusedVariables false
set_option linter.unusedSimpArgs false
theorem cum_bd {y m : Int} (h1 : 1 ≤ m) (h2 : m ≤ 13) : 0 ≤ cum y m ∧ cum y m ≤ 366 := by
  have := lp_01 y
  have a := cum_mono (y := y) (m := 1) (k := m) (by omega) h1 h2
  have b := cum_mono (y := y) (m := m) (k := 13) h1 h2 (by omega)
  rw [cum_1] at a
  rw [cum_13] at b
  omega
theorem yd_l0 {y m d : Int} (hy : 1 ≤ y) (hy2 : y ≤ 9999) (hm2 : m ≤ 12) (hd : 0 ≤ d) (hd2 : d ≤ 1000) (j : Nat) : ∀ (k : Nat) (x : Int), 1 ≤ x → x ≤ m → m - x = j → j + 1 < k → fuseeref07_YearDay.l0 k y m (d + cum y x) x = some (d + cum y m) := by
  induction j with
  | zero =>
    intro k x h1 h2 hj hk
    obtain ⟨k, rfl⟩ : ∃ q, k = q + 1 := ⟨k - 1, by omega⟩
    simp only [fuseeref07_YearDay.l0]
    rw [if_neg (by omega), show x = m by omega]
  | succ j ih =>
    intro k x h1 h2 hj hk
    obtain ⟨k, rfl⟩ : ∃ q, k = q + 1 := ⟨k - 1, by omega⟩
    simp only [fuseeref07_YearDay.l0]
    have hc := cum_succ (y := y) h1 (show x ≤ 12 by omega)
    have hb := cum_bd (y := y) (m := x) h1 (by omega)
    have hb2 := dim_bd (y := y) h1 (show x ≤ 12 by omega)
    rw [if_pos (by omega), rdays_f _ _ (by omega)]
    simp only [Option.bind_some]
    rw [show dimA y x = dim y x by unfold dimA; rw [if_pos (by omega)], w64 (by omega) (by omega), w64 (by omega) (by omega), show d + cum y x + dim y x = d + cum y (x + 1) by omega]
    exact ih k (x + 1) (by omega) (by omega) (by omega) (by omega)
theorem yd_f (y m d : Int) {k : Nat} (hk : 100 ≤ k) : fuseeref07_YearDay.f k y m d = some (if Vld y m d then d + cum y m else 0) := by
  obtain ⟨k, rfl⟩ : ∃ q, k = q + 1 := ⟨k - 1, by omega⟩
  unfold fuseeref07_YearDay.f
  by_cases h : d < 1
  · rw [if_pos h, if_neg (by unfold Vld; omega)]
    simp [fuseeref07_YearDay.j0]
  · rw [if_neg h, rdays_f _ _ (by omega)]
    simp only [Option.bind_some]
    by_cases hv : Vld y m d
    · have hv' := hv
      obtain ⟨⟨a, b⟩, ⟨c, e⟩, f, g⟩ := hv'
      have hb2 := dim_bd (y := y) c e
      rw [if_pos hv, show dimA y m = dim y m by unfold dimA; rw [if_pos (by omega)], decide_eq_false (by omega)]
      simp only [fuseeref07_YearDay.j0]
      rw [if_neg (by decide)]
      have := yd_l0 (y := y) (m := m) (d := d) a b e (by omega) (by omega) (m - 1).toNat k 1 (by omega) (by omega) (by omega) (by omega)
      rwa [cum_1, Int.add_zero] at this
    · rw [if_neg hv, decide_eq_true (show d > dimA y m by unfold dimA; split; (unfold Vld at hv; omega); omega)]
      simp [fuseeref07_YearDay.j0]
theorem num_bd {y m d : Int} (h : Vld y m d) : -719162 ≤ num y m d ∧ num y m d ≤ 2932896 := by
  have a := num_year h
  obtain ⟨⟨b, c⟩, _⟩ := h
  have e := fst_mono (a := 1) (b := y) b
  have f := fst_mono (a := y + 1) (b := 10000) (by omega)
  have e1 : fst 1 = -719162 := by decide
  have e2 : fst 10000 = 2932897 := by decide
  omega
theorem rnum_f (y m d : Int) {k : Nat} (hk : 20000 ≤ k) : fuseeref07_Number.f k y m d = some (if Vld y m d then (num y m d, true) else (0, false)) := by
  unfold fuseeref07_Number.f
  rw [yd_f _ _ _ (by omega)]
  simp only [Option.bind_some]
  by_cases hv : Vld y m d
  · have hv' := hv
    have hnb := num_bd hv
    obtain ⟨⟨a, b⟩, ⟨c, e⟩, f, g⟩ := hv'
    have hb := cum_bd (y := y) (m := m) c (by omega)
    have hfb := fst_bd (y := y) (by omega) (by omega)
    have hb2 := dim_bd (y := y) c e
    rw [if_pos hv, if_pos hv, if_neg (by omega), first_f a (by omega) hk]
    simp only [Option.bind_some]
    rw [w64 (x := fst y + (d + cum y m)) (by omega) (by omega), w64 (by omega) (by omega)]
    unfold num
    rw [show fst y + (d + cum y m) - 1 = fst y + cum y m + d - 1 by omega]
  · rw [if_neg hv, if_neg hv, if_pos rfl]
def numA (y m d : Int) : Int := if Vld y m d then num y m d else 0
theorem of_f (y m d : Int) {k : Nat} (hk : 20000 ≤ k) : fuseelaw39_of.f k y m d = some (numA y m d) := by
  unfold fuseelaw39_of.f numA
  rw [rnum_f _ _ _ hk]
  by_cases hv : Vld y m d
  · rw [if_pos hv, if_pos hv]; rfl
  · rw [if_neg hv, if_neg hv]; rfl
theorem wd_f (n : Int) (h : -9000000000000000000 ≤ n) (h2 : n ≤ 9000000000000000000) : civil_Weekday.f n = some ((n + 3) % 7) := by
  unfold civil_Weekday.f
  by_cases h0 : 0 ≤ n
  · rw [tm h0]
    rw [w64 (x := n % 7 + 7) (by omega) (by omega), w64 (by omega) (by omega), tm (by omega)]
    congr 1; omega
  · have e : Int.tmod n 7 = -((-n) % 7) := by
      have : Int.tmod n 7 = -(Int.tmod (-n) 7) := by rw [Int.neg_tmod]; omega
      rw [this, tm (by omega)]
    rw [e, w64 (x := -((-n) % 7) + 7) (by omega) (by omega), w64 (by omega) (by omega), tm (by omega)]
    congr 1; omega
/-- Months, by their place among all. -/
def dimM (M : Int) : Int := dim (M / 12) (M % 12 + 1)
def numM (M d : Int) : Int := num (M / 12) (M % 12 + 1) d
def InM (M : Int) : Prop := 12 ≤ M ∧ M < 120000
instance (M : Int) : Decidable (InM M) := by unfold InM; exact inferInstance
theorem dimM_bd (M : Int) : 28 ≤ dimM M ∧ dimM M ≤ 31 := dim_bd (by omega) (by omega)
theorem vldM {M d : Int} (h : InM M) (h1 : 1 ≤ d) (h2 : d ≤ dimM M) : Vld (M / 12) (M % 12 + 1) d := by
  unfold InM at h
  exact ⟨by omega, by omega, h1, h2⟩
theorem numM_succ (M : Int) : numM (M + 1) 1 = numM M 1 + dimM M := by
  unfold numM dimM num
  by_cases h : M % 12 = 11
  · have e1 : (M + 1) / 12 = M / 12 + 1 := by omega
    have e2 : (M + 1) % 12 = 0 := by omega
    have e3 := fst_succ (M / 12)
    have e4 := cum_succ (y := M / 12) (m := 12) (by omega) (by omega)
    rw [show (12 : Int) + 1 = 13 from rfl, cum_13] at e4
    rw [e1, e2, h, show (0 : Int) + 1 = 1 from rfl, show (11 : Int) + 1 = 12 from rfl, cum_1]
    omega
  · have e1 : (M + 1) / 12 = M / 12 := by omega
    have e2 : (M + 1) % 12 = M % 12 + 1 := by omega
    have e4 := cum_succ (y := M / 12) (m := M % 12 + 1) (by omega) (by omega)
    rw [e1, e2]
    omega
theorem numM_day (M d : Int) : numM M d = numM M 1 + d - 1 := by unfold numM num; omega
theorem numM_mono {M K : Int} (h : M ≤ K) : numM M 1 ≤ numM K 1 := by
  obtain ⟨j, hj⟩ : ∃ j : Nat, K = M + j := ⟨(K - M).toNat, by omega⟩
  subst hj
  induction j with
  | zero => simp
  | succ j ih =>
    have := numM_succ (M + j)
    have := dimM_bd (M + j)
    have := ih (by omega)
    rw [show M + ((j + 1 : Nat) : Int) = M + j + 1 by omega]
    omega
/-- The place of a day. -/
theorem place_yes (n : Int) (h1 : -719162 ≤ n) (h2 : n ≤ 2932896) : ∃ M d, InM M ∧ 1 ≤ d ∧ d ≤ dimM M ∧ numM M d = n ∧ ∀ k, calendar_place.f (k + 1) n = some (M, d, true) := by
  obtain ⟨y, m, d, hv, hn, hf⟩ := day_yes n h1 h2
  obtain ⟨⟨a, b⟩, ⟨c, e⟩, f, g⟩ := hv
  have e1 : (y * 12 + m - 1) / 12 = y := by omega
  have e2 : (y * 12 + m - 1) % 12 + 1 = m := by omega
  refine ⟨y * 12 + m - 1, d, by unfold InM; omega, f, by unfold dimM; rw [e1, e2]; exact g, by unfold numM; rw [e1, e2]; exact hn, fun k => ?_⟩
  unfold calendar_place.f
  rw [hf]
  simp (disch := omega) only [Option.bind_some, w64]
theorem place_no (n : Int) (h : n < -719162 ∨ 2932896 < n) (k : Nat) : calendar_place.f (k + 1) n = some (-1, 0, false) := by
  unfold calendar_place.f
  rw [day_no n h]
  simp only [Option.bind_some]
  rw [show wrap64 (wrap64 (wrap64 (0 * 12) + 0) - 1) = -1 by decide +kernel]
theorem day_f {M d : Int} (hd : 1 ≤ d) (hd2 : d ≤ 1000) (hM : -10000000 ≤ M) (hM2 : M ≤ 10000000) (k : Nat) : calendar_day.f (k + 2) M d = some (if InM M then (numM M (min d (dimM M)), true) else (0, false)) := by
  unfold calendar_day.f
  by_cases h : M < 12
  · rw [if_pos h, if_neg (by unfold InM; omega)]
  · rw [if_neg h]
    simp (disch := omega) only [td, tm, w64]
    rw [days_f]
    simp only [Option.bind_some]
    rw [number_f]
    simp only [Option.bind_some]
    by_cases hi : InM M
    · have hb := dimM_bd M
      have e : dimA (M / 12) (M % 12 + 1) = dimM M := by unfold dimA; unfold InM at hi; rw [if_pos (by omega)]; rfl
      have e2 : mn d (dimM M) = min d (dimM M) := by unfold mn; split <;> omega
      rw [e, e2, if_pos hi, if_pos (vldM hi (by omega) (by omega))]; rfl
    · have e : dimA (M / 12) (M % 12 + 1) = 0 := by unfold dimA; unfold InM at hi; rw [if_neg (by omega)]
      rw [e, if_neg hi, if_neg]
      unfold Vld mn; split <;> omega
theorem months_f {n M d : Int} (hp : ∀ k, calendar_place.f (k + 1) n = some (M, d, true)) (hi : InM M) (hd : 1 ≤ d) (hd2 : d ≤ 31) (c : Int) (k : Nat) :
    calendar_Months.f (k + 2) n c = some (if -200000 ≤ c ∧ c ≤ 200000 ∧ InM (M + c) then (numM (M + c) (min d (dimM (M + c))), true) else (0, false)) := by
  unfold InM at hi
  unfold calendar_Months.f
  rw [hp]
  simp only [Option.bind_some]
  rw [if_pos trivial]
  by_cases h1 : c < -200000
  · rw [if_pos h1, if_neg (by omega)]
  · rw [if_neg h1]
    by_cases h2 : c > 200000
    · rw [if_pos h2, if_neg (by omega)]
    · rw [if_neg h2, w64 (by omega) (by omega), day_f hd (by omega) (by omega) (by omega)]
      by_cases h3 : InM (M + c)
      · rw [if_pos h3, if_pos ⟨by omega, by omega, h3⟩]; rfl
      · rw [if_neg h3, if_neg (fun q => h3 q.2.2)]; rfl
theorem months_no {n : Int} (h : n < -719162 ∨ 2932896 < n) (c : Int) (k : Nat) : calendar_Months.f (k + 1) n c = some (0, false) := by
  unfold calendar_Months.f
  rw [place_no n h]
  simp only [Option.bind_some]
  rw [if_neg (by decide)]
theorem end_f {n M d : Int} (hp : ∀ k, calendar_place.f (k + 1) n = some (M, d, true)) (hi : InM M) (k : Nat) : calendar_End.f (k + 2) n = some (numM M (dimM M), true) := by
  have hb := dimM_bd M
  have hi' := hi
  unfold InM at hi'
  unfold calendar_End.f
  rw [hp]
  simp only [Option.bind_some]
  rw [if_pos trivial, day_f (by omega) (by omega) (by omega) (by omega), if_pos hi, show min 31 (dimM M) = dimM M by omega]
  rfl
theorem end_no {n : Int} (h : n < -719162 ∨ 2932896 < n) (k : Nat) : calendar_End.f (k + 1) n = some (0, false) := by
  unfold calendar_End.f
  rw [place_no n h]
  simp only [Option.bind_some]
  rw [if_neg (by decide)]
theorem numM_bd {M d : Int} (hi : InM M) (h1 : 1 ≤ d) (h2 : d ≤ dimM M) : -719162 ≤ numM M d ∧ numM M d ≤ 2932896 := num_bd (vldM hi h1 h2)
/-- What Between answers, of days that are there. -/
theorem between_f {a b M K d e : Int} (ha : ∀ k, calendar_place.f (k + 1) a = some (M, d, true)) (hb : ∀ k, calendar_place.f (k + 1) b = some (K, e, true)) (hM : InM M) (hK : InM K) (hd : 1 ≤ d) (hd2 : d ≤ 31) (hab : a ≤ b) (hMK : M ≤ K) (hb1 : -719162 ≤ b) (hb2 : b ≤ 2932896) (hstep : M = K → numM K (min d (dimM K)) ≤ b) (k : Nat) :
    calendar_Between.f (k + 4) a b = some (if numM K (min d (dimM K)) > b then ((K - M - 1) / 12, (K - M - 1) % 12, b - numM (K - 1) (min d (dimM (K - 1))), true) else ((K - M) / 12, (K - M) % 12, b - numM K (min d (dimM K)), true)) := by
  have hM' := hM
  have hK' := hK
  unfold InM at hM' hK'
  have hbd := dimM_bd K
  have hnb := numM_bd hK (d := min d (dimM K)) (by omega) (by omega)
  unfold calendar_Between.f
  rw [ha, hb]
  simp only [Option.bind_some]
  rw [if_pos trivial, if_pos trivial, decide_eq_false (show ¬ a > b by omega)]
  simp only [calendar_Between.j0]
  rw [if_neg (by decide), w64 (x := K - M) (by omega) (by omega), months_f ha hM hd hd2, if_pos ⟨by omega, by omega, by rw [show M + (K - M) = K by omega]; exact hK⟩]
  simp only [Option.bind_some]
  rw [show M + (K - M) = K by omega]
  by_cases h : numM K (min d (dimM K)) > b
  · have hlt : M < K := by
      by_cases e : M = K
      · have := hstep e; omega
      · omega
    have hK1 : InM (K - 1) := by unfold InM; omega
    have hbd1 := dimM_bd (K - 1)
    have hnb1 := numM_bd hK1 (d := min d (dimM (K - 1))) (by omega) (by omega)
    rw [if_pos h, if_pos h, w64 (x := K - M - 1) (by omega) (by omega), months_f ha hM hd hd2, if_pos ⟨by omega, by omega, by rw [show M + (K - M - 1) = K - 1 by omega]; exact hK1⟩]
    simp only [Option.bind_some]
    rw [show M + (K - M - 1) = K - 1 by omega, td (by omega), tm (by omega), w64 (x := (K - M - 1) / 12) (by omega) (by omega), w64 (by omega) (by omega)]
  · rw [if_neg h, if_neg h, td (by omega), tm (by omega), w64 (x := (K - M) / 12) (by omega) (by omega), w64 (by omega) (by omega)]
end Go.Proofs.Ytdbaeigbejcobaa.Cal
