import Derived.Test.YtdbaeigbejcobaaCalFix
namespace Go.Proofs.Ytdbaeigbejcobaa.Cal
open Go.RowKit Go.Proofs.Ytdbaeigbejcobaa.PCalendarWork Go.Proofs.YtdbaeigbejcobaaW.PrintWords
set_option linter.unusedVariables false
set_option linter.unusedSimpArgs false
theorem ret_int {k : IntKind} {a b : Int} (h : a = b) : Ending.returned (.int k a) = .returned (.int k b) := by rw [h]
def WdI (n r a : Int) : Prop := (a + r) % 7 = (n + 3) % 7
theorem tmod7 (n : Int) : -6 ≤ Int.tmod n 7 ∧ Int.tmod n 7 ≤ 6 ∧ (3 + Int.tmod n 7) % 7 = (n + 3) % 7 ∧ (0 ≤ n → Int.tmod n 7 = n % 7) := by
  by_cases h : 0 ≤ n
  · rw [tm h]; omega
  · have e : Int.tmod n 7 = -((-n) % 7) := by
      have : Int.tmod n 7 = -(Int.tmod (-n) 7) := by rw [Int.neg_tmod]; omega
      rw [this, tm (by omega)]
    rw [e]; omega
set_option maxHeartbeats 1000000 in
theorem rwd_any (n : Int) (w : World) : Calls Try.prog 25 #[.int .i64 n] w fun e w' => e = .returned (.int .i64 ((n + 3) % 7)) ∧ w = w' := by
  obtain ⟨h1, h2, h3, h4⟩ := tmod7 n
  obtain ⟨z, hz⟩ : ∃ z, (n + 3) % 7 = z := ⟨_, rfl⟩
  rw [hz]
  have HZ := Lib.hid hz
  have H3 := Lib.hid h3
  clear hz h3
  by_cases hn : 0 ≤ n
  all_goals
    have H4 := Lib.hid h4
    clear h4
    go_enter Try.func25, Try.ntmps25
    go_wp2_with fail
    go_loop [0, 3] (fun u v => ∃ r a : Int, -6 ≤ r ∧ r ≤ 6 ∧ 0 ≤ a ∧ a ≤ 6 ∧ u = .int .i64 r ∧ v = .int .i64 a ∧ Hid (WdI n r a)) (fun u _ => (intOf u).toNat)
    case atStart => exact ⟨_, 3, by first | omega | (have := H4.out hn; omega), by first | omega | (have := H4.out hn; omega), by omega, by omega, rfl, rfl, by first | exact H3.out | (have h := H3.out; rw [H4.out hn] at h; exact h)⟩
    case round =>
      obtain ⟨r, a, r1, r2, a1, a2, rfl, rfl, HI⟩ := hrel
      by_cases hr : 0 < r
      · go_wp2
        go_round
        case rel => exact ⟨r - 1, (a + 1) % 7, by omega, by omega, by omega, by omega, rfl, rfl, by have h := HI.out; unfold WdI at h ⊢; show ((a + 1) % 7 + (r - 1)) % 7 = (n + 3) % 7; omega⟩
        case measure => simp [intOf]; omega
      · go_wp2_with fail
        go_loop [0, 3] (fun u v => ∃ r a : Int, -6 ≤ r ∧ r ≤ 0 ∧ 0 ≤ a ∧ a ≤ 6 ∧ u = .int .i64 r ∧ v = .int .i64 a ∧ Hid (WdI n r a)) (fun u _ => (-(intOf u)).toNat)
        case atStart => exact ⟨r, a, by omega, by omega, by omega, by omega, rfl, rfl, HI.out⟩
        case round =>
          obtain ⟨r, a, r1, r2, a1, a2, rfl, rfl, HI⟩ := hrel
          by_cases hr : r < 0
          · go_wp2
            go_round
            case rel => exact ⟨r + 1, (a + 6) % 7, by omega, by omega, by omega, by omega, rfl, rfl, by have h := HI.out; unfold WdI at h ⊢; show ((a + 6) % 7 + (r + 1)) % 7 = (n + 3) % 7; omega⟩
            case measure => simp [intOf]; omega
          · go_wp2
            go_ret
            exact ⟨ret_int (by have h := HI.out; have h2 := HZ.out; unfold WdI at h; omega), rfl⟩

/-! ### The n-th week day of a month -/
theorem nth_f {y : Int} (hy : 1 ≤ y) (hy2 : y ≤ 9999) (m wd n : Int) (k : Nat) : calendar_Nth.f (k + 3) y m wd n = some (if (1 ≤ m ∧ m ≤ 12) ∧ (0 ≤ wd ∧ wd < 7) ∧ (n = -1 ∨ (1 ≤ n ∧ n ≤ 5)) then (if n = -1 then (num y m 1 + dim y m - 1 - ((num y m 1 + dim y m - 1 + 3) % 7 - wd + 7) % 7, true) else if num y m 1 + (wd - (num y m 1 + 3) % 7 + 7) % 7 + (n - 1) * 7 > num y m 1 + dim y m - 1 then (0, false) else (num y m 1 + (wd - (num y m 1 + 3) % 7 + 7) % 7 + (n - 1) * 7, true)) else (0, false)) := by
  unfold calendar_Nth.f
  rw [number_f]
  simp only [Option.bind_some]
  by_cases hm : 1 ≤ m ∧ m ≤ 12
  · have hb := dim_bd (y := y) hm.1 hm.2
    have hv : Vld y m 1 := ⟨⟨hy, hy2⟩, hm, by omega, by omega⟩
    have hnb := num_bd hv
    rw [if_pos hv]
    simp only [if_true]
    by_cases h1 : wd < 0
    · rw [if_pos h1, if_neg (by omega)]; simp [calendar_Nth.j0]
    · rw [if_neg h1]
      by_cases h2 : wd ≥ 7
      · rw [if_pos h2, if_neg (by omega)]; simp [calendar_Nth.j0]
      · rw [if_neg h2]
        by_cases h3 : n < -1
        · rw [if_pos h3, if_neg (by omega)]; simp [calendar_Nth.j0]
        · rw [if_neg h3]
          by_cases h4 : n = 0
          · rw [if_pos h4, if_neg (by omega)]; simp [calendar_Nth.j0]
          · rw [if_neg h4]
            by_cases h5 : n > 5
            · rw [decide_eq_true h5, if_neg (by omega)]; simp [calendar_Nth.j0]
            · rw [decide_eq_false h5, if_pos ⟨hm, ⟨by omega, by omega⟩, by omega⟩]
              simp only [calendar_Nth.j0]
              rw [if_neg (by decide), days_f, show dimA y m = dim y m by unfold dimA; rw [if_pos ⟨⟨hy, hy2⟩, hm⟩]]
              simp only [Option.bind_some]
              generalize num y m 1 = f at *
              generalize dim y m = q at *
              by_cases h6 : n = -1
              · rw [if_pos h6, if_pos h6, w64 (x := f + q) (by omega) (by omega), w64 (x := f + q - 1) (by omega) (by omega), wd_f _ (by omega) (by omega)]
                simp only [Option.bind_some]
                rw [w64 (x := (f + q - 1 + 3) % 7 - wd) (by omega) (by omega), w64 (x := (f + q - 1 + 3) % 7 - wd + 7) (by omega) (by omega), tm (by omega), w64 (by omega) (by omega)]
              · rw [if_neg h6, if_neg h6, wd_f _ (by omega) (by omega)]
                simp only [Option.bind_some]
                rw [w64 (x := wd - (f + 3) % 7) (by omega) (by omega), w64 (x := wd - (f + 3) % 7 + 7) (by omega) (by omega), tm (by omega), w64 (x := f + (wd - (f + 3) % 7 + 7) % 7) (by omega) (by omega), w64 (x := n - 1) (by omega) (by omega), w64 (x := (n - 1) * 7) (by omega) (by omega), w64 (x := f + (wd - (f + 3) % 7 + 7) % 7 + (n - 1) * 7) (by omega) (by omega), w64 (x := f + q) (by omega) (by omega), w64 (x := f + q - 1) (by omega) (by omega)]
                split <;> rfl
  · have hv : ¬ Vld y m 1 := fun q => hm q.2.1
    rw [if_neg hv, if_neg (show ¬ ((0, false) : Int × Bool).2 = true by decide), if_neg (fun q => hm q.1)]
    simp [calendar_Nth.j0]
/-- Behind D days that were looked at: how many were that week day, and what was found. -/
def NthI (f wd n : Int) (D : Int) (cnt want : Int) (some : Bool) : Prop :=
  0 ≤ D ∧ 0 ≤ cnt ∧ cnt ≤ D ∧ (¬ (0 ≤ wd ∧ wd < 7) → cnt = 0) ∧ ((0 ≤ wd ∧ wd < 7) → cnt = (D - (wd - (f + 3) % 7 + 7) % 7 + 6) / 7) ∧
  (some = true → want = f + (wd - (f + 3) % 7 + 7) % 7 + 7 * ((if n = -1 then cnt else n) - 1)) ∧ (some = false → want = 0) ∧ (some = true ↔ ((n = -1 ∧ 1 ≤ cnt) ∨ (1 ≤ n ∧ n ≤ cnt)))
theorem nthi_0 (f wd n : Int) : NthI f wd n 0 0 0 false := by
  unfold NthI
  refine ⟨by omega, by omega, by omega, by omega, by omega, by simp, by simp, by simp; omega⟩
theorem nthi_skip {f wd n D cnt want : Int} {s : Bool} (h : NthI f wd n D cnt want s) (hm : ¬ (f + D + 3) % 7 = wd) : NthI f wd n (D + 1) cnt want s := by
  obtain ⟨h1, h2, h3, h4, h5, h6, h7, h8⟩ := h
  exact ⟨by omega, by omega, by omega, h4, by omega, h6, h7, h8⟩
theorem nthi_hit {f wd n D cnt want : Int} {s : Bool} (h : NthI f wd n D cnt want s) (hm : (f + D + 3) % 7 = wd) (hn : cnt + 1 = n ∨ n = -1) : NthI f wd n (D + 1) (cnt + 1) (f + D) true := by
  obtain ⟨h1, h2, h3, h4, h5, h6, h7, h8⟩ := h
  have hw : 0 ≤ wd ∧ wd < 7 := by omega
  have h5' := h5 hw
  refine ⟨by omega, by omega, by omega, by omega, by omega, fun _ => ?_, by simp, by simp; omega⟩
  split <;> omega
theorem nthi_pass {f wd n D cnt want : Int} {s : Bool} (h : NthI f wd n D cnt want s) (hm : (f + D + 3) % 7 = wd) (hn : ¬ cnt + 1 = n) (hn2 : ¬ n = -1) : NthI f wd n (D + 1) (cnt + 1) want s := by
  obtain ⟨h1, h2, h3, h4, h5, h6, h7, h8⟩ := h
  have hw : 0 ≤ wd ∧ wd < 7 := by omega
  have h5' := h5 hw
  refine ⟨by omega, by omega, by omega, by omega, by omega, ?_, h7, by rw [h8]; omega⟩
  rw [if_neg hn2] at h6 ⊢
  exact h6
/-- The answer is what was found. -/
theorem nthi_end {y m wd n cnt want : Int} {s : Bool} (h : NthI (num y m 1) wd n (dimA y m) cnt want s) (hy : 1 ≤ y) (hy2 : y ≤ 9999) :
    (if (1 ≤ m ∧ m ≤ 12) ∧ (0 ≤ wd ∧ wd < 7) ∧ (n = -1 ∨ (1 ≤ n ∧ n ≤ 5)) then (if n = -1 then (num y m 1 + dim y m - 1 - ((num y m 1 + dim y m - 1 + 3) % 7 - wd + 7) % 7, true) else if num y m 1 + (wd - (num y m 1 + 3) % 7 + 7) % 7 + (n - 1) * 7 > num y m 1 + dim y m - 1 then (0, false) else (num y m 1 + (wd - (num y m 1 + 3) % 7 + 7) % 7 + (n - 1) * 7, true)) else ((0, false) : Int × Bool)) = (want, s) := by
  obtain ⟨h1, h2, h3, h4, h5, h6, h7, h8⟩ := h
  by_cases hm : 1 ≤ m ∧ m ≤ 12
  · have hb := dim_bd (y := y) hm.1 hm.2
    have e : dimA y m = dim y m := by unfold dimA; rw [if_pos ⟨⟨hy, hy2⟩, hm⟩]
    rw [e] at h1 h3 h5
    generalize num y m 1 = f at *
    generalize dim y m = q at *
    by_cases hw : 0 ≤ wd ∧ wd < 7
    · have h5' := h5 hw
      by_cases hn : n = -1
      · have hs : s = true := h8.2 (.inl ⟨hn, by omega⟩)
        have h6' := h6 hs
        rw [if_pos hn] at h6'
        rw [if_pos ⟨hm, hw, .inl hn⟩, if_pos hn, hs, h6']
        exact Prod.ext (by show f + q - 1 - ((f + q - 1 + 3) % 7 - wd + 7) % 7 = _; omega) rfl
      · rw [if_neg hn] at h6
        by_cases hn2 : 1 ≤ n ∧ n ≤ 5
        · rw [if_pos ⟨hm, hw, .inr hn2⟩, if_neg hn]
          by_cases hc : n ≤ cnt
          · have hs : s = true := h8.2 (.inr ⟨hn2.1, hc⟩)
            have h6' := h6 hs
            rw [if_neg (by omega), hs, h6']
            exact Prod.ext (by show f + (wd - (f + 3) % 7 + 7) % 7 + (n - 1) * 7 = _; omega) rfl
          · have hs : s = false := by
              cases s with
              | false => rfl
              | true => have := h8.1 rfl; omega
            rw [if_pos (by omega), hs, h7 hs]
        · have hs : s = false := by
            cases s with
            | false => rfl
            | true => have := h8.1 rfl; omega
          rw [if_neg (fun q => hn2 (q.2.2.resolve_left hn)), hs, h7 hs]
    · have h4' := h4 hw
      have hs : s = false := by
        cases s with
        | false => rfl
        | true => have := h8.1 rfl; omega
      rw [if_neg (fun q => hw q.2.1), hs, h7 hs]
  · have e : dimA y m = 0 := by unfold dimA; rw [if_neg (fun q => hm q.2)]
    rw [e] at h1 h3 h5
    have hs : s = false := by
      cases s with
      | false => rfl
      | true => have := h8.1 rfl; omega
    rw [if_neg (fun q => hm q.1), hs, h7 hs]

abbrev NthP (y m wd n : Int) (w : World) (e : Ending) (w' : World) : Prop := True
theorem num_d (y m d : Int) : num y m (d + 1) = num y m 1 + d := by unfold num; omega
theorem of_at {y m D : Int} (hy : 1 ≤ y) (hy2 : y ≤ 9999) (h0 : 0 ≤ D) (h1 : D + 1 ≤ dimA y m) (w : World) : Calls Try.prog 21 #[.int .i64 y, .int .i64 m, .int .i64 (D + 1)] w fun e w' => e = .returned (.int .i64 (num y m 1 + D)) ∧ Below w.heap.size w w' := by
  have hv : Vld y m (D + 1) := by
    unfold dimA at h1
    split at h1
    · rename_i q; exact ⟨q.1, q.2, by omega, h1⟩
    · omega
  refine fuseelaw39_of.calls 20000 y m (D + 1) _ w ?_
  rw [of_f _ _ _ (Nat.le_refl _), ← num_d]
  unfold numA
  rw [if_pos hv]
theorem rdays_at (y m : Int) (w : World) : Calls Try.prog 22 #[.int .i64 y, .int .i64 m] w fun e w' => e = .returned (.int .i64 (dimA y m)) ∧ Below w.heap.size w w' :=
  fuseeref07_Days.calls 1 y m _ w (rdays_f y m (Nat.le_refl _))
theorem dimA_bd (y m : Int) : 0 ≤ dimA y m ∧ dimA y m ≤ 31 := by
  unfold dimA
  split
  · rename_i q; have := dim_bd (y := y) q.2.1 q.2.2; omega
  · omega
set_option maxHeartbeats 4000000 in
set_option maxRecDepth 100000 in
theorem nth_true (y m wd n : Int) (w : World) : Calls Try.prog 8 #[.int .i64 y, .int .i64 m, .int .i64 wd, .int .i64 n] w (Tr w) := by
  by_cases hy : y < 1800
  · go_enter Try.func8, Try.ntmps8
    go_wp2_with (first | (go_at_call 17; refine (fixed_any _).mono ?_; rintro e w1 ⟨rfl, hb⟩; have HB := Lib.hid hb; clear hb) | fail)
    go_ret
    exact ⟨rfl, HB.out⟩
  · by_cases hy2 : 2300 < y
    · go_enter Try.func8, Try.ntmps8
      go_wp2_with (first | (go_at_call 17; refine (fixed_any _).mono ?_; rintro e w1 ⟨rfl, hb⟩; have HB := Lib.hid hb; clear hb) | fail)
      go_ret
      exact ⟨rfl, HB.out⟩
    · obtain ⟨got, ok, hgo⟩ : ∃ got ok, calendar_Nth.f 3 y m wd n = some (got, ok) := ⟨_, _, nth_f (by omega) (by omega) m wd n 0⟩
      have HE := Lib.hid (show ∀ (cnt want : Int) (s : Bool), NthI (num y m 1) wd n (dimA y m) cnt want s → want = got ∧ s = ok from fun cnt want s h => by
        have h1 := nthi_end h (by omega) (by omega)
        have h2 := nth_f (y := y) (by omega) (by omega) m wd n 0
        rw [h1] at h2
        have h3 := h2.symm.trans hgo
        simp at h3
        exact h3)
      have CN := Lib.hid (fun w => calendar_Nth.calls 3 y m wd n got ok w hgo)
      have CD := Lib.hid (rdays_at y m)
      have CO := Lib.hid (fun D (h0 : 0 ≤ D) (h1 : D + 1 ≤ dimA y m) w => of_at (y := y) (m := m) (by omega) (by omega) h0 h1 w)
      have hdb := dimA_bd y m
      obtain ⟨f, hf⟩ : ∃ f, num y m 1 = f := ⟨_, rfl⟩
      obtain ⟨q, hq⟩ : ∃ q, dimA y m = q := ⟨_, rfl⟩
      rw [hf] at HE CO
      rw [hq] at HE CD CO hdb
      obtain ⟨hq0, hq1⟩ := hdb
      clear hgo hf hq
      go_enter Try.func8, Try.ntmps8
      go_wp2_with (first | (go_at_call 17; refine (fixed_any _).mono ?_; rintro e w1 ⟨rfl, hb⟩; have HB := Lib.hid hb; clear hb) | (go_at_call 24; refine (CN.out _).mono ?_; rintro e w2 ⟨rfl, hb⟩; have HB2 := Lib.hid (bthen HB.out hb.below); clear hb HB) | fail)
      go_loopw [11, 12, 13, 14] (fun v11 v12 v13 v14 W => ∃ (D cnt want : Int) (s : Bool), 0 ≤ D ∧ D ≤ q ∧ 0 ≤ cnt ∧ cnt ≤ D ∧ v11 = .int .i64 want ∧ v12 = .bool s ∧ v13 = .int .i64 cnt ∧ v14 = .int .i64 (D + 1) ∧ Hid (NthI f wd n D cnt want s) ∧ Hid (Below w.heap.size w W)) (fun _ _ _ v14 _ => (q + 1 - intOf v14).toNat)
      case atStart => exact ⟨0, 0, 0, false, by omega, by omega, by omega, by omega, rfl, rfl, rfl, rfl, nthi_0 f wd n, HB2.out⟩
      case round =>
        obtain ⟨D, cnt, want, s, hD0, hD1, hc0, hc1, rfl, rfl, rfl, rfl, HI, HBB⟩ := hrel
        by_cases hlt : D < q
        · by_cases hm : (f + D + 3) % 7 = wd
          · have hm' : ((f + D + 3) % 7 != wd) = false := by rw [hm]; simp
            have HM := Lib.hid hm
            clear hm
            go_wp2_with (first | (go_at_call 22; refine (CD.out _).mono ?_; rintro e w3 ⟨rfl, hb⟩; have HB3 := Lib.hid (bthen HBB.out hb); clear hb) | (go_at_call 21; refine (CO.out D hD0 (by omega) _).mono ?_; rintro e w4 ⟨rfl, hb⟩; have HB4 := Lib.hid (bthen HB3.out hb); clear hb HB3) | (go_at_call 25; refine (rwd_any _ _).mono ?_; rintro e w5 ⟨rfl, rfl⟩) | fail)
            all_goals
              go_roundw
              case rel =>
                first
                  | exact ⟨D + 1, _, _, _, by omega, by omega, by omega, by omega, rfl, rfl, rfl, rfl, (by have e : cnt + 1 = n := by assumption
                                                                                                           have h := nthi_hit HI.out HM.out (.inl e)
                                                                                                           rw [e] at h; exact h), HB4.out⟩
                  | exact ⟨D + 1, _, _, _, by omega, by omega, by omega, by omega, rfl, rfl, rfl, rfl, nthi_hit HI.out HM.out (by have e : (cnt + 1 == n) = true ∨ (n == -1) = true := by assumption
                                                                                                                                  simpa using e), HB4.out⟩
                  | exact ⟨D + 1, _, _, _, by omega, by omega, by omega, by omega, rfl, rfl, rfl, rfl, nthi_pass HI.out HM.out (by assumption) (by have e : (cnt + 1 == n) = false ∧ (n == -1) = false := by assumption
                                                                                                                                                   simpa using e.2), HB4.out⟩
              case measure => simp [intOf]; omega
          · have hm' : ((f + D + 3) % 7 != wd) = true := by simpa using hm
            have HM := Lib.hid hm
            clear hm
            go_wp2_with (first | (go_at_call 22; refine (CD.out _).mono ?_; rintro e w3 ⟨rfl, hb⟩; have HB3 := Lib.hid (bthen HBB.out hb); clear hb) | (go_at_call 21; refine (CO.out D hD0 (by omega) _).mono ?_; rintro e w4 ⟨rfl, hb⟩; have HB4 := Lib.hid (bthen HB3.out hb); clear hb HB3) | (go_at_call 25; refine (rwd_any _ _).mono ?_; rintro e w5 ⟨rfl, rfl⟩) | fail)
            go_roundw
            case rel => exact ⟨D + 1, _, _, _, by omega, by omega, by omega, by omega, rfl, rfl, rfl, rfl, nthi_skip HI.out HM.out, HB4.out⟩
            case measure => simp [intOf]; omega
        · obtain rfl : D = q := by omega
          obtain ⟨e1, e2⟩ := HE.out cnt want s HI.out
          have hz := HI.out.2.2.2.2.2.2
          by_cases hn0 : n = 0
          · have hs : s = false := by
              cases s with
              | false => rfl
              | true => have := hz.2.1 rfl; omega
            have hw := hz.1 hs
            subst hs hw e1 e2 hn0
            go_wp2_with (first | (go_at_call 22; refine (CD.out _).mono ?_; rintro e w3 ⟨rfl, hb⟩; have HB3 := Lib.hid (bthen HBB.out hb); clear hb) | fail)
            go_ret
            exact ⟨rfl, HB3.out⟩
          · by_cases hn1 : n < -1
            · have hs : s = false := by
                cases s with
                | false => rfl
                | true => have := hz.2.1 rfl; omega
              have hw := hz.1 hs
              subst hs hw e1 e2
              go_wp2_with (first | (go_at_call 22; refine (CD.out _).mono ?_; rintro e w3 ⟨rfl, hb⟩; have HB3 := Lib.hid (bthen HBB.out hb); clear hb) | fail)
              go_ret
              exact ⟨rfl, HB3.out⟩
            · have hn0' : (n == 0) = false := by simpa using hn0
              subst e1 e2
              clear hz
              go_wp2_with (first | (go_at_call 22; refine (CD.out _).mono ?_; rintro e w3 ⟨rfl, hb⟩; have HB3 := Lib.hid (bthen HBB.out hb); clear hb) | fail)
              go_ret
              exact ⟨by first | rfl | simp, HB3.out⟩
end Go.Proofs.Ytdbaeigbejcobaa.Cal
