import Derived.Test.YtdbaeigbejcobaaCalParts
import Derived.Deep.DeepCutAuto
import Derived.OpenShut
namespace Go.Proofs.Ytdbaeigbejcobaa.Cal
open Go.RowKit Go.Proofs.Ytdbaeigbejcobaa.PCalendarWork Go.Proofs.YtdbaeigbejcobaaW.PrintWords
set_option linter.unusedVariables false
set_option linter.unusedSimpArgs false
theorem place_of {y m d n : Int} (hv : Vld y m d) (hn : num y m d = n) (k : Nat) : calendar_place.f (k + 1) n = some (12 * y + m - 1, d, true) := by
  have hb := num_bd hv
  obtain ⟨M, e, hM, he1, he2, hMn, hp⟩ := place_yes n (by omega) (by omega)
  have hi := num_inj hv (vldM hM he1 he2) (by unfold numM at hMn; omega)
  have e1 : 12 * y + m - 1 = M := by omega
  rw [e1, hi.2.2]
  exact hp k
theorem year_near {y m d n : Int} (hv : Vld y m d) (hn : num y m d = n) (h1 : -100000 ≤ n) (h2 : n ≤ 200000) : 1600 ≤ y ∧ y ≤ 2600 := by
  have hy := num_year hv
  have f1 : fst 1600 = -135140 := by decide
  have f2 : fst 2600 = 230103 := by decide
  constructor
  · by_cases h : 1600 ≤ y
    · exact h
    · have := fst_mono (a := y + 1) (b := 1600) (by omega); omega
  · by_cases h : y ≤ 2600
    · exact h
    · have := fst_mono (a := 2600) (b := y) (by omega); omega
theorem parts_is {y m d n : Int} (hv : Vld y m d) (hn : num y m d = n) (w : World) : Calls Try.prog 19 #[.int .i64 n] w fun e w' => e = .returned (.tuple #[.int .i64 y, .int .i64 m, .int .i64 d, .bool true]) ∧ Below w.heap.size w w' := by
  have hb := num_bd hv
  refine (parts_yes n (by omega) (by omega) w).mono ?_
  rintro e w' ⟨y1, m1, d1, hv1, hn1, rfl, hbb⟩
  obtain ⟨rfl, rfl, rfl⟩ := num_inj hv hv1 (by omega)
  exact ⟨rfl, hbb⟩
theorem of_is (y m x : Int) (w : World) : Calls Try.prog 21 #[.int .i64 y, .int .i64 m, .int .i64 x] w fun e w' => e = .returned (.int .i64 (numA y m x)) ∧ Below w.heap.size w w' :=
  (fuseelaw39_of.calls 20000 y m x _ w (of_f y m x (Nat.le_refl _))).mono fun _ _ q => ⟨q.1, q.2⟩
theorem months_out {a c : Int} (h : ¬ (-719162 ≤ a ∧ a ≤ 2932896) ∨ (-719162 ≤ a ∧ a ≤ 2932896)) : ∃ (r : Int) (ok : Bool), calendar_Months.f 2 a c = some (r, ok) ∧ (ok = true ∨ r = 0) := by
  rcases h with h | h
  · exact ⟨0, false, months_no (by omega) c 1, .inr rfl⟩
  · obtain ⟨M, d, hM, hd1, hd2, hMn, hp⟩ := place_yes a h.1 h.2
    have hb := dimM_bd M
    have hf := months_f hp hM hd1 (by omega) c 0
    rw [hf]
    by_cases hc : -200000 ≤ c ∧ c ≤ 200000 ∧ InM (M + c)
    · rw [if_pos hc]; exact ⟨_, _, rfl, .inl rfl⟩
    · rw [if_neg hc]; exact ⟨_, _, rfl, .inr rfl⟩
set_option maxHeartbeats 8000000 in
set_option maxRecDepth 100000 in
theorem months_true (a n : Int) (ha1 : -9223372036854775808 ≤ a) (ha2 : a ≤ 9223372036854775807) (hb1 : -9223372036854775808 ≤ n) (hb2 : n ≤ 9223372036854775807) (w : World) : Calls Try.prog 6 #[.int .i64 a, .int .i64 n] w (Tr w) := by
  by_cases h : -100000 ≤ a ∧ a ≤ 200000 ∧ -3000 ≤ n ∧ n ≤ 3000
  · obtain ⟨h1, h2, h3, h4⟩ := h
    obtain ⟨y, m, d, hv, hn, -⟩ := day_yes a (by omega) (by omega)
    have hyn := year_near hv hn h1 h2
    have hp := place_of hv hn
    have hm := hv.2.1
    have hd := hv.2.2
    have hM : InM (12 * y + m - 1) := by unfold InM; omega
    have hdm := dim_bd (y := y) hm.1 hm.2
    have e1 : (12 * y + m - 1) / 12 = y := by omega
    have e2 : (12 * y + m - 1) % 12 + 1 = m := by omega
    have hdM : dimM (12 * y + m - 1) = dim y m := by unfold dimM; rw [e1, e2]
    have hnM : ∀ x, numM (12 * y + m - 1) x = num y m x := fun x => by unfold numM; rw [e1, e2]
    have hMn : InM (12 * y + m - 1 + n) := by unfold InM; omega
    have hf := months_f hp hM hd.1 (by omega) n 0
    rw [if_pos ⟨by omega, by omega, hMn⟩] at hf
    obtain ⟨t, ht⟩ : ∃ t, numM (12 * y + m - 1 + n) (min d (dimM (12 * y + m - 1 + n))) = t := ⟨_, rfl⟩
    rw [ht] at hf
    have CM := Lib.hid (fun w => calendar_Months.calls 2 a n t true w hf)
    have he := end_f hp hM 0
    rw [hdM, hnM] at he
    have hve : Vld y m (dim y m) := ⟨hv.1, hv.2.1, by omega, by omega⟩
    obtain ⟨E, hE⟩ : ∃ E, num y m (dim y m) = E := ⟨_, rfl⟩
    rw [hE] at he
    have CE := Lib.hid (fun w => calendar_End.calls 2 a E true w he)
    have CP := Lib.hid (fun w => parts_is hv hn w)
    have CPE := Lib.hid (fun w => parts_is hve hE w)
    have hdA : dimA y m = dim y m := by unfold dimA; rw [if_pos ⟨hv.1, hv.2.1⟩]
    have CD0 := Lib.hid (fun w => hdA ▸ rdays_at y m w)
    have CF := Lib.hid (show ∀ y' m' : Int, 12 * y' + m' - 1 = 12 * y + m - 1 + n → 1 ≤ m' → m' ≤ 12 → ∃ q, 28 ≤ q ∧ q ≤ 31 ∧ (∀ w, Calls Try.prog 22 #[.int .i64 y', .int .i64 m'] w fun e w' => e = .returned (.int .i64 q) ∧ Below w.heap.size w w') ∧ (∀ x, x = min d q → ∀ w, Calls Try.prog 21 #[.int .i64 y', .int .i64 m', .int .i64 x] w fun e w' => e = .returned (.int .i64 t) ∧ Below w.heap.size w w') from by
      intro y' m' he' hm1 hm2
      have hb := dim_bd (y := y') hm1 hm2
      have e3 : (12 * y + m - 1 + n) / 12 = y' := by omega
      have e4 : (12 * y + m - 1 + n) % 12 + 1 = m' := by omega
      have hdA' : dimA y' m' = dim y' m' := by unfold dimA; rw [if_pos ⟨by omega, hm1, hm2⟩]
      refine ⟨dim y' m', hb.1, hb.2, fun w => hdA' ▸ rdays_at y' m' w, fun x hx w => ?_⟩
      have : numA y' m' x = t := by
        unfold numA
        rw [if_pos ⟨by omega, ⟨hm1, hm2⟩, by omega, by omega⟩, ← ht]
        unfold numM dimM
        rw [e3, e4, hx]
      exact this ▸ of_is y' m' x w)
    obtain ⟨h5, h6⟩ := hyn
    obtain ⟨h7, h8⟩ := hm
    obtain ⟨h9, h10⟩ := hd
    obtain ⟨h11, h12⟩ := hdm
    clear hv hn hp hM e1 e2 hdM hnM hMn hf ht he hve hE hdA
    generalize dim y m = q0 at *
    have hn3 : 0 < n ∨ (0 ≤ n ∧ n ≤ 0) ∨ n < 0 := by omega
    rcases hn3 with hn0 | ⟨hn0, hn1⟩ | hn0
    · go_enter Try.func6, Try.ntmps6
      go_wp2_with (first | (go_at_call 17; refine (fixed_any _).mono ?_; rintro e w1 ⟨rfl, hb⟩; have HB := Lib.hid hb; clear hb) | (go_at_call 19; refine (CP.out _).mono ?_; rintro e w2 ⟨rfl, hb⟩; have HB2 := Lib.hid (bthen HB.out hb); clear hb HB; have HB := HB2; clear HB2) | fail)
      go_loopw [7, 8, 61] (fun v7 v8 v61 W => ∃ y' m' i : Int, v7 = .int .i64 y' ∧ v8 = .int .i64 m' ∧ v61 = .int .i64 i ∧ 0 ≤ i ∧ i ≤ n ∧ 1 ≤ m' ∧ m' ≤ 12 ∧ 12 * y' + m' - 1 = 12 * y + m - 1 + i ∧ Hid (Below w.heap.size w W)) (fun _ _ v61 _ => (n - intOf v61).toNat)
      case atStart => exact ⟨y, m, 0, rfl, rfl, rfl, by omega, by omega, by omega, by omega, by omega, HB.out⟩
      case round =>
        clear HB
        obtain ⟨y', m', i, rfl, rfl, rfl, hi0, hi1, hm0, hm1, hym, HB⟩ := hrel
        by_cases hlt : i < n
        · go_wp2_with fail
          all_goals
            go_roundw
            case rel => exact ⟨_, _, i + 1, rfl, rfl, rfl, by omega, by omega, by omega, by omega, by omega, HB.out⟩
            case measure => simp [intOf]; omega
        · obtain ⟨q, hq1, hq2, CD, CO⟩ := CF.out y' m' (by omega) hm0 hm1
          have CD := Lib.hid CD
          have CO := Lib.hid CO
          have hs : (y' = y ∧ m' = m) ∨ True := .inr trivial
          go_wp2_with (first | (go_at_call 18; refine (CM.out _).mono ?_; rintro e w2 ⟨rfl, hb⟩; have HB2 := Lib.hid (bthen HB.out hb); clear hb HB; have HB := HB2; clear HB2) | (go_at_call 20; refine (CE.out _).mono ?_; rintro e w2 ⟨rfl, hb⟩; have HB2 := Lib.hid (bthen HB.out hb); clear hb HB; have HB := HB2; clear HB2) | (go_at_call 19; refine (CPE.out _).mono ?_; rintro e w2 ⟨rfl, hb⟩; have HB2 := Lib.hid (bthen HB.out hb); clear hb HB CPE; have HB := HB2; clear HB2) | (go_at_call 19; refine (CP.out _).mono ?_; rintro e w2 ⟨rfl, hb⟩; have HB2 := Lib.hid (bthen HB.out hb); clear hb HB; have HB := HB2; clear HB2) | (go_at_call 22; refine (CD.out _).mono ?_; rintro e w2 ⟨rfl, hb⟩; have HB2 := Lib.hid (bthen HB.out hb); clear hb HB CD; have HB := HB2; clear HB2) | (go_at_call 22; refine (CD0.out _).mono ?_; rintro e w2 ⟨rfl, hb⟩; have HB2 := Lib.hid (bthen HB.out hb); clear hb HB; have HB := HB2; clear HB2) | (go_at_call 21; refine (CO.out _ (by omega) _).mono ?_; rintro e w2 ⟨rfl, hb⟩; have HB2 := Lib.hid (bthen HB.out hb); clear hb HB; have HB := HB2; clear HB2) | fail)
          all_goals
            go_ret
            exact ⟨rfl, HB.out⟩
    · go_enter Try.func6, Try.ntmps6
      go_wp2_with (first | (go_at_call 17; refine (fixed_any _).mono ?_; rintro e w1 ⟨rfl, hb⟩; have HB := Lib.hid hb; clear hb) | (go_at_call 19; refine (CP.out _).mono ?_; rintro e w2 ⟨rfl, hb⟩; have HB2 := Lib.hid (bthen HB.out hb); clear hb HB; have HB := HB2; clear HB2) | fail)
      go_loopw [7, 8, 61] (fun v7 v8 v61 W => ∃ y' m' i : Int, v7 = .int .i64 y' ∧ v8 = .int .i64 m' ∧ v61 = .int .i64 i ∧ 0 ≤ i ∧ i ≤ n ∧ 1 ≤ m' ∧ m' ≤ 12 ∧ 12 * y' + m' - 1 = 12 * y + m - 1 + i ∧ Hid (Below w.heap.size w W)) (fun _ _ v61 _ => (n - intOf v61).toNat)
      case atStart => exact ⟨y, m, 0, rfl, rfl, rfl, by omega, by omega, by omega, by omega, by omega, HB.out⟩
      case round =>
        clear HB
        obtain ⟨y', m', i, rfl, rfl, rfl, hi0, hi1, hm0, hm1, hym, HB⟩ := hrel
        by_cases hlt : i < n
        · go_wp2_with fail
          all_goals
            go_roundw
            case rel => exact ⟨_, _, i + 1, rfl, rfl, rfl, by omega, by omega, by omega, by omega, by omega, HB.out⟩
            case measure => simp [intOf]; omega
        · obtain ⟨q, hq1, hq2, CD, CO⟩ := CF.out y' m' (by omega) hm0 hm1
          have CD := Lib.hid CD
          have CO := Lib.hid CO
          have hs : (y' = y ∧ m' = m) ∨ True := .inr trivial
          go_wp2_with (first | (go_at_call 18; refine (CM.out _).mono ?_; rintro e w2 ⟨rfl, hb⟩; have HB2 := Lib.hid (bthen HB.out hb); clear hb HB; have HB := HB2; clear HB2) | (go_at_call 20; refine (CE.out _).mono ?_; rintro e w2 ⟨rfl, hb⟩; have HB2 := Lib.hid (bthen HB.out hb); clear hb HB; have HB := HB2; clear HB2) | (go_at_call 19; refine (CPE.out _).mono ?_; rintro e w2 ⟨rfl, hb⟩; have HB2 := Lib.hid (bthen HB.out hb); clear hb HB CPE; have HB := HB2; clear HB2) | (go_at_call 19; refine (CP.out _).mono ?_; rintro e w2 ⟨rfl, hb⟩; have HB2 := Lib.hid (bthen HB.out hb); clear hb HB; have HB := HB2; clear HB2) | (go_at_call 22; refine (CD.out _).mono ?_; rintro e w2 ⟨rfl, hb⟩; have HB2 := Lib.hid (bthen HB.out hb); clear hb HB CD; have HB := HB2; clear HB2) | (go_at_call 22; refine (CD0.out _).mono ?_; rintro e w2 ⟨rfl, hb⟩; have HB2 := Lib.hid (bthen HB.out hb); clear hb HB; have HB := HB2; clear HB2) | (go_at_call 21; refine (CO.out _ (by omega) _).mono ?_; rintro e w2 ⟨rfl, hb⟩; have HB2 := Lib.hid (bthen HB.out hb); clear hb HB; have HB := HB2; clear HB2) | fail)
          all_goals
            go_ret
            exact ⟨rfl, HB.out⟩
    · go_enter Try.func6, Try.ntmps6
      go_wp2_with (first | (go_at_call 17; refine (fixed_any _).mono ?_; rintro e w1 ⟨rfl, hb⟩; have HB := Lib.hid hb; clear hb) | (go_at_call 19; refine (CP.out _).mono ?_; rintro e w2 ⟨rfl, hb⟩; have HB2 := Lib.hid (bthen HB.out hb); clear hb HB; have HB := HB2; clear HB2) | fail)
      go_loopw [7, 8, 61] (fun v7 v8 v61 W => ∃ y' m' i : Int, v7 = .int .i64 y' ∧ v8 = .int .i64 m' ∧ v61 = .int .i64 i ∧ 0 ≤ i ∧ i ≤ -n ∧ 1 ≤ m' ∧ m' ≤ 12 ∧ 12 * y' + m' - 1 = 12 * y + m - 1 - i ∧ Hid (Below w.heap.size w W)) (fun _ _ v61 _ => (-n - intOf v61).toNat)
      case atStart => exact ⟨y, m, 0, rfl, rfl, rfl, by omega, by omega, by omega, by omega, by omega, HB.out⟩
      case round =>
        clear HB
        obtain ⟨y', m', i, rfl, rfl, rfl, hi0, hi1, hm0, hm1, hym, HB⟩ := hrel
        by_cases hlt : i < -n
        · go_wp2_with fail
          all_goals
            go_roundw
            case rel => exact ⟨_, _, i + 1, rfl, rfl, rfl, by omega, by omega, by omega, by omega, by omega, HB.out⟩
            case measure => simp [intOf]; omega
        · obtain ⟨q, hq1, hq2, CD, CO⟩ := CF.out y' m' (by omega) hm0 hm1
          have CD := Lib.hid CD
          have CO := Lib.hid CO
          have hs : (y' = y ∧ m' = m) ∨ True := .inr trivial
          go_wp2_with (first | (go_at_call 18; refine (CM.out _).mono ?_; rintro e w2 ⟨rfl, hb⟩; have HB2 := Lib.hid (bthen HB.out hb); clear hb HB; have HB := HB2; clear HB2) | (go_at_call 20; refine (CE.out _).mono ?_; rintro e w2 ⟨rfl, hb⟩; have HB2 := Lib.hid (bthen HB.out hb); clear hb HB; have HB := HB2; clear HB2) | (go_at_call 19; refine (CPE.out _).mono ?_; rintro e w2 ⟨rfl, hb⟩; have HB2 := Lib.hid (bthen HB.out hb); clear hb HB CPE; have HB := HB2; clear HB2) | (go_at_call 19; refine (CP.out _).mono ?_; rintro e w2 ⟨rfl, hb⟩; have HB2 := Lib.hid (bthen HB.out hb); clear hb HB; have HB := HB2; clear HB2) | (go_at_call 22; refine (CD.out _).mono ?_; rintro e w2 ⟨rfl, hb⟩; have HB2 := Lib.hid (bthen HB.out hb); clear hb HB CD; have HB := HB2; clear HB2) | (go_at_call 22; refine (CD0.out _).mono ?_; rintro e w2 ⟨rfl, hb⟩; have HB2 := Lib.hid (bthen HB.out hb); clear hb HB; have HB := HB2; clear HB2) | (go_at_call 21; refine (CO.out _ (by omega) _).mono ?_; rintro e w2 ⟨rfl, hb⟩; have HB2 := Lib.hid (bthen HB.out hb); clear hb HB; have HB := HB2; clear HB2) | fail)
          all_goals
            go_ret
            exact ⟨rfl, HB.out⟩
  · obtain ⟨r, ok, hr, hok⟩ := months_out (a := a) (c := n) (by omega)
    have CM := Lib.hid (fun w => calendar_Months.calls 2 a n r ok w hr)
    clear hr
    have hz : a < -100000 ∨ 200000 < a ∨ (-100000 ≤ a ∧ a ≤ 200000 ∧ n < -3000) ∨ (-100000 ≤ a ∧ a ≤ 200000 ∧ 3000 < n) := by omega
    clear h
    rcases hz with h1 | h1 | ⟨h1, h2, h3⟩ | ⟨h1, h2, h3⟩
    all_goals
      rcases hok with rfl | rfl
      · go_enter Try.func6, Try.ntmps6
        go_wp2_with (first | (go_at_call 17; refine (fixed_any _).mono ?_; rintro e w1 ⟨rfl, hb⟩; have HB := Lib.hid hb; clear hb) | (go_at_call 18; refine (CM.out _).mono ?_; rintro e w2 ⟨rfl, hb⟩; have HB2 := Lib.hid (bthen HB.out hb); clear hb) | fail)
        go_ret
        exact ⟨rfl, HB2.out⟩
      · rcases Bool.eq_false_or_eq_true ok with rfl | rfl
        all_goals
          go_enter Try.func6, Try.ntmps6
          go_wp2_with (first | (go_at_call 17; refine (fixed_any _).mono ?_; rintro e w1 ⟨rfl, hb⟩; have HB := Lib.hid hb; clear hb) | (go_at_call 18; refine (CM.out _).mono ?_; rintro e w2 ⟨rfl, hb⟩; have HB2 := Lib.hid (bthen HB.out hb); clear hb) | fail)
          go_ret
          exact ⟨rfl, HB2.out⟩
theorem months_row {a b : Int} (wa : (Lit.int .i64 a).wf = true) (wb : (Lit.int .i64 b).wf = true) (w : World) : Calls Try.prog 6 #[.int .i64 a, .int .i64 b] w (Tr w) := by
  obtain ⟨h1, h2⟩ := bounds_i64 wa
  obtain ⟨h3, h4⟩ := bounds_i64 wb
  exact months_true a b (by omega) (by omega) (by omega) (by omega) w
end Go.Proofs.Ytdbaeigbejcobaa.Cal
