import Derived.Test.YtdbaeigbejcobaaCalParts
import Derived.Deep.DeepCutAuto
import Derived.OpenShut
namespace Go.Proofs.Ytdbaeigbejcobaa.Cal
open Go.RowKit Go.Proofs.Ytdbaeigbejcobaa.PCalendarWork Go.Proofs.YtdbaeigbejcobaaW.PrintWords
set_option linter.unusedVariables false
set_option linter.unusedSimpArgs false
theorem place_le {a b M K d e : Int} (hM : 1 ≤ d) (he : e ≤ dimM K) (h1 : numM M d = a) (h2 : numM K e = b) (hab : a ≤ b) : M ≤ K := by
  by_cases h : M ≤ K
  · exact h
  · have h3 := numM_mono (M := K + 1) (K := M) (by omega)
    have h4 := numM_succ K
    have h5 := numM_day M d
    have h6 := numM_day K e
    omega
theorem betw_yes {a b : Int} (ha : -719162 ≤ a) (hab : a ≤ b) (hb : b ≤ 2932896) : ∃ (y m d at' more : Int) (can : Bool), calendar_Between.f 4 a b = some (y, m, d, true) ∧ calendar_Months.f 2 a (12 * y + m) = some (at', true) ∧ calendar_Months.f 2 a (12 * y + m + 1) = some (more, can) ∧ 0 ≤ y ∧ y ≤ 10000 ∧ 0 ≤ m ∧ m < 12 ∧ 0 ≤ d ∧ d ≤ 10000000 ∧ at' + d = b ∧ -10000000 ≤ at' ∧ at' ≤ 10000000 ∧ (can = true → b < more) := by
  obtain ⟨M, d, hM, hd1, hd2, hMn, hp⟩ := place_yes a ha (by omega)
  obtain ⟨K, e, hK, he1, he2, hKn, hq⟩ := place_yes b (by omega) hb
  have hMb := dimM_bd M
  have hKb := dimM_bd K
  have hMK := place_le hd1 he2 hMn hKn hab
  have hM' := hM
  have hK' := hK
  unfold InM at hM' hK'
  have hday := numM_day
  have hbt := between_f hp hq hM hK hd1 (by omega) hab hMK (by omega) hb (fun e => by subst e; rw [show min d (dimM M) = d by omega]; omega) 0
  have key : ∀ N : Int, M ≤ N → N ≤ K → (N = K ∨ N + 1 = K) → numM N (min d (dimM N)) ≤ b → (N + 1 = K → b < numM K (min d (dimM K))) → calendar_Between.f 4 a b = some ((N - M) / 12, (N - M) % 12, b - numM N (min d (dimM N)), true) → ∃ (y m d at' more : Int) (can : Bool), calendar_Between.f 4 a b = some (y, m, d, true) ∧ calendar_Months.f 2 a (12 * y + m) = some (at', true) ∧ calendar_Months.f 2 a (12 * y + m + 1) = some (more, can) ∧ 0 ≤ y ∧ y ≤ 10000 ∧ 0 ≤ m ∧ m < 12 ∧ 0 ≤ d ∧ d ≤ 10000000 ∧ at' + d = b ∧ -10000000 ≤ at' ∧ at' ≤ 10000000 ∧ (can = true → b < more) := by
    intro N h1 h2 h3 h4 h5 h6
    have hN : InM N := by unfold InM; omega
    have hNb := dimM_bd N
    have hbd := numM_bd hN (d := min d (dimM N)) (by omega) (by omega)
    have e1 : 12 * ((N - M) / 12) + (N - M) % 12 = N - M := by omega
    refine ⟨(N - M) / 12, (N - M) % 12, b - numM N (min d (dimM N)), numM N (min d (dimM N)), (if InM (N + 1) then numM (N + 1) (min d (dimM (N + 1))) else 0), decide (InM (N + 1)), h6, ?_, ?_, by omega, by omega, by omega, by omega, by omega, by omega, by omega, by omega, by omega, ?_⟩
    · rw [e1, months_f hp hM hd1 (by omega), show M + (N - M) = N by omega, if_pos ⟨by omega, by omega, hN⟩]
    · rw [e1, months_f hp hM hd1 (by omega), show M + (N - M + 1) = N + 1 by omega]
      by_cases hi : InM (N + 1)
      · rw [if_pos ⟨by omega, by omega, hi⟩, if_pos hi, decide_eq_true hi]
      · rw [if_neg (fun q => hi q.2.2), if_neg hi, decide_eq_false hi]
    · intro hc
      have hi := of_decide_eq_true hc
      rw [if_pos hi]
      rcases h3 with h3 | h3
      · subst h3
        have h7 := numM_succ N
        have h8 := hday (N + 1) (min d (dimM (N + 1)))
        have h9 := hday N e
        have h10 := dimM_bd (N + 1)
        omega
      · rw [h3]; exact h5 h3
  by_cases h : numM K (min d (dimM K)) > b
  · rw [if_pos h] at hbt
    have hlt : M < K := by
      by_cases e : M = K
      · subst e; rw [show min d (dimM M) = d by omega] at h; omega
      · omega
    have h7 := numM_succ (K - 1)
    rw [show K - 1 + 1 = K by omega] at h7
    have h8 := hday (K - 1) (min d (dimM (K - 1)))
    have h9 := hday K e
    have h10 := dimM_bd (K - 1)
    exact key (K - 1) (by omega) (by omega) (by omega) (by omega) (fun _ => h) (by rw [hbt, show K - M - 1 = K - 1 - M by omega])
  · rw [if_neg h] at hbt
    exact key K hMK (by omega) (.inl rfl) (by omega) (fun q => by omega) hbt
theorem place_any (n : Int) : ∃ M d, ∀ k, calendar_place.f (k + 1) n = some (M, d, decide (-719162 ≤ n ∧ n ≤ 2932896)) := by
  by_cases h : -719162 ≤ n ∧ n ≤ 2932896
  · obtain ⟨M, d, _, _, _, _, hp⟩ := place_yes n h.1 h.2
    exact ⟨M, d, by rw [decide_eq_true h]; exact hp⟩
  · exact ⟨-1, 0, by rw [decide_eq_false h]; exact place_no n (by omega)⟩
theorem betw_no {a b : Int} (h : ¬ ((-719162 ≤ a ∧ a ≤ 2932896) ∧ (-719162 ≤ b ∧ b ≤ 2932896) ∧ a ≤ b)) : calendar_Between.f 4 a b = some (0, 0, 0, false) := by
  obtain ⟨M, d, hp⟩ := place_any a
  obtain ⟨K, e, hq⟩ := place_any b
  unfold calendar_Between.f
  rw [hp, hq]
  simp only [Option.bind_some, decide_eq_true_eq, calendar_Between.j0]
  by_cases h1 : -719162 ≤ a ∧ a ≤ 2932896
  · rw [if_pos h1]
    by_cases h2 : -719162 ≤ b ∧ b ≤ 2932896
    · rw [if_pos h2, if_pos (by omega)]
    · rw [if_neg h2]; simp
  · rw [if_neg h1]; simp
abbrev PartsAny (n : Int) (w : World) (e : Ending) (w' : World) : Prop := ∃ y m d, e = .returned (.tuple #[.int .i64 y, .int .i64 m, .int .i64 d, .bool (decide (-719162 ≤ n ∧ n ≤ 2932896))]) ∧ Below w.heap.size w w'
theorem parts_any (n : Int) (w : World) : Calls Try.prog 19 #[.int .i64 n] w (PartsAny n w) := by
  by_cases h : -719162 ≤ n ∧ n ≤ 2932896
  · refine (parts_yes n h.1 h.2 w).mono ?_
    rintro e w' ⟨y, m, d, _, _, rfl, hb⟩
    exact ⟨y, m, d, by rw [decide_eq_true h], hb⟩
  · refine (parts_no n (by omega) w).mono ?_
    rintro e w' ⟨rfl, hb⟩
    exact ⟨0, 0, 0, by rw [decide_eq_false h], hb⟩
theorem parts_in (n : Int) (h1 : -719162 ≤ n) (h2 : n ≤ 2932896) (w : World) : Calls Try.prog 19 #[.int .i64 n] w fun e w' => ∃ y m d, e = .returned (.tuple #[.int .i64 y, .int .i64 m, .int .i64 d, .bool true]) ∧ Below w.heap.size w w' := by
  refine (parts_yes n h1 h2 w).mono ?_
  rintro e w' ⟨y, m, d, _, _, rfl, hb⟩
  exact ⟨y, m, d, rfl, hb⟩
set_option maxHeartbeats 8000000 in
set_option maxRecDepth 100000 in
theorem between_true (a b : Int) (ha1 : -9223372036854775808 ≤ a) (ha2 : a ≤ 9223372036854775807) (hb1 : -9223372036854775808 ≤ b) (hb2 : b ≤ 9223372036854775807) (w : World) : Calls Try.prog 7 #[.int .i64 a, .int .i64 b] w (Tr w) := by
  have CP := Lib.hid parts_in
  have CPN := Lib.hid parts_no
  by_cases h : (-719162 ≤ a ∧ a ≤ 2932896) ∧ (-719162 ≤ b ∧ b ≤ 2932896) ∧ a ≤ b
  · obtain ⟨⟨h1, h2⟩, ⟨h3, h4⟩, h5⟩ := h
    obtain ⟨y, m, d, at', more, can, e1, e2, e3, hy0, hy1, hm0, hm1, hd0, hd1, had, hat0, hat1, hcan⟩ := betw_yes h1 h5 h4
    have CB := Lib.hid (fun w => calendar_Between.calls 4 a b y m d true w e1)
    have CM1 := Lib.hid (fun w => calendar_Months.calls 2 a (12 * y + m) at' true w e2)
    have CM2 := Lib.hid (fun w => calendar_Months.calls 2 a (12 * y + m + 1) more can w e3)
    have hmore := Lib.hid hcan
    clear e1 e2 e3
    rcases Bool.eq_false_or_eq_true can with rfl | rfl
    all_goals
     try have hcn := hcan rfl
     clear hcan
     go_enter Try.func7, Try.ntmps7
     go_wp2_with (first | (go_at_call 17; refine (fixed_any _).mono ?_; rintro e w1 ⟨rfl, hb⟩; have HB := Lib.hid hb; clear hb) | (go_at_call 23; refine (CB.out _).mono ?_; rintro e w2 ⟨rfl, hb⟩; have HB2 := Lib.hid (bthen HB.out hb); clear hb HB; have HB := HB2; clear HB2) | (go_at_call 19; refine (CP.out _ (by omega) (by omega) _).mono ?_; rintro e w3 ⟨y1, m1, d1, rfl, hb⟩; have HB2 := Lib.hid (bthen HB.out hb); clear hb HB; have HB := HB2; clear HB2) | (go_at_call 18; refine (CM1.out _).mono ?_; rintro e w2 ⟨rfl, hb⟩; have HB2 := Lib.hid (bthen HB.out hb); clear hb HB CM1; have HB := HB2; clear HB2) | (go_at_call 18; refine (CM2.out _).mono ?_; rintro e w2 ⟨rfl, hb⟩; have HB2 := Lib.hid (bthen HB.out hb); clear hb HB; have HB := HB2; clear HB2) | fail)
     go_ret
     exact ⟨rfl, HB.out⟩
  · have CB := Lib.hid (fun w => calendar_Between.calls 4 a b 0 0 0 false w (betw_no h))
    have hz : (a < -719162 ∧ b < 0) ∨ (a < -719162 ∧ 0 ≤ b ∧ b ≤ 2932896) ∨ (a < -719162 ∧ 2932896 < b) ∨ (2932896 < a ∧ b < 0) ∨ (2932896 < a ∧ 0 ≤ b ∧ b ≤ 2932896) ∨ (2932896 < a ∧ 2932896 < b) ∨ (-719162 ≤ a ∧ a ≤ 2932896 ∧ b < -719162) ∨ (-719162 ≤ a ∧ a ≤ 2932896 ∧ 2932896 < b) ∨ (-719162 ≤ b ∧ a ≤ 2932896 ∧ b < a) := by omega
    clear h
    rcases hz with ⟨h1, h2⟩ | ⟨h1, h2, h3⟩ | ⟨h1, h2⟩ | ⟨h1, h2⟩ | ⟨h1, h2, h3⟩ | ⟨h1, h2⟩ | ⟨h1, h2, h3⟩ | ⟨h1, h2, h3⟩ | ⟨h1, h2, h3⟩
    · by_cases h4 : b < -719162
      · go_enter Try.func7, Try.ntmps7
        go_wp2_with (first | (go_at_call 17; refine (fixed_any _).mono ?_; rintro e w1 ⟨rfl, hb⟩; have HB := Lib.hid hb; clear hb) | (go_at_call 23; refine (CB.out _).mono ?_; rintro e w2 ⟨rfl, hb⟩; have HB2 := Lib.hid (bthen HB.out hb); clear hb HB; have HB := HB2; clear HB2) | (go_at_call 19; (first | (refine (CP.out _ (by omega) (by omega) _).mono ?_; rintro e w3 ⟨y1, m1, d1, rfl, hb⟩) | (refine (CPN.out _ (by omega) _).mono ?_; rintro e w3 ⟨rfl, hb⟩)); have HB2 := Lib.hid (bthen HB.out hb); clear hb HB; have HB := HB2; clear HB2) | fail)
        all_goals
          go_ret
          exact ⟨rfl, HB.out⟩
      · go_enter Try.func7, Try.ntmps7
        go_wp2_with (first | (go_at_call 17; refine (fixed_any _).mono ?_; rintro e w1 ⟨rfl, hb⟩; have HB := Lib.hid hb; clear hb) | (go_at_call 23; refine (CB.out _).mono ?_; rintro e w2 ⟨rfl, hb⟩; have HB2 := Lib.hid (bthen HB.out hb); clear hb HB; have HB := HB2; clear HB2) | (go_at_call 19; (first | (refine (CP.out _ (by omega) (by omega) _).mono ?_; rintro e w3 ⟨y1, m1, d1, rfl, hb⟩) | (refine (CPN.out _ (by omega) _).mono ?_; rintro e w3 ⟨rfl, hb⟩)); have HB2 := Lib.hid (bthen HB.out hb); clear hb HB; have HB := HB2; clear HB2) | fail)
        all_goals
          go_ret
          exact ⟨rfl, HB.out⟩
    · go_enter Try.func7, Try.ntmps7
      go_wp2_with (first | (go_at_call 17; refine (fixed_any _).mono ?_; rintro e w1 ⟨rfl, hb⟩; have HB := Lib.hid hb; clear hb) | (go_at_call 23; refine (CB.out _).mono ?_; rintro e w2 ⟨rfl, hb⟩; have HB2 := Lib.hid (bthen HB.out hb); clear hb HB; have HB := HB2; clear HB2) | (go_at_call 19; (first | (refine (CP.out _ (by omega) (by omega) _).mono ?_; rintro e w3 ⟨y1, m1, d1, rfl, hb⟩) | (refine (CPN.out _ (by omega) _).mono ?_; rintro e w3 ⟨rfl, hb⟩)); have HB2 := Lib.hid (bthen HB.out hb); clear hb HB; have HB := HB2; clear HB2) | fail)
      all_goals
        go_ret
        exact ⟨rfl, HB.out⟩
    · go_enter Try.func7, Try.ntmps7
      go_wp2_with (first | (go_at_call 17; refine (fixed_any _).mono ?_; rintro e w1 ⟨rfl, hb⟩; have HB := Lib.hid hb; clear hb) | (go_at_call 23; refine (CB.out _).mono ?_; rintro e w2 ⟨rfl, hb⟩; have HB2 := Lib.hid (bthen HB.out hb); clear hb HB; have HB := HB2; clear HB2) | (go_at_call 19; (first | (refine (CP.out _ (by omega) (by omega) _).mono ?_; rintro e w3 ⟨y1, m1, d1, rfl, hb⟩) | (refine (CPN.out _ (by omega) _).mono ?_; rintro e w3 ⟨rfl, hb⟩)); have HB2 := Lib.hid (bthen HB.out hb); clear hb HB; have HB := HB2; clear HB2) | fail)
      all_goals
        go_ret
        exact ⟨rfl, HB.out⟩
    · by_cases h4 : b < -719162
      · go_enter Try.func7, Try.ntmps7
        go_wp2_with (first | (go_at_call 17; refine (fixed_any _).mono ?_; rintro e w1 ⟨rfl, hb⟩; have HB := Lib.hid hb; clear hb) | (go_at_call 23; refine (CB.out _).mono ?_; rintro e w2 ⟨rfl, hb⟩; have HB2 := Lib.hid (bthen HB.out hb); clear hb HB; have HB := HB2; clear HB2) | (go_at_call 19; (first | (refine (CP.out _ (by omega) (by omega) _).mono ?_; rintro e w3 ⟨y1, m1, d1, rfl, hb⟩) | (refine (CPN.out _ (by omega) _).mono ?_; rintro e w3 ⟨rfl, hb⟩)); have HB2 := Lib.hid (bthen HB.out hb); clear hb HB; have HB := HB2; clear HB2) | fail)
        all_goals
          go_ret
          exact ⟨rfl, HB.out⟩
      · go_enter Try.func7, Try.ntmps7
        go_wp2_with (first | (go_at_call 17; refine (fixed_any _).mono ?_; rintro e w1 ⟨rfl, hb⟩; have HB := Lib.hid hb; clear hb) | (go_at_call 23; refine (CB.out _).mono ?_; rintro e w2 ⟨rfl, hb⟩; have HB2 := Lib.hid (bthen HB.out hb); clear hb HB; have HB := HB2; clear HB2) | (go_at_call 19; (first | (refine (CP.out _ (by omega) (by omega) _).mono ?_; rintro e w3 ⟨y1, m1, d1, rfl, hb⟩) | (refine (CPN.out _ (by omega) _).mono ?_; rintro e w3 ⟨rfl, hb⟩)); have HB2 := Lib.hid (bthen HB.out hb); clear hb HB; have HB := HB2; clear HB2) | fail)
        all_goals
          go_ret
          exact ⟨rfl, HB.out⟩
    · go_enter Try.func7, Try.ntmps7
      go_wp2_with (first | (go_at_call 17; refine (fixed_any _).mono ?_; rintro e w1 ⟨rfl, hb⟩; have HB := Lib.hid hb; clear hb) | (go_at_call 23; refine (CB.out _).mono ?_; rintro e w2 ⟨rfl, hb⟩; have HB2 := Lib.hid (bthen HB.out hb); clear hb HB; have HB := HB2; clear HB2) | (go_at_call 19; (first | (refine (CP.out _ (by omega) (by omega) _).mono ?_; rintro e w3 ⟨y1, m1, d1, rfl, hb⟩) | (refine (CPN.out _ (by omega) _).mono ?_; rintro e w3 ⟨rfl, hb⟩)); have HB2 := Lib.hid (bthen HB.out hb); clear hb HB; have HB := HB2; clear HB2) | fail)
      all_goals
        go_ret
        exact ⟨rfl, HB.out⟩
    · go_enter Try.func7, Try.ntmps7
      go_wp2_with (first | (go_at_call 17; refine (fixed_any _).mono ?_; rintro e w1 ⟨rfl, hb⟩; have HB := Lib.hid hb; clear hb) | (go_at_call 23; refine (CB.out _).mono ?_; rintro e w2 ⟨rfl, hb⟩; have HB2 := Lib.hid (bthen HB.out hb); clear hb HB; have HB := HB2; clear HB2) | (go_at_call 19; (first | (refine (CP.out _ (by omega) (by omega) _).mono ?_; rintro e w3 ⟨y1, m1, d1, rfl, hb⟩) | (refine (CPN.out _ (by omega) _).mono ?_; rintro e w3 ⟨rfl, hb⟩)); have HB2 := Lib.hid (bthen HB.out hb); clear hb HB; have HB := HB2; clear HB2) | fail)
      all_goals
        go_ret
        exact ⟨rfl, HB.out⟩
    · go_enter Try.func7, Try.ntmps7
      go_wp2_with (first | (go_at_call 17; refine (fixed_any _).mono ?_; rintro e w1 ⟨rfl, hb⟩; have HB := Lib.hid hb; clear hb) | (go_at_call 23; refine (CB.out _).mono ?_; rintro e w2 ⟨rfl, hb⟩; have HB2 := Lib.hid (bthen HB.out hb); clear hb HB; have HB := HB2; clear HB2) | (go_at_call 19; (first | (refine (CP.out _ (by omega) (by omega) _).mono ?_; rintro e w3 ⟨y1, m1, d1, rfl, hb⟩) | (refine (CPN.out _ (by omega) _).mono ?_; rintro e w3 ⟨rfl, hb⟩)); have HB2 := Lib.hid (bthen HB.out hb); clear hb HB; have HB := HB2; clear HB2) | fail)
      all_goals
        go_ret
        exact ⟨rfl, HB.out⟩
    · go_enter Try.func7, Try.ntmps7
      go_wp2_with (first | (go_at_call 17; refine (fixed_any _).mono ?_; rintro e w1 ⟨rfl, hb⟩; have HB := Lib.hid hb; clear hb) | (go_at_call 23; refine (CB.out _).mono ?_; rintro e w2 ⟨rfl, hb⟩; have HB2 := Lib.hid (bthen HB.out hb); clear hb HB; have HB := HB2; clear HB2) | (go_at_call 19; (first | (refine (CP.out _ (by omega) (by omega) _).mono ?_; rintro e w3 ⟨y1, m1, d1, rfl, hb⟩) | (refine (CPN.out _ (by omega) _).mono ?_; rintro e w3 ⟨rfl, hb⟩)); have HB2 := Lib.hid (bthen HB.out hb); clear hb HB; have HB := HB2; clear HB2) | fail)
      all_goals
        go_ret
        exact ⟨rfl, HB.out⟩
    · go_enter Try.func7, Try.ntmps7
      go_wp2_with (first | (go_at_call 17; refine (fixed_any _).mono ?_; rintro e w1 ⟨rfl, hb⟩; have HB := Lib.hid hb; clear hb) | (go_at_call 23; refine (CB.out _).mono ?_; rintro e w2 ⟨rfl, hb⟩; have HB2 := Lib.hid (bthen HB.out hb); clear hb HB; have HB := HB2; clear HB2) | (go_at_call 19; (first | (refine (CP.out _ (by omega) (by omega) _).mono ?_; rintro e w3 ⟨y1, m1, d1, rfl, hb⟩) | (refine (CPN.out _ (by omega) _).mono ?_; rintro e w3 ⟨rfl, hb⟩)); have HB2 := Lib.hid (bthen HB.out hb); clear hb HB; have HB := HB2; clear HB2) | fail)
      all_goals
        go_ret
        exact ⟨rfl, HB.out⟩
theorem between_row {a b : Int} (wa : (Lit.int .i64 a).wf = true) (wb : (Lit.int .i64 b).wf = true) (w : World) : Calls Try.prog 7 #[.int .i64 a, .int .i64 b] w (Tr w) := by
  obtain ⟨h1, h2⟩ := bounds_i64 wa
  obtain ⟨h3, h4⟩ := bounds_i64 wb
  exact between_true a b (by omega) (by omega) (by omega) (by omega) w
end Go.Proofs.Ytdbaeigbejcobaa.Cal
