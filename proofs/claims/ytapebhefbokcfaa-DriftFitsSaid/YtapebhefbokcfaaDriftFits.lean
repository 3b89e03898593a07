import Derived.Test.YtapebhefbokcfaaDriftWalks6
namespace Go.Proofs.Ytapebhefbokcfaa.DWalk
open Go.RowKit Go.Proofs.Ytapebhefbokcfaa.DMath

theorem clampk (x : Int) (w : World) (h : -1099511627776 ≤ x ∧ x ≤ 1099511627776) : Calls Try.prog 30 #[.int .i64 x] w fun e w' => e = .returned (.int .i64 x) ∧ w = w' := by
  have := clamp_any x w
  rwa [show cl x = x by unfold cl; (repeat' split) <;> omega] at this
theorem clampn (x c : Int) (w : World) (h : c = cl x) : Calls Try.prog 30 #[.int .i64 x] w fun e w' => e = .returned (.int .i64 c) ∧ w = w' := h ▸ clamp_any x w
theorem cl_ne {x : Int} (h : ¬ (-1099511627776 ≤ x ∧ x ≤ 1099511627776)) : (cl x == x) = false := by
  rw [beq_eq_false_iff_ne]; unfold cl; (repeat' split) <;> omega
abbrev Tr (w : World) (e : Ending) (w' : World) : Prop := e = .returned (.bool true) ∧ Below w.heap.size w w'

set_option maxHeartbeats 1000000 in
theorem fits_no0 (n1 f1 n2 f2 : Int) (w : World)  (h : ¬ (-1099511627776 ≤ n1 ∧ n1 ≤ 1099511627776)) : Calls Try.prog 9 #[.int .i64 n1, .int .i64 f1, .int .i64 n2, .int .i64 f2] w (Tr w) := by
  have CF := Lib.hid fixed_any
  have CG := Lib.hid (fun w => fit_no n1 f1 n2 f2 w (by unfold Ins; omega))
  obtain ⟨c, hc⟩ : ∃ c, c = cl n1 := ⟨_, rfl⟩
  have C0 := Lib.hid (fun w => clampn n1 c w hc)
  have hne : (c == n1) = false := by rw [hc]; exact cl_ne h
  clear  h hc
  go_enter Try.func9, Try.ntmps9
  go_wp2_with (first
    | (go_at_call 25; (with_reducible (refine (CF.out _).mono ?_)); rintro e w1 ⟨rfl, hb⟩; have HB := Lib.hid hb; clear hb)
    | (go_at_call 33; (with_reducible (refine (CG.out _).mono ?_)); rintro e w2 ⟨rfl, hb⟩; replace HB := Lib.hid (below_then HB.out hb); clear hb)
    | (go_at_call_of 30 (Value.int IntKind.i64 n1); (with_reducible (refine (C0.out _).mono ?_)); rintro e wp ⟨rfl, rfl⟩)
    | fail)
  go_ret
  exact ⟨rfl, HB.out.alloc (HB.out.size) _⟩

set_option maxHeartbeats 1000000 in
theorem fits_no1 (n1 f1 n2 f2 : Int) (w : World) (h0 : -1099511627776 ≤ n1 ∧ n1 ≤ 1099511627776) (h : ¬ (-1099511627776 ≤ n2 ∧ n2 ≤ 1099511627776)) : Calls Try.prog 9 #[.int .i64 n1, .int .i64 f1, .int .i64 n2, .int .i64 f2] w (Tr w) := by
  have CF := Lib.hid fixed_any
  have CG := Lib.hid (fun w => fit_no n1 f1 n2 f2 w (by unfold Ins; omega))
  have C0 := Lib.hid (fun w => clampk n1 w h0)
  obtain ⟨c, hc⟩ : ∃ c, c = cl n2 := ⟨_, rfl⟩
  have C1 := Lib.hid (fun w => clampn n2 c w hc)
  have hne : (c == n2) = false := by rw [hc]; exact cl_ne h
  clear h0 h hc
  go_enter Try.func9, Try.ntmps9
  go_wp2_with (first
    | (go_at_call 25; (with_reducible (refine (CF.out _).mono ?_)); rintro e w1 ⟨rfl, hb⟩; have HB := Lib.hid hb; clear hb)
    | (go_at_call 33; (with_reducible (refine (CG.out _).mono ?_)); rintro e w2 ⟨rfl, hb⟩; replace HB := Lib.hid (below_then HB.out hb); clear hb)
    | (go_at_call_of 30 (Value.int IntKind.i64 n1); (with_reducible (refine (C0.out _).mono ?_)); rintro e wp ⟨rfl, rfl⟩)
    | (go_at_call_of 30 (Value.int IntKind.i64 n2); (with_reducible (refine (C1.out _).mono ?_)); rintro e wp ⟨rfl, rfl⟩)
    | fail)
  go_ret
  exact ⟨rfl, HB.out.alloc (HB.out.size) _⟩

set_option maxHeartbeats 1000000 in
theorem fits_no2 (n1 f1 n2 f2 : Int) (w : World) (h0 : -1099511627776 ≤ n1 ∧ n1 ≤ 1099511627776) (h1 : -1099511627776 ≤ n2 ∧ n2 ≤ 1099511627776) (h : ¬ (-1099511627776 ≤ f1 ∧ f1 ≤ 1099511627776)) : Calls Try.prog 9 #[.int .i64 n1, .int .i64 f1, .int .i64 n2, .int .i64 f2] w (Tr w) := by
  have CF := Lib.hid fixed_any
  have CG := Lib.hid (fun w => fit_no n1 f1 n2 f2 w (by unfold Ins; omega))
  have C0 := Lib.hid (fun w => clampk n1 w h0)
  have C1 := Lib.hid (fun w => clampk n2 w h1)
  obtain ⟨c, hc⟩ : ∃ c, c = cl f1 := ⟨_, rfl⟩
  have C2 := Lib.hid (fun w => clampn f1 c w hc)
  have hne : (c == f1) = false := by rw [hc]; exact cl_ne h
  clear h0 h1 h hc
  go_enter Try.func9, Try.ntmps9
  go_wp2_with (first
    | (go_at_call 25; (with_reducible (refine (CF.out _).mono ?_)); rintro e w1 ⟨rfl, hb⟩; have HB := Lib.hid hb; clear hb)
    | (go_at_call 33; (with_reducible (refine (CG.out _).mono ?_)); rintro e w2 ⟨rfl, hb⟩; replace HB := Lib.hid (below_then HB.out hb); clear hb)
    | (go_at_call_of 30 (Value.int IntKind.i64 n1); (with_reducible (refine (C0.out _).mono ?_)); rintro e wp ⟨rfl, rfl⟩)
    | (go_at_call_of 30 (Value.int IntKind.i64 n2); (with_reducible (refine (C1.out _).mono ?_)); rintro e wp ⟨rfl, rfl⟩)
    | (go_at_call_of 30 (Value.int IntKind.i64 f1); (with_reducible (refine (C2.out _).mono ?_)); rintro e wp ⟨rfl, rfl⟩)
    | fail)
  go_ret
  exact ⟨rfl, HB.out.alloc (HB.out.size) _⟩

set_option maxHeartbeats 1000000 in
theorem fits_no3 (n1 f1 n2 f2 : Int) (w : World) (h0 : -1099511627776 ≤ n1 ∧ n1 ≤ 1099511627776) (h1 : -1099511627776 ≤ n2 ∧ n2 ≤ 1099511627776) (h2 : -1099511627776 ≤ f1 ∧ f1 ≤ 1099511627776) (h : ¬ (-1099511627776 ≤ f2 ∧ f2 ≤ 1099511627776)) : Calls Try.prog 9 #[.int .i64 n1, .int .i64 f1, .int .i64 n2, .int .i64 f2] w (Tr w) := by
  have CF := Lib.hid fixed_any
  have CG := Lib.hid (fun w => fit_no n1 f1 n2 f2 w (by unfold Ins; omega))
  have C0 := Lib.hid (fun w => clampk n1 w h0)
  have C1 := Lib.hid (fun w => clampk n2 w h1)
  have C2 := Lib.hid (fun w => clampk f1 w h2)
  obtain ⟨c, hc⟩ : ∃ c, c = cl f2 := ⟨_, rfl⟩
  have C3 := Lib.hid (fun w => clampn f2 c w hc)
  have hne : (c == f2) = false := by rw [hc]; exact cl_ne h
  clear h0 h1 h2 h hc
  go_enter Try.func9, Try.ntmps9
  go_wp2_with (first
    | (go_at_call 25; (with_reducible (refine (CF.out _).mono ?_)); rintro e w1 ⟨rfl, hb⟩; have HB := Lib.hid hb; clear hb)
    | (go_at_call 33; (with_reducible (refine (CG.out _).mono ?_)); rintro e w2 ⟨rfl, hb⟩; replace HB := Lib.hid (below_then HB.out hb); clear hb)
    | (go_at_call_of 30 (Value.int IntKind.i64 n1); (with_reducible (refine (C0.out _).mono ?_)); rintro e wp ⟨rfl, rfl⟩)
    | (go_at_call_of 30 (Value.int IntKind.i64 n2); (with_reducible (refine (C1.out _).mono ?_)); rintro e wp ⟨rfl, rfl⟩)
    | (go_at_call_of 30 (Value.int IntKind.i64 f1); (with_reducible (refine (C2.out _).mono ?_)); rintro e wp ⟨rfl, rfl⟩)
    | (go_at_call_of 30 (Value.int IntKind.i64 f2); (with_reducible (refine (C3.out _).mono ?_)); rintro e wp ⟨rfl, rfl⟩)
    | fail)
  go_ret
  exact ⟨rfl, HB.out.alloc (HB.out.size) _⟩

set_option maxHeartbeats 1000000 in
theorem fits_no4 (n1 f1 n2 f2 : Int) (w : World) (h0 : -1099511627776 ≤ n1 ∧ n1 ≤ 1099511627776) (h1 : -1099511627776 ≤ n2 ∧ n2 ≤ 1099511627776) (h2 : -1099511627776 ≤ f1 ∧ f1 ≤ 1099511627776) (h3 : -1099511627776 ≤ f2 ∧ f2 ≤ 1099511627776) (h : n2 ≤ n1) : Calls Try.prog 9 #[.int .i64 n1, .int .i64 f1, .int .i64 n2, .int .i64 f2] w (Tr w) := by
  have CF := Lib.hid fixed_any
  have CG := Lib.hid (fun w => fit_no n1 f1 n2 f2 w (by unfold Ins; omega))
  have C0 := Lib.hid (fun w => clampk n1 w h0)
  have C1 := Lib.hid (fun w => clampk n2 w h1)
  have C2 := Lib.hid (fun w => clampk f1 w h2)
  have C3 := Lib.hid (fun w => clampk f2 w h3)
  have hd : decide (n1 < n2) = false := decide_eq_false (by omega)
  clear h0 h1 h2 h3
  go_enter Try.func9, Try.ntmps9
  go_wp2_with (first
    | (go_at_call 25; (with_reducible (refine (CF.out _).mono ?_)); rintro e w1 ⟨rfl, hb⟩; have HB := Lib.hid hb; clear hb)
    | (go_at_call 33; (with_reducible (refine (CG.out _).mono ?_)); rintro e w2 ⟨rfl, hb⟩; replace HB := Lib.hid (below_then HB.out hb); clear hb)
    | (go_at_call_of 30 (Value.int IntKind.i64 n1); (with_reducible (refine (C0.out _).mono ?_)); rintro e wp ⟨rfl, rfl⟩)
    | (go_at_call_of 30 (Value.int IntKind.i64 n2); (with_reducible (refine (C1.out _).mono ?_)); rintro e wp ⟨rfl, rfl⟩)
    | (go_at_call_of 30 (Value.int IntKind.i64 f1); (with_reducible (refine (C2.out _).mono ?_)); rintro e wp ⟨rfl, rfl⟩)
    | (go_at_call_of 30 (Value.int IntKind.i64 f2); (with_reducible (refine (C3.out _).mono ?_)); rintro e wp ⟨rfl, rfl⟩)
    | fail)
  go_ret
  exact ⟨rfl, HB.out.alloc (HB.out.size) _⟩

theorem fit_ok (n1 f1 n2 f2 R : Int) (w : World) (h : Ins n1 f1 n2 f2) (hk : FitOk n1 f1 n2 f2) (hR : R = rate n1 f1 n2 f2) : Calls Try.prog 33 #[.int .i64 n1, .int .i64 f1, .int .i64 n2, .int .i64 f2] w fun e w' => e = .returned (.tuple #[.agg #[.int .i64 n1, .int .i64 f1, .int .i64 R], .bool true]) ∧ Below w.heap.size w w' :=
  (fit_yes n1 f1 n2 f2 w h).mono fun e w' ⟨q, hb⟩ => by
    rcases q with ⟨_, q⟩ | ⟨q, _⟩
    · exact ⟨hR ▸ q, hb⟩
    · exact absurd hk q
theorem fit_nok (n1 f1 n2 f2 : Int) (w : World) (h : Ins n1 f1 n2 f2) (hk : ¬ FitOk n1 f1 n2 f2) : Calls Try.prog 33 #[.int .i64 n1, .int .i64 f1, .int .i64 n2, .int .i64 f2] w fun e w' => e = .returned (.tuple #[.agg #[.int .i64 0, .int .i64 0, .int .i64 0], .bool false]) ∧ Below w.heap.size w w' :=
  (fit_yes n1 f1 n2 f2 w h).mono fun e w' ⟨q, hb⟩ => by
    rcases q with ⟨q, _⟩ | ⟨_, q⟩
    · exact absurd q hk
    · exact ⟨q, hb⟩
theorem above_at (d r n : Int) (b : Bool) (w : World) (hn0 : -4398046511104 ≤ d) (hn : d ≤ 4398046511104) (hr0 : -1000000 ≤ r) (hr : r ≤ 1000000) (h : abB d r n = b) :
    Calls Try.prog 34 #[.int .i64 d, .int .i64 r, .int .i64 n] w fun e w' => e = .returned (.bool b) ∧ w = w' := h ▸ above_any d r n w hn0 hn hr0 hr
theorem part_at (d r k : Int) (w : World) (hn0 : -4398046511104 ≤ d) (hn : d ≤ 4398046511104) (hr0 : -1000000 ≤ r) (hr : r ≤ 1000000) (h : pt d r = k) :
    Calls Try.prog 31 #[.int .i64 d, .int .i64 r] w fun e w' => e = .returned (.int .i64 k) ∧ w = w' := h ▸ part_any d r w hn0 hn hr0 hr
/-- The rate is the greatest whose part isn't above what is more. -/
theorem rate_fits {d m : Int} (hd : 0 < d) : d * (m * 1000000000 / d) ≤ m * 1000000000 ∧ m * 1000000000 < d * (m * 1000000000 / d + 1) := by
  have e := Int.mul_ediv_add_emod (m * 1000000000) d
  have a := Int.emod_nonneg (m * 1000000000) (show d ≠ 0 by omega)
  have b := Int.emod_lt_of_pos (m * 1000000000) hd
  have e2 : d * (m * 1000000000 / d + 1) = d * (m * 1000000000 / d) + d := by rw [Int.mul_add, Int.mul_one]
  omega
set_option maxHeartbeats 2000000 in
theorem fits_ok (n1 f1 n2 f2 : Int) (w : World) (h : Ins n1 f1 n2 f2) (hk : FitOk n1 f1 n2 f2) : Calls Try.prog 9 #[.int .i64 n1, .int .i64 f1, .int .i64 n2, .int .i64 f2] w (Tr w) := by
  have CF := Lib.hid fixed_any
  obtain ⟨R, hR⟩ : ∃ R, R = rate n1 f1 n2 f2 := ⟨_, rfl⟩
  have CG := Lib.hid (fun w => fit_ok n1 f1 n2 f2 R w h hk hR)
  obtain ⟨h0, h1, h2, h3, h4⟩ := h
  have C0 := Lib.hid (fun w => clampk n1 w h0)
  have C1 := Lib.hid (fun w => clampk n2 w h1)
  have C2 := Lib.hid (fun w => clampk f1 w h2)
  have C3 := Lib.hid (fun w => clampk f2 w h3)
  obtain ⟨h0a, h0b⟩ := h0
  obtain ⟨h1a, h1b⟩ := h1
  obtain ⟨h2a, h2b⟩ := h2
  obtain ⟨h3a, h3b⟩ := h3
  have hr := rate_fits (d := n2 - n1) (m := f2 - f1 - (n2 - n1)) (by omega)
  have hR' : R = (f2 - f1 - (n2 - n1)) * 1000000000 / (n2 - n1) := hR
  rw [← hR'] at hr
  obtain ⟨_, _, hk1, hk2⟩ := hk
  rw [← hR] at hk1 hk2
  obtain ⟨p, hp⟩ : ∃ p, pt (n2 - n1) R = p := ⟨_, rfl⟩
  have hp2 : p ≤ f2 - f1 - (n2 - n1) := by rw [← hp]; unfold pt; have := hr.1; omega
  have C4 := Lib.hid (fun w => rightl_yes n1 f1 R w ⟨hk1, hk2, h0a, h0b, h2a, h2b⟩)
  have C5 := Lib.hid (fun w => part_at (n2 - n1) R p w (by omega) (by omega) (by omega) (by omega) hp)
  have C6 := Lib.hid (fun w => above_at (n2 - n1) (R + 1) (f2 - f1 - (n2 - n1)) true w (by omega) (by omega) (by omega) (by omega) (decide_eq_true hr.2))
  clear hR hR' hp hr
  go_enter Try.func9, Try.ntmps9
  go_wp2_with (first
    | (go_at_call 25; (with_reducible (refine (CF.out _).mono ?_)); rintro e w1 ⟨rfl, hb⟩; have HB := Lib.hid hb; clear hb)
    | (go_at_call 33; (with_reducible (refine (CG.out _).mono ?_)); rintro e w2 ⟨rfl, hb⟩; replace HB := Lib.hid (below_then HB.out hb); clear hb)
    | (go_at_call_of 30 (Value.int IntKind.i64 n1); (with_reducible (refine (C0.out _).mono ?_)); rintro e wp ⟨rfl, rfl⟩)
    | (go_at_call_of 30 (Value.int IntKind.i64 n2); (with_reducible (refine (C1.out _).mono ?_)); rintro e wp ⟨rfl, rfl⟩)
    | (go_at_call_of 30 (Value.int IntKind.i64 f1); (with_reducible (refine (C2.out _).mono ?_)); rintro e wp ⟨rfl, rfl⟩)
    | (go_at_call_of 30 (Value.int IntKind.i64 f2); (with_reducible (refine (C3.out _).mono ?_)); rintro e wp ⟨rfl, rfl⟩)
    | (go_at_call 27; (with_reducible (refine (C4.out _).mono ?_)); rintro e w3 ⟨rfl, hb⟩; have r0 : w3.cell? ⟨w2.heap.size, 0, none⟩ = some (.int .i64 (n1)) := ((bcell hb).1 w2.heap.size 0 (by simp)).trans (by simp); have r1 : w3.cell? ⟨w2.heap.size, 1, none⟩ = some (.int .i64 (f1)) := ((bcell hb).1 w2.heap.size 1 (by simp)).trans (by simp); have r2 : w3.cell? ⟨w2.heap.size, 2, none⟩ = some (.int .i64 (R)) := ((bcell hb).1 w2.heap.size 2 (by simp)).trans (by simp); replace HB := Lib.hid (below_then HB.out (below_box _ hb)); clear hb)
    | (go_at_call 31; (with_reducible (refine (C5.out _).mono ?_)); rintro e wp ⟨rfl, rfl⟩)
    | (go_at_call 34; (with_reducible (refine (C6.out _).mono ?_)); rintro e wp ⟨rfl, rfl⟩)
    | fail)
  go_ret
  exact ⟨rfl, HB.out⟩

theorem nok_or {d m : Int} (hd : 0 < d) (h1 : m ≤ d → -d ≤ m → ¬ (-500000 ≤ m * 1000000000 / d ∧ m * 1000000000 / d ≤ 500000)) : m * 1000000000 < d * (-500000) ∨ ¬ m * 1000000000 < d * 500001 := by
  by_cases a : m ≤ d
  · by_cases b : -d ≤ m
    · have h := h1 a b
      by_cases c : -500000 ≤ m * 1000000000 / d
      · right
        have h3 : 500001 ≤ m * 1000000000 / d := by omega
        rw [Int.le_ediv_iff_mul_le hd] at h3
        omega
      · left
        have h3 : m * 1000000000 / d < -500000 := by omega
        rw [Int.ediv_lt_iff_lt_mul hd] at h3
        omega
    · left; omega
  · right; omega
set_option maxHeartbeats 2000000 in
theorem fits_nok (n1 f1 n2 f2 : Int) (w : World) (h : Ins n1 f1 n2 f2) (hk : ¬ FitOk n1 f1 n2 f2) : Calls Try.prog 9 #[.int .i64 n1, .int .i64 f1, .int .i64 n2, .int .i64 f2] w (Tr w) := by
  have CF := Lib.hid fixed_any
  have CG := Lib.hid (fun w => fit_nok n1 f1 n2 f2 w h hk)
  obtain ⟨h0, h1, h2, h3, h4⟩ := h
  have C0 := Lib.hid (fun w => clampk n1 w h0)
  have C1 := Lib.hid (fun w => clampk n2 w h1)
  have C2 := Lib.hid (fun w => clampk f1 w h2)
  have C3 := Lib.hid (fun w => clampk f2 w h3)
  obtain ⟨h0a, h0b⟩ := h0
  obtain ⟨h1a, h1b⟩ := h1
  obtain ⟨h2a, h2b⟩ := h2
  obtain ⟨h3a, h3b⟩ := h3
  have hr := nok_or (d := n2 - n1) (m := f2 - f1 - (n2 - n1)) (by omega) (fun a b c => hk ⟨a, b, c⟩)
  clear hk
  by_cases hc : (f2 - f1 - (n2 - n1)) * 1000000000 < (n2 - n1) * (-500000)
  · have C5 := Lib.hid (fun w => above_at (n2 - n1) (-500000) (f2 - f1 - (n2 - n1)) true w (by omega) (by omega) (by omega) (by omega) (decide_eq_true hc))
    clear hr hc
    go_enter Try.func9, Try.ntmps9
    go_wp2_with (first
    | (go_at_call 25; (with_reducible (refine (CF.out _).mono ?_)); rintro e w1 ⟨rfl, hb⟩; have HB := Lib.hid hb; clear hb)
    | (go_at_call 33; (with_reducible (refine (CG.out _).mono ?_)); rintro e w2 ⟨rfl, hb⟩; replace HB := Lib.hid (below_then HB.out hb); clear hb)
    | (go_at_call_of 30 (Value.int IntKind.i64 n1); (with_reducible (refine (C0.out _).mono ?_)); rintro e wp ⟨rfl, rfl⟩)
    | (go_at_call_of 30 (Value.int IntKind.i64 n2); (with_reducible (refine (C1.out _).mono ?_)); rintro e wp ⟨rfl, rfl⟩)
    | (go_at_call_of 30 (Value.int IntKind.i64 f1); (with_reducible (refine (C2.out _).mono ?_)); rintro e wp ⟨rfl, rfl⟩)
    | (go_at_call_of 30 (Value.int IntKind.i64 f2); (with_reducible (refine (C3.out _).mono ?_)); rintro e wp ⟨rfl, rfl⟩)
    | (go_at_call 34; (with_reducible (refine (C5.out _).mono ?_)); rintro e wp ⟨rfl, rfl⟩)
    | fail)
    go_ret
    exact ⟨rfl, HB.out.alloc (HB.out.size) _⟩
  · have C5 := Lib.hid (fun w => above_at (n2 - n1) (-500000) (f2 - f1 - (n2 - n1)) false w (by omega) (by omega) (by omega) (by omega) (decide_eq_false hc))
    have C6 := Lib.hid (fun w => above_at (n2 - n1) 500001 (f2 - f1 - (n2 - n1)) false w (by omega) (by omega) (by omega) (by omega) (decide_eq_false (hr.resolve_left hc)))
    clear hr hc
    go_enter Try.func9, Try.ntmps9
    go_wp2_with (first
    | (go_at_call 25; (with_reducible (refine (CF.out _).mono ?_)); rintro e w1 ⟨rfl, hb⟩; have HB := Lib.hid hb; clear hb)
    | (go_at_call 33; (with_reducible (refine (CG.out _).mono ?_)); rintro e w2 ⟨rfl, hb⟩; replace HB := Lib.hid (below_then HB.out hb); clear hb)
    | (go_at_call_of 30 (Value.int IntKind.i64 n1); (with_reducible (refine (C0.out _).mono ?_)); rintro e wp ⟨rfl, rfl⟩)
    | (go_at_call_of 30 (Value.int IntKind.i64 n2); (with_reducible (refine (C1.out _).mono ?_)); rintro e wp ⟨rfl, rfl⟩)
    | (go_at_call_of 30 (Value.int IntKind.i64 f1); (with_reducible (refine (C2.out _).mono ?_)); rintro e wp ⟨rfl, rfl⟩)
    | (go_at_call_of 30 (Value.int IntKind.i64 f2); (with_reducible (refine (C3.out _).mono ?_)); rintro e wp ⟨rfl, rfl⟩)
    | (go_at_call_of 34 (Value.int IntKind.i64 500001); (with_reducible (refine (C6.out _).mono ?_)); rintro e wp ⟨rfl, rfl⟩)
    | (go_at_call 34; (with_reducible (refine (C5.out _).mono ?_)); rintro e wp ⟨rfl, rfl⟩)
    | fail)
    go_ret
    exact ⟨rfl, HB.out.alloc (HB.out.size) _⟩
theorem fits_true (n1 f1 n2 f2 : Int) (w : World) : Calls Try.prog 9 #[.int .i64 n1, .int .i64 f1, .int .i64 n2, .int .i64 f2] w (Tr w) := by
  by_cases h0 : -1099511627776 ≤ n1 ∧ n1 ≤ 1099511627776
  · by_cases h1 : -1099511627776 ≤ n2 ∧ n2 ≤ 1099511627776
    · by_cases h2 : -1099511627776 ≤ f1 ∧ f1 ≤ 1099511627776
      · by_cases h3 : -1099511627776 ≤ f2 ∧ f2 ≤ 1099511627776
        · by_cases h4 : n1 < n2
          · by_cases hk : FitOk n1 f1 n2 f2
            · exact fits_ok n1 f1 n2 f2 w ⟨h0, h1, h2, h3, h4⟩ hk
            · exact fits_nok n1 f1 n2 f2 w ⟨h0, h1, h2, h3, h4⟩ hk
          · exact fits_no4 n1 f1 n2 f2 w h0 h1 h2 h3 (by omega)
        · exact fits_no3 n1 f1 n2 f2 w h0 h1 h2 h3
      · exact fits_no2 n1 f1 n2 f2 w h0 h1 h2
    · exact fits_no1 n1 f1 n2 f2 w h0 h1
  · exact fits_no0 n1 f1 n2 f2 w h0
end Go.Proofs.Ytapebhefbokcfaa.DWalk
