import Derived.Test.YtapebhefbokcfaaWinPl
namespace Go.Proofs.Ytapebhefbokcfaa.Win
open Go.RowKit Go.Proofs.Ytapebhefbokcfaa.DebW
set_option linter.unusedVariables false
set_option linter.unusedSimpArgs false
set_option maxHeartbeats 4000000 in
set_option maxRecDepth 100000 in
theorem plays_none (wd pt : Int) (h : ¬ wok wd pt) (A : Option Addr) (n c : Nat) (hn : n ≤ 100) (w : World) : Calls Try.prog 5 #[.int .i64 wd, .int .i64 pt, .slice A n c] w (Tr w) := by
  have CN := Lib.hid (fun (W : World) => new_none wd pt h W)
  unfold wok at h
  rcases (show wd < 1 ∨ (1 ≤ wd ∧ 1099511627776 < wd) ∨ ((1 ≤ wd ∧ wd ≤ 1099511627776) ∧ pt < 1) ∨ ((1 ≤ wd ∧ wd ≤ 1099511627776) ∧ 1 ≤ pt ∧ 64 < pt) ∨ ((1 ≤ wd ∧ wd ≤ 1099511627776) ∧ (1 ≤ pt ∧ pt ≤ 64) ∧ wd % pt ≠ 0) by omega) with h1 | ⟨h0, h1⟩ | ⟨⟨h0, h0'⟩, h1⟩ | ⟨⟨h0, h0'⟩, h1, h2⟩ | ⟨⟨h0, h0'⟩, ⟨h1, h2⟩, h3⟩
  all_goals
    clear h
    try (have hz : ¬ pt = 0 := by omega
         have hq1 := Int.emod_nonneg wd (show pt ≠ 0 by omega)
         have hq2 := Int.emod_lt_of_pos wd (show 0 < pt by omega)
         have hw : IntKind.i64.wrap (wd.tmod pt) = wd % pt := by rw [Int.tmod_eq_emod_of_nonneg (by omega)]; exact iw (by omega) (by omega))
    go_enter Try.func5, Try.ntmps5
    go_wp2_with (first
      | (go_at_call 17; refine (fixed_at _).mono ?_; rintro e w1 ⟨rfl, hb⟩; have HB1 := Lib.hid hb; clear hb)
      | (go_at_call 18; refine (CN.out _).mono ?_; rintro e w2 ⟨rfl, rfl⟩)
      | (go_at_call 19; refine (full_nil _ _).mono ?_; rintro e w3 ⟨rfl, rfl⟩)
      | (go_at_call 20; refine (parts_nil _ _).mono ?_; rintro e w4 ⟨rfl, rfl⟩)
      | fail)
    all_goals first
      | (go_ret; exact ⟨rfl, HB1.out⟩)
      | (exfalso; simp_all; done)
      | (exfalso; omega)
set_option maxRecDepth 100000 in
theorem plays_long (wd pt : Int) (A : Option Addr) (n c : Nat) (hn : 100 < n) (w : World) : Calls Try.prog 5 #[.int .i64 wd, .int .i64 pt, .slice A n c] w (Tr w) := by
  go_enter Try.func5, Try.ntmps5
  go_wp2_with (first | (go_at_call 17; refine (fixed_at _).mono ?_; rintro e w1 ⟨rfl, hb⟩; have HB1 := Lib.hid hb; clear hb) | fail)
  go_ret
  exact ⟨rfl, HB1.out⟩
theorem plays_all (wd pt : Int) (a : Option Addr) (len cap : Nat) (w : World) (h : ∃ z, RdQ w a len z) : Calls Try.prog 5 #[.int .i64 wd, .int .i64 pt, .slice a len cap] w (Tr w) := by
  obtain ⟨z, hz⟩ := h
  by_cases hn : len ≤ 100
  · by_cases hok : wok wd pt
    · obtain ⟨L, rfl⟩ : ∃ L : Nat, pt = (L : Int) := ⟨pt.toNat, by have := hok.2.1; omega⟩
      exact plays_true wd L a len cap z w hok hn hz
    · exact plays_none wd pt hok a len cap hn w
  · exact plays_long wd pt a len cap (by omega) w
end Go.Proofs.Ytapebhefbokcfaa.Win
