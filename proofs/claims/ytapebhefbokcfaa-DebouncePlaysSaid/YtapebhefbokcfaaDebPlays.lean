import Derived.Test.YtapebhefbokcfaaDebPlays1
import Derived.Test.YtapebhefbokcfaaDebPlays2
namespace Go.Proofs.Ytapebhefbokcfaa.DebW
open Go.RowKit
set_option linter.unusedSimpArgs false
set_option linter.unusedVariables false
set_option maxRecDepth 100000 in
theorem plays_long (q m : Int) (A : Option Addr) (n c : Nat) (w : World) (hn : 100 < n) : Calls Try.prog 3 #[.int .i64 q, .int .i64 m, .slice A n c] w (Tr w) := by
  go_enter Try.func3, Try.ntmps3
  go_wp2_with (first | (go_at_call 10; refine (fixed_any _).mono ?_; rintro e w1 ⟨rfl, hb⟩; have HB1 := Lib.hid hb; clear hb) | fail)
  go_ret
  exact ⟨rfl, HB1.out⟩
set_option maxHeartbeats 4000000 in
set_option maxRecDepth 100000 in
theorem plays_bad (q m : Int) (A : Option Addr) (n c : Nat) (w : World) (h : ¬ NewOk q m) (hn : n ≤ 100) : Calls Try.prog 3 #[.int .i64 q, .int .i64 m, .slice A n c] w (Tr w) := by
  have CN := Lib.hid (fun w => new_no q m w h)
  unfold NewOk at h
  by_cases h1 : q < 1
  · go_enter Try.func3, Try.ntmps3
    go_wp2_with (first | (go_at_call 10; refine (fixed_any _).mono ?_; rintro e w1 ⟨rfl, hb⟩; have HB1 := Lib.hid hb; clear hb) | (go_at_call 11; refine (CN.out _).mono ?_; rintro e w2 ⟨rfl, rfl⟩) | (go_at_call 12; refine (flush_nil _).mono ?_; rintro e w3 ⟨rfl, hb⟩; have HB2 := Lib.hid (HB1.out.trans (hb.mono HB1.out.size)); clear hb) | (go_at_call 13; refine (next_nil _).mono ?_; rintro e w4 ⟨rfl, rfl⟩) | fail)
    go_ret
    exact ⟨rfl, HB2.out.alloc HB2.out.size _⟩
  · by_cases h2 : 1099511627776 < q
    · go_enter Try.func3, Try.ntmps3
      go_wp2_with (first | (go_at_call 10; refine (fixed_any _).mono ?_; rintro e w1 ⟨rfl, hb⟩; have HB1 := Lib.hid hb; clear hb) | (go_at_call 11; refine (CN.out _).mono ?_; rintro e w2 ⟨rfl, rfl⟩) | (go_at_call 12; refine (flush_nil _).mono ?_; rintro e w3 ⟨rfl, hb⟩; have HB2 := Lib.hid (HB1.out.trans (hb.mono HB1.out.size)); clear hb) | (go_at_call 13; refine (next_nil _).mono ?_; rintro e w4 ⟨rfl, rfl⟩) | fail)
      go_ret
      exact ⟨rfl, HB2.out.alloc HB2.out.size _⟩
    · have h3 : (m != 0) = true := by rw [bne_iff_ne]; omega
      by_cases h4 : m < q
      · go_enter Try.func3, Try.ntmps3
        go_wp2_with (first | (go_at_call 10; refine (fixed_any _).mono ?_; rintro e w1 ⟨rfl, hb⟩; have HB1 := Lib.hid hb; clear hb) | (go_at_call 11; refine (CN.out _).mono ?_; rintro e w2 ⟨rfl, rfl⟩) | (go_at_call 12; refine (flush_nil _).mono ?_; rintro e w3 ⟨rfl, hb⟩; have HB2 := Lib.hid (HB1.out.trans (hb.mono HB1.out.size)); clear hb) | (go_at_call 13; refine (next_nil _).mono ?_; rintro e w4 ⟨rfl, rfl⟩) | fail)
        go_ret
        exact ⟨rfl, HB2.out.alloc HB2.out.size _⟩
      · have h5 : 1125899906842624 < m := by omega
        clear h
        go_enter Try.func3, Try.ntmps3
        go_wp2_with (first | (go_at_call 10; refine (fixed_any _).mono ?_; rintro e w1 ⟨rfl, hb⟩; have HB1 := Lib.hid hb; clear hb) | (go_at_call 11; refine (CN.out _).mono ?_; rintro e w2 ⟨rfl, rfl⟩) | (go_at_call 12; refine (flush_nil _).mono ?_; rintro e w3 ⟨rfl, hb⟩; have HB2 := Lib.hid (HB1.out.trans (hb.mono HB1.out.size)); clear hb) | (go_at_call 13; refine (next_nil _).mono ?_; rintro e w4 ⟨rfl, rfl⟩) | fail)
        go_ret
        exact ⟨rfl, HB2.out.alloc HB2.out.size _⟩
/-- The acts' rows, as they are read. -/
theorem rda_of {w : World} {a : Option Addr} {len : Nat} (h : (a = none ∧ len = 0) ∨ ∃ (x : Addr) (V0 V1 : Nat → Value), a = some x ∧ ∀ i, i < len → w.cell? (x.add (i * 2)) = some (V0 i) ∧ w.cell? (x.add (i * 2 + 1)) = some (V1 i) ∧ (∃ z, V0 i = .int .u8 z ∧ (Lit.int .u8 z).wf = true) ∧ (∃ z, V1 i = .int .i64 z ∧ (Lit.int .i64 z).wf = true)) :
    ∃ g t, RdA w a len g t := by
  rcases h with ⟨rfl, rfl⟩ | ⟨x, V0, V1, rfl, hx⟩
  · exact ⟨fun _ => 0, fun _ => 0, fun _ => (by show (0 : Int) ≤ 0 ∧ (0 : Int) ≤ 255; omega), fun _ => (by show (-9223372036854775808 : Int) ≤ 0 ∧ (0 : Int) ≤ 9223372036854775807; omega), fun h => absurd h (by omega)⟩
  · refine ⟨fun i => if i < len then intOf (V0 i) else 0, fun i => if i < len then intOf (V1 i) else 0, fun j => ?_, fun j => ?_, fun h => ?_⟩
    · show 0 ≤ (if j < len then intOf (V0 j) else 0) ∧ (if j < len then intOf (V0 j) else 0) ≤ 255
      split
      · rename_i hj
        obtain ⟨_, _, ⟨z, hz, wz⟩, _⟩ := hx j hj
        rw [hz]; exact bounds_u8 wz
      · omega
    · show -9223372036854775808 ≤ (if j < len then intOf (V1 j) else 0) ∧ (if j < len then intOf (V1 j) else 0) ≤ 9223372036854775807
      split
      · rename_i hj
        obtain ⟨_, _, _, z, hz, wz⟩ := hx j hj
        rw [hz]
        simp [Lit.wf, IntKind.min, IntKind.max, IntKind.signed, IntKind.bits] at wz
        exact wz
      · omega
    · obtain ⟨b, off, spot⟩ := x
      have hspot : spot = none := by simpa [Addr.add] using World.cell?_spot (hx 0 h).1
      subst hspot
      refine ⟨b, off, rfl, fun j hj => ?_⟩
      obtain ⟨h0, h1, ⟨z, hz, _⟩, ⟨y, hy, _⟩⟩ := hx j hj
      rw [Go.WideShapes.add_plain] at h0 h1
      show w.cell? ⟨b, off + j * 2, none⟩ = some (.int .u8 (if j < len then intOf (V0 j) else 0)) ∧ w.cell? ⟨b, off + j * 2 + 1, none⟩ = some (.int .i64 (if j < len then intOf (V1 j) else 0))
      rw [if_pos hj, if_pos hj, h0, Nat.add_assoc, h1, hz, hy]
      exact ⟨rfl, rfl⟩
theorem plays_all (q m : Int) (a : Option Addr) (len cap : Nat) (w : World) (h : (a = none ∧ len = 0) ∨ ∃ (x : Addr) (V0 V1 : Nat → Value), a = some x ∧ ∀ i, i < len → w.cell? (x.add (i * 2)) = some (V0 i) ∧ w.cell? (x.add (i * 2 + 1)) = some (V1 i) ∧ (∃ z, V0 i = .int .u8 z ∧ (Lit.int .u8 z).wf = true) ∧ (∃ z, V1 i = .int .i64 z ∧ (Lit.int .i64 z).wf = true)) :
    Calls Try.prog 3 #[.int .i64 q, .int .i64 m, .slice a len cap] w (Tr w) := by
  by_cases hn : len ≤ 100
  · by_cases hk : NewOk q m
    · obtain ⟨g, t, hA⟩ := rda_of h
      obtain ⟨k1, k2, k3⟩ := hk
      rcases k3 with rfl | ⟨k3, k4⟩
      · exact plays_0 q a len cap g t w k1 k2 hn hA
      · exact plays_m q m a len cap g t w k1 k2 k3 k4 hn hA
    · exact plays_bad q m a len cap w hk hn
  · exact plays_long q m a len cap w (by omega)
end Go.Proofs.Ytapebhefbokcfaa.DebW
