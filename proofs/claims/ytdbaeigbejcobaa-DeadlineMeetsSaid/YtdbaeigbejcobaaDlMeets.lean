import Derived.Test.YtdbaeigbejcobaaDlFix
import Derived.Test.YtdbaeigbejcobaaDlEdf
namespace Go.Proofs.Ytdbaeigbejcobaa.Dl
open Go.RowKit
set_option linter.unusedVariables false
set_option linter.unusedSimpArgs false
/-- The load is not above 1. -/
def FitsOk (z : Nat → Int × Int × Int) (n : Nat) : Prop := AllOk z n ∧ lc (per z) n ≤ 1000000000 ∧ cost (fun i => (z i).1) (fun i => (z i).2.1) (lc (per z) n) n ≤ (lc (per z) n : Int)
theorem fits_no (A : Option Addr) (n c : Nat) (z : Nat → Int × Int × Int) (w : World) (hn : n ≤ 30) (hA : Rd3 w A n z) (h : ¬ FitsOk z n) : Calls Try.prog 15 #[.slice A n c] w fun e w' => e = .returned (.bool false) ∧ Below w.heap.size w w' := by
  by_cases ho : AllOk z n
  · rcases Nat.lt_or_ge 1000000000 (lc (per z) n) with h9 | h9
    · exact fits_none A n c w (Lib.hid (load_big A n c z w hA ho h9))
    · have hc : ¬ cost (fun i => (z i).1) (fun i => (z i).2.1) (lc (per z) n) n ≤ (lc (per z) n : Int) := fun k => h ⟨ho, h9, k⟩
      have := fits_some A n c _ _ w (Lib.hid (load_yes A n c z w hA ho h9))
      rw [decide_eq_false hc] at this
      exact this
  · exact fits_none A n c w (Lib.hid (load_no A n c z w hn hA ho))
theorem fits_yes (A : Option Addr) (n c : Nat) (z : Nat → Int × Int × Int) (w : World) (hA : Rd3 w A n z) (h : FitsOk z n) : Calls Try.prog 15 #[.slice A n c] w fun e w' => e = .returned (.bool true) ∧ Below w.heap.size w w' := by
  obtain ⟨ho, h9, hc⟩ := h
  have := fits_some A n c _ _ w (Lib.hid (load_yes A n c z w hA ho h9))
  rw [decide_eq_true hc] at this
  exact this
theorem play_fits (A0 : Option Addr) (n c : Nat) (z : Nat → Int × Int × Int) (T : Nat) (w : World) (hA : Rd3 w A0 n z) (h : FitsOk z n) (hT : T ≤ 20000) : Calls Try.prog 11 #[.slice A0 n c, .int .i64 T] w fun e w' => ∃ (A1 : Option Addr) (cap rm : Nat) (q : Int), e = .returned (.agg #[.slice A1 T cap, .slice (some ⟨rm, 0, none⟩) n n, .int .i64 q]) ∧ (0 ≤ q ∧ q ≤ T) ∧ (rm < w'.heap.size ∧ ∀ i, i < n → w'.cell? ⟨rm, i, none⟩ = some (.int .i64 0)) ∧ Below w.heap.size w w' := by
  refine (play_yes A0 n c z T w hA h.1 hT).mono ?_
  rintro e w' ⟨v, rm, he, hr, h1, h2, h3, h4⟩
  have hs := sb_st h.1.1 T
  obtain ⟨A1, cap, rfl, _⟩ := rowp_any hr
  rw [hs.x] at he
  exact ⟨A1, cap, rm, _, he, hs.q, ⟨h2, fun i hi => by rw [h3 i hi, meets h.1.1 h.2.2 T i hi]⟩, h4⟩
theorem meets_big (A : Option Addr) (n c : Nat) (t : Int) (w : World) (h : 30 < n) : Calls Try.prog 5 #[.slice A n c, .int .u16 t] w (Tr w) := by
  have CF := Lib.hid fixed_at
  go_enter Try.func5, Try.ntmps5
  go_wp2_with (first
    | (go_at_call 10; refine (CF.out _).mono ?_; clear CF; rintro e w1 ⟨rfl, hb⟩; have HB1 := Lib.hid hb; clear hb)
    | fail)
  go_ret
  exact ⟨rfl, HB1.out⟩
theorem meets_no (A : Option Addr) (n c : Nat) (z : Nat → Int × Int × Int) (t : Int) (w : World) (hn : n ≤ 30) (hA : Rd3 w A n z) (h : ¬ FitsOk z n) : Calls Try.prog 5 #[.slice A n c, .int .u16 t] w (Tr w) := by
  have CF := Lib.hid fixed_at
  have C1 := Lib.hid (fun W k => fits_no A n c z W hn k h)
  have HA := Lib.hid hA
  clear hA h
  go_enter Try.func5, Try.ntmps5
  go_wp2_with (first
    | (go_at_call 10; refine (CF.out _).mono ?_; clear CF; rintro e w1 ⟨rfl, hb⟩; have HB1 := Lib.hid hb; clear hb)
    | (go_at_call 15; refine (C1.out _ (rd3_below HA.out HB1.out)).mono ?_; clear C1; rintro e w2 ⟨rfl, hb⟩; have HB2 := Lib.hid (below_tr HB1.out hb); clear HB1 hb)
    | fail)
  go_ret
  exact ⟨rfl, HB2.out⟩
set_option maxRecDepth 100000 in
set_option maxHeartbeats 4000000 in
theorem meets_yes (A : Option Addr) (n c : Nat) (z : Nat → Int × Int × Int) (t : Int) (w : World) (ht : 0 ≤ t ∧ t ≤ 65535) (hA : Rd3 w A n z) (h : FitsOk z n) : Calls Try.prog 5 #[.slice A n c, .int .u16 t] w (Tr w) := by
  have hn : n ≤ 16 := h.1.2.2
  obtain ⟨T, hT⟩ : ∃ T : Nat, t % 6000 = T := ⟨(t % 6000).toNat, by have := Int.emod_nonneg t (show (6000 : Int) ≠ 0 by omega); omega⟩
  have hT2 : T ≤ 6000 := by have := Int.emod_lt_of_pos t (show (0 : Int) < 6000 by omega); omega
  obtain ⟨ht0, ht1⟩ := ht
  have hw1 : IntKind.u16.wrap (t.tmod 6000) = (T : Int) := by
    rw [Int.tmod_eq_emod_of_nonneg ht0, hT]
    unfold IntKind.wrap
    simp [IntKind.bits, IntKind.signed]
    omega
  have hw2 : IntKind.i64.wrap (T : Int) = (T : Int) := iw (by omega) (by omega)
  have CF := Lib.hid fixed_at
  have C1 := Lib.hid (fun W k => fits_yes A n c z W k h)
  have C2 := Lib.hid (fun W k => play_fits A n c z T W k h (by omega))
  have HA := Lib.hid hA
  clear hA h
  go_enter Try.func5, Try.ntmps5
  go_wp2_with (first
    | (go_at_call 10; refine (CF.out _).mono ?_; clear CF; rintro e w1 ⟨rfl, hb⟩; have HB1 := Lib.hid hb; clear hb)
    | (go_at_call 15; refine (C1.out _ (rd3_below HA.out HB1.out)).mono ?_; clear C1; rintro e w2 ⟨rfl, hb⟩; have HB2 := Lib.hid (below_tr HB1.out hb); clear HB1 hb)
    | (go_at_call 11; refine (C2.out _ (rd3_below HA.out HB2.out)).mono ?_; clear C2; rintro e w3 ⟨A1, cap, rm, q, rfl, hq, hm, hb⟩; have HB3 := Lib.hid ((below_tr HB2.out hb).alloc (below_tr HB2.out hb).size (.cells #[.slice A1 T cap, .slice (some ⟨rm, 0, none⟩) n n, .int .i64 q] 26)); have HM := Lib.hid hm; obtain ⟨hq0, hq1⟩ := hq; clear HB2 hb hm)
    | fail)
  obtain ⟨r, hr⟩ : ∃ r, w3.heap.size = r := ⟨_, rfl⟩
  have HR := Lib.hid hr
  clear hr
  go_loopw [26] (fun v26 W => ∃ (i : Nat), i ≤ n ∧ v26 = .int .i64 i ∧ Hid (Below w3.heap.size w3 W ∧ W.heap[w3.heap.size]? = some (.cells #[.slice A1 T cap, .slice (some ⟨rm, 0, none⟩) n n, .int .i64 q] 26)) ∧ Hid (Below w.heap.size w W)) (fun v26 _ => n - (intOf v26).toNat)
  case atStart => exact ⟨0, by omega, rfl, ⟨(Below.refl _ _).alloc (Nat.le_refl _) _, heap_alloc_new _ _⟩, HB3.out⟩
  case round =>
    clear HB3
    obtain ⟨i, hi, rfl, HP, HB⟩ := hrel
    rename World => wo
    obtain ⟨⟨a0, _⟩, ⟨a1, _⟩, a2, _⟩ := run_cells HP.out.2
    by_cases hlt : i < n
    · have k0 := (HP.out.1.cell (p := ⟨rm, i, none⟩) HM.out.1).trans (HM.out.2 i hlt)
      go_wp2
      exact ⟨⟨i + 1, by omega, by simp, HP.out, HB.out⟩, by simp [intOf]; omega⟩
    · obtain rfl : i = n := by omega
      go_wp2
      go_ret
      exact ⟨rfl, HB.out⟩
theorem meets_tell (A : Option Addr) (n c : Nat) (t : Int) (w : World) (h : ∃ z, Rd3 w A n z) (ht : (Lit.int .u16 t).wf = true) : Calls Try.prog 5 #[.slice A n c, .int .u16 t] w (Tr w) := by
  obtain ⟨z, hz⟩ := h
  have ht2 : 0 ≤ t ∧ t ≤ 65535 := bounds_u16 ht
  rcases Nat.lt_or_ge 30 n with hn | hn
  · exact meets_big A n c t w hn
  · by_cases ho : FitsOk z n
    · exact meets_yes A n c z t w ht2 hz ho
    · exact meets_no A n c z t w hn hz ho
end Go.Proofs.Ytdbaeigbejcobaa.Dl
