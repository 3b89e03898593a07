import Derived.Test.YtdbaeigbejcobaaDlRows
import Derived.Deep.RegionLaw
namespace Go.Proofs.Ytdbaeigbejcobaa.Dl
open Go.RowKit
set_option linter.unusedVariables false
set_option linter.unusedSimpArgs false
set_option maxRecDepth 100000 in
set_option maxHeartbeats 4000000 in
theorem plays_big (A : Option Addr) (n c : Nat) (t : Int) (w : World) (h : 30 < n ∨ 300 < t) : Calls Try.prog 3 #[.slice A n c, .int .i64 t] w (Tr w) := by
  have CF := Lib.hid fixed_at
  rcases Nat.lt_or_ge 30 n with hn | hn
  · clear h
    go_enter Try.func3, Try.ntmps3
    go_wp2_with (first
      | (go_at_call 10; refine (CF.out _).mono ?_; clear CF; rintro e w1 ⟨rfl, hb⟩; have HB1 := Lib.hid hb; clear hb)
      | fail)
    go_ret
    exact ⟨rfl, HB1.out⟩
  · have ht : 300 < t := by omega
    clear h
    go_enter Try.func3, Try.ntmps3
    go_wp2_with (first
      | (go_at_call 10; refine (CF.out _).mono ?_; clear CF; rintro e w1 ⟨rfl, hb⟩; have HB1 := Lib.hid hb; clear hb)
      | fail)
    go_ret
    exact ⟨rfl, HB1.out⟩
set_option maxRecDepth 100000 in
set_option maxHeartbeats 4000000 in
theorem plays_no (A : Option Addr) (n c : Nat) (z : Nat → Int × Int × Int) (t : Int) (w : World) (hn : n ≤ 30) (ht : t ≤ 300) (hA : Rd3 w A n z) (h : ¬ AllOk z n) : Calls Try.prog 3 #[.slice A n c, .int .i64 t] w (Tr w) := by
  have CF := Lib.hid fixed_at
  have C1 := Lib.hid (fun W k => play_no A n c z t W hn k h)
  have C2 := Lib.hid (fun W k => Right_no A n c z W hn k h)
  have C3 := Lib.hid (fun W k => (right_at A n c z W hn k).mono fun e w' (q : _ ∧ _ ∧ _) => (show e = .returned (.bool false) ∧ Below W.heap.size W w' from ⟨q.2.1 h, q.2.2⟩))
  have C4 := Lib.hid (fun W k => cycle_no A n c z W hn k h)
  have C5 := Lib.hid (fun W k => fits_none A n c W (Lib.hid (load_no A n c z W hn k h)))
  have HA := Lib.hid hA
  clear hA h
  go_enter Try.func3, Try.ntmps3
  go_wp2_with (first
    | (go_at_call 10; refine (CF.out _).mono ?_; clear CF; rintro e w1 ⟨rfl, hb⟩; have HB1 := Lib.hid hb; have HA1 := Lib.hid (rd3_below HA.out hb); clear hb)
    | (go_at_call 11; refine (C1.out _ HA1.out).mono ?_; clear C1; rintro e w2 ⟨rfl, hb⟩; have HN2 := Lib.hid (heap_alloc_new w2 (.cells #[.slice none 0 0, .slice none 0 0, .int .i64 0] 26)); have HB2 := Lib.hid ((below_tr HB1.out hb).alloc (below_tr HB1.out hb).size (.cells #[.slice none 0 0, .slice none 0 0, .int .i64 0] 26)); have HA2 := Lib.hid (rd3_below (rd3_below HA1.out hb) ((Below.refl _ _).alloc (Nat.le_refl _) (.cells #[.slice none 0 0, .slice none 0 0, .int .i64 0] 26))); clear HB1 HA1 hb)
    | (go_at_call 12; refine (C2.out _ HA2.out).mono ?_; clear C2; rintro e w3 ⟨rfl, hb⟩; have HN3 := Lib.hid ((hb.block w2.heap.size (by simp)).trans HN2.out); have HB3 := Lib.hid (below_tr HB2.out hb); have HA3 := Lib.hid (rd3_below HA2.out hb); clear HB2 HA2 hb HN2)
    | (go_at_call 13; refine (C3.out _ HA3.out).mono ?_; rintro e w4 ⟨rfl, hb⟩; have HN4 := Lib.hid ((hb.block w2.heap.size (Array.getElem?_eq_some_iff.1 HN3.out).1).trans HN3.out); have HB4 := Lib.hid (below_tr HB3.out hb); have HA4 := Lib.hid (rd3_below HA3.out hb); clear HB3 HA3 hb HN3)
    | (go_at_call 13; refine (C3.out _ HA4.out).mono ?_; clear C3; rintro e w5 ⟨rfl, hb⟩; have HN5 := Lib.hid ((hb.block w2.heap.size (Array.getElem?_eq_some_iff.1 HN4.out).1).trans HN4.out); have HB5 := Lib.hid (below_tr HB4.out hb); have HA5 := Lib.hid (rd3_below HA4.out hb); clear HB4 HA4 hb HN4)
    | (go_at_call 14; refine (C4.out _ HA5.out).mono ?_; clear C4; rintro e w6 ⟨rfl, hb⟩; have HN6 := Lib.hid ((hb.block w2.heap.size (Array.getElem?_eq_some_iff.1 HN5.out).1).trans HN5.out); have HB6 := Lib.hid (below_tr HB5.out hb); have HA6 := Lib.hid (rd3_below HA5.out hb); obtain ⟨⟨a0, _⟩, ⟨a1, _⟩, a2, _⟩ := run_cells HN6.out; clear HB5 HA5 hb HN5)
    | (go_at_call 15; refine (C5.out _ HA6.out).mono ?_; clear C5; rintro e w7 ⟨rfl, hb⟩; have HB7 := Lib.hid (below_tr HB6.out hb); clear HB6 HA6 hb)
    | fail)
  go_ret
  exact ⟨rfl, HB7.out⟩
end Go.Proofs.Ytdbaeigbejcobaa.Dl
