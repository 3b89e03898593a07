import Derived.Test.YtdbaeigbejcobaaDlLoad
namespace Go.Proofs.Ytdbaeigbejcobaa.Dl
open Go.RowKit
set_option linter.unusedVariables false
set_option linter.unusedSimpArgs false
theorem load_none (A : Option Addr) (n c : Nat) (w : World) (C1 : Hid (Calls Try.prog 14 #[.slice A n c] w fun e w' => e = .returned (.tuple #[.int .i64 0, .bool false]) ∧ Below w.heap.size w w')) : Calls Try.prog 16 #[.slice A n c] w fun e w' => e = .returned (.tuple #[.int .i64 0, .int .i64 0, .bool false]) ∧ Below w.heap.size w w' := by
  go_enter Try.func16, Try.ntmps16
  go_wp2_with (first
    | (go_at_call 14; refine (C1.out).mono ?_; clear C1; rintro e w1 ⟨rfl, hb⟩; have HB1 := Lib.hid hb; clear hb)
    | fail)
  exact bodyPost_ret (results_tmp3 rfl _ _ _) rfl ⟨rfl, HB1.out⟩
theorem load_no (A : Option Addr) (n c : Nat) (z : Nat → Int × Int × Int) (w : World) (hn : n ≤ 30) (hA : Rd3 w A n z) (h : ¬ AllOk z n) : Calls Try.prog 16 #[.slice A n c] w fun e w' => e = .returned (.tuple #[.int .i64 0, .int .i64 0, .bool false]) ∧ Below w.heap.size w w' :=
  load_none A n c w (Lib.hid (cycle_no A n c z w hn hA h))
theorem load_big (A : Option Addr) (n c : Nat) (z : Nat → Int × Int × Int) (w : World) (hA : Rd3 w A n z) (h : AllOk z n) (h9 : 1000000000 < lc (per z) n) : Calls Try.prog 16 #[.slice A n c] w fun e w' => e = .returned (.tuple #[.int .i64 0, .int .i64 0, .bool false]) ∧ Below w.heap.size w w' :=
  load_none A n c w (Lib.hid ((cycle_yes A n c z w hA h).mono fun e w' k => ⟨k.2.1 h9, k.2.2⟩))
theorem fits_none (A : Option Addr) (n c : Nat) (w : World) (C1 : Hid (Calls Try.prog 16 #[.slice A n c] w fun e w' => e = .returned (.tuple #[.int .i64 0, .int .i64 0, .bool false]) ∧ Below w.heap.size w w')) : Calls Try.prog 15 #[.slice A n c] w fun e w' => e = .returned (.bool false) ∧ Below w.heap.size w w' := by
  go_enter Try.func15, Try.ntmps15
  go_wp2_with (first
    | (go_at_call 16; refine (C1.out).mono ?_; clear C1; rintro e w1 ⟨rfl, hb⟩; have HB1 := Lib.hid hb; clear hb)
    | fail)
  go_ret
  exact ⟨rfl, HB1.out⟩
theorem fits_some (A : Option Addr) (n c : Nat) (m l : Int) (w : World) (C1 : Hid (Calls Try.prog 16 #[.slice A n c] w fun e w' => e = .returned (.tuple #[.int .i64 m, .int .i64 l, .bool true]) ∧ Below w.heap.size w w')) : Calls Try.prog 15 #[.slice A n c] w fun e w' => e = .returned (.bool (decide (m ≤ l))) ∧ Below w.heap.size w w' := by
  go_enter Try.func15, Try.ntmps15
  go_wp2_with (first
    | (go_at_call 16; refine (C1.out).mono ?_; clear C1; rintro e w1 ⟨rfl, hb⟩; have HB1 := Lib.hid hb; clear hb)
    | fail)
  go_ret
  exact ⟨rfl, HB1.out⟩
end Go.Proofs.Ytdbaeigbejcobaa.Dl
