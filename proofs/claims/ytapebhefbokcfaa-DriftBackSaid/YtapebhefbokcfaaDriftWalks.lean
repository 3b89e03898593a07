import Derived.Test.YtapebhefbokcfaaProg
import Derived.Test.YtapebhefbokcfaaDriftMath
import Derived.WalkKit
import Derived.OwnWalk
import Derived.Below
import Derived.IntWalk
import Derived.Deep.QuietTactic
import Derived.BigQuiet
import Derived.Deep.RegionWith
import Derived.Lib.Hide
namespace Go.Proofs.Ytapebhefbokcfaa.DWalk
open Go.RowKit Go.Proofs.Ytapebhefbokcfaa.DMath

theorem ret_int {k : IntKind} {a b : Int} (h : a = b) : Ending.returned (.int k a) = .returned (.int k b) := by rw [h]

set_option maxHeartbeats 400000 in
theorem floor_any (a b : Int) (w : World) (hb : 0 < b) (h1 : -4611686018427387904 ≤ a) (h2 : a ≤ 4611686018427387904) (hb2 : b ≤ 4611686018427387904) :
    Calls Try.prog 41 #[.int .i64 a, .int .i64 b] w fun e w' => e = .returned (.int .i64 (a / b)) ∧ w = w' := by
  have hq := floor_eq a b hb
  have hbd := tdiv_bd a b 4611686018427387904 h1 h2
  have c3b0 : (b == 0) = false := beq_eq_false_iff_ne.mpr (by omega)
  by_cases c : Int.tmod a b < 0
  · rw [if_pos c] at hq
    have H := Lib.hid hq; clear hq
    go_enter Try.func41, Try.ntmps41
    go_wp2
    go_ret
    exact ⟨ret_int H.out, rfl⟩
  · rw [if_neg c] at hq
    have H := Lib.hid hq; clear hq
    go_enter Try.func41, Try.ntmps41
    go_wp2
    go_ret
    exact ⟨ret_int H.out, rfl⟩

theorem floor_q (a b : Int) (w : World) (hb : 0 < b) (h1 : -4611686018427387904 ≤ a) (h2 : a ≤ 4611686018427387904) (hb2 : b ≤ 4611686018427387904) :
    Calls Try.prog 41 #[.int .i64 a, .int .i64 b] w fun e w' => e = .returned (.int .i64 (a / b)) ∧ w' = w := (floor_any a b w hb h1 h2 hb2).mono fun _ _ h => ⟨h.1, h.2.symm⟩

theorem _root_.Go.RowKit.Below.drewN {B : Nat} {w W : World} (h : Below B w W) (n : Nat) : Below B w (W.drewN n) := ⟨h.os, h.tape, h.output, h.size, h.block⟩
theorem iw {x : Int} (h1 : -9223372036854775808 ≤ x) (h2 : x ≤ 9223372036854775807) : IntKind.i64.wrap x = x := IntWalk.i64_in _ (by omega)

set_option maxHeartbeats 800000 in
theorem far_any (a f r n : Int) (w : World) (h : Rt a f r) (hn : -8796093022208 ≤ n) (hn' : n ≤ 8796093022208) :
    Calls Try.prog 40 #[.agg #[.int .i64 a, .int .i64 f, .int .i64 r], .int .i64 n] w fun e w' => e = .returned (.int .i64 (F a f r n)) ∧ Below w.heap.size w w' := by
  have hF : f + (n - a) + (n - a) / 1000000000 * r + (n - a - (n - a) / 1000000000 * 1000000000) * r / 1000000000 = F a f r n := by
    have := parts_eq (n - a) r
    unfold F; omega
  obtain ⟨h1, h2, h3, h4, h5, h6⟩ := h
  have b1 := mul_bd 9895604649984 500000 (t := (n - a) / 1000000000) (r := r) (by omega) (by omega) h1 h2
  have b2 := mul_bd 1000000000 500000 (t := n - a - (n - a) / 1000000000 * 1000000000) (r := r) (by omega) (by omega) h1 h2
  have H := Lib.hid hF; clear hF
  go_enter Try.func40, Try.ntmps40
  go_wp2_with fail
  have hd1 : -9895604649984 ≤ n - a := by omega
  have hd2 : n - a ≤ 9895604649984 := by omega
  generalize n - a = d at *
  generalize hq : d / 1000000000 = q at *
  have e1 : IntKind.i64.wrap (f + d) = f + d := iw (by omega) (by omega)
  have e2 : IntKind.i64.wrap (q * r) = q * r := iw (by omega) (by omega)
  have e3 : IntKind.i64.wrap (f + d + q * r) = f + d + q * r := iw (by omega) (by omega)
  have e4 : IntKind.i64.wrap (q * 1000000000) = q * 1000000000 := iw (by omega) (by omega)
  have e5 : IntKind.i64.wrap (d - q * 1000000000) = d - q * 1000000000 := iw (by omega) (by omega)
  have e6 : IntKind.i64.wrap ((d - q * 1000000000) * r) = (d - q * 1000000000) * r := iw (by omega) (by omega)
  have e7 : IntKind.i64.wrap (f + d + q * r + (d - q * 1000000000) * r / 1000000000) = f + d + q * r + (d - q * 1000000000) * r / 1000000000 := iw (by omega) (by omega)
  have c1 : ∀ w : World, Calls Try.prog 41 #[.int .i64 d, .int .i64 1000000000] w fun e w' => e = .returned (.int .i64 q) ∧ w' = w := fun w => hq ▸ floor_q d 1000000000 w (by decide) (by omega) (by omega) (by decide)
  have c2 : ∀ w : World, Calls Try.prog 41 #[.int .i64 ((d - q * 1000000000) * r), .int .i64 1000000000] w fun e w' => e = .returned (.int .i64 ((d - q * 1000000000) * r / 1000000000)) ∧ w' = w := fun w => floor_q _ 1000000000 w (by decide) (by omega) (by omega) (by decide)
  have C1 := Lib.hid c1; clear c1
  have C2 := Lib.hid c2; clear c2
  clear b1 b2 hd1 hd2 hq h1 h2 h3 h4 h5 h6 hn hn'
  go_quiet ((first | (go_at_call_of 41 (Value.int IntKind.i64 d); exact Calls.quiet_of_same (C1.out _)) | (go_at_call 41; exact Calls.quiet_of_same (C2.out _))))
  go_wp2
  go_ret
  exact ⟨ret_int H.out, (Below.alloc (Below.refl _ _) (Nat.le_refl _) _).drewN nq⟩

theorem ret_bool {a b : Bool} (h : a = b) : Ending.returned (.bool a) = .returned (.bool b) := by rw [h]
def inB (x : Int) : Bool := decide (-1099511627776 ≤ x ∧ x ≤ 1099511627776)
def rtB (a f r : Int) : Bool := decide (Rt a f r)

set_option maxHeartbeats 400000 in
theorem in_any (x : Int) (w : World) : Calls Try.prog 39 #[.int .i64 x] w fun e w' => e = .returned (.bool (inB x)) ∧ w = w' := by
  by_cases h1 : -1099511627776 ≤ x
  · by_cases h2 : x ≤ 1099511627776
    all_goals
      go_enter Try.func39, Try.ntmps39
      go_wp2
      go_ret
      exact ⟨ret_bool (by simp [inB]; omega), rfl⟩
  · go_enter Try.func39, Try.ntmps39
    go_wp2
    go_ret
    exact ⟨ret_bool (by simp [inB]; omega), rfl⟩
theorem in_yes (x : Int) (w : World) (h : -1099511627776 ≤ x ∧ x ≤ 1099511627776) : Calls Try.prog 39 #[.int .i64 x] w fun e w' => e = .returned (.bool true) ∧ w = w' := by
  have := in_any x w
  rwa [show inB x = true from decide_eq_true h] at this
theorem in_no (x : Int) (w : World) (h : ¬ (-1099511627776 ≤ x ∧ x ≤ 1099511627776)) : Calls Try.prog 39 #[.int .i64 x] w fun e w' => e = .returned (.bool false) ∧ w = w' := by
  have := in_any x w
  rwa [show inB x = false from decide_eq_false h] at this

set_option maxHeartbeats 400000 in
theorem right_any (a f r : Int) (w : World) : Calls Try.prog 26 #[.agg #[.int .i64 a, .int .i64 f, .int .i64 r]] w fun e w' => e = .returned (.bool (rtB a f r)) ∧ Below w.heap.size w w' := by
  by_cases h1 : -500000 ≤ r
  · by_cases h2 : r ≤ 500000
    · by_cases h3 : -1099511627776 ≤ a ∧ a ≤ 1099511627776
      · by_cases h4 : -1099511627776 ≤ f ∧ f ≤ 1099511627776
        · go_enter Try.func26, Try.ntmps26
          go_wp2_with (go_at_call 39; (with_reducible (refine (in_yes _ _ (by assumption)).mono ?_)); rintro e w' ⟨rfl, rfl⟩)
          go_ret
          exact ⟨ret_bool (decide_eq_true (show Rt a f r by unfold Rt; omega)).symm, (Below.alloc (Below.refl _ _) (Nat.le_refl _) _)⟩
        · go_enter Try.func26, Try.ntmps26
          go_wp2_with (first | (go_at_call_of 39 (Value.int IntKind.i64 a); (with_reducible (refine (in_yes _ _ (by assumption)).mono ?_)); rintro e w' ⟨rfl, rfl⟩) | (go_at_call 39; (with_reducible (refine (in_no _ _ (by assumption)).mono ?_)); rintro e w' ⟨rfl, rfl⟩))
          go_ret
          exact ⟨ret_bool (decide_eq_false (show ¬ Rt a f r by unfold Rt; omega)).symm, (Below.alloc (Below.refl _ _) (Nat.le_refl _) _)⟩
      · go_enter Try.func26, Try.ntmps26
        go_wp2_with (go_at_call 39; (with_reducible (refine (in_no _ _ (by assumption)).mono ?_)); rintro e w' ⟨rfl, rfl⟩)
        go_ret
        exact ⟨ret_bool (decide_eq_false (show ¬ Rt a f r by unfold Rt; omega)).symm, (Below.alloc (Below.refl _ _) (Nat.le_refl _) _)⟩
    · go_enter Try.func26, Try.ntmps26
      go_wp2
      go_ret
      exact ⟨ret_bool (decide_eq_false (show ¬ Rt a f r by unfold Rt; omega)).symm, (Below.alloc (Below.refl _ _) (Nat.le_refl _) _)⟩
  · go_enter Try.func26, Try.ntmps26
    go_wp2
    go_ret
    exact ⟨ret_bool (decide_eq_false (show ¬ Rt a f r by unfold Rt; omega)).symm, (Below.alloc (Below.refl _ _) (Nat.le_refl _) _)⟩
theorem right_yes (a f r : Int) (w : World) (h : Rt a f r) : Calls Try.prog 26 #[.agg #[.int .i64 a, .int .i64 f, .int .i64 r]] w fun e w' => e = .returned (.bool true) ∧ Below w.heap.size w w' := by
  have := right_any a f r w
  rwa [show rtB a f r = true from decide_eq_true h] at this
theorem right_no (a f r : Int) (w : World) (h : ¬ Rt a f r) : Calls Try.prog 26 #[.agg #[.int .i64 a, .int .i64 f, .int .i64 r]] w fun e w' => e = .returned (.bool false) ∧ Below w.heap.size w w' := by
  have := right_any a f r w
  rwa [show rtB a f r = false from decide_eq_false h] at this
end Go.Proofs.Ytapebhefbokcfaa.DWalk
