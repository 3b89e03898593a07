import Derived.Test.YtlmhhpddlgmnkaaPhFloat
import Derived.Test.YtlmhhpddlgmnkaaProg
import Derived.WalkKit
import Derived.OwnWalk
import Derived.Below
import Derived.IntWalk
import Derived.Deep.QuietTactic
import Derived.BigQuiet
import Derived.Deep.RegionWith
import Derived.Deep.RegionHeld3
import Derived.Lib.Hide
import Derived.LoopTactic
import Derived.WalkLawsBesides
import Derived.Laws.ResultCell
import Derived.OpenShut
import Derived.KernelRfl
import Derived.Laws.Pointers
import Derived.Laws.Small
import Derived.Laws.Build
import Derived.Laws.Cover3
namespace Go.Proofs.Ytlmhhpddlgmnkaa.Ph
open Go.RowKit
set_option linter.unusedVariables false
set_option linter.unusedSimpArgs false
theorem iw {x : Int} (h1 : -9223372036854775808 ≤ x) (h2 : x ≤ 9223372036854775807) : IntKind.i64.wrap x = x := IntWalk.i64_in _ (by omega)
abbrev fl (x : Nat) : Value := .float .f64 x
abbrev cx (x y : Nat) : Value := .complex .f64 x y
theorem fr_c (n : Int) (b : Nat) (h : n.natAbs < 2 ^ 53) (hb : Ieee.double.write (.number (n < 0) n.natAbs 0) = b) : FR b n := hb ▸ fr_of h
theorem fr_p : FR 4697254411347427328 1048576 := fr_c _ _ (by decide) (by kernel_rfl)
theorem fr_m : FR 13920626448202203136 (-1048576) := fr_c _ _ (by decide) (by kernel_rfl)
theorem fr_0 : FR 0 0 := fr_c _ _ (by decide) (by kernel_rfl)
theorem fr_1 : FR 4607182418800017408 1 := fr_c _ _ (by decide) (by kernel_rfl)
theorem fr_n1 : FR 13830554455654793216 (-1) := fr_c _ _ (by decide) (by kernel_rfl)
theorem fo {x y : Nat} {a b : Int} (hx : FR x a) (hy : FR y b) : FloatKind.f64.format.order x y = some (compare a b) := fr_order hx hy
theorem folt {x y : Nat} {a b : Int} (hx : FR x a) (hy : FR y b) (h : a < b) : FloatKind.f64.format.order x y = some .lt := by
  rw [fo hx hy]; show some (if a < b then Ordering.lt else if a = b then .eq else .gt) = _; rw [if_pos h]
theorem foeq {x y : Nat} {a b : Int} (hx : FR x a) (hy : FR y b) (h : a = b) : FloatKind.f64.format.order x y = some .eq := by
  rw [fo hx hy]; show some (if a < b then Ordering.lt else if a = b then .eq else .gt) = _; rw [if_neg (by omega), if_pos h]
theorem fogt {x y : Nat} {a b : Int} (hx : FR x a) (hy : FR y b) (h : b < a) : FloatKind.f64.format.order x y = some .gt := by
  rw [fo hx hy]; show some (if a < b then Ordering.lt else if a = b then .eq else .gt) = _; rw [if_neg (by omega), if_neg (by omega)]
def fw (n : Int) : Nat := floatOfInt .f64 n
theorem fr_fw {n : Int} (h : n.natAbs < 2 ^ 53) : FR (floatOfInt .f64 n) n := fr_of h
theorem to_int {x : Nat} {n : Int} (h : FR x n) (w : World) : (convert 48 3 (.float .f64 x)).run Try.prog w = .ok (.int .i64 n) w := by
  refine run_convert_float_int w 48 3 .f64 .i64 x n (by kernel_rfl) Try.underlying3 ?_
  unfold floatToIntVal
  rw [show FloatKind.f64.decode x = Ieee.double.read x from rfl, fr_int h]
  have := h.1
  have h1 : IntKind.i64.min = -9223372036854775808 := by decide
  have h2 : IntKind.i64.max = 9223372036854775807 := by decide
  show (if IntKind.i64.min ≤ n ∧ n ≤ IntKind.i64.max then some n else none) = some n
  rw [h1, h2, if_pos (by omega)]
def In (n : Int) : Prop := -1048576 ≤ n ∧ n ≤ 1048576
theorem part_in {x : Nat} {n : Int} (h : FR x n) (hn : In n) (w : World) : Calls Try.prog 24 #[fl x] w fun e w' => e = .returned (.tuple #[.int .i64 n, .bool true]) ∧ w' = w := by
  unfold In at hn
  have o3 := foeq (fr_fw (n := n) (by omega)) h rfl
  have ci := to_int h
  rcases (show n = -1048576 ∨ (-1048576 < n ∧ n < 1048576) ∨ n = 1048576 by omega) with h1 | ⟨h1, h2⟩ | h1
  · have o1 := foeq h fr_m h1
    have o2 := folt h fr_p (by omega)
    clear hn h1
    go_enter Try.func24, Try.ntmps24
    go_wp2
    exact bodyPost_ret (results_tmp2 rfl _ _ _) rfl ⟨rfl, rfl⟩
  · have o1 := fogt h fr_m h1
    have o2 := folt h fr_p h2
    clear hn h1 h2
    go_enter Try.func24, Try.ntmps24
    go_wp2
    exact bodyPost_ret (results_tmp2 rfl _ _ _) rfl ⟨rfl, rfl⟩
  · have o1 := fogt h fr_m (by omega)
    have o2 := foeq h fr_p h1
    clear hn h1
    go_enter Try.func24, Try.ntmps24
    go_wp2
    exact bodyPost_ret (results_tmp2 rfl _ _ _) rfl ⟨rfl, rfl⟩
theorem part_out {x : Nat} {n : Int} (h : FR x n) (hn : ¬ In n) (w : World) : Calls Try.prog 24 #[fl x] w fun e w' => e = .returned (.tuple #[.int .i64 0, .bool false]) ∧ w' = w := by
  unfold In at hn
  rcases (show n < -1048576 ∨ 1048576 < n by omega) with h1 | h1
  · have o1 := folt h fr_m h1
    clear hn h1
    go_enter Try.func24, Try.ntmps24
    go_wp2
    exact bodyPost_ret (results_tmp2 rfl _ _ _) rfl ⟨rfl, rfl⟩
  · have o1 := fogt h fr_m (by omega)
    have o2 := fogt h fr_p h1
    clear hn h1
    go_enter Try.func24, Try.ntmps24
    go_wp2
    exact bodyPost_ret (results_tmp2 rfl _ _ _) rfl ⟨rfl, rfl⟩
theorem to_half (w : World) : (convert 48 3 (.float .f64 4602678819172646912)).run Try.prog w = .ok (.int .i64 0) w :=
  run_convert_float_int w 48 3 .f64 .i64 4602678819172646912 0 (by kernel_rfl) Try.underlying3 (by kernel_rfl)
theorem part_half (w : World) : Calls Try.prog 24 #[fl 4602678819172646912] w fun e w' => e = .returned (.tuple #[.int .i64 0, .bool false]) ∧ w' = w := by
  have o1 : FloatKind.f64.format.order 4602678819172646912 13920626448202203136 = some .gt := by kernel_rfl
  have o2 : FloatKind.f64.format.order 4602678819172646912 4697254411347427328 = some .lt := by kernel_rfl
  have o3 : FloatKind.f64.format.order (floatOfInt .f64 0) 4602678819172646912 = some .lt := by kernel_rfl
  have ci := to_half
  go_enter Try.func24, Try.ntmps24
  go_wp2
  exact bodyPost_ret (results_tmp2 rfl _ _ _) rfl ⟨rfl, rfl⟩
/-- A complex number that is whole. -/
structure CR (x y : Nat) (a b : Int) : Prop where
  re : FR x a
  im : FR y b
theorem parts_in {x y : Nat} {a b : Int} (h : CR x y a b) (ha : In a) (hb : In b) (w : World) : Calls Try.prog 20 #[cx x y] w fun e w' => e = .returned (.tuple #[.int .i64 a, .int .i64 b, .bool true]) ∧ w' = w := by
  have C1 := Lib.hid (part_in h.re ha)
  have C2 := Lib.hid (part_in h.im hb)
  go_enter Try.func20, Try.ntmps20
  go_wp2_with (first
    | (go_at_call 24; refine (C1.out _).mono ?_; clear C1; rintro e w1 ⟨rfl, rfl⟩)
    | (go_at_call 24; refine (C2.out _).mono ?_; rintro e w2 ⟨rfl, rfl⟩)
    | fail)
  exact bodyPost_ret (results_tmp3 rfl _ _ _) rfl ⟨rfl, rfl⟩
theorem parts_out {x y : Nat} {a b : Int} (h : CR x y a b) (hab : ¬ (In a ∧ In b)) (w : World) : Calls Try.prog 20 #[cx x y] w fun e w' => e = .returned (.tuple #[.int .i64 0, .int .i64 0, .bool false]) ∧ w' = w := by
  by_cases ha : In a
  · have C1 := Lib.hid (part_in h.re ha)
    have C2 := Lib.hid (part_out h.im (fun hb => hab ⟨ha, hb⟩))
    go_enter Try.func20, Try.ntmps20
    go_wp2_with (first
      | (go_at_call 24; refine (C1.out _).mono ?_; clear C1; rintro e w1 ⟨rfl, rfl⟩)
      | (go_at_call 24; refine (C2.out _).mono ?_; rintro e w2 ⟨rfl, rfl⟩)
      | fail)
    exact bodyPost_ret (results_tmp3 rfl _ _ _) rfl ⟨rfl, rfl⟩
  · have C1 := Lib.hid (part_out h.re ha)
    by_cases hb : In b
    · have C2 := Lib.hid (part_in h.im hb)
      go_enter Try.func20, Try.ntmps20
      go_wp2_with (first
        | (go_at_call 24; refine (C1.out _).mono ?_; clear C1; rintro e w1 ⟨rfl, rfl⟩)
        | (go_at_call 24; refine (C2.out _).mono ?_; rintro e w2 ⟨rfl, rfl⟩)
        | fail)
      exact bodyPost_ret (results_tmp3 rfl _ _ _) rfl ⟨rfl, rfl⟩
    · have C2 := Lib.hid (part_out h.im hb)
      go_enter Try.func20, Try.ntmps20
      go_wp2_with (first
        | (go_at_call 24; refine (C1.out _).mono ?_; clear C1; rintro e w1 ⟨rfl, rfl⟩)
        | (go_at_call 24; refine (C2.out _).mono ?_; rintro e w2 ⟨rfl, rfl⟩)
        | fail)
      exact bodyPost_ret (results_tmp3 rfl _ _ _) rfl ⟨rfl, rfl⟩
theorem parts_half (w : World) : Calls Try.prog 20 #[cx 4602678819172646912 0] w fun e w' => e = .returned (.tuple #[.int .i64 0, .int .i64 0, .bool false]) ∧ w' = w := by
  have C1 := Lib.hid part_half
  have C2 := Lib.hid (part_in fr_0 (by unfold In; decide))
  go_enter Try.func20, Try.ntmps20
  go_wp2_with (first
    | (go_at_call 24; refine (C1.out _).mono ?_; clear C1; rintro e w1 ⟨rfl, rfl⟩)
    | (go_at_call 24; refine (C2.out _).mono ?_; rintro e w2 ⟨rfl, rfl⟩)
    | fail)
  exact bodyPost_ret (results_tmp3 rfl _ _ _) rfl ⟨rfl, rfl⟩
theorem right_at {x y : Nat} {a b : Int} (h : CR x y a b) (w : World) : Calls Try.prog 21 #[cx x y] w fun e w' => (In a ∧ In b → e = .returned (.bool true)) ∧ (¬ (In a ∧ In b) → e = .returned (.bool false)) ∧ w' = w := by
  by_cases hab : In a ∧ In b
  · have C1 := Lib.hid (parts_in h hab.1 hab.2)
    go_enter Try.func21, Try.ntmps21
    go_wp2_with (first | (go_at_call 20; refine (C1.out _).mono ?_; rintro e w1 ⟨rfl, rfl⟩) | fail)
    go_ret
    exact ⟨fun _ => rfl, fun k => absurd hab k, rfl⟩
  · have C1 := Lib.hid (parts_out h hab)
    go_enter Try.func21, Try.ntmps21
    go_wp2_with (first | (go_at_call 20; refine (C1.out _).mono ?_; rintro e w1 ⟨rfl, rfl⟩) | fail)
    go_ret
    exact ⟨fun k => absurd k hab, fun _ => rfl, rfl⟩
theorem right_in {x y : Nat} {a b : Int} (h : CR x y a b) (hab : In a ∧ In b) (w : World) : Calls Try.prog 21 #[cx x y] w fun e w' => e = .returned (.bool true) ∧ w' = w :=
  (right_at h w).mono fun e w' k => ⟨k.1 hab, k.2.2⟩
theorem right_out {x y : Nat} {a b : Int} (h : CR x y a b) (hab : ¬ (In a ∧ In b)) (w : World) : Calls Try.prog 21 #[cx x y] w fun e w' => e = .returned (.bool false) ∧ w' = w :=
  (right_at h w).mono fun e w' k => ⟨k.2.1 hab, k.2.2⟩
theorem tidy_in {x y : Nat} {a b : Int} (h : CR x y a b) (ha : In a) (hb : In b) (w : World) : Calls Try.prog 22 #[cx x y] w fun e w' => e = .returned (cx (fw a) (fw b)) ∧ w' = w := by
  have C1 := Lib.hid (parts_in h ha hb)
  go_enter Try.func22, Try.ntmps22
  go_wp2_with (first | (go_at_call 20; refine (C1.out _).mono ?_; rintro e w1 ⟨rfl, rfl⟩) | fail)
  go_ret
  exact ⟨rfl, rfl⟩
theorem cr_fw {a b : Int} (ha : In a) (hb : In b) : CR (fw a) (fw b) a b := ⟨fr_fw (by unfold In at ha; omega), fr_fw (by unfold In at hb; omega)⟩
theorem norm_in {x y : Nat} {a b : Int} (h : CR x y a b) (ha : In a) (hb : In b) (w : World) : Calls Try.prog 14 #[cx x y] w fun e w' => e = .returned (.int .i64 (a * a + b * b)) ∧ w' = w := by
  have C1 := Lib.hid (parts_in h ha hb)
  unfold In at ha hb
  have e1 : 0 ≤ a * a ∧ a * a ≤ 1099511627776 := by
    have := Int.natAbs_mul_self' a
    have h2 : a.natAbs * a.natAbs ≤ 1048576 * 1048576 := Nat.mul_le_mul (by omega) (by omega)
    have h3 : ((a.natAbs * a.natAbs : Nat) : Int) = a * a := by rw [Int.natCast_mul]; exact this
    omega
  have e2 : 0 ≤ b * b ∧ b * b ≤ 1099511627776 := by
    have := Int.natAbs_mul_self' b
    have h2 : b.natAbs * b.natAbs ≤ 1048576 * 1048576 := Nat.mul_le_mul (by omega) (by omega)
    have h3 : ((b.natAbs * b.natAbs : Nat) : Int) = b * b := by rw [Int.natCast_mul]; exact this
    omega
  have w1 : IntKind.i64.wrap (a * a) = a * a := iw (by omega) (by omega)
  have w2 : IntKind.i64.wrap (b * b) = b * b := iw (by omega) (by omega)
  have w3 : IntKind.i64.wrap (a * a + b * b) = a * a + b * b := iw (by omega) (by omega)
  clear e1 e2 ha hb
  go_enter Try.func14, Try.ntmps14
  go_wp2_with (first | (go_at_call 20; refine (C1.out _).mono ?_; rintro e w1 ⟨rfl, rfl⟩) | fail)
  go_ret
  exact ⟨rfl, rfl⟩
theorem norm_half (w : World) : Calls Try.prog 14 #[cx 4602678819172646912 0] w fun e w' => e = .returned (.int .i64 (-1)) ∧ w' = w := by
  have C1 := Lib.hid parts_half
  go_enter Try.func14, Try.ntmps14
  go_wp2_with (first | (go_at_call 20; refine (C1.out _).mono ?_; rintro e w1 ⟨rfl, rfl⟩) | fail)
  go_ret
  exact ⟨rfl, rfl⟩
def quart (a b : Int) : Int := if a = 0 ∧ b = 0 then -1 else if 0 < a ∧ 0 ≤ b then 0 else if a ≤ 0 ∧ 0 < b then 1 else if a < 0 then 2 else 3
theorem quarter_in {x y : Nat} {a b : Int} (h : CR x y a b) (ha : In a) (hb : In b) (w : World) : Calls Try.prog 15 #[cx x y] w fun e w' => e = .returned (.int .i64 (quart a b)) ∧ w' = w := by
  have C1 := Lib.hid (parts_in h ha hb)
  unfold quart
  rcases Int.lt_trichotomy a 0 with ha0 | ha0 | ha0 <;> rcases Int.lt_trichotomy b 0 with hb0 | hb0 | hb0
  all_goals
    first | have oa := folt h.re fr_0 ha0 | have oa := foeq h.re fr_0 ha0 | have oa := fogt h.re fr_0 ha0
    first | have ob := folt h.im fr_0 hb0 | have ob := foeq h.im fr_0 hb0 | have ob := fogt h.im fr_0 hb0
    go_enter Try.func15, Try.ntmps15
    go_wp2_with (first | (go_at_call 20; refine (C1.out _).mono ?_; rintro e w1 ⟨rfl, rfl⟩) | fail)
    go_ret
    refine ⟨?_, rfl⟩
    congr 2 <;> ((repeat' split) <;> omega)
def right20 (re im : Int) : Prop := In re ∧ In im
theorem whole_ok {re im : Int} (h : In re ∧ In im) (w : World) : Calls Try.prog 8 #[.int .i64 re, .int .i64 im] w fun e w' => e = .returned (.tuple #[cx (fw re) (fw im), .bool true]) ∧ w' = w := by
  unfold In at h
  by_cases hlt : re < im
  all_goals
    go_enter Try.func8, Try.ntmps8
    go_wp2
    all_goals exact bodyPost_ret (results_tmp2 rfl _ _ _) rfl ⟨rfl, rfl⟩
theorem whole_no {re im : Int} (h : ¬ (In re ∧ In im)) (w : World) : Calls Try.prog 8 #[.int .i64 re, .int .i64 im] w fun e w' => e = .returned (.tuple #[cx 0 0, .bool false]) ∧ w' = w := by
  unfold In at h
  by_cases hlt : re < im
  all_goals
    go_enter Try.func8, Try.ntmps8
    go_wp2
    all_goals first
      | exact bodyPost_ret (results_tmp2 rfl _ _ _) rfl ⟨rfl, rfl⟩
      | (exfalso; omega)
end Go.Proofs.Ytlmhhpddlgmnkaa.Ph
