/- The masks of cpus: a part of the walk of the whole machine. For all states that the readings allow. -/
import Derived.Laws.BitsAllLaws
import Derived.Test.YtlcaepcojglbiaaGreatDoorMm
namespace Go.Proofs.YtlcaepcojglbiaaGreatDoor.Tp
open Go.RowKit
set_option linter.unusedVariables false
set_option linter.unusedSimpArgs false
/-! Sets of processors. -/
theorem ofInt_u32 (a : Nat) (h : a < 4294967296) : (BitVec.ofInt 32 (a : Int)).toNat = a := by
  rw [BitVec.toNat_ofInt]; omega
theorem u32_and (a b : Nat) (ha : a < 4294967296) (hb : b < 4294967296) : bits .and .u32 (a : Int) (b : Int) = ((a &&& b : Nat) : Int) := by
  have hx : a &&& b < 2 ^ 32 := Nat.and_lt_two_pow _ (by omega)
  show IntKind.u32.wrap ((BitVec.ofInt 32 (a : Int) &&& BitVec.ofInt 32 (b : Int)).toNat : Int) = _
  rw [BitVec.toNat_and, ofInt_u32 a ha, ofInt_u32 b hb, IntKind.wrap_u32]
  omega
theorem u32_or (a b : Nat) (ha : a < 4294967296) (hb : b < 4294967296) : bits .or .u32 (a : Int) (b : Int) = ((a ||| b : Nat) : Int) := by
  have hx : a ||| b < 2 ^ 32 := Nat.or_lt_two_pow (by omega) (by omega)
  show IntKind.u32.wrap ((BitVec.ofInt 32 (a : Int) ||| BitVec.ofInt 32 (b : Int)).toNat : Int) = _
  rw [BitVec.toNat_or, ofInt_u32 a ha, ofInt_u32 b hb, IntKind.wrap_u32]
  omega
theorem u32_andNot (a b : Nat) (ha : a < 4294967296) (hb : b < 4294967296) : bits .andNot .u32 (a : Int) (b : Int) = ((a &&& (4294967295 - b) : Nat) : Int) := by
  have hx : a &&& (4294967295 - b) < 2 ^ 32 := Nat.and_lt_two_pow _ (by omega)
  show IntKind.u32.wrap ((BitVec.ofInt 32 (a : Int) &&& ~~~ BitVec.ofInt 32 (b : Int)).toNat : Int) = _
  rw [BitVec.toNat_and, ofInt_u32 a ha, BitVec.toNat_not, ofInt_u32 b hb, IntKind.wrap_u32, show 2 ^ 32 - 1 - b = 4294967295 - b from rfl]
  omega
/-- A mask's value and the set. -/
structure MK (m : Nat) (on : Nat → Bool) : Prop where
  lt : m < 65536
  b : ∀ j, j < 16 → m.testBit j = on j
theorem bit_in (i : Nat) (h : i < 16) (W : World) : Calls Tryz.prog 40 #[.int .i64 (i : Nat)] W fun e W' => e = .returned (.int .u32 ((2 ^ i : Nat) : Int)) ∧ W' = W := by
  rcases (show i = 0 ∨ i = 1 ∨ i = 2 ∨ i = 3 ∨ i = 4 ∨ i = 5 ∨ i = 6 ∨ i = 7 ∨ i = 8 ∨ i = 9 ∨ i = 10 ∨ i = 11 ∨ i = 12 ∨ i = 13 ∨ i = 14 ∨ i = 15 by omega) with rfl | rfl | rfl | rfl | rfl | rfl | rfl | rfl | rfl | rfl | rfl | rfl | rfl | rfl | rfl | rfl
  all_goals
    go_enter Tryz.func40, Tryz.ntmps40
    go_wp2
    go_ret
    exact ⟨rfl, rfl⟩
theorem bit_out (i : Int) (h : i < 0 ∨ 16 ≤ i) (W : World) : Calls Tryz.prog 40 #[.int .i64 i] W fun e W' => e = .returned (.int .u32 0) ∧ W' = W := by
  by_cases h0 : i < 0
  · clear h
    go_enter Tryz.func40, Tryz.ntmps40
    go_wp2
    go_ret
    exact ⟨rfl, rfl⟩
  · have h1 : 16 ≤ i := by omega
    clear h
    go_enter Tryz.func40, Tryz.ntmps40
    go_wp2
    go_ret
    exact ⟨rfl, rfl⟩
def onI (on : Nat → Bool) (i : Int) : Bool := decide (0 ≤ i) && decide (i < 16) && on i.toNat
theorem mk_and {m : Nat} {on : Nat → Bool} (h : MK m on) {i : Nat} (hi : i < 16) : m &&& 2 ^ i = if on i then 2 ^ i else 0 := by
  refine Nat.eq_of_testBit_eq fun j => ?_
  rw [Nat.testBit_and, Nat.testBit_two_pow]
  by_cases e : i = j
  · subst e
    rw [h.b i hi]
    cases on i <;> simp [Nat.testBit_two_pow]
  · cases on i <;> simp [Nat.testBit_two_pow, e]
theorem pow16 {i : Nat} (hi : i < 16) : 0 < 2 ^ i ∧ 2 ^ i < 65536 := ⟨Nat.pow_pos (by omega), Nat.lt_of_lt_of_le (Nat.pow_lt_pow_right (by omega) hi) (by decide)⟩
theorem mhas_in {m : Nat} {on : Nat → Bool} (h : MK m on) (i : Nat) (hi : i < 16) (W : World) : Calls Tryz.prog 55 #[.int .u32 (m : Nat), .int .i64 (i : Nat)] W fun e W' => e = .returned (.bool (on i)) ∧ W' = W := by
  have C := Lib.hid (bit_in i hi)
  have hp := pow16 hi
  have hl := h.lt
  have ha := u32_and m (2 ^ i) (by omega) (by omega)
  rw [mk_and h hi] at ha
  obtain ⟨b, hb⟩ : ∃ b, on i = b := ⟨_, rfl⟩
  rw [hb] at ha ⊢
  obtain ⟨x, hx⟩ : ∃ x, 2 ^ i = x := ⟨_, rfl⟩
  rw [hx] at C ha hp
  have hx0 : ((x : Int) != 0) = true := by simp; omega
  clear h hb hx
  cases b
  · replace ha : bits .and .u32 (m : Int) (x : Int) = 0 := ha
    go_enter Tryz.func55, Tryz.ntmps55
    go_wp2_with (first | (go_at_call 40; refine (C.out _).mono ?_; clear C; rintro e w1 ⟨rfl, rfl⟩) | fail)
    go_ret
    exact ⟨rfl, rfl⟩
  · replace ha : bits .and .u32 (m : Int) (x : Int) = (x : Int) := ha
    go_enter Tryz.func55, Tryz.ntmps55
    go_wp2_with (first | (go_at_call 40; refine (C.out _).mono ?_; clear C; rintro e w1 ⟨rfl, rfl⟩) | fail)
    go_ret
    exact ⟨rfl, rfl⟩
theorem mhas_out {m : Nat} {on : Nat → Bool} (h : MK m on) (i : Int) (hi : i < 0 ∨ 16 ≤ i) (W : World) : Calls Tryz.prog 55 #[.int .u32 (m : Nat), .int .i64 i] W fun e W' => e = .returned (.bool false) ∧ W' = W := by
  have C := Lib.hid (bit_out i hi)
  have hl := h.lt
  have ha : bits .and .u32 (m : Int) 0 = 0 := by
    have := u32_and m 0 (by omega) (by omega)
    rw [Nat.and_zero] at this
    exact this
  clear h
  go_enter Tryz.func55, Tryz.ntmps55
  go_wp2_with (first | (go_at_call 40; refine (C.out _).mono ?_; clear C; rintro e w1 ⟨rfl, rfl⟩) | fail)
  go_ret
  exact ⟨rfl, rfl⟩
theorem mhas_at {m : Nat} {on : Nat → Bool} (h : MK m on) (i : Int) (W : World) : Calls Tryz.prog 55 #[.int .u32 (m : Nat), .int .i64 i] W fun e W' => e = .returned (.bool (onI on i)) ∧ W' = W := by
  unfold onI
  by_cases hi : i < 0 ∨ 16 ≤ i
  · have e : (decide (0 ≤ i) && decide (i < 16) && on i.toNat) = false := by
      rcases hi with hi | hi
      · rw [decide_eq_false (by omega : ¬ 0 ≤ i)]; rfl
      · rw [decide_eq_false (by omega : ¬ i < 16)]; simp
    rw [e]
    exact mhas_out h i hi W
  · obtain ⟨n, rfl⟩ : ∃ n : Nat, i = n := ⟨i.toNat, by omega⟩
    have e : (decide (0 ≤ (n : Int)) && decide ((n : Int) < 16) && on (n : Int).toNat) = on n := by
      rw [decide_eq_true (by omega : 0 ≤ (n : Int)), decide_eq_true (by omega : (n : Int) < 16)]; simp
    rw [e]
    exact mhas_in h n (by omega) W
def mwith (on : Nat → Bool) (i : Nat) : Nat → Bool := fun j => on j || decide (i = j)
def mwo (on : Nat → Bool) (i : Nat) : Nat → Bool := fun j => on j && !decide (i = j)
theorem mk_zero : MK 0 (fun _ => false) := ⟨by omega, fun j _ => Nat.zero_testBit j⟩
theorem mk_with {m : Nat} {on : Nat → Bool} (h : MK m on) {i : Nat} (hi : i < 16) : MK (m ||| 2 ^ i) (mwith on i) := by
  have hp := pow16 hi
  have hl := h.lt
  refine ⟨Nat.or_lt_two_pow (n := 16) hl hp.2, fun j hj => ?_⟩
  rw [Nat.testBit_or, Nat.testBit_two_pow, h.b j hj]
  rfl
theorem mk_wo {m : Nat} {on : Nat → Bool} (h : MK m on) {i : Nat} (hi : i < 16) : MK ((m &&& (4294967295 - 2 ^ i)) &&& 65535) (mwo on i) := by
  have hp := pow16 hi
  refine ⟨Nat.and_lt_two_pow (n := 16) _ (by omega), fun j hj => ?_⟩
  rw [Nat.testBit_and, Nat.testBit_and, h.b j hj, show (65535 : Nat) = 2 ^ 16 - 1 from rfl, Nat.testBit_two_pow_sub_one, show 4294967295 - 2 ^ i = 2 ^ 32 - (2 ^ i + 1) by omega, Nat.testBit_two_pow_sub_succ (by omega), Nat.testBit_two_pow]
  rw [decide_eq_true (show j < 32 by omega), decide_eq_true hj]
  simp [mwo]
theorem mwithout_at {m : Nat} {on : Nat → Bool} (h : MK m on) (i : Nat) (hi : i < 16) (W : World) : Calls Tryz.prog 82 #[.int .u32 (m : Nat), .int .i64 (i : Nat)] W fun e W' => (∃ m' : Nat, e = .returned (.int .u32 (m' : Nat)) ∧ MK m' (mwo on i)) ∧ W' = W := by
  have C := Lib.hid (bit_in i hi)
  have HM := Lib.hid (mk_wo h hi)
  have hp := pow16 hi
  have hl := h.lt
  have ha := u32_andNot m (2 ^ i) (by omega) (by omega)
  have hx0 : m &&& (4294967295 - 2 ^ i) < 4294967296 := Nat.and_lt_two_pow (n := 32) _ (by omega)
  have hb := u32_and (m &&& (4294967295 - 2 ^ i)) 65535 hx0 (by omega)
  obtain ⟨y, hy⟩ : ∃ y, m &&& (4294967295 - 2 ^ i) = y := ⟨_, rfl⟩
  rw [hy] at ha hb HM
  obtain ⟨z, hz⟩ : ∃ z, y &&& 65535 = z := ⟨_, rfl⟩
  rw [hz] at hb HM
  replace hb : bits .and .u32 (y : Int) 65535 = (z : Int) := hb
  obtain ⟨x, hx⟩ : ∃ x, 2 ^ i = x := ⟨_, rfl⟩
  rw [hx] at C ha
  clear h hp hl hx0 hy hz hx
  go_enter Tryz.func82, Tryz.ntmps82
  go_wp2_with (first | (go_at_call 40; refine (C.out _).mono ?_; clear C; rintro e w1 ⟨rfl, rfl⟩) | fail)
  go_ret
  exact ⟨⟨z, rfl, HM.out⟩, rfl⟩
end Go.Proofs.YtlcaepcojglbiaaGreatDoor.Tp
namespace Go.Proofs.YtlcaepcojglbiaaGreatDoor.Tp
open Go.RowKit
set_option linter.unusedVariables false
set_option linter.unusedSimpArgs false
theorem low_and {m k : Nat} (h0 : ∀ j, j < k → m.testBit j = false) (hk : m.testBit k = true) (hm : m < 2 ^ 32) : m &&& (4294967296 - m) = 2 ^ k := by
  have hmod : m % 2 ^ k = 0 := by
    refine Nat.eq_of_testBit_eq fun j => ?_
    rw [Nat.testBit_mod_two_pow, Nat.zero_testBit]
    by_cases hj : j < k
    · rw [h0 j hj]; simp
    · simp [hj]
  have hodd : m / 2 ^ k % 2 = 1 := by
    rw [Nat.testBit_eq_decide_div_mod_eq] at hk
    exact of_decide_eq_true hk
  have hp : 0 < 2 ^ k := Nat.pow_pos (by omega)
  obtain ⟨q, hq⟩ : ∃ q, m = 2 ^ (k + 1) * q + 2 ^ k := ⟨m / 2 ^ k / 2, by
    have h1 := Nat.div_add_mod m (2 ^ k)
    have h2 := Nat.div_add_mod (m / 2 ^ k) 2
    rw [hmod] at h1
    rw [hodd] at h2
    rw [Nat.pow_succ, Nat.mul_assoc]
    generalize m / 2 ^ k / 2 = c at h2 ⊢
    rw [← h2, Nat.mul_add] at h1
    omega⟩
  have hlt : 2 ^ k < 2 ^ (k + 1) := by rw [Nat.pow_succ]; omega
  have hm1 : 4294967296 - m = 2 ^ 32 - ((2 ^ (k + 1) * q + (2 ^ k - 1)) + 1) := by omega
  refine Nat.eq_of_testBit_eq fun j => ?_
  rw [Nat.testBit_and, hm1, Nat.testBit_two_pow_sub_succ (by omega), Nat.testBit_two_pow]
  rw [hq, Nat.testBit_two_pow_mul_add _ hlt, Nat.testBit_two_pow_mul_add _ (by omega)]
  by_cases hj : j < k + 1
  · rw [if_pos hj, if_pos hj, Nat.testBit_two_pow, Nat.testBit_two_pow_sub_one]
    by_cases e : k = j
    · subst e
      have : k < 32 := by
        rcases Nat.lt_or_ge k 32 with h | h
        · exact h
        · have := Nat.pow_le_pow_right (n := 2) (by omega) h
          omega
      simp [this]
    · simp [e]
  · rw [if_neg hj, if_neg hj]
    have : ¬ k = j := by omega
    cases q.testBit (j - (k + 1)) <;> simp [this]
/-- The places of the library's table that are read. -/
def dbi (k : Nat) : Nat := 2 ^ k * 125613361 % 4294967296 / 134217728
def TAB (W : World) : Prop := ∀ k, k < 16 → W.cell? ⟨0, dbi k, none⟩ = some (.int .u8 (k : Nat))
set_option maxHeartbeats 4000000 in
theorem tz_at {m k : Nat} (hk : k < 16) (hm : m < 65536) (h0 : ∀ j, j < k → m.testBit j = false) (hb : m.testBit k = true) (W : World) (hT : TAB W) : Calls Tryz.prog 113 #[.int .u32 (m : Nat)] W fun e W' => e = .returned (.int .i64 (k : Nat)) ∧ W' = W := by
  have hpos : 0 < m := by
    rcases Nat.eq_zero_or_pos m with h | h
    · rw [h, Nat.zero_testBit] at hb; cases hb
    · exact h
  have ha := u32_and m (4294967296 - m) (by omega) (by omega)
  rw [low_and h0 hb (by omega)] at ha
  have hw : IntKind.u32.wrap (-(m : Int)) = ((4294967296 - m : Nat) : Int) := by rw [IntKind.wrap_u32]; omega
  have hw2 : IntKind.u32.wrap (0 - (m : Int)) = ((4294967296 - m : Nat) : Int) := by rw [IntKind.wrap_u32]; omega
  have t := hT k hk
  have hm0 : ¬ (m : Int) = 0 := by omega
  obtain ⟨x, hx⟩ : ∃ x, 4294967296 - m = x := ⟨_, rfl⟩
  rw [hx] at ha hw hw2
  clear h0 hb hT hx hpos hm
  rcases (show k = 0 ∨ k = 1 ∨ k = 2 ∨ k = 3 ∨ k = 4 ∨ k = 5 ∨ k = 6 ∨ k = 7 ∨ k = 8 ∨ k = 9 ∨ k = 10 ∨ k = 11 ∨ k = 12 ∨ k = 13 ∨ k = 14 ∨ k = 15 by omega) with rfl | rfl | rfl | rfl | rfl | rfl | rfl | rfl | rfl | rfl | rfl | rfl | rfl | rfl | rfl | rfl
  · rw [show dbi 0 = 0 from rfl] at t
    go_enter Tryz.func113, Tryz.ntmps113
    go_wp2
    go_ret
    exact ⟨rfl, rfl⟩
  · rw [show dbi 1 = 1 from rfl] at t
    go_enter Tryz.func113, Tryz.ntmps113
    go_wp2
    go_ret
    exact ⟨rfl, rfl⟩
  · rw [show dbi 2 = 3 from rfl] at t
    go_enter Tryz.func113, Tryz.ntmps113
    go_wp2
    go_ret
    exact ⟨rfl, rfl⟩
  · rw [show dbi 3 = 7 from rfl] at t
    go_enter Tryz.func113, Tryz.ntmps113
    go_wp2
    go_ret
    exact ⟨rfl, rfl⟩
  · rw [show dbi 4 = 14 from rfl] at t
    go_enter Tryz.func113, Tryz.ntmps113
    go_wp2
    go_ret
    exact ⟨rfl, rfl⟩
  · rw [show dbi 5 = 29 from rfl] at t
    go_enter Tryz.func113, Tryz.ntmps113
    go_wp2
    go_ret
    exact ⟨rfl, rfl⟩
  · rw [show dbi 6 = 27 from rfl] at t
    go_enter Tryz.func113, Tryz.ntmps113
    go_wp2
    go_ret
    exact ⟨rfl, rfl⟩
  · rw [show dbi 7 = 23 from rfl] at t
    go_enter Tryz.func113, Tryz.ntmps113
    go_wp2
    go_ret
    exact ⟨rfl, rfl⟩
  · rw [show dbi 8 = 15 from rfl] at t
    go_enter Tryz.func113, Tryz.ntmps113
    go_wp2
    go_ret
    exact ⟨rfl, rfl⟩
  · rw [show dbi 9 = 31 from rfl] at t
    go_enter Tryz.func113, Tryz.ntmps113
    go_wp2
    go_ret
    exact ⟨rfl, rfl⟩
  · rw [show dbi 10 = 30 from rfl] at t
    go_enter Tryz.func113, Tryz.ntmps113
    go_wp2
    go_ret
    exact ⟨rfl, rfl⟩
  · rw [show dbi 11 = 28 from rfl] at t
    go_enter Tryz.func113, Tryz.ntmps113
    go_wp2
    go_ret
    exact ⟨rfl, rfl⟩
  · rw [show dbi 12 = 25 from rfl] at t
    go_enter Tryz.func113, Tryz.ntmps113
    go_wp2
    go_ret
    exact ⟨rfl, rfl⟩
  · rw [show dbi 13 = 18 from rfl] at t
    go_enter Tryz.func113, Tryz.ntmps113
    go_wp2
    go_ret
    exact ⟨rfl, rfl⟩
  · rw [show dbi 14 = 5 from rfl] at t
    go_enter Tryz.func113, Tryz.ntmps113
    go_wp2
    go_ret
    exact ⟨rfl, rfl⟩
  · rw [show dbi 15 = 11 from rfl] at t
    go_enter Tryz.func113, Tryz.ntmps113
    go_wp2
    go_ret
    exact ⟨rfl, rfl⟩
/-- The least that is on. -/
def firstOn (on : Nat → Bool) : Option Nat := (List.range 16).find? on
def nextOn (on : Nat → Bool) (i : Nat) : Option Nat := ((List.range 16).find? fun j => decide (i < j) && on j).or (firstOn on)
theorem mk_none {m : Nat} {on : Nat → Bool} (h : MK m on) (hf : firstOn on = none) : m = 0 := by
  refine Nat.eq_of_testBit_eq fun j => ?_
  rw [Nat.zero_testBit]
  by_cases hj : j < 16
  · rw [h.b j hj]
    have := List.find?_eq_none.1 hf j (List.mem_range.2 hj)
    simpa using this
  · exact Nat.testBit_lt_two_pow (Nat.lt_of_lt_of_le h.lt (Nat.pow_le_pow_right (n := 2) (by omega) (show 16 ≤ j by omega)))
theorem find_range {n k : Nat} {p : Nat → Bool} (h : (List.range n).find? p = some k) : k < n ∧ p k = true ∧ ∀ j, j < k → p j = false := by
  refine ⟨List.mem_range.1 (List.mem_of_find?_eq_some h), List.find?_some h, ?_⟩
  rw [List.find?_range_eq_some] at h
  intro j hj
  simpa using h.2.2 j hj
theorem mfirst_no {m : Nat} {on : Nat → Bool} (h : MK m on) (hf : firstOn on = none) (W : World) : Calls Tryz.prog 87 #[.int .u32 (m : Nat)] W fun e W' => e = .returned (.tuple #[.int .i64 0, .bool false]) ∧ W' = W := by
  have hm := mk_none h hf
  subst hm
  have ha : bits .and .u32 0 65535 = 0 := by decide
  clear h hf
  go_enter Tryz.func87, Tryz.ntmps87
  go_wp2
  exact bodyPost_ret (results_tmp2 rfl _ _ _) rfl ⟨rfl, rfl⟩
theorem mfirst_yes {m k : Nat} {on : Nat → Bool} (h : MK m on) (hf : firstOn on = some k) (W : World) (hT : TAB W) : Calls Tryz.prog 87 #[.int .u32 (m : Nat)] W fun e W' => e = .returned (.tuple #[.int .i64 (k : Nat), .bool true]) ∧ W' = W := by
  obtain ⟨h1, h2, h3⟩ := find_range hf
  have hb : m.testBit k = true := by rw [h.b k h1]; exact h2
  have C := Lib.hid (tz_at h1 h.lt (fun j hj => by rw [h.b j (by omega)]; exact h3 j hj) hb W hT)
  have hl := h.lt
  have ha : bits .and .u32 (m : Int) 65535 = (m : Int) := by
    have := u32_and m 65535 (by omega) (by omega)
    rw [show (65535 : Nat) = 2 ^ 16 - 1 from rfl, Nat.and_two_pow_sub_one_eq_mod, Nat.mod_eq_of_lt (by omega)] at this
    exact this
  have hm0 : ¬ (m : Int) = 0 := by
    intro e
    have : m = 0 := by omega
    rw [this, Nat.zero_testBit] at hb
    cases hb
  have hm1 : ((m : Int) == 0) = false := by simp; omega
  clear h hf h1 h2 h3 hb hT
  go_enter Tryz.func87, Tryz.ntmps87
  go_wp2_with (first | (go_at_call 113; refine (C.out).mono ?_; clear C; rintro e w1 ⟨rfl, rfl⟩) | fail)
  exact bodyPost_ret (results_tmp2 rfl _ _ _) rfl ⟨rfl, rfl⟩
end Go.Proofs.YtlcaepcojglbiaaGreatDoor.Tp
namespace Go.Proofs.YtlcaepcojglbiaaGreatDoor.Tp
open Go.RowKit
set_option linter.unusedVariables false
set_option linter.unusedSimpArgs false
set_option maxHeartbeats 4000000 in
theorem of_at {b : Nat} (i : Nat) (hi : i < 16) (W : World) (h : W.cell? ⟨b, 0, none⟩ = some (.int .i64 (i : Nat))) : Calls Tryz.prog 18 #[.slice (some ⟨b, 0, none⟩) 1 1] W fun e W' => e = .returned (.int .u32 ((2 ^ i : Nat) : Int)) ∧ W' = W := by
  have C := Lib.hid (bit_in i hi)
  have hp := pow16 hi
  have ha := u32_or 0 (2 ^ i) (by omega) (by omega)
  rw [Nat.zero_or] at ha
  obtain ⟨x, hx⟩ : ∃ x, 2 ^ i = x := ⟨_, rfl⟩
  rw [hx] at C ha ⊢
  replace ha : bits .or .u32 0 (x : Int) = (x : Int) := ha
  clear hx hp
  go_enter Tryz.func18, Tryz.ntmps18
  go_wp2_with fail
  go_loopw [3, 8] (fun s3 s8 wr => ∃ (k : Nat), k ≤ 1 ∧ s8 = .int .i64 k ∧ s3 = .int .u32 (if k = 0 then 0 else x : Nat) ∧ wr = W) (fun _ s8 _ => 1 - (intOf s8).toNat)
  case atStart => exact ⟨0, by omega, rfl, rfl, rfl⟩
  case round =>
    obtain ⟨k, hk, rfl, rfl, rfl⟩ := hrel
    rcases (show k = 0 ∨ k = 1 by omega) with rfl | rfl
    · go_wp2_with (first | (go_at_call 40; refine (C.out _).mono ?_; clear C; rintro e w1 ⟨rfl, rfl⟩) | fail)
      all_goals exact ⟨⟨1, by omega, by simp, rfl, by first | rfl | trivial⟩, by simp [intOf]⟩
    · go_wp2
      go_ret
      exact ⟨rfl, rfl⟩
/-- A row of whole numbers. -/
def IT (base : Nat) (v : Value) (L : List Nat) (w : World) : Prop := w.ownsRow base 3 1 v L.length (L.map fun (i : Nat) => Value.int .i64 (i : Int))
def onl (on : Nat → Bool) (n : Nat) : List Nat := (List.range n).filter on
theorem onl_succ (on : Nat → Bool) (n : Nat) : onl on (n + 1) = if on n then onl on n ++ [n] else onl on n := by
  unfold onl
  rw [List.range_succ, List.filter_append]
  cases h : on n <;> simp [h]
theorem it_one (L : List Nat) : ∀ u ∈ L.map (fun (i : Nat) => Value.int .i64 (i : Int)), u.oneCell' = true := by
  intro u hu
  obtain ⟨i, _, rfl⟩ := List.mem_map.1 hu
  rfl
set_option maxRecDepth 100000 in
set_option maxHeartbeats 4000000 in
theorem mlist_at {m : Nat} {on : Nat → Bool} (h : MK m on) (W : World) : Calls Tryz.prog 53 #[.int .u32 (m : Nat)] W fun e W' => ∃ v, e = .returned v ∧ IT W.heap.size v (onl on 16) W' ∧ Below W.heap.size W W' := by
  have C := Lib.hid (fun i (hi : i < 16) W => mhas_in h i hi W)
  clear h
  go_enter Tryz.func53, Tryz.ntmps53
  go_wp2_with fail
  go_loopw [3, 4, 5] (fun s3 s4 s5 wr => ∃ (k : Nat), k ≤ 16 ∧ s5 = .int .i64 k ∧ Hid (IT W.heap.size s3 (onl on k) wr ∧ Below W.heap.size W wr)) (fun _ _ s5 _ => 16 - (intOf s5).toNat)
  case atStart => exact ⟨0, by omega, rfl, Lib.hid ⟨World.ownsRow_nil W _ 3 1, Below.refl _ _⟩⟩
  case round =>
    obtain ⟨k, hk, rfl, HJ⟩ := hrel
    by_cases h16 : k = 16
    · subst h16
      go_wp2
      go_ret
      exact ⟨_, rfl, HJ.out⟩
    · have hk2 : k < 16 := by omega
      have hk3 : (k : Int) < 16 := by omega
      have C1 := Lib.hid (C.out k hk2)
      have HS := Lib.hid (onl_succ on k)
      have hw : IntKind.i64.wrap ((k : Int) + 1) = (k : Int) + 1 := iw (by omega) (by omega)
      obtain ⟨b, hb⟩ : ∃ b, on k = b := ⟨_, rfl⟩
      rw [hb] at C1 HS
      clear hb hk h16
      cases b
      · go_wp2_with (first | (go_at_call 55; refine (C1.out _).mono ?_; clear C1; rintro e w1 ⟨rfl, rfl⟩) | fail)
        refine ⟨⟨k + 1, by omega, by simp, Lib.hid ?_⟩, by simp only [intOf]; omega⟩
        rw [HS.out]
        exact HJ.out
      · have HOT := Lib.hid (World.ownsRow.alloc HJ.out.1 (.cells #[.int .i64 (k : Nat)] 3))
        have HNW := Lib.hid (own_new wr #[.int .i64 (k : Nat)] 3 1 1 0 (Nat.zero_le _) rfl (by unfold maxLen; omega))
        have HLE : Hid ((onl on k).length + 1 ≤ 1000000) := Lib.hid (by
          have := List.length_filter_le on (List.range k)
          rw [List.length_range] at this
          unfold onl
          omega)
        have HBE : Hid (W.heap.size ≤ (wr.alloc (.cells #[.int .i64 (k : Nat)] 3)).heap.size) := Lib.hid (by have := HJ.out.2.size; simp; omega)
        go_wp2_with (first
          | (go_at_call 55; refine (C1.out _).mono ?_; clear C1; rintro e w1 ⟨rfl, rfl⟩)
          | (at_builtin; refine wpList_app _ rfl _ _ 44 rfl Tryz.underlying44 info3z rfl (by omega) (by omega) ?_ ?_ HOT.out HNW.out (it_one [k]) HLE.out HBE.out ?_; rfl; rfl; intro v2 w5 hown hgrow hloc; have HH := Lib.hid (And.intro hown (And.intro hgrow hloc)); clear hown hgrow hloc)
          | fail)
        refine ⟨⟨k + 1, by omega, by simp, Lib.hid ?_⟩, by simp only [intOf]; omega⟩
        rw [HS.out]
        refine ⟨?_, ?_⟩
        · unfold IT
          simp only [↓reduceIte, List.length_append, List.length_singleton, List.map_append, List.map_cons, List.map_nil]
          exact HH.out.1
        · exact below_grown (HJ.out.2.alloc HJ.out.2.size _) (Nat.le_refl _) HH.out.2.1 (fun k hk => (World.ownsRow.lt HJ.out.1 k hk).1)
/-- What Next answers with. -/
def optv : Option Nat → Value
  | none => .tuple #[.int .i64 0, .bool false]
  | some k => .tuple #[.int .i64 (k : Nat), .bool true]
theorem find_from {on : Nat → Bool} {i k : Nat} (hk : k < 16) (h1 : i < k) (h2 : on k = true) (h3 : ∀ j, i < j → j < k → on j = false) : nextOn on i = some k := by
  have : (List.range 16).find? (fun j => decide (i < j) && on j) = some k := by
    rw [List.find?_range_eq_some]
    refine ⟨by simp [h1, h2], List.mem_range.2 hk, fun j hj => ?_⟩
    by_cases hij : i < j
    · simp [h3 j hij hj]
    · simp [hij]
  unfold nextOn
  rw [this]
  rfl
theorem find_none {on : Nat → Bool} {i : Nat} (h3 : ∀ j, i < j → j < 16 → on j = false) : nextOn on i = firstOn on := by
  have : (List.range 16).find? (fun j => decide (i < j) && on j) = none := by
    rw [List.find?_eq_none]
    intro j hj
    have hj := List.mem_range.1 hj
    by_cases hij : i < j
    · simp [h3 j hij hj]
    · simp [hij]
  unfold nextOn
  rw [this]
  rfl
set_option maxRecDepth 100000 in
set_option maxHeartbeats 4000000 in
theorem mnext_at {m : Nat} {on : Nat → Bool} (h : MK m on) (i : Nat) (hi : i < 16) (W : World) (hT : TAB W) : Calls Tryz.prog 65 #[.int .u32 (m : Nat), .int .i64 (i : Nat)] W fun e W' => e = .returned (optv (nextOn on i)) ∧ W' = W := by
  have C := Lib.hid (fun i (hi : i < 16) W => mhas_in h i hi W)
  have C2 : Hid (Calls Tryz.prog 87 #[.int .u32 (m : Nat)] W fun e W' => e = .returned (optv (firstOn on)) ∧ W' = W) := Lib.hid (by
    cases hf : firstOn on with
    | none => exact mfirst_no h hf W
    | some k => exact mfirst_yes h hf W hT)
  have hmx : max (i : Int) (-1) = (i : Int) := by omega
  have hw0 : IntKind.i64.wrap ((i : Int) + 1) = (i : Int) + 1 := iw (by omega) (by omega)
  have hi0 : ¬ (i : Int) < 0 := by omega
  have hi0' : (-1 : Int) ≤ (i : Int) := by omega
  obtain ⟨f1, f2, hf⟩ : ∃ f1 f2, optv (firstOn on) = .tuple #[.int .i64 f1, .bool f2] := by
    cases firstOn on with
    | none => exact ⟨_, _, rfl⟩
    | some k => exact ⟨_, _, rfl⟩
  have HF := Lib.hid hf
  rw [hf] at C2
  clear h hT hf
  have hi2 : i < 16 := hi
  go_enter Tryz.func65, Tryz.ntmps65
  go_wp2_with fail
  go_loopw [6] (fun s6 wr => ∃ (k : Nat), k ≤ 16 ∧ s6 = .int .i64 k ∧ Hid (i < k ∧ ∀ j, i < j → j < k → on j = false) ∧ wr = W) (fun s6 _ => 16 - (intOf s6).toNat)
  case atStart => exact ⟨i + 1, by omega, by simp, Lib.hid ⟨by omega, fun j h1 h2 => by omega⟩, rfl⟩
  case round =>
    obtain ⟨k, hk, rfl, HJ, rfl⟩ := hrel
    have hk0 : (0 : Int) < (k : Int) := by have := HJ.out.1; omega
    have hk0' : ¬ (k : Int) = 0 := by omega
    have hk0'' : ¬ k = 0 := by omega
    have hkb : ((k : Int) == 0) = false := by simp; omega
    by_cases h16 : k = 16
    · subst h16
      have HE : Hid (optv (nextOn on i) = .tuple #[.int .i64 f1, .bool f2]) := Lib.hid (by rw [find_none HJ.out.2]; exact HF.out)
      go_wp2_with (first | (go_at_call 87; refine (C2.out).mono ?_; clear C2; rintro e w1 ⟨rfl, rfl⟩) | fail)
      refine bodyPost_ret (results_tmp2 rfl _ _ _) rfl ⟨?_, rfl⟩
      rw [HE.out]
      rfl
    · have hk2 : k < 16 := by omega
      have hk3 : (k : Int) < 16 := by omega
      have C1 := Lib.hid (C.out k hk2)
      have hw : IntKind.i64.wrap ((k : Int) + 1) = (k : Int) + 1 := iw (by omega) (by omega)
      obtain ⟨b, hb⟩ : ∃ b, on k = b := ⟨_, rfl⟩
      have HB := Lib.hid hb
      rw [hb] at C1
      clear hb hk h16
      cases b
      · go_wp2_with (first | (go_at_call 55; refine (C1.out _).mono ?_; clear C1; rintro e w1 ⟨rfl, rfl⟩) | fail)
        refine ⟨⟨k + 1, by omega, by simp, Lib.hid ⟨by have := HJ.out.1; omega, fun j h1 h2 => ?_⟩, by first | rfl | trivial⟩, by simp only [intOf]; omega⟩
        by_cases e : j = k
        · rw [e]; exact HB.out
        · exact HJ.out.2 j h1 (by omega)
      · have HE : Hid (nextOn on i = some k) := Lib.hid (find_from hk2 HJ.out.1 HB.out HJ.out.2)
        go_wp2_with (first | (go_at_call 55; refine (C1.out _).mono ?_; clear C1; rintro e w1 ⟨rfl, rfl⟩) | fail)
        refine bodyPost_ret (results_tmp2 rfl _ _ _) rfl ⟨?_, rfl⟩
        rw [HE.out]
        rfl
end Go.Proofs.YtlcaepcojglbiaaGreatDoor.Tp
