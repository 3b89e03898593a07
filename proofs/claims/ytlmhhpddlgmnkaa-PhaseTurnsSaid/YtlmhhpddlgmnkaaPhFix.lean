import Derived.Test.YtlmhhpddlgmnkaaPhRefWalk
namespace Go.Proofs.Ytlmhhpddlgmnkaa.Ph
open Go.RowKit
set_option linter.unusedVariables false
set_option linter.unusedSimpArgs false
abbrev Tr (w : World) (e : Ending) (w' : World) : Prop := e = .returned (.bool true) ∧ Below w.heap.size w w'
def g3 (j : Nat) : Int := if j = 1 then 1 else 0
theorem rd_new (w : World) (t : TypeId) : Rd8 (w.alloc (.cells #[.int .u8 0, .int .u8 1, .int .u8 0] t)) (some ⟨w.heap.size, 0, none⟩) 3 g3 := by
  refine ⟨fun j => by unfold g3; split <;> omega, fun _ => ⟨_, _, rfl, fun j hj => ?_⟩⟩
  have hn := heap_alloc_new w (.cells #[.int .u8 0, .int .u8 1, .int .u8 0] t)
  have : j = 0 ∨ j = 1 ∨ j = 2 := by omega
  rcases this with rfl | rfl | rfl
  · exact cell_of hn 0 _ rfl
  · exact cell_of hn 1 _ rfl
  · exact cell_of hn 2 _ rfl
theorem f_walk (w : World) (t : TypeId) : Calls Try.prog 17 #[.slice (some ⟨w.heap.size, 0, none⟩) 3 3] (w.alloc (.cells #[.int .u8 0, .int .u8 1, .int .u8 0] t)) fun e w' => e = .returned (.tuple #[cx (fw 1) (fw 1), cx (fw 0) (fw 1)]) ∧ w' = w.alloc (.cells #[.int .u8 0, .int .u8 1, .int .u8 0] t) :=
  walk_at _ 3 3 g3 _ (Nat.le_refl _) (rd_new w t) 3 rfl
theorem fr_2 : FR 4611686018427387904 2 := fr_c _ _ (by decide) (by kernel_rfl)
theorem fr_3 : FR 4613937818241073152 3 := fr_c _ _ (by decide) (by kernel_rfl)
theorem fr_4 : FR 4616189618054758400 4 := fr_c _ _ (by decide) (by kernel_rfl)
theorem fr_5 : FR 4617315517961601024 5 := fr_c _ _ (by decide) (by kernel_rfl)
theorem fr_n2 : FR 13835058055282163712 (-2) := fr_c _ _ (by decide) (by kernel_rfl)
theorem f_mul (w : World) : Calls Try.prog 16 #[cx 4607182418800017408 4611686018427387904, cx 4613937818241073152 13830554455654793216] w fun e w' => e = .returned (.tuple #[cx (fw 5) (fw 5), .bool true]) ∧ w' = w :=
  mul_in (a := 1) (b := 2) (c := 3) (d := -1) ⟨fr_1, fr_2⟩ ⟨fr_3, fr_n1⟩ (by unfold In; decide) (by unfold In; decide) (by unfold In; decide) w
theorem f_whole (w : World) : Calls Try.prog 8 #[.int .i64 1048577, .int .i64 0] w fun e w' => e = .returned (.tuple #[cx 0 0, .bool false]) ∧ w' = w := whole_no (by unfold In; decide) w
theorem f_norm (w : World) : Calls Try.prog 14 #[cx 4613937818241073152 4616189618054758400] w fun e w' => e = .returned (.int .i64 25) ∧ w' = w := norm_in (a := 3) (b := 4) ⟨fr_3, fr_4⟩ (by unfold In; decide) (by unfold In; decide) w
theorem f_turn (w : World) : Calls Try.prog 12 #[cx 4611686018427387904 4607182418800017408, .int .i64 (-1)] w fun e w' => e = .returned (cx (fw 1) (fw (-2))) ∧ Below w.heap.size w w' := turn_in (a := 2) (b := 1) (-1) ⟨fr_2, fr_1⟩ (by unfold In; decide) (by unfold In; decide) w
theorem f_q1 (w : World) : Calls Try.prog 15 #[cx 0 4613937818241073152] w fun e w' => e = .returned (.int .i64 1) ∧ w' = w := quarter_in (a := 0) (b := 3) ⟨fr_0, fr_3⟩ (by unfold In; decide) (by unfold In; decide) w
theorem f_q2 (w : World) : Calls Try.prog 15 #[cx 0 0] w fun e w' => e = .returned (.int .i64 (-1)) ∧ w' = w := quarter_in (a := 0) (b := 0) ⟨fr_0, fr_0⟩ (by unfold In; decide) (by unfold In; decide) w
theorem fwr (n : Int) (h : n.natAbs < 2 ^ 53) : FR (fw n) n := fr_fw h
set_option maxRecDepth 100000 in
set_option maxHeartbeats 4000000 in
theorem fixed_at (w : World) : Calls Try.prog 7 #[] w (Tr w) := by
  have C1 := Lib.hid f_walk
  have C2 := Lib.hid f_mul
  have C3 := Lib.hid f_whole
  have C4 := Lib.hid f_norm
  have C5 := Lib.hid norm_half
  have C6 := Lib.hid f_turn
  have C7 := Lib.hid f_q1
  have C8 := Lib.hid f_q2
  have o1 := foeq (fwr 1 (by decide)) fr_1 rfl
  have o2 := foeq (fwr 0 (by decide)) fr_0 rfl
  have o3 := foeq (fwr 5 (by decide)) fr_5 rfl
  have o4 := foeq (fwr (-2) (by decide)) fr_n2 rfl
  go_enter Try.func7, Try.ntmps7
  go_wp2_with (first
    | (go_at_call 17; refine (C1.out _ _).mono ?_; clear C1; rintro e w1 ⟨rfl, rfl⟩)
    | (go_at_call 16; refine (C2.out _).mono ?_; clear C2; rintro e w2 ⟨rfl, rfl⟩)
    | (go_at_call 8; refine (C3.out _).mono ?_; clear C3; rintro e w3 ⟨rfl, rfl⟩)
    | (go_at_call 14; refine (C4.out _).mono ?_; clear C4; rintro e w4 ⟨rfl, rfl⟩)
    | (go_at_call 14; refine (C5.out _).mono ?_; clear C5; rintro e w5 ⟨rfl, rfl⟩)
    | (go_at_call 12; refine (C6.out _).mono ?_; clear C6; rintro e w6 ⟨rfl, hb⟩; have HB := Lib.hid hb; clear hb)
    | (go_at_call 15; refine (C7.out _).mono ?_; clear C7; rintro e w7 ⟨rfl, rfl⟩)
    | (go_at_call 15; refine (C8.out _).mono ?_; clear C8; rintro e w8 ⟨rfl, rfl⟩)
    | fail)
  go_ret
  exact ⟨rfl, ((Below.refl _ _).alloc (Nat.le_refl _) _).trans (HB.out.mono (by simp))⟩
end Go.Proofs.Ytlmhhpddlgmnkaa.Ph
