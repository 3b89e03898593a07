import Derived.Test.YtlmhhpddlgmnkaaPhWhole
namespace Go.Proofs.Ytlmhhpddlgmnkaa.Ph
open Go.RowKit
set_option linter.unusedVariables false
set_option linter.unusedSimpArgs false
theorem norm_mul (a b c d : Int) : (a * a + b * b) * (c * c + d * d) = (a * c - b * d) * (a * c - b * d) + (a * d + b * c) * (a * d + b * c) := by grind
set_option maxRecDepth 100000 in
set_option maxHeartbeats 4000000 in
theorem muls_skip1 (a b c d : Int) (h : ¬ (In a ∧ In b)) (w : World) : Calls Try.prog 4 #[.int .i64 a, .int .i64 b, .int .i64 c, .int .i64 d] w (Tr w) := by
  have C1 := Lib.hid fixed_at
  have C2 := Lib.hid (whole_no h)
  clear h
  by_cases k : In c ∧ In d
  · have C3 := Lib.hid (whole_ok k)
    clear k
    go_enter Try.func4, Try.ntmps4
    go_wp2_with (first
      | (go_at_call 7; refine (C1.out _).mono ?_; clear C1; rintro e w1 ⟨rfl, hb⟩; have HB1 := Lib.hid hb; clear hb)
      | (go_at_call 8; refine (C2.out _).mono ?_; clear C2; rintro e w2 ⟨rfl, rfl⟩)
      | (go_at_call 8; refine (C3.out _).mono ?_; clear C3; rintro e w2 ⟨rfl, rfl⟩)
      | fail)
    go_ret
    exact ⟨rfl, HB1.out⟩
  · have C3 := Lib.hid (whole_no k)
    clear k
    go_enter Try.func4, Try.ntmps4
    go_wp2_with (first
      | (go_at_call 7; refine (C1.out _).mono ?_; clear C1; rintro e w1 ⟨rfl, hb⟩; have HB1 := Lib.hid hb; clear hb)
      | (go_at_call 8; refine (C2.out _).mono ?_; clear C2; rintro e w2 ⟨rfl, rfl⟩)
      | (go_at_call 8; refine (C3.out _).mono ?_; clear C3; rintro e w2 ⟨rfl, rfl⟩)
      | fail)
    go_ret
    exact ⟨rfl, HB1.out⟩
set_option maxRecDepth 100000 in
set_option maxHeartbeats 4000000 in
theorem muls_skip2 (a b c d : Int) (h : In a ∧ In b) (k : ¬ (In c ∧ In d)) (w : World) : Calls Try.prog 4 #[.int .i64 a, .int .i64 b, .int .i64 c, .int .i64 d] w (Tr w) := by
  have C1 := Lib.hid fixed_at
  have C2 := Lib.hid (whole_ok h)
  have C3 := Lib.hid (whole_no k)
  clear h k
  go_enter Try.func4, Try.ntmps4
  go_wp2_with (first
    | (go_at_call 7; refine (C1.out _).mono ?_; clear C1; rintro e w1 ⟨rfl, hb⟩; have HB1 := Lib.hid hb; clear hb)
    | (go_at_call 8; refine (C2.out _).mono ?_; clear C2; rintro e w2 ⟨rfl, rfl⟩)
    | (go_at_call 8; refine (C3.out _).mono ?_; clear C3; rintro e w2 ⟨rfl, rfl⟩)
    | fail)
  go_ret
  exact ⟨rfl, HB1.out⟩
set_option maxRecDepth 100000 in
set_option maxHeartbeats 8000000 in
theorem muls_in (a b c d : Int) (h : In a ∧ In b) (k : In c ∧ In d) (hp : In (a * c - b * d) ∧ In (a * d + b * c)) (w : World) : Calls Try.prog 4 #[.int .i64 a, .int .i64 b, .int .i64 c, .int .i64 d] w (Tr w) := by
  have C1 := Lib.hid fixed_at
  have C2 := Lib.hid (whole_ok h)
  have C3 := Lib.hid (whole_ok k)
  have C4 := Lib.hid (mul_in (cr_fw h.1 h.2) (cr_fw k.1 k.2) h k hp)
  have C5 := Lib.hid (rright_in hp)
  have C6 := Lib.hid (is_in (cr_fw hp.1 hp.2) hp)
  have C7 := Lib.hid (norm_in (cr_fw hp.1 hp.2) hp.1 hp.2)
  have C8 := Lib.hid (norm_in (cr_fw h.1 h.2) h.1 h.2)
  have C9 := Lib.hid (norm_in (cr_fw k.1 k.2) k.1 k.2)
  have hn := norm_mul a b c d
  have e1 := abs_mul h.1 k.1
  have e2 := abs_mul h.2 k.2
  have e3 := abs_mul h.1 k.2
  have e4 := abs_mul h.2 k.1
  have e5 := abs_mul hp.1 hp.1
  have e6 := abs_mul hp.2 hp.2
  have w1 : IntKind.i64.wrap (a * c) = a * c := iw (by omega) (by omega)
  have w2 : IntKind.i64.wrap (b * d) = b * d := iw (by omega) (by omega)
  have w4 : IntKind.i64.wrap (a * d) = a * d := iw (by omega) (by omega)
  have w5 : IntKind.i64.wrap (b * c) = b * c := iw (by omega) (by omega)
  have w3 : IntKind.i64.wrap (a * c - b * d) = a * c - b * d := iw (by omega) (by omega)
  have w6 : IntKind.i64.wrap (a * d + b * c) = a * d + b * c := iw (by omega) (by omega)
  generalize hP : a * c - b * d = P at *
  generalize hQ : a * d + b * c = Q at *
  have w7 : IntKind.i64.wrap ((a * a + b * b) * (c * c + d * d)) = P * P + Q * Q := by rw [hn]; exact iw (by omega) (by omega)
  rw [← hP] at w3
  rw [← hQ] at w6
  have w3' : IntKind.i64.wrap (a * c - b * d) = P := by rw [w3, hP]
  have w6' : IntKind.i64.wrap (a * d + b * c) = Q := by rw [w6, hQ]
  clear e1 e2 e3 e4 e5 e6 hn w3 w6 hP hQ h k hp
  go_enter Try.func4, Try.ntmps4
  go_wp2_with (first
    | (go_at_call 7; refine (C1.out _).mono ?_; clear C1; rintro e w1 ⟨rfl, hb⟩; have HB1 := Lib.hid hb; clear hb)
    | (go_at_call 8; refine (C2.out _).mono ?_; clear C2; rintro e w2 ⟨rfl, rfl⟩)
    | (go_at_call 8; refine (C3.out _).mono ?_; clear C3; rintro e w2 ⟨rfl, rfl⟩)
    | (go_at_call 16; refine (C4.out _).mono ?_; clear C4; rintro e w2 ⟨rfl, rfl⟩)
    | (go_at_call 9; refine (C5.out _).mono ?_; clear C5; rintro e w5 ⟨rfl, hb⟩; have HP5 := Lib.hid (pc_below (pc_new _ P Q) hb); have HB5 := Lib.hid (below_tr (HB1.out.alloc HB1.out.size _) hb); have p0 := HP5.out.1.1; have p1 := HP5.out.1.2; clear hb)
    | (go_at_call 11; refine (C6.out _).mono ?_; clear C6; rintro e w6 ⟨rfl, hb⟩; have HB6 := Lib.hid (below_tr HB5.out hb); clear hb)
    | (go_at_call 14; refine (C7.out _).mono ?_; clear C7; rintro e w7 ⟨rfl, rfl⟩)
    | (go_at_call 14; refine (C8.out _).mono ?_; clear C8; rintro e w8 ⟨rfl, rfl⟩)
    | (go_at_call 14; refine (C9.out _).mono ?_; clear C9; rintro e w9 ⟨rfl, rfl⟩)
    | fail)
  go_ret
  exact ⟨rfl, HB6.out⟩
set_option maxRecDepth 100000 in
set_option maxHeartbeats 8000000 in
theorem muls_out (a b c d : Int) (h : In a ∧ In b) (k : In c ∧ In d) (hp : ¬ (In (a * c - b * d) ∧ In (a * d + b * c))) (w : World) : Calls Try.prog 4 #[.int .i64 a, .int .i64 b, .int .i64 c, .int .i64 d] w (Tr w) := by
  have C1 := Lib.hid fixed_at
  have C2 := Lib.hid (whole_ok h)
  have C3 := Lib.hid (whole_ok k)
  have C4 := Lib.hid (mul_out (cr_fw h.1 h.2) (cr_fw k.1 k.2) h k hp)
  have C5 := Lib.hid (rright_out hp)
  have o := foeq fr_0 fr_0 rfl
  have e1 := abs_mul h.1 k.1
  have e2 := abs_mul h.2 k.2
  have e3 := abs_mul h.1 k.2
  have e4 := abs_mul h.2 k.1
  have w1 : IntKind.i64.wrap (a * c) = a * c := iw (by omega) (by omega)
  have w2 : IntKind.i64.wrap (b * d) = b * d := iw (by omega) (by omega)
  have w4 : IntKind.i64.wrap (a * d) = a * d := iw (by omega) (by omega)
  have w5 : IntKind.i64.wrap (b * c) = b * c := iw (by omega) (by omega)
  have w3 : IntKind.i64.wrap (a * c - b * d) = a * c - b * d := iw (by omega) (by omega)
  have w6 : IntKind.i64.wrap (a * d + b * c) = a * d + b * c := iw (by omega) (by omega)
  clear e1 e2 e3 e4 h k hp
  go_enter Try.func4, Try.ntmps4
  go_wp2_with (first
    | (go_at_call 7; refine (C1.out _).mono ?_; clear C1; rintro e w1 ⟨rfl, hb⟩; have HB1 := Lib.hid hb; clear hb)
    | (go_at_call 8; refine (C2.out _).mono ?_; clear C2; rintro e w2 ⟨rfl, rfl⟩)
    | (go_at_call 8; refine (C3.out _).mono ?_; clear C3; rintro e w2 ⟨rfl, rfl⟩)
    | (go_at_call 16; refine (C4.out _).mono ?_; clear C4; rintro e w2 ⟨rfl, rfl⟩)
    | (go_at_call 9; refine (C5.out _).mono ?_; clear C5; rintro e w5 ⟨rfl, hb⟩; have HB5 := Lib.hid (below_tr (HB1.out.alloc HB1.out.size _) hb); clear hb)
    | fail)
  go_ret
  exact ⟨rfl, HB5.out⟩
theorem muls_all (a b c d : Int) (w : World) : Calls Try.prog 4 #[.int .i64 a, .int .i64 b, .int .i64 c, .int .i64 d] w (Tr w) := by
  by_cases h : In a ∧ In b
  · by_cases k : In c ∧ In d
    · by_cases hp : In (a * c - b * d) ∧ In (a * d + b * c)
      · exact muls_in a b c d h k hp w
      · exact muls_out a b c d h k hp w
    · exact muls_skip2 a b c d h k w
  · exact muls_skip1 a b c d h w
end Go.Proofs.Ytlmhhpddlgmnkaa.Ph
