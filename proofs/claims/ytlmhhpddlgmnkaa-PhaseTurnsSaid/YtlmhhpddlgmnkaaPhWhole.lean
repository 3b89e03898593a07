import Derived.Test.YtlmhhpddlgmnkaaPhFix
import Derived.Deep.DeepCutAuto
namespace Go.Proofs.Ytlmhhpddlgmnkaa.Ph
open Go.RowKit
set_option linter.unusedVariables false
set_option linter.unusedSimpArgs false
def PC (p : Nat) (re im : Int) (W : World) : Prop := (W.cell? ⟨p, 0, none⟩ = some (.int .i64 re) ∧ W.cell? ⟨p, 1, none⟩ = some (.int .i64 im)) ∧ p < W.heap.size
theorem pc_below {p : Nat} {re im : Int} {W W' : World} (h : PC p re im W) (hb : Below W.heap.size W W') : PC p re im W' := by
  have k := bcell hb
  exact ⟨⟨(k.1 p 0 h.2).trans h.1.1, (k.1 p 1 h.2).trans h.1.2⟩, Nat.lt_of_lt_of_le h.2 hb.size⟩
theorem pc_drew {p : Nat} {re im : Int} {W : World} (h : PC p re im W) : PC p re im W.drew := ⟨⟨h.1.1, h.1.2⟩, h.2⟩
theorem pc_new (w : World) (re im : Int) : PC w.heap.size re im (w.alloc (.cells #[.int .i64 re, .int .i64 im] 27)) :=
  ⟨⟨cell_of (heap_alloc_new w _) 0 _ rfl, cell_of (heap_alloc_new w _) 1 _ rfl⟩, by simp⟩
theorem rturn_int {a b k : Int} (h0 : 0 ≤ k) (h3 : k ≤ 3) (hi : In a ∧ In b) (w : World) : Calls Try.prog 13 #[pr a b, .int .i64 k] w fun e w' => e = .returned (pr (rot k a b).1 (rot k a b).2) ∧ Below w.heap.size w w' := by
  have := rturn_at k.toNat (by omega) hi w
  rw [show ((k.toNat : Nat) : Int) = k by omega] at this
  exact this
theorem below_tr {w x y : World} (h : Below w.heap.size w x) (k : Below x.heap.size x y) : Below w.heap.size w y := h.trans (k.mono h.size)
set_option maxRecDepth 100000 in
set_option maxHeartbeats 8000000 in
theorem whole_a (re im : Int) (q : Int) (h : In re ∧ In im) (h0 : re ≠ 0) (w : World) : Calls Try.prog 3 #[.int .i64 re, .int .i64 im, .int .i64 q] w (Tr w) := by
  have C1 := Lib.hid fixed_at
  have C2 := Lib.hid (whole_ok h)
  have C3 := Lib.hid (rright_in h)
  have C4 := Lib.hid (rquarter_at h (by omega))
  have C5 := Lib.hid (is_in (cr_fw h.1 h.2) h)
  have C6 := Lib.hid (turn_in q (cr_fw h.1 h.2) h.1 h.2)
  have C7 := Lib.hid (rturn_int (k := q % 4) (by omega) (by omega) h)
  have hr := in_rot (k := q % 4) h.1 h.2
  have C8 := Lib.hid (is_in (cr_fw hr.1 hr.2) hr)
  have C9 := Lib.hid (show ∀ w, Calls Try.prog 14 #[cx (fw re) (fw im)] w fun e w' => e = .returned (.int .i64 (re * re + im * im)) ∧ w' = w from fun w => by have := norm_in (cr_fw h.1 h.2) h.1 h.2 w; simpa using this)
  have C10 := Lib.hid (quarter_in (cr_fw h.1 h.2) h.1 h.2)
  have hand := and3 q
  have e1 := abs_mul h.1 h.1
  have e2 := abs_mul h.2 h.2
  have w1 : IntKind.i64.wrap (re * re) = re * re := iw (by omega) (by omega)
  have w2 : IntKind.i64.wrap (im * im) = im * im := iw (by omega) (by omega)
  have w3 : IntKind.i64.wrap (re * re + im * im) = re * re + im * im := iw (by omega) (by omega)
  generalize q % 4 = k at *
  generalize (rot k re im).1 = ra at *
  generalize (rot k re im).2 = rb at *
  generalize quart re im = Q at *
  clear e1 e2 hr h
  go_enter Try.func3, Try.ntmps3
  go_upto_region 10 with (first
    | (go_at_call 7; refine (C1.out _).mono ?_; clear C1; rintro e w1 ⟨rfl, hb⟩; have HB1 := Lib.hid hb; clear hb)
    | (go_at_call 8; refine (C2.out _).mono ?_; clear C2; rintro e w2 ⟨rfl, rfl⟩)
    | (go_at_call 9; refine (C3.out _).mono ?_; clear C3; rintro e w3 ⟨rfl, hb⟩; have HP3 := Lib.hid (pc_below (pc_new _ re im) hb); have HB3 := Lib.hid (below_tr (HB1.out.alloc HB1.out.size _) hb); have p0 := HP3.out.1.1; have p1 := HP3.out.1.2; clear hb)
    | (go_at_call 10; refine (C4.out _).mono ?_; clear C4; rintro e w4 ⟨rfl, hb⟩; have HP4 := Lib.hid (pc_below HP3.out hb); have HB4 := Lib.hid (below_tr HB3.out hb); clear hb p0 p1)
    | fail)
  generalize w2.heap.size = pb at *
  have p0 := HP4.out.1.1
  have p1 := HP4.out.1.2
  have HP4d := Lib.hid (pc_drew HP4.out)
  have HB4d := Lib.hid HB4.out.drew
  go_region_held3 (fun w' => w'.cell? ⟨pb, 0, none⟩ = some (.int .i64 re) ∧ w'.cell? ⟨pb, 1, none⟩ = some (.int .i64 im))
    (first
      | (exact ⟨p0, p1⟩)
      | (exact HP5.out.1)
      | (exact HP6.out.1)
      | (exact HP7.out.1)
      | (exact HP8.out.1)
      | (go_keep; done))
    (first
      | (go_simp; go_at_call 11; refine (C5.out _).mono ?_; clear C5; rintro e w5 ⟨rfl, hb⟩; have HP5 := Lib.hid (pc_below HP4d.out hb); have HB5 := Lib.hid (below_tr HB4d.out hb); clear hb)
      | (go_simp; go_at_call 12; refine (C6.out _).mono ?_; clear C6; rintro e w6 ⟨rfl, hb⟩; have HP6 := Lib.hid (pc_below HP5.out hb); have HB6 := Lib.hid (below_tr HB5.out hb); clear hb)
      | (go_simp; go_at_call 13; refine (C7.out _).mono ?_; clear C7; rintro e w7 ⟨rfl, hb⟩; have HP7 := Lib.hid (pc_below HP6.out hb); have HB7 := Lib.hid (below_tr HB6.out hb); clear hb)
      | (go_simp; go_at_call 11; refine (C8.out _).mono ?_; clear C8; rintro e w8 ⟨rfl, hb⟩; have HP8 := Lib.hid (pc_below HP7.out hb); have HB8 := Lib.hid (below_tr HB7.out hb); clear hb)
      | (go_simp; go_at_call 14; refine (C9.out _).mono ?_; clear C9; rintro e w9 ⟨rfl, rfl⟩)
      | (go_simp; go_at_call 15; refine (C10.out _).mono ?_; clear C10; rintro e w10 ⟨rfl, rfl⟩)
      | fail)
  go_wp2
  go_ret
  exact ⟨rfl, HB8.out⟩
set_option maxRecDepth 100000 in
set_option maxHeartbeats 8000000 in
theorem whole_b (im : Int) (q : Int) (h : In 0 ∧ In im) (h1 : im ≠ 0) (w : World) : Calls Try.prog 3 #[.int .i64 0, .int .i64 im, .int .i64 q] w (Tr w) := by
  have C1 := Lib.hid fixed_at
  have C2 := Lib.hid (whole_ok h)
  have C3 := Lib.hid (rright_in h)
  have C4 := Lib.hid (rquarter_at h (by omega))
  have C5 := Lib.hid (is_in (cr_fw h.1 h.2) h)
  have C6 := Lib.hid (turn_in q (cr_fw h.1 h.2) h.1 h.2)
  have C7 := Lib.hid (rturn_int (k := q % 4) (by omega) (by omega) h)
  have hr := in_rot (k := q % 4) h.1 h.2
  have C8 := Lib.hid (is_in (cr_fw hr.1 hr.2) hr)
  have C9 := Lib.hid (show ∀ w, Calls Try.prog 14 #[cx (fw 0) (fw im)] w fun e w' => e = .returned (.int .i64 (im * im)) ∧ w' = w from fun w => by have := norm_in (cr_fw h.1 h.2) h.1 h.2 w; simpa using this)
  have C10 := Lib.hid (quarter_in (cr_fw h.1 h.2) h.1 h.2)
  have hand := and3 q
  have e1 := abs_mul h.1 h.1
  have e2 := abs_mul h.2 h.2
  have w1 : IntKind.i64.wrap 0 = 0 := iw (by omega) (by omega)
  have w2 : IntKind.i64.wrap (im * im) = im * im := iw (by omega) (by omega)
  generalize q % 4 = k at *
  generalize (rot k 0 im).1 = ra at *
  generalize (rot k 0 im).2 = rb at *
  generalize quart 0 im = Q at *
  clear e1 e2 hr h
  go_enter Try.func3, Try.ntmps3
  go_upto_region 10 with (first
    | (go_at_call 7; refine (C1.out _).mono ?_; clear C1; rintro e w1 ⟨rfl, hb⟩; have HB1 := Lib.hid hb; clear hb)
    | (go_at_call 8; refine (C2.out _).mono ?_; clear C2; rintro e w2 ⟨rfl, rfl⟩)
    | (go_at_call 9; refine (C3.out _).mono ?_; clear C3; rintro e w3 ⟨rfl, hb⟩; have HP3 := Lib.hid (pc_below (pc_new _ 0 im) hb); have HB3 := Lib.hid (below_tr (HB1.out.alloc HB1.out.size _) hb); have p0 := HP3.out.1.1; have p1 := HP3.out.1.2; clear hb)
    | (go_at_call 10; refine (C4.out _).mono ?_; clear C4; rintro e w4 ⟨rfl, hb⟩; have HP4 := Lib.hid (pc_below HP3.out hb); have HB4 := Lib.hid (below_tr HB3.out hb); clear hb p0 p1)
    | fail)
  generalize w2.heap.size = pb at *
  have p0 := HP4.out.1.1
  have p1 := HP4.out.1.2
  have HP4d := Lib.hid (pc_drew HP4.out)
  have HB4d := Lib.hid HB4.out.drew
  go_region_held3 (fun w' => w'.cell? ⟨pb, 0, none⟩ = some (.int .i64 0) ∧ w'.cell? ⟨pb, 1, none⟩ = some (.int .i64 im))
    (first
      | (exact ⟨p0, p1⟩)
      | (exact HP5.out.1)
      | (exact HP6.out.1)
      | (exact HP7.out.1)
      | (exact HP8.out.1)
      | (go_keep; done))
    (first
      | (go_simp; go_at_call 11; refine (C5.out _).mono ?_; clear C5; rintro e w5 ⟨rfl, hb⟩; have HP5 := Lib.hid (pc_below HP4d.out hb); have HB5 := Lib.hid (below_tr HB4d.out hb); clear hb)
      | (go_simp; go_at_call 12; refine (C6.out _).mono ?_; clear C6; rintro e w6 ⟨rfl, hb⟩; have HP6 := Lib.hid (pc_below HP5.out hb); have HB6 := Lib.hid (below_tr HB5.out hb); clear hb)
      | (go_simp; go_at_call 13; refine (C7.out _).mono ?_; clear C7; rintro e w7 ⟨rfl, hb⟩; have HP7 := Lib.hid (pc_below HP6.out hb); have HB7 := Lib.hid (below_tr HB6.out hb); clear hb)
      | (go_simp; go_at_call 11; refine (C8.out _).mono ?_; clear C8; rintro e w8 ⟨rfl, hb⟩; have HP8 := Lib.hid (pc_below HP7.out hb); have HB8 := Lib.hid (below_tr HB7.out hb); clear hb)
      | (go_simp; go_at_call 14; refine (C9.out _).mono ?_; clear C9; rintro e w9 ⟨rfl, rfl⟩)
      | (go_simp; go_at_call 15; refine (C10.out _).mono ?_; clear C10; rintro e w10 ⟨rfl, rfl⟩)
      | fail)
  go_wp2
  go_ret
  exact ⟨rfl, HB8.out⟩
set_option maxRecDepth 100000 in
set_option maxHeartbeats 8000000 in
theorem whole_c (q : Int) (h : In 0 ∧ In 0) (w : World) : Calls Try.prog 3 #[.int .i64 0, .int .i64 0, .int .i64 q] w (Tr w) := by
  have C1 := Lib.hid fixed_at
  have C2 := Lib.hid (whole_ok h)
  have C3 := Lib.hid (rright_in h)
  have C5 := Lib.hid (is_in (cr_fw h.1 h.2) h)
  have C6 := Lib.hid (turn_in q (cr_fw h.1 h.2) h.1 h.2)
  have C7 := Lib.hid (rturn_int (k := q % 4) (by omega) (by omega) h)
  have hr := in_rot (k := q % 4) h.1 h.2
  have C8 := Lib.hid (is_in (cr_fw hr.1 hr.2) hr)
  have C9 := Lib.hid (show ∀ w, Calls Try.prog 14 #[cx (fw 0) (fw 0)] w fun e w' => e = .returned (.int .i64 (0)) ∧ w' = w from fun w => by have := norm_in (cr_fw h.1 h.2) h.1 h.2 w; simpa using this)
  have C10 := Lib.hid (quarter_in (cr_fw h.1 h.2) h.1 h.2)
  have hand := and3 q
  have e1 := abs_mul h.1 h.1
  have e2 := abs_mul h.2 h.2
  have w1 : IntKind.i64.wrap 0 = 0 := iw (by omega) (by omega)
  generalize q % 4 = k at *
  generalize (rot k 0 0).1 = ra at *
  generalize (rot k 0 0).2 = rb at *
  clear e1 e2 hr h
  go_enter Try.func3, Try.ntmps3
  go_upto_region 10 with (first
    | (go_at_call 7; refine (C1.out _).mono ?_; clear C1; rintro e w1 ⟨rfl, hb⟩; have HB1 := Lib.hid hb; clear hb)
    | (go_at_call 8; refine (C2.out _).mono ?_; clear C2; rintro e w2 ⟨rfl, rfl⟩)
    | (go_at_call 9; refine (C3.out _).mono ?_; clear C3; rintro e w3 ⟨rfl, hb⟩; have HP3 := Lib.hid (pc_below (pc_new _ 0 0) hb); have HB3 := Lib.hid (below_tr (HB1.out.alloc HB1.out.size _) hb); have p0 := HP3.out.1.1; have p1 := HP3.out.1.2; clear hb)
    | fail)
  have HP4 := HP3
  have HB4 := HB3
  rename World => w4
  clear p0 p1
  generalize w2.heap.size = pb at *
  have p0 := HP4.out.1.1
  have p1 := HP4.out.1.2
  have HP4d := Lib.hid (pc_drew HP4.out)
  have HB4d := Lib.hid HB4.out.drew
  go_region_held3 (fun w' => w'.cell? ⟨pb, 0, none⟩ = some (.int .i64 0) ∧ w'.cell? ⟨pb, 1, none⟩ = some (.int .i64 0))
    (first
      | (exact ⟨p0, p1⟩)
      | (exact HP5.out.1)
      | (exact HP6.out.1)
      | (exact HP7.out.1)
      | (exact HP8.out.1)
      | (go_keep; done))
    (first
      | (go_simp; go_at_call 11; refine (C5.out _).mono ?_; clear C5; rintro e w5 ⟨rfl, hb⟩; have HP5 := Lib.hid (pc_below HP4d.out hb); have HB5 := Lib.hid (below_tr HB4d.out hb); clear hb)
      | (go_simp; go_at_call 12; refine (C6.out _).mono ?_; clear C6; rintro e w6 ⟨rfl, hb⟩; have HP6 := Lib.hid (pc_below HP5.out hb); have HB6 := Lib.hid (below_tr HB5.out hb); clear hb)
      | (go_simp; go_at_call 13; refine (C7.out _).mono ?_; clear C7; rintro e w7 ⟨rfl, hb⟩; have HP7 := Lib.hid (pc_below HP6.out hb); have HB7 := Lib.hid (below_tr HB6.out hb); clear hb)
      | (go_simp; go_at_call 11; refine (C8.out _).mono ?_; clear C8; rintro e w8 ⟨rfl, hb⟩; have HP8 := Lib.hid (pc_below HP7.out hb); have HB8 := Lib.hid (below_tr HB7.out hb); clear hb)
      | (go_simp; go_at_call 14; refine (C9.out _).mono ?_; clear C9; rintro e w9 ⟨rfl, rfl⟩)
      | (go_simp; go_at_call 15; refine (C10.out _).mono ?_; clear C10; rintro e w10 ⟨rfl, rfl⟩)
      | fail)
  go_wp2
  go_ret
  exact ⟨rfl, HB8.out⟩
set_option maxRecDepth 100000 in
theorem whole_bad (re im q : Int) (h : ¬ (In re ∧ In im)) (w : World) : Calls Try.prog 3 #[.int .i64 re, .int .i64 im, .int .i64 q] w (Tr w) := by
  have C1 := Lib.hid fixed_at
  have C2 := Lib.hid (whole_no h)
  have C3 := Lib.hid (rright_out h)
  have o := foeq fr_0 fr_0 rfl
  clear h
  go_enter Try.func3, Try.ntmps3
  go_wp2_with (first
    | (go_at_call 7; refine (C1.out _).mono ?_; clear C1; rintro e w1 ⟨rfl, hb⟩; have HB1 := Lib.hid hb; clear hb)
    | (go_at_call 8; refine (C2.out _).mono ?_; clear C2; rintro e w2 ⟨rfl, rfl⟩)
    | (go_at_call 9; refine (C3.out _).mono ?_; clear C3; rintro e w3 ⟨rfl, hb⟩; have HB3 := Lib.hid (below_tr (HB1.out.alloc HB1.out.size _) hb); clear hb)
    | fail)
  go_ret
  exact ⟨rfl, HB3.out⟩
theorem whole_all (re im q : Int) (w : World) : Calls Try.prog 3 #[.int .i64 re, .int .i64 im, .int .i64 q] w (Tr w) := by
  by_cases h : In re ∧ In im
  · by_cases h0 : re = 0
    · subst h0
      by_cases h1 : im = 0
      · subst h1; exact whole_c q h w
      · exact whole_b im q h h1 w
    · exact whole_a re im q h h0 w
  · exact whole_bad re im q h w
end Go.Proofs.Ytlmhhpddlgmnkaa.Ph
