import Derived.Test.YtlmhhpddlgmnkaaPhWalks
namespace Go.Proofs.Ytlmhhpddlgmnkaa.Ph
open Go.RowKit
set_option linter.unusedVariables false
set_option linter.unusedSimpArgs false
theorem xor_top {r i : Nat} (h : r < 2 ^ i) : r ^^^ 2 ^ i = 2 ^ i + r := by
  have e0 := Nat.two_pow_add_eq_or_of_lt h 1
  rw [Nat.mul_one] at e0
  rw [e0]
  refine Nat.eq_of_testBit_eq fun j => ?_
  rw [Nat.testBit_xor, Nat.testBit_or, Nat.testBit_two_pow]
  by_cases e : i = j
  · subst e; rw [Nat.testBit_lt_two_pow h]; simp
  · simp [e]
theorem rung_lt {n : Nat} (h : n ≠ 0) (h2 : n < 2 ^ 53) : rung n < 2 ^ 63 := by
  obtain ⟨hk, hl, hu⟩ := norm_bd h h2
  unfold rung; omega
theorem neg_word (s : Bool) {r : Nat} (h : r < 2 ^ 63) : Op.negFloat .f64 (Ieee.double.word s r) = Ieee.double.word (!s) r := by
  show Ieee.double.word s r ^^^ 2 ^ 63 = _
  cases s
  · show r ^^^ 2 ^ 63 = 2 ^ 63 + r; exact xor_top h
  · show (2 ^ 63 + r) ^^^ 2 ^ 63 = r
    rw [← xor_top h, Nat.xor_assoc, Nat.xor_self, Nat.xor_zero]
theorem fr_neg {b : Nat} {n : Int} (h : FR b n) : FR (Op.negFloat .f64 b) (-n) := by
  obtain ⟨h1, s, rfl, h2⟩ := h
  refine ⟨by omega, !s, ?_, fun h0 => ?_⟩
  · rw [Int.natAbs_neg]
    by_cases h0 : n.natAbs = 0
    · rw [h0, dw_zero, dw_zero]; exact neg_word s (Nat.two_pow_pos _)
    · rw [dw_pos _ h0 h1, dw_pos _ h0 h1]; exact neg_word s (rung_lt h0 h1)
  · have : n ≠ 0 := by omega
    rw [h2 this]
    rcases Int.lt_or_gt_of_ne this with h3 | h3
    · rw [decide_eq_true h3, decide_eq_false (by omega)]; rfl
    · rw [decide_eq_false (by omega), decide_eq_true (by omega)]; rfl
theorem cr_neg {x y : Nat} {a b : Int} (h : CR x y a b) : CR (Op.negFloat .f64 x) (Op.negFloat .f64 y) (-a) (-b) := ⟨fr_neg h.re, fr_neg h.im⟩
theorem c_mul {x y u v : Nat} {a b c d : Int} (h : CR x y a b) (k : CR u v c d) (h1 : (a * c).natAbs < 2 ^ 53) (h2 : (b * d).natAbs < 2 ^ 53) (h3 : (a * c - b * d).natAbs < 2 ^ 53) (h4 : (a * d).natAbs < 2 ^ 53) (h5 : (b * c).natAbs < 2 ^ 53) (h6 : (a * d + b * c).natAbs < 2 ^ 53) :
    ∃ p q, (∀ (t : TypeId) (w : World), (binOp .mul t (cx x y) (cx u v)).run Try.prog w = .ok (cx p q) w) ∧ CR p q (a * c - b * d) (a * d + b * c) := by
  obtain ⟨ac, e1, f1⟩ := fr_mul h.re k.re h1
  obtain ⟨bd, e2, f2⟩ := fr_mul h.im k.im h2
  obtain ⟨p, e3, f3⟩ := fr_sub f1 f2 h3
  obtain ⟨ad, e4, f4⟩ := fr_mul h.re k.im h4
  obtain ⟨bc, e5, f5⟩ := fr_mul h.im k.re h5
  obtain ⟨q, e6, f6⟩ := fr_add f4 f5 h6
  refine ⟨p, q, fun t w => run_complex_mul w t x y u v p q ?_, ⟨f3, f6⟩⟩
  have g : FloatKind.f64.format = Ieee.double := rfl
  simp only [cMulBits, floatBits, g, e1, e2, e3, e4, e5, e6, Option.bind_some]
theorem c_add {x y u v : Nat} {a b c d : Int} (h : CR x y a b) (k : CR u v c d) (h1 : (a + c).natAbs < 2 ^ 53) (h2 : (b + d).natAbs < 2 ^ 53) :
    ∃ p q, (∀ (t : TypeId) (w : World), (binOp .add t (cx x y) (cx u v)).run Try.prog w = .ok (cx p q) w) ∧ CR p q (a + c) (b + d) := by
  obtain ⟨p, e1, f1⟩ := fr_add h.re k.re h1
  obtain ⟨q, e2, f2⟩ := fr_add h.im k.im h2
  refine ⟨p, q, fun t w => run_complex_sum w .add (.inl rfl) t .f64 x y u v p q ?_, ⟨f1, f2⟩⟩
  have g : FloatKind.f64.format = Ieee.double := rfl
  simp only [cSumBits, floatBits, g, e1, e2, Option.bind_some]
theorem turns_at (w : World) : Calls Try.prog 23 #[] w fun e w' => e = .returned (.agg #[cx 4607182418800017408 0, cx 0 4607182418800017408, cx 13830554455654793216 0, cx 0 13830554455654793216]) ∧ Below w.heap.size w w' := by
  have hst : ∀ (a : Addr) (re im : Nat) (m : Mode) (w : World), (store a (.complex .f64 re im) m).run Try.prog w = stored Try.prog w a (.complex .f64 re im) m := fun a re im m w => run_store Try.prog w a _ m rfl
  go_enter Try.func23, Try.ntmps23
  go_wp2
  have hl : (Value.pointer (some ⟨w.heap.size, 0, none⟩)) = Value.pointer (some ⟨w.heap.size, 0, none⟩) := rfl
  exact bodyPost_ret (results_cell_row Try.results23 _ _ w.heap.size 53 _ (0, 0) _ rfl (heap_alloc_new w _) Try.underlying53 rfl (by kernel_rfl)) rfl ⟨rfl, (Below.refl _ _).alloc (Nat.le_refl _) _⟩
/-- One number turned. -/
def rot (k : Int) (a b : Int) : Int × Int := if k = 0 then (a, b) else if k = 1 then (-b, a) else if k = 2 then (-a, -b) else (b, -a)
theorem in_neg {a : Int} (h : In a) : In (-a) := by unfold In at *; omega
theorem in_rot {k a b : Int} (ha : In a) (hb : In b) : In (rot k a b).1 ∧ In (rot k a b).2 := by
  unfold rot
  split
  · exact ⟨ha, hb⟩
  · split
    · exact ⟨in_neg hb, ha⟩
    · split
      · exact ⟨in_neg ha, in_neg hb⟩
      · exact ⟨hb, in_neg ha⟩
theorem idx0 (w : World) : (Instr.index 53 (.agg #[cx 4607182418800017408 0, cx 0 4607182418800017408, cx 13830554455654793216 0, cx 0 13830554455654793216]) (.int .i64 0)).run Try.prog w = .ok (cx 4607182418800017408 0) w := by kernel_rfl
theorem idx1 (w : World) : (Instr.index 53 (.agg #[cx 4607182418800017408 0, cx 0 4607182418800017408, cx 13830554455654793216 0, cx 0 13830554455654793216]) (.int .i64 1)).run Try.prog w = .ok (cx 0 4607182418800017408) w := by kernel_rfl
theorem idx2 (w : World) : (Instr.index 53 (.agg #[cx 4607182418800017408 0, cx 0 4607182418800017408, cx 13830554455654793216 0, cx 0 13830554455654793216]) (.int .i64 2)).run Try.prog w = .ok (cx 13830554455654793216 0) w := by kernel_rfl
theorem idx3 (w : World) : (Instr.index 53 (.agg #[cx 4607182418800017408 0, cx 0 4607182418800017408, cx 13830554455654793216 0, cx 0 13830554455654793216]) (.int .i64 3)).run Try.prog w = .ok (cx 0 13830554455654793216) w := by kernel_rfl
theorem turn_k {x y u v : Nat} {a b c d : Int} (q k : Int) (h : CR x y a b) (ha : In a) (hb : In b) (hq : bits .and .i64 q 3 = k) (hk : (k = 0 ∧ u = 4607182418800017408 ∧ v = 0 ∧ c = 1 ∧ d = 0) ∨ (k = 1 ∧ u = 0 ∧ v = 4607182418800017408 ∧ c = 0 ∧ d = 1) ∨ (k = 2 ∧ u = 13830554455654793216 ∧ v = 0 ∧ c = -1 ∧ d = 0) ∨ (k = 3 ∧ u = 0 ∧ v = 13830554455654793216 ∧ c = 0 ∧ d = -1)) (w : World) :
    Calls Try.prog 12 #[cx x y, .int .i64 q] w fun e w' => e = .returned (cx (fw (rot k a b).1) (fw (rot k a b).2)) ∧ Below w.heap.size w w' := by
  have C1 := Lib.hid (right_in h ⟨ha, hb⟩)
  have C2 := Lib.hid turns_at
  have hcd : CR u v c d := by
    rcases hk with ⟨_, rfl, rfl, rfl, rfl⟩ | ⟨_, rfl, rfl, rfl, rfl⟩ | ⟨_, rfl, rfl, rfl, rfl⟩ | ⟨_, rfl, rfl, rfl, rfl⟩
    · exact ⟨fr_1, fr_0⟩
    · exact ⟨fr_0, fr_1⟩
    · exact ⟨fr_n1, fr_0⟩
    · exact ⟨fr_0, fr_n1⟩
  have ha' := ha
  have hb' := hb
  unfold In at ha' hb'
  have hr : rot k a b = (a * c - b * d, a * d + b * c) := by
    unfold rot
    rcases hk with ⟨rfl, _, _, rfl, rfl⟩ | ⟨rfl, _, _, rfl, rfl⟩ | ⟨rfl, _, _, rfl, rfl⟩ | ⟨rfl, _, _, rfl, rfl⟩ <;> simp
  obtain ⟨p, r, hm, hc⟩ := c_mul h hcd (by rcases hk with ⟨_, _, _, rfl, rfl⟩ | ⟨_, _, _, rfl, rfl⟩ | ⟨_, _, _, rfl, rfl⟩ | ⟨_, _, _, rfl, rfl⟩ <;> omega) (by rcases hk with ⟨_, _, _, rfl, rfl⟩ | ⟨_, _, _, rfl, rfl⟩ | ⟨_, _, _, rfl, rfl⟩ | ⟨_, _, _, rfl, rfl⟩ <;> omega) (by rcases hk with ⟨_, _, _, rfl, rfl⟩ | ⟨_, _, _, rfl, rfl⟩ | ⟨_, _, _, rfl, rfl⟩ | ⟨_, _, _, rfl, rfl⟩ <;> omega) (by rcases hk with ⟨_, _, _, rfl, rfl⟩ | ⟨_, _, _, rfl, rfl⟩ | ⟨_, _, _, rfl, rfl⟩ | ⟨_, _, _, rfl, rfl⟩ <;> omega) (by rcases hk with ⟨_, _, _, rfl, rfl⟩ | ⟨_, _, _, rfl, rfl⟩ | ⟨_, _, _, rfl, rfl⟩ | ⟨_, _, _, rfl, rfl⟩ <;> omega) (by rcases hk with ⟨_, _, _, rfl, rfl⟩ | ⟨_, _, _, rfl, rfl⟩ | ⟨_, _, _, rfl, rfl⟩ | ⟨_, _, _, rfl, rfl⟩ <;> omega)
  have hin := in_rot (k := k) ha hb
  rw [hr] at hin ⊢
  have C3 := Lib.hid (tidy_in hc hin.1 hin.2)
  generalize a * c - b * d = A at *
  generalize a * d + b * c = B at *
  clear hcd ha' hb' ha hb h hc hr hin
  rcases hk with ⟨rfl, rfl, rfl, rfl, rfl⟩ | ⟨rfl, rfl, rfl, rfl, rfl⟩ | ⟨rfl, rfl, rfl, rfl, rfl⟩ | ⟨rfl, rfl, rfl, rfl, rfl⟩
  all_goals
    have i0 := idx0
    have i1 := idx1
    have i2 := idx2
    have i3 := idx3
    go_enter Try.func12, Try.ntmps12
    go_wp2_with (first | (go_at_call 21; refine (C1.out _).mono ?_; rintro e w1 ⟨rfl, rfl⟩) | (go_at_call 23; refine (C2.out _).mono ?_; rintro e w2 ⟨rfl, hb⟩; have HB := Lib.hid hb; clear hb) | (go_at_call 22; refine (C3.out _).mono ?_; rintro e w3 ⟨rfl, rfl⟩) | fail)
    go_ret
    exact ⟨rfl, HB.out⟩
theorem and3 (n : Int) : bits .and .i64 n 3 = n % 4 := by
  have h127 : (BitVec.ofInt 64 3).toNat = 2 ^ 2 - 1 := by decide
  have key : (BitVec.ofInt 64 n &&& BitVec.ofInt 64 3).toNat = (n % ((2 ^ 64 : Nat) : Int)).toNat % 2 ^ 2 := by
    rw [BitVec.toNat_and, BitVec.toNat_ofInt, h127, Nat.and_two_pow_sub_one_eq_mod]
  show IntKind.i64.wrap ((BitVec.ofInt 64 n &&& BitVec.ofInt 64 3).toNat : Nat) = n % 4
  rw [key, IntKind.wrap_i64]
  omega
theorem turn_in {x y : Nat} {a b : Int} (q : Int) (h : CR x y a b) (ha : In a) (hb : In b) (w : World) :
    Calls Try.prog 12 #[cx x y, .int .i64 q] w fun e w' => e = .returned (cx (fw (rot (q % 4) a b).1) (fw (rot (q % 4) a b).2)) ∧ Below w.heap.size w w' := by
  rcases (show q % 4 = 0 ∨ q % 4 = 1 ∨ q % 4 = 2 ∨ q % 4 = 3 by omega) with h1 | h1 | h1 | h1
  · exact turn_k q _ h ha hb (and3 q) (.inl ⟨h1, rfl, rfl, rfl, rfl⟩) w
  · exact turn_k q _ h ha hb (and3 q) (.inr (.inl ⟨h1, rfl, rfl, rfl, rfl⟩)) w
  · exact turn_k q _ h ha hb (and3 q) (.inr (.inr (.inl ⟨h1, rfl, rfl, rfl, rfl⟩))) w
  · exact turn_k q _ h ha hb (and3 q) (.inr (.inr (.inr ⟨h1, rfl, rfl, rfl, rfl⟩))) w
end Go.Proofs.Ytlmhhpddlgmnkaa.Ph
