import Derived.Test.YtlmhhpddlgmnkaaPhTurn
namespace Go.Proofs.Ytlmhhpddlgmnkaa.Ph
open Go.RowKit
set_option linter.unusedVariables false
set_option linter.unusedSimpArgs false
theorem abs_mul {a c : Int} (ha : In a) (hc : In c) : -1099511627776 ≤ a * c ∧ a * c ≤ 1099511627776 := by
  unfold In at ha hc
  have h2 : a.natAbs * c.natAbs ≤ 1048576 * 1048576 := Nat.mul_le_mul (by omega) (by omega)
  have h3 : (a * c).natAbs = a.natAbs * c.natAbs := Int.natAbs_mul a c
  omega
theorem mul_prod {x y u v : Nat} {a b c d : Int} (h : CR x y a b) (k : CR u v c d) (ha : In a ∧ In b) (hc : In c ∧ In d) :
    ∃ p q, (∀ (t : TypeId) (w : World), (binOp .mul t (cx x y) (cx u v)).run Try.prog w = .ok (cx p q) w) ∧ CR p q (a * c - b * d) (a * d + b * c) := by
  have h1 := abs_mul ha.1 hc.1
  have h2 := abs_mul ha.2 hc.2
  have h3 := abs_mul ha.1 hc.2
  have h4 := abs_mul ha.2 hc.1
  exact c_mul h k (by omega) (by omega) (by omega) (by omega) (by omega) (by omega)
theorem mul_in {x y u v : Nat} {a b c d : Int} (h : CR x y a b) (k : CR u v c d) (ha : In a ∧ In b) (hc : In c ∧ In d) (hp : In (a * c - b * d) ∧ In (a * d + b * c)) (w : World) :
    Calls Try.prog 16 #[cx x y, cx u v] w fun e w' => e = .returned (.tuple #[cx (fw (a * c - b * d)) (fw (a * d + b * c)), .bool true]) ∧ w' = w := by
  obtain ⟨p, q, hm, hr⟩ := mul_prod h k ha hc
  have C1 := Lib.hid (right_in h ha)
  have C2 := Lib.hid (right_in k hc)
  have C3 := Lib.hid (right_in hr hp)
  have C4 := Lib.hid (tidy_in hr hp.1 hp.2)
  generalize a * c - b * d = A at *
  generalize a * d + b * c = B at *
  clear h k ha hc hp hr
  go_enter Try.func16, Try.ntmps16
  go_wp2_with (first
    | (go_at_call 21; refine (C1.out _).mono ?_; clear C1; rintro e w1 ⟨rfl, rfl⟩)
    | (go_at_call 21; refine (C2.out _).mono ?_; clear C2; rintro e w1 ⟨rfl, rfl⟩)
    | (go_at_call 21; refine (C3.out _).mono ?_; clear C3; rintro e w1 ⟨rfl, rfl⟩)
    | (go_at_call 22; refine (C4.out _).mono ?_; rintro e w1 ⟨rfl, rfl⟩)
    | fail)
  exact bodyPost_ret (results_tmp2 rfl _ _ _) rfl ⟨rfl, rfl⟩
theorem mul_out {x y u v : Nat} {a b c d : Int} (h : CR x y a b) (k : CR u v c d) (ha : In a ∧ In b) (hc : In c ∧ In d) (hp : ¬ (In (a * c - b * d) ∧ In (a * d + b * c))) (w : World) :
    Calls Try.prog 16 #[cx x y, cx u v] w fun e w' => e = .returned (.tuple #[cx 0 0, .bool false]) ∧ w' = w := by
  obtain ⟨p, q, hm, hr⟩ := mul_prod h k ha hc
  have C1 := Lib.hid (right_in h ha)
  have C2 := Lib.hid (right_in k hc)
  have C3 := Lib.hid (right_out hr hp)
  clear h k ha hc hp hr
  go_enter Try.func16, Try.ntmps16
  go_wp2_with (first
    | (go_at_call 21; refine (C1.out _).mono ?_; clear C1; rintro e w1 ⟨rfl, rfl⟩)
    | (go_at_call 21; refine (C2.out _).mono ?_; clear C2; rintro e w1 ⟨rfl, rfl⟩)
    | (go_at_call 21; refine (C3.out _).mono ?_; clear C3; rintro e w1 ⟨rfl, rfl⟩)
    | fail)
  exact bodyPost_ret (results_tmp2 rfl _ _ _) rfl ⟨rfl, rfl⟩
/-! The reference. -/
abbrev pr (a b : Int) : Value := .agg #[.int .i64 a, .int .i64 b]
theorem rright_in {a b : Int} (h : In a ∧ In b) (w : World) : Calls Try.prog 9 #[pr a b] w fun e w' => e = .returned (.bool true) ∧ Below w.heap.size w w' := by
  unfold In at h
  go_enter Try.func9, Try.ntmps9
  go_wp2
  go_ret
  exact ⟨rfl, (Below.refl _ _).alloc (Nat.le_refl _) _⟩
theorem rright_out {a b : Int} (h : ¬ (In a ∧ In b)) (w : World) : Calls Try.prog 9 #[pr a b] w fun e w' => e = .returned (.bool false) ∧ Below w.heap.size w w' := by
  unfold In at h
  rcases (show a < -1048576 ∨ (-1048576 ≤ a ∧ 1048576 < a) ∨ ((-1048576 ≤ a ∧ a ≤ 1048576) ∧ b < -1048576) ∨ ((-1048576 ≤ a ∧ a ≤ 1048576) ∧ (-1048576 ≤ b ∧ 1048576 < b)) by omega) with h1 | h1 | h1 | h1
  all_goals
    clear h
    go_enter Try.func9, Try.ntmps9
    go_wp2
    go_ret
    exact ⟨by first | rfl | (simp; omega), (Below.refl _ _).alloc (Nat.le_refl _) _⟩
theorem is_in {x y : Nat} {a b : Int} (h : CR x y a b) (hi : In a ∧ In b) (w : World) : Calls Try.prog 11 #[cx x y, pr a b] w fun e w' => e = .returned (.bool true) ∧ Below w.heap.size w w' := by
  have C1 := Lib.hid (parts_in h hi.1 hi.2)
  have C2 := Lib.hid (right_in h hi)
  clear h hi
  go_enter Try.func11, Try.ntmps11
  go_wp2_with (first
    | (go_at_call 20; refine (C1.out _).mono ?_; rintro e w1 ⟨rfl, rfl⟩)
    | (go_at_call 21; refine (C2.out _).mono ?_; rintro e w1 ⟨rfl, rfl⟩)
    | fail)
  go_ret
  exact ⟨rfl, (Below.refl _ _).alloc (Nat.le_refl _) _⟩
theorem new2 (w : World) (o o2 : Obj) : ((w.alloc o).alloc o2).heap[w.heap.size + 1]? = some o2 := by
  have := heap_alloc_new (w.alloc o) o2
  simpa using this
theorem below2 (w : World) (o o2 : Obj) : Below w.heap.size w ((w.alloc o).alloc o2) :=
  ⟨rfl, rfl, rfl, by simp; omega, fun k hk => (Below.heap_alloc (w.alloc o) o2 k (by simp; omega)).trans (Below.heap_alloc w o k hk)⟩
theorem rturn_at {a b : Int} (k : Nat) (hk : k ≤ 3) (hi : In a ∧ In b) (w : World) : Calls Try.prog 13 #[pr a b, .int .i64 k] w fun e w' => e = .returned (pr (rot k a b).1 (rot k a b).2) ∧ Below w.heap.size w w' := by
  go_enter Try.func13, Try.ntmps13
  go_wp2_with fail
  go_loopw [5] (fun v5 W => ∃ (i : Nat), i ≤ k ∧ v5 = .int .i64 i ∧ W = (w.alloc (.cells #[.int .i64 (rot i a b).1, .int .i64 (rot i a b).2] 27)).alloc (.cells #[.int .i64 0, .int .i64 0] 27)) (fun v5 _ => k - (intOf v5).toNat)
  case atStart => exact ⟨0, by omega, rfl, rfl⟩
  case round =>
    obtain ⟨i, hik, rfl, rfl⟩ := hrel
    by_cases hlt : i < k
    · have hin := in_rot (k := i) hi.1 hi.2
      have hr : rot ((i : Int) + 1) a b = (-(rot i a b).2, (rot i a b).1) := by
        have : i = 0 ∨ i = 1 ∨ i = 2 := by omega
        rcases this with rfl | rfl | rfl <;> simp [rot]
      generalize (rot (i : Int) a b).1 = A at *
      generalize (rot (i : Int) a b).2 = B at *
      unfold In at hin
      have hw : IntKind.i64.wrap (-B) = -B := iw (by omega) (by omega)
      go_wp2
      refine ⟨⟨i + 1, by omega, by simp, ?_⟩, by simp [intOf]; omega⟩
      rw [show ((i + 1 : Nat) : Int) = (i : Int) + 1 from rfl, hr]
    · obtain rfl : i = k := by omega
      go_wp2
      refine bodyPost_ret (results_cell_row Try.results13 _ _ (w.heap.size + 1) 27 _ (0, 0) _ rfl (new2 w _ _) Try.underlying27 rfl (by kernel_rfl)) rfl ⟨rfl, below2 w _ _⟩
def rgt (k : Int) (a b : Int) : Int × Int := if k = 0 then (a, b) else if k = 1 then (b, -a) else if k = 2 then (-a, -b) else (-b, a)
theorem rquarter_at {a b : Int} (hi : In a ∧ In b) (h0 : a ≠ 0 ∨ b ≠ 0) (w : World) : Calls Try.prog 10 #[pr a b] w fun e w' => e = .returned (.int .i64 (quart a b)) ∧ Below w.heap.size w w' := by
  unfold In at hi
  obtain ⟨⟨a1, a2⟩, b1, b2⟩ := hi
  have na : IntKind.i64.wrap (-a) = -a := iw (by omega) (by omega)
  have nb : IntKind.i64.wrap (-b) = -b := iw (by omega) (by omega)
  have na2 : IntKind.i64.wrap (- -a) = a := by rw [Int.neg_neg]; exact iw (by omega) (by omega)
  have nb2 : IntKind.i64.wrap (- -b) = b := by rw [Int.neg_neg]; exact iw (by omega) (by omega)
  have hq : (0 < a ∧ 0 ≤ b ∧ quart a b = 0) ∨ (a ≤ 0 ∧ 0 < b ∧ quart a b = 1) ∨ (a < 0 ∧ b ≤ 0 ∧ quart a b = 2) ∨ (0 ≤ a ∧ b < 0 ∧ quart a b = 3) := by
    unfold quart
    (repeat' split) <;> omega
  generalize quart a b = Q at *
  go_enter Try.func10, Try.ntmps10
  go_wp2_with fail
  go_loopw [3] (fun v3 W => ∃ (i : Nat), (i : Int) ≤ Q ∧ v3 = .int .i64 i ∧ W = w.alloc (.cells #[.int .i64 (rgt i a b).1, .int .i64 (rgt i a b).2] 27)) (fun v3 _ => 4 - (intOf v3).toNat)
  case atStart => exact ⟨0, by omega, rfl, rfl⟩
  case round =>
    obtain ⟨i, hiQ, rfl, rfl⟩ := hrel
    obtain ⟨i', hi'⟩ : ∃ i', i' = i + 1 := ⟨_, rfl⟩
    have HI' := Lib.hid hi'
    clear hi'
    have hi4 : i = 0 ∨ i = 1 ∨ i = 2 ∨ i = 3 := by omega
    rcases hq with ⟨c1, c2, rfl⟩ | ⟨c1, c2, rfl⟩ | ⟨c1, c2, rfl⟩ | ⟨c1, c2, rfl⟩ <;> rcases hi4 with rfl | rfl | rfl | rfl
    all_goals
      first
        | (exfalso; omega; done)
        | (simp only [rgt]
           go_wp2
           all_goals first
             | (go_ret; exact ⟨rfl, (Below.refl _ _).alloc (Nat.le_refl _) _⟩)
             | (refine ⟨⟨i', by rw [HI'.out]; omega, by rw [HI'.out]; rfl, by rw [HI'.out]; rfl⟩, by simp [intOf]⟩))
end Go.Proofs.Ytlmhhpddlgmnkaa.Ph
