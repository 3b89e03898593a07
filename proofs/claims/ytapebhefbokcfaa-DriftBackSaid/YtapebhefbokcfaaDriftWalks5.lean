import Derived.Test.YtapebhefbokcfaaDriftWalks4
import Derived.Laws.ResultCell
namespace Go.Proofs.Ytapebhefbokcfaa.DWalk
open Go.RowKit Go.Proofs.Ytapebhefbokcfaa.DMath

/-- May these four make a rule? -/
def Ins (n1 f1 n2 f2 : Int) : Prop := (-1099511627776 ≤ n1 ∧ n1 ≤ 1099511627776) ∧ (-1099511627776 ≤ n2 ∧ n2 ≤ 1099511627776) ∧ (-1099511627776 ≤ f1 ∧ f1 ≤ 1099511627776) ∧ (-1099511627776 ≤ f2 ∧ f2 ≤ 1099511627776) ∧ n1 < n2

set_option maxHeartbeats 1000000 in
theorem fit_no0 (n1 f1 n2 f2 : Int) (w : World)  (h : ¬ (-1099511627776 ≤ n1 ∧ n1 ≤ 1099511627776)) :
    Calls Try.prog 33 #[.int .i64 n1, .int .i64 f1, .int .i64 n2, .int .i64 f2] w fun e w' => e = .returned (.tuple #[.agg #[.int .i64 0, .int .i64 0, .int .i64 0], .bool false]) ∧ Below w.heap.size w w' := by
  have C0 := Lib.hid (fun w => in_no n1 w h)
  clear  h
  go_enter Try.func33, Try.ntmps33
  go_wp2_with (first | (go_at_call_of 39 (Value.int IntKind.i64 n1); (with_reducible (refine (C0.out _).mono ?_)); rintro e w1 ⟨rfl, rfl⟩))
  exact bodyPost_ret (v := .tuple #[.agg #[.int .i64 0, .int .i64 0, .int .i64 0], .bool false]) (by simp [results, Try.results33, go_sem]) rfl ⟨rfl, (Below.refl _ _).alloc (Nat.le_refl _) _⟩

set_option maxHeartbeats 1000000 in
theorem fit_no1 (n1 f1 n2 f2 : Int) (w : World) (h0 : -1099511627776 ≤ n1 ∧ n1 ≤ 1099511627776) (h : ¬ (-1099511627776 ≤ n2 ∧ n2 ≤ 1099511627776)) :
    Calls Try.prog 33 #[.int .i64 n1, .int .i64 f1, .int .i64 n2, .int .i64 f2] w fun e w' => e = .returned (.tuple #[.agg #[.int .i64 0, .int .i64 0, .int .i64 0], .bool false]) ∧ Below w.heap.size w w' := by
  have C0 := Lib.hid (fun w => in_yes n1 w h0)
  have C1 := Lib.hid (fun w => in_no n2 w h)
  clear h0 h
  go_enter Try.func33, Try.ntmps33
  go_wp2_with (first | (go_at_call_of 39 (Value.int IntKind.i64 n1); (with_reducible (refine (C0.out _).mono ?_)); rintro e w1 ⟨rfl, rfl⟩) | (go_at_call_of 39 (Value.int IntKind.i64 n2); (with_reducible (refine (C1.out _).mono ?_)); rintro e w1 ⟨rfl, rfl⟩))
  exact bodyPost_ret (v := .tuple #[.agg #[.int .i64 0, .int .i64 0, .int .i64 0], .bool false]) (by simp [results, Try.results33, go_sem]) rfl ⟨rfl, (Below.refl _ _).alloc (Nat.le_refl _) _⟩

set_option maxHeartbeats 1000000 in
theorem fit_no2 (n1 f1 n2 f2 : Int) (w : World) (h0 : -1099511627776 ≤ n1 ∧ n1 ≤ 1099511627776) (h1 : -1099511627776 ≤ n2 ∧ n2 ≤ 1099511627776) (h : ¬ (-1099511627776 ≤ f1 ∧ f1 ≤ 1099511627776)) :
    Calls Try.prog 33 #[.int .i64 n1, .int .i64 f1, .int .i64 n2, .int .i64 f2] w fun e w' => e = .returned (.tuple #[.agg #[.int .i64 0, .int .i64 0, .int .i64 0], .bool false]) ∧ Below w.heap.size w w' := by
  have C0 := Lib.hid (fun w => in_yes n1 w h0)
  have C1 := Lib.hid (fun w => in_yes n2 w h1)
  have C2 := Lib.hid (fun w => in_no f1 w h)
  clear h0 h1 h
  go_enter Try.func33, Try.ntmps33
  go_wp2_with (first | (go_at_call_of 39 (Value.int IntKind.i64 n1); (with_reducible (refine (C0.out _).mono ?_)); rintro e w1 ⟨rfl, rfl⟩) | (go_at_call_of 39 (Value.int IntKind.i64 n2); (with_reducible (refine (C1.out _).mono ?_)); rintro e w1 ⟨rfl, rfl⟩) | (go_at_call_of 39 (Value.int IntKind.i64 f1); (with_reducible (refine (C2.out _).mono ?_)); rintro e w1 ⟨rfl, rfl⟩))
  exact bodyPost_ret (v := .tuple #[.agg #[.int .i64 0, .int .i64 0, .int .i64 0], .bool false]) (by simp [results, Try.results33, go_sem]) rfl ⟨rfl, (Below.refl _ _).alloc (Nat.le_refl _) _⟩

set_option maxHeartbeats 1000000 in
theorem fit_no3 (n1 f1 n2 f2 : Int) (w : World) (h0 : -1099511627776 ≤ n1 ∧ n1 ≤ 1099511627776) (h1 : -1099511627776 ≤ n2 ∧ n2 ≤ 1099511627776) (h2 : -1099511627776 ≤ f1 ∧ f1 ≤ 1099511627776) (h : ¬ (-1099511627776 ≤ f2 ∧ f2 ≤ 1099511627776)) :
    Calls Try.prog 33 #[.int .i64 n1, .int .i64 f1, .int .i64 n2, .int .i64 f2] w fun e w' => e = .returned (.tuple #[.agg #[.int .i64 0, .int .i64 0, .int .i64 0], .bool false]) ∧ Below w.heap.size w w' := by
  have C0 := Lib.hid (fun w => in_yes n1 w h0)
  have C1 := Lib.hid (fun w => in_yes n2 w h1)
  have C2 := Lib.hid (fun w => in_yes f1 w h2)
  have C3 := Lib.hid (fun w => in_no f2 w h)
  clear h0 h1 h2 h
  go_enter Try.func33, Try.ntmps33
  go_wp2_with (first | (go_at_call_of 39 (Value.int IntKind.i64 n1); (with_reducible (refine (C0.out _).mono ?_)); rintro e w1 ⟨rfl, rfl⟩) | (go_at_call_of 39 (Value.int IntKind.i64 n2); (with_reducible (refine (C1.out _).mono ?_)); rintro e w1 ⟨rfl, rfl⟩) | (go_at_call_of 39 (Value.int IntKind.i64 f1); (with_reducible (refine (C2.out _).mono ?_)); rintro e w1 ⟨rfl, rfl⟩) | (go_at_call_of 39 (Value.int IntKind.i64 f2); (with_reducible (refine (C3.out _).mono ?_)); rintro e w1 ⟨rfl, rfl⟩))
  exact bodyPost_ret (v := .tuple #[.agg #[.int .i64 0, .int .i64 0, .int .i64 0], .bool false]) (by simp [results, Try.results33, go_sem]) rfl ⟨rfl, (Below.refl _ _).alloc (Nat.le_refl _) _⟩

set_option maxHeartbeats 1000000 in
theorem fit_no4 (n1 f1 n2 f2 : Int) (w : World) (h0 : -1099511627776 ≤ n1 ∧ n1 ≤ 1099511627776) (h1 : -1099511627776 ≤ n2 ∧ n2 ≤ 1099511627776) (h2 : -1099511627776 ≤ f1 ∧ f1 ≤ 1099511627776) (h3 : -1099511627776 ≤ f2 ∧ f2 ≤ 1099511627776) (h : n2 ≤ n1) :
    Calls Try.prog 33 #[.int .i64 n1, .int .i64 f1, .int .i64 n2, .int .i64 f2] w fun e w' => e = .returned (.tuple #[.agg #[.int .i64 0, .int .i64 0, .int .i64 0], .bool false]) ∧ Below w.heap.size w w' := by
  have C0 := Lib.hid (fun w => in_yes n1 w h0)
  have C1 := Lib.hid (fun w => in_yes n2 w h1)
  have C2 := Lib.hid (fun w => in_yes f1 w h2)
  have C3 := Lib.hid (fun w => in_yes f2 w h3)
  clear h0 h1 h2 h3
  go_enter Try.func33, Try.ntmps33
  go_wp2_with (first | (go_at_call_of 39 (Value.int IntKind.i64 n1); (with_reducible (refine (C0.out _).mono ?_)); rintro e w1 ⟨rfl, rfl⟩) | (go_at_call_of 39 (Value.int IntKind.i64 n2); (with_reducible (refine (C1.out _).mono ?_)); rintro e w1 ⟨rfl, rfl⟩) | (go_at_call_of 39 (Value.int IntKind.i64 f1); (with_reducible (refine (C2.out _).mono ?_)); rintro e w1 ⟨rfl, rfl⟩) | (go_at_call_of 39 (Value.int IntKind.i64 f2); (with_reducible (refine (C3.out _).mono ?_)); rintro e w1 ⟨rfl, rfl⟩))
  exact bodyPost_ret (v := .tuple #[.agg #[.int .i64 0, .int .i64 0, .int .i64 0], .bool false]) (by simp [results, Try.results33, go_sem]) rfl ⟨rfl, (Below.refl _ _).alloc (Nat.le_refl _) _⟩

theorem fit_no (n1 f1 n2 f2 : Int) (w : World) (h : ¬ Ins n1 f1 n2 f2) :
    Calls Try.prog 33 #[.int .i64 n1, .int .i64 f1, .int .i64 n2, .int .i64 f2] w fun e w' => e = .returned (.tuple #[.agg #[.int .i64 0, .int .i64 0, .int .i64 0], .bool false]) ∧ Below w.heap.size w w' := by
  by_cases h0 : -1099511627776 ≤ n1 ∧ n1 ≤ 1099511627776
  · by_cases h1 : -1099511627776 ≤ n2 ∧ n2 ≤ 1099511627776
    · by_cases h2 : -1099511627776 ≤ f1 ∧ f1 ≤ 1099511627776
      · by_cases h3 : -1099511627776 ≤ f2 ∧ f2 ≤ 1099511627776
        · exact fit_no4 n1 f1 n2 f2 w h0 h1 h2 h3 (by unfold Ins at h; omega)
        · exact fit_no3 n1 f1 n2 f2 w h0 h1 h2 h3
      · exact fit_no2 n1 f1 n2 f2 w h0 h1 h2
    · exact fit_no1 n1 f1 n2 f2 w h0 h1
  · exact fit_no0 n1 f1 n2 f2 w h0

/-- The slope, by thousands: after k rounds. -/
def FitI (d more : Int) (k : Nat) (rate rest : Int) : Prop := rate * d + rest = more * 1000 ^ k ∧ -d ≤ rest ∧ rest ≤ d ∧ (0 < k → 0 ≤ rest ∧ rest < d) ∧ -(1000 ^ k) ≤ rate ∧ rate ≤ 1000 ^ k
theorem fiti_0 {d more : Int} (h1 : -d ≤ more) (h2 : more ≤ d) : FitI d more 0 0 more := ⟨by simp, h1, h2, fun h => by omega, by simp, by simp⟩
theorem rate_lo {d more rate rest p : Int} (hd : 0 < d) (h : rate * d + rest = more * p) (hp : 0 ≤ p) (hm : -d ≤ more) (hr : rest < d) : -p ≤ rate := by
  have h1 : -d * p ≤ more * p := Int.mul_le_mul_of_nonneg_right hm hp
  have h2 : (-p - 1) * d < rate * d := by
    have e1 : (-p - 1) * d = -d * p - d := by grind
    omega
  have h3 := Int.lt_of_mul_lt_mul_right h2 (by omega)
  omega
theorem rate_hi {d more rate rest p : Int} (hd : 0 < d) (h : rate * d + rest = more * p) (hp : 0 ≤ p) (hm : more ≤ d) (hr : 0 ≤ rest) : rate ≤ p := by
  have h1 : more * p ≤ d * p := Int.mul_le_mul_of_nonneg_right hm hp
  have h2 : rate * d ≤ p * d := by
    have e1 : d * p = p * d := Int.mul_comm _ _
    omega
  exact Int.le_of_mul_le_mul_right h2 hd
theorem fiti_1 {d more rate rest : Int} {k : Nat} (hd : 0 < d) (hm : -d ≤ more) (hm2 : more ≤ d) (h : FitI d more k rate rest) : FitI d more (k + 1) (rate * 1000 + rest * 1000 / d) (rest * 1000 - rest * 1000 / d * d) := by
  obtain ⟨h1, h2, h3, h4, h5, h6⟩ := h
  have e := Int.mul_ediv_add_emod (rest * 1000) d
  have m1 := Int.emod_nonneg (rest * 1000) (show d ≠ 0 by omega)
  have m2 := Int.emod_lt_of_pos (rest * 1000) hd
  have hc : d * (rest * 1000 / d) = rest * 1000 / d * d := Int.mul_comm _ _
  have q1 : -1000 ≤ rest * 1000 / d := by
    rw [Int.le_ediv_iff_mul_le hd]; omega
  have q2 : rest * 1000 / d ≤ 1000 := by
    have : rest * 1000 / d < 1001 := by rw [Int.ediv_lt_iff_lt_mul hd]; omega
    omega
  have g0 : (rate * 1000 + rest * 1000 / d) * d + (rest * 1000 - rest * 1000 / d * d) = more * 1000 ^ (k + 1) := by
    have : (rate * 1000 + rest * 1000 / d) * d = rate * d * 1000 + rest * 1000 / d * d := by grind
    have h1' : more * 1000 ^ (k + 1) = (rate * d + rest) * 1000 := by rw [h1]; grind
    rw [h1', this]; omega
  have g1 : (0 : Int) ≤ 1000 ^ (k + 1) := Int.pow_nonneg (by decide)
  refine ⟨g0, ?_, ?_, fun _ => ⟨?_, ?_⟩, ?_, ?_⟩
  · omega
  · omega
  · omega
  · omega
  · exact rate_lo (p := 1000 ^ (k + 1)) hd g0 g1 (by omega) (by omega)
  · exact rate_hi (p := 1000 ^ (k + 1)) hd g0 g1 (by omega) (by omega)
theorem fiti_bd {d more rate rest : Int} {k : Nat} (hk : k ≤ 3) (h : FitI d more k rate rest) : -1000000000 ≤ rate ∧ rate ≤ 1000000000 := by
  obtain ⟨_, _, _, _, h5, h6⟩ := h
  match k, hk with
  | 0, _ => simp at h5 h6; omega
  | 1, _ => simp at h5 h6; omega
  | 2, _ => simp at h5 h6; omega
  | 3, _ => simp at h5 h6; omega
theorem fiti_end {d more rate rest : Int} (hd : 0 < d) (h : FitI d more 3 rate rest) : rate = more * 1000000000 / d := by
  obtain ⟨h1, _, _, h4, _, _⟩ := h
  obtain ⟨h4, h5⟩ := h4 (by omega)
  exact ((Int.ediv_emod_unique (r := rest) hd).2 ⟨by have : (1000 : Int) ^ 3 = 1000000000 := rfl; rw [this] at h1; rw [Int.mul_comm d rate]; omega, h4, h5⟩).1.symm

def rate (n1 f1 n2 f2 : Int) : Int := (f2 - f1 - (n2 - n1)) * 1000000000 / (n2 - n1)
def FitOk (n1 f1 n2 f2 : Int) : Prop := f2 - f1 - (n2 - n1) ≤ n2 - n1 ∧ -(n2 - n1) ≤ f2 - f1 - (n2 - n1) ∧ -500000 ≤ rate n1 f1 n2 f2 ∧ rate n1 f1 n2 f2 ≤ 500000
def FitOut (n1 f1 n2 f2 : Int) (w : World) (e : Ending) (w' : World) : Prop :=
  ((FitOk n1 f1 n2 f2 ∧ e = .returned (.tuple #[.agg #[.int .i64 n1, .int .i64 f1, .int .i64 (rate n1 f1 n2 f2)], .bool true])) ∨ (¬ FitOk n1 f1 n2 f2 ∧ e = .returned (.tuple #[.agg #[.int .i64 0, .int .i64 0, .int .i64 0], .bool false]))) ∧ Below w.heap.size w w'
set_option maxHeartbeats 2000000 in
theorem fit_far (n1 f1 n2 f2 : Int) (w : World) (h : Ins n1 f1 n2 f2) (hx : ¬ (f2 - f1 - (n2 - n1) ≤ n2 - n1 ∧ -(n2 - n1) ≤ f2 - f1 - (n2 - n1))) :
    Calls Try.prog 33 #[.int .i64 n1, .int .i64 f1, .int .i64 n2, .int .i64 f2] w (FitOut n1 f1 n2 f2 w) := by
  have HN := Lib.hid (show ¬ FitOk n1 f1 n2 f2 from fun q => hx ⟨q.1, q.2.1⟩)
  obtain ⟨h0, h1, h2, h3, h4⟩ := h
  have C0 := Lib.hid (fun w => in_yes n1 w h0)
  have C1 := Lib.hid (fun w => in_yes n2 w h1)
  have C2 := Lib.hid (fun w => in_yes f1 w h2)
  have C3 := Lib.hid (fun w => in_yes f2 w h3)
  obtain ⟨h0a, h0b⟩ := h0
  obtain ⟨h1a, h1b⟩ := h1
  obtain ⟨h2a, h2b⟩ := h2
  obtain ⟨h3a, h3b⟩ := h3
  rcases (show n2 - n1 < f2 - f1 - (n2 - n1) ∨ f2 - f1 - (n2 - n1) < -(n2 - n1) by omega) with hc | hc
  all_goals
    clear hx
    go_enter Try.func33, Try.ntmps33
    go_wp2_with (first | (go_at_call_of 39 (Value.int IntKind.i64 n1); (with_reducible (refine (C0.out _).mono ?_)); rintro e w1 ⟨rfl, rfl⟩) | (go_at_call_of 39 (Value.int IntKind.i64 n2); (with_reducible (refine (C1.out _).mono ?_)); rintro e w1 ⟨rfl, rfl⟩) | (go_at_call_of 39 (Value.int IntKind.i64 f1); (with_reducible (refine (C2.out _).mono ?_)); rintro e w1 ⟨rfl, rfl⟩) | (go_at_call_of 39 (Value.int IntKind.i64 f2); (with_reducible (refine (C3.out _).mono ?_)); rintro e w1 ⟨rfl, rfl⟩))
    exact bodyPost_ret (v := .tuple #[.agg #[.int .i64 0, .int .i64 0, .int .i64 0], .bool false]) (by simp [results, Try.results33, go_sem]) rfl ⟨.inr ⟨HN.out, rfl⟩, (Below.refl _ _).alloc (Nat.le_refl _) _⟩
set_option maxHeartbeats 2000000 in
theorem fit_near (n1 f1 n2 f2 : Int) (w : World) (h : Ins n1 f1 n2 f2) (hx1 : f2 - f1 - (n2 - n1) ≤ n2 - n1) (hx2 : -(n2 - n1) ≤ f2 - f1 - (n2 - n1)) :
    Calls Try.prog 33 #[.int .i64 n1, .int .i64 f1, .int .i64 n2, .int .i64 f2] w (FitOut n1 f1 n2 f2 w) := by
  obtain ⟨h0, h1, h2, h3, h4⟩ := h
  have C0 := Lib.hid (fun w => in_yes n1 w h0)
  have C1 := Lib.hid (fun w => in_yes n2 w h1)
  have C2 := Lib.hid (fun w => in_yes f1 w h2)
  have C3 := Lib.hid (fun w => in_yes f2 w h3)
  obtain ⟨h0a, h0b⟩ := h0
  obtain ⟨h1a, h1b⟩ := h1
  obtain ⟨h2a, h2b⟩ := h2
  obtain ⟨h3a, h3b⟩ := h3
  go_enter Try.func33, Try.ntmps33
  go_wp2_with (first | (go_at_call_of 39 (Value.int IntKind.i64 n1); (with_reducible (refine (C0.out _).mono ?_)); rintro e w1 ⟨rfl, rfl⟩) | (go_at_call_of 39 (Value.int IntKind.i64 n2); (with_reducible (refine (C1.out _).mono ?_)); rintro e w1 ⟨rfl, rfl⟩) | (go_at_call_of 39 (Value.int IntKind.i64 f1); (with_reducible (refine (C2.out _).mono ?_)); rintro e w1 ⟨rfl, rfl⟩) | (go_at_call_of 39 (Value.int IntKind.i64 f2); (with_reducible (refine (C3.out _).mono ?_)); rintro e w1 ⟨rfl, rfl⟩))
  obtain ⟨d, hd⟩ : ∃ d, n2 - n1 = d := ⟨_, rfl⟩
  obtain ⟨m, hm⟩ : ∃ m, f2 - f1 - d = m := ⟨_, rfl⟩
  have hd0 : 0 < d := by omega
  have hd1 : d ≤ 2199023255552 := by omega
  have HQ := Lib.hid (show rate n1 f1 n2 f2 = m * 1000000000 / d by unfold rate; rw [hd, hm])
  simp only [hd, hm]
  rw [hd, hm] at hx1 hx2
  have HX1 := Lib.hid hx1
  have HX2 := Lib.hid hx2
  have HD := Lib.hid hd
  have HM := Lib.hid hm
  clear hd hm hx1 hx2
  go_loop [12, 13, 58] (fun q s i => ∃ (k : Nat) (R S : Int), k ≤ 3 ∧ -d ≤ S ∧ S ≤ d ∧ -1000000000 ≤ R ∧ R ≤ 1000000000 ∧ q = .int .i64 R ∧ s = .int .i64 S ∧ i = .int .i64 k ∧ Hid (FitI d m k R S)) (fun _ _ i => 3 - (intOf i).toNat)
  case atStart => exact ⟨0, _, _, by omega, HX2.out, HX1.out, by omega, by omega, rfl, rfl, rfl, fiti_0 HX2.out HX1.out⟩
  case round =>
    obtain ⟨k, R, S, hk, hS, hS2, hR, hR2, rfl, rfl, rfl, HI⟩ := hrel
    by_cases hlt : k < 3
    · have HN := Lib.hid (fiti_1 hd0 HX2.out HX1.out HI.out)
      have hb := fiti_bd (by omega) HN.out
      have hr2 := HN.out.2.1
      have hr3 := HN.out.2.2.1
      have hq1 : -1000 ≤ S * 1000 / d := by rw [Int.le_ediv_iff_mul_le hd0]; omega
      have hq2 : S * 1000 / d ≤ 1000 := by
        have : S * 1000 / d < 1001 := by rw [Int.ediv_lt_iff_lt_mul hd0]; omega
        omega
      have hp1 := mul_bd 1000 2199023255552 (t := S * 1000 / d) (r := d) hq1 hq2 (by omega) hd1
      obtain ⟨g, hg⟩ : ∃ g, S * 1000 / d = g := ⟨_, rfl⟩
      have C4 := Lib.hid (fun w => show Calls Try.prog 41 #[.int .i64 (S * 1000), .int .i64 d] w fun e w' => e = .returned (.int .i64 g) ∧ w = w' from hg ▸ floor_any (S * 1000) d w hd0 (by omega) (by omega) (by omega))
      rw [hg] at HN hb hr2 hr3 hp1 hq1 hq2
      clear hg
      go_wp2_with (go_at_call 41; (with_reducible (refine (C4.out _).mono ?_)); rintro e w1 ⟨rfl, rfl⟩)
      go_round
      case rel => exact ⟨k + 1, _, _, by omega, hr2, hr3, hb.1, hb.2, rfl, rfl, by go_num, HN.out⟩
      case measure => simp [intOf]; omega
    · obtain rfl : k = 3 := by omega
      have HE := Lib.hid (HQ.out.trans (fiti_end hd0 HI.out).symm)
      have HOK := Lib.hid (show FitOk n1 f1 n2 f2 ↔ (-500000 ≤ R ∧ R ≤ 500000) by
        unfold FitOk
        rw [HE.out, HD.out, HM.out]
        exact ⟨fun q => q.2.2, fun q => ⟨HX1.out, HX2.out, q⟩⟩)
      by_cases hr : -500000 ≤ R ∧ R ≤ 500000
      · have C5 := Lib.hid (fun w => right_yes n1 f1 R w ⟨hr.1, hr.2, h0a, h0b, h2a, h2b⟩)
        go_wp2_with (go_at_call 26; (with_reducible (refine (C5.out _).mono ?_)); rintro e w1 ⟨rfl, hb1⟩; obtain ⟨hc, hf⟩ := bcell hb1; have HB := Lib.hid hb1; clear hb1; have hd0 : w1.cell? ⟨w.heap.size, 0, none⟩ = some (.int .i64 0) := ((hc _ 0 (by simp; omega)).trans (by simp)); have hd1 : w1.cell? ⟨w.heap.size, 1, none⟩ = some (.int .i64 0) := ((hc _ 1 (by simp; omega)).trans (by simp)); have hd2 : w1.cell? ⟨w.heap.size, 2, none⟩ = some (.int .i64 0) := ((hc _ 2 (by simp; omega)).trans (by simp)))
        refine bodyPost_ret (v := .tuple #[.agg #[.int .i64 n1, .int .i64 f1, .int .i64 R], .bool true]) (by simp [results, Try.results33, go_sem, hd0, hd1, hd2]) rfl ⟨.inl ⟨HOK.out.2 hr, by rw [HE.out]⟩, ?_⟩
        repeat (refine Below.setCell ?_ (by simp) _)
        refine Below.trans ?_ (HB.out.mono (by simp; omega))
        repeat (first | exact Below.refl _ _ | (refine Below.setCell ?_ (by simp) _) | (refine Below.alloc ?_ (by simp) _))
      · have C5 := Lib.hid (fun w => right_no n1 f1 R w (fun q => hr ⟨q.1, q.2.1⟩))
        go_wp2_with (go_at_call 26; (with_reducible (refine (C5.out _).mono ?_)); rintro e w1 ⟨rfl, hb1⟩; obtain ⟨hc, hf⟩ := bcell hb1; have HB := Lib.hid hb1; clear hb1; have hd0 : w1.cell? ⟨w.heap.size, 0, none⟩ = some (.int .i64 0) := ((hc _ 0 (by simp; omega)).trans (by simp)); have hd1 : w1.cell? ⟨w.heap.size, 1, none⟩ = some (.int .i64 0) := ((hc _ 1 (by simp; omega)).trans (by simp)); have hd2 : w1.cell? ⟨w.heap.size, 2, none⟩ = some (.int .i64 0) := ((hc _ 2 (by simp; omega)).trans (by simp)))
        refine bodyPost_ret (v := .tuple #[.agg #[.int .i64 0, .int .i64 0, .int .i64 0], .bool false]) (by simp [results, Try.results33, go_sem, hd0, hd1, hd2]) rfl ⟨.inr ⟨fun q => hr (HOK.out.1 q), rfl⟩, ?_⟩
        repeat (refine Below.setCell ?_ (by simp) _)
        refine Below.trans ?_ (HB.out.mono (by simp; omega))
        repeat (first | exact Below.refl _ _ | (refine Below.setCell ?_ (by simp) _) | (refine Below.alloc ?_ (by simp) _))

theorem fit_yes (n1 f1 n2 f2 : Int) (w : World) (h : Ins n1 f1 n2 f2) : Calls Try.prog 33 #[.int .i64 n1, .int .i64 f1, .int .i64 n2, .int .i64 f2] w (FitOut n1 f1 n2 f2 w) := by
  by_cases hx : f2 - f1 - (n2 - n1) ≤ n2 - n1 ∧ -(n2 - n1) ≤ f2 - f1 - (n2 - n1)
  · exact fit_near n1 f1 n2 f2 w h hx.1 hx.2
  · exact fit_far n1 f1 n2 f2 w h hx
end Go.Proofs.Ytapebhefbokcfaa.DWalk
