import Derived.Test.YtapebhefbokcfaaDriftWalks2
import Derived.Laws.BitsLemmas
import Derived.Laws.ShiftsVarLaws
import Derived.WalkLawsBesides
import Derived.LoopTactic
namespace Go.Proofs.Ytapebhefbokcfaa.DWalk
open Go.RowKit Go.Proofs.Ytapebhefbokcfaa.DMath
theorem half_pow (N m : Nat) : N / 2 ^ m = 2 * (N / 2 ^ (m + 1)) + (N / 2 ^ m) % 2 := by
  rw [Nat.pow_succ, ← Nat.div_div_eq_div_mul]
  omega
theorem bit_step {N m : Nat} {r Q S : Int} (HI : Q * 1000000000 + S = ((N / 2 ^ (m + 1) : Nat) : Int) * r) (b : Int) (hb : ((N / 2 ^ m % 2 : Nat) : Int) = b) :
    (2 * Q + (2 * S + b * r) / 1000000000) * 1000000000 + (2 * S + b * r) % 1000000000 = ((N / 2 ^ m : Nat) : Int) * r := by
  have h := half_pow N m
  have h' : ((N / 2 ^ m : Nat) : Int) = 2 * ((N / 2 ^ (m + 1) : Nat) : Int) + b := by omega
  rw [h']
  have e := Int.mul_ediv_add_emod (2 * S + b * r) 1000000000
  have e2 : (2 * ((N / 2 ^ (m + 1) : Nat) : Int) + b) * r = 2 * (((N / 2 ^ (m + 1) : Nat) : Int) * r) + b * r := by grind
  rw [e2, ← HI]
  omega
theorem q_bd {N j : Nat} {r Q S : Int} (hN : N ≤ 4398046511104) (hr0 : 0 ≤ r) (hr : r ≤ 1000000) (hS : 0 ≤ S) (HI : Q * 1000000000 + S = ((N / 2 ^ j : Nat) : Int) * r) : Q ≤ 4398046511104 := by
  have h : N / 2 ^ j ≤ N := Nat.div_le_self _ _
  generalize N / 2 ^ j = K at *
  have h2 := mul_bd 4398046511104 1000000 (t := (K : Int)) (r := r) (by omega) (by omega) (by omega) hr
  omega
theorem bit_of (N m : Nat) : ((N : Int) / 2 ^ m).tmod 2 = ((N / 2 ^ m % 2 : Nat) : Int) := by
  have e : ((N : Int) / 2 ^ m) = ((N / 2 ^ m : Nat) : Int) := by
    rw [Int.natCast_ediv]; congr 1
  rw [e]
  generalize N / 2 ^ m = K
  rw [Int.tmod_eq_emod_of_nonneg (by omega)]
  omega
/-- What part answers. -/
def pt (n r : Int) : Int := n * r / 1000000000
theorem fin_pp {N M : Nat} {Q S : Int} (h0 : 0 ≤ S) (h1 : S < 1000000000) (HI : Q * 1000000000 + S = (N : Int) * M) : Q = pt N M := by
  unfold pt; omega
theorem fin_mm {N M : Nat} {Q S : Int} (h0 : 0 ≤ S) (h1 : S < 1000000000) (HI : Q * 1000000000 + S = (N : Int) * M) : Q = pt (-N) (-M) := by
  unfold pt; rw [Int.neg_mul_neg]; omega
theorem fin_pm {N M : Nat} {Q S : Int} (h0 : 0 ≤ S) (h1 : S < 1000000000) (HI : Q * 1000000000 + S = (N : Int) * M) : (if 0 < S then -Q - 1 else -Q) = pt N (-M) := by
  unfold pt; rw [Int.mul_neg]; split <;> omega
theorem fin_mp {N M : Nat} {Q S : Int} (h0 : 0 ≤ S) (h1 : S < 1000000000) (HI : Q * 1000000000 + S = (N : Int) * M) : (if 0 < S then -Q - 1 else -Q) = pt (-N) M := by
  unfold pt; rw [Int.neg_mul]; split <;> omega
def PartI (N M : Nat) (j : Nat) (Q S : Int) : Prop := Q * 1000000000 + S = ((N / 2 ^ j : Nat) : Int) * M
theorem parti_0 {N M : Nat} (h : N ≤ 4398046511104) : PartI N M 63 0 0 := by
  have : N / 2 ^ 63 = 0 := Nat.div_eq_of_lt (by omega)
  unfold PartI; rw [this]; simp
theorem parti_1 {N M m : Nat} {Q S : Int} (h : PartI N M (m + 1) Q S) (hb : (((N : Int) / 2 ^ m).tmod 2 == 1) = true) : PartI N M m (2 * Q + (2 * S + M) / 1000000000) ((2 * S + M) % 1000000000) := by
  rw [bit_of] at hb
  have := bit_step h 1 (by simpa using hb)
  rwa [Int.one_mul] at this
theorem parti_00 {N M m : Nat} {Q S : Int} (h : PartI N M (m + 1) Q S) (hb : (((N : Int) / 2 ^ m).tmod 2 == 1) = false) : PartI N M m (2 * Q + 2 * S / 1000000000) (2 * S % 1000000000) := by
  rw [bit_of] at hb
  have hb' : ¬ ((N / 2 ^ m % 2 : Nat) : Int) = 1 := by simpa using hb
  generalize hK : N / 2 ^ m % 2 = K at hb'
  have := bit_step h 0 (by omega)
  rwa [Int.zero_mul, Int.add_zero] at this
theorem parti_end {N M : Nat} {Q S : Int} (h : PartI N M 0 Q S) : Q * 1000000000 + S = (N : Int) * M := by
  unfold PartI at h; simpa using h
theorem parti_bd {N M j : Nat} {Q S : Int} (hN : N ≤ 4398046511104) (hM : M ≤ 1000000) (hS : 0 ≤ S) (h : PartI N M j Q S) : Q ≤ 4398046511104 := q_bd hN (by omega) (by omega) hS h

set_option maxHeartbeats 800000 in
theorem part_pp (N M : Nat) (w : World) (hN : N ≤ 4398046511104) (hM : M ≤ 1000000) :
    Calls Try.prog 31 #[.int .i64 N, .int .i64 M] w fun e w' => e = .returned (.int .i64 (pt N M)) ∧ w = w' := by
  go_enter Try.func31, Try.ntmps31
  go_wp2_with fail
  go_loop [6, 7, 8] (fun q s i => ∃ (j : Nat) (Q S : Int), j ≤ 63 ∧ 0 ≤ Q ∧ 0 ≤ S ∧ S < 1000000000 ∧ q = .int .i64 Q ∧ s = .int .i64 S ∧ i = .int .i64 (↑j - 1) ∧ Hid (PartI N M j Q S)) (fun _ _ i => (intOf i + 1).toNat)
  case atStart => exact ⟨63, 0, 0, by omega, by omega, by omega, by omega, rfl, rfl, rfl, parti_0 hN⟩
  case round =>
    obtain ⟨j, Q, S, hj, hQ, hS, hS2, rfl, rfl, rfl, HI⟩ := hrel
    have hQ2 := parti_bd hN hM hS HI.out
    rcases Nat.eq_zero_or_pos j with h0 | h0
    · subst h0
      go_wp2
      go_ret
      exact ⟨ret_int (fin_pp hS hS2 (parti_end HI.out)), rfl⟩
    · obtain ⟨m, rfl⟩ : ∃ m, j = m + 1 := ⟨j - 1, by omega⟩
      have e1 : ((m + 1 : Nat) : Int) - 1 = (m : Int) := by omega
      rw [e1]
      clear e1
      go_wp2
      all_goals
        refine ⟨⟨m, _, _, by omega, ?_, ?_, ?_, rfl, rfl, rfl, ?_⟩, ?_⟩
        · omega
        · omega
        · omega
        · first | exact parti_1 HI.out (by assumption) | exact parti_00 HI.out (by assumption)
        · simp only [intOf]; omega
set_option maxHeartbeats 800000 in
theorem part_pm (N M : Nat) (w : World) (hN : N ≤ 4398046511104) (hM : M ≤ 1000000) (hM0 : 0 < M) :
    Calls Try.prog 31 #[.int .i64 N, .int .i64 (-M)] w fun e w' => e = .returned (.int .i64 (pt N (-M))) ∧ w = w' := by
  go_enter Try.func31, Try.ntmps31
  go_wp2_with fail
  go_loop [6, 7, 8] (fun q s i => ∃ (j : Nat) (Q S : Int), j ≤ 63 ∧ 0 ≤ Q ∧ 0 ≤ S ∧ S < 1000000000 ∧ q = .int .i64 Q ∧ s = .int .i64 S ∧ i = .int .i64 (↑j - 1) ∧ Hid (PartI N M j Q S)) (fun _ _ i => (intOf i + 1).toNat)
  case atStart => exact ⟨63, 0, 0, by omega, by omega, by omega, by omega, rfl, rfl, rfl, parti_0 hN⟩
  case round =>
    obtain ⟨j, Q, S, hj, hQ, hS, hS2, rfl, rfl, rfl, HI⟩ := hrel
    have hQ2 := parti_bd hN hM hS HI.out
    rcases Nat.eq_zero_or_pos j with h0 | h0
    · subst h0
      have HF := Lib.hid (fin_pm hS hS2 (parti_end HI.out))
      by_cases hp : 0 < S
      all_goals
        go_wp2
        go_ret
        exact ⟨ret_int (by rw [← HF.out]; split <;> omega), rfl⟩
    · obtain ⟨m, rfl⟩ : ∃ m, j = m + 1 := ⟨j - 1, by omega⟩
      have e1 : ((m + 1 : Nat) : Int) - 1 = (m : Int) := by omega
      rw [e1]
      clear e1
      go_wp2
      all_goals
        refine ⟨⟨m, _, _, by omega, ?_, ?_, ?_, rfl, rfl, rfl, ?_⟩, ?_⟩
        · omega
        · omega
        · omega
        · first | exact parti_1 HI.out (by assumption) | exact parti_00 HI.out (by assumption)
        · simp only [intOf]; omega
set_option maxHeartbeats 800000 in
theorem part_mp (N M : Nat) (w : World) (hN : N ≤ 4398046511104) (hM : M ≤ 1000000) (hN0 : 0 < N) :
    Calls Try.prog 31 #[.int .i64 (-N), .int .i64 M] w fun e w' => e = .returned (.int .i64 (pt (-N) M)) ∧ w = w' := by
  go_enter Try.func31, Try.ntmps31
  go_wp2_with fail
  go_loop [6, 7, 8] (fun q s i => ∃ (j : Nat) (Q S : Int), j ≤ 63 ∧ 0 ≤ Q ∧ 0 ≤ S ∧ S < 1000000000 ∧ q = .int .i64 Q ∧ s = .int .i64 S ∧ i = .int .i64 (↑j - 1) ∧ Hid (PartI N M j Q S)) (fun _ _ i => (intOf i + 1).toNat)
  case atStart => exact ⟨63, 0, 0, by omega, by omega, by omega, by omega, rfl, rfl, rfl, parti_0 hN⟩
  case round =>
    obtain ⟨j, Q, S, hj, hQ, hS, hS2, rfl, rfl, rfl, HI⟩ := hrel
    have hQ2 := parti_bd hN hM hS HI.out
    rcases Nat.eq_zero_or_pos j with h0 | h0
    · subst h0
      have HF := Lib.hid (fin_mp hS hS2 (parti_end HI.out))
      by_cases hp : 0 < S
      all_goals
        go_wp2
        go_ret
        exact ⟨ret_int (by rw [← HF.out]; split <;> omega), rfl⟩
    · obtain ⟨m, rfl⟩ : ∃ m, j = m + 1 := ⟨j - 1, by omega⟩
      have e1 : ((m + 1 : Nat) : Int) - 1 = (m : Int) := by omega
      rw [e1]
      clear e1
      go_wp2
      all_goals
        refine ⟨⟨m, _, _, by omega, ?_, ?_, ?_, rfl, rfl, rfl, ?_⟩, ?_⟩
        · omega
        · omega
        · omega
        · first | exact parti_1 HI.out (by assumption) | exact parti_00 HI.out (by assumption)
        · simp only [intOf]; omega
set_option maxHeartbeats 800000 in
theorem part_mm (N M : Nat) (w : World) (hN : N ≤ 4398046511104) (hM : M ≤ 1000000) (hN0 : 0 < N) (hM0 : 0 < M) :
    Calls Try.prog 31 #[.int .i64 (-N), .int .i64 (-M)] w fun e w' => e = .returned (.int .i64 (pt (-N) (-M))) ∧ w = w' := by
  go_enter Try.func31, Try.ntmps31
  go_wp2_with fail
  go_loop [6, 7, 8] (fun q s i => ∃ (j : Nat) (Q S : Int), j ≤ 63 ∧ 0 ≤ Q ∧ 0 ≤ S ∧ S < 1000000000 ∧ q = .int .i64 Q ∧ s = .int .i64 S ∧ i = .int .i64 (↑j - 1) ∧ Hid (PartI N M j Q S)) (fun _ _ i => (intOf i + 1).toNat)
  case atStart => exact ⟨63, 0, 0, by omega, by omega, by omega, by omega, rfl, rfl, rfl, parti_0 hN⟩
  case round =>
    obtain ⟨j, Q, S, hj, hQ, hS, hS2, rfl, rfl, rfl, HI⟩ := hrel
    have hQ2 := parti_bd hN hM hS HI.out
    rcases Nat.eq_zero_or_pos j with h0 | h0
    · subst h0
      go_wp2
      go_ret
      exact ⟨ret_int (fin_mm hS hS2 (parti_end HI.out)), rfl⟩
    · obtain ⟨m, rfl⟩ : ∃ m, j = m + 1 := ⟨j - 1, by omega⟩
      have e1 : ((m + 1 : Nat) : Int) - 1 = (m : Int) := by omega
      rw [e1]
      clear e1
      go_wp2
      all_goals
        refine ⟨⟨m, _, _, by omega, ?_, ?_, ?_, rfl, rfl, rfl, ?_⟩, ?_⟩
        · omega
        · omega
        · omega
        · first | exact parti_1 HI.out (by assumption) | exact parti_00 HI.out (by assumption)
        · simp only [intOf]; omega

theorem part_any (n r : Int) (w : World) (hn0 : -4398046511104 ≤ n) (hn : n ≤ 4398046511104) (hr0 : -1000000 ≤ r) (hr : r ≤ 1000000) :
    Calls Try.prog 31 #[.int .i64 n, .int .i64 r] w fun e w' => e = .returned (.int .i64 (pt n r)) ∧ w = w' := by
  by_cases h : n < 0
  · obtain ⟨N, rfl⟩ : ∃ N : Nat, n = -(N : Int) := ⟨n.natAbs, by omega⟩
    by_cases h' : r < 0
    · obtain ⟨M, rfl⟩ : ∃ M : Nat, r = -(M : Int) := ⟨r.natAbs, by omega⟩
      exact part_mm N M w (by omega) (by omega) (by omega) (by omega)
    · obtain ⟨M, rfl⟩ : ∃ M : Nat, r = (M : Int) := ⟨r.natAbs, by omega⟩
      exact part_mp N M w (by omega) (by omega) (by omega)
  · obtain ⟨N, rfl⟩ : ∃ N : Nat, n = (N : Int) := ⟨n.natAbs, by omega⟩
    by_cases h' : r < 0
    · obtain ⟨M, rfl⟩ : ∃ M : Nat, r = -(M : Int) := ⟨r.natAbs, by omega⟩
      exact part_pm N M w (by omega) (by omega) (by omega)
    · obtain ⟨M, rfl⟩ : ∃ M : Nat, r = (M : Int) := ⟨r.natAbs, by omega⟩
      exact part_pp N M w (by omega) (by omega)

/-- What above answers. -/
def abB (d r n : Int) : Bool := decide (n * 1000000000 < d * r)
theorem pt_neg (d r : Int) : pt d (-r) = (-(d * r)) / 1000000000 := by unfold pt; rw [Int.mul_neg]
set_option maxHeartbeats 400000 in
theorem above_any (d r n : Int) (w : World) (hn0 : -4398046511104 ≤ d) (hn : d ≤ 4398046511104) (hr0 : -1000000 ≤ r) (hr : r ≤ 1000000) :
    Calls Try.prog 34 #[.int .i64 d, .int .i64 r, .int .i64 n] w fun e w' => e = .returned (.bool (abB d r n)) ∧ w = w' := by
  have hb := mul_bd 4398046511104 1000000 (t := d) (r := r) hn0 hn hr0 hr
  have C1 := Lib.hid (fun w => part_any d r w hn0 hn hr0 hr)
  have C2 := Lib.hid (fun w => part_any d (-r) w hn0 hn (by omega) (by omega))
  obtain ⟨p, hp⟩ : ∃ p, p = pt d r := ⟨_, rfl⟩
  obtain ⟨q, hq⟩ : ∃ q, q = pt d (-r) := ⟨_, rfl⟩
  have hp' : p = (d * r) / 1000000000 := hp
  have hq' : q = (-(d * r)) / 1000000000 := by rw [hq, pt_neg]
  have hpb : -9000000000 ≤ p ∧ p ≤ 9000000000 := by omega
  have hqb : -9000000000 ≤ q ∧ q ≤ 9000000000 := by omega
  rw [← hp] at C1
  rw [← hq] at C2
  have H1 := Lib.hid hp'
  have H2 := Lib.hid hq'
  clear hp hq hp' hq' hb
  by_cases h1 : n < p
  · have HE := Lib.hid (show true = abB d r n from (decide_eq_true (by have := H1.out; omega)).symm)
    go_enter Try.func34, Try.ntmps34
    go_wp2_with (go_at_call 31; (with_reducible (refine (C1.out _).mono ?_)); rintro e w1 ⟨rfl, rfl⟩)
    go_ret
    exact ⟨ret_bool (by first | exact HE.out | (rw [← HE.out]; simp; done) | (rw [← HE.out]; simp; omega)), rfl⟩
  · by_cases h2 : p = n
    · subst h2
      by_cases h3 : -q = p
      · have HE := Lib.hid (show false = abB d r p from (decide_eq_false (by have := H1.out; have := H2.out; omega)).symm)
        have h3' : (-q != p) = false := by simp [h3]
        clear h3
        go_enter Try.func34, Try.ntmps34
        go_wp2_with (first | (go_at_call_of 31 (Value.int IntKind.i64 r); (with_reducible (refine (C1.out _).mono ?_)); rintro e w1 ⟨rfl, rfl⟩) | (go_at_call 31; (with_reducible (refine (C2.out _).mono ?_)); rintro e w1 ⟨rfl, rfl⟩))
        go_ret
        exact ⟨ret_bool (by first | exact HE.out | (rw [← HE.out]; simp; done) | (rw [← HE.out]; simp; omega)), rfl⟩
      · have HE := Lib.hid (show true = abB d r p from (decide_eq_true (by have := H1.out; have := H2.out; omega)).symm)
        have h3' : (-q != p) = true := by simp [h3]
        clear h3
        go_enter Try.func34, Try.ntmps34
        go_wp2_with (first | (go_at_call_of 31 (Value.int IntKind.i64 r); (with_reducible (refine (C1.out _).mono ?_)); rintro e w1 ⟨rfl, rfl⟩) | (go_at_call 31; (with_reducible (refine (C2.out _).mono ?_)); rintro e w1 ⟨rfl, rfl⟩))
        go_ret
        exact ⟨ret_bool (by first | exact HE.out | (rw [← HE.out]; simp; done) | (rw [← HE.out]; simp; omega)), rfl⟩
    · have h2' : (p == n) = false := by simp [h2]
      have HE := Lib.hid (show false = abB d r n from (decide_eq_false (by have := H1.out; omega)).symm)
      go_enter Try.func34, Try.ntmps34
      go_wp2_with (go_at_call 31; (with_reducible (refine (C1.out _).mono ?_)); rintro e w1 ⟨rfl, rfl⟩)
      go_ret
      exact ⟨ret_bool (by first | exact HE.out | (rw [← HE.out]; simp; done) | (rw [← HE.out]; simp; omega)), rfl⟩
end Go.Proofs.Ytapebhefbokcfaa.DWalk
