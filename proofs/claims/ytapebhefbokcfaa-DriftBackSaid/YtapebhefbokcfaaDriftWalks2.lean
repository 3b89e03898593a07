import Derived.Test.YtapebhefbokcfaaDriftWalks
import Derived.Deep.LoopGhost
import Derived.Deep.DeepCutAuto
namespace Go.Proofs.Ytapebhefbokcfaa.DWalk
open Go.RowKit Go.Proofs.Ytapebhefbokcfaa.DMath
theorem bcell {W w1 : World} (hb : Below W.heap.size W w1) : (∀ b o, b < W.heap.size → w1.cell? ⟨b, o, none⟩ = W.cell? ⟨b, o, none⟩) ∧ (∀ b o, b < W.heap.size → w1.frozen? ⟨b, o, none⟩ = W.frozen? ⟨b, o, none⟩) :=
  ⟨fun b o h => hb.cell (p := ⟨b, o, none⟩) h, fun b o h => hb.frozen (p := ⟨b, o, none⟩) h⟩
theorem below_box {w w1 : World} (o : Obj) (h : Below (w.alloc o).heap.size (w.alloc o) w1) : Below w.heap.size w w1 :=
  ((Below.refl _ _).alloc (Nat.le_refl _) o).trans (h.mono (by simp))
theorem below_then {w w1 w2 : World} (h : Below w.heap.size w w1) (h2 : Below w1.heap.size w1 w2) : Below w.heap.size w w2 := h.trans (h2.mono h.size)
theorem far_cl (a f r n : Int) (h : Rt a f r) (w : World) (x : Int) (hx : x = cl n) : Calls Try.prog 40 #[.agg #[.int .i64 a, .int .i64 f, .int .i64 r], .int .i64 x] w fun e w' => e = .returned (.int .i64 (F a f r (cl n))) ∧ Below w.heap.size w w' := by
  subst hx
  have hm1 : -1099511627776 ≤ cl n ∧ cl n ≤ 1099511627776 := by unfold cl; split <;> (try split) <;> omega
  exact far_any a f r _ w h (by omega) (by omega)

set_option maxHeartbeats 400000 in
theorem to_yes (a f r n : Int) (w : World) (h : Rt a f r) : Calls Try.prog 28 #[.agg #[.int .i64 a, .int .i64 f, .int .i64 r], .int .i64 n] w fun e w' => e = .returned (.int .i64 (F a f r (cl n))) ∧ Below w.heap.size w w' := by
  have C1 := Lib.hid (fun w => right_yes a f r w h)
  have C2 := Lib.hid (fun x hx w => far_cl a f r n h w x hx)
  generalize hG : F a f r (cl n) = G at C2 ⊢
  clear hG h
  go_enter Try.func28, Try.ntmps28
  go_wp2_with (first
    | (go_at_call 26; (with_reducible (refine (C1.out _).mono ?_)); rintro e w1 ⟨rfl, hb1⟩; obtain ⟨hc, hf⟩ := bcell hb1; have HB := Lib.hid hb1; clear hb1)
    | (go_at_call 40; (with_reducible (refine (C2.out _ ?_ _).mono ?_)); (unfold cl; (repeat' split) <;> omega); rintro e w2 ⟨rfl, hb2⟩; have HB2 := Lib.hid hb2; clear hb2))
  all_goals
    go_ret
    exact ⟨rfl, below_then (below_box _ HB.out) HB2.out⟩
set_option maxHeartbeats 400000 in
theorem to_no (a f r n : Int) (w : World) (h : ¬ Rt a f r) : Calls Try.prog 28 #[.agg #[.int .i64 a, .int .i64 f, .int .i64 r], .int .i64 n] w fun e w' => e = .returned (.int .i64 0) ∧ Below w.heap.size w w' := by
  have C1 := Lib.hid (fun w => right_no a f r w h)
  clear h
  go_enter Try.func28, Try.ntmps28
  go_wp2_with (go_at_call 26; (with_reducible (refine (C1.out _).mono ?_)); rintro e w1 ⟨rfl, hb1⟩; have HB := Lib.hid hb1; clear hb1)
  go_ret
  exact ⟨rfl, below_box _ HB.out⟩

theorem cl_mm (n : Int) : cl n = (if 1099511627776 < (if n < -1099511627776 then -1099511627776 else n) then 1099511627776 else (if n < -1099511627776 then -1099511627776 else n)) := by
  unfold cl; (repeat' split) <;> omega
set_option maxHeartbeats 400000 in
theorem clamp_any (n : Int) (w : World) : Calls Try.prog 30 #[.int .i64 n] w fun e w' => e = .returned (.int .i64 (cl n)) ∧ w = w' := by
  obtain ⟨m, hm⟩ : ∃ m, m = cl n := ⟨_, rfl⟩
  rw [← hm]
  have HM := Lib.hid hm
  clear hm
  go_enter Try.func30, Try.ntmps30
  go_wp2
  all_goals
    go_ret
    exact ⟨ret_int (by rw [HM.out]; unfold cl; (repeat' split) <;> omega), rfl⟩

/-- Gap: in the walk's three ways. -/
theorem to_k (a f r n k : Int) (w : World) (h : Rt a f r) (hk : k = F a f r (cl n)) : Calls Try.prog 28 #[.agg #[.int .i64 a, .int .i64 f, .int .i64 r], .int .i64 n] w fun e w' => e = .returned (.int .i64 k) ∧ Below w.heap.size w w' := hk ▸ to_yes a f r n w h
set_option maxHeartbeats 400000 in
theorem gap_yes (a f r n g : Int) (w : World) (h : Rt a f r) : Calls Try.prog 32 #[.agg #[.int .i64 a, .int .i64 f, .int .i64 r], .int .i64 n, .int .i64 g] w fun e w' => e = .returned (.int .i64 (cl g - F a f r (cl n))) ∧ Below w.heap.size w w' := by
  have hn : -1099511627776 ≤ cl n ∧ cl n ≤ 1099511627776 := by unfold cl; (repeat' split) <;> omega
  have hb := F_bd a f r (cl n) h (by omega) (by omega)
  obtain ⟨k, hk⟩ : ∃ k, k = F a f r (cl n) := ⟨_, rfl⟩
  obtain ⟨m, hm⟩ : ∃ m, m = cl g := ⟨_, rfl⟩
  have C1 := Lib.hid (fun w => to_k a f r n k w h hk)
  rw [← hk] at hb
  rw [← hk, ← hm]
  have HM := Lib.hid hm
  clear hk hm hn h
  obtain ⟨hb1, hb2⟩ := hb
  go_enter Try.func32, Try.ntmps32
  go_wp2_with (go_at_call 28; (with_reducible (refine (C1.out _).mono ?_)); rintro e w1 ⟨rfl, hb1⟩; have HB := Lib.hid hb1; clear hb1)
  all_goals
    go_ret
    exact ⟨ret_int (by rw [HM.out]; unfold cl; (repeat' split) <;> omega), below_box _ HB.out⟩

set_option maxHeartbeats 400000 in
theorem rightl_any (a f r : Int) (w : World) : Calls Try.prog 27 #[.agg #[.int .i64 a, .int .i64 f, .int .i64 r]] w fun e w' => e = .returned (.bool (rtB a f r)) ∧ Below w.heap.size w w' := by
  by_cases h1 : -500000 ≤ r
  · have hd1 : decide (-500000 ≤ r) = true := decide_eq_true h1
    by_cases h2 : r ≤ 500000
    · have hd2 : decide (r ≤ 500000) = true := decide_eq_true h2
      by_cases h3 : cl a = a
      · have h3' : (cl a == a) = true := by simp [h3]
        by_cases h4 : cl f = f
        · have h4' : (cl f == f) = true := by simp [h4]
          have HR := Lib.hid (show Rt a f r by unfold Rt; unfold cl at h3 h4; (repeat' split at h3) <;> (repeat' split at h4) <;> omega)
          have C1 := Lib.hid (fun w => show Calls Try.prog 30 #[.int .i64 a] w fun e w' => e = .returned (.int .i64 a) ∧ w' = w from ((clamp_any a w).mono (fun _ _ q => ⟨by rw [q.1, h3], q.2.symm⟩)))
          have C2 := Lib.hid (fun w => show Calls Try.prog 30 #[.int .i64 f] w fun e w' => e = .returned (.int .i64 f) ∧ w' = w from ((clamp_any f w).mono (fun _ _ q => ⟨by rw [q.1, h4], q.2.symm⟩)))
          clear h3 h3' h4 h4'
          go_enter Try.func27, Try.ntmps27
          go_wp2_with fail
          go_quiet ((first | (go_at_call_of 30 (Value.int IntKind.i64 a); exact Calls.quiet_of_same (C1.out _)) | (go_at_call 30; exact Calls.quiet_of_same (C2.out _))))
          go_wp2
          go_ret
          exact ⟨ret_bool (decide_eq_true HR.out).symm, (Below.alloc (Below.refl _ _) (Nat.le_refl _) _).drewN nq⟩
        · have HR := Lib.hid (show ¬ Rt a f r by unfold Rt; unfold cl at h3 h4; (repeat' split at h3) <;> (repeat' split at h4) <;> omega)
          obtain ⟨x, hx⟩ : ∃ x, x = cl f := ⟨_, rfl⟩
          have h4' : (x == f) = false := by rw [hx]; simp [h4]
          have C1 := Lib.hid (fun w => show Calls Try.prog 30 #[.int .i64 a] w fun e w' => e = .returned (.int .i64 a) ∧ w' = w from ((clamp_any a w).mono (fun _ _ q => ⟨by rw [q.1, h3], q.2.symm⟩)))
          have C2 := Lib.hid (fun w => show Calls Try.prog 30 #[.int .i64 f] w fun e w' => e = .returned (.int .i64 x) ∧ w' = w from ((clamp_any f w).mono (fun _ _ q => ⟨by rw [q.1, hx], q.2.symm⟩)))
          clear h3 h3' h4 hx
          go_enter Try.func27, Try.ntmps27
          go_wp2_with fail
          go_quiet ((first | (go_at_call_of 30 (Value.int IntKind.i64 a); exact Calls.quiet_of_same (C1.out _)) | (go_at_call 30; exact Calls.quiet_of_same (C2.out _))))
          go_wp2
          go_ret
          exact ⟨ret_bool (decide_eq_false HR.out).symm, (Below.alloc (Below.refl _ _) (Nat.le_refl _) _).drewN nq⟩
      · have HR := Lib.hid (show ¬ Rt a f r by unfold Rt; unfold cl at h3; (repeat' split at h3) <;> omega)
        obtain ⟨x, hx⟩ : ∃ x, x = cl a := ⟨_, rfl⟩
        have h4' : (x == a) = false := by rw [hx]; simp [h3]
        have C1 := Lib.hid (fun w => show Calls Try.prog 30 #[.int .i64 a] w fun e w' => e = .returned (.int .i64 x) ∧ w' = w from ((clamp_any a w).mono (fun _ _ q => ⟨by rw [q.1, hx], q.2.symm⟩)))
        clear h3 hx
        go_enter Try.func27, Try.ntmps27
        go_wp2_with fail
        go_quiet ((go_at_call 30; exact Calls.quiet_of_same (C1.out _)))
        go_wp2
        go_ret
        exact ⟨ret_bool (decide_eq_false HR.out).symm, (Below.alloc (Below.refl _ _) (Nat.le_refl _) _).drewN nq⟩
    · have hd2 : decide (r ≤ 500000) = false := decide_eq_false h2
      go_enter Try.func27, Try.ntmps27
      go_wp2_with fail
      go_quiet (skip)
      go_wp2
      go_ret
      exact ⟨ret_bool (decide_eq_false (show ¬ Rt a f r by unfold Rt; omega)).symm, (Below.alloc (Below.refl _ _) (Nat.le_refl _) _).drewN nq⟩
  · have hd1 : decide (-500000 ≤ r) = false := decide_eq_false h1
    go_enter Try.func27, Try.ntmps27
    go_wp2_with fail
    go_quiet (skip)
    go_wp2
    go_ret
    exact ⟨ret_bool (decide_eq_false (show ¬ Rt a f r by unfold Rt; omega)).symm, (Below.alloc (Below.refl _ _) (Nat.le_refl _) _).drewN nq⟩
theorem rightl_yes (a f r : Int) (w : World) (h : Rt a f r) : Calls Try.prog 27 #[.agg #[.int .i64 a, .int .i64 f, .int .i64 r]] w fun e w' => e = .returned (.bool true) ∧ Below w.heap.size w w' := by
  have := rightl_any a f r w
  rwa [show rtB a f r = true from decide_eq_true h] at this
theorem rightl_no (a f r : Int) (w : World) (h : ¬ Rt a f r) : Calls Try.prog 27 #[.agg #[.int .i64 a, .int .i64 f, .int .i64 r]] w fun e w' => e = .returned (.bool false) ∧ Below w.heap.size w w' := by
  have := rightl_any a f r w
  rwa [show rtB a f r = false from decide_eq_false h] at this
end Go.Proofs.Ytapebhefbokcfaa.DWalk
