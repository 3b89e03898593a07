import Derived.Test.YtlmhhpddlgmnkaaPhSums
namespace Go.Proofs.Ytlmhhpddlgmnkaa.Ph
open Go.RowKit
set_option linter.unusedVariables false
set_option linter.unusedSimpArgs false
set_option maxRecDepth 100000 in
set_option maxHeartbeats 4000000 in
theorem sum_at (A0 : Option Addr) (cap : Nat) (ps : List (Int × Int)) (w : World) (hl : ps.length ≤ 1000) (hin : AllIn ps) (hc : ∀ i, i < ps.length → ∃ pb, A0 = some ⟨pb, 0, none⟩ ∧ w.cell? ⟨pb, i, none⟩ = some (cw (ps.getD i (0, 0)))) :
    Calls Try.prog 19 #[.slice A0 ps.length cap] w fun e w' => (Ok ps ps.length → e = .returned (.tuple #[cx (fw (s1 ps ps.length)) (fw (s2 ps ps.length)), .bool true])) ∧ (¬ Ok ps ps.length → e = .returned (.tuple #[cx 0 0, .bool false])) ∧ w' = w := by
  have HI := Lib.hid hin
  have HC := Lib.hid hc
  clear hin hc
  go_enter Try.func19, Try.ntmps19
  go_wp2_with fail
  go_loopw [4, 9] (fun v4 v9 W => ∃ (i p q : Nat), i ≤ ps.length ∧ v4 = cx p q ∧ v9 = .int .i64 i ∧ Hid (CR p q (s1 ps i) (s2 ps i)) ∧ Hid (Ok ps i) ∧ W = w) (fun _ v9 _ => ps.length - (intOf v9).toNat)
  case atStart => exact ⟨0, 0, 0, by omega, rfl, rfl, ⟨fr_0, fr_0⟩, ok_zero ps, rfl⟩
  case round =>
    obtain ⟨i, p, q, hi, rfl, rfl, HR, HO, rfl⟩ := hrel
    have hi9 : i ≤ 1000 := by omega
    by_cases hlt : i < ps.length
    · obtain ⟨pb, hA0, hcx⟩ := HC.out i hlt
      subst hA0
      have hki := HI.out i
      have hss := HO.out i (Nat.le_refl _)
      have e1 := s1_succ ps i
      have e2 := s2_succ ps i
      obtain ⟨y, hy⟩ : ∃ y, ps.getD i (0, 0) = y := ⟨_, rfl⟩
      rw [hy] at hcx hki e1 e2
      obtain ⟨y1, y2⟩ := y
      have hcx : wr.cell? ⟨pb, i, none⟩ = some (cx (fw y1) (fw y2)) := hcx
      have hki : In y1 ∧ In y2 := hki
      simp only at e1 e2
      obtain ⟨r, s, hadd, hcr⟩ := c_add HR.out (cr_fw hki.1 hki.2) (by have := hss.1; have := hki.1; unfold In at *; omega) (by have := hss.2; have := hki.2; unfold In at *; omega)
      rw [← e1, ← e2] at hcr
      have C1 := Lib.hid (right_in (cr_fw hki.1 hki.2) hki)
      have HCR := Lib.hid hcr
      have HYE := Lib.hid hy
      clear hss e1 e2 hy hki hcr
      by_cases hk : In (s1 ps (i + 1)) ∧ In (s2 ps (i + 1))
      · have C2 := Lib.hid (right_in HCR.out hk)
        have HK := Lib.hid (ok_succ HO.out hk)
        clear hk
        go_wp2_with (first
          | (go_at_call 21; refine (C1.out _).mono ?_; clear C1; rintro e w1 ⟨rfl, rfl⟩)
          | (go_at_call 21; refine (C2.out _).mono ?_; clear C2; rintro e w2 ⟨rfl, rfl⟩)
          | fail)
        refine ⟨⟨i + 1, r, s, by omega, rfl, by simp, HCR.out, HK.out, trivial⟩, by simp [intOf]; omega⟩
      · have C2 := Lib.hid (right_out HCR.out hk)
        have HK := Lib.hid (show ¬ Ok ps ps.length from fun h => hk (h (i + 1) (by omega)))
        clear hk
        go_wp2_with (first
          | (go_at_call 21; refine (C1.out _).mono ?_; clear C1; rintro e w1 ⟨rfl, rfl⟩)
          | (go_at_call 21; refine (C2.out _).mono ?_; clear C2; rintro e w2 ⟨rfl, rfl⟩)
          | fail)
        exact bodyPost_ret (results_tmp2 rfl _ _ _) rfl ⟨fun h => absurd h HK.out, fun _ => rfl, rfl⟩
    · have hie : i = ps.length := by omega
      rw [hie] at HR HO
      have hss := HO.out ps.length (Nat.le_refl _)
      have C1 := Lib.hid (tidy_in HR.out hss.1 hss.2)
      clear hss
      go_wp2_with (first
        | (go_at_call 22; refine (C1.out _).mono ?_; clear C1; rintro e w1 ⟨rfl, rfl⟩)
        | fail)
      exact bodyPost_ret (results_tmp2 rfl _ _ _) rfl ⟨fun _ => rfl, fun h => absurd HO.out h, rfl⟩
theorem rot_back (k a b : Int) (hk : k = 0 ∨ k = 1 ∨ k = 2 ∨ k = 3) : rot ((4 - k) % 4) (rot k a b).1 (rot k a b).2 = (a, b) ∧ rot ((-k) % 4) (rot k a b).1 (rot k a b).2 = (a, b) := by
  rcases hk with rfl | rfl | rfl | rfl <;> simp [rot]
/-- Turned by k quarters and back. -/
theorem back4 {a b k : Int} (h : In a ∧ In b) (hk : k = 0 ∨ k = 1 ∨ k = 2 ∨ k = 3) (w : World) : Calls Try.prog 12 #[cx (fw (rot k a b).1) (fw (rot k a b).2), .int .i64 (4 - k)] w fun e w' => e = .returned (cx (fw a) (fw b)) ∧ Below w.heap.size w w' := by
  have hr := in_rot (k := k) h.1 h.2
  have := turn_in (4 - k) (cr_fw hr.1 hr.2) hr.1 hr.2 w
  rw [(rot_back k a b hk).1] at this
  exact this
theorem backn {a b k : Int} (h : In a ∧ In b) (hk : k = 0 ∨ k = 1 ∨ k = 2 ∨ k = 3) (w : World) : Calls Try.prog 12 #[cx (fw (rot k a b).1) (fw (rot k a b).2), .int .i64 (-k)] w fun e w' => e = .returned (cx (fw a) (fw b)) ∧ Below w.heap.size w w' := by
  have hr := in_rot (k := k) h.1 h.2
  have := turn_in (-k) (cr_fw hr.1 hr.2) hr.1 hr.2 w
  rw [(rot_back k a b hk).2] at this
  exact this
theorem forth {a b k : Int} (h : In a ∧ In b) (hk : k = 0 ∨ k = 1 ∨ k = 2 ∨ k = 3) (w : World) : Calls Try.prog 12 #[cx (fw a) (fw b), .int .i64 k] w fun e w' => e = .returned (cx (fw (rot k a b).1) (fw (rot k a b).2)) ∧ Below w.heap.size w w' := by
  have := turn_in k (cr_fw h.1 h.2) h.1 h.2 w
  rw [show k % 4 = k by omega] at this
  exact this
end Go.Proofs.Ytlmhhpddlgmnkaa.Ph
