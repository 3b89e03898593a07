import Derived.Test.YtapebhefbokcfaaWinParts
namespace Go.Proofs.Ytapebhefbokcfaa.Win
open Go.RowKit Go.Proofs.Ytapebhefbokcfaa.DebW
set_option linter.unusedVariables false
set_option linter.unusedSimpArgs false
/-- The window and its row, with what came. -/
def WI (b r : Nat) (p a : Int) (L : Nat) (S : Int → Int) (W : World) : Prop := ∃ X, WS b r p a L X W ∧ RowI L a S X
structure Bw (p a : Int) (L : Nat) (S : Int → Int) : Prop where
  p1 : 1 ≤ p
  p2 : p ≤ 1099511627776
  l1 : 1 ≤ L
  l2 : L ≤ 64
  a1 : 0 ≤ a
  a2 : a ≤ 1152921504606846976
  ap : a * p ≤ 1152921504606846976
  s : ∀ q, 0 ≤ S q ∧ S q ≤ 1125899906842624
theorem bw_at {p a : Int} {L : Nat} {S : Int → Int} (h : Bw p a L S) (now : Int) : Bw p (atOf p a now) L S := by
  have hb := atOf_bd now h.p1 h.a2
  refine ⟨h.p1, h.p2, h.l1, h.l2, Int.le_trans h.a1 hb.1, hb.2, ?_, h.s⟩
  unfold atOf
  have h1 := Int.ediv_mul_le (min (max now 0) 1152921504606846976) (b := p) (by have := h.p1; omega)
  rcases (show max (min (max now 0) 1152921504606846976 / p) a = min (max now 0) 1152921504606846976 / p ∨ max (min (max now 0) 1152921504606846976 / p) a = a by omega) with e | e
  · rw [e]; omega
  · rw [e]; exact h.ap
theorem wi_below {b r : Nat} {p a : Int} {L : Nat} {S : Int → Int} {W W' : World} (h : WI b r p a L S W) (hb : Below W.heap.size W W') : WI b r p a L S W' := by
  obtain ⟨X, h1, h2⟩ := h
  exact ⟨X, ws_below h1 hb, h2⟩
theorem reach_w {b r : Nat} {p a : Int} {L : Nat} {S : Int → Int} (now : Int) (w : World) (h : WI b r p a L S w) (B : Bw p a L S) : Calls Try.prog 36 #[ptr b, .int .i64 now] w fun e w' => e = .returned (.tuple #[]) ∧ G2 b r w w' ∧ WI b r p (atOf p a now) L S w' := by
  obtain ⟨X, h1, h2⟩ := h
  exact reach_any now w h1 h2 B.p1 B.p2 B.l1 B.l2 B.a1 B.a2
theorem add_w {b r : Nat} {p a : Int} {L : Nat} {S : Int → Int} (now n : Int) (w : World) (h : WI b r p a L S w) (B : Bw p a L S) : Calls Try.prog 23 #[ptr b, .int .i64 now, .int .i64 n] w fun e w' => e = .returned (.tuple #[]) ∧ G2 b r w w' ∧ WI b r p (atOf p a now) L (bump S (atOf p a now) (min (max n 0) 1099511627776)) w' := by
  obtain ⟨X, h1, h2⟩ := h
  exact add_at now n w h1 h2 B.p1 B.p2 B.l1 B.l2 B.a1 B.a2 (fun q => by have := B.s q; omega)
/-- What Parts answers. -/
def PW (b r : Nat) (p t : Int) (L : Nat) (S : Int → Int) (w : World) (e : Ending) (w' : World) : Prop :=
  ∃ pb cap B, e = .returned (.slice (some ⟨pb, 0, none⟩) L cap) ∧ w.heap.size ≤ B ∧ RowP B (.slice (some ⟨pb, 0, none⟩) L cap) (parts S t L L) w' ∧ G2 b r w w' ∧ WI b r p t L S w'
theorem parts_w {b r : Nat} {p a : Int} {L : Nat} {S : Int → Int} (now : Int) (w : World) (h : WI b r p a L S w) (B : Bw p a L S) : Calls Try.prog 20 #[ptr b, .int .i64 now] w (PW b r p (atOf p a now) L S w) := by
  obtain ⟨X, h1, h2⟩ := h
  refine (parts_at now w h1 h2 B.p1 B.p2 B.l1 B.l2 B.a1 B.a2).mono ?_
  rintro e w' ⟨pb, cap, X', B', k1, k2, k3, k4, k5, k6⟩
  exact ⟨pb, cap, B', k1, k2, k3, k4, X', k5, k6⟩
theorem full_nil (now : Int) (w : World) : Calls Try.prog 19 #[.pointer none, .int .i64 now] w fun e w' => e = .returned (.int .i64 0) ∧ w = w' := by
  go_enter Try.func19, Try.ntmps19
  go_wp2
  go_ret
  exact ⟨rfl, rfl⟩
theorem parts_nil (now : Int) (w : World) : Calls Try.prog 20 #[.pointer none, .int .i64 now] w fun e w' => e = .returned (.slice none 0 0) ∧ w = w' := by
  go_enter Try.func20, Try.ntmps20
  go_wp2
  go_ret
  exact ⟨rfl, rfl⟩
theorem add_nil (now n : Int) (w : World) : Calls Try.prog 23 #[.pointer none, .int .i64 now, .int .i64 n] w fun e w' => e = .returned (.tuple #[]) ∧ w = w' := by
  go_enter Try.func23, Try.ntmps23
  go_wp2
  refine bodyPost_ret (results_none rfl _ _ _) rfl ⟨rfl, rfl⟩
theorem sum_nil (now : Int) (w : World) : Calls Try.prog 21 #[.pointer none, .int .i64 now] w fun e w' => e = .returned (.int .i64 0) ∧ w = w' := by
  have CP := Lib.hid (parts_nil now w)
  go_enter Try.func21, Try.ntmps21
  go_wp2_with (first | (go_at_call 20; refine (CP.out).mono ?_; rintro e w1 ⟨rfl, rfl⟩) | fail)
  all_goals first | done | skip
  go_loopw [5, 7, 12] (fun v5 v7 v12 W => v5 = .int .i64 0 ∧ v12 = .int .i64 0 ∧ W = w) (fun _ _ _ _ => 0)
  case atStart => exact ⟨rfl, rfl, rfl⟩
  case round =>
    obtain ⟨rfl, rfl, rfl⟩ := hrel
    go_wp2
    go_ret
    exact ⟨rfl, rfl⟩
theorem allow_nil (now n m : Int) (w : World) : Calls Try.prog 24 #[.pointer none, .int .i64 now, .int .i64 n, .int .i64 m] w fun e w' => e = .returned (.bool false) ∧ w = w' := by
  go_enter Try.func24, Try.ntmps24
  go_wp2
  go_ret
  exact ⟨rfl, rfl⟩
set_option maxHeartbeats 4000000 in
set_option maxRecDepth 100000 in
theorem full_w {b r : Nat} {p a : Int} {L : Nat} {S : Int → Int} (now : Int) (w : World) (h : WI b r p a L S w) (B : Bw p a L S) : Calls Try.prog 19 #[ptr b, .int .i64 now] w fun e w' => e = .returned (.int .i64 ((atOf p a now + 1) * p)) ∧ G2 b r w w' ∧ WI b r p (atOf p a now) L S w' := by
  have CR := Lib.hid (reach_w now w h B)
  have hB := bw_at B now
  obtain ⟨t, ht⟩ : ∃ t, atOf p a now = t := ⟨_, rfl⟩
  rw [ht] at CR hB
  rw [ht]
  have hx1 := Int.mul_nonneg (show 0 ≤ t + 1 by have := hB.a1; omega) (show 0 ≤ p by have := hB.p1; omega)
  have hx2 : (t + 1) * p ≤ 1152923704606846976 := by have := hB.ap; have := hB.p2; rw [Int.add_mul]; omega
  have hw1 : IntKind.i64.wrap (t + 1) = t + 1 := iw (by have := hB.a1; omega) (by have := hB.a2; omega)
  have hw2 : IntKind.i64.wrap ((t + 1) * p) = (t + 1) * p := iw (by omega) (by omega)
  clear ht h
  go_enter Try.func19, Try.ntmps19
  go_wp2_with (first | (go_at_call 36; refine (CR.out).mono ?_; rintro e w1 ⟨rfl, hg, hwi⟩; have HG := Lib.hid hg; have HW := Lib.hid hwi; clear hg hwi) | fail)
  obtain ⟨X1, hws, hri⟩ := HW.out
  obtain ⟨c0, c1, c2, z1, cr, zr, hb', hr', _⟩ := hws
  clear cr zr hri
  go_quiet (fail)
  go_wp2
  go_ret
  exact ⟨rfl, g2_drewN HG.out _, wi_below HW.out ⟨rfl, rfl, rfl, Nat.le_refl _, fun _ _ => rfl⟩⟩
end Go.Proofs.Ytapebhefbokcfaa.Win
