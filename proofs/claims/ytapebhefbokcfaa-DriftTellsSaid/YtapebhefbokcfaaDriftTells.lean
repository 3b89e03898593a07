import Derived.Test.YtapebhefbokcfaaDriftWalks6
import Derived.Deep.RegionHeld3
namespace Go.Proofs.Ytapebhefbokcfaa.DWalk
open Go.RowKit Go.Proofs.Ytapebhefbokcfaa.DMath
theorem clampq (x c : Int) (w : World) (h : c = cl x) : Calls Try.prog 30 #[.int .i64 x] w fun e w' => e = .returned (.int .i64 c) ∧ w' = w := (h ▸ clamp_any x w).mono fun _ _ q => ⟨q.1, q.2.symm⟩
theorem clampn (x c : Int) (w : World) (h : c = cl x) : Calls Try.prog 30 #[.int .i64 x] w fun e w' => e = .returned (.int .i64 c) ∧ w = w' := h ▸ clamp_any x w
theorem part_q (d r k : Int) (w : World) (hn0 : -4398046511104 ≤ d) (hn : d ≤ 4398046511104) (hr0 : -1000000 ≤ r) (hr : r ≤ 1000000) (h : pt d r = k) :
    Calls Try.prog 31 #[.int .i64 d, .int .i64 r] w fun e w' => e = .returned (.int .i64 k) ∧ w' = w := (h ▸ part_any d r w hn0 hn hr0 hr).mono fun _ _ q => ⟨q.1, q.2.symm⟩
abbrev Tr (w : World) (e : Ending) (w' : World) : Prop := e = .returned (.bool true) ∧ Below w.heap.size w w'
/-- What a world of the call holds: the rule's box; all that was there. -/
abbrev SF (w : World) (a f r : Int) (W : World) : Prop := W.cell? ⟨w.heap.size, 0, none⟩ = some (.int .i64 a) ∧ W.cell? ⟨w.heap.size, 1, none⟩ = some (.int .i64 f) ∧ W.cell? ⟨w.heap.size, 2, none⟩ = some (.int .i64 r) ∧ w.heap.size < W.heap.size ∧ Hid (Below w.heap.size w W)
theorem sf_drew {w W : World} {a f r : Int} (h : SF w a f r W) : SF w a f r W.drew := ⟨h.1, h.2.1, h.2.2.1, h.2.2.2.1, Below.drew h.2.2.2.2⟩
theorem sf_drewN {w W : World} {a f r : Int} (h : SF w a f r W) (n : Nat) : SF w a f r (W.drewN n) := ⟨h.1, h.2.1, h.2.2.1, h.2.2.2.1, Below.drewN h.2.2.2.2 n⟩
theorem sf_next {w W W' : World} {a f r : Int} (hb : Below W.heap.size W W') (h : SF w a f r W) : SF w a f r W' :=
  ⟨((bcell hb).1 _ 0 h.2.2.2.1).trans h.1, ((bcell hb).1 _ 1 h.2.2.2.1).trans h.2.1, ((bcell hb).1 _ 2 h.2.2.2.1).trans h.2.2.1, Nat.lt_of_lt_of_le h.2.2.2.1 hb.size, below_then h.2.2.2.2 hb⟩
theorem sf_first {w W : World} {a f r : Int} (hb : Below (w.alloc (.cells #[.int .i64 a, .int .i64 f, .int .i64 r] 51)).heap.size (w.alloc (.cells #[.int .i64 a, .int .i64 f, .int .i64 r] 51)) W) : SF w a f r W :=
  ⟨((bcell hb).1 w.heap.size 0 (by simp)).trans (by simp), ((bcell hb).1 w.heap.size 1 (by simp)).trans (by simp), ((bcell hb).1 w.heap.size 2 (by simp)).trans (by simp), (by have := hb.size; simp at this; omega), below_box _ hb⟩
set_option maxHeartbeats 2000000 in
theorem tells_no (a f r n g : Int) (w : World) (h : ¬ Rt a f r) : Calls Try.prog 7 #[.agg #[.int .i64 a, .int .i64 f, .int .i64 r], .int .i64 n, .int .i64 g] w (Tr w) := by
  have CF := Lib.hid fixed_any
  have C1 := Lib.hid (fun w => right_no a f r w h)
  have C2 := Lib.hid (fun w => rightl_no a f r w h)
  have C3 := Lib.hid (fun w => to_no a f r n w h)
  have C4 := Lib.hid (fun w => from_no a f r g w h)
  clear h
  go_enter Try.func7, Try.ntmps7
  go_wp2_with (first
    | (go_at_call 25; (with_reducible (refine (CF.out _).mono ?_)); rintro e w1 ⟨rfl, hb⟩; have HS := Lib.hid (sf_first hb); clear hb)
    | fail)
  obtain ⟨hd0, hd1, hd2, hz, HB⟩ := HS.out
  go_region_held3 (fun W => W.cell? ⟨w.heap.size, 0, none⟩ = some (.int .i64 a) ∧ W.cell? ⟨w.heap.size, 1, none⟩ = some (.int .i64 f) ∧ W.cell? ⟨w.heap.size, 2, none⟩ = some (.int .i64 r) ∧ w.heap.size < W.heap.size ∧ Hid (Below w.heap.size w W))
    (first | exact sf_drew HS.out | assumption | exact sf_next (by assumption) (by assumption) | exact sf_next (by assumption) (sf_drew HS.out))
    (first
     | (go_at_call 26; refine (C1.out _).mono ?_; rintro e w2 ⟨rfl, hb2⟩)
     | (go_at_call 27; refine (C2.out _).mono ?_; rintro e w2 ⟨rfl, hb2⟩))
  have HT := Lib.hid (show SF w a f r w2 by assumption)
  clear HS hd0 hd1 hd2 hz HB
  have HS := Lib.hid HT.out
  clear HT
  obtain ⟨hd0, hd1, hd2, hz, HB⟩ := HS.out
  go_wp2_with (first
    | (go_at_call 27; (with_reducible (refine (C2.out _).mono ?_)); rintro e w3 ⟨rfl, hb⟩; replace HS := Lib.hid (sf_next hb HS.out); clear hb; replace hd0 := HS.out.1; replace hd1 := HS.out.2.1; replace hd2 := HS.out.2.2.1; replace hz := HS.out.2.2.2.1; replace HB := HS.out.2.2.2.2)
    | (go_at_call 28; (with_reducible (refine (C3.out _).mono ?_)); rintro e w4 ⟨rfl, hb⟩; replace HS := Lib.hid (sf_next hb HS.out); clear hb; replace hd0 := HS.out.1; replace hd1 := HS.out.2.1; replace hd2 := HS.out.2.2.1; replace hz := HS.out.2.2.2.1; replace HB := HS.out.2.2.2.2)
    | (go_at_call 29; (with_reducible (refine (C4.out _).mono ?_)); rintro e w5 ⟨rfl, hb⟩; replace HS := Lib.hid (sf_next hb HS.out); clear hb; replace hd0 := HS.out.1; replace hd1 := HS.out.2.1; replace hd2 := HS.out.2.2.1; replace hz := HS.out.2.2.2.1; replace HB := HS.out.2.2.2.2)
    | fail)
  go_ret
  exact ⟨rfl, HB⟩
set_option maxHeartbeats 4000000 in
theorem tells_yes (a f r n g : Int) (w : World) (h : Rt a f r) : Calls Try.prog 7 #[.agg #[.int .i64 a, .int .i64 f, .int .i64 r], .int .i64 n, .int .i64 g] w (Tr w) := by
  have CF := Lib.hid fixed_any
  have C1 := Lib.hid (fun w => right_yes a f r w h)
  have C2 := Lib.hid (fun w => rightl_yes a f r w h)
  have hcn : -1099511627776 ≤ cl n ∧ cl n ≤ 1099511627776 := by unfold cl; (repeat' split) <;> omega
  have hcg : -1099511627776 ≤ cl g ∧ cl g ≤ 1099511627776 := by unfold cl; (repeat' split) <;> omega
  have hFb := F_bd a f r (cl n) h (by omega) (by omega)
  obtain ⟨m, hm⟩ : ∃ m, m = cl n := ⟨_, rfl⟩
  obtain ⟨q, hq⟩ : ∃ q, q = cl g := ⟨_, rfl⟩
  obtain ⟨K, hK⟩ : ∃ K, F a f r (cl n) = K := ⟨_, rfl⟩
  obtain ⟨p, hp⟩ : ∃ p, pt (m - a) r = p := ⟨_, rfl⟩
  have hsum : f + (m - a) + p = K := by rw [← hK, ← hp, hm]; rfl
  have hrt := h
  obtain ⟨h1, h2, h3, h4, h5, h6⟩ := h
  rw [← hm] at hcn
  rw [← hq] at hcg
  rw [hK] at hFb
  obtain ⟨hcn1, hcn2⟩ := hcn
  obtain ⟨hcg1, hcg2⟩ := hcg
  obtain ⟨hF1, hF2⟩ := hFb
  have C3 := Lib.hid (fun w => to_at a f r n K w hrt hK)
  have C4 := Lib.hid (fun w => clampq n m w hm)
  have C5 := Lib.hid (fun w => clampn g q w hq)
  have C6 := Lib.hid (fun w => part_q (m - a) r p w (by omega) (by omega) (by omega) (by omega) hp)
  have C7 := Lib.hid (fun w => show Calls Try.prog 32 #[.agg #[.int .i64 a, .int .i64 f, .int .i64 r], .int .i64 n, .int .i64 g] w fun e w' => e = .returned (.int .i64 (q - K)) ∧ Below w.heap.size w w' from by rw [hq, ← hK]; exact gap_yes a f r n g w hrt)
  have e1 : IntKind.i64.wrap (m - a) = m - a := iw (by omega) (by omega)
  have e2 : IntKind.i64.wrap (f + (m - a)) = f + (m - a) := iw (by omega) (by omega)
  have e3 : IntKind.i64.wrap (f + (m - a) + p) = f + (m - a) + p := iw (by omega) (by omega)
  have e4 : (f + (m - a) + p == K) = true := by rw [hsum]; simp
  have HSUM := Lib.hid hsum
  have E1 := Lib.hid e1
  have E2 := Lib.hid e2
  have E3 := Lib.hid e3
  clear hm hq hK hp hsum e1 e2 e3 e4
  go_enter Try.func7, Try.ntmps7
  go_wp2_with (first
    | (go_at_call 25; (with_reducible (refine (CF.out _).mono ?_)); rintro e w1 ⟨rfl, hb⟩; have HS := Lib.hid (sf_first hb); clear hb)
    | fail)
  obtain ⟨hd0, hd1, hd2, hz, HB⟩ := HS.out
  go_region_held3 (fun W => W.cell? ⟨w.heap.size, 0, none⟩ = some (.int .i64 a) ∧ W.cell? ⟨w.heap.size, 1, none⟩ = some (.int .i64 f) ∧ W.cell? ⟨w.heap.size, 2, none⟩ = some (.int .i64 r) ∧ w.heap.size < W.heap.size ∧ Hid (Below w.heap.size w W))
    (first | exact sf_drew HS.out | assumption | exact sf_next (by assumption) (by assumption) | exact sf_next (by assumption) (sf_drew HS.out))
    (first
     | (go_at_call 26; refine (C1.out _).mono ?_; rintro e w2 ⟨rfl, hb2⟩)
     | (go_at_call 27; refine (C2.out _).mono ?_; rintro e w2 ⟨rfl, hb2⟩))
  have HT := Lib.hid (show SF w a f r w2 by assumption)
  clear HS hd0 hd1 hd2 hz HB
  have HS := Lib.hid HT.out
  clear HT
  obtain ⟨hd0, hd1, hd2, hz, HB⟩ := HS.out
  go_wp2_with (first
    | (go_at_call 27; (with_reducible (refine (C2.out _).mono ?_)); rintro e w3 ⟨rfl, hb⟩; replace HS := Lib.hid (sf_next hb HS.out); clear hb; replace hd0 := HS.out.1; replace hd1 := HS.out.2.1; replace hd2 := HS.out.2.2.1; replace hz := HS.out.2.2.2.1; replace HB := HS.out.2.2.2.2)
    | fail)
  have e1 := E1.out
  go_quiet ((go_at_call 30; exact Calls.quiet_of_same (C4.out _)))
  clear e1
  obtain ⟨w4, hw⟩ : ∃ w4, w4 = w3.drewN nq := ⟨_, rfl⟩
  rw [← hw]
  have HT := Lib.hid (show SF w a f r w4 from hw ▸ sf_drewN HS.out nq)
  clear HS hd0 hd1 hd2 hz HB hw
  have HS := Lib.hid HT.out
  clear HT
  obtain ⟨hd0, hd1, hd2, hz, HB⟩ := HS.out
  go_wp2_with fail
  have e2 := E2.out
  have e3 := E3.out
  go_quiet ((go_at_call 31; exact Calls.quiet_of_same (C6.out _)))
  clear e2 e3
  obtain ⟨w5, hw⟩ : ∃ w5, w5 = w4.drewN nq := ⟨_, rfl⟩
  rw [← hw]
  have HT := Lib.hid (show SF w a f r w5 from hw ▸ sf_drewN HS.out nq)
  clear HS hd0 hd1 hd2 hz HB hw
  have HS := Lib.hid HT.out
  clear HT
  obtain ⟨hd0, hd1, hd2, hz, HB⟩ := HS.out
  rw [HSUM.out]
  go_wp2_with (first
    | (go_at_call 28; (with_reducible (refine (C3.out _).mono ?_)); rintro e w6 ⟨rfl, hb⟩; replace HS := Lib.hid (sf_next hb HS.out); clear hb; replace hd0 := HS.out.1; replace hd1 := HS.out.2.1; replace hd2 := HS.out.2.2.1; replace hz := HS.out.2.2.2.1; replace HB := HS.out.2.2.2.2)
    | (go_at_call 32; (with_reducible (refine (C7.out _).mono ?_)); rintro e w7 ⟨rfl, hb⟩; replace HS := Lib.hid (sf_next hb HS.out); clear hb; replace hd0 := HS.out.1; replace hd1 := HS.out.2.1; replace hd2 := HS.out.2.2.1; replace hz := HS.out.2.2.2.1; replace HB := HS.out.2.2.2.2)
    | (go_at_call 30; (with_reducible (refine (C5.out _).mono ?_)); rintro e w8 ⟨rfl, rfl⟩)
    | fail)
  go_ret
  exact ⟨rfl, HB⟩
theorem tells_true (a f r n g : Int) (w : World) : Calls Try.prog 7 #[.agg #[.int .i64 a, .int .i64 f, .int .i64 r], .int .i64 n, .int .i64 g] w (Tr w) := by
  by_cases h : Rt a f r
  · exact tells_yes a f r n g w h
  · exact tells_no a f r n g w h
end Go.Proofs.Ytapebhefbokcfaa.DWalk
