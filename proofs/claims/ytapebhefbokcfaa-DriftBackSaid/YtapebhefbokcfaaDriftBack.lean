import Derived.Test.YtapebhefbokcfaaDriftWalks6
import Derived.Deep.RegionHeld3
namespace Go.Proofs.Ytapebhefbokcfaa.DWalk
open Go.RowKit Go.Proofs.Ytapebhefbokcfaa.DMath
theorem clampq (x c : Int) (w : World) (h : c = cl x) : Calls Try.prog 30 #[.int .i64 x] w fun e w' => e = .returned (.int .i64 c) ∧ w' = w := (h ▸ clamp_any x w).mono fun _ _ q => ⟨q.1, q.2.symm⟩
theorem clampn (x c : Int) (w : World) (h : c = cl x) : Calls Try.prog 30 #[.int .i64 x] w fun e w' => e = .returned (.int .i64 c) ∧ w = w' := h ▸ clamp_any x w
theorem part_q (d r k : Int) (w : World) (hn0 : -4398046511104 ≤ d) (hn : d ≤ 4398046511104) (hr0 : -1000000 ≤ r) (hr : r ≤ 1000000) (h : pt d r = k) :
    Calls Try.prog 31 #[.int .i64 d, .int .i64 r] w fun e w' => e = .returned (.int .i64 k) ∧ w' = w := (h ▸ part_any d r w hn0 hn hr0 hr).mono fun _ _ q => ⟨q.1, q.2.symm⟩
abbrev Tr (w : World) (e : Ending) (w' : World) : Prop := e = .returned (.bool true) ∧ Below w.heap.size w w'
/-- What a world of the call holds: the rule's box; all that was there. -/
abbrev SF (w : World) (a f r : Int) (W : World) : Prop := W.cell? ⟨w.heap.size, 0, none⟩ = some (.int .i64 a) ∧ W.cell? ⟨w.heap.size, 1, none⟩ = some (.int .i64 f) ∧ W.cell? ⟨w.heap.size, 2, none⟩ = some (.int .i64 r) ∧ w.heap.size < W.heap.size ∧ Hid (Below w.heap.size w W)
theorem sf_drew {w W : World} {a f r : Int} (h : SF w a f r W) : SF w a f r W.drew := ⟨h.1, h.2.1, h.2.2.1, h.2.2.2.1, Below.drew h.2.2.2.2⟩
theorem sf_drewN {w W : World} {a f r : Int} (h : SF w a f r W) (n : Nat) : SF w a f r (W.drewN n) := ⟨h.1, h.2.1, h.2.2.1, h.2.2.2.1, Below.drewN h.2.2.2.2 n⟩
theorem sf_next {w W W' : World} {a f r : Int} (hb : Below W.heap.size W W') (h : SF w a f r W) : SF w a f r W' :=
  ⟨((bcell hb).1 _ 0 h.2.2.2.1).trans h.1, ((bcell hb).1 _ 1 h.2.2.2.1).trans h.2.1, ((bcell hb).1 _ 2 h.2.2.2.1).trans h.2.2.1, Nat.lt_of_lt_of_le h.2.2.2.1 hb.size, below_then h.2.2.2.2 hb⟩
theorem sf_first {w W : World} {a f r : Int} (hb : Below (w.alloc (.cells #[.int .i64 a, .int .i64 f, .int .i64 r] 51)).heap.size (w.alloc (.cells #[.int .i64 a, .int .i64 f, .int .i64 r] 51)) W) : SF w a f r W :=
  ⟨((bcell hb).1 w.heap.size 0 (by simp)).trans (by simp), ((bcell hb).1 w.heap.size 1 (by simp)).trans (by simp), ((bcell hb).1 w.heap.size 2 (by simp)).trans (by simp), (by have := hb.size; simp at this; omega), below_box _ hb⟩

theorem to_x (a f r : Int) (h : Rt a f r) (x : Int) (h1 : -1099511627776 ≤ x) (h2 : x ≤ 1099511627776) (w : World) : Calls Try.prog 28 #[.agg #[.int .i64 a, .int .i64 f, .int .i64 r], .int .i64 x] w fun e w' => ∃ k, F a f r x = k ∧ e = .returned (.int .i64 k) ∧ Below w.heap.size w w' :=
  (to_yes a f r x w h).mono fun _ _ q => ⟨_, rfl, by rw [show cl x = x by unfold cl; (repeat' split) <;> omega] at q; exact q⟩
set_option maxHeartbeats 2000000 in
theorem back_no (a f r n g : Int) (w : World) (h : ¬ Rt a f r) : Calls Try.prog 8 #[.agg #[.int .i64 a, .int .i64 f, .int .i64 r], .int .i64 n, .int .i64 g] w (Tr w) := by
  have CF := Lib.hid fixed_any
  have C2 := Lib.hid (fun w => rightl_no a f r w h)
  clear h
  go_enter Try.func8, Try.ntmps8
  go_wp2_with (first
    | (go_at_call 25; (with_reducible (refine (CF.out _).mono ?_)); rintro e w1 ⟨rfl, hb⟩; have HS := Lib.hid (sf_first hb); clear hb; obtain ⟨hd0, hd1, hd2, hz, HB⟩ := HS.out)
    | (go_at_call 27; (with_reducible (refine (C2.out _).mono ?_)); rintro e w2 ⟨rfl, hb⟩; replace HS := Lib.hid (sf_next hb HS.out); clear hb; replace hd0 := HS.out.1; replace hd1 := HS.out.2.1; replace hd2 := HS.out.2.2.1; replace hz := HS.out.2.2.2.1; replace HB := HS.out.2.2.2.2)
    | fail)
  go_ret
  exact ⟨rfl, HB⟩

set_option maxHeartbeats 4000000 in
theorem back_hi (a f r n g : Int) (w : World) (h : Rt a f r) (ht : 2199023255552 < g) : Calls Try.prog 8 #[.agg #[.int .i64 a, .int .i64 f, .int .i64 r], .int .i64 n, .int .i64 g] w (Tr w) := by
  have CF := Lib.hid fixed_any
  have C1 := Lib.hid (fun w => rightl_yes a f r w h)
  have hcn : -1099511627776 ≤ cl n ∧ cl n ≤ 1099511627776 := by unfold cl; (repeat' split) <;> omega
  obtain ⟨m, hm⟩ : ∃ m, m = cl n := ⟨_, rfl⟩
  rw [← hm] at hcn
  obtain ⟨hm1, hm2⟩ := hcn
  have C2 := Lib.hid (fun w => clampn n m w hm)
  obtain ⟨K1, hK1⟩ : ∃ K, F a f r m = K := ⟨_, rfl⟩
  obtain ⟨K2, hK2⟩ : ∃ K, F a f r (cl (m + 1)) = K := ⟨_, rfl⟩
  have hcm : cl m = m := by unfold cl; (repeat' split) <;> omega
  have hK12 : K1 ≤ K2 := by
    rw [← hK1, ← hK2]
    exact F_mono a f r h.1 h.2.1 (by unfold cl; (repeat' split) <;> omega)
  have hKb := F_bd a f r m h (by omega) (by omega)
  rw [hK1] at hKb
  have C3 := Lib.hid (fun w => to_at a f r m K1 w h (by rw [hcm]; exact hK1))
  have C4 := Lib.hid (fun w => to_at a f r (m + 1) K2 w h hK2)
  have C5 := Lib.hid (fun w => show Calls Try.prog 29 #[.agg #[.int .i64 a, .int .i64 f, .int .i64 r], .int .i64 g] w (FromOut a f r (2199023255552) w) from (by have q := from_yes a f r g w h; rwa [show cl2 g = 2199023255552 by unfold cl2; (repeat' split) <;> omega] at q))
  have C6 := Lib.hid (fun (h1 : K1 ≤ 2199023255552) (h2 : -2199023255552 ≤ K1) w => show Calls Try.prog 29 #[.agg #[.int .i64 a, .int .i64 f, .int .i64 r], .int .i64 K1] w (FromOut a f r K1 w) from (by have q := from_yes a f r K1 w h; rwa [show cl2 K1 = K1 by unfold cl2; (repeat' split) <;> omega] at q))
  have C7 := Lib.hid (to_x a f r h)
  have HFin := Lib.hid (fun y (hy : Least a f r K1 y) => show y ≤ m ∧ m - y ≤ 1 from by
    have hs := F_step a f r (m - 2) h.1 h.2.1
    rw [show m - 2 + 2 = m by omega, hK1] at hs
    obtain ⟨y1, y2, y3, y4⟩ := hy
    constructor
    · by_cases hc : y ≤ m
      · exact hc
      · have := y3 m (by omega) (by omega); omega
    · by_cases hc : m - y ≤ 1
      · exact hc
      · have h1 := y4 (by omega)
        have h2 := F_mono a f r h.1 h.2.1 (n := y) (m := m - 2) (by omega)
        omega)
  have HK1 := Lib.hid hK1
  have HE := Lib.hid (show IntKind.i64.wrap (m + 1) = m + 1 from iw (by omega) (by omega))
  clear hm hK1 hK2 hcm h
  go_enter Try.func8, Try.ntmps8
  go_wp2_with (first
    | (go_at_call 25; (with_reducible (refine (CF.out _).mono ?_)); rintro e w1 ⟨rfl, hb⟩; have HS := Lib.hid (sf_first hb); clear hb; obtain ⟨hd0, hd1, hd2, hz, HB⟩ := HS.out)
    | (go_at_call 27; (with_reducible (refine (C1.out _).mono ?_)); rintro e w2 ⟨rfl, hb⟩; replace HS := Lib.hid (sf_next hb HS.out); clear hb; replace hd0 := HS.out.1; replace hd1 := HS.out.2.1; replace hd2 := HS.out.2.2.1; replace hz := HS.out.2.2.2.1; replace HB := HS.out.2.2.2.2)
    | (go_at_call 30; (with_reducible (refine (C2.out _).mono ?_)); rintro e w3 ⟨rfl, rfl⟩)
    | fail)
  have he := HE.out
  go_region_held3 (fun W => W.cell? ⟨w.heap.size, 0, none⟩ = some (.int .i64 a) ∧ W.cell? ⟨w.heap.size, 1, none⟩ = some (.int .i64 f) ∧ W.cell? ⟨w.heap.size, 2, none⟩ = some (.int .i64 r) ∧ w.heap.size < W.heap.size ∧ Hid (Below w.heap.size w W))
    (first | exact sf_drew HS.out | assumption | exact sf_next (by assumption) (by assumption) | exact sf_next (by assumption) (sf_drew HS.out))
    (first
     | (go_at_call_of 28 (Value.int IntKind.i64 m); refine (C3.out _).mono ?_; rintro e w4 ⟨rfl, hb2⟩)
     | (go_at_call 28; refine (C4.out _).mono ?_; rintro e w4 ⟨rfl, hb2⟩))
  have HT := Lib.hid (show SF w a f r w4 by assumption)
  clear HS hd0 hd1 hd2 hz HB he
  have HS := Lib.hid HT.out
  clear HT
  obtain ⟨hd0, hd1, hd2, hz, HB⟩ := HS.out
  obtain ⟨hKb1, hKb2⟩ := hKb
  go_wp2_with (first
    | (go_at_call_of 29 (Value.int IntKind.i64 g); (with_reducible (refine (C5.out _).mono ?_)); rintro e w5 ⟨x, hx, rfl, hb⟩; have HX := Lib.hid hx; clear hx; have hx1 := HX.out.1; have hx2 := HX.out.2.1; replace HS := Lib.hid (sf_next hb HS.out); clear hb; replace hd0 := HS.out.1; replace hd1 := HS.out.2.1; replace hd2 := HS.out.2.2.1; replace hz := HS.out.2.2.2.1; replace HB := HS.out.2.2.2.2)
    | (go_at_call_of 28 (Value.int IntKind.i64 x); (with_reducible (refine (C7.out x (by omega) (by omega) _).mono ?_)); rintro e w6 ⟨k, hk, rfl, hb⟩; have hTk : 2199023255552 ≤ k := (by have := HX.out.2.2.2 (by omega); omega); clear hk; replace HS := Lib.hid (sf_next hb HS.out); clear hb; replace hd0 := HS.out.1; replace hd1 := HS.out.2.1; replace hd2 := HS.out.2.2.1; replace hz := HS.out.2.2.2.1; replace HB := HS.out.2.2.2.2)
    | (go_at_call 28; (with_reducible (refine (C7.out (x - 1) (by omega) (by omega) _).mono ?_)); rintro e w7 ⟨k2, hk, rfl, hb⟩; have hTk2 : k2 < 2199023255552 := (by have := HX.out.2.2.1 (x - 1) (by omega) (by omega); omega); clear hk; replace HS := Lib.hid (sf_next hb HS.out); clear hb; replace hd0 := HS.out.1; replace hd1 := HS.out.2.1; replace hd2 := HS.out.2.2.1; replace hz := HS.out.2.2.2.1; replace HB := HS.out.2.2.2.2)
    | (go_at_call_of 29 (Value.int IntKind.i64 K1); (with_reducible (refine (C6.out (by omega) (by omega) _).mono ?_)); rintro e w8 ⟨y, hy, rfl, hb⟩; have hy1 := hy.1; have hy2 := hy.2.1; obtain ⟨hy3, hy4⟩ := HFin.out y hy; clear hy; replace HS := Lib.hid (sf_next hb HS.out); clear hb; replace hd0 := HS.out.1; replace hd1 := HS.out.2.1; replace hd2 := HS.out.2.2.1; replace hz := HS.out.2.2.2.1; replace HB := HS.out.2.2.2.2)
    | fail)
  all_goals
    go_ret
    exact ⟨by first | rfl | (simp; omega), HB⟩

set_option maxHeartbeats 4000000 in
theorem back_lo (a f r n g : Int) (w : World) (h : Rt a f r) (ht : g < -2199023255552) : Calls Try.prog 8 #[.agg #[.int .i64 a, .int .i64 f, .int .i64 r], .int .i64 n, .int .i64 g] w (Tr w) := by
  have CF := Lib.hid fixed_any
  have C1 := Lib.hid (fun w => rightl_yes a f r w h)
  have hcn : -1099511627776 ≤ cl n ∧ cl n ≤ 1099511627776 := by unfold cl; (repeat' split) <;> omega
  obtain ⟨m, hm⟩ : ∃ m, m = cl n := ⟨_, rfl⟩
  rw [← hm] at hcn
  obtain ⟨hm1, hm2⟩ := hcn
  have C2 := Lib.hid (fun w => clampn n m w hm)
  obtain ⟨K1, hK1⟩ : ∃ K, F a f r m = K := ⟨_, rfl⟩
  obtain ⟨K2, hK2⟩ : ∃ K, F a f r (cl (m + 1)) = K := ⟨_, rfl⟩
  have hcm : cl m = m := by unfold cl; (repeat' split) <;> omega
  have hK12 : K1 ≤ K2 := by
    rw [← hK1, ← hK2]
    exact F_mono a f r h.1 h.2.1 (by unfold cl; (repeat' split) <;> omega)
  have hKb := F_bd a f r m h (by omega) (by omega)
  rw [hK1] at hKb
  have C3 := Lib.hid (fun w => to_at a f r m K1 w h (by rw [hcm]; exact hK1))
  have C4 := Lib.hid (fun w => to_at a f r (m + 1) K2 w h hK2)
  have C5 := Lib.hid (fun w => show Calls Try.prog 29 #[.agg #[.int .i64 a, .int .i64 f, .int .i64 r], .int .i64 g] w (FromOut a f r (-2199023255552) w) from (by have q := from_yes a f r g w h; rwa [show cl2 g = -2199023255552 by unfold cl2; (repeat' split) <;> omega] at q))
  have C6 := Lib.hid (fun (h1 : K1 ≤ 2199023255552) (h2 : -2199023255552 ≤ K1) w => show Calls Try.prog 29 #[.agg #[.int .i64 a, .int .i64 f, .int .i64 r], .int .i64 K1] w (FromOut a f r K1 w) from (by have q := from_yes a f r K1 w h; rwa [show cl2 K1 = K1 by unfold cl2; (repeat' split) <;> omega] at q))
  have C7 := Lib.hid (to_x a f r h)
  have HFin := Lib.hid (fun y (hy : Least a f r K1 y) => show y ≤ m ∧ m - y ≤ 1 from by
    have hs := F_step a f r (m - 2) h.1 h.2.1
    rw [show m - 2 + 2 = m by omega, hK1] at hs
    obtain ⟨y1, y2, y3, y4⟩ := hy
    constructor
    · by_cases hc : y ≤ m
      · exact hc
      · have := y3 m (by omega) (by omega); omega
    · by_cases hc : m - y ≤ 1
      · exact hc
      · have h1 := y4 (by omega)
        have h2 := F_mono a f r h.1 h.2.1 (n := y) (m := m - 2) (by omega)
        omega)
  have HK1 := Lib.hid hK1
  have HE := Lib.hid (show IntKind.i64.wrap (m + 1) = m + 1 from iw (by omega) (by omega))
  clear hm hK1 hK2 hcm h
  go_enter Try.func8, Try.ntmps8
  go_wp2_with (first
    | (go_at_call 25; (with_reducible (refine (CF.out _).mono ?_)); rintro e w1 ⟨rfl, hb⟩; have HS := Lib.hid (sf_first hb); clear hb; obtain ⟨hd0, hd1, hd2, hz, HB⟩ := HS.out)
    | (go_at_call 27; (with_reducible (refine (C1.out _).mono ?_)); rintro e w2 ⟨rfl, hb⟩; replace HS := Lib.hid (sf_next hb HS.out); clear hb; replace hd0 := HS.out.1; replace hd1 := HS.out.2.1; replace hd2 := HS.out.2.2.1; replace hz := HS.out.2.2.2.1; replace HB := HS.out.2.2.2.2)
    | (go_at_call 30; (with_reducible (refine (C2.out _).mono ?_)); rintro e w3 ⟨rfl, rfl⟩)
    | fail)
  have he := HE.out
  go_region_held3 (fun W => W.cell? ⟨w.heap.size, 0, none⟩ = some (.int .i64 a) ∧ W.cell? ⟨w.heap.size, 1, none⟩ = some (.int .i64 f) ∧ W.cell? ⟨w.heap.size, 2, none⟩ = some (.int .i64 r) ∧ w.heap.size < W.heap.size ∧ Hid (Below w.heap.size w W))
    (first | exact sf_drew HS.out | assumption | exact sf_next (by assumption) (by assumption) | exact sf_next (by assumption) (sf_drew HS.out))
    (first
     | (go_at_call_of 28 (Value.int IntKind.i64 m); refine (C3.out _).mono ?_; rintro e w4 ⟨rfl, hb2⟩)
     | (go_at_call 28; refine (C4.out _).mono ?_; rintro e w4 ⟨rfl, hb2⟩))
  have HT := Lib.hid (show SF w a f r w4 by assumption)
  clear HS hd0 hd1 hd2 hz HB he
  have HS := Lib.hid HT.out
  clear HT
  obtain ⟨hd0, hd1, hd2, hz, HB⟩ := HS.out
  obtain ⟨hKb1, hKb2⟩ := hKb
  go_wp2_with (first
    | (go_at_call_of 29 (Value.int IntKind.i64 g); (with_reducible (refine (C5.out _).mono ?_)); rintro e w5 ⟨x, hx, rfl, hb⟩; have HX := Lib.hid hx; clear hx; have hx1 := HX.out.1; have hx2 := HX.out.2.1; replace HS := Lib.hid (sf_next hb HS.out); clear hb; replace hd0 := HS.out.1; replace hd1 := HS.out.2.1; replace hd2 := HS.out.2.2.1; replace hz := HS.out.2.2.2.1; replace HB := HS.out.2.2.2.2)
    | (go_at_call_of 28 (Value.int IntKind.i64 x); (with_reducible (refine (C7.out x (by omega) (by omega) _).mono ?_)); rintro e w6 ⟨k, hk, rfl, hb⟩; have hTk : -2199023255552 ≤ k := (by have := HX.out.2.2.2 (by omega); omega); clear hk; replace HS := Lib.hid (sf_next hb HS.out); clear hb; replace hd0 := HS.out.1; replace hd1 := HS.out.2.1; replace hd2 := HS.out.2.2.1; replace hz := HS.out.2.2.2.1; replace HB := HS.out.2.2.2.2)
    | (go_at_call 28; (with_reducible (refine (C7.out (x - 1) (by omega) (by omega) _).mono ?_)); rintro e w7 ⟨k2, hk, rfl, hb⟩; have hTk2 : k2 < -2199023255552 := (by have := HX.out.2.2.1 (x - 1) (by omega) (by omega); omega); clear hk; replace HS := Lib.hid (sf_next hb HS.out); clear hb; replace hd0 := HS.out.1; replace hd1 := HS.out.2.1; replace hd2 := HS.out.2.2.1; replace hz := HS.out.2.2.2.1; replace HB := HS.out.2.2.2.2)
    | (go_at_call_of 29 (Value.int IntKind.i64 K1); (with_reducible (refine (C6.out (by omega) (by omega) _).mono ?_)); rintro e w8 ⟨y, hy, rfl, hb⟩; have hy1 := hy.1; have hy2 := hy.2.1; obtain ⟨hy3, hy4⟩ := HFin.out y hy; clear hy; replace HS := Lib.hid (sf_next hb HS.out); clear hb; replace hd0 := HS.out.1; replace hd1 := HS.out.2.1; replace hd2 := HS.out.2.2.1; replace hz := HS.out.2.2.2.1; replace HB := HS.out.2.2.2.2)
    | fail)
  all_goals
    go_ret
    exact ⟨by first | rfl | (simp; omega), HB⟩

set_option maxHeartbeats 4000000 in
theorem back_mid (a f r n g : Int) (w : World) (h : Rt a f r) (ht : -2199023255552 ≤ g) (ht2 : g ≤ 2199023255552) : Calls Try.prog 8 #[.agg #[.int .i64 a, .int .i64 f, .int .i64 r], .int .i64 n, .int .i64 g] w (Tr w) := by
  have CF := Lib.hid fixed_any
  have C1 := Lib.hid (fun w => rightl_yes a f r w h)
  have hcn : -1099511627776 ≤ cl n ∧ cl n ≤ 1099511627776 := by unfold cl; (repeat' split) <;> omega
  obtain ⟨m, hm⟩ : ∃ m, m = cl n := ⟨_, rfl⟩
  rw [← hm] at hcn
  obtain ⟨hm1, hm2⟩ := hcn
  have C2 := Lib.hid (fun w => clampn n m w hm)
  obtain ⟨K1, hK1⟩ : ∃ K, F a f r m = K := ⟨_, rfl⟩
  obtain ⟨K2, hK2⟩ : ∃ K, F a f r (cl (m + 1)) = K := ⟨_, rfl⟩
  have hcm : cl m = m := by unfold cl; (repeat' split) <;> omega
  have hK12 : K1 ≤ K2 := by
    rw [← hK1, ← hK2]
    exact F_mono a f r h.1 h.2.1 (by unfold cl; (repeat' split) <;> omega)
  have hKb := F_bd a f r m h (by omega) (by omega)
  rw [hK1] at hKb
  have C3 := Lib.hid (fun w => to_at a f r m K1 w h (by rw [hcm]; exact hK1))
  have C4 := Lib.hid (fun w => to_at a f r (m + 1) K2 w h hK2)
  have C5 := Lib.hid (fun w => show Calls Try.prog 29 #[.agg #[.int .i64 a, .int .i64 f, .int .i64 r], .int .i64 g] w (FromOut a f r (g) w) from (by have q := from_yes a f r g w h; rwa [show cl2 g = g by unfold cl2; (repeat' split) <;> omega] at q))
  have C6 := Lib.hid (fun (h1 : K1 ≤ 2199023255552) (h2 : -2199023255552 ≤ K1) w => show Calls Try.prog 29 #[.agg #[.int .i64 a, .int .i64 f, .int .i64 r], .int .i64 K1] w (FromOut a f r K1 w) from (by have q := from_yes a f r K1 w h; rwa [show cl2 K1 = K1 by unfold cl2; (repeat' split) <;> omega] at q))
  have C7 := Lib.hid (to_x a f r h)
  have HFin := Lib.hid (fun y (hy : Least a f r K1 y) => show y ≤ m ∧ m - y ≤ 1 from by
    have hs := F_step a f r (m - 2) h.1 h.2.1
    rw [show m - 2 + 2 = m by omega, hK1] at hs
    obtain ⟨y1, y2, y3, y4⟩ := hy
    constructor
    · by_cases hc : y ≤ m
      · exact hc
      · have := y3 m (by omega) (by omega); omega
    · by_cases hc : m - y ≤ 1
      · exact hc
      · have h1 := y4 (by omega)
        have h2 := F_mono a f r h.1 h.2.1 (n := y) (m := m - 2) (by omega)
        omega)
  have HK1 := Lib.hid hK1
  have HE := Lib.hid (show IntKind.i64.wrap (m + 1) = m + 1 from iw (by omega) (by omega))
  clear hm hK1 hK2 hcm h
  go_enter Try.func8, Try.ntmps8
  go_wp2_with (first
    | (go_at_call 25; (with_reducible (refine (CF.out _).mono ?_)); rintro e w1 ⟨rfl, hb⟩; have HS := Lib.hid (sf_first hb); clear hb; obtain ⟨hd0, hd1, hd2, hz, HB⟩ := HS.out)
    | (go_at_call 27; (with_reducible (refine (C1.out _).mono ?_)); rintro e w2 ⟨rfl, hb⟩; replace HS := Lib.hid (sf_next hb HS.out); clear hb; replace hd0 := HS.out.1; replace hd1 := HS.out.2.1; replace hd2 := HS.out.2.2.1; replace hz := HS.out.2.2.2.1; replace HB := HS.out.2.2.2.2)
    | (go_at_call 30; (with_reducible (refine (C2.out _).mono ?_)); rintro e w3 ⟨rfl, rfl⟩)
    | fail)
  have he := HE.out
  go_region_held3 (fun W => W.cell? ⟨w.heap.size, 0, none⟩ = some (.int .i64 a) ∧ W.cell? ⟨w.heap.size, 1, none⟩ = some (.int .i64 f) ∧ W.cell? ⟨w.heap.size, 2, none⟩ = some (.int .i64 r) ∧ w.heap.size < W.heap.size ∧ Hid (Below w.heap.size w W))
    (first | exact sf_drew HS.out | assumption | exact sf_next (by assumption) (by assumption) | exact sf_next (by assumption) (sf_drew HS.out))
    (first
     | (go_at_call_of 28 (Value.int IntKind.i64 m); refine (C3.out _).mono ?_; rintro e w4 ⟨rfl, hb2⟩)
     | (go_at_call 28; refine (C4.out _).mono ?_; rintro e w4 ⟨rfl, hb2⟩))
  have HT := Lib.hid (show SF w a f r w4 by assumption)
  clear HS hd0 hd1 hd2 hz HB he
  have HS := Lib.hid HT.out
  clear HT
  obtain ⟨hd0, hd1, hd2, hz, HB⟩ := HS.out
  obtain ⟨hKb1, hKb2⟩ := hKb
  go_wp2_with (first
    | (go_at_call_of 29 (Value.int IntKind.i64 g); (with_reducible (refine (C5.out _).mono ?_)); rintro e w5 ⟨x, hx, rfl, hb⟩; have HX := Lib.hid hx; clear hx; have hx1 := HX.out.1; have hx2 := HX.out.2.1; replace HS := Lib.hid (sf_next hb HS.out); clear hb; replace hd0 := HS.out.1; replace hd1 := HS.out.2.1; replace hd2 := HS.out.2.2.1; replace hz := HS.out.2.2.2.1; replace HB := HS.out.2.2.2.2)
    | (go_at_call_of 28 (Value.int IntKind.i64 x); (with_reducible (refine (C7.out x (by omega) (by omega) _).mono ?_)); rintro e w6 ⟨k, hk, rfl, hb⟩; have hTk : g ≤ k := (by have := HX.out.2.2.2 (by omega); omega); clear hk; replace HS := Lib.hid (sf_next hb HS.out); clear hb; replace hd0 := HS.out.1; replace hd1 := HS.out.2.1; replace hd2 := HS.out.2.2.1; replace hz := HS.out.2.2.2.1; replace HB := HS.out.2.2.2.2)
    | (go_at_call 28; (with_reducible (refine (C7.out (x - 1) (by omega) (by omega) _).mono ?_)); rintro e w7 ⟨k2, hk, rfl, hb⟩; have hTk2 : k2 < g := (by have := HX.out.2.2.1 (x - 1) (by omega) (by omega); omega); clear hk; replace HS := Lib.hid (sf_next hb HS.out); clear hb; replace hd0 := HS.out.1; replace hd1 := HS.out.2.1; replace hd2 := HS.out.2.2.1; replace hz := HS.out.2.2.2.1; replace HB := HS.out.2.2.2.2)
    | (go_at_call_of 29 (Value.int IntKind.i64 K1); (with_reducible (refine (C6.out (by omega) (by omega) _).mono ?_)); rintro e w8 ⟨y, hy, rfl, hb⟩; have hy1 := hy.1; have hy2 := hy.2.1; obtain ⟨hy3, hy4⟩ := HFin.out y hy; clear hy; replace HS := Lib.hid (sf_next hb HS.out); clear hb; replace hd0 := HS.out.1; replace hd1 := HS.out.2.1; replace hd2 := HS.out.2.2.1; replace hz := HS.out.2.2.2.1; replace HB := HS.out.2.2.2.2)
    | fail)
  all_goals
    go_ret
    exact ⟨by first | rfl | (simp; omega), HB⟩

theorem back_true (a f r n g : Int) (w : World) : Calls Try.prog 8 #[.agg #[.int .i64 a, .int .i64 f, .int .i64 r], .int .i64 n, .int .i64 g] w (Tr w) := by
  by_cases h : Rt a f r
  · by_cases h1 : 2199023255552 < g
    · exact back_hi a f r n g w h h1
    · by_cases h2 : g < -2199023255552
      · exact back_lo a f r n g w h h2
      · exact back_mid a f r n g w h (by omega) (by omega)
  · exact back_no a f r n g w h
end Go.Proofs.Ytapebhefbokcfaa.DWalk
