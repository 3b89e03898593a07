import Derived.Test.YtdbaeigbejcobaaDlPlay
namespace Go.Proofs.Ytdbaeigbejcobaa.Dl
open Go.RowKit
set_option linter.unusedVariables false
set_option linter.unusedSimpArgs false
def z0 (i : Nat) : Int × Int × Int := if i = 0 then (2, 1, 0) else (4, 2, 0)
theorem ok0 : AllOk z0 2 := by
  refine ⟨fun i hi => ?_, by omega, by omega⟩
  rcases (show i = 0 ∨ i = 1 by omega) with rfl | rfl <;> (unfold TaskOk z0; simp)
theorem st0 : (st z0 2 8).xs = [0, 1, 0, 1, 0, 1, 0, 1] ∧ (st z0 2 8).q = 0 ∧ (st z0 2 8).M 0 = 0 ∧ (st z0 2 8).M 1 = 0 := by decide
theorem lc0 : lc (per z0) 2 = 4 := by decide
theorem rd0 (w : World) : Rd3 (w.alloc (.cells #[.int .i64 2, .int .i64 1, .int .i64 0, .int .i64 4, .int .i64 2, .int .i64 0] 35)) (some ⟨w.heap.size, 0, none⟩) 2 z0 := by
  intro _
  refine ⟨w.heap.size, 0, rfl, fun i hi => ?_⟩
  rcases (show i = 0 ∨ i = 1 by omega) with rfl | rfl
  · exact ⟨⟨cell_new w _ 35 0 _ rfl, cell_new w _ 35 1 _ rfl, cell_new w _ 35 2 _ rfl⟩, by decide⟩
  · exact ⟨⟨cell_new w _ 35 3 _ rfl, cell_new w _ 35 4 _ rfl, cell_new w _ 35 5 _ rfl⟩, by decide⟩
theorem f_play {b : Nat} (w : World) (h : Rd3 w (some ⟨b, 0, none⟩) 2 z0) : Calls Try.prog 11 #[.slice (some ⟨b, 0, none⟩) 2 2, .int .i64 8] w fun e w' => ∃ g cap rm, e = .returned (.agg #[.slice (some ⟨g, 0, none⟩) 8 cap, .slice (some ⟨rm, 0, none⟩) 2 2, .int .i64 0]) ∧ (g < w'.heap.size ∧ w'.cell? ⟨g, 0, none⟩ = some (.int .i64 0) ∧ w'.cell? ⟨g, 1, none⟩ = some (.int .i64 1) ∧ rm < w'.heap.size ∧ w'.cell? ⟨rm, 0, none⟩ = some (.int .i64 0) ∧ w'.cell? ⟨rm, 1, none⟩ = some (.int .i64 0)) ∧ Below w.heap.size w w' := by
  refine (play_yes (some ⟨b, 0, none⟩) 2 2 z0 8 w h ok0 (by omega)).mono ?_
  rintro e w' ⟨v, rm, he, hr, h1, h2, h3, h4⟩
  obtain ⟨e1, e2, e3, e4⟩ := st0
  rw [e1] at hr
  rw [e2] at he
  have m0 := h3 0 (by omega)
  have m1 := h3 1 (by omega)
  rw [e3] at m0
  rw [e4] at m1
  obtain ⟨A, cap, rfl, hc⟩ := rowp_any hr
  obtain ⟨g, rfl, hg, _, c0⟩ := hc 0 (by simp)
  obtain ⟨g2, hg2, _, _, c1⟩ := hc 1 (by simp)
  simp only [Option.some.injEq, Addr.mk.injEq, and_true] at hg2
  subst hg2
  exact ⟨g, cap, rm, he, ⟨hg, c0, c1, h2, m0, m1⟩, h4⟩
theorem f_cycle {b : Nat} (w : World) (h : Rd3 w (some ⟨b, 0, none⟩) 2 z0) : Calls Try.prog 14 #[.slice (some ⟨b, 0, none⟩) 2 2] w fun e w' => e = .returned (.tuple #[.int .i64 4, .bool true]) ∧ Below w.heap.size w w' :=
  (cycle_yes _ 2 2 z0 w h ok0).mono fun e w' k => ⟨by have := k.1 (by rw [lc0]; omega); rw [lc0] at this; exact this, k.2.2⟩
theorem f_load {b : Nat} (w : World) (h : Rd3 w (some ⟨b, 0, none⟩) 2 z0) : Calls Try.prog 16 #[.slice (some ⟨b, 0, none⟩) 2 2] w fun e w' => e = .returned (.tuple #[.int .i64 4, .int .i64 4, .bool true]) ∧ Below w.heap.size w w' :=
  (load_yes _ 2 2 z0 w h ok0 (by rw [lc0]; omega)).mono fun e w' k => ⟨by have := k.1; rw [lc0, show cost (fun i => (z0 i).1) (fun i => (z0 i).2.1) ((4 : Nat) : Int) 2 = 4 by decide] at this; exact this, k.2⟩
theorem f_fits {b : Nat} (w : World) (h : Rd3 w (some ⟨b, 0, none⟩) 2 z0) : Calls Try.prog 15 #[.slice (some ⟨b, 0, none⟩) 2 2] w fun e w' => e = .returned (.bool true) ∧ Below w.heap.size w w' :=
  fits_some _ 2 2 4 4 w (Lib.hid (f_load w h))
theorem f_right {b : Nat} (w : World) (h : Rd3 w (some ⟨b, 0, none⟩) 2 z0) : Calls Try.prog 12 #[.slice (some ⟨b, 0, none⟩) 2 2] w fun e w' => e = .returned (.bool true) ∧ Below w.heap.size w w' := Right_yes _ 2 2 z0 w h ok0
theorem f_nil (w : World) : Calls Try.prog 12 #[.slice none 0 0] w fun e w' => e = .returned (.bool false) ∧ Below w.heap.size w w' :=
  Right_no none 0 0 z0 w (by omega) (fun h => absurd h (by omega)) (fun h => absurd h.2.1 (by omega))
/-- What fixed holds behind Play. -/
def FX (b r g rm cap : Nat) (W : World) : Prop := Rd3 W (some ⟨b, 0, none⟩) 2 z0 ∧ W.heap[r]? = some (.cells #[.slice (some ⟨g, 0, none⟩) 8 cap, .slice (some ⟨rm, 0, none⟩) 2 2, .int .i64 0] 26) ∧ (g < W.heap.size ∧ W.cell? ⟨g, 0, none⟩ = some (.int .i64 0) ∧ W.cell? ⟨g, 1, none⟩ = some (.int .i64 1) ∧ rm < W.heap.size ∧ W.cell? ⟨rm, 0, none⟩ = some (.int .i64 0) ∧ W.cell? ⟨rm, 1, none⟩ = some (.int .i64 0))
theorem fx_below {b r g rm cap : Nat} {W W' : World} (h : FX b r g rm cap W) (hb : Below W.heap.size W W') : FX b r g rm cap W' := by
  obtain ⟨h1, h2, h3, h4, h5, h6, h7, h8⟩ := h
  have hr : r < W.heap.size := (Array.getElem?_eq_some_iff.1 h2).1
  have k := (bcell hb).1
  exact ⟨rd3_below h1 hb, (hb.block r hr).trans h2, Nat.lt_of_lt_of_le h3 hb.size, (k _ _ h3).trans h4, (k _ _ h3).trans h5, Nat.lt_of_lt_of_le h6 hb.size, (k _ _ h6).trans h7, (k _ _ h6).trans h8⟩
theorem fx_new {b g rm cap : Nat} {W : World} (h : Rd3 W (some ⟨b, 0, none⟩) 2 z0) (hc : g < W.heap.size ∧ W.cell? ⟨g, 0, none⟩ = some (.int .i64 0) ∧ W.cell? ⟨g, 1, none⟩ = some (.int .i64 1) ∧ rm < W.heap.size ∧ W.cell? ⟨rm, 0, none⟩ = some (.int .i64 0) ∧ W.cell? ⟨rm, 1, none⟩ = some (.int .i64 0)) : FX b W.heap.size g rm cap (W.alloc (.cells #[.slice (some ⟨g, 0, none⟩) 8 cap, .slice (some ⟨rm, 0, none⟩) 2 2, .int .i64 0] 26)) := by
  have hb := (Below.refl W.heap.size W).alloc (Nat.le_refl _) (.cells #[.slice (some ⟨g, 0, none⟩) 8 cap, .slice (some ⟨rm, 0, none⟩) 2 2, .int .i64 0] 26)
  obtain ⟨h3, h4, h5, h6, h7, h8⟩ := hc
  have k := (bcell hb).1
  exact ⟨rd3_below h hb, heap_alloc_new _ _, Nat.lt_of_lt_of_le h3 hb.size, (k _ _ h3).trans h4, (k _ _ h3).trans h5, Nat.lt_of_lt_of_le h6 hb.size, (k _ _ h6).trans h7, (k _ _ h6).trans h8⟩
theorem fx_cells {b r g rm cap : Nat} {W : World} (h : FX b r g rm cap W) : W.cell? ⟨r, 0, none⟩ = some (.slice (some ⟨g, 0, none⟩) 8 cap) ∧ W.cell? ⟨r, 1, none⟩ = some (.slice (some ⟨rm, 0, none⟩) 2 2) ∧ W.cell? ⟨r, 2, none⟩ = some (.int .i64 0) ∧ W.cell? ⟨g, 0, none⟩ = some (.int .i64 0) ∧ W.cell? ⟨g, 1, none⟩ = some (.int .i64 1) ∧ W.cell? ⟨rm, 0, none⟩ = some (.int .i64 0) ∧ W.cell? ⟨rm, 1, none⟩ = some (.int .i64 0) := by
  obtain ⟨⟨a0, _⟩, ⟨a1, _⟩, a2, _⟩ := run_cells h.2.1
  obtain ⟨_, g0, g1, _, m0, m1⟩ := h.2.2
  exact ⟨a0, a1, a2, g0, g1, m0, m1⟩
theorem fx_drew {b r g rm cap : Nat} {W : World} (h : FX b r g rm cap W) : FX b r g rm cap W.drew := fx_below h (below_drew (Below.refl _ _))
set_option maxHeartbeats 4000000 in
set_option maxRecDepth 100000 in
theorem fixed_at (w : World) : Calls Try.prog 10 #[] w (Tr w) := by
  have HR := Lib.hid (rd0 w)
  have HBW := Lib.hid ((Below.refl w.heap.size w).alloc (Nat.le_refl _) (.cells #[.int .i64 2, .int .i64 1, .int .i64 0, .int .i64 4, .int .i64 2, .int .i64 0] 35))
  have C1 := Lib.hid (f_play _ HR.out)
  have C2 := Lib.hid (fun b => @f_cycle b)
  have C3 := Lib.hid (fun b => @f_load b)
  have C4 := Lib.hid (fun b => @f_fits b)
  have C5 := Lib.hid (fun b => @f_right b)
  have C6 := Lib.hid f_nil
  go_enter Try.func10, Try.ntmps10
  go_wp2_with (first
    | (go_at_call 11; refine (C1.out).mono ?_; clear C1; rintro e w1 ⟨g, cap, rm, rfl, hc, hb⟩; have HF := Lib.hid (fx_new (cap := cap) (rd3_below HR.out hb) hc); have HB := Lib.hid ((below_tr HBW.out hb).alloc (by have := (below_tr HBW.out hb).size; exact this) (.cells #[.slice (some ⟨g, 0, none⟩) 8 cap, .slice (some ⟨rm, 0, none⟩) 2 2, .int .i64 0] 26)); clear hb hc HR HBW)
    | (go_at_call 14; refine (C2.out _ _ HF.out.1).mono ?_; clear C2; rintro e w2 ⟨rfl, hb⟩; have HF2 := Lib.hid (fx_below HF.out hb); have HB2 := Lib.hid (below_tr HB.out hb); clear HF HB hb)
    | (go_at_call 16; refine (C3.out _ _ HF2.out.1).mono ?_; clear C3; rintro e w3 ⟨rfl, hb⟩; have HF3 := Lib.hid (fx_below HF2.out hb); have HB3 := Lib.hid (below_tr HB2.out hb); clear HF2 HB2 hb;)
    | fail)
  have HD3 := Lib.hid (fx_drew HF3.out)
  have HC3 := Lib.hid (below_drew HB3.out)
  clear HF3 HB3
  obtain ⟨r, hr⟩ : ∃ r, w1.heap.size = r := ⟨_, rfl⟩
  rw [hr] at HD3 ⊢
  dsimp only [List.append]
  go_region_held3 (fun W => W.cell? ⟨r, 0, none⟩ = some (.slice (some ⟨g, 0, none⟩) 8 cap) ∧ W.cell? ⟨r, 1, none⟩ = some (.slice (some ⟨rm, 0, none⟩) 2 2) ∧ W.cell? ⟨r, 2, none⟩ = some (.int .i64 0) ∧ W.cell? ⟨g, 0, none⟩ = some (.int .i64 0) ∧ W.cell? ⟨g, 1, none⟩ = some (.int .i64 1) ∧ W.cell? ⟨rm, 0, none⟩ = some (.int .i64 0) ∧ W.cell? ⟨rm, 1, none⟩ = some (.int .i64 0))
    (first
      | exact fx_cells HD3.out
      | exact fx_cells HF4.out
      | exact fx_cells HF5.out
      | exact fx_cells HF6.out
      | (go_keep; done))
    (first
      | (go_simp; go_at_call 15; refine (C4.out _ _ HD3.out.1).mono ?_; clear C4; rintro e w4 ⟨rfl, hb⟩; have HF4 := Lib.hid (fx_below HD3.out hb); have HB4 := Lib.hid (below_tr HC3.out hb); clear HD3 HC3 hb)
      | (go_simp; go_at_call 12; refine (C5.out _ _ HF4.out.1).mono ?_; clear C5; rintro e w5 ⟨rfl, hb⟩; have HF5 := Lib.hid (fx_below HF4.out hb); have HB5 := Lib.hid (below_tr HB4.out hb); clear HF4 HB4 hb)
      | (go_simp; go_at_call 12; refine (C6.out _).mono ?_; clear C6; rintro e w6 ⟨rfl, hb⟩; have HF6 := Lib.hid (fx_below HF5.out hb); have HB6 := Lib.hid (below_tr HB5.out hb); clear HF5 HB5 hb)
      | fail)
  go_wp2
  go_ret
  exact ⟨rfl, HB6.out⟩
end Go.Proofs.Ytdbaeigbejcobaa.Dl
