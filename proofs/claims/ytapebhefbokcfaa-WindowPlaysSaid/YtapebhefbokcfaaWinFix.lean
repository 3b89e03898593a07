import Derived.Test.YtapebhefbokcfaaWinNew
namespace Go.Proofs.Ytapebhefbokcfaa.Win
open Go.RowKit Go.Proofs.Ytapebhefbokcfaa.DebW
set_option linter.unusedVariables false
set_option linter.unusedSimpArgs false
def S0 : Int → Int := fun _ => 0
def S1 : Int → Int := bump S0 0 7
def S2 : Int → Int := bump S1 2 5
theorem bw0 : Bw 5 0 2 S0 := ⟨by omega, by omega, by omega, by omega, by omega, by omega, by omega, fun q => by simp [S0]⟩
theorem bw1 {a : Int} (h0 : 0 ≤ a) (h : a ≤ 2) : Bw 5 a 2 S1 := ⟨by omega, by omega, by omega, by omega, by omega, by omega, by omega, fun q => by unfold S1 bump S0; split <;> omega⟩
theorem bw2 : Bw 5 2 2 S2 := ⟨by omega, by omega, by omega, by omega, by omega, by omega, by omega, fun q => by unfold S2 S1 bump S0; split <;> split <;> omega⟩
theorem f_new (w : World) : Calls Try.prog 18 #[.int .i64 10, .int .i64 2] w fun e w' => ∃ b r, e = .returned (ptr b) ∧ w.heap.size ≤ b ∧ w.heap.size ≤ r ∧ Below w.heap.size w w' ∧ WI b r 5 0 2 S0 w' :=
  new_at 10 2 (by unfold wok; decide) w
theorem f_new2 (w : World) : Calls Try.prog 18 #[.int .i64 10, .int .i64 3] w fun e w' => e = .returned (.pointer none) ∧ w = w' :=
  new_none 10 3 (by unfold wok; decide) w
theorem f_add {b r : Nat} (w : World) (h : WI b r 5 0 2 S0 w) : Calls Try.prog 23 #[ptr b, .int .i64 3, .int .i64 7] w fun e w' => e = .returned (.tuple #[]) ∧ G2 b r w w' ∧ WI b r 5 0 2 S1 w' := add_w 3 7 w h bw0
theorem f_sum1 {b r : Nat} (w : World) (h : WI b r 5 0 2 S1 w) : Calls Try.prog 21 #[ptr b, .int .i64 9] w fun e w' => e = .returned (.int .i64 7) ∧ G2 b r w w' ∧ WI b r 5 1 2 S1 w' := sum_w 9 w h (bw1 (by omega) (by omega))
theorem f_sum2 {b r : Nat} (w : World) (h : WI b r 5 1 2 S1 w) : Calls Try.prog 21 #[ptr b, .int .i64 10] w fun e w' => e = .returned (.int .i64 0) ∧ G2 b r w w' ∧ WI b r 5 2 2 S1 w' := sum_w 10 w h (bw1 (by omega) (by omega))
theorem f_allow1 {b r : Nat} (w : World) (h : WI b r 5 2 2 S1 w) : Calls Try.prog 24 #[ptr b, .int .i64 11, .int .i64 5, .int .i64 5] w fun e w' => e = .returned (.bool true) ∧ G2 b r w w' ∧ WI b r 5 2 2 S2 w' := allow_w 11 5 5 w h (bw1 (by omega) (by omega))
theorem f_allow2 {b r : Nat} (w : World) (h : WI b r 5 2 2 S2 w) : Calls Try.prog 24 #[ptr b, .int .i64 11, .int .i64 1, .int .i64 5] w fun e w' => e = .returned (.bool false) ∧ G2 b r w w' ∧ WI b r 5 2 2 S2 w' := allow_w 11 1 5 w h bw2
theorem f_great {b r : Nat} (w : World) (h : WI b r 5 2 2 S2 w) : Calls Try.prog 22 #[ptr b, .int .i64 11] w fun e w' => e = .returned (.int .i64 5) ∧ G2 b r w w' ∧ WI b r 5 2 2 S2 w' := great_w 11 w h bw2
theorem f_full {b r : Nat} (w : World) (h : WI b r 5 2 2 S2 w) : Calls Try.prog 19 #[ptr b, .int .i64 11] w fun e w' => e = .returned (.int .i64 15) ∧ G2 b r w w' ∧ WI b r 5 2 2 S2 w' := full_w 11 w h bw2
def PC (pb b r : Nat) (W : World) : Prop := pb < W.heap.size ∧ pb ≠ b ∧ pb ≠ r ∧ W.cell? ⟨pb, 0, none⟩ = some (.int .i64 7)
theorem pc_g {pb b r : Nat} {W W' : World} (h : PC pb b r W) (g : G2 b r W W') : PC pb b r W' :=
  ⟨Nat.lt_of_lt_of_le h.1 g.size, h.2.1, h.2.2.1, (g2_cell g h.1 h.2.1 h.2.2.1 0).trans h.2.2.2⟩
theorem wi_lt {b r : Nat} {p a : Int} {L : Nat} {S : Int → Int} {W : World} (h : WI b r p a L S W) : b < W.heap.size ∧ r < W.heap.size := by
  obtain ⟨X, h1, _⟩ := h
  exact ⟨h1.hb, h1.hr⟩
theorem f_parts {b r : Nat} (w : World) (h : WI b r 5 1 2 S1 w) : Calls Try.prog 20 #[ptr b, .int .i64 9] w fun e w' => ∃ pb cap, e = .returned (.slice (some ⟨pb, 0, none⟩) 2 cap) ∧ PC pb b r w' ∧ G2 b r w w' ∧ WI b r 5 1 2 S1 w' := by
  refine (parts_w 9 w h (bw1 (by omega) (by omega))).mono ?_
  rintro e w' ⟨pb, cap, B, k1, k2, k3, k4, k5⟩
  have hl := wi_lt h
  obtain ⟨pb', cap', hv, hb1, hb2, hc, _⟩ := rowp_form (p := 1) k3 rfl
  simp at hv
  obtain ⟨rfl, rfl⟩ := hv
  exact ⟨pb, cap, k1, ⟨hb2, by omega, by omega, hc⟩, k4, k5⟩
set_option maxHeartbeats 4000000 in
set_option maxRecDepth 100000 in
theorem fixed_at (w : World) : Calls Try.prog 17 #[] w (Tr w) := by
  have C1 := Lib.hid (f_new w)
  have C2 := Lib.hid f_new2
  have C3 := Lib.hid (fun b r => @f_add b r)
  have C4 := Lib.hid (fun b r => @f_sum1 b r)
  have C5 := Lib.hid (fun b r => @f_parts b r)
  have C6 := Lib.hid (fun b r => @f_sum2 b r)
  have C7 := Lib.hid (fun b r => @f_allow1 b r)
  have C8 := Lib.hid (fun b r => @f_allow2 b r)
  have C9 := Lib.hid (fun b r => @f_great b r)
  have C10 := Lib.hid (fun b r => @f_full b r)
  have C11 := Lib.hid add_nil
  have C12 := Lib.hid sum_nil
  have C13 := Lib.hid allow_nil
  go_enter Try.func17, Try.ntmps17
  go_wp2_with (first
    | (go_at_call 18; refine (C1.out).mono ?_; clear C1; rintro e w1 ⟨b, r, rfl, hb, hr, hbel, hwi⟩; have HB := Lib.hid hbel; have HW := Lib.hid hwi; clear hbel hwi)
    | (go_at_call 23; refine (C3.out _ _ _ HW.out).mono ?_; clear C3; rintro e w2 ⟨rfl, hg, hwi⟩; have HG := Lib.hid hg; clear HW; have HW := Lib.hid hwi; clear hg hwi)
    | (go_at_call 21; refine (C4.out _ _ _ HW.out).mono ?_; clear C4; rintro e w3 ⟨rfl, hg, hwi⟩; have HG2 := Lib.hid (g2_trans HG.out hg); clear HW HG; have HG := HG2; clear HG2; have HW := Lib.hid hwi; clear hg hwi)
    | (go_at_call 20; refine (C5.out _ _ _ HW.out).mono ?_; clear C5; rintro e w4 ⟨pb, cap, rfl, hpc, hg, hwi⟩; have HPC := Lib.hid hpc; have HG2 := Lib.hid (g2_trans HG.out hg); clear HW HG; have HG := HG2; clear HG2; have HW := Lib.hid hwi; clear hg hwi hpc)
    | (go_at_call 21; refine (C6.out _ _ _ HW.out).mono ?_; clear C6; rintro e w5 ⟨rfl, hg, hwi⟩; have HP2 := Lib.hid (pc_g HPC.out hg); have HG2 := Lib.hid (g2_trans HG.out hg); clear HW HG HPC; have HPC := HP2; have HG := HG2; clear HG2 HP2; have HW := Lib.hid hwi; clear hg hwi)
    | (go_at_call 24; refine (C7.out _ _ _ HW.out).mono ?_; clear C7; rintro e w6 ⟨rfl, hg, hwi⟩; have HP2 := Lib.hid (pc_g HPC.out hg); have HG2 := Lib.hid (g2_trans HG.out hg); clear HW HG HPC; have HPC := HP2; have HG := HG2; clear HG2 HP2; have HW := Lib.hid hwi; clear hg hwi)
    | (go_at_call 24; refine (C8.out _ _ _ HW.out).mono ?_; clear C8; rintro e w7 ⟨rfl, hg, hwi⟩; have HP2 := Lib.hid (pc_g HPC.out hg); have HG2 := Lib.hid (g2_trans HG.out hg); clear HW HG HPC; have hpc := HP2.out.2.2.2; have HG := HG2; clear HG2 HP2; have HW := Lib.hid hwi; clear hg hwi)
    | (go_at_call 23; refine (C11.out _ _ _).mono ?_; clear C11; rintro e w8 ⟨rfl, rfl⟩)
    | (go_at_call 22; refine (C9.out _ _ _ HW.out).mono ?_; clear C9; rintro e w9 ⟨rfl, hg, hwi⟩; have HG2 := Lib.hid (g2_trans HG.out hg); clear HW HG; have HG := HG2; clear HG2; have HW := Lib.hid hwi; clear hg hwi)
    | (go_at_call 19; refine (C10.out _ _ _ HW.out).mono ?_; clear C10; rintro e w10 ⟨rfl, hg, hwi⟩; have HG2 := Lib.hid (g2_trans HG.out hg); clear HW HG; have HG := HG2; clear HG2; have HW := Lib.hid hwi; clear hg hwi)
    | (go_at_call 18; refine (C2.out _).mono ?_; clear C2; rintro e w11 ⟨rfl, rfl⟩)
    | (go_at_call 21; refine (C12.out _ _).mono ?_; clear C12; rintro e w12 ⟨rfl, rfl⟩)
    | (go_at_call 24; refine (C13.out _ _ _ _).mono ?_; clear C13; rintro e w13 ⟨rfl, rfl⟩)
    | fail)
  go_ret
  exact ⟨rfl, g2_new HB.out hb hr HG.out⟩
end Go.Proofs.Ytapebhefbokcfaa.Win
