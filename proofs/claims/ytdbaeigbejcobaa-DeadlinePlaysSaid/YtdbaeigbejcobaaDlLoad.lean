import Derived.Test.YtdbaeigbejcobaaDlCycle
namespace Go.Proofs.Ytdbaeigbejcobaa.Dl
open Go.RowKit
set_option linter.unusedVariables false
set_option linter.unusedSimpArgs false
set_option maxRecDepth 100000 in
set_option maxHeartbeats 4000000 in
theorem load_yes (A : Option Addr) (n c : Nat) (z : Nat → Int × Int × Int) (w : World) (hA : Rd3 w A n z) (h : AllOk z n) (h9 : lc (per z) n ≤ 1000000000) : Calls Try.prog 16 #[.slice A n c] w fun e w' => e = .returned (.tuple #[.int .i64 (cost (fun i => (z i).1) (fun i => (z i).2.1) (lc (per z) n) n), .int .i64 (lc (per z) n), .bool true]) ∧ Below w.heap.size w w' := by
  have C1 := Lib.hid ((cycle_yes A n c z w hA h).mono fun e w' k => (⟨k.1 h9, k.2.2⟩ : e = .returned (.tuple #[.int .i64 (lc (per z) n), .bool true]) ∧ Below w.heap.size w w'))
  have HA := Lib.hid hA
  have HO := Lib.hid h.1
  have hn : n ≤ 16 := h.2.2
  generalize lc (per z) n = l at *
  have HCB := Lib.hid (fun i (hi : i ≤ n) => cost_bd (P := fun i => (z i).1) (C := fun i => (z i).2.1) (k := (l : Int)) (n := n) (by omega) (fun i hi => by have := HO.out i hi; unfold TaskOk at this; show 1 ≤ (z i).1 ∧ 0 ≤ (z i).2.1 ∧ (z i).2.1 ≤ (z i).1; omega) i hi)
  clear hA h
  go_enter Try.func16, Try.ntmps16
  go_wp2_with (first
    | (go_at_call 14; refine (C1.out).mono ?_; clear C1; rintro e w1 ⟨rfl, hb⟩; have HB1 := Lib.hid hb; clear hb)
    | fail)
  go_loopw [2, 16] (fun v2 v16 W => ∃ (i : Nat), i ≤ n ∧ v2 = .int .i64 (cost (fun i => (z i).1) (fun i => (z i).2.1) l i) ∧ v16 = .int .i64 i ∧ Hid (Below w.heap.size w W)) (fun _ v16 _ => n - (intOf v16).toNat)
  case atStart => exact ⟨0, by omega, rfl, rfl, HB1.out⟩
  case round =>
    obtain ⟨i, hi, rfl, rfl, HB⟩ := hrel
    rename World => wo
    by_cases hlt : i < n
    · obtain ⟨b0, off, rfl, hcell⟩ := HA.out (by omega)
      obtain ⟨⟨g0, g1, g2⟩, _⟩ := hcell i hlt
      have hblk : b0 < w.heap.size := World.block_lt_of_cell? w _ g0
      have k0 : wo.cell? ⟨b0, off + i * 3, none⟩ = some (.int .i64 (z i).1) := (HB.out.cell (p := ⟨b0, off + i * 3, none⟩) hblk).trans g0
      have k1 : wo.cell? ⟨b0, off + i * 3 + 1, none⟩ = some (.int .i64 (z i).2.1) := (HB.out.cell (p := ⟨b0, off + i * 3 + 1, none⟩) hblk).trans g1
      have k2 : wo.cell? ⟨b0, off + i * 3 + 2, none⟩ = some (.int .i64 (z i).2.2) := (HB.out.cell (p := ⟨b0, off + i * 3 + 2, none⟩) hblk).trans g2
      have HC := Lib.hid hcell
      have hto := HO.out i hlt
      unfold TaskOk at hto
      have hb0 := HCB.out i (by omega)
      have hb1 := HCB.out (i + 1) (by omega)
      have hst : cost (fun i => (z i).1) (fun i => (z i).2.1) l (i + 1) = cost (fun i => (z i).1) (fun i => (z i).2.1) l i + (l : Int) / (z i).1 * (z i).2.1 := rfl
      obtain ⟨p, hp⟩ : ∃ x, (z i).1 = x := ⟨_, rfl⟩
      obtain ⟨x1, hx1⟩ : ∃ x, (z i).2.1 = x := ⟨_, rfl⟩
      obtain ⟨x2, hx2⟩ : ∃ x, (z i).2.2 = x := ⟨_, rfl⟩
      rw [hp] at k0 hto hst
      rw [hx1] at k1 hto hst
      rw [hx2] at k2
      obtain ⟨q, hq⟩ : ∃ q, (l : Int) / p = q := ⟨_, rfl⟩
      have hq0 : 0 ≤ q := by rw [← hq]; exact Int.ediv_nonneg (by omega) (by omega)
      have hq1 : q ≤ 1000000000 := by rw [← hq]; exact Int.le_trans (Int.ediv_le_self _ (by omega)) (by omega)
      rw [hq] at hst
      have hpz : ¬ p = 0 := by omega
      have hw1 : IntKind.i64.wrap ((l : Int).tdiv p) = q := by rw [Int.tdiv_eq_ediv_of_nonneg (by omega), hq]; exact iw (by omega) (by omega)
      have hm0 : 0 ≤ q * x1 := Int.mul_nonneg hq0 (by omega)
      have hm1 : q * x1 ≤ 1000000000000 := by
        have := Int.mul_le_mul hq1 (show x1 ≤ 1000 by omega) (by omega) (by omega)
        omega
      have hw2 : IntKind.i64.wrap (q * x1) = q * x1 := iw (by omega) (by omega)
      obtain ⟨s, hs⟩ : ∃ s, cost (fun i => (z i).1) (fun i => (z i).2.1) l i = s := ⟨_, rfl⟩
      rw [hs] at hst hb0 ⊢
      have hi16 : (i : Int) * l ≤ 16 * 1000000000 := Int.mul_le_mul (by omega) (by omega) (by omega) (by omega)
      have hw3 : IntKind.i64.wrap (s + q * x1) = s + q * x1 := iw (by omega) (by omega)
      have HST := Lib.hid hst
      clear hcell g0 g1 g2 hp hx1 hx2 hs hst hb1 hi16
      go_wp2_with fail
      go_quiet (fail)
      go_wp2
      refine ⟨⟨i + 1, by omega, by rw [HST.out], by simp, below_drewN (HB.out.alloc HB.out.size _) _⟩, by simp [intOf]; omega⟩
    · have hie : i = n := by omega
      have HE := Lib.hid hie
      clear hie
      go_wp2
      refine bodyPost_ret (results_tmp3 rfl _ _ _) rfl ⟨by first | rfl | (rw [HE.out]; rfl), HB.out⟩
end Go.Proofs.Ytdbaeigbejcobaa.Dl
