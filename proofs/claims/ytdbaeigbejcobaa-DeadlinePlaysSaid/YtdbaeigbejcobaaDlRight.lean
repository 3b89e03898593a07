import Derived.Test.YtdbaeigbejcobaaDlGcd
namespace Go.Proofs.Ytdbaeigbejcobaa.Dl
open Go.RowKit
set_option linter.unusedVariables false
set_option linter.unusedSimpArgs false
/-- A task that may be. -/
def TaskOk (t : Int × Int × Int) : Prop := 1 ≤ t.1 ∧ t.1 ≤ 1000 ∧ 1 ≤ t.2.1 ∧ t.2.1 ≤ t.1 ∧ 0 ≤ t.2.2 ∧ t.2.2 ≤ 1000
def AllOk (z : Nat → Int × Int × Int) (n : Nat) : Prop := (∀ i, i < n → TaskOk (z i)) ∧ 1 ≤ n ∧ n ≤ 16
set_option maxRecDepth 100000 in
set_option maxHeartbeats 4000000 in
theorem Right_at (A : Option Addr) (n c : Nat) (z : Nat → Int × Int × Int) (w : World) (hn : n ≤ 30) (hA : Rd3 w A n z) : Calls Try.prog 12 #[.slice A n c] w fun e w' => (AllOk z n → e = .returned (.bool true)) ∧ (¬ AllOk z n → e = .returned (.bool false)) ∧ Below w.heap.size w w' := by
  have HA := Lib.hid hA
  clear hA
  go_enter Try.func12, Try.ntmps12
  go_wp2_with fail
  go_loopw [7] (fun v7 W => ∃ (i : Nat), i ≤ n ∧ v7 = .int .i64 i ∧ Hid (∀ j, j < i → TaskOk (z j)) ∧ Hid (Below w.heap.size w W)) (fun v7 _ => n - (intOf v7).toNat)
  case atStart => exact ⟨0, by omega, rfl, fun j hj => by omega, Below.refl _ _⟩
  case round =>
    obtain ⟨i, hi, rfl, HO, HB⟩ := hrel
    by_cases hlt : i < n
    · obtain ⟨b0, off, rfl, hcell⟩ := HA.out (by omega)
      obtain ⟨⟨g0, g1, g2⟩, f0, f1, f2⟩ := hcell i hlt
      have hblk : b0 < w.heap.size := World.block_lt_of_cell? w _ g0
      have k0 : wr.cell? ⟨b0, off + i * 3, none⟩ = some (.int .i64 (z i).1) := (HB.out.cell (p := ⟨b0, off + i * 3, none⟩) hblk).trans g0
      have k1 : wr.cell? ⟨b0, off + i * 3 + 1, none⟩ = some (.int .i64 (z i).2.1) := (HB.out.cell (p := ⟨b0, off + i * 3 + 1, none⟩) hblk).trans g1
      have k2 : wr.cell? ⟨b0, off + i * 3 + 2, none⟩ = some (.int .i64 (z i).2.2) := (HB.out.cell (p := ⟨b0, off + i * 3 + 2, none⟩) hblk).trans g2
      have HC := Lib.hid hcell
      by_cases hok : TaskOk (z i)
      · have HO2 := Lib.hid (show ∀ j, j < i + 1 → TaskOk (z j) from fun j hj => by
          rcases Nat.lt_or_ge j i with h | h
          · exact HO.out j h
          · obtain rfl : j = i := by omega
            exact hok)
        unfold TaskOk at hok
        obtain ⟨p1, p2, p3, p4, p5, p6⟩ := hok
        obtain ⟨x0, hx0⟩ : ∃ x, (z i).1 = x := ⟨_, rfl⟩
        obtain ⟨x1, hx1⟩ : ∃ x, (z i).2.1 = x := ⟨_, rfl⟩
        obtain ⟨x2, hx2⟩ : ∃ x, (z i).2.2 = x := ⟨_, rfl⟩
        rw [hx0] at k0 p1 p2 p4
        rw [hx1] at k1 p3 p4
        rw [hx2] at k2 p5 p6
        clear hcell g0 g1 g2 f0 f1 f2 hx0 hx1 hx2
        go_wp2
        refine ⟨⟨i + 1, by omega, by simp, HO2.out, HB.out.alloc HB.out.size _⟩, by simp [intOf]; omega⟩
      · have HN := Lib.hid (show ¬ AllOk z n from fun h => hok (h.1 i hlt))
        unfold TaskOk at hok
        obtain ⟨x0, hx0⟩ : ∃ x, (z i).1 = x := ⟨_, rfl⟩
        obtain ⟨x1, hx1⟩ : ∃ x, (z i).2.1 = x := ⟨_, rfl⟩
        obtain ⟨x2, hx2⟩ : ∃ x, (z i).2.2 = x := ⟨_, rfl⟩
        rw [hx0] at k0 hok
        rw [hx1] at k1 hok
        rw [hx2] at k2 hok
        clear hcell g0 g1 g2 f0 f1 f2 hx0 hx1 hx2
        rcases (show x0 < 1 ∨ (1 ≤ x0 ∧ 1000 < x0) ∨ ((1 ≤ x0 ∧ x0 ≤ 1000) ∧ x1 < 1) ∨ ((1 ≤ x0 ∧ x0 ≤ 1000) ∧ 1 ≤ x1 ∧ x0 < x1) ∨ ((1 ≤ x0 ∧ x0 ≤ 1000) ∧ (1 ≤ x1 ∧ x1 ≤ x0) ∧ x2 < 0) ∨ ((1 ≤ x0 ∧ x0 ≤ 1000) ∧ (1 ≤ x1 ∧ x1 ≤ x0) ∧ 0 ≤ x2 ∧ 1000 < x2) by omega) with h | h | h | h | h | h
        all_goals
          clear hok
          go_wp2
          go_ret
          exact ⟨fun h => absurd h HN.out, fun _ => rfl, HB.out.alloc HB.out.size _⟩
    · obtain rfl : i = n := by omega
      by_cases hn1 : 1 ≤ i ∧ i ≤ 16
      · have HY := Lib.hid (show AllOk z i from ⟨HO.out, hn1.1, hn1.2⟩)
        obtain ⟨q1, q2⟩ := hn1
        go_wp2
        go_ret
        exact ⟨fun _ => by first | rfl | (simp; omega), fun h => absurd HY.out h, HB.out⟩
      · have HN := Lib.hid (show ¬ AllOk z i from fun h => hn1 ⟨h.2.1, h.2.2⟩)
        rcases (show i < 1 ∨ (1 ≤ i ∧ 16 < i) by omega) with h | h
        all_goals
          clear hn1
          go_wp2
          go_ret
          exact ⟨fun h => absurd h HN.out, fun _ => by first | rfl | (simp; omega), HB.out⟩
set_option maxRecDepth 100000 in
set_option maxHeartbeats 4000000 in
theorem right_at (A : Option Addr) (n c : Nat) (z : Nat → Int × Int × Int) (w : World) (hn : n ≤ 30) (hA : Rd3 w A n z) : Calls Try.prog 13 #[.slice A n c] w fun e w' => (AllOk z n → e = .returned (.bool true)) ∧ (¬ AllOk z n → e = .returned (.bool false)) ∧ Below w.heap.size w w' := by
  have HA := Lib.hid hA
  clear hA
  go_enter Try.func13, Try.ntmps13
  go_wp2_with fail
  go_loopw [7] (fun v7 W => ∃ (i : Nat), i ≤ n ∧ v7 = .int .i64 i ∧ Hid (∀ j, j < i → TaskOk (z j)) ∧ Hid (Below w.heap.size w W)) (fun v7 _ => n - (intOf v7).toNat)
  case atStart => exact ⟨0, by omega, rfl, fun j hj => by omega, Below.refl _ _⟩
  case round =>
    obtain ⟨i, hi, rfl, HO, HB⟩ := hrel
    by_cases hlt : i < n
    · obtain ⟨b0, off, rfl, hcell⟩ := HA.out (by omega)
      obtain ⟨⟨g0, g1, g2⟩, f0, f1, f2⟩ := hcell i hlt
      have hblk : b0 < w.heap.size := World.block_lt_of_cell? w _ g0
      have k0 : wr.cell? ⟨b0, off + i * 3, none⟩ = some (.int .i64 (z i).1) := (HB.out.cell (p := ⟨b0, off + i * 3, none⟩) hblk).trans g0
      have k1 : wr.cell? ⟨b0, off + i * 3 + 1, none⟩ = some (.int .i64 (z i).2.1) := (HB.out.cell (p := ⟨b0, off + i * 3 + 1, none⟩) hblk).trans g1
      have k2 : wr.cell? ⟨b0, off + i * 3 + 2, none⟩ = some (.int .i64 (z i).2.2) := (HB.out.cell (p := ⟨b0, off + i * 3 + 2, none⟩) hblk).trans g2
      have HC := Lib.hid hcell
      by_cases hok : TaskOk (z i)
      · have HO2 := Lib.hid (show ∀ j, j < i + 1 → TaskOk (z j) from fun j hj => by
          rcases Nat.lt_or_ge j i with h | h
          · exact HO.out j h
          · obtain rfl : j = i := by omega
            exact hok)
        unfold TaskOk at hok
        obtain ⟨p1, p2, p3, p4, p5, p6⟩ := hok
        obtain ⟨x0, hx0⟩ : ∃ x, (z i).1 = x := ⟨_, rfl⟩
        obtain ⟨x1, hx1⟩ : ∃ x, (z i).2.1 = x := ⟨_, rfl⟩
        obtain ⟨x2, hx2⟩ : ∃ x, (z i).2.2 = x := ⟨_, rfl⟩
        rw [hx0] at k0 p1 p2 p4
        rw [hx1] at k1 p3 p4
        rw [hx2] at k2 p5 p6
        clear hcell g0 g1 g2 f0 f1 f2 hx0 hx1 hx2
        go_wp2
        refine ⟨⟨i + 1, by omega, by simp, HO2.out, HB.out.alloc HB.out.size _⟩, by simp [intOf]; omega⟩
      · have HN := Lib.hid (show ¬ AllOk z n from fun h => hok (h.1 i hlt))
        unfold TaskOk at hok
        obtain ⟨x0, hx0⟩ : ∃ x, (z i).1 = x := ⟨_, rfl⟩
        obtain ⟨x1, hx1⟩ : ∃ x, (z i).2.1 = x := ⟨_, rfl⟩
        obtain ⟨x2, hx2⟩ : ∃ x, (z i).2.2 = x := ⟨_, rfl⟩
        rw [hx0] at k0 hok
        rw [hx1] at k1 hok
        rw [hx2] at k2 hok
        clear hcell g0 g1 g2 f0 f1 f2 hx0 hx1 hx2
        rcases (show x0 < 1 ∨ (1 ≤ x0 ∧ 1000 < x0) ∨ ((1 ≤ x0 ∧ x0 ≤ 1000) ∧ x1 < 1) ∨ ((1 ≤ x0 ∧ x0 ≤ 1000) ∧ 1 ≤ x1 ∧ x0 < x1) ∨ ((1 ≤ x0 ∧ x0 ≤ 1000) ∧ (1 ≤ x1 ∧ x1 ≤ x0) ∧ x2 < 0) ∨ ((1 ≤ x0 ∧ x0 ≤ 1000) ∧ (1 ≤ x1 ∧ x1 ≤ x0) ∧ 0 ≤ x2 ∧ 1000 < x2) by omega) with h | h | h | h | h | h
        all_goals
          clear hok
          go_wp2
          go_ret
          exact ⟨fun h => absurd h HN.out, fun _ => rfl, HB.out.alloc HB.out.size _⟩
    · obtain rfl : i = n := by omega
      by_cases hn1 : 1 ≤ i ∧ i ≤ 16
      · have HY := Lib.hid (show AllOk z i from ⟨HO.out, hn1.1, hn1.2⟩)
        obtain ⟨q1, q2⟩ := hn1
        go_wp2
        go_ret
        exact ⟨fun _ => by first | rfl | (simp; omega), fun h => absurd HY.out h, HB.out⟩
      · have HN := Lib.hid (show ¬ AllOk z i from fun h => hn1 ⟨h.2.1, h.2.2⟩)
        rcases (show i < 1 ∨ (1 ≤ i ∧ 16 < i) by omega) with h | h
        all_goals
          clear hn1
          go_wp2
          go_ret
          exact ⟨fun h => absurd h HN.out, fun _ => by first | rfl | (simp; omega), HB.out⟩
end Go.Proofs.Ytdbaeigbejcobaa.Dl
