import Derived.Test.YtdbaeigbejcobaaDlLoads
namespace Go.Proofs.Ytdbaeigbejcobaa.Dl
open Go.RowKit
set_option linter.unusedVariables false
set_option linter.unusedSimpArgs false
theorem rd_after {w w' : World} {A : Option Addr} {n : Nat} {z : Nat → Int × Int × Int} (h : Rd3 w A n z) (hb : Below w.heap.size w w') : Rd3 w' A n z := rd3_below h hb
set_option maxRecDepth 100000 in
set_option maxHeartbeats 4000000 in
theorem loads_mid (A : Option Addr) (n c : Nat) (z : Nat → Int × Int × Int) (w : World) (hA : Rd3 w A n z) (h : AllOk z n) (h9 : lc (per z) n ≤ 1000000000) (h2 : 20000 < lc (per z) n) : Calls Try.prog 4 #[.slice A n c] w (Tr w) := by
  have CF := Lib.hid fixed_at
  have hn : n ≤ 16 := h.2.2
  have C1 := Lib.hid (fun W k => (right_at A n c z W (by omega) k).mono fun e w' (q : _ ∧ _ ∧ _) => (show e = .returned (.bool true) ∧ Below W.heap.size W w' from ⟨q.1 h, q.2.2⟩))
  have hcb := cost_bd (P := fun i => (z i).1) (C := fun i => (z i).2.1) (k := (lc (per z) n : Int)) (n := n) (by omega) (fun i hi => by have := h.1 i hi; unfold TaskOk at this; show 1 ≤ (z i).1 ∧ 0 ≤ (z i).2.1 ∧ (z i).2.1 ≤ (z i).1; omega) n (Nat.le_refl _)
  obtain ⟨l, hl⟩ : ∃ l, lc (per z) n = l := ⟨_, rfl⟩
  obtain ⟨m, hm⟩ : ∃ m, cost (fun i => (z i).1) (fun i => (z i).2.1) (lc (per z) n) n = m := ⟨_, rfl⟩
  have C2 := Lib.hid (fun W k => (cycle_yes A n c z W k h).mono fun e w' (q : _ ∧ _ ∧ _) => (show e = .returned (.tuple #[.int .i64 (lc (per z) n), .bool true]) ∧ Below W.heap.size W w' from ⟨q.1 h9, q.2.2⟩))
  have C3 := Lib.hid (fun W k => load_yes A n c z W k h h9)
  have C4 := Lib.hid (fun W k => fits_some A n c _ _ W (Lib.hid (load_yes A n c z W k h h9)))
  have HM := Lib.hid hm
  have HLL := Lib.hid hl
  rw [hm] at C3 C4
  rw [hl] at C2 C3 C4 h9 h2
  have HA := Lib.hid hA
  have HO := Lib.hid h.1
  have HD := Lib.hid (fun i (hi : i < n) => lc_dvd (z := per z) n i hi)
  clear hA h hl hm hcb
  go_enter Try.func4, Try.ntmps4
  go_wp2_with (first
    | (go_at_call 10; refine (CF.out _).mono ?_; clear CF; rintro e w1 ⟨rfl, hb⟩; have HB1 := Lib.hid hb; have HA1 := Lib.hid (rd3_below HA.out hb); clear hb)
    | (go_at_call 13; refine (C1.out _ HA1.out).mono ?_; clear C1; rintro e w2 ⟨rfl, hb⟩; have HB2 := Lib.hid (below_tr HB1.out hb); have HA2 := Lib.hid (rd3_below HA1.out hb); clear HB1 HA1 hb)
    | (go_at_call 14; refine (C2.out _ HA2.out).mono ?_; clear C2; rintro e w3 ⟨rfl, hb⟩; have HB3 := Lib.hid (below_tr HB2.out hb); have HA3 := Lib.hid (rd3_below HA2.out hb); clear HB2 HA2 hb)
    | (go_at_call 16; refine (C3.out _ HA3.out).mono ?_; clear C3; rintro e w4 ⟨rfl, hb⟩; have HB4 := Lib.hid (below_tr HB3.out hb); have HA4 := Lib.hid (rd3_below HA3.out hb); clear HB3 HA3 hb)
    | fail)
  go_loopw [8] (fun v8 W => ∃ (k : Nat), 1 ≤ k ∧ k ≤ 20001 ∧ v8 = .int .i64 k ∧ Hid (Below w.heap.size w W)) (fun v8 _ => 20001 - (intOf v8).toNat)
  case atStart => exact ⟨1, by omega, by omega, rfl, HB4.out⟩
  case round =>
    clear HB4
    clear HA4
    obtain ⟨k, hk1, hk2, rfl, HB⟩ := hrel
    rename World => wk
    by_cases hk : k ≤ 20000
    · have hab : ab z k n = false := by
        cases hb : ab z k n with
        | false => rfl
        | true =>
          have := Nat.le_of_dvd (by omega) (ab_iff.1 hb)
          have := HLL.out
          omega
      have HAB := Lib.hid hab
      clear hab
      go_wp2_with fail
      go_loopw [9, 67] (fun v9 v67 W => ∃ (i : Nat), i ≤ n ∧ v67 = .int .i64 i ∧ v9 = .bool (ab z k i) ∧ Hid (Below w.heap.size w W)) (fun _ v67 _ => n - (intOf v67).toNat)
      case atStart => exact ⟨0, by omega, rfl, rfl, HB.out⟩
      case round =>
        clear HB
        obtain ⟨i, hi, rfl, rfl, HB⟩ := hrel
        rename World => wo
        by_cases hlt : i < n
        · obtain ⟨b0, off, rfl, hcell⟩ := HA.out (by omega)
          obtain ⟨⟨g0, g1, g2⟩, _⟩ := hcell i hlt
          have hblk : b0 < w.heap.size := World.block_lt_of_cell? w _ g0
          have k0 : wo.cell? ⟨b0, off + i * 3, none⟩ = some (.int .i64 (z i).1) := (HB.out.cell (p := ⟨b0, off + i * 3, none⟩) hblk).trans g0
          have k1 : wo.cell? ⟨b0, off + i * 3 + 1, none⟩ = some (.int .i64 (z i).2.1) := (HB.out.cell (p := ⟨b0, off + i * 3 + 1, none⟩) hblk).trans g1
          have k2 : wo.cell? ⟨b0, off + i * 3 + 2, none⟩ = some (.int .i64 (z i).2.2) := (HB.out.cell (p := ⟨b0, off + i * 3 + 2, none⟩) hblk).trans g2
          have HC := Lib.hid hcell
          have hto := HO.out i hlt
          have hpe : (z i).1 = (per z i : Nat) := by have := hto.1; unfold per; omega
          have hp1 : 1 ≤ per z i ∧ per z i ≤ 1000 := by have h1 := hto.1; have h2 := hto.2.1; unfold per; omega
          rw [hpe] at k0
          obtain ⟨x1, hx1⟩ : ∃ x, (z i).2.1 = x := ⟨_, rfl⟩
          obtain ⟨x2, hx2⟩ : ∃ x, (z i).2.2 = x := ⟨_, rfl⟩
          rw [hx1] at k1
          rw [hx2] at k2
          have hst : ab z k (i + 1) = (ab z k i && decide (k % per z i = 0)) := rfl
          obtain ⟨p, hp⟩ : ∃ p, per z i = p := ⟨_, rfl⟩
          rw [hp] at k0 hp1 hst
          obtain ⟨hp1, hp2⟩ := hp1
          have hpz : ¬ (p : Int) = 0 := by omega
          have hpz2 : ¬ p = 0 := by omega
          cases hbb : ab z k i with
          | false =>
            rw [hbb, Bool.false_and] at hst
            have HST := Lib.hid hst
            clear hst hbb hpe hto hx1 hx2 hcell g0 g1 g2 hp
            go_wp2
            exact ⟨⟨i + 1, by omega, by simp, by rw [HST.out], HB.out.alloc HB.out.size _⟩, by simp [intOf]; omega⟩
          | true =>
            rw [hbb, Bool.true_and] at hst
            obtain ⟨y, hy⟩ : ∃ y, k % p = y := ⟨_, rfl⟩
            have hy1 : y < p := by rw [← hy]; exact Nat.mod_lt _ (by omega)
            have hy2 : (k : Int) % (p : Int) = (y : Int) := by rw [← Int.natCast_emod, hy]
            rw [hy] at hst
            have hw1 : IntKind.i64.wrap ((k : Int).tmod (p : Int)) = (y : Int) := by rw [Int.tmod_eq_emod_of_nonneg (by omega), hy2]; exact iw (by omega) (by omega)
            by_cases hy0 : y = 0
            · subst hy0
              have HST := Lib.hid hst
              clear hst hbb hpe hto hx1 hx2 hcell g0 g1 g2 hp hy
              go_wp2
              exact ⟨⟨i + 1, by omega, by simp, by rw [HST.out]; rfl, HB.out.alloc HB.out.size _⟩, by simp [intOf]; omega⟩
            · rw [decide_eq_false hy0] at hst
              have HST := Lib.hid hst
              have hyi : ¬ (y : Int) = 0 := by omega
              clear hst hbb hpe hto hx1 hx2 hcell g0 g1 g2 hp hy
              go_wp2
              exact ⟨⟨i + 1, by omega, by simp, by rw [HST.out]; congr 1; simpa using hyi, HB.out.alloc HB.out.size _⟩, by simp [intOf]; omega⟩
        · obtain rfl : i = n := by omega
          rw [HAB.out]
          go_wp2
          exact ⟨⟨k + 1, by omega, by omega, by simp, HB.out⟩, by simp [intOf]; omega⟩
    · obtain rfl : k = 20001 := by omega
      have HB4 := HB
      clear HB
      go_wp2_with fail
      go_loopw [126] (fun v126 W => ∃ (i : Nat), i ≤ n ∧ v126 = .int .i64 i ∧ Hid (Below w.heap.size w W)) (fun v126 _ => n - (intOf v126).toNat)
      case atStart => exact ⟨0, by omega, rfl, HB4.out⟩
      case round =>
        clear HB4
        obtain ⟨i, hi, rfl, HB⟩ := hrel
        rename World => wo
        by_cases hlt : i < n
        · obtain ⟨b0, off, rfl, hcell⟩ := HA.out (by omega)
          obtain ⟨⟨g0, g1, g2⟩, _⟩ := hcell i hlt
          have hblk : b0 < w.heap.size := World.block_lt_of_cell? w _ g0
          have k0 : wo.cell? ⟨b0, off + i * 3, none⟩ = some (.int .i64 (z i).1) := (HB.out.cell (p := ⟨b0, off + i * 3, none⟩) hblk).trans g0
          have k1 : wo.cell? ⟨b0, off + i * 3 + 1, none⟩ = some (.int .i64 (z i).2.1) := (HB.out.cell (p := ⟨b0, off + i * 3 + 1, none⟩) hblk).trans g1
          have k2 : wo.cell? ⟨b0, off + i * 3 + 2, none⟩ = some (.int .i64 (z i).2.2) := (HB.out.cell (p := ⟨b0, off + i * 3 + 2, none⟩) hblk).trans g2
          have HC := Lib.hid hcell
          have hto := HO.out i hlt
          have hpe : (z i).1 = (per z i : Nat) := by have := hto.1; unfold per; omega
          have hp1 : 1 ≤ per z i ∧ per z i ≤ 1000 := by have h1 := hto.1; have h2 := hto.2.1; unfold per; omega
          rw [hpe] at k0
          obtain ⟨x1, hx1⟩ : ∃ x, (z i).2.1 = x := ⟨_, rfl⟩
          obtain ⟨x2, hx2⟩ : ∃ x, (z i).2.2 = x := ⟨_, rfl⟩
          rw [hx1] at k1
          rw [hx2] at k2
          have hdv := HD.out i hlt
          rw [HLL.out] at hdv
          obtain ⟨p, hp⟩ : ∃ p, per z i = p := ⟨_, rfl⟩
          rw [hp] at k0 hp1 hdv
          obtain ⟨hp1, hp2⟩ := hp1
          have hpz : ¬ (p : Int) = 0 := by omega
          have hpz2 : ¬ p = 0 := by omega
          have hy2 : (l : Int) % (p : Int) = 0 := by rw [← Int.natCast_emod, Nat.mod_eq_zero_of_dvd hdv]; rfl
          have hw1 : IntKind.i64.wrap ((l : Int).tmod (p : Int)) = 0 := by rw [Int.tmod_eq_emod_of_nonneg (by omega), hy2]; exact iw (by omega) (by omega)
          clear hpe hto hx1 hx2 hcell g0 g1 g2 hp hdv
          go_wp2
          exact ⟨⟨i + 1, by omega, by simp, HB.out.alloc HB.out.size _⟩, by simp [intOf]; omega⟩
        · obtain rfl : i = n := by omega
          have HA5 := Lib.hid (rd_after HA.out HB.out)
          go_wp2_with (first
            | (go_at_call 15; refine (C4.out _ HA5.out).mono ?_; clear C4; rintro e w5 ⟨rfl, hb⟩; have HB5 := Lib.hid (below_tr HB.out hb); clear HA5 hb)
            | fail)
          go_ret
          exact ⟨rfl, HB5.out⟩
end Go.Proofs.Ytdbaeigbejcobaa.Dl
