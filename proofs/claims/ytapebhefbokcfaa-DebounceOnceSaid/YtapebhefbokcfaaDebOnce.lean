import Derived.Test.YtapebhefbokcfaaDebWalks4
import Derived.ProofKit
namespace Go.Proofs.Ytapebhefbokcfaa.DebW
open Go.RowKit
set_option linter.unusedSimpArgs false
set_option linter.unusedVariables false
abbrev Tr (w : World) (e : Ending) (w' : World) : Prop := e = .returned (.bool true) ∧ Below w.heap.size w w'
/-- A slice of bytes that is read. -/
def Rd8 (w : World) (A : Option Addr) (n : Nat) (g : Nat → Int) : Prop := (∀ j, 0 ≤ g j ∧ g j ≤ 255) ∧ (0 < n → ∃ b off, A = some ⟨b, off, none⟩ ∧ ∀ j, j < n → w.cell? ⟨b, off + j, none⟩ = some (.int .u8 (g j)))
/-- What holds of the filter behind k gaps. -/
def OnceI (q m : Int) (k : Nat) (N F T P L S : Int) : Prop := 0 ≤ N ∧ N ≤ 255 * k ∧ 0 ≤ P ∧ S + P = k ∧ 0 ≤ S ∧ -1 ≤ L ∧ L ≤ N ∧ (k = 0 → P = 0) ∧ (0 < k → 0 < P) ∧ (P = 0 → F = 0 ∧ T = 0 ∧ L = -1) ∧ (0 < P → L < F ∧ F ≤ N ∧ T = N ∧ (0 < m → N < F + m))
theorem once_new {q m : Int} {k : Nat} {N F T L S x : Int} (h : OnceI q m k N F T 0 L S) (h0 : 0 ≤ x) (h1 : x ≤ 255) : OnceI q m (k + 1) (N + x) (N + x) (N + x) 1 L S := by
  obtain ⟨i1, i2, i3, i4, i5, i6, i7, i8, i9, i10, i11⟩ := h
  have := i10 rfl
  unfold OnceI
  refine ⟨?_, ?_, ?_, ?_, ?_, ?_, ?_, ?_, ?_, ?_, ?_⟩ <;> omega
theorem once_wait {q m : Int} {k : Nat} {N F T P L S x : Int} (h : OnceI q m k N F T P L S) (hP : 0 < P) (h0 : 0 ≤ x) (h1 : x ≤ 255) (he : N + x < endAt q m F T) : OnceI q m (k + 1) (N + x) F (N + x) (P + 1) L S := by
  obtain ⟨i1, i2, i3, i4, i5, i6, i7, i8, i9, i10, i11⟩ := h
  have := i11 hP
  have hm : 0 < m → N + x < F + m := by
    intro hm
    unfold endAt at he
    rw [if_pos hm] at he
    split at he <;> omega
  unfold OnceI
  refine ⟨?_, ?_, ?_, ?_, ?_, ?_, ?_, ?_, ?_, ?_, ?_⟩ <;> omega
theorem once_end {q m : Int} {k : Nat} {N F T P L S x : Int} (h : OnceI q m k N F T P L S) (hq : 1 ≤ q) (hP : 0 < P) (h0 : 0 ≤ x) (h1 : x ≤ 255) (he : endAt q m F T ≤ N + x) : OnceI q m (k + 1) (N + x) (N + x) (N + x) 1 T (S + P) ∧ T < endAt q m F T ∧ (0 < m → endAt q m F T ≤ F + m) := by
  obtain ⟨i1, i2, i3, i4, i5, i6, i7, i8, i9, i10, i11⟩ := h
  have := i11 hP
  have h3 : T < endAt q m F T := by unfold endAt; (repeat' split) <;> omega
  have h4 : 0 < m → endAt q m F T ≤ F + m := by intro hm; unfold endAt; rw [if_pos hm]; split <;> omega
  refine ⟨?_, h3, h4⟩
  unfold OnceI
  refine ⟨?_, ?_, ?_, ?_, ?_, ?_, ?_, ?_, ?_, ?_, ?_⟩ <;> omega
theorem poke_end_at {b : Nat} {q m now F T P N en : Int} (w : World) (t : Int) (h : FS b q m now F T P w) (hb : Bd q m now F T P) (hP : 0 < P) (hN : nowAt now t = N) (hen : endAt q m F T = en) (he : en ≤ N) :
    Calls Try.prog 15 #[ptr b, .int .i64 t] w fun e w' => e = .returned (.tuple #[bu F T P en, .bool true]) ∧ FS b q m N N N 1 w' ∧ G b w w' := hen ▸ hN ▸ poke_end w t h hb hP (by rw [hN, hen]; exact he)
theorem poke_wait_at {b : Nat} {q m now F T P N : Int} (w : World) (t : Int) (h : FS b q m now F T P w) (hb : Bd q m now F T P) (hP : 0 < P) (hN : nowAt now t = N) (he : N < endAt q m F T) :
    Calls Try.prog 15 #[ptr b, .int .i64 t] w fun e w' => e = .returned (.tuple #[zb, .bool false]) ∧ FS b q m N F N (P + 1) w' ∧ G b w w' := hN ▸ poke_wait w t h hb hP (by rw [hN]; exact he)
theorem poke_new_at {b : Nat} {q m now F T N : Int} (w : World) (t : Int) (h : FS b q m now F T 0 w) (hnow : 0 ≤ now ∧ now ≤ 1152921504606846976) (hN : nowAt now t = N) :
    Calls Try.prog 15 #[ptr b, .int .i64 t] w fun e w' => e = .returned (.tuple #[zb, .bool false]) ∧ FS b q m N N N 1 w' ∧ G b w w' := hN ▸ poke_new w t h hnow

set_option maxHeartbeats 8000000 in
set_option maxRecDepth 100000 in
theorem once_m (qz mz : Int) (A : Option Addr) (n c : Nat) (g : Nat → Int) (w : World) (hq : 0 ≤ qz ∧ qz ≤ 255) (hm : 0 < mz ∧ mz ≤ 255) (hn : n ≤ 200) (hA : Rd8 w A n g) :
    Calls Try.prog 4 #[.int .u8 qz, .int .u8 mz, .slice A n c] w (Tr w) := by
  obtain ⟨hq1, hq2⟩ := hq
  obtain ⟨hm1, hm2⟩ := hm
  obtain ⟨hg, hA⟩ := hA
  have HA := Lib.hid hA
  clear hA
  go_enter Try.func4, Try.ntmps4
  go_wp2_with (first
    | (go_at_call 10; refine (fixed_any _).mono ?_; rintro e w1 ⟨rfl, hb⟩; have HB1 := Lib.hid hb; clear hb)
    | (go_at_call 11; refine (new_ok _ _ _ (by unfold NewOk; omega)).mono ?_; rintro e w2 ⟨rfl, hfs, hb⟩; have HF := Lib.hid hfs; have HB := Lib.hid (HB1.out.trans (hb.mono HB1.out.size)); have hzb : w.heap.size ≤ w1.heap.size := HB1.out.size; clear hfs hb)
    | fail)
  have hqb : 1 ≤ 1 + qz ∧ 1 + qz ≤ 256 := by omega
  have hmb : 1 + qz < 1 + qz + mz ∧ 1 + qz + mz ≤ 511 := by omega
  generalize 1 + qz + mz = m at *
  generalize 1 + qz = q at *
  generalize w1.heap.size = fb at *
  obtain ⟨hq3, hq4⟩ := hqb
  obtain ⟨hm3, hm4⟩ := hmb
  have hfz := HF.out.2.2.2.2.2.2.2.2.2.2.2.2
  go_loopw [10, 11, 12, 38] (fun v10 v11 v12 v38 W => ∃ (k : Nat) (N F T P L S : Int), k ≤ n ∧ v10 = .int .i64 N ∧ v11 = .int .i64 S ∧ v12 = .int .i64 L ∧ v38 = .int .i64 k ∧ Hid (OnceI q m k N F T P L S) ∧ Hid (FS fb q m N F T P W) ∧ Hid (Below w.heap.size w W)) (fun _ _ _ v38 _ => n - (intOf v38).toNat)
  case atStart => exact ⟨0, 0, 0, 0, 0, -1, 0, by omega, rfl, rfl, rfl, rfl, by unfold OnceI; refine ⟨?_, ?_, ?_, ?_, ?_, ?_, ?_, ?_, ?_, ?_, ?_⟩ <;> omega, HF.out, HB.out⟩
  case round =>
    obtain ⟨k, N, F, T, P, L, S, hk, rfl, rfl, rfl, rfl, HI, HFS, HBB⟩ := hrel
    obtain ⟨i1, i2, i3, i4, i5, i6, i7, i8, i9, i10, i11⟩ := HI.out
    have hTb : 0 ≤ T ∧ T ≤ N ∧ 0 ≤ F ∧ F ≤ N := by
      by_cases hP : P = 0
      · have := i10 hP; omega
      · have := i11 (by omega); omega
    have HBd := Lib.hid (show Bd q m N F T P by unfold Bd; omega)
    by_cases hlt : k < n
    · obtain ⟨b0, off, rfl, hcell⟩ := HA.out (by omega)
      obtain ⟨x, hx⟩ : ∃ x, x = g k := ⟨_, rfl⟩
      have hgk := hg k
      rw [← hx] at hgk
      obtain ⟨hx1, hx2⟩ := hgk
      have hblk : b0 < w.heap.size := World.block_lt_of_cell? w _ (hcell 0 (by omega))
      have hcx : wr.cell? ⟨b0, off + k, none⟩ = some (.int .u8 x) := by rw [hx]; exact ((bcell HBB.out).1 b0 (off + k) hblk).trans (hcell k hlt)
      have HX := Lib.hid hx
      have HC := Lib.hid hcell
      have hNA : nowAt N (N + x) = N + x := by unfold nowAt; (repeat' split) <;> omega
      have HNA := Lib.hid hNA
      have hSb : S ≤ 200 := by omega
      have hPb : P ≤ 200 := by omega
      clear hx hcell hNA hg i4 i8 i9 i10 i11
      have HPB := Lib.hid hTb
      by_cases hP : P = 0
      · subst hP
        go_wp2_with (first | (go_at_call 15; refine (poke_new_at (b := fb) (q := q) (m := m) (now := N) (F := F) (T := T) (N := N + x) _ _ HFS.out (by omega) HNA.out).mono ?_; rintro e w3 ⟨rfl, hfs, hg⟩; have HB2 := Lib.hid (g_new HBB.out (by omega) hg); have HF2 := Lib.hid hfs; clear hfs hg) | fail)
        go_roundw
        case rel => exact ⟨k + 1, _, _, _, _, _, _, by omega, rfl, rfl, rfl, by go_num, once_new HI.out hx1 hx2, fs_alloc _ HF2.out, HB2.out.alloc HB2.out.size _⟩
        case measure => simp [intOf]; omega
      · have hP0 : 0 < P := by omega
        clear hP
        by_cases he : N + x < endAt q m F T
        · have HE := Lib.hid he
          clear he
          go_wp2_with (first | (go_at_call 15; refine (poke_wait_at (b := fb) (q := q) (m := m) (now := N) (F := F) (T := T) (P := P) (N := N + x) _ _ HFS.out HBd.out hP0 HNA.out HE.out).mono ?_; rintro e w3 ⟨rfl, hfs, hg⟩; have HB2 := Lib.hid (g_new HBB.out (by omega) hg); have HF2 := Lib.hid hfs; clear hfs hg) | fail)
          go_roundw
          case rel => exact ⟨k + 1, _, _, _, _, _, _, by omega, rfl, rfl, rfl, by go_num, once_wait HI.out hP0 hx1 hx2 HE.out, fs_alloc _ HF2.out, HB2.out.alloc HB2.out.size _⟩
          case measure => simp [intOf]; omega
        · have hS := once_end HI.out (by omega) hP0 hx1 hx2 (by omega)
          have hFL := HI.out.2.2.2.2.2.2.2.2.2.2 hP0
          obtain ⟨en, hen⟩ : ∃ en, endAt q m F T = en := ⟨_, rfl⟩
          rw [hen] at hS he
          obtain ⟨hS1, hS2, hS3⟩ := hS
          obtain ⟨hl1, hl2, hl3, hl4⟩ := hFL
          have HS1 := Lib.hid hS1
          have HEN := Lib.hid hen
          have HL3 := Lib.hid hl3
          have hle : en ≤ N + x := by omega
          have HW := Lib.hid (show IntKind.i64.wrap (S + P) = S + P from iw (by omega) (by omega))
          have hTF : F ≤ T := by omega
          have hP1 : 1 ≤ P := hP0
          have hl5 : en ≤ F + m := hS3 (by omega)
          clear he hS1 hen hl3 hl4 hS3
          go_wp2_with (first | (go_at_call 15; refine (poke_end_at (b := fb) (q := q) (m := m) (now := N) (F := F) (T := T) (P := P) (N := N + x) (en := en) _ _ HFS.out HBd.out hP0 HNA.out HEN.out hle).mono ?_; rintro e w3 ⟨rfl, hfs, hg⟩; have HB2 := Lib.hid (g_new HBB.out (by omega) hg); have HF2 := Lib.hid hfs; clear hfs hg) | fail)
          have hw := HW.out
          go_quiet (fail)
          clear hw
          go_wp2
          go_roundw
          case rel => exact ⟨k + 1, _, _, _, _, _, _, by omega, rfl, rfl, rfl, by go_num, HS1.out, fs_drewN _ (fs_alloc _ HF2.out), below_drewN (HB2.out.alloc HB2.out.size _) _⟩
          case measure => simp [intOf]; omega
    · obtain rfl : k = n := by omega
      have HPB := Lib.hid hTb
      by_cases hP : P = 0
      · have hk0 : k = 0 := by
          rcases Nat.eq_zero_or_pos k with h | h
          · exact h
          · have := i9 h; omega
        subst hP hk0
        have hS0 : S = 0 := by omega
        subst hS0
        go_wp2_with (first | (go_at_call 12; refine (flush_none (b := fb) (q := q) (m := m) (now := N) (F := F) (T := T) _ HFS.out).mono ?_; rintro e w3 ⟨rfl, hfs, hg⟩; have HB2 := Lib.hid (g_new HBB.out (by omega) hg); have HF2 := Lib.hid hfs; clear hfs hg) | (go_at_call 16; refine (count_at (b := fb) (P := 0) _ (fs_alloc _ HF2.out)).mono ?_; rintro e w4 ⟨rfl, rfl⟩) | fail)
        go_ret
        exact ⟨rfl, HB2.out.alloc HB2.out.size _⟩
      · have hP0 : 0 < P := by omega
        have hk0 : 0 < k := by
          rcases Nat.eq_zero_or_pos k with h | h
          · have := i8 h; omega
          · exact h
        have hSP : S = (k : Int) - P := by omega
        have hk1 : (0 : Int) < (k : Int) := by omega
        subst hSP
        have hb1 : -1 ≤ (k : Int) - P := by omega
        have e1 : ((k : Int) - P + P == (k : Int)) = true := by rw [beq_iff_eq]; omega
        clear hP
        go_wp2_with (first | (go_at_call 12; refine (flush_some (b := fb) (q := q) (m := m) (now := N) (F := F) (T := T) (P := P) _ HFS.out hP0).mono ?_; rintro e w3 ⟨rfl, hfs, hg⟩; have HB2 := Lib.hid (g_new HBB.out (by omega) hg); have HF2 := Lib.hid hfs; clear hfs hg) | (go_at_call 16; refine (count_at (b := fb) (P := 0) _ (fs_alloc _ HF2.out)).mono ?_; rintro e w4 ⟨rfl, rfl⟩) | fail)
        go_ret
        exact ⟨by first | rfl | (simp; omega), HB2.out.alloc HB2.out.size _⟩

set_option maxHeartbeats 8000000 in
set_option maxRecDepth 100000 in
theorem once_0 (qz : Int) (A : Option Addr) (n c : Nat) (g : Nat → Int) (w : World) (hq : 0 ≤ qz ∧ qz ≤ 255) (hn : n ≤ 200) (hA : Rd8 w A n g) :
    Calls Try.prog 4 #[.int .u8 qz, .int .u8 0, .slice A n c] w (Tr w) := by
  obtain ⟨hq1, hq2⟩ := hq
  obtain ⟨hg, hA⟩ := hA
  have HA := Lib.hid hA
  clear hA
  go_enter Try.func4, Try.ntmps4
  go_wp2_with (first
    | (go_at_call 10; refine (fixed_any _).mono ?_; rintro e w1 ⟨rfl, hb⟩; have HB1 := Lib.hid hb; clear hb)
    | (go_at_call 11; refine (new_ok _ _ _ (by unfold NewOk; omega)).mono ?_; rintro e w2 ⟨rfl, hfs, hb⟩; have HF := Lib.hid hfs; have HB := Lib.hid (HB1.out.trans (hb.mono HB1.out.size)); have hzb : w.heap.size ≤ w1.heap.size := HB1.out.size; clear hfs hb)
    | fail)
  have hqb : 1 ≤ 1 + qz ∧ 1 + qz ≤ 256 := by omega
  generalize 1 + qz = q at *
  generalize w1.heap.size = fb at *
  obtain ⟨hq3, hq4⟩ := hqb
  have hfz := HF.out.2.2.2.2.2.2.2.2.2.2.2.2
  go_loopw [10, 11, 12, 38] (fun v10 v11 v12 v38 W => ∃ (k : Nat) (N F T P L S : Int), k ≤ n ∧ v10 = .int .i64 N ∧ v11 = .int .i64 S ∧ v12 = .int .i64 L ∧ v38 = .int .i64 k ∧ Hid (OnceI q 0 k N F T P L S) ∧ Hid (FS fb q 0 N F T P W) ∧ Hid (Below w.heap.size w W)) (fun _ _ _ v38 _ => n - (intOf v38).toNat)
  case atStart => exact ⟨0, 0, 0, 0, 0, -1, 0, by omega, rfl, rfl, rfl, rfl, by unfold OnceI; refine ⟨?_, ?_, ?_, ?_, ?_, ?_, ?_, ?_, ?_, ?_, ?_⟩ <;> omega, HF.out, HB.out⟩
  case round =>
    obtain ⟨k, N, F, T, P, L, S, hk, rfl, rfl, rfl, rfl, HI, HFS, HBB⟩ := hrel
    obtain ⟨i1, i2, i3, i4, i5, i6, i7, i8, i9, i10, i11⟩ := HI.out
    have hTb : 0 ≤ T ∧ T ≤ N ∧ 0 ≤ F ∧ F ≤ N := by
      by_cases hP : P = 0
      · have := i10 hP; omega
      · have := i11 (by omega); omega
    have HBd := Lib.hid (show Bd q 0 N F T P by unfold Bd; omega)
    by_cases hlt : k < n
    · obtain ⟨b0, off, rfl, hcell⟩ := HA.out (by omega)
      obtain ⟨x, hx⟩ : ∃ x, x = g k := ⟨_, rfl⟩
      have hgk := hg k
      rw [← hx] at hgk
      obtain ⟨hx1, hx2⟩ := hgk
      have hblk : b0 < w.heap.size := World.block_lt_of_cell? w _ (hcell 0 (by omega))
      have hcx : wr.cell? ⟨b0, off + k, none⟩ = some (.int .u8 x) := by rw [hx]; exact ((bcell HBB.out).1 b0 (off + k) hblk).trans (hcell k hlt)
      have HX := Lib.hid hx
      have HC := Lib.hid hcell
      have hNA : nowAt N (N + x) = N + x := by unfold nowAt; (repeat' split) <;> omega
      have HNA := Lib.hid hNA
      have hSb : S ≤ 200 := by omega
      have hPb : P ≤ 200 := by omega
      clear hx hcell hNA hg i4 i8 i9 i10 i11
      have HPB := Lib.hid hTb
      by_cases hP : P = 0
      · subst hP
        go_wp2_with (first | (go_at_call 15; refine (poke_new_at (b := fb) (q := q) (m := 0) (now := N) (F := F) (T := T) (N := N + x) _ _ HFS.out (by omega) HNA.out).mono ?_; rintro e w3 ⟨rfl, hfs, hg⟩; have HB2 := Lib.hid (g_new HBB.out (by omega) hg); have HF2 := Lib.hid hfs; clear hfs hg) | fail)
        go_roundw
        case rel => exact ⟨k + 1, _, _, _, _, _, _, by omega, rfl, rfl, rfl, by go_num, once_new HI.out hx1 hx2, fs_alloc _ HF2.out, HB2.out.alloc HB2.out.size _⟩
        case measure => simp [intOf]; omega
      · have hP0 : 0 < P := by omega
        clear hP
        by_cases he : N + x < endAt q 0 F T
        · have HE := Lib.hid he
          clear he
          go_wp2_with (first | (go_at_call 15; refine (poke_wait_at (b := fb) (q := q) (m := 0) (now := N) (F := F) (T := T) (P := P) (N := N + x) _ _ HFS.out HBd.out hP0 HNA.out HE.out).mono ?_; rintro e w3 ⟨rfl, hfs, hg⟩; have HB2 := Lib.hid (g_new HBB.out (by omega) hg); have HF2 := Lib.hid hfs; clear hfs hg) | fail)
          go_roundw
          case rel => exact ⟨k + 1, _, _, _, _, _, _, by omega, rfl, rfl, rfl, by go_num, once_wait HI.out hP0 hx1 hx2 HE.out, fs_alloc _ HF2.out, HB2.out.alloc HB2.out.size _⟩
          case measure => simp [intOf]; omega
        · have hS := once_end HI.out (by omega) hP0 hx1 hx2 (by omega)
          have hFL := HI.out.2.2.2.2.2.2.2.2.2.2 hP0
          obtain ⟨en, hen⟩ : ∃ en, endAt q 0 F T = en := ⟨_, rfl⟩
          rw [hen] at hS he
          obtain ⟨hS1, hS2, hS3⟩ := hS
          obtain ⟨hl1, hl2, hl3, hl4⟩ := hFL
          have HS1 := Lib.hid hS1
          have HEN := Lib.hid hen
          have HL3 := Lib.hid hl3
          have hle : en ≤ N + x := by omega
          have HW := Lib.hid (show IntKind.i64.wrap (S + P) = S + P from iw (by omega) (by omega))
          have hTF : F ≤ T := by omega
          have hP1 : 1 ≤ P := hP0
          clear he hS1 hen hl3 hl4 hS3
          go_wp2_with (first | (go_at_call 15; refine (poke_end_at (b := fb) (q := q) (m := 0) (now := N) (F := F) (T := T) (P := P) (N := N + x) (en := en) _ _ HFS.out HBd.out hP0 HNA.out HEN.out hle).mono ?_; rintro e w3 ⟨rfl, hfs, hg⟩; have HB2 := Lib.hid (g_new HBB.out (by omega) hg); have HF2 := Lib.hid hfs; clear hfs hg) | fail)
          have hw := HW.out
          go_quiet (fail)
          clear hw
          go_wp2
          go_roundw
          case rel => exact ⟨k + 1, _, _, _, _, _, _, by omega, rfl, rfl, rfl, by go_num, HS1.out, fs_drewN _ (fs_alloc _ HF2.out), below_drewN (HB2.out.alloc HB2.out.size _) _⟩
          case measure => simp [intOf]; omega
    · obtain rfl : k = n := by omega
      have HPB := Lib.hid hTb
      by_cases hP : P = 0
      · have hk0 : k = 0 := by
          rcases Nat.eq_zero_or_pos k with h | h
          · exact h
          · have := i9 h; omega
        subst hP hk0
        have hS0 : S = 0 := by omega
        subst hS0
        go_wp2_with (first | (go_at_call 12; refine (flush_none (b := fb) (q := q) (m := 0) (now := N) (F := F) (T := T) _ HFS.out).mono ?_; rintro e w3 ⟨rfl, hfs, hg⟩; have HB2 := Lib.hid (g_new HBB.out (by omega) hg); have HF2 := Lib.hid hfs; clear hfs hg) | (go_at_call 16; refine (count_at (b := fb) (P := 0) _ (fs_alloc _ HF2.out)).mono ?_; rintro e w4 ⟨rfl, rfl⟩) | fail)
        go_ret
        exact ⟨rfl, HB2.out.alloc HB2.out.size _⟩
      · have hP0 : 0 < P := by omega
        have hk0 : 0 < k := by
          rcases Nat.eq_zero_or_pos k with h | h
          · have := i8 h; omega
          · exact h
        have hSP : S = (k : Int) - P := by omega
        have hk1 : (0 : Int) < (k : Int) := by omega
        subst hSP
        have hb1 : -1 ≤ (k : Int) - P := by omega
        have e1 : ((k : Int) - P + P == (k : Int)) = true := by rw [beq_iff_eq]; omega
        clear hP
        go_wp2_with (first | (go_at_call 12; refine (flush_some (b := fb) (q := q) (m := 0) (now := N) (F := F) (T := T) (P := P) _ HFS.out hP0).mono ?_; rintro e w3 ⟨rfl, hfs, hg⟩; have HB2 := Lib.hid (g_new HBB.out (by omega) hg); have HF2 := Lib.hid hfs; clear hfs hg) | (go_at_call 16; refine (count_at (b := fb) (P := 0) _ (fs_alloc _ HF2.out)).mono ?_; rintro e w4 ⟨rfl, rfl⟩) | fail)
        go_ret
        exact ⟨by first | rfl | (simp; omega), HB2.out.alloc HB2.out.size _⟩

theorem once_true (qz mz : Int) (A : Option Addr) (n c : Nat) (g : Nat → Int) (w : World) (hq : 0 ≤ qz ∧ qz ≤ 255) (hm : 0 ≤ mz ∧ mz ≤ 255) (hn : n ≤ 200) (hA : Rd8 w A n g) :
    Calls Try.prog 4 #[.int .u8 qz, .int .u8 mz, .slice A n c] w (Tr w) := by
  by_cases h : mz = 0
  · subst h; exact once_0 qz A n c g w hq hn hA
  · exact once_m qz mz A n c g w hq (by omega) hn hA
theorem once_long (qz mz : Int) (A : Option Addr) (n c : Nat) (w : World) (hn : 200 < n) :
    Calls Try.prog 4 #[.int .u8 qz, .int .u8 mz, .slice A n c] w (Tr w) := by
  go_enter Try.func4, Try.ntmps4
  go_wp2_with (first | (go_at_call 10; refine (fixed_any _).mono ?_; rintro e w1 ⟨rfl, hb⟩; have HB1 := Lib.hid hb; clear hb) | fail)
  go_ret
  exact ⟨rfl, HB1.out⟩

theorem rd8_of {w : World} {a : Option Addr} {len cap : Nat} {zs : List Int} (h : (a = none ∧ len = 0 ∧ cap = 0 ∧ zs = []) ∨ ∃ x, a = some x ∧ len ≤ cap ∧ cap ≤ maxLen ∧ zs.length = cap ∧ (∀ j, j < zs.length → w.cell? (x.add j) = some (.int .u8 (zs.getD j 0))) ∧ (∀ y ∈ zs, (Lit.int .u8 y).wf = true)) :
    Rd8 w a len (fun j => zs.getD j 0) := by
  rcases h with ⟨rfl, rfl, rfl, rfl⟩ | ⟨x, rfl, h1, h2, h3, h4, h5⟩
  · exact ⟨fun j => by show 0 ≤ ([] : List Int).getD j 0 ∧ ([] : List Int).getD j 0 ≤ 255; simp, fun h => absurd h (by omega)⟩
  · refine ⟨fun j => ?_, fun h => ?_⟩
    · by_cases hj : j < zs.length
      · have := h5 (zs.getD j 0) (by rw [List.getD_eq_getElem?_getD, List.getElem?_eq_getElem hj]; exact List.getElem_mem hj)
        exact bounds_u8 this
      · show 0 ≤ zs.getD j 0 ∧ zs.getD j 0 ≤ 255
        rw [List.getD_eq_getElem?_getD, List.getElem?_eq_none (Nat.le_of_not_lt hj)]
        decide
    · obtain ⟨b, off, rfl, hc⟩ := ints_at h4 (by omega)
      exact ⟨b, off, rfl, fun j hj => hc j (by omega)⟩
theorem u8_bd {x : Int} (h : (Lit.int .u8 x).wf = true) : 0 ≤ x ∧ x ≤ 255 := bounds_u8 h
theorem once_all (qz mz : Int) (a : Option Addr) (len cap : Nat) (zs : List Int) (w : World) (hq : (Lit.int .u8 qz).wf = true) (hm : (Lit.int .u8 mz).wf = true) (h : (a = none ∧ len = 0 ∧ cap = 0 ∧ zs = []) ∨ ∃ x, a = some x ∧ len ≤ cap ∧ cap ≤ maxLen ∧ zs.length = cap ∧ (∀ j, j < zs.length → w.cell? (x.add j) = some (.int .u8 (zs.getD j 0))) ∧ (∀ y ∈ zs, (Lit.int .u8 y).wf = true)) :
    Calls Try.prog 4 #[.int .u8 qz, .int .u8 mz, .slice a len cap] w (Tr w) := by
  by_cases hn : len ≤ 200
  · exact once_true qz mz a len cap _ w (u8_bd hq) (u8_bd hm) hn (rd8_of h)
  · exact once_long qz mz a len cap w (by omega)
end Go.Proofs.Ytapebhefbokcfaa.DebW
