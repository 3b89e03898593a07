import Derived.Test.YtapebhefbokcfaaDebPlays0
import Derived.Deep.DeepCutAuto
namespace Go.Proofs.Ytapebhefbokcfaa.DebW
open Go.RowKit
set_option linter.unusedSimpArgs false
set_option linter.unusedVariables false

set_option maxHeartbeats 40000000 in
set_option maxRecDepth 100000 in
theorem plays_m (q m : Int) (A : Option Addr) (n c : Nat) (g t : Nat → Int) (w : World) (hq1 : 1 ≤ q) (hq2 : q ≤ 1099511627776) (hm1 : q ≤ m) (hm2 : m ≤ 1125899906842624) (hn : n ≤ 100) (hA : RdA w A n g t) :
    Calls Try.prog 3 #[.int .i64 q, .int .i64 m, .slice A n c] w (Tr w) := by
  obtain ⟨hg, ht, hA⟩ := hA
  have HA := Lib.hid hA
  clear hA
  have hmne : (m != 0) = true := by rw [bne_iff_ne]; omega
  go_enter Try.func3, Try.ntmps3
  go_wp2_with (first
    | (go_at_call 10; refine (fixed_any _).mono ?_; rintro e w1 ⟨rfl, hb⟩; have HB1 := Lib.hid hb; clear hb)
    | (go_at_call 11; refine (new_ok _ _ _ (by unfold NewOk; omega)).mono ?_; rintro e w2 ⟨rfl, hfs, hb⟩; have HF := Lib.hid hfs; have HB := Lib.hid (HB1.out.trans (hb.mono HB1.out.size)); have hzb : w.heap.size ≤ w1.heap.size := HB1.out.size; clear hfs hb)
    | fail)
  generalize hfb : w1.heap.size = fb at *
  obtain ⟨B0, hB0⟩ : ∃ B0, B0 = w2.heap.size := ⟨_, rfl⟩
  have hfB : fb < B0 := by rw [hB0]; exact HF.out.2.2.2.2.2.2.2.2.2.2.2.2
  have HB0 := Lib.hid hB0
  clear hfb hB0 hmne
  go_loopw [12, 13, 75] (fun v12 v13 v75 W => ∃ (k : Nat) (N F T : Int) (xs : List Int) (pv : Value), k ≤ n ∧ pv = v12 ∧ v13 = .int .i64 N ∧ v75 = .int .i64 k ∧ Hid (PlayI k N F T xs) ∧ Hid (FS fb q m N F T xs.length W) ∧ Hid (RowP B0 pv xs W) ∧ Hid (Below w.heap.size w W) ∧ B0 ≤ W.heap.size) (fun _ _ v75 _ => n - (intOf v75).toNat)
  case atStart => exact ⟨0, 0, 0, 0, [], _, by omega, rfl, rfl, rfl, ⟨by omega, by simp, fun _ => by omega, fun p h => by simp at h, by omega, by omega⟩, HF.out, rowp_nil _ _, HB.out, by rw [HB0.out]; exact Nat.le_refl _⟩
  case round =>
    obtain ⟨k, N, F, T, xs, pv, hk, rfl, rfl, rfl, HI, HFS, HR, HBB, hBW⟩ := hrel
    by_cases hlt : k < n
    · obtain ⟨b0, off, rfl, hcell⟩ := HA.out (by omega)
      obtain ⟨x, hx⟩ : ∃ x, x = g k := ⟨_, rfl⟩
      obtain ⟨y, hy⟩ : ∃ y, y = t k := ⟨_, rfl⟩
      have hgk := hg k
      have htk := ht k
      rw [← hx] at hgk
      rw [← hy] at htk
      obtain ⟨hx1, hx2⟩ := hgk
      obtain ⟨hy1, hy2⟩ := htk
      have hblk : b0 < w.heap.size := World.block_lt_of_cell? w _ (hcell 0 (by omega)).1
      have hcx : wr.cell? ⟨b0, off + k * 2, none⟩ = some (.int .u8 x) := by rw [hx]; exact ((bcell HBB.out).1 b0 _ hblk).trans (hcell k hlt).1
      have hcy : wr.cell? ⟨b0, off + k * 2 + 1, none⟩ = some (.int .i64 y) := by rw [hy]; exact ((bcell HBB.out).1 b0 _ hblk).trans (hcell k hlt).2
      have HX := Lib.hid hx
      have HC := Lib.hid hcell
      clear hx hy hcell hg ht
      obtain ⟨⟨hN1, hN2⟩, hxk, hI3, hI4, hI5, hI6⟩ := HI.out
      obtain ⟨N', hN'⟩ : ∃ N', nowAt N y = N' := ⟨_, rfl⟩
      have hNb := nowAt_bd N y ⟨hN1, hN2⟩
      rw [hN'] at hNb
      obtain ⟨hNb1, hNb2⟩ := hNb
      have HN := Lib.hid hN'
      clear hN'
      rcases Nat.eq_zero_or_pos xs.length with hE | hE
      · have hpv : pv = .slice none 0 0 := HR.out.2 hE
        subst hpv
        have HF0 := Lib.hid (show FS fb q m N F T 0 wr from by have h := HFS.out; rwa [hE] at h)
        have HE := Lib.hid hE
        obtain ⟨rfl, rfl⟩ := hI3 hE
        clear hI3 hI4 hE hxk
        by_cases hx3 : (x % 3 == 2) = true
        · go_wp2_with (first | (go_at_call 12; refine (flush_none (b := fb) (q := q) (m := m) (now := N) (F := 0) (T := 0) _ (fs_alloc _ HF0.out)).mono ?_; rintro e w3 ⟨rfl, hfs, hg⟩; have HB3 := Lib.hid (g_new (HBB.out.alloc HBB.out.size _) (by omega) hg); have HF3 := Lib.hid hfs; have hb3 : B0 ≤ w3.heap.size := (by have := hg.size; simp at this; omega); clear hfs hg) | fail)
          go_quiet (fail)
          go_wp2
          go_roundw
          case rel => exact ⟨k + 1, N, 0, 0, [], _, by omega, rfl, rfl, by go_num, pi_clear HI.out ⟨hN1, hN2⟩, fs_drewN _ (fs_alloc _ HF3.out), rowp_nil _ _, below_drewN (HB3.out.alloc HB3.out.size _) _, by simp; omega⟩
          case measure => simp [intOf]; omega
        · have hx3' : (x % 3 == 2) = false := by simpa using hx3
          clear hx3
          go_upto_region 20 with (fail)
          go_cut [13] (fun s13 wx => s13 = .int .i64 N' ∧ wx = wr.alloc (Obj.cells #[.int .u8 x, .int .i64 y] 34))
          case first =>
            go_wp2_with fail
            all_goals
              go_meet
              exact ⟨val_int (by rw [← HN.out]; unfold nowAt; (repeat' split) <;> omega), rfl⟩
          case rest =>
            obtain ⟨rfl, rfl⟩ := hcut
            by_cases hx0 : (x % 3 == 0) = true
            · go_wp2_with (first | (go_at_call 14; refine (pass_none_at (b := fb) (q := q) (m := m) (now := N) (F := 0) (T := 0) (N := N') _ _ (fs_alloc _ (fs_alloc _ HF0.out)) ⟨hN1, hN2⟩ HN.out).mono ?_; rintro e w3 ⟨rfl, hfs, hg⟩; have HB3 := Lib.hid (g_new ((HBB.out.alloc HBB.out.size _).alloc (by have := HBB.out.size; simp; omega) _) (by omega) hg); have HF3 := Lib.hid hfs; have hb3 : B0 ≤ w3.heap.size := (by have := hg.size; simp at this; omega); have haz : wr.heap.size + 1 < w3.heap.size := (by have := hg.size; simp at this; omega); have haz0 : wr.heap.size < w3.heap.size := (by omega); have ax0 : w3.cell? ⟨wr.heap.size, 0, none⟩ = some (.int .u8 x) := (g_cell hg (by simp; omega) (by omega) 0).trans (by first | (simp; done) | go_cell); have ax1 : w3.cell? ⟨wr.heap.size, 1, none⟩ = some (.int .i64 y) := (g_cell hg (by simp; omega) (by omega) 1).trans (by first | (simp; done) | go_cell); have wv0 : w3.cell? ⟨wr.heap.size + 1, 0, none⟩ = some (.int .i64 (0)) := (g_cell hg (by simp) (by omega) 0).trans (by first | (simp; done) | go_cell); have wv1 : w3.cell? ⟨wr.heap.size + 1, 1, none⟩ = some (.int .i64 (0)) := (g_cell hg (by simp) (by omega) 1).trans (by first | (simp; done) | go_cell); have wv2 : w3.cell? ⟨wr.heap.size + 1, 2, none⟩ = some (.int .i64 (0)) := (g_cell hg (by simp) (by omega) 2).trans (by first | (simp; done) | go_cell); have wv3 : w3.cell? ⟨wr.heap.size + 1, 3, none⟩ = some (.int .i64 (0)) := (g_cell hg (by simp) (by omega) 3).trans (by first | (simp; done) | go_cell); clear hfs hg) | (go_at_call 15; refine (poke_new_at (b := fb) (q := q) (m := m) (now := N') (F := 0) (T := 0) (N := N') _ _ (fs_alloc _ HF3.out) ⟨hNb1, hNb2⟩ (nowAt_idem HN.out hN2)).mono ?_; rintro e w4 ⟨rfl, hfs, hg⟩; have HB4 := Lib.hid (g_new (HB3.out.alloc HB3.out.size _) (by omega) hg); have HF4 := Lib.hid hfs; have hb4 : B0 ≤ w4.heap.size := (by have := hg.size; simp at this; omega); clear hfs hg) | (at_builtin; refine app1 B0 rfl _ _ 32 rfl Try.underlying32 info3 (.slice none 0 0) [] N' rfl ?hx (rowp_nil _ _) (by simp; omega) (by simp) ?_; (case hx => first | rfl | (simp; done) | (go_simp; done)); intro pb cap w5 hR hB; have HB5 := Lib.hid ((HB4.out.alloc HB4.out.size _).trans (hB.mono (by omega))); have HF5 := Lib.hid (fs_belowB hB hfB (fs_alloc _ HF4.out)); have HR5 := Lib.hid hR; have hb5 : B0 ≤ w5.heap.size := (by have := hB.size; simp at this; omega); clear hR hB) | (go_at_call 16; refine (count_at (b := fb) (P := 1) _ HF5.out).mono ?_; rintro e wp ⟨rfl, rfl⟩) | fail)
              go_roundw
              case rel => exact ⟨k + 1, N', N', N', [N'], _, by omega, rfl, rfl, by go_num, pi_first k ⟨hNb1, hNb2⟩, HF5.out, HR5.out, HB5.out, hb5⟩
              case measure => simp [intOf]; omega
            · have hx0' : (x % 3 == 0) = false := by simpa using hx0
              clear hx0
              go_wp2_with (first | (go_at_call 14; refine (pass_none_at (b := fb) (q := q) (m := m) (now := N) (F := 0) (T := 0) (N := N') _ _ (fs_alloc _ (fs_alloc _ HF0.out)) ⟨hN1, hN2⟩ HN.out).mono ?_; rintro e w3 ⟨rfl, hfs, hg⟩; have HB3 := Lib.hid (g_new ((HBB.out.alloc HBB.out.size _).alloc (by have := HBB.out.size; simp; omega) _) (by omega) hg); have HF3 := Lib.hid hfs; have hb3 : B0 ≤ w3.heap.size := (by have := hg.size; simp at this; omega); have haz : wr.heap.size + 1 < w3.heap.size := (by have := hg.size; simp at this; omega); have haz0 : wr.heap.size < w3.heap.size := (by omega); have ax0 : w3.cell? ⟨wr.heap.size, 0, none⟩ = some (.int .u8 x) := (g_cell hg (by simp; omega) (by omega) 0).trans (by first | (simp; done) | go_cell); have ax1 : w3.cell? ⟨wr.heap.size, 1, none⟩ = some (.int .i64 y) := (g_cell hg (by simp; omega) (by omega) 1).trans (by first | (simp; done) | go_cell); have wv0 : w3.cell? ⟨wr.heap.size + 1, 0, none⟩ = some (.int .i64 (0)) := (g_cell hg (by simp) (by omega) 0).trans (by first | (simp; done) | go_cell); have wv1 : w3.cell? ⟨wr.heap.size + 1, 1, none⟩ = some (.int .i64 (0)) := (g_cell hg (by simp) (by omega) 1).trans (by first | (simp; done) | go_cell); have wv2 : w3.cell? ⟨wr.heap.size + 1, 2, none⟩ = some (.int .i64 (0)) := (g_cell hg (by simp) (by omega) 2).trans (by first | (simp; done) | go_cell); have wv3 : w3.cell? ⟨wr.heap.size + 1, 3, none⟩ = some (.int .i64 (0)) := (g_cell hg (by simp) (by omega) 3).trans (by first | (simp; done) | go_cell); clear hfs hg) | (go_at_call 16; refine (count_at (b := fb) (P := 0) _ (fs_alloc _ HF3.out)).mono ?_; rintro e wp ⟨rfl, rfl⟩) | fail)
              go_roundw
              case rel => exact ⟨k + 1, N', 0, 0, [], _, by omega, rfl, rfl, by go_num, pi_clear HI.out ⟨hNb1, hNb2⟩, fs_alloc _ HF3.out, rowp_nil _ _, HB3.out.alloc HB3.out.size _, by simp; omega⟩
              case measure => simp [intOf]; omega
      · obtain ⟨p, hp⟩ : ∃ p, xs.length = p + 1 := ⟨xs.length - 1, by omega⟩
        have hIp := hI4 p hp
        obtain ⟨pb, cap, hpvf, hpb1, hpb2, hpc0, hpcp⟩ := rowp_form HR.out hp
        rw [hIp.1] at hpc0
        rw [hIp.2] at hpcp
        subst hpvf
        have HF0 := Lib.hid (show FS fb q m N F T ((p : Int) + 1) wr from fs_cast HFS.out (by rw [hp]; omega))
        have hp100 : p < 100 := by omega
        have HBd := Lib.hid (show Bd q m N F T ((p : Int) + 1) from ⟨⟨hq1, hq2⟩, ⟨by omega, hm2⟩, ⟨hN1, hN2⟩, hI5, hI6, by omega, by omega⟩)
        have HP := Lib.hid hp
        obtain ⟨hF1, hF2⟩ := hI5
        obtain ⟨hT1, hT2⟩ := hI6
        clear hp hIp hI3 hI4 hE hxk
        by_cases hx3 : (x % 3 == 2) = true
        · go_wp2_with (first | (go_at_call 12; refine (flush_some (b := fb) (q := q) (m := m) (now := N) (F := F) (T := T) (P := (p : Int) + 1) _ (fs_alloc _ HF0.out) (by omega)).mono ?_; rintro e w3 ⟨rfl, hfs, hg⟩; have HB3 := Lib.hid (g_new (HBB.out.alloc HBB.out.size _) (by omega) hg); have HF3 := Lib.hid hfs; have hb3 : B0 ≤ w3.heap.size := (by have := hg.size; simp at this; omega); have hc0 : w3.cell? ⟨pb, 0, none⟩ = some (.int .i64 F) := (g_cell hg (by simp; omega) (by omega) 0).trans ((World.cell?_alloc_lt _ _ _ hpb2).trans hpc0); have hcp : w3.cell? ⟨pb, p, none⟩ = some (.int .i64 T) := (g_cell hg (by simp; omega) (by omega) p).trans ((World.cell?_alloc_lt _ _ _ hpb2).trans hpcp); have hpb3 : pb < w3.heap.size := (by have := hg.size; simp at this; omega); clear hfs hg) | fail)
          have ew1 : IntKind.i64.wrap ((p : Int) + 1 - 1) = (p : Int) := (iw (by omega) (by omega)).trans (by omega)
          have ew5 : (p : Int) < (p : Int) + 1 := by omega
          go_quiet (fail)
          clear ew1 ew5
          go_wp2
          go_roundw
          case rel => exact ⟨k + 1, N, 0, 0, [], _, by omega, rfl, rfl, by go_num, pi_clear HI.out ⟨hN1, hN2⟩, fs_drewN _ (fs_alloc _ HF3.out), rowp_nil _ _, below_drewN (HB3.out.alloc HB3.out.size _) _, by simp; omega⟩
          case measure => simp [intOf]; omega

        · have hx3' : (x % 3 == 2) = false := by simpa using hx3
          clear hx3
          go_upto_region 20 with (fail)
          go_cut [13] (fun s13 wx => s13 = .int .i64 N' ∧ wx = wr.alloc (Obj.cells #[.int .u8 x, .int .i64 y] 34))
          case first =>
            go_wp2_with fail
            all_goals
              go_meet
              exact ⟨val_int (by rw [← HN.out]; unfold nowAt; (repeat' split) <;> omega), rfl⟩
          case rest =>
            obtain ⟨rfl, rfl⟩ := hcut
            have HBd2 := Lib.hid (show Bd q m N' F T ((p : Int) + 1) from ⟨HBd.out.1, HBd.out.2.1, ⟨hNb1, hNb2⟩, HBd.out.2.2.2⟩)
            obtain ⟨en, hen⟩ : ∃ en, endAt q m F T = en := ⟨_, rfl⟩
            have henb : 0 ≤ en ∧ en ≤ 2305843009213693952 := by rw [← hen]; unfold endAt; (repeat' split) <;> omega
            obtain ⟨henb1, henb2⟩ := henb
            have HEN := Lib.hid hen
            clear hen
            go_upto_if 140 with (fail)
            go_cut [21] (fun s21 wx => s21 = .int .i64 en ∧ wx = (wr.alloc (Obj.cells #[.int .u8 x, .int .i64 y] 34)).alloc (Obj.cells #[.int .i64 0, .int .i64 0, .int .i64 0, .int .i64 0] 27))
            case first =>
              go_wp2_with fail
              all_goals
                go_meet
                exact ⟨val_int (by rw [← HEN.out]; unfold endAt; (repeat' split) <;> omega), rfl⟩
            case rest =>
              obtain ⟨rfl, rfl⟩ := hcut
              by_cases hW : N' < en
              · have HW := Lib.hid (show N' < endAt q m F T by rw [HEN.out]; exact hW)
                by_cases hx0 : (x % 3 == 0) = true
                · go_wp2_with (first | (go_at_call 14; refine (pass_wait_at (b := fb) (q := q) (m := m) (now := N) (F := F) (T := T) (P := (p : Int) + 1) (N := N') _ _ (fs_alloc _ (fs_alloc _ HF0.out)) HBd.out (by omega) HN.out HW.out).mono ?_; rintro e w3 ⟨rfl, hfs, hg⟩; have HB3 := Lib.hid (g_new ((HBB.out.alloc HBB.out.size _).alloc (by have := HBB.out.size; simp; omega) _) (by omega) hg); have HF3 := Lib.hid hfs; have hb3 : B0 ≤ w3.heap.size := (by have := hg.size; simp at this; omega); have haz : wr.heap.size + 1 < w3.heap.size := (by have := hg.size; simp at this; omega); have haz0 : wr.heap.size < w3.heap.size := (by omega); have ax0 : w3.cell? ⟨wr.heap.size, 0, none⟩ = some (.int .u8 x) := (g_cell hg (by simp; omega) (by omega) 0).trans (by first | (simp; done) | go_cell); have ax1 : w3.cell? ⟨wr.heap.size, 1, none⟩ = some (.int .i64 y) := (g_cell hg (by simp; omega) (by omega) 1).trans (by first | (simp; done) | go_cell); have wv0 : w3.cell? ⟨wr.heap.size + 1, 0, none⟩ = some (.int .i64 (0)) := (g_cell hg (by simp) (by omega) 0).trans (by first | (simp; done) | go_cell); have wv1 : w3.cell? ⟨wr.heap.size + 1, 1, none⟩ = some (.int .i64 (0)) := (g_cell hg (by simp) (by omega) 1).trans (by first | (simp; done) | go_cell); have wv2 : w3.cell? ⟨wr.heap.size + 1, 2, none⟩ = some (.int .i64 (0)) := (g_cell hg (by simp) (by omega) 2).trans (by first | (simp; done) | go_cell); have wv3 : w3.cell? ⟨wr.heap.size + 1, 3, none⟩ = some (.int .i64 (0)) := (g_cell hg (by simp) (by omega) 3).trans (by first | (simp; done) | go_cell); have HR3 := Lib.hid (rowp_keep (rowp_alloc (rowp_alloc HR.out _) _) hg hfB); clear hfs hg) | (go_at_call 15; refine (poke_wait_at (b := fb) (q := q) (m := m) (now := N') (F := F) (T := T) (P := (p : Int) + 1) (N := N') _ _ (fs_alloc _ HF3.out) HBd2.out (by omega) (nowAt_idem HN.out hN2) HW.out).mono ?_; rintro e w4 ⟨rfl, hfs, hg⟩; have HB4 := Lib.hid (g_new (HB3.out.alloc HB3.out.size _) (by omega) hg); have HF4 := Lib.hid hfs; have hb4 : B0 ≤ w4.heap.size := (by have := hg.size; simp at this; omega); have HR4 := Lib.hid (rowp_keep (rowp_alloc HR3.out _) hg hfB); clear hfs hg) | (at_builtin; refine app1 B0 rfl _ _ 32 rfl Try.underlying32 info3 (.slice (some ⟨pb, 0, none⟩) (p + 1) cap) xs N' rfl ?hx (rowp_alloc HR4.out _) (by simp; omega) (by rw [HP.out]; omega) ?_; (case hx => first | rfl | (simp; done) | (go_simp; done)); intro pb2 cap2 w5 hR hB; have HB5 := Lib.hid ((HB4.out.alloc HB4.out.size _).trans (hB.mono (by omega))); have HF5 := Lib.hid (fs_belowB hB hfB (fs_alloc _ HF4.out)); have HR5 := Lib.hid hR; have hb5 : B0 ≤ w5.heap.size := (by have := hB.size; simp at this; omega); clear hR hB; rw [HP.out]) | (go_at_call 16; refine (count_at (b := fb) (P := (p : Int) + 1 + 1) _ HF5.out).mono ?_; rintro e wp ⟨rfl, rfl⟩) | fail)
                  go_roundw
                  case rel => exact ⟨k + 1, N', F, N', xs ++ [N'], _, by omega, rfl, rfl, by go_num, pi_more HI.out HP.out ⟨hNb1, hNb2⟩, fs_cast HF5.out (by simp [HP.out]), by rw [← HP.out]; exact HR5.out, HB5.out, hb5⟩
                  case measure => simp [intOf]; omega
                · have hx0' : (x % 3 == 0) = false := by simpa using hx0
                  clear hx0
                  go_wp2_with (first | (go_at_call 14; refine (pass_wait_at (b := fb) (q := q) (m := m) (now := N) (F := F) (T := T) (P := (p : Int) + 1) (N := N') _ _ (fs_alloc _ (fs_alloc _ HF0.out)) HBd.out (by omega) HN.out HW.out).mono ?_; rintro e w3 ⟨rfl, hfs, hg⟩; have HB3 := Lib.hid (g_new ((HBB.out.alloc HBB.out.size _).alloc (by have := HBB.out.size; simp; omega) _) (by omega) hg); have HF3 := Lib.hid hfs; have hb3 : B0 ≤ w3.heap.size := (by have := hg.size; simp at this; omega); have haz : wr.heap.size + 1 < w3.heap.size := (by have := hg.size; simp at this; omega); have haz0 : wr.heap.size < w3.heap.size := (by omega); have ax0 : w3.cell? ⟨wr.heap.size, 0, none⟩ = some (.int .u8 x) := (g_cell hg (by simp; omega) (by omega) 0).trans (by first | (simp; done) | go_cell); have ax1 : w3.cell? ⟨wr.heap.size, 1, none⟩ = some (.int .i64 y) := (g_cell hg (by simp; omega) (by omega) 1).trans (by first | (simp; done) | go_cell); have wv0 : w3.cell? ⟨wr.heap.size + 1, 0, none⟩ = some (.int .i64 (0)) := (g_cell hg (by simp) (by omega) 0).trans (by first | (simp; done) | go_cell); have wv1 : w3.cell? ⟨wr.heap.size + 1, 1, none⟩ = some (.int .i64 (0)) := (g_cell hg (by simp) (by omega) 1).trans (by first | (simp; done) | go_cell); have wv2 : w3.cell? ⟨wr.heap.size + 1, 2, none⟩ = some (.int .i64 (0)) := (g_cell hg (by simp) (by omega) 2).trans (by first | (simp; done) | go_cell); have wv3 : w3.cell? ⟨wr.heap.size + 1, 3, none⟩ = some (.int .i64 (0)) := (g_cell hg (by simp) (by omega) 3).trans (by first | (simp; done) | go_cell); have HR3 := Lib.hid (rowp_keep (rowp_alloc (rowp_alloc HR.out _) _) hg hfB); clear hfs hg) | (go_at_call 16; refine (count_at (b := fb) (P := (p : Int) + 1) _ (fs_alloc _ HF3.out)).mono ?_; rintro e wp ⟨rfl, rfl⟩) | fail)
                  go_roundw
                  case rel => exact ⟨k + 1, N', F, T, xs, _, by omega, rfl, rfl, by go_num, pi_time HI.out ⟨hNb1, hNb2⟩, fs_cast (fs_alloc _ HF3.out) (by rw [HP.out]; omega), rowp_alloc HR3.out _, HB3.out.alloc HB3.out.size _, by simp; omega⟩
                  case measure => simp [intOf]; omega
              · have hWn : en ≤ N' := by omega
                clear hW
                have ew1 : IntKind.i64.wrap ((p : Int) + 1 - 1) = (p : Int) := (iw (by omega) (by omega)).trans (by omega)
                have ew5 : (p : Int) < (p : Int) + 1 := by omega
                go_wp2_with fail
                go_region
                clear ew1 ew5
                by_cases hx0 : (x % 3 == 0) = true
                · go_wp2_with (first | (go_at_call 14; refine (pass_end_n (b := fb) (q := q) (m := m) (now := N) (F := F) (T := T) (P := (p : Int) + 1) (N := N') (en := en) _ _ (fs_drew (fs_alloc _ (fs_alloc _ HF0.out))) HBd.out (by omega) HN.out HEN.out hWn).mono ?_; rintro e w3 ⟨rfl, hfs, hg⟩; have HB3 := Lib.hid (g_new (Below.drew ((HBB.out.alloc HBB.out.size _).alloc (by have := HBB.out.size; simp; omega) _)) (by omega) hg); have HF3 := Lib.hid hfs; have hb3 : B0 ≤ w3.heap.size := (by have := hg.size; simp at this; omega); have haz : wr.heap.size + 1 < w3.heap.size := (by have := hg.size; simp at this; omega); have haz0 : wr.heap.size < w3.heap.size := (by omega); have ax0 : w3.cell? ⟨wr.heap.size, 0, none⟩ = some (.int .u8 x) := (g_cell hg (by simp; omega) (by omega) 0).trans (by first | (simp; done) | go_cell); have ax1 : w3.cell? ⟨wr.heap.size, 1, none⟩ = some (.int .i64 y) := (g_cell hg (by simp; omega) (by omega) 1).trans (by first | (simp; done) | go_cell); have wv0 : w3.cell? ⟨wr.heap.size + 1, 0, none⟩ = some (.int .i64 (F)) := (g_cell hg (by simp) (by omega) 0).trans (by first | (simp; done) | go_cell); have wv1 : w3.cell? ⟨wr.heap.size + 1, 1, none⟩ = some (.int .i64 (T)) := (g_cell hg (by simp) (by omega) 1).trans (by first | (simp; done) | go_cell); have wv2 : w3.cell? ⟨wr.heap.size + 1, 2, none⟩ = some (.int .i64 ((p : Int) + 1)) := (g_cell hg (by simp) (by omega) 2).trans (by first | (simp; done) | go_cell); have wv3 : w3.cell? ⟨wr.heap.size + 1, 3, none⟩ = some (.int .i64 (en)) := (g_cell hg (by simp) (by omega) 3).trans (by first | (simp; done) | go_cell); clear hfs hg) | (go_at_call 15; refine (poke_new_at (b := fb) (q := q) (m := m) (now := N') (F := 0) (T := 0) (N := N') _ _ (fs_alloc _ HF3.out) ⟨hNb1, hNb2⟩ (nowAt_idem HN.out hN2)).mono ?_; rintro e w4 ⟨rfl, hfs, hg⟩; have HB4 := Lib.hid (g_new (HB3.out.alloc HB3.out.size _) (by omega) hg); have HF4 := Lib.hid hfs; have hb4 : B0 ≤ w4.heap.size := (by have := hg.size; simp at this; omega); clear hfs hg) | (at_builtin; refine app1 B0 rfl _ _ 32 rfl Try.underlying32 info3 (.slice none 0 0) [] N' rfl ?hx (rowp_nil _ _) (by simp; omega) (by simp) ?_; (case hx => first | rfl | (simp; done) | (go_simp; done)); intro pb cap w5 hR hB; have HB5 := Lib.hid ((HB4.out.alloc HB4.out.size _).trans (hB.mono (by omega))); have HF5 := Lib.hid (fs_belowB hB hfB (fs_alloc _ HF4.out)); have HR5 := Lib.hid hR; have hb5 : B0 ≤ w5.heap.size := (by have := hB.size; simp at this; omega); clear hR hB) | (go_at_call 16; refine (count_at (b := fb) (P := 1) _ HF5.out).mono ?_; rintro e wp ⟨rfl, rfl⟩) | fail)
                  go_roundw
                  case rel => exact ⟨k + 1, N', N', N', [N'], _, by omega, rfl, rfl, by go_num, pi_first k ⟨hNb1, hNb2⟩, HF5.out, HR5.out, HB5.out, hb5⟩
                  case measure => simp [intOf]; omega
                · have hx0' : (x % 3 == 0) = false := by simpa using hx0
                  clear hx0
                  go_wp2_with (first | (go_at_call 14; refine (pass_end_n (b := fb) (q := q) (m := m) (now := N) (F := F) (T := T) (P := (p : Int) + 1) (N := N') (en := en) _ _ (fs_drew (fs_alloc _ (fs_alloc _ HF0.out))) HBd.out (by omega) HN.out HEN.out hWn).mono ?_; rintro e w3 ⟨rfl, hfs, hg⟩; have HB3 := Lib.hid (g_new (Below.drew ((HBB.out.alloc HBB.out.size _).alloc (by have := HBB.out.size; simp; omega) _)) (by omega) hg); have HF3 := Lib.hid hfs; have hb3 : B0 ≤ w3.heap.size := (by have := hg.size; simp at this; omega); have haz : wr.heap.size + 1 < w3.heap.size := (by have := hg.size; simp at this; omega); have haz0 : wr.heap.size < w3.heap.size := (by omega); have ax0 : w3.cell? ⟨wr.heap.size, 0, none⟩ = some (.int .u8 x) := (g_cell hg (by simp; omega) (by omega) 0).trans (by first | (simp; done) | go_cell); have ax1 : w3.cell? ⟨wr.heap.size, 1, none⟩ = some (.int .i64 y) := (g_cell hg (by simp; omega) (by omega) 1).trans (by first | (simp; done) | go_cell); have wv0 : w3.cell? ⟨wr.heap.size + 1, 0, none⟩ = some (.int .i64 (F)) := (g_cell hg (by simp) (by omega) 0).trans (by first | (simp; done) | go_cell); have wv1 : w3.cell? ⟨wr.heap.size + 1, 1, none⟩ = some (.int .i64 (T)) := (g_cell hg (by simp) (by omega) 1).trans (by first | (simp; done) | go_cell); have wv2 : w3.cell? ⟨wr.heap.size + 1, 2, none⟩ = some (.int .i64 ((p : Int) + 1)) := (g_cell hg (by simp) (by omega) 2).trans (by first | (simp; done) | go_cell); have wv3 : w3.cell? ⟨wr.heap.size + 1, 3, none⟩ = some (.int .i64 (en)) := (g_cell hg (by simp) (by omega) 3).trans (by first | (simp; done) | go_cell); clear hfs hg) | (go_at_call 16; refine (count_at (b := fb) (P := 0) _ (fs_alloc _ HF3.out)).mono ?_; rintro e wp ⟨rfl, rfl⟩) | fail)
                  go_roundw
                  case rel => exact ⟨k + 1, N', 0, 0, [], _, by omega, rfl, rfl, by go_num, pi_clear HI.out ⟨hNb1, hNb2⟩, fs_alloc _ HF3.out, rowp_nil _ _, HB3.out.alloc HB3.out.size _, by simp; omega⟩
                  case measure => simp [intOf]; omega

    · go_wp2
      go_ret
      exact ⟨rfl, HBB.out⟩
end Go.Proofs.Ytapebhefbokcfaa.DebW
