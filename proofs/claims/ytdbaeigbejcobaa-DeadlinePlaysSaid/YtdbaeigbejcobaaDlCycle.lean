import Derived.Test.YtdbaeigbejcobaaDlRight
import Derived.KernelRfl
import Derived.Deep.DeepCutAuto
namespace Go.Proofs.Ytdbaeigbejcobaa.Dl
open Go.RowKit
set_option linter.unusedVariables false
set_option linter.unusedSimpArgs false
theorem cell_new (w : World) (cs : Array Value) (t : TypeId) (i : Nat) (v : Value) (h : cs[i]? = some v) : (w.alloc (.cells cs t)).cell? ⟨w.heap.size, i, none⟩ = some v := by
  have hn := heap_alloc_new w (.cells cs t)
  simp only [World.cell?, hn]
  exact h
def per (z : Nat → Int × Int × Int) (i : Nat) : Nat := (z i).1.toNat
theorem Right_yes (A : Option Addr) (n c : Nat) (z : Nat → Int × Int × Int) (w : World) (hA : Rd3 w A n z) (h : AllOk z n) : Calls Try.prog 12 #[.slice A n c] w fun e w' => e = .returned (.bool true) ∧ Below w.heap.size w w' :=
  (Right_at A n c z w (by have := h.2.2; omega) hA).mono fun e w' k => ⟨k.1 h, k.2.2⟩
theorem Right_no (A : Option Addr) (n c : Nat) (z : Nat → Int × Int × Int) (w : World) (hn : n ≤ 30) (hA : Rd3 w A n z) (h : ¬ AllOk z n) : Calls Try.prog 12 #[.slice A n c] w fun e w' => e = .returned (.bool false) ∧ Below w.heap.size w w' :=
  (Right_at A n c z w hn hA).mono fun e w' k => ⟨k.2.1 h, k.2.2⟩
theorem cycle_no (A : Option Addr) (n c : Nat) (z : Nat → Int × Int × Int) (w : World) (hn : n ≤ 30) (hA : Rd3 w A n z) (h : ¬ AllOk z n) : Calls Try.prog 14 #[.slice A n c] w fun e w' => e = .returned (.tuple #[.int .i64 0, .bool false]) ∧ Below w.heap.size w w' := by
  have C1 := Lib.hid (Right_no A n c z w hn hA h)
  clear hA h
  go_enter Try.func14, Try.ntmps14
  go_wp2_with (first
    | (go_at_call 12; refine (C1.out).mono ?_; clear C1; rintro e w1 ⟨rfl, hb⟩; have HB := Lib.hid hb; clear hb)
    | fail)
  exact bodyPost_ret (results_tmp2 rfl _ _ _) rfl ⟨rfl, HB.out⟩
set_option maxRecDepth 100000 in
set_option maxHeartbeats 4000000 in
theorem cycle_yes (A : Option Addr) (n c : Nat) (z : Nat → Int × Int × Int) (w : World) (hA : Rd3 w A n z) (h : AllOk z n) : Calls Try.prog 14 #[.slice A n c] w fun e w' => (lc (per z) n ≤ 1000000000 → e = .returned (.tuple #[.int .i64 (lc (per z) n), .bool true])) ∧ (1000000000 < lc (per z) n → e = .returned (.tuple #[.int .i64 0, .bool false])) ∧ Below w.heap.size w w' := by
  have C1 := Lib.hid (Right_yes A n c z w hA h)
  have HA := Lib.hid hA
  have HO := Lib.hid h.1
  have hn : n ≤ 16 := h.2.2
  have HPZ := Lib.hid (show ∀ i, i < n → 0 < per z i from fun i hi => by have := (h.1 i hi).1; unfold per; omega)
  clear hA h
  go_enter Try.func14, Try.ntmps14
  go_wp2_with (first
    | (go_at_call 12; refine (C1.out).mono ?_; clear C1; rintro e w1 ⟨rfl, hb⟩; have HB1 := Lib.hid hb; clear hb)
    | fail)
  go_loopw [4, 12] (fun v4 v12 W => ∃ (i : Nat), i ≤ n ∧ v4 = .int .i64 (lc (per z) i) ∧ v12 = .int .i64 i ∧ Hid (lc (per z) i ≤ 1000000000) ∧ Hid (Below w.heap.size w W)) (fun _ v12 _ => n - (intOf v12).toNat)
  case atStart => exact ⟨0, by omega, rfl, rfl, (show (1 : Nat) ≤ 1000000000 by omega), HB1.out⟩
  case round =>
    obtain ⟨i, hi, rfl, rfl, HL, HB⟩ := hrel
    rename World => wo
    by_cases hlt : i < n
    · obtain ⟨b0, off, rfl, hcell⟩ := HA.out (by omega)
      obtain ⟨⟨g0, g1, g2⟩, _⟩ := hcell i hlt
      have hblk : b0 < w.heap.size := World.block_lt_of_cell? w _ g0
      have k0 : wo.cell? ⟨b0, off + i * 3, none⟩ = some (.int .i64 (z i).1) := (HB.out.cell (p := ⟨b0, off + i * 3, none⟩) hblk).trans g0
      have k1 : wo.cell? ⟨b0, off + i * 3 + 1, none⟩ = some (.int .i64 (z i).2.1) := (HB.out.cell (p := ⟨b0, off + i * 3 + 1, none⟩) hblk).trans g1
      have k2 : wo.cell? ⟨b0, off + i * 3 + 2, none⟩ = some (.int .i64 (z i).2.2) := (HB.out.cell (p := ⟨b0, off + i * 3 + 2, none⟩) hblk).trans g2
      have HC := Lib.hid hcell
      have hto := HO.out i hlt
      have hpe : (z i).1 = (per z i : Nat) := by have := hto.1; unfold per; omega
      have hp1 : 1 ≤ per z i ∧ per z i ≤ 1000 := by have h1 := hto.1; have h2 := hto.2.1; unfold per; omega
      rw [hpe] at k0
      obtain ⟨x1, hx1⟩ : ∃ x, (z i).2.1 = x := ⟨_, rfl⟩
      obtain ⟨x2, hx2⟩ : ∃ x, (z i).2.2 = x := ⟨_, rfl⟩
      rw [hx1] at k1
      rw [hx2] at k2
      have hstep : lc (per z) (i + 1) = Nat.lcm (lc (per z) i) (per z i) := rfl
      have hls := lcm_step (lc (per z) i) (per z i)
      have hpos := lc_pos HPZ.out i (by omega)
      have hle := lc_le HPZ.out (i + 1) (by omega)
      have hl9 := HL.out
      obtain ⟨l, hl⟩ : ∃ l, lc (per z) i = l := ⟨_, rfl⟩
      obtain ⟨p, hp⟩ : ∃ p, per z i = p := ⟨_, rfl⟩
      rw [hl, hp] at hls hstep
      rw [hl] at hpos hl9 ⊢
      rw [hp] at k0 hp1
      obtain ⟨g, hg⟩ : ∃ g, Nat.gcd l p = g := ⟨_, rfl⟩
      have CG := Lib.hid (gcd_at l p (by omega) (by omega))
      rw [hg] at hls CG
      have hgp : 0 < g := by rw [← hg]; exact Nat.gcd_pos_of_pos_left _ hpos
      obtain ⟨q, hq⟩ : ∃ q, l / g = q := ⟨_, rfl⟩
      rw [hq] at hls
      have hql : q ≤ l := by rw [← hq]; exact Nat.div_le_self _ _
      have hqp : q * p ≤ 1000000000000 := by
        calc q * p ≤ 1000000000 * 1000 := Nat.mul_le_mul (by omega) hp1.2
          _ = 1000000000000 := rfl
      have hgz : ¬ (g : Int) = 0 := by omega
      have hgz2 : ¬ g = 0 := by omega
      have hw1 : IntKind.i64.wrap ((l : Int).tdiv (g : Int)) = (q : Int) := by
        rw [Int.tdiv_eq_ediv_of_nonneg (by omega), ← Int.natCast_ediv, hq]; exact iw (by omega) (by omega)
      have hdv : (l : Int) / (g : Int) = (q : Int) := by rw [← Int.natCast_ediv, hq]
      have hq9 : q ≤ 1000000000 := by omega
      obtain ⟨m, hm⟩ : ∃ m, q * p = m := ⟨_, rfl⟩
      rw [hm] at hls hqp
      have hw3 : IntKind.i64.wrap (q : Int) = (q : Int) := iw (by omega) (by omega)
      have hw2 : IntKind.i64.wrap ((q : Int) * (p : Int)) = (m : Int) := by rw [← Int.natCast_mul, hm]; exact iw (by omega) (by omega)
      rw [← hls] at hstep
      have HS := Lib.hid hstep
      have HLE := Lib.hid hle
      clear hpe hto hstep hls hl hp hg hq hm hle hx1 hx2 hcell g0 g1 g2
      go_upto_region 7 with (fail)
      have kp : (wo.alloc (.cells #[.int .i64 p, .int .i64 x1, .int .i64 x2] 35)).drew.cell? ⟨wo.heap.size, 0, none⟩ = some (.int .i64 p) := cell_new wo _ 35 0 _ rfl
      have kz : wo.heap.size < (wo.alloc (.cells #[.int .i64 p, .int .i64 x1, .int .i64 x2] 35)).drew.heap.size := by show wo.heap.size < (wo.alloc _).heap.size; simp
      have HBA := Lib.hid (show Below w.heap.size w (wo.alloc (.cells #[.int .i64 p, .int .i64 x1, .int .i64 x2] 35)).drew from (HB.out.alloc HB.out.size _).drew)
      have KP := Lib.hid kp
      have KZ := Lib.hid kz
      clear kz
      go_region_held3 (fun w' => w'.cell? ⟨wo.heap.size, 0, none⟩ = some (.int .i64 p))
        (first
          | (exact KP.out)
          | (exact HP5.out)
          | (go_keep; done))
        (first
          | (go_simp; go_at_call 30; refine (CG.out _).mono ?_; clear CG; rintro e w5 ⟨rfl, hb⟩; have HP5 := Lib.hid (((bcell hb).1 wo.heap.size 0 KZ.out).trans KP.out); have HB5 := Lib.hid (below_tr HBA.out hb); clear hb)
          | fail)
      by_cases h9 : m ≤ 1000000000
      · go_wp2
        refine ⟨⟨i + 1, by omega, by rw [HS.out], by simp, (show lc (per z) (i + 1) ≤ 1000000000 by rw [HS.out]; exact h9), HB5.out⟩, by simp [intOf]; omega⟩
      · have HN := Lib.hid (show 1000000000 < lc (per z) n by have := HLE.out; rw [HS.out] at this; omega)
        go_wp2
        exact bodyPost_ret (results_tmp2 rfl _ _ _) rfl ⟨fun h => absurd h (by have := HN.out; omega), fun _ => rfl, HB5.out⟩
    · have hie : i = n := by omega
      have HE := Lib.hid hie
      clear hie
      have hnn : ¬ i < n := hlt
      go_wp2
      refine bodyPost_ret (results_tmp2 rfl _ _ _) rfl ⟨fun _ => by first | rfl | (rw [HE.out]; rfl), fun h => absurd HL.out (by rw [HE.out]; omega), HB.out⟩
end Go.Proofs.Ytdbaeigbejcobaa.Dl
