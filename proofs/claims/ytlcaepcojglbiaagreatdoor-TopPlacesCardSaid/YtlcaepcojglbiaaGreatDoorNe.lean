/- The places told by the machine: a part of the walk of the whole machine. For all states that the readings allow. -/
import Derived.BigQuiet
import Derived.Deep.DeepCutAuto
import Derived.Test.YtlcaepcojglbiaaGreatDoorNd
import Derived.Test.YtlcaepcojglbiaaGreatDoorNa
import Derived.Test.YtlcaepcojglbiaaGreatDoorNc
namespace Go.Proofs.YtlcaepcojglbiaaGreatDoor.Tp
open Go.RowKit Go.Maps
set_option linter.unusedVariables false
set_option linter.unusedSimpArgs false
/-- A slice of timers that is read. -/
def RdT (w : World) (a : Option Addr) (n : Nat) (z : Nat → Tm) : Prop := 0 < n → ∃ b off, a = some ⟨b, off, none⟩ ∧ ∀ i, i < n →
  (w.cell? ⟨b, off + i * 5, none⟩ = some (.int .i64 (z i).id) ∧ w.cell? ⟨b, off + i * 5 + 1, none⟩ = some (.int .i64 (z i).clock) ∧ w.cell? ⟨b, off + i * 5 + 2, none⟩ = some (.int .i64 (z i).soft) ∧ w.cell? ⟨b, off + i * 5 + 3, none⟩ = some (.int .i64 (z i).hard) ∧ w.cell? ⟨b, off + i * 5 + 4, none⟩ = some (.bool (z i).lazy)) ∧ (z i).wf
/-- A slice of bytes that is read. -/
def RdB (w : World) (a : Option Addr) (n : Nat) (z : Nat → Int) : Prop := 0 < n → ∃ b off, a = some ⟨b, off, none⟩ ∧ ∀ i, i < n → w.cell? ⟨b, off + i, none⟩ = some (.int .u8 (z i)) ∧ 0 ≤ z i ∧ z i ≤ 255
theorem i64_and255 (n : Int) : bits .and .i64 n 255 = n % 256 := by
  have h255 : (BitVec.ofInt 64 255).toNat = 2 ^ 8 - 1 := by decide
  have key : (BitVec.ofInt 64 n &&& BitVec.ofInt 64 255).toNat = (n % ((2 ^ 64 : Nat) : Int)).toNat % 2 ^ 8 := by
    rw [BitVec.toNat_and, BitVec.toNat_ofInt, h255, Nat.and_two_pow_sub_one_eq_mod]
  show IntKind.i64.wrap ((BitVec.ofInt 64 n &&& BitVec.ofInt 64 255).toNat : Nat) = n % 256
  rw [key, IntKind.wrap_i64]
  omega
theorem tab_block {w w1 : World} (h : TAB w) (hb : w1.heap[0]? = w.heap[0]?) : TAB w1 := fun k hk => (World.cell?_of_block (a := ⟨0, dbi k, none⟩) hb).trans (h k hk)
theorem rdt_below {w w1 : World} {a : Option Addr} {n : Nat} {z : Nat → Tm} (h : RdT w a n z) (hB : Below w.heap.size w w1) : RdT w1 a n z := fun hp => by
  obtain ⟨b, off, e, hz⟩ := h hp
  refine ⟨b, off, e, fun i hi => ?_⟩
  obtain ⟨⟨h0, h1, h2, h3, h4⟩, hw⟩ := hz i hi
  have hb := hB.block b (cell_lt h0)
  exact ⟨⟨(World.cell?_of_block (a := ⟨b, off + i * 5, none⟩) hb).trans h0, (World.cell?_of_block (a := ⟨b, off + i * 5 + 1, none⟩) hb).trans h1, (World.cell?_of_block (a := ⟨b, off + i * 5 + 2, none⟩) hb).trans h2, (World.cell?_of_block (a := ⟨b, off + i * 5 + 3, none⟩) hb).trans h3, (World.cell?_of_block (a := ⟨b, off + i * 5 + 4, none⟩) hb).trans h4⟩, hw⟩
theorem rdb_below {w w1 : World} {a : Option Addr} {n : Nat} {z : Nat → Int} (h : RdB w a n z) (hB : Below w.heap.size w w1) : RdB w1 a n z := fun hp => by
  obtain ⟨b, off, e, hz⟩ := h hp
  refine ⟨b, off, e, fun i hi => ?_⟩
  obtain ⟨h0, hw⟩ := hz i hi
  have hb := hB.block b (cell_lt h0)
  exact ⟨(World.cell?_of_block (a := ⟨b, off + i, none⟩) hb).trans h0, hw⟩
/-- A new engine with an empty map. -/
theorem xs_new {A : EA} {n : Nat} {w w2 : World} (h16 : n ≤ 16) (her : ER A (En.new n 1000) w2) (hB : Below w.heap.size w w2) (hlo : ∀ x, A.has n x → x = 0 ∨ w.heap.size ≤ x) : TB A n w2.heap.size w ∧ XS A w2.heap.size n w 0 (En.new n 1000) (fun _ => none) (sof fun _ => none) (w2.alloc (.map #[] 0)) := by
  have hB2 := (Below.refl w2.heap.size w2).alloc (Nat.le_refl _) (.map #[] 0)
  refine ⟨⟨hlo, fun e => ?_, hB.size⟩, ⟨er_below her hB2, rfl, ⟨0, mv_made 3 ki ki w2, Nat.le_refl _⟩, hB.trans (hB2.mono hB.size)⟩, pl_new n h16, fun j => rfl, fun id x h => (by cases h), Nat.le_refl _⟩
  have := er_lt her _ e
  omega
set_option maxRecDepth 100000 in
set_option maxHeartbeats 16000000 in
theorem places_at (l : Option Addr) (ln lc : Nat) (zl : Nat → Tm) (x y : Int) (hx : 0 ≤ x ∧ x ≤ 255) (hy : 0 ≤ y ∧ y ≤ 255) (p : Option Addr) (pn pc : Nat) (zp : Nat → Int) (h : Option Addr) (hn hc : Nat) (zh : Nat → Int) (W : World) (hT : TAB W) (hl : RdT W l ln zl) (hp : RdB W p pn zp) (hh : RdB W h hn zh) : Calls Tryz.prog 4 #[.slice l ln lc, .int .u8 x, .int .u8 y, .slice p pn pc, .slice h hn hc] W fun e W' => e = .returned (.bool true) ∧ Below W.heap.size W W' := by
  have CR0 := Lib.hid (run_at W hT)
  have HL := Lib.hid hl
  have HP := Lib.hid hp
  have HH := Lib.hid hh
  clear hl hp hh hT
  by_cases hbig : 30 < ln ∨ 60 < pn ∨ 200 < hn
  · rcases (show 30 < ln ∨ (¬ 30 < ln ∧ 60 < pn) ∨ (¬ 30 < ln ∧ ¬ 60 < pn ∧ 200 < hn) by omega) with h1 | ⟨h1, h2⟩ | ⟨h1, h2, h3⟩
    · have h1' : (30 : Int) < (ln : Int) := by omega
      clear h1 hbig hx hy HL HP HH
      go_enter Tryz.func4, Tryz.ntmps4
      go_wp2_with (first
        | (go_at_call 5; (with_reducible refine (CR0.out).mono ?_); clear CR0; rintro e w1 ⟨rfl, hT1, hB1⟩; have HB1 := Lib.hid hB1; clear hB1 hT1)
        | fail)
      go_ret
      exact ⟨rfl, HB1.out⟩
    · have h1' : ¬ (30 : Int) < (ln : Int) := by omega
      have h2' : (60 : Int) < (pn : Int) := by omega
      clear h1 h2 hbig hx hy HL HP HH
      go_enter Tryz.func4, Tryz.ntmps4
      go_wp2_with (first
        | (go_at_call 5; (with_reducible refine (CR0.out).mono ?_); clear CR0; rintro e w1 ⟨rfl, hT1, hB1⟩; have HB1 := Lib.hid hB1; clear hB1 hT1)
        | fail)
      go_ret
      exact ⟨rfl, HB1.out⟩
    · have h1' : ¬ (30 : Int) < (ln : Int) := by omega
      have h2' : ¬ (60 : Int) < (pn : Int) := by omega
      have h3' : (200 : Int) < (hn : Int) := by omega
      clear h1 h2 h3 hbig hx hy HL HP HH
      go_enter Tryz.func4, Tryz.ntmps4
      go_wp2_with (first
        | (go_at_call 5; (with_reducible refine (CR0.out).mono ?_); clear CR0; rintro e w1 ⟨rfl, hT1, hB1⟩; have HB1 := Lib.hid hB1; clear hB1 hT1)
        | fail)
      go_ret
      exact ⟨rfl, HB1.out⟩
  · have h1 : ¬ (30 : Int) < (ln : Int) := by omega
    have h2 : ¬ (60 : Int) < (pn : Int) := by omega
    have h3 : ¬ (200 : Int) < (hn : Int) := by omega
    have hln : ln ≤ 30 := by omega
    have hpn : pn ≤ 60 := by omega
    have hhn : hn ≤ 200 := by omega
    obtain ⟨ma, hma, hma8⟩ : ∃ m : Nat, x.tmod 8 = (m : Int) ∧ m < 8 := ⟨(x % 8).toNat, by rw [Int.tmod_eq_emod_of_nonneg hx.1]; omega, by omega⟩
    obtain ⟨mb, hmb, hmb8⟩ : ∃ m : Nat, y.tmod 8 = (m : Int) ∧ m < 8 := ⟨(y % 8).toNat, by rw [Int.tmod_eq_emod_of_nonneg hy.1]; omega, by omega⟩
    have HM := Lib.hid (And.intro hma8 hmb8)
    obtain ⟨hx0, hx1⟩ := hx
    obtain ⟨hy0, hy1⟩ := hy
    clear hbig
    go_enter Tryz.func4, Tryz.ntmps4
    go_wp2_with (first
      | (go_at_call 5; (with_reducible refine (CR0.out).mono ?_); clear CR0; rintro e w1 ⟨rfl, hT1, hB1⟩; have HB1 := Lib.hid (And.intro hT1 hB1); clear hB1 hT1)
      | fail)
    have HN : Hid ((w1.alloc (.cells #[.int .i64 (1 + (ma : Int)), .int .i64 (1 + (mb : Int))] 3)).heap[w1.heap.size]? = some (.cells #[.int .i64 (1 + (ma : Int)), .int .i64 (1 + (mb : Int))] 3) ∧ TAB (w1.alloc (.cells #[.int .i64 (1 + (ma : Int)), .int .i64 (1 + (mb : Int))] 3)) ∧ Below W.heap.size W (w1.alloc (.cells #[.int .i64 (1 + (ma : Int)), .int .i64 (1 + (mb : Int))] 3))) := Lib.hid (by
      have hB := (Below.refl w1.heap.size w1).alloc (Nat.le_refl _) (.cells #[.int .i64 (1 + (ma : Int)), .int .i64 (1 + (mb : Int))] 3)
      exact ⟨heap_alloc_new w1 _, tab_block HB1.out.1 (hB.block 0 (tab_pos HB1.out.1)), HB1.out.2.trans (hB.mono HB1.out.2.size)⟩)
    obtain ⟨nb, hnb⟩ : ∃ nb, w1.heap.size = nb := ⟨_, rfl⟩
    have HNB : Hid (W.heap.size ≤ nb) := Lib.hid (by rw [← hnb]; exact HB1.out.2.size)
    rw [hnb] at HN ⊢
    clear HB1 hnb
    go_loopw [52] (fun s52 wr => ∃ k : Nat, k ≤ 2 ∧ s52 = .int .i64 k ∧ Hid (wr.heap[nb]? = some (.cells #[.int .i64 (1 + (ma : Int)), .int .i64 (1 + (mb : Int))] 3) ∧ TAB wr ∧ Below W.heap.size W wr)) (fun s52 _ => 2 - (intOf s52).toNat)
    case atStart => exact ⟨0, by omega, rfl, HN⟩
    case round =>
      obtain ⟨k, hk, rfl, HJ⟩ := hrel
      clear HN
      by_cases hk2 : k = 2
      · subst hk2
        clear hk
        go_wp2_with fail
        go_ret
        exact ⟨rfl, HJ.out.2.2⟩
      · have hk3 : (k : Int) < 2 := by omega
        have hk4 : k < 2 := by omega
        obtain ⟨m, hm8, hcell⟩ : ∃ m : Nat, m < 8 ∧ wr.cell? ⟨nb, k, none⟩ = some (.int .i64 (1 + (m : Int))) := by
          rcases (show k = 0 ∨ k = 1 by omega) with rfl | rfl
          · exact ⟨ma, HM.out.1, (cell_of HJ.out.1 0 _ rfl).1⟩
          · exact ⟨mb, HM.out.2, (cell_of HJ.out.1 1 _ rfl).1⟩
        have CN : Hid (∀ w, TAB w → Calls Tryz.prog 6 #[.int .i64 (1 + (m : Int)), .int .i64 1, .int .i64 1000] w fun e w' => ∃ A : EA, e = .returned (ptr A.e) ∧ ER A (En.new (1 + m) 1000) w' ∧ Below w.heap.size w w' ∧ ∀ x, A.has (1 + m) x → x = 0 ∨ w.heap.size ≤ x) := Lib.hid fun w hw => by
          have := enew_at (1 + m) (by omega) (by omega) 1000 (by omega) (by omega) w hw
          rw [show ((1 + m : Nat) : Int) = 1 + (m : Int) by omega] at this
          exact this
        have hmm := @run_makeMap Tryz.prog
        clear hk
        go_wp2_with (first
          | (go_at_call 6; refine (CN.out _ HJ.out.2.1).mono ?_; clear CN; rintro e w2 ⟨A, rfl, her, hB, hlo⟩; have HE := Lib.hid (And.intro her (And.intro hB hlo)); clear her hB hlo)
          | fail)
        have HJS : Hid (RdT wr l ln zl ∧ RdB wr p pn zp ∧ RdB wr h hn zh ∧ wr.heap.size = wr.heap.size) := Lib.hid ⟨rdt_below HL.out HJ.out.2.2, rdb_below HP.out HJ.out.2.2, rdb_below HH.out HJ.out.2.2, rfl⟩
        obtain ⟨hTB, hXS⟩ := xs_new (by omega : 1 + m ≤ 16) HE.out.1 HE.out.2.1 HE.out.2.2
        have HTB := Lib.hid hTB
        have HXS := Lib.hid hXS
        have HN8 : Hid (1 + m ≤ 16) := Lib.hid (by omega)
        obtain ⟨n, hnn⟩ : ∃ n, 1 + m = n := ⟨_, rfl⟩
        have hni : (1 + (m : Int)) = (n : Int) := by omega
        obtain ⟨sb, hsb⟩ : ∃ sb, w2.heap.size = sb := ⟨_, rfl⟩
        rw [hnn] at HTB HXS HN8
        rw [hsb] at HTB HXS ⊢
        rw [hni] at hcell ⊢
        obtain ⟨w0, hw0⟩ : ∃ w0, w0 = wr := ⟨_, rfl⟩
        subst hw0
        clear HE hTB hXS hnn hsb hcell hmm hk2
        go_loopw [62] (fun s62 wr => ∃ (j : Nat) (E : En) (M : GM), j ≤ ln ∧ s62 = .int .i64 j ∧ Hid (XS A sb n w0 j E M (sof M) wr)) (fun s62 _ => ln - (intOf s62).toNat)
        case atStart => exact ⟨0, _, _, by omega, rfl, HXS⟩
        case round =>
          obtain ⟨j, E, M, hj, rfl, HJ2⟩ := hrel
          clear HXS
          by_cases hjn : j = ln
          · subst hjn
            clear hj
            have HXU := Lib.hid (xu_of HJ2.out (by omega))
            go_wp2_with fail
            have HXU0 : Hid (XU A sb n w0 (((1 : Nat) : Int) - 1) E M wr) := Lib.hid (by have := HXU.out; simpa using this)
            clear HJ2 HXU
            go_loopw [20] (fun s20 wr => ∃ (t : Nat) (E : En) (M : GM), 1 ≤ t ∧ t ≤ 301 ∧ s20 = .int .i64 t ∧ Hid (XU A sb n w0 ((t : Int) - 1) E M wr)) (fun s20 _ => 301 - (intOf s20).toNat)
            case atStart => exact ⟨1, E, M, by omega, by omega, rfl, HXU0⟩
            case round =>
              obtain ⟨t, E1, M1, ht1, ht2, rfl, HX3⟩ := hrel
              clear HXU0
              by_cases ht : t = 301
              · have ht3 : ¬ (t : Int) ≤ 300 := by omega
                obtain ⟨hN, hwn⟩ := pl_end HX3.out.pl (by omega)
                obtain ⟨cm, hmv, hcq⟩ := HX3.out.xr.mv
                obtain rfl := mv_zero hmv (fun i => by unfold sof; rw [hN]; rfl)
                have HMV0 := Lib.hid hmv
                have CL : Hid (Calls Tryz.prog 11 #[ptr A.e] wr fun e W' => e = .returned (.int .i64 0) ∧ W' = wr) := Lib.hid (by
                  have := elen_at wr HX3.out.xr.er
                  rw [hwn] at this
                  exact this)
                have HJ9 : Hid (wr.heap[nb]? = some (.cells #[.int .i64 (1 + (ma : Int)), .int .i64 (1 + (mb : Int))] 3) ∧ TAB wr ∧ Below W.heap.size W wr) := Lib.hid (by
                  have hB := HX3.out.xr.bl
                  exact ⟨(hB.block nb (Array.getElem?_eq_some_iff.1 HJ.out.1).1).trans HJ.out.1, tab_block HJ.out.2.1 (hB.block 0 (tab_pos HJ.out.2.1)), HJ.out.2.2.trans (hB.mono HJ.out.2.2.size)⟩)
                clear hmv hcq hN hwn ht ht1 ht2
                go_wp2_with (first
                  | (at_len; refine wpList_len_mv _ rfl _ 45 rfl Tryz.underlying45 HMV0.out rfl ?_)
                  | (go_at_call 11; refine (CL.out).mono ?_; clear CL; rintro e w8 ⟨rfl, hw8⟩; cases hw8)
                  | fail)
                go_roundw
                case rel => exact ⟨k + 1, by omega, by go_num, HJ9⟩
                case measure => simp [intOf]; omega
              · have ht3 : (t : Int) ≤ 300 := by omega
                have ht4 : t ≤ 300 := by omega
                have CRN := Lib.hid (fun E2 M2 w (hX : XU A sb n w0 ((t : Int) - 1) E2 M2 w) => by
                  have := xu_run HTB.out hX (by omega) 2
                  rw [Int.sub_add_cancel] at this
                  exact this)
                by_cases hkt : k = 1 ∧ t ≤ hn
                · obtain ⟨hk1, htn⟩ := hkt
                  have hkb : ((k : Int) == 1) = true := by rw [hk1]; rfl
                  have htn2 : (t : Int) ≤ (hn : Int) := by omega
                  obtain ⟨bh, oh, rfl, hch⟩ := HJS.out.2.2.1 (by omega : 0 < hn)
                  obtain ⟨ch, hz1, hz2⟩ := hch (t - 1) (by omega)
                  replace ch := (World.cell?_of_block (a := ⟨bh, oh + (t - 1), none⟩) (HX3.out.xr.bl.block bh (cell_lt ch))).trans ch
                  obtain ⟨z, hz⟩ : ∃ z, zh (t - 1) = z := ⟨_, rfl⟩
                  rw [hz] at ch hz1 hz2
                  have htm : ((t : Int) - 1).toNat = t - 1 := by omega
                  have ht0 : 0 ≤ (t : Int) - 1 := by omega
                  have htl : (t : Int) - 1 < (hn : Int) := by omega
                  obtain ⟨c8, hc8, hc9⟩ : ∃ c : Int, z.tmod 8 = c ∧ 0 ≤ c ∧ c ≤ 255 := ⟨z % 8, Int.tmod_eq_emod_of_nonneg hz1, by omega, by omega⟩
                  have CH1 := Lib.hid (xu_hot HTB.out HX3.out (by omega) 11 c8 (.inr rfl) hc9)
                  have CH0 := Lib.hid (xu_hot HTB.out HX3.out (by omega) 10 c8 (.inl rfl) hc9)
                  clear hch hz ht ht2 hk3 hk4 hk1
                  obtain ⟨hc90, hc91⟩ := hc9
                  by_cases hgt : 127 < z
                  · go_wp2_with (first
                      | (go_at_call 7; refine (CH1.out).mono ?_; clear CH1 CH0; rintro e w5 ⟨v5, E5, M5, rfl, hXU⟩; have HX5 := Lib.hid hXU; clear hXU)
                      | (go_at_call 10; refine (CRN.out _ _ _ HX5.out).mono ?_; clear CRN; rintro e w6 ⟨pp, kk, cc, E3, M3, o, rfl, hkk, hol, hXF⟩; have HXF := Lib.hid hXF; clear hXF)
                      | fail)
                    obtain ⟨fb0, hfb0⟩ : ∃ q, w5.heap.size + 1 = q := ⟨_, rfl⟩
                    rw [hfb0] at HXF
                    clear hfb0
                    go_loopw [143] (fun s143 wr => ∃ i : Nat, i ≤ kk ∧ s143 = .int .i64 i ∧ Hid (XF A sb n w0 t (fb0) (.slice pp kk cc) o i E3 M3 wr)) (fun s143 _ => kk - (intOf s143).toNat)
                    case atStart => exact ⟨0, by omega, rfl, HXF⟩
                    case round =>
                      obtain ⟨i, hi, rfl, HF⟩ := hrel
                      clear HXF
                      by_cases hik : i = kk
                      · subst hik
                        have HX9 : Hid (XU A sb n w0 (((t + 1 : Nat) : Int) - 1) E3 M3 wr) := Lib.hid (by
                          have := xf_end HF.out hol.symm
                          rw [show (((t + 1 : Nat) : Int) - 1) = (t : Int) by omega]
                          exact this)
                        clear hi HF
                        go_wp2_with fail
                        go_roundw
                        case rel => exact ⟨t + 1, E3, M3, by omega, by omega, by go_num, HX9⟩
                        case measure => simp [intOf]; omega
                      · have hi2 : (i : Int) < (kk : Int) := by omega
                        obtain ⟨gb, fx, rfl, hof, g0, g1, g2, g3, g4⟩ := xf_at HF.out rfl (show i < o.length by omega)
                        have HFA : Hid (XF A sb n w0 t fb0 (.slice (some ⟨gb, 0, none⟩) kk cc) o i E3 M3 (wr.alloc (.cells #[.int .i64 fx.id, .int .i64 fx.clock, .int .i64 fx.cpu, .int .i64 fx.mono, .int .i64 fx.read] 48))) := Lib.hid (xf_below HF.out ((Below.refl _ _).alloc (Nat.le_refl _) _))
                        obtain ⟨fm, cm, s, hmv, ⟨lit, hlit⟩, hfs, hs1, hs2, hnext⟩ := xf_map HFA.out hof
                        have HMV := Lib.hid hmv
                        have HLIT := Lib.hid hlit
                        have HLK : Hid (look (.int .i64 0) true ki (fm fx.id) = .tuple #[.int .i64 s, .bool true]) := Lib.hid (by rw [hfs]; rfl)
                        have HNX := Lib.hid hnext
                        have hw3 : IntKind.i64.wrap (max s 1 + 3) = max s 1 + 3 := iw (by omega) (by omega)
                        have hns : ¬ (t : Int) < s := by omega
                        have hnl : ¬ max s 1 + 3 < (t : Int) := by omega
                        obtain ⟨fid, fcl, fcpu, fmono, fread⟩ := fx
                        dsimp only at g0 g1 g2 g3 g4 HMV HLIT HLK HNX
                        clear hmv hlit hfs hnext hof hik HFA hs1 hs2
                        go_wp2_with (first
                          | (at_lookup; refine wpList_look_mv _ rfl _ _ 45 true rfl keyed3 Tryz.underlying45 (zero3 _) ki_inj HMV.out fid HLIT.out rfl rfl _ HLK.out ?_)
                          | (at_delete; refine wpList_drop_mv _ rfl _ _ 45 3 rfl keyed3 Tryz.underlying45 ki_inj HMV.out fid HLIT.out rfl rfl ?_; intro w7 m7 g7; have HF7 := Lib.hid (HNX.out _ _ m7 (by split <;> omega) g7 HTB.out); clear m7 g7)
                          | fail)
                        go_roundw
                        case rel => exact ⟨i + 1, by omega, by go_num, HF7⟩
                        case measure => simp [intOf]; omega
                  · go_wp2_with (first
                      | (go_at_call 7; refine (CH0.out).mono ?_; clear CH1 CH0; rintro e w5 ⟨v5, E5, M5, rfl, hXU⟩; have HX5 := Lib.hid hXU; clear hXU)
                      | (go_at_call 10; refine (CRN.out _ _ _ HX5.out).mono ?_; clear CRN; rintro e w6 ⟨pp, kk, cc, E3, M3, o, rfl, hkk, hol, hXF⟩; have HXF := Lib.hid hXF; clear hXF)
                      | fail)
                    obtain ⟨fb0, hfb0⟩ : ∃ q, w5.heap.size + 1 = q := ⟨_, rfl⟩
                    rw [hfb0] at HXF
                    clear hfb0
                    go_loopw [143] (fun s143 wr => ∃ i : Nat, i ≤ kk ∧ s143 = .int .i64 i ∧ Hid (XF A sb n w0 t (fb0) (.slice pp kk cc) o i E3 M3 wr)) (fun s143 _ => kk - (intOf s143).toNat)
                    case atStart => exact ⟨0, by omega, rfl, HXF⟩
                    case round =>
                      obtain ⟨i, hi, rfl, HF⟩ := hrel
                      clear HXF
                      by_cases hik : i = kk
                      · subst hik
                        have HX9 : Hid (XU A sb n w0 (((t + 1 : Nat) : Int) - 1) E3 M3 wr) := Lib.hid (by
                          have := xf_end HF.out hol.symm
                          rw [show (((t + 1 : Nat) : Int) - 1) = (t : Int) by omega]
                          exact this)
                        clear hi HF
                        go_wp2_with fail
                        go_roundw
                        case rel => exact ⟨t + 1, E3, M3, by omega, by omega, by go_num, HX9⟩
                        case measure => simp [intOf]; omega
                      · have hi2 : (i : Int) < (kk : Int) := by omega
                        obtain ⟨gb, fx, rfl, hof, g0, g1, g2, g3, g4⟩ := xf_at HF.out rfl (show i < o.length by omega)
                        have HFA : Hid (XF A sb n w0 t fb0 (.slice (some ⟨gb, 0, none⟩) kk cc) o i E3 M3 (wr.alloc (.cells #[.int .i64 fx.id, .int .i64 fx.clock, .int .i64 fx.cpu, .int .i64 fx.mono, .int .i64 fx.read] 48))) := Lib.hid (xf_below HF.out ((Below.refl _ _).alloc (Nat.le_refl _) _))
                        obtain ⟨fm, cm, s, hmv, ⟨lit, hlit⟩, hfs, hs1, hs2, hnext⟩ := xf_map HFA.out hof
                        have HMV := Lib.hid hmv
                        have HLIT := Lib.hid hlit
                        have HLK : Hid (look (.int .i64 0) true ki (fm fx.id) = .tuple #[.int .i64 s, .bool true]) := Lib.hid (by rw [hfs]; rfl)
                        have HNX := Lib.hid hnext
                        have hw3 : IntKind.i64.wrap (max s 1 + 3) = max s 1 + 3 := iw (by omega) (by omega)
                        have hns : ¬ (t : Int) < s := by omega
                        have hnl : ¬ max s 1 + 3 < (t : Int) := by omega
                        obtain ⟨fid, fcl, fcpu, fmono, fread⟩ := fx
                        dsimp only at g0 g1 g2 g3 g4 HMV HLIT HLK HNX
                        clear hmv hlit hfs hnext hof hik HFA hs1 hs2
                        go_wp2_with (first
                          | (at_lookup; refine wpList_look_mv _ rfl _ _ 45 true rfl keyed3 Tryz.underlying45 (zero3 _) ki_inj HMV.out fid HLIT.out rfl rfl _ HLK.out ?_)
                          | (at_delete; refine wpList_drop_mv _ rfl _ _ 45 3 rfl keyed3 Tryz.underlying45 ki_inj HMV.out fid HLIT.out rfl rfl ?_; intro w7 m7 g7; have HF7 := Lib.hid (HNX.out _ _ m7 (by split <;> omega) g7 HTB.out); clear m7 g7)
                          | fail)
                        go_roundw
                        case rel => exact ⟨i + 1, by omega, by go_num, HF7⟩
                        case measure => simp [intOf]; omega
                · have hk01 : k = 0 ∨ (k = 1 ∧ ¬ t ≤ hn) := by omega
                  clear ht ht2 hkt
                  rcases hk01 with hk1 | ⟨hk1, htn⟩
                  · have hkb : ((k : Int) == 1) = false := by rw [hk1]; rfl
                    clear hk3 hk4 hk1
                    go_wp2_with (first
                      | (go_at_call 10; refine (CRN.out _ _ _ HX3.out).mono ?_; clear CRN; rintro e w6 ⟨pp, kk, cc, E3, M3, o, rfl, hkk, hol, hXF⟩; have HXF := Lib.hid hXF; clear hXF)
                      | fail)
                    obtain ⟨fb0, hfb0⟩ : ∃ q, wr.heap.size + 1 = q := ⟨_, rfl⟩
                    rw [hfb0] at HXF
                    clear hfb0
                    go_loopw [143] (fun s143 wr => ∃ i : Nat, i ≤ kk ∧ s143 = .int .i64 i ∧ Hid (XF A sb n w0 t (fb0) (.slice pp kk cc) o i E3 M3 wr)) (fun s143 _ => kk - (intOf s143).toNat)
                    case atStart => exact ⟨0, by omega, rfl, HXF⟩
                    case round =>
                      obtain ⟨i, hi, rfl, HF⟩ := hrel
                      clear HXF
                      by_cases hik : i = kk
                      · subst hik
                        have HX9 : Hid (XU A sb n w0 (((t + 1 : Nat) : Int) - 1) E3 M3 wr) := Lib.hid (by
                          have := xf_end HF.out hol.symm
                          rw [show (((t + 1 : Nat) : Int) - 1) = (t : Int) by omega]
                          exact this)
                        clear hi HF
                        go_wp2_with fail
                        go_roundw
                        case rel => exact ⟨t + 1, E3, M3, by omega, by omega, by go_num, HX9⟩
                        case measure => simp [intOf]; omega
                      · have hi2 : (i : Int) < (kk : Int) := by omega
                        obtain ⟨gb, fx, rfl, hof, g0, g1, g2, g3, g4⟩ := xf_at HF.out rfl (show i < o.length by omega)
                        have HFA : Hid (XF A sb n w0 t fb0 (.slice (some ⟨gb, 0, none⟩) kk cc) o i E3 M3 (wr.alloc (.cells #[.int .i64 fx.id, .int .i64 fx.clock, .int .i64 fx.cpu, .int .i64 fx.mono, .int .i64 fx.read] 48))) := Lib.hid (xf_below HF.out ((Below.refl _ _).alloc (Nat.le_refl _) _))
                        obtain ⟨fm, cm, s, hmv, ⟨lit, hlit⟩, hfs, hs1, hs2, hnext⟩ := xf_map HFA.out hof
                        have HMV := Lib.hid hmv
                        have HLIT := Lib.hid hlit
                        have HLK : Hid (look (.int .i64 0) true ki (fm fx.id) = .tuple #[.int .i64 s, .bool true]) := Lib.hid (by rw [hfs]; rfl)
                        have HNX := Lib.hid hnext
                        have hw3 : IntKind.i64.wrap (max s 1 + 3) = max s 1 + 3 := iw (by omega) (by omega)
                        have hns : ¬ (t : Int) < s := by omega
                        have hnl : ¬ max s 1 + 3 < (t : Int) := by omega
                        obtain ⟨fid, fcl, fcpu, fmono, fread⟩ := fx
                        dsimp only at g0 g1 g2 g3 g4 HMV HLIT HLK HNX
                        clear hmv hlit hfs hnext hof hik HFA hs1 hs2
                        go_wp2_with (first
                          | (at_lookup; refine wpList_look_mv _ rfl _ _ 45 true rfl keyed3 Tryz.underlying45 (zero3 _) ki_inj HMV.out fid HLIT.out rfl rfl _ HLK.out ?_)
                          | (at_delete; refine wpList_drop_mv _ rfl _ _ 45 3 rfl keyed3 Tryz.underlying45 ki_inj HMV.out fid HLIT.out rfl rfl ?_; intro w7 m7 g7; have HF7 := Lib.hid (HNX.out _ _ m7 (by split <;> omega) g7 HTB.out); clear m7 g7)
                          | fail)
                        go_roundw
                        case rel => exact ⟨i + 1, by omega, by go_num, HF7⟩
                        case measure => simp [intOf]; omega
                  · have hkb : ((k : Int) == 1) = true := by rw [hk1]; rfl
                    have htn2 : ¬ (t : Int) ≤ (hn : Int) := by omega
                    clear hk3 hk4 hk1 htn
                    go_wp2_with (first
                      | (go_at_call 10; refine (CRN.out _ _ _ HX3.out).mono ?_; clear CRN; rintro e w6 ⟨pp, kk, cc, E3, M3, o, rfl, hkk, hol, hXF⟩; have HXF := Lib.hid hXF; clear hXF)
                      | fail)
                    obtain ⟨fb0, hfb0⟩ : ∃ q, wr.heap.size + 1 = q := ⟨_, rfl⟩
                    rw [hfb0] at HXF
                    clear hfb0
                    go_loopw [143] (fun s143 wr => ∃ i : Nat, i ≤ kk ∧ s143 = .int .i64 i ∧ Hid (XF A sb n w0 t (fb0) (.slice pp kk cc) o i E3 M3 wr)) (fun s143 _ => kk - (intOf s143).toNat)
                    case atStart => exact ⟨0, by omega, rfl, HXF⟩
                    case round =>
                      obtain ⟨i, hi, rfl, HF⟩ := hrel
                      clear HXF
                      by_cases hik : i = kk
                      · subst hik
                        have HX9 : Hid (XU A sb n w0 (((t + 1 : Nat) : Int) - 1) E3 M3 wr) := Lib.hid (by
                          have := xf_end HF.out hol.symm
                          rw [show (((t + 1 : Nat) : Int) - 1) = (t : Int) by omega]
                          exact this)
                        clear hi HF
                        go_wp2_with fail
                        go_roundw
                        case rel => exact ⟨t + 1, E3, M3, by omega, by omega, by go_num, HX9⟩
                        case measure => simp [intOf]; omega
                      · have hi2 : (i : Int) < (kk : Int) := by omega
                        obtain ⟨gb, fx, rfl, hof, g0, g1, g2, g3, g4⟩ := xf_at HF.out rfl (show i < o.length by omega)
                        have HFA : Hid (XF A sb n w0 t fb0 (.slice (some ⟨gb, 0, none⟩) kk cc) o i E3 M3 (wr.alloc (.cells #[.int .i64 fx.id, .int .i64 fx.clock, .int .i64 fx.cpu, .int .i64 fx.mono, .int .i64 fx.read] 48))) := Lib.hid (xf_below HF.out ((Below.refl _ _).alloc (Nat.le_refl _) _))
                        obtain ⟨fm, cm, s, hmv, ⟨lit, hlit⟩, hfs, hs1, hs2, hnext⟩ := xf_map HFA.out hof
                        have HMV := Lib.hid hmv
                        have HLIT := Lib.hid hlit
                        have HLK : Hid (look (.int .i64 0) true ki (fm fx.id) = .tuple #[.int .i64 s, .bool true]) := Lib.hid (by rw [hfs]; rfl)
                        have HNX := Lib.hid hnext
                        have hw3 : IntKind.i64.wrap (max s 1 + 3) = max s 1 + 3 := iw (by omega) (by omega)
                        have hns : ¬ (t : Int) < s := by omega
                        have hnl : ¬ max s 1 + 3 < (t : Int) := by omega
                        obtain ⟨fid, fcl, fcpu, fmono, fread⟩ := fx
                        dsimp only at g0 g1 g2 g3 g4 HMV HLIT HLK HNX
                        clear hmv hlit hfs hnext hof hik HFA hs1 hs2
                        go_wp2_with (first
                          | (at_lookup; refine wpList_look_mv _ rfl _ _ 45 true rfl keyed3 Tryz.underlying45 (zero3 _) ki_inj HMV.out fid HLIT.out rfl rfl _ HLK.out ?_)
                          | (at_delete; refine wpList_drop_mv _ rfl _ _ 45 3 rfl keyed3 Tryz.underlying45 ki_inj HMV.out fid HLIT.out rfl rfl ?_; intro w7 m7 g7; have HF7 := Lib.hid (HNX.out _ _ m7 (by split <;> omega) g7 HTB.out); clear m7 g7)
                          | fail)
                        go_roundw
                        case rel => exact ⟨i + 1, by omega, by go_num, HF7⟩
                        case measure => simp [intOf]; omega
          · have hj2 : (j : Int) < (ln : Int) := by omega
            have hj3 : j < ln := by omega
            obtain ⟨b, off, rfl, hcell⟩ := HJS.out.1 (by omega : 0 < ln)
            obtain ⟨⟨c0, c1, c2, c3, c4⟩, hzw⟩ := hcell j hj3
            have hblk := HJ2.out.xr.bl.block b (cell_lt c0)
            replace c0 := (World.cell?_of_block (a := ⟨b, off + j * 5, none⟩) hblk).trans c0
            replace c1 := (World.cell?_of_block (a := ⟨b, off + j * 5 + 1, none⟩) hblk).trans c1
            replace c2 := (World.cell?_of_block (a := ⟨b, off + j * 5 + 2, none⟩) hblk).trans c2
            replace c3 := (World.cell?_of_block (a := ⟨b, off + j * 5 + 3, none⟩) hblk).trans c3
            replace c4 := (World.cell?_of_block (a := ⟨b, off + j * 5 + 4, none⟩) hblk).trans c4
            obtain ⟨t, ht⟩ : ∃ t, zl j = t := ⟨_, rfl⟩
            rw [ht] at c0 c1 c2 c3 c4
            obtain ⟨tid, tcl, tso, tha, tlz⟩ := t
            dsimp only at c0 c1 c2 c3 c4
            obtain ⟨so, hso, hsr⟩ : ∃ so : Int, bits .and .i64 tso 255 = so ∧ 0 ≤ so ∧ so ≤ 255 := ⟨_, i64_and255 tso, by omega, by omega⟩
            clear hcell hzw hblk ht
            have HSR := Lib.hid hsr
            clear hsr
            have HNW := Lib.hid (heap_alloc_new wr (.cells #[.int .i64 (j : Nat), .int .i64 0, .int .i64 so, .int .i64 so, .bool tlz] 31))
            have HNH : Hid (wr.heap.size < (wr.alloc (.cells #[.int .i64 (j : Nat), .int .i64 0, .int .i64 so, .int .i64 so, .bool tlz] 31)).heap.size ∧ ¬ A.has n wr.heap.size) := Lib.hid ⟨by simp, fun e => by
              have := er_lt HJ2.out.xr.er wr.heap.size (by rw [HJ2.out.xr.n]; exact e)
              omega⟩
            have HKJ : Hid (keyOf Tryz.prog 3 (ki (j : Int)) = some (.int .i64 (j : Int)) ∧ j < 30) := Lib.hid ⟨ki_key (by omega), by omega⟩
            by_cases hkp : k = 1 ∧ j < pn
            · obtain ⟨hk1, hjp⟩ := hkp
              have hkb : ((k : Int) == 1) = true := by rw [hk1]; rfl
              clear hk3 hk4 hk1
              have hjp2 : (j : Int) < (pn : Int) := by omega
              obtain ⟨bp, op, rfl, hcp⟩ := HJS.out.2.1 (by omega : 0 < pn)
              obtain ⟨cp, hz1, hz2⟩ := hcp j hjp
              replace cp := (World.cell?_of_block (a := ⟨bp, op + j, none⟩) (HJ2.out.xr.bl.block bp (cell_lt cp))).trans cp
              obtain ⟨z, hz⟩ : ∃ z, zp j = z := ⟨_, rfl⟩
              rw [hz] at cp hz1 hz2
              clear hcp hz
              have hbp := cell_lt cp
              have hn0 : ¬ (n : Int) = 0 := by omega
              obtain ⟨c, hc, hcn⟩ : ∃ c : Nat, z.tmod (n : Int) = (c : Int) ∧ c < n := ⟨(z % (n : Int)).toNat, by
                rw [Int.tmod_eq_emod_of_nonneg hz1]
                have := Int.emod_nonneg z hn0
                omega, by
                have := Int.emod_nonneg z hn0
                have := Int.emod_lt_of_pos z (show 0 < (n : Int) by omega)
                omega⟩
              have CD := Lib.hid (fun w (hX : XS A sb n w0 j E M (sof M) w) => xs_do HTB.out hX (by omega) hcn so HSR.out tlz)
              clear hj hjn hcn
              go_wp2_with (first
                | (go_at_call 7; refine (CD.out _ (xs_below HJ2.out ((Below.refl _ _).alloc (Nat.le_refl _) _))).mono ?_; clear CD; rintro e w3 ⟨v, E2, M2, rfl, hXT, hblk⟩; have hn3 := (hblk _ HNH.out.1 HNH.out.2).trans HNW.out; obtain ⟨⟨d0, -⟩, ⟨d1, -⟩, ⟨d2, -⟩, ⟨d3, -⟩, d4, -⟩ := cells5 hn3; obtain ⟨cn, hmv, hcq⟩ := hXT.xr.mv; have HXT := Lib.hid hXT; have HMV := Lib.hid hmv; have HCQ := Lib.hid hcq; clear hXT hblk hn3 hmv hcq)
                | (at_mapUpdate; refine wpList_store_mv _ rfl _ _ _ 45 rfl keyed3 Tryz.underlying45 ki_inj HMV.out (j : Int) so HKJ.out.1 (by have := HCQ.out; have := HKJ.out.2; omega) rfl rfl rfl ?_; intro w4 m4 g4; have HX4 := Lib.hid (xt_map HTB.out HXT.out m4 (by have := HCQ.out; split <;> omega) rfl g4); clear m4 g4; dsimp only; rw [put_none])
                | fail)
              go_roundw
              case rel => exact ⟨j + 1, E2, M2, by omega, by go_num, HX4⟩
              case measure => simp [intOf]; omega
            · have CD : Hid (∀ w, XS A sb n w0 j E M (sof M) w → Calls Tryz.prog 7 #[ptr A.e, .agg #[.int .i64 1, .int .i64 0, .int .i64 0, .int .i64 (j : Nat), .int .i64 0, .int .i64 so, .int .i64 so, .bool tlz]] w fun e w' => ∃ v E' M', e = .returned (.tuple #[v, .int .i64 0]) ∧ XT A sb n w0 j so E' M' (sof M) w' ∧ (∀ x, x < w.heap.size → ¬ A.has n x → w'.heap[x]? = w.heap[x]?)) := Lib.hid (fun w hX => xs_do (c := 0) HTB.out hX (by omega) (by omega) so HSR.out tlz)
              have hk01 : k = 0 ∨ (k = 1 ∧ ¬ j < pn) := by omega
              clear hj hjn hkp
              rcases hk01 with hk1 | ⟨hk1, hjp⟩
              · have hkb : ((k : Int) == 1) = false := by rw [hk1]; rfl
                clear hk3 hk4 hk1
                go_wp2_with (first
                  | (go_at_call 7; refine (CD.out _ (xs_below HJ2.out ((Below.refl _ _).alloc (Nat.le_refl _) _))).mono ?_; clear CD; rintro e w3 ⟨v, E2, M2, rfl, hXT, hblk⟩; have hn3 := (hblk _ HNH.out.1 HNH.out.2).trans HNW.out; obtain ⟨⟨d0, -⟩, ⟨d1, -⟩, ⟨d2, -⟩, ⟨d3, -⟩, d4, -⟩ := cells5 hn3; obtain ⟨cn, hmv, hcq⟩ := hXT.xr.mv; have HXT := Lib.hid hXT; have HMV := Lib.hid hmv; have HCQ := Lib.hid hcq; clear hXT hblk hn3 hmv hcq)
                  | (at_mapUpdate; refine wpList_store_mv _ rfl _ _ _ 45 rfl keyed3 Tryz.underlying45 ki_inj HMV.out (j : Int) so HKJ.out.1 (by have := HCQ.out; have := HKJ.out.2; omega) rfl rfl rfl ?_; intro w4 m4 g4; have HX4 := Lib.hid (xt_map HTB.out HXT.out m4 (by have := HCQ.out; split <;> omega) rfl g4); clear m4 g4; dsimp only; rw [put_none])
                  | fail)
                go_roundw
                case rel => exact ⟨j + 1, E2, M2, by omega, by go_num, HX4⟩
                case measure => simp [intOf]; omega
              · have hjp2 : ¬ (j : Int) < (pn : Int) := by omega
                have hkb : ((k : Int) == 1) = true := by rw [hk1]; rfl
                clear hjp hk3 hk4 hk1
                go_wp2_with (first
                  | (go_at_call 7; refine (CD.out _ (xs_below HJ2.out ((Below.refl _ _).alloc (Nat.le_refl _) _))).mono ?_; clear CD; rintro e w3 ⟨v, E2, M2, rfl, hXT, hblk⟩; have hn3 := (hblk _ HNH.out.1 HNH.out.2).trans HNW.out; obtain ⟨⟨d0, -⟩, ⟨d1, -⟩, ⟨d2, -⟩, ⟨d3, -⟩, d4, -⟩ := cells5 hn3; obtain ⟨cn, hmv, hcq⟩ := hXT.xr.mv; have HXT := Lib.hid hXT; have HMV := Lib.hid hmv; have HCQ := Lib.hid hcq; clear hXT hblk hn3 hmv hcq)
                  | (at_mapUpdate; refine wpList_store_mv _ rfl _ _ _ 45 rfl keyed3 Tryz.underlying45 ki_inj HMV.out (j : Int) so HKJ.out.1 (by have := HCQ.out; have := HKJ.out.2; omega) rfl rfl rfl ?_; intro w4 m4 g4; have HX4 := Lib.hid (xt_map HTB.out HXT.out m4 (by have := HCQ.out; split <;> omega) rfl g4); clear m4 g4; dsimp only; rw [put_none])
                  | fail)
                go_roundw
                case rel => exact ⟨j + 1, E2, M2, by omega, by go_num, HX4⟩
                case measure => simp [intOf]; omega
end Go.Proofs.YtlcaepcojglbiaaGreatDoor.Tp
namespace Go.Proofs.YtlcaepcojglbiaaGreatDoor.Tp
open Go.RowKit Go.Maps
set_option linter.unusedVariables false
set_option linter.unusedSimpArgs false
set_option maxRecDepth 100000
section
variable {H : Type} {enc : TypeId × Value → H} {w : World} {base : Nat} {spare : Nat → Bool} {held : Bool} {fuel : Nat}
theorem open_timers {a : Option Addr} {len cap : Nat} {x : DataW H × List MemPlace} (h : DataW.trod enc Tryz.prog w base spare held fuel 42 [.slice a len cap] = some x) : ∃ z, RdT w a len z := by
  rcases Go.Deep.open_slice Tryz.underlying42 h with ⟨h0, _⟩ | ⟨y, len', cap', m, n, D, Pl, hcs, hb, hl, hm, hmm, hxx, hx⟩
  · simp at h0
    exact ⟨fun _ => ⟨0, 0, 0, 0, false⟩, fun hp => by omega⟩
  simp at hcs
  obtain ⟨rfl, rfl, rfl⟩ := hcs
  have hlm : len ≤ m := by rw [hmm]; split <;> omega
  have ce : Tryz.prog.cellsOf 31 = 5 := by kernel_rfl
  have each : ∀ i, i < len → ∃ t : Tm, (w.cell? (y.add (i * 5)) = some (.int .i64 t.id) ∧ w.cell? (y.add (i * 5 + 1)) = some (.int .i64 t.clock) ∧ w.cell? (y.add (i * 5 + 2)) = some (.int .i64 t.soft) ∧ w.cell? (y.add (i * 5 + 3)) = some (.int .i64 t.hard) ∧ w.cell? (y.add (i * 5 + 4)) = some (.bool t.lazy)) ∧ t.wf := by
    intro i hi
    obtain ⟨cs', h1, h2⟩ := hx i (by omega)
    rw [ce] at h1
    obtain ⟨_, hlen, hcell⟩ := World.cells?_some h1
    obtain ⟨s, rfl, hw⟩ := open_tm h2
    have q0 := hcell 0 (by omega)
    have q1 := hcell 1 (by omega)
    have q2 := hcell 2 (by omega)
    have q3 := hcell 3 (by omega)
    have q4 := hcell 4 (by omega)
    rw [Go.Deep.add_add] at q0 q1 q2 q3 q4
    exact ⟨s, ⟨by simpa using q0, by simpa using q1, by simpa using q2, by simpa using q3, by simpa using q4⟩, hw⟩
  obtain ⟨z, hz⟩ := @Go.Deep.choose_lt Tm ⟨⟨0, 0, 0, 0, false⟩⟩ _ _ each
  refine ⟨z, fun hp => ?_⟩
  obtain ⟨b, off, spot⟩ := y
  have hspot : spot = none := by simpa [Addr.add] using World.cell?_spot (hz 0 hp).1.1
  subst hspot
  refine ⟨b, off, rfl, fun j hj => ?_⟩
  obtain ⟨⟨h0, h1, h2, h3, h4⟩, hw⟩ := hz j hj
  rw [Go.WideShapes.add_plain] at h0 h1 h2 h3 h4
  exact ⟨⟨h0, by rw [Nat.add_assoc]; exact h1, by rw [Nat.add_assoc]; exact h2, by rw [Nat.add_assoc]; exact h3, by rw [Nat.add_assoc]; exact h4⟩, hw⟩
theorem open_bytes {a : Option Addr} {len cap : Nat} {x : DataW H × List MemPlace} (h : DataW.trod enc Tryz.prog w base spare held fuel 43 [.slice a len cap] = some x) : ∃ z, RdB w a len z := by
  rcases Go.Deep.open_slice Tryz.underlying43 h with ⟨h0, _⟩ | ⟨y, len', cap', m, n, D, Pl, hcs, hb, hl, hm, hmm, hxx, hx⟩
  · simp at h0
    exact ⟨fun _ => 0, fun hp => by omega⟩
  simp at hcs
  obtain ⟨rfl, rfl, rfl⟩ := hcs
  have hlm : len ≤ m := by rw [hmm]; split <;> omega
  have ce : Tryz.prog.cellsOf 5 = 1 := by kernel_rfl
  have each : ∀ i, i < len → ∃ z : Int, w.cell? (y.add (i * 1)) = some (.int .u8 z) ∧ 0 ≤ z ∧ z ≤ 255 := by
    intro i hi
    obtain ⟨cs', h1, h2⟩ := hx i (by omega)
    rw [ce] at h1
    obtain ⟨_, hlen, hcell⟩ := World.cells?_some h1
    obtain ⟨z0, e0, _, w0⟩ := DataW.trod_int Tryz.underlying5 h2
    subst e0
    have q0 := hcell 0 (by omega)
    rw [Go.Deep.add_add] at q0
    exact ⟨z0, by simpa using q0, by simpa [Lit.wf, IntKind.min, IntKind.max, IntKind.signed, IntKind.bits] using w0⟩
  obtain ⟨z, hz⟩ := @Go.Deep.choose_lt Int ⟨0⟩ _ _ each
  refine ⟨z, fun hp => ?_⟩
  obtain ⟨b, off, spot⟩ := y
  have hspot : spot = none := by simpa [Addr.add] using World.cell?_spot (hz 0 hp).1
  subst hspot
  refine ⟨b, off, rfl, fun j hj => ?_⟩
  obtain ⟨h0, hw⟩ := hz j hj
  rw [Go.WideShapes.add_plain, Nat.mul_one] at h0
  exact ⟨h0, hw⟩
end
end Go.Proofs.YtlcaepcojglbiaaGreatDoor.Tp
