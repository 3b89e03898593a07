/- The clocks told by the machine: a part of the walk of the whole machine. For all states that the readings allow. -/
import Derived.BigQuiet
import Derived.Deep.Slices
import Derived.Lib.SmallJoins
import Derived.Lib.LaidTab
import Derived.Test.YtlcaepcojglbiaaGreatDoorRows
import Derived.ProofKit
import Derived.LaidMore
import Derived.OpenShut
import Derived.Below
import Derived.SizedLaws
import Derived.Deep.SlicePairs
import Derived.Stop.Joined
import Derived.Test.YtlcaepcojglbiaaGreatDoorNb
import Derived.Test.YtlcaepcojglbiaaGreatDoorNa
namespace Go.Proofs.YtlcaepcojglbiaaGreatDoor.Tp
open Go.RowKit Go.Maps
set_option linter.unusedVariables false
set_option linter.unusedSimpArgs false
set_option maxRecDepth 100000 in
set_option maxHeartbeats 16000000 in
theorem clocks_at (c : Int) (hc : 0 ≤ c ∧ c ≤ 255) (a : Option Addr) (len cap : Nat) (z : Nat → St) (W : World) (hT : TAB W) (hz : RdS W a len z) : Calls Tryz.prog 3 #[.int .u8 c, .slice a len cap] W fun e W' => e = .returned (.bool true) ∧ Below W.heap.size W W' := by
  obtain ⟨m, hm, hm16⟩ : ∃ m : Nat, c % 16 = (m : Int) ∧ m < 16 := ⟨(c % 16).toNat, by omega, by omega⟩
  have hm2 : c.tmod 16 = (m : Int) := by rw [Int.tmod_eq_emod_of_nonneg hc.1]; exact hm
  have CR0 := Lib.hid (run_at W hT)
  have CN : Hid (∀ w, TAB w → Calls Tryz.prog 6 #[.int .i64 (1 + (m : Int)), .int .i64 1, .int .i64 1000] w fun e w' => ∃ A : EA, e = .returned (ptr A.e) ∧ ER A (En.new (1 + m) 1000) w' ∧ Below w.heap.size w w' ∧ ∀ x, A.has (1 + m) x → x = 0 ∨ w.heap.size ≤ x) := Lib.hid fun w hw => by
    have := enew_at (1 + m) (by omega) (by omega) 1000 (by omega) (by omega) w hw
    rw [show ((1 + m : Nat) : Int) = 1 + (m : Int) by omega] at this
    exact this
  have HZ := Lib.hid hz
  obtain ⟨hc0, hc1⟩ := hc
  by_cases hl : 150 < len
  · have hl2 : (150 : Int) < (len : Int) := by omega
    clear hT hz CN HZ hm hm2 hl
    go_enter Tryz.func3, Tryz.ntmps3
    go_wp2_with (first
      | (go_at_call 5; (with_reducible refine (CR0.out).mono ?_); clear CR0; rintro e w1 ⟨rfl, hT1, hB1⟩; have HB1 := Lib.hid hB1; clear hB1 hT1)
      | fail)
    go_ret
    exact ⟨rfl, HB1.out⟩
  · have hl2 : ¬ (150 : Int) < (len : Int) := by omega
    have hl3 : len ≤ 150 := by omega
    have hl4 : (len : Int) ≤ 150 := by omega
    have HM := Lib.hid (And.intro hm hm16)
    clear hT hz hl hm16
    go_enter Tryz.func3, Tryz.ntmps3
    go_wp2_with (first
      | (go_at_call 5; (with_reducible refine (CR0.out).mono ?_); clear CR0; rintro e w1 ⟨rfl, hT1, hB1⟩; have HB1 := Lib.hid (And.intro hT1 hB1); clear hB1 hT1)
      | (go_at_call 6; refine (CN.out _ HB1.out.1).mono ?_; clear CN; rintro e w2 ⟨A, rfl, her, hB, hlo⟩; have HE := Lib.hid (And.intro her (And.intro hB hlo)); clear her hB hlo)
      | fail)
    have hP : w2.heap.size < (w2.alloc (.cells #[.int .i64 0, .int .i64 0, .int .i64 0, .int .i64 0, .int .i64 0, .int .i64 0, .bool false] 29)).heap.size := by simp
    have HBA : Hid (Below W.heap.size W w2) := Lib.hid (HB1.out.2.trans (HE.out.2.1.mono HB1.out.2.size))
    obtain ⟨n, hn⟩ : ∃ n, 1 + m = n := ⟨_, rfl⟩
    have HTC : Hid (TC A n w2.heap.size W 0 (En.new n 1000) M00 (w2.alloc (.cells #[.int .i64 0, .int .i64 0, .int .i64 0, .int .i64 0, .int .i64 0, .int .i64 0, .bool false] 29))) := Lib.hid (by
      have hB := (Below.refl w2.heap.size w2).alloc (Nat.le_refl _) (.cells #[.int .i64 0, .int .i64 0, .int .i64 0, .int .i64 0, .int .i64 0, .int .i64 0, .bool false] 29)
      have he := HE.out.1
      rw [hn] at he
      exact ⟨er_below he hB, ei_new n (by have := HM.out.2; omega) 1000, rfl, by show (0 : Int) ≤ _; omega, heap_alloc_new w2 _, HBA.out.trans (hB.mono HBA.out.size)⟩)
    have HTB : Hid (TB A n w2.heap.size W) := Lib.hid (by
      refine ⟨fun x hx => ?_, fun e => ?_, HBA.out.size⟩
      · rw [← hn] at hx
        rcases HE.out.2.2 x hx with q | q
        · exact .inl q
        · exact .inr (Nat.le_trans HB1.out.2.size q)
      · have := er_lt HE.out.1 w2.heap.size (by rw [← hn] at e; exact e)
        omega)
    have HA : Hid (∀ x, A.has n x → x < w2.heap.size) := Lib.hid fun x hx => er_lt HE.out.1 x (by rw [← hn] at hx; exact hx)
    obtain ⟨pb, hpb⟩ : ∃ pb, w2.heap.size = pb := ⟨_, rfl⟩
    rw [hpb] at HTC HTB HA ⊢
    clear hP HBA hn hpb HE HB1 hm hm2 HM
    go_loopw [7, 8, 29] (fun s7 s8 s29 wr => ∃ (k : Nat) (E : En) (M : GM), k ≤ len ∧ s29 = .int .i64 k ∧ s7 = .int .i64 E.K.mono ∧ s8 = .int .i64 (E.K.mono + E.K.o2) ∧ Hid (TC A n pb W k E M wr)) (fun _ _ s29 _ => len - (intOf s29).toNat)
    case atStart => exact ⟨0, En.new n 1000, M00, by omega, rfl, rfl, rfl, HTC⟩
    case round =>
      obtain ⟨k, E, M, hk, rfl, rfl, rfl, HJ⟩ := hrel
      clear HTC
      by_cases hkn : k = len
      · subst hkn
        clear hk
        go_wp2_with fail
        go_ret
        exact ⟨rfl, HJ.out.bl⟩
      · have hk2 : (k : Int) < (len : Int) := by omega
        have hk3 : k < len := by omega
        obtain ⟨b, off, rfl, hcell⟩ := HZ.out (by omega)
        obtain ⟨⟨c0, c1, c2, c3, c4, c5, c6, c7⟩, hsw⟩ := hcell k hk3
        have hbl := cell_lt c0
        obtain ⟨wo, hwo⟩ : ∃ wo, wo = wr := ⟨_, rfl⟩
        subst hwo
        have hblk := HJ.out.bl.block b hbl
        replace c0 := (World.cell?_of_block (a := ⟨b, off + k * 8, none⟩) hblk).trans c0
        replace c1 := (World.cell?_of_block (a := ⟨b, off + k * 8 + 1, none⟩) hblk).trans c1
        replace c2 := (World.cell?_of_block (a := ⟨b, off + k * 8 + 2, none⟩) hblk).trans c2
        replace c3 := (World.cell?_of_block (a := ⟨b, off + k * 8 + 3, none⟩) hblk).trans c3
        replace c4 := (World.cell?_of_block (a := ⟨b, off + k * 8 + 4, none⟩) hblk).trans c4
        replace c5 := (World.cell?_of_block (a := ⟨b, off + k * 8 + 5, none⟩) hblk).trans c5
        replace c6 := (World.cell?_of_block (a := ⟨b, off + k * 8 + 6, none⟩) hblk).trans c6
        replace c7 := (World.cell?_of_block (a := ⟨b, off + k * 8 + 7, none⟩) hblk).trans c7
        obtain ⟨s, hs⟩ : ∃ s, z k = s := ⟨_, rfl⟩
        rw [hs] at c0 c1 c2 c3 c4 c5 c6 c7 hsw
        clear hcell hbl hblk hs
        have CD := Lib.hid (fun w (h : TC A n pb W k E M w) => tc_do HTB.out s hsw h (by omega))
        have CP := Lib.hid (fun E2 M2 w (h : TM A n pb W k s E.K E2 M2 w) => tc_plain HTB.out s HJ.out.ei.ck h)
        have HUP := Lib.hid (stp_up HJ.out.ei.ck s)
        have HOB := Lib.hid (ok_stp HJ.out.ei.ck (by have := HJ.out.g; omega) s).1
        obtain ⟨kd, cpu, nn, ⟨id, tc, ts, th, tl⟩⟩ := s
        dsimp only at c0 c1 c2 c3 c4 c5 c6 c7
        have HB1 : Hid (Below wo.heap.size wo (wo.alloc (.cells #[.int .i64 kd, .int .i64 cpu, .int .i64 nn, .int .i64 id, .int .i64 tc, .int .i64 ts, .int .i64 th, .bool tl] 33))) := Lib.hid ((Below.refl _ _).alloc (Nat.le_refl _) _)
        have HN1 := Lib.hid (heap_alloc_new wo (.cells #[.int .i64 kd, .int .i64 cpu, .int .i64 nn, .int .i64 id, .int .i64 tc, .int .i64 ts, .int .i64 th, .bool tl] 33))
        have HNH : Hid (wo.heap.size < (wo.alloc (.cells #[.int .i64 kd, .int .i64 cpu, .int .i64 nn, .int .i64 id, .int .i64 tc, .int .i64 ts, .int .i64 th, .bool tl] 33)).heap.size ∧ ¬ A.has n wo.heap.size) := Lib.hid ⟨by simp, fun e => by have := HA.out _ e; have := (Array.getElem?_eq_some_iff.1 HJ.out.pl).1; omega⟩
        clear hsw hkn hk
        go_wp2_with (first
          | (go_at_call 7; refine (CD.out _ (tc_below HJ.out HB1.out)).mono ?_; clear CD; rintro e w3 ⟨v, x, E2, M2, rfl, hTM, hblk⟩; have hn3 := (hblk _ HNH.out.1 HNH.out.2).trans HN1.out; have HTM := Lib.hid hTM; obtain ⟨d0, d1, d2, d3, d4, d5, d6, d7⟩ := cells8 hn3; clear hTM hblk hn3)
          | (go_at_call 8; refine (CP.out E2 M2 _ HTM.out).mono ?_; clear CP; rintro e w4 ⟨rfl, hTC⟩; have HT4 := Lib.hid hTC; clear hTC)
          | fail)
        have HW : Hid (IntKind.i64.wrap (E2.K.mono + E2.K.o0) = E2.K.mono + E2.K.o0 ∧ IntKind.i64.wrap (E2.K.mono + E2.K.o1) = E2.K.mono + E2.K.o1 ∧ IntKind.i64.wrap (E2.K.mono + E2.K.o2) = E2.K.mono + E2.K.o2 ∧ 0 ≤ E2.K.o2 ∧ E.K.mono ≤ E2.K.mono ∧ E.K.mono + E.K.o2 ≤ E2.K.mono + E2.K.o2) := Lib.hid (by
          have hk := HTM.out.ke
          have hok := HOB.out
          have hup := HUP.out
          rw [← hk] at hok hup
          obtain ⟨h1, h2, h3, h4, h5, h6, h7, h8, -⟩ := hok
          have hmc : E2.K.mono ≤ 1152921504606846976 := by split at h6 <;> omega
          have hoc : E2.K.o2 ≤ 1152921504606846976 := by split at h6 <;> omega
          exact ⟨iw (by omega) (by omega), iw (by omega) (by omega), iw (by omega) (by omega), h4, hup.1, hup.2⟩)
        clear HJ HTM HOB HUP HB1 HN1 HNH d0 d1 d2 d3 d4 d5 d6 d7 c0 c1 c2 c3 c4 c5 c6 c7
        go_loopw [39] (fun s39 wr => ∃ j : Nat, j ≤ 3 ∧ s39 = .int .i64 j ∧ Hid (TC A n pb W (k + 1) E2 M2 wr)) (fun s39 _ => 3 - (intOf s39).toNat)
        case atStart => exact ⟨0, by omega, rfl, HT4⟩
        case round =>
          obtain ⟨j, hj, rfl, HJ2⟩ := hrel
          clear HT4
          rcases (show j = 0 ∨ j = 1 ∨ j = 2 ∨ j = 3 by omega) with rfl | rfl | rfl | rfl
          · obtain ⟨-, ⟨p1, -⟩, -, ⟨p3, -⟩, ⟨p4, -⟩, ⟨p5, -⟩, -⟩ := cells7 HJ2.out.pl
            have CN : Hid (Calls Tryz.prog 9 #[ptr A.e, .int .i64 (0 : Nat)] wr fun e w' => e = .returned (.tuple #[.int .i64 (E2.K.mono + E2.K.o0), .bool true]) ∧ TC A n pb W (k + 1) E2 M2 w' ∧ Below wr.heap.size wr w') := Lib.hid (tc_now HJ2.out 0 (by omega))
            have ww : IntKind.i64.wrap (E2.K.mono + E2.K.o0) = E2.K.mono + E2.K.o0 := HW.out.1
            clear p1 p3 p4 p5
            go_wp2_with (first
              | (go_at_call 9; refine (CN.out).mono ?_; clear CN; rintro e w5 ⟨rfl, hTC, -⟩; have HT5 := Lib.hid hTC; obtain ⟨-, ⟨p1, -⟩, -, ⟨p3, -⟩, ⟨p4, -⟩, ⟨p5, -⟩, -⟩ := cells7 hTC.pl; clear hTC)
              | fail)
            go_quiet (fail)
            have HX := Lib.hid (tc_drew HT5.out nq)
            clear p1 p3 p4 p5 ww
            go_wp2_with fail
            go_roundw
            case rel => exact ⟨1, by omega, rfl, HX⟩
            case measure => simp [intOf]
          · obtain ⟨-, ⟨p1, -⟩, -, ⟨p3, -⟩, ⟨p4, -⟩, ⟨p5, -⟩, -⟩ := cells7 HJ2.out.pl
            have CN : Hid (Calls Tryz.prog 9 #[ptr A.e, .int .i64 (1 : Nat)] wr fun e w' => e = .returned (.tuple #[.int .i64 (E2.K.mono + E2.K.o1), .bool true]) ∧ TC A n pb W (k + 1) E2 M2 w' ∧ Below wr.heap.size wr w') := Lib.hid (tc_now HJ2.out 1 (by omega))
            have ww : IntKind.i64.wrap (E2.K.mono + E2.K.o1) = E2.K.mono + E2.K.o1 := HW.out.2.1
            clear p1 p3 p4 p5
            go_wp2_with (first
              | (go_at_call 9; refine (CN.out).mono ?_; clear CN; rintro e w5 ⟨rfl, hTC, -⟩; have HT5 := Lib.hid hTC; obtain ⟨-, ⟨p1, -⟩, -, ⟨p3, -⟩, ⟨p4, -⟩, ⟨p5, -⟩, -⟩ := cells7 hTC.pl; clear hTC)
              | fail)
            go_quiet (fail)
            have HX := Lib.hid (tc_drew HT5.out nq)
            clear p1 p3 p4 p5 ww
            go_wp2_with fail
            go_roundw
            case rel => exact ⟨2, by omega, rfl, HX⟩
            case measure => simp [intOf]
          · obtain ⟨-, ⟨p1, -⟩, -, ⟨p3, -⟩, ⟨p4, -⟩, ⟨p5, -⟩, -⟩ := cells7 HJ2.out.pl
            have CN : Hid (Calls Tryz.prog 9 #[ptr A.e, .int .i64 (2 : Nat)] wr fun e w' => e = .returned (.tuple #[.int .i64 (E2.K.mono + E2.K.o2), .bool true]) ∧ TC A n pb W (k + 1) E2 M2 w' ∧ Below wr.heap.size wr w') := Lib.hid (tc_now HJ2.out 2 (by omega))
            have ww : IntKind.i64.wrap (E2.K.mono + E2.K.o2) = E2.K.mono + E2.K.o2 := HW.out.2.2.1
            clear p1 p3 p4 p5
            go_wp2_with (first
              | (go_at_call 9; refine (CN.out).mono ?_; clear CN; rintro e w5 ⟨rfl, hTC, -⟩; have HT5 := Lib.hid hTC; obtain ⟨-, ⟨p1, -⟩, -, ⟨p3, -⟩, ⟨p4, -⟩, ⟨p5, -⟩, -⟩ := cells7 hTC.pl; clear hTC)
              | fail)
            go_quiet (fail)
            have HX := Lib.hid (tc_drew HT5.out nq)
            clear p1 p3 p4 p5 ww
            go_wp2_with fail
            go_roundw
            case rel => exact ⟨3, by omega, rfl, HX⟩
            case measure => simp [intOf]
          · obtain ⟨-, ⟨p1, -⟩, -, ⟨p3, -⟩, ⟨p4, -⟩, ⟨p5, -⟩, -⟩ := cells7 HJ2.out.pl
            have ww : IntKind.i64.wrap (E2.K.mono + E2.K.o2) = E2.K.mono + E2.K.o2 := HW.out.2.2.1
            have u1 : ¬ E2.K.mono < E.K.mono := by have := HW.out.2.2.2.2.1; omega
            have u2 : ¬ E2.K.mono + E2.K.o2 < E.K.mono + E.K.o2 := by have := HW.out.2.2.2.2.2; omega
            have u3 : ¬ E2.K.mono + E2.K.o2 < E2.K.mono := by have := HW.out.2.2.2.1; omega
            go_wp2_with fail
            go_quiet (fail)
            have HX := Lib.hid (tc_drew HJ2.out nq)
            go_wp2_with fail
            go_roundw
            case rel => exact ⟨k + 1, E2, M2, by omega, by go_num, rfl, rfl, HX⟩
            case measure => simp [intOf]; omega
end Go.Proofs.YtlcaepcojglbiaaGreatDoor.Tp
namespace Go.Proofs.YtlcaepcojglbiaaGreatDoor.Tp
open Go.RowKit Go.Maps
set_option linter.unusedVariables false
set_option linter.unusedSimpArgs false
set_option maxRecDepth 100000
theorem trod_struct5 {H : Type} {enc : TypeId × Value → H} {P : Program} {w : World} {base : Nat} {spare : Nat → Bool} {held : Bool} {t : TypeId} {f0 f1 f2 f3 f4 : Field} {fuel : Nat} {cs : List Value} {x : DataW H × List MemPlace} (ht : P.underlying t = some (.struct #[f0, f1, f2, f3, f4])) (h : DataW.trod enc P w base spare held fuel t cs = some x) :
    ∃ y0 y1 y2 y3 y4 n, cs.length = P.cellsOf t ∧ DataW.trod enc P w base spare held n f0.type ((cs.drop f0.offset).take (P.cellsOf f0.type)) = some y0 ∧
      DataW.trod enc P w base spare held n f1.type ((cs.drop f1.offset).take (P.cellsOf f1.type)) = some y1 ∧ DataW.trod enc P w base spare held n f2.type ((cs.drop f2.offset).take (P.cellsOf f2.type)) = some y2 ∧
      DataW.trod enc P w base spare held n f3.type ((cs.drop f3.offset).take (P.cellsOf f3.type)) = some y3 ∧ DataW.trod enc P w base spare held n f4.type ((cs.drop f4.offset).take (P.cellsOf f4.type)) = some y4 := by
  obtain ⟨xs, n, _, rfl, hl, hlen, hf⟩ := DataW.trod_struct ht h
  match xs, hlen with
  | [y0, y1, y2, y3, y4], _ => exact ⟨y0, y1, y2, y3, y4, n, hl, by simpa using hf 0 f0 rfl, by simpa using hf 1 f1 rfl, by simpa using hf 2 f2 rfl, by simpa using hf 3 f3 rfl, by simpa using hf 4 f4 rfl⟩
section
variable {H : Type} {enc : TypeId × Value → H} {w : World} {base : Nat} {spare : Nat → Bool} {held : Bool} {fuel : Nat}
/-- A timer's five cells. -/
theorem open_tm {cs : List Value} {x : DataW H × List MemPlace} (h : DataW.trod enc Tryz.prog w base spare held fuel 31 cs = some x) :
    ∃ t : Tm, cs = [.int .i64 t.id, .int .i64 t.clock, .int .i64 t.soft, .int .i64 t.hard, .bool t.lazy] ∧ t.wf := by
  obtain ⟨y0, y1, y2, y3, y4, n, hl, g0, g1, g2, g3, g4⟩ := trod_struct5 Tryz.underlying31 h
  have c31 : Tryz.prog.cellsOf 31 = 5 := by kernel_rfl
  have c3 : Tryz.prog.cellsOf 3 = 1 := by kernel_rfl
  have c4 : Tryz.prog.cellsOf 4 = 1 := by kernel_rfl
  rw [c31] at hl
  match cs, hl with
  | [v0, v1, v2, v3, v4], _ =>
    simp [c3, c4] at g0 g1 g2 g3 g4
    obtain ⟨z0, e0, _, w0⟩ := DataW.trod_int Tryz.underlying3 g0
    obtain ⟨z1, e1, _, w1⟩ := DataW.trod_int Tryz.underlying3 g1
    obtain ⟨z2, e2, _, w2⟩ := DataW.trod_int Tryz.underlying3 g2
    obtain ⟨z3, e3, _, w3⟩ := DataW.trod_int Tryz.underlying3 g3
    obtain ⟨z4, e4, _⟩ := DataW.trod_bool Tryz.underlying4 g4
    simp only [List.cons.injEq, and_true] at e0 e1 e2 e3 e4
    subst e0 e1 e2 e3 e4
    exact ⟨⟨z0, z1, z2, z3, z4⟩, rfl, ⟨bd_of w0, bd_of w1, bd_of w2, bd_of w3⟩⟩
/-- A step's eight cells. -/
theorem open_st {cs : List Value} {x : DataW H × List MemPlace} (h : DataW.trod enc Tryz.prog w base spare held fuel 33 cs = some x) :
    ∃ s : St, cs = [.int .i64 s.kind, .int .i64 s.cpu, .int .i64 s.n, .int .i64 s.t.id, .int .i64 s.t.clock, .int .i64 s.t.soft, .int .i64 s.t.hard, .bool s.t.lazy] ∧ s.wf := by
  obtain ⟨y0, y1, y2, y3, n, _, hl, g0, g1, g2, g3⟩ := Go.Joins.trod_struct4 Tryz.underlying33 h
  have c33 : Tryz.prog.cellsOf 33 = 8 := by kernel_rfl
  have c31 : Tryz.prog.cellsOf 31 = 5 := by kernel_rfl
  have c3 : Tryz.prog.cellsOf 3 = 1 := by kernel_rfl
  rw [c33] at hl
  match cs, hl with
  | [v0, v1, v2, v3, v4, v5, v6, v7], _ =>
    simp [c3, c31] at g0 g1 g2 g3
    obtain ⟨z0, e0, _, w0⟩ := DataW.trod_int Tryz.underlying3 g0
    obtain ⟨z1, e1, _, w1⟩ := DataW.trod_int Tryz.underlying3 g1
    obtain ⟨z2, e2, _, w2⟩ := DataW.trod_int Tryz.underlying3 g2
    obtain ⟨t, e3, w3⟩ := open_tm g3
    simp only [List.cons.injEq, and_true] at e0 e1 e2 e3
    obtain ⟨rfl, rfl, rfl, rfl, rfl⟩ := e3
    subst e0 e1 e2
    exact ⟨⟨z0, z1, z2, t⟩, rfl, ⟨bd_of w0, bd_of w1, bd_of w2, w3⟩⟩
instance : Inhabited St := ⟨⟨0, 0, 0, ⟨0, 0, 0, 0, false⟩⟩⟩
theorem open_steps {a : Option Addr} {len cap : Nat} {x : DataW H × List MemPlace} (h : DataW.trod enc Tryz.prog w base spare held fuel 22 [.slice a len cap] = some x) : ∃ z, RdS w a len z := by
  rcases Go.Deep.open_slice Tryz.underlying22 h with ⟨h0, _⟩ | ⟨y, len', cap', m, n, D, Pl, hcs, hb, hl, hm, hmm, hxx, hx⟩
  · simp at h0
    exact ⟨fun _ => ⟨0, 0, 0, ⟨0, 0, 0, 0, false⟩⟩, fun hp => by omega⟩
  simp at hcs
  obtain ⟨rfl, rfl, rfl⟩ := hcs
  have hlm : len ≤ m := by rw [hmm]; split <;> omega
  have ce : Tryz.prog.cellsOf 33 = 8 := by kernel_rfl
  have each : ∀ i, i < len → ∃ s : St, (w.cell? (y.add (i * 8)) = some (.int .i64 s.kind) ∧ w.cell? (y.add (i * 8 + 1)) = some (.int .i64 s.cpu) ∧ w.cell? (y.add (i * 8 + 2)) = some (.int .i64 s.n) ∧ w.cell? (y.add (i * 8 + 3)) = some (.int .i64 s.t.id) ∧ w.cell? (y.add (i * 8 + 4)) = some (.int .i64 s.t.clock) ∧ w.cell? (y.add (i * 8 + 5)) = some (.int .i64 s.t.soft) ∧ w.cell? (y.add (i * 8 + 6)) = some (.int .i64 s.t.hard) ∧ w.cell? (y.add (i * 8 + 7)) = some (.bool s.t.lazy)) ∧ s.wf := by
    intro i hi
    obtain ⟨cs', h1, h2⟩ := hx i (by omega)
    rw [ce] at h1
    obtain ⟨_, hlen, hcell⟩ := World.cells?_some h1
    obtain ⟨s, rfl, hw⟩ := open_st h2
    have q0 := hcell 0 (by omega)
    have q1 := hcell 1 (by omega)
    have q2 := hcell 2 (by omega)
    have q3 := hcell 3 (by omega)
    have q4 := hcell 4 (by omega)
    have q5 := hcell 5 (by omega)
    have q6 := hcell 6 (by omega)
    have q7 := hcell 7 (by omega)
    rw [Go.Deep.add_add] at q0 q1 q2 q3 q4 q5 q6 q7
    exact ⟨s, ⟨by simpa using q0, by simpa using q1, by simpa using q2, by simpa using q3, by simpa using q4, by simpa using q5, by simpa using q6, by simpa using q7⟩, hw⟩
  obtain ⟨z, hz⟩ := Go.Deep.choose_lt each
  refine ⟨z, fun hp => ?_⟩
  obtain ⟨b, off, spot⟩ := y
  have hspot : spot = none := by simpa [Addr.add] using World.cell?_spot (hz 0 hp).1.1
  subst hspot
  refine ⟨b, off, rfl, fun j hj => ?_⟩
  obtain ⟨⟨h0, h1, h2, h3, h4, h5, h6, h7⟩, hw⟩ := hz j hj
  rw [Go.WideShapes.add_plain] at h0 h1 h2 h3 h4 h5 h6 h7
  exact ⟨⟨h0, by rw [Nat.add_assoc]; exact h1, by rw [Nat.add_assoc]; exact h2, by rw [Nat.add_assoc]; exact h3, by rw [Nat.add_assoc]; exact h4, by rw [Nat.add_assoc]; exact h5, by rw [Nat.add_assoc]; exact h6, by rw [Nat.add_assoc]; exact h7⟩, hw⟩
end
def debTab : List Int := [0, 1, 28, 2, 29, 14, 24, 3, 30, 22, 20, 15, 25, 17, 4, 8, 31, 27, 13, 23, 21, 19, 16, 7, 26, 12, 18, 6, 11, 5, 10, 9]
theorem gDeb : Tryz.prog.globalNamed "math/bits.deBruijn32tab" = some 0 := by kernel_rfl
theorem debAt : ∀ k, k < 16 → dbi k < 32 ∧ debTab.getD (dbi k) 0 = (k : Int) := by decide +kernel
/-- What the listed table gives the walks. -/
theorem tab_of {W : World} (h : Lib.TabIs Tryz.prog W "math/bits.deBruijn32tab" .u8 debTab) : TAB W := fun k hk => by
  have h1 := debAt k hk
  have := h.cell gDeb (dbi k) h1.1
  rw [h1.2] at this
  exact this
end Go.Proofs.YtlcaepcojglbiaaGreatDoor.Tp
