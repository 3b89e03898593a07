import Derived.Test.YtdbaeigbejcobaaCalWk
import Derived.Deep.DeepCutAuto
import Derived.OpenShut
namespace Go.Proofs.Ytdbaeigbejcobaa.Cal
open Go.RowKit Go.Proofs.Ytdbaeigbejcobaa.PCalendarWork Go.Proofs.YtdbaeigbejcobaaW.PrintWords
set_option linter.unusedVariables false
set_option linter.unusedSimpArgs false
theorem work_at (l : List Int) (x : Int) (A : Option Addr) (c : Nat) (w W : World) (hl : l.length ≤ 60) (hc : l.length ≤ c) (hr : ReadsInt w .i64 A l.length l) (hB : Below w.heap.size w W) (h1 : -100000 ≤ x) (h2 : x ≤ 100000) :
    Calls Try.prog 26 #[.int .i64 x, .slice A l.length c] W fun e w' => e = .returned (.bool (wkB l x)) ∧ Below W.heap.size W w' :=
  (calendar_Work.calls 1000 x A c l _ W (Kd.C_of_reads (d := (0 : Int)) (h1 := fun _ => rfl) (hr.below hB)) hc (work_f l x (by omega) (by omega) (by omega) (by omega))).mono fun _ _ q => ⟨q.1, q.2.below⟩
set_option maxHeartbeats 8000000 in
set_option maxRecDepth 100000 in
theorem work_long (z0 z1 z2 : Int) (A : Option Addr) (n c : Nat) (hn : 60 < n) (hn2 : n ≤ 9223372036854775807) (w : World) : Calls Try.prog 9 #[.int .i32 z0, .int .u8 z1, .int .u16 z2, .slice A n c] w (Tr w) := by
  go_enter Try.func9, Try.ntmps9
  go_wp2_with (first | (go_at_call 17; refine (fixed_any _).mono ?_; rintro e w1 ⟨rfl, hb⟩; have HB := Lib.hid hb; clear hb) | fail)
  go_ret
  exact ⟨rfl, HB.out⟩
theorem si_first' {l : List Int} {d n i left at' : Int} {s : Bool} (h : SI l d n i left at' s) (hi : i = 0) : SI l d n (i + 1) left at' s := by
  subst hi; exact si_first h
def FreeI (l : List Int) (x j : Int) (b : Bool) : Prop := b = (decide (5 ≤ (x + 3) % 7) || decide (x ∈ l.take j.toNat))
theorem free_0 (l : List Int) (x : Int) : FreeI l x 0 (decide (5 ≤ (x + 3) % 7)) := by unfold FreeI; simp
theorem free_s {l : List Int} {x j : Int} {b : Bool} (h : FreeI l x j b) (h0 : 0 ≤ j) (h1 : j < l.length) : FreeI l x (j + 1) (b || decide (rd l j = x)) := by
  unfold FreeI at *
  have hj : j.toNat < l.length := by omega
  have e : l.take (j + 1).toNat = l.take j.toNat ++ [rd l j] := by
    rw [show (j + 1).toNat = j.toNat + 1 by omega, List.take_add_one]
    unfold rd
    simp [hj]
  rw [e, h, Bool.or_assoc]
  congr 1
  rw [← Bool.decide_or]
  apply decide_eq_decide.mpr
  rw [List.mem_append, List.mem_singleton]
  exact or_congr Iff.rfl eq_comm
theorem free_end {l : List Int} {x : Int} {b : Bool} {n : Nat} (hn : l.length = n) (h : FreeI l x n b) : wkB l x = !b := by
  unfold FreeI at h
  unfold wkB
  rw [h, show ((n : Int)).toNat = n by omega, ← hn, List.take_length, Bool.not_or]
  congr 1
  rw [← decide_not]
  apply decide_eq_decide.mpr
  omega
set_option maxHeartbeats 8000000 in
set_option maxRecDepth 100000 in
theorem work_true (z0 z1 z2 : Int) (A : Option Addr) (l : List Int) (c : Nat) (hn : l.length ≤ 60) (hc : l.length ≤ c) (w : World) (hr : ReadsInt w .i64 A l.length l) (h1 : -2147483648 ≤ z0) (h2 : z0 ≤ 2147483647) (h3 : 0 ≤ z1) (h4 : z1 ≤ 255) (h5 : 0 ≤ z2) (h6 : z2 ≤ 65535) : Calls Try.prog 9 #[.int .i32 z0, .int .u8 z1, .int .u16 z2, .slice A l.length c] w (Tr w) := by
  have CW := Lib.hid (fun x W (hB : Below w.heap.size w W) h1 h2 => work_at l x A c w W hn hc hr hB h1 h2)
  have HR := Lib.hid hr
  have HC := Lib.hid hc
  have HN := Lib.hid (show l.length = l.length from rfl)
  have hni : ((l.length : Nat) : Int) ≤ 60 := by omega
  clear hr hc
  have hdb : -59999 ≤ z0.tmod 60000 ∧ z0.tmod 60000 ≤ 59999 := by
    by_cases h : 0 ≤ z0
    · rw [Int.tmod_eq_emod_of_nonneg h]; omega
    · have e : z0 = -(-z0) := by omega
      rw [e, Int.neg_tmod, Int.tmod_eq_emod_of_nonneg (a := -z0) (by omega)]; omega
  have hqb : 0 ≤ z2 % 600 ∧ z2 % 600 < 600 := by omega
  obtain ⟨d, hd⟩ : ∃ d, z0.tmod 60000 = d := ⟨_, rfl⟩
  obtain ⟨q, hq⟩ : ∃ q, z2 % 600 = q := ⟨_, rfl⟩
  obtain ⟨r, ok, hra, hAW⟩ := addw_f l d z1 (by omega) (by omega) (by omega) h3 (by omega)
  have CA := Lib.hid (fun W (hB : Below w.heap.size w W) => calendar_AddWork.calls 9999 d z1 A c l r ok W (Kd.C_of_reads (d := (0 : Int)) (h1 := fun _ => rfl) (HR.out.below hB)) HC.out hra)
  have CD := Lib.hid (fun W (hB : Below w.heap.size w W) => calendar_WorkDays.calls 9000 d (d + q) A c l (cnt l d q.toNat) W (Kd.C_of_reads (d := (0 : Int)) (h1 := fun _ => rfl) (HR.out.below hB)) HC.out (wdays_f l d (d + q) (by omega) (by omega) (by omega) q.toNat (by omega) (by omega)))
  have HAW := Lib.hid hAW
  clear hra hAW
  obtain ⟨hd1, hd2⟩ := hdb
  obtain ⟨hq1, hq2⟩ := hqb
  rw [hd] at hd1 hd2
  rw [hq] at hq1 hq2
  go_enter Try.func9, Try.ntmps9
  go_upto_region 9 with (first | (go_at_call 17; refine (fixed_any _).mono ?_; rintro e w1 ⟨rfl, hb⟩; have HB := Lib.hid hb; clear hb) | fail)
  clear hd hq
  go_wp2_with fail
  go_loopw [11, 12, 13, 14, 40] (fun v11 v12 v13 v14 v40 W => ∃ (i count left at' : Int) (s : Bool), 0 ≤ i ∧ i ≤ 700 ∧ 0 ≤ count ∧ count ≤ i ∧ -1000 ≤ left ∧ left ≤ 1000 ∧ v11 = .int .i64 count ∧ v12 = .int .i64 left ∧ v13 = .int .i64 at' ∧ v14 = .bool s ∧ v40 = .int .i64 i ∧ Hid (CI l d q i count) ∧ Hid (SI l d z1 i left at' s) ∧ Hid (Below w.heap.size w W)) (fun _ _ _ _ v40 _ => (700 - intOf v40).toNat)
  case atStart => exact ⟨0, 0, z1, d, _, by omega, by omega, by omega, by omega, by omega, by omega, rfl, rfl, rfl, rfl, rfl, ci_0 l d q, si_0 h3, HB.out⟩
  case round =>
    clear HB
    obtain ⟨i, count, left, at', s, hi0, hi1, hc0, hc1, hl0, hl1, rfl, rfl, rfl, rfl, rfl, HCI, HSI, HB⟩ := hrel
    by_cases hlt : i < 700
    · go_wp2_with (first | (go_at_call 25; refine (rwd_any _ _).mono ?_; rintro e w5 ⟨rfl, rfl⟩) | fail)
      go_loop [17, 51] (fun v17 v51 => ∃ (j : Int) (b : Bool), 0 ≤ j ∧ j ≤ (l.length : Int) ∧ v17 = .bool b ∧ v51 = .int .i64 j ∧ Hid (FreeI l (d + i) j b)) (fun _ v51 => ((l.length : Int) - intOf v51).toNat)
      case atStart => exact ⟨0, _, by omega, by omega, rfl, rfl, free_0 l (d + i)⟩
      case round =>
        obtain ⟨j, b, hj0, hj1, rfl, rfl, HF⟩ := hrel
        by_cases hjl : j < (l.length : Int)
        · obtain ⟨ad, hA, hx⟩ := (HR.out.below HB.out).at_ j hj0 hjl
          cases hA
          rcases Bool.eq_false_or_eq_true b with rfl | rfl
          · have HFS := Lib.hid (free_s HF.out hj0 hjl)
            go_wp2_with fail
            go_round
            case rel => exact ⟨j + 1, _, by omega, by omega, rfl, rfl, HFS.out⟩
            case measure => simp [intOf]; omega
          · have HFS := Lib.hid (free_s HF.out hj0 hjl)
            go_wp2_with fail
            go_round
            case rel => exact ⟨j + 1, _, by omega, by omega, rfl, rfl, HFS.out⟩
            case measure => simp [intOf]; omega
        · obtain rfl : j = (l.length : Int) := by omega
          have hwk := free_end rfl HF.out
          rcases Bool.eq_false_or_eq_true b with rfl | rfl
          · replace hwk : wkB l (d + i) = false := hwk
            have HCS := Lib.hid (ci_free HCI.out hi0 hwk)
            have HSS := Lib.hid (si_free HSI.out hi0 hwk)
            go_wp2_with (first | (go_at_call 26; refine (CW.out (d + i) _ HB.out (by omega) (by omega)).mono ?_; rw [hwk]; rintro e w6 ⟨rfl, hb⟩; have HB2 := Lib.hid (bthen HB.out hb); clear hb HB; have HB := HB2; clear HB2) | fail)
            go_roundw
            case rel => exact ⟨i + 1, count, left, at', s, by omega, by omega, by omega, by omega, by omega, by omega, rfl, rfl, rfl, rfl, rfl, HCS.out, HSS.out, HB.out⟩
            case measure => simp [intOf]; omega
          · replace hwk : wkB l (d + i) = true := hwk
            by_cases hiq : i < q
            · have hcq : d + i < d + q := by omega
              have HCS := Lib.hid (ci_hit HCI.out hi0 hwk hiq)
              rcases Bool.eq_false_or_eq_true s with rfl | rfl
              · have HSS := Lib.hid (si_done HSI.out (i + 1))
                go_wp2_with (first | (go_at_call 26; refine (CW.out (d + i) _ HB.out (by omega) (by omega)).mono ?_; rw [hwk]; rintro e w6 ⟨rfl, hb⟩; have HB2 := Lib.hid (bthen HB.out hb); clear hb HB; have HB := HB2; clear HB2) | fail)
                all_goals
                  go_roundw
                  case rel => exact ⟨i + 1, _, left, at', true, by omega, by omega, by omega, by omega, by omega, by omega, rfl, rfl, rfl, rfl, rfl, HCS.out, HSS.out, HB.out⟩
                  case measure => simp [intOf]; omega
              · have hsp := si_pos HSI.out
                obtain ⟨hp1, hp2⟩ := hsp
                by_cases hi : 0 < i
                · by_cases hl : left - 1 = 0
                  · have HSS := Lib.hid (fun x => si_hit HSI.out hi hlt hwk hl x)
                    go_wp2_with (first | (go_at_call 26; refine (CW.out (d + i) _ HB.out (by omega) (by omega)).mono ?_; rw [hwk]; rintro e w6 ⟨rfl, hb⟩; have HB2 := Lib.hid (bthen HB.out hb); clear hb HB; have HB := HB2; clear HB2) | fail)
                    go_roundw
                    case rel => exact ⟨i + 1, _, 0, d + i, true, by omega, by omega, by omega, by omega, by omega, by omega, rfl, rfl, rfl, rfl, rfl, HCS.out, HSS.out _, HB.out⟩
                    case measure => simp [intOf]; omega
                  · have HSS := Lib.hid (si_dec HSI.out hi hwk hl)
                    go_wp2_with (first | (go_at_call 26; refine (CW.out (d + i) _ HB.out (by omega) (by omega)).mono ?_; rw [hwk]; rintro e w6 ⟨rfl, hb⟩; have HB2 := Lib.hid (bthen HB.out hb); clear hb HB; have HB := HB2; clear HB2) | fail)
                    go_roundw
                    case rel => exact ⟨i + 1, _, left - 1, at', false, by omega, by omega, by omega, by omega, by omega, by omega, rfl, rfl, rfl, rfl, rfl, HCS.out, HSS.out, HB.out⟩
                    case measure => simp [intOf]; omega
                · have hi9 : i ≤ 0 := by omega
                  have HSS := Lib.hid (si_first' HSI.out (by omega))
                  go_wp2_with (first | (go_at_call 26; refine (CW.out (d + i) _ HB.out (by omega) (by omega)).mono ?_; rw [hwk]; rintro e w6 ⟨rfl, hb⟩; have HB2 := Lib.hid (bthen HB.out hb); clear hb HB; have HB := HB2; clear HB2) | fail)
                  go_roundw
                  case rel => exact ⟨i + 1, _, left, at', false, by omega, by omega, by omega, by omega, by omega, by omega, rfl, rfl, rfl, rfl, rfl, HCS.out, HSS.out, HB.out⟩
                  case measure => simp [intOf]; omega
            · have hcq : d + q ≤ d + i := by omega
              have HCS := Lib.hid (ci_past (i := i) HCI.out hi0 (by omega))
              rcases Bool.eq_false_or_eq_true s with rfl | rfl
              · have HSS := Lib.hid (si_done HSI.out (i + 1))
                go_wp2_with (first | (go_at_call 26; refine (CW.out (d + i) _ HB.out (by omega) (by omega)).mono ?_; rw [hwk]; rintro e w6 ⟨rfl, hb⟩; have HB2 := Lib.hid (bthen HB.out hb); clear hb HB; have HB := HB2; clear HB2) | fail)
                all_goals
                  go_roundw
                  case rel => exact ⟨i + 1, _, left, at', true, by omega, by omega, by omega, by omega, by omega, by omega, rfl, rfl, rfl, rfl, rfl, HCS.out, HSS.out, HB.out⟩
                  case measure => simp [intOf]; omega
              · have hsp := si_pos HSI.out
                obtain ⟨hp1, hp2⟩ := hsp
                by_cases hi : 0 < i
                · by_cases hl : left - 1 = 0
                  · have HSS := Lib.hid (fun x => si_hit HSI.out hi hlt hwk hl x)
                    go_wp2_with (first | (go_at_call 26; refine (CW.out (d + i) _ HB.out (by omega) (by omega)).mono ?_; rw [hwk]; rintro e w6 ⟨rfl, hb⟩; have HB2 := Lib.hid (bthen HB.out hb); clear hb HB; have HB := HB2; clear HB2) | fail)
                    go_roundw
                    case rel => exact ⟨i + 1, _, 0, d + i, true, by omega, by omega, by omega, by omega, by omega, by omega, rfl, rfl, rfl, rfl, rfl, HCS.out, HSS.out _, HB.out⟩
                    case measure => simp [intOf]; omega
                  · have HSS := Lib.hid (si_dec HSI.out hi hwk hl)
                    go_wp2_with (first | (go_at_call 26; refine (CW.out (d + i) _ HB.out (by omega) (by omega)).mono ?_; rw [hwk]; rintro e w6 ⟨rfl, hb⟩; have HB2 := Lib.hid (bthen HB.out hb); clear hb HB; have HB := HB2; clear HB2) | fail)
                    go_roundw
                    case rel => exact ⟨i + 1, _, left - 1, at', false, by omega, by omega, by omega, by omega, by omega, by omega, rfl, rfl, rfl, rfl, rfl, HCS.out, HSS.out, HB.out⟩
                    case measure => simp [intOf]; omega
                · have hi9 : i ≤ 0 := by omega
                  have HSS := Lib.hid (si_first' HSI.out (by omega))
                  go_wp2_with (first | (go_at_call 26; refine (CW.out (d + i) _ HB.out (by omega) (by omega)).mono ?_; rw [hwk]; rintro e w6 ⟨rfl, hb⟩; have HB2 := Lib.hid (bthen HB.out hb); clear hb HB; have HB := HB2; clear HB2) | fail)
                  go_roundw
                  case rel => exact ⟨i + 1, _, left, at', false, by omega, by omega, by omega, by omega, by omega, by omega, rfl, rfl, rfl, rfl, rfl, HCS.out, HSS.out, HB.out⟩
                  case measure => simp [intOf]; omega
    · obtain rfl : i = 700 := by omega
      have hce := ci_end HCI.out hq2
      rcases Bool.eq_false_or_eq_true s with rfl | rfl
      · obtain ⟨rfl, rfl⟩ := si_end HSI.out HAW.out
        subst hce
        go_wp2_with (first | (go_at_call 27; refine (CA.out _ HB.out).mono ?_; rintro e w6 ⟨rfl, hb⟩; have HB2 := Lib.hid (bthen HB.out hb.below); clear hb HB; have HB := HB2; clear HB2) | (go_at_call 28; refine (CD.out _ HB.out).mono ?_; rintro e w6 ⟨rfl, hb⟩; have HB2 := Lib.hid (bthen HB.out hb.below); clear hb HB; have HB := HB2; clear HB2) | fail)
        go_ret
        exact ⟨rfl, HB.out⟩
      · subst hce
        go_wp2_with (first | (go_at_call 27; refine (CA.out _ HB.out).mono ?_; rintro e w6 ⟨rfl, hb⟩; have HB2 := Lib.hid (bthen HB.out hb.below); clear hb HB; have HB := HB2; clear HB2) | (go_at_call 28; refine (CD.out _ HB.out).mono ?_; rintro e w6 ⟨rfl, hb⟩; have HB2 := Lib.hid (bthen HB.out hb.below); clear hb HB; have HB := HB2; clear HB2) | fail)
        go_ret
        exact ⟨rfl, HB.out⟩
theorem work_row {z0 z1 z2 : Int} {a : Option Addr} {len cap : Nat} {zs : List Int} (w0 : (Lit.int .i32 z0).wf = true) (w1 : (Lit.int .u8 z1).wf = true) (w2 : (Lit.int .u16 z2).wf = true) (w : World) (h : (a = none ∧ len = 0 ∧ cap = 0 ∧ zs = []) ∨ ∃ x, a = some x ∧ len ≤ cap ∧ cap ≤ maxLen ∧ zs.length = cap ∧ (∀ j, j < zs.length → w.cell? (x.add j) = some (.int .i64 (zs.getD j 0))) ∧ (∀ y ∈ zs, (Lit.int .i64 y).wf = true)) : Calls Try.prog 9 #[.int .i32 z0, .int .u8 z1, .int .u16 z2, .slice a len cap] w (Tr w) := by
  have h0 : -2147483648 ≤ z0 ∧ z0 ≤ 2147483647 := by
    simp [Lit.wf, IntKind.min, IntKind.max, IntKind.bits, IntKind.signed] at w0
    omega
  have h1 := bounds_u8 w1
  have h2 : 0 ≤ z2 ∧ z2 ≤ 65535 := by
    simp [Lit.wf, IntKind.min, IntKind.max, IntKind.bits, IntKind.signed] at w2
    omega
  obtain ⟨l, rfl, hr, hm, _, hc⟩ := ReadsInt.ofRowC h
  by_cases hn : l.length ≤ 60
  · exact work_true z0 z1 z2 a l cap hn hc w hr h0.1 h0.2 h1.1 h1.2 h2.1 h2.2
  · exact work_long z0 z1 z2 a l.length cap (by omega) hr.2.1 w
end Go.Proofs.Ytdbaeigbejcobaa.Cal
