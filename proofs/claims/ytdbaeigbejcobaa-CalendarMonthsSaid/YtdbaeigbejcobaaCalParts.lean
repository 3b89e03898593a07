import Derived.Test.YtdbaeigbejcobaaCalNth
import Derived.Deep.DeepCutAuto
namespace Go.Proofs.Ytdbaeigbejcobaa.Cal
open Go.RowKit Go.Proofs.Ytdbaeigbejcobaa.PCalendarWork Go.Proofs.YtdbaeigbejcobaaW.PrintWords
set_option linter.unusedVariables false
set_option linter.unusedSimpArgs false
theorem first_at (y : Int) (h1 : 1 ≤ y) (h2 : y ≤ 15000) (w : World) : Calls Try.prog 33 #[.int .i64 y] w fun e w' => e = .returned (.int .i64 (fst y)) ∧ Below w.heap.size w w' :=
  (fuseeref07_First.calls 20000 y _ w (first_f h1 h2 (Nat.le_refl _))).mono fun _ _ q => ⟨q.1, q.2.below⟩
theorem first_k (y : Int) (h1 : 1 ≤ y) (h2 : y ≤ 15000) (w : World) : Calls Try.prog 33 #[.int .i64 y] w fun e w' => ∃ k, fst y = k ∧ e = .returned (.int .i64 k) ∧ Below w.heap.size w w' :=
  (first_at y h1 h2 w).mono fun _ _ q => ⟨_, rfl, q⟩
theorem rdays_k (y m : Int) (w : World) : Calls Try.prog 22 #[.int .i64 y, .int .i64 m] w fun e w' => ∃ k, dimA y m = k ∧ e = .returned (.int .i64 k) ∧ Below w.heap.size w w' :=
  (rdays_at y m w).mono fun _ _ q => ⟨_, rfl, q⟩
def PartsOut (n : Int) (w : World) (e : Ending) (w' : World) : Prop := ∃ y m d, Vld y m d ∧ num y m d = n ∧ e = .returned (.tuple #[.int .i64 y, .int .i64 m, .int .i64 d, .bool true]) ∧ Below w.heap.size w w'
theorem parts_no (n : Int) (h : n < -719162 ∨ 2932896 < n) (w : World) : Calls Try.prog 19 #[.int .i64 n] w fun e w' => e = .returned (.tuple #[.int .i64 0, .int .i64 0, .int .i64 0, .bool false]) ∧ Below w.heap.size w w' := by
  have C1 := Lib.hid (fun w => show Calls Try.prog 33 #[.int .i64 1] w fun e w' => e = .returned (.int .i64 (-719162)) ∧ Below w.heap.size w w' from first_at 1 (by omega) (by omega) w)
  have C2 := Lib.hid (fun w => show Calls Try.prog 33 #[.int .i64 10000] w fun e w' => e = .returned (.int .i64 2932897) ∧ Below w.heap.size w w' from first_at 10000 (by omega) (by omega) w)
  rcases h with h | h
  · go_enter Try.func19, Try.ntmps19
    go_wp2_with (first | (go_at_call_of 33 (Value.int IntKind.i64 1); refine (C1.out _).mono ?_; rintro e w1 ⟨rfl, hb⟩; have HB := Lib.hid hb; clear hb) | fail)
    refine bodyPost_ret (v := .tuple #[.int .i64 0, .int .i64 0, .int .i64 0, .bool false]) (by simp [results, Try.results19, go_sem]) rfl ⟨rfl, HB.out⟩
  · go_enter Try.func19, Try.ntmps19
    go_wp2_with (first | (go_at_call_of 33 (Value.int IntKind.i64 1); refine (C1.out _).mono ?_; rintro e w1 ⟨rfl, hb⟩; have HB := Lib.hid hb; clear hb) | (go_at_call_of 33 (Value.int IntKind.i64 10000); refine (C2.out _).mono ?_; rintro e w2 ⟨rfl, hb⟩; have HB2 := Lib.hid (bthen HB.out hb); clear hb HB) | fail)
    refine bodyPost_ret (v := .tuple #[.int .i64 0, .int .i64 0, .int .i64 0, .bool false]) (by simp [results, Try.results19, go_sem]) rfl ⟨rfl, HB2.out⟩
set_option maxHeartbeats 8000000 in
set_option maxRecDepth 100000 in
theorem parts_yes (n : Int) (h1 : -719162 ≤ n) (h2 : n ≤ 2932896) (w : World) : Calls Try.prog 19 #[.int .i64 n] w (PartsOut n w) := by
  have C1 := Lib.hid (fun w => show Calls Try.prog 33 #[.int .i64 1] w fun e w' => e = .returned (.int .i64 (-719162)) ∧ Below w.heap.size w w' from first_at 1 (by omega) (by omega) w)
  have C2 := Lib.hid (fun w => show Calls Try.prog 33 #[.int .i64 10000] w fun e w' => e = .returned (.int .i64 2932897) ∧ Below w.heap.size w w' from first_at 10000 (by omega) (by omega) w)
  have CF := Lib.hid first_k
  have CD := Lib.hid rdays_k
  have hf1 : fst 1 = -719162 := by decide
  have hf2 : fst 10000 = 2932897 := by decide
  have HF1 := Lib.hid hf1
  have HF2 := Lib.hid hf2
  clear hf1 hf2
  go_enter Try.func19, Try.ntmps19
  go_upto_region 3 with (first | (go_at_call_of 33 (Value.int IntKind.i64 1); refine (C1.out _).mono ?_; rintro e w1 ⟨rfl, hb⟩; have HB := Lib.hid hb; clear hb) | (go_at_call_of 33 (Value.int IntKind.i64 10000); refine (C2.out _).mono ?_; rintro e w2 ⟨rfl, hb⟩; have HB2 := Lib.hid (bthen HB.out hb); clear hb HB) | fail)
  go_cut [6] (fun s6 wx => (∃ g : Int, 1 ≤ g ∧ g ≤ 9999 ∧ s6 = .int .i64 g) ∧ wx = w2)
  case first =>
    go_wp2_with fail
    all_goals
      go_meet
      exact ⟨⟨_, by omega, by omega, rfl⟩, rfl⟩
  case rest =>
    obtain ⟨⟨g, hg1, hg2, rfl⟩, rfl⟩ := hcut
    go_wp2_with fail
    go_loopw [6] (fun v6 W => ∃ y : Int, 1 ≤ y ∧ y ≤ 9999 ∧ v6 = .int .i64 y ∧ Hid (Below w.heap.size w W)) (fun v6 _ => (intOf v6).toNat)
    case atStart => exact ⟨g, hg1, hg2, rfl, HB2.out⟩
    case round =>
      obtain ⟨y, hy1, hy2, rfl, HB3⟩ := hrel
      by_cases hlt : n < fst y
      · have hy3 : 1 < y := by
          by_cases e : y = 1
          · subst e; rw [HF1.out] at hlt; omega
          · omega
        have HL := Lib.hid hlt
        clear hlt
        go_wp2_with (first | (go_at_call 33; refine (CF.out y hy1 (by omega) _).mono ?_; rintro e w3 ⟨k, hk, rfl, hb⟩; have HB4 := Lib.hid (bthen HB3.out hb); have hnk : n < k := (by rw [← hk]; exact HL.out); clear hk hb) | fail)
        go_roundw
        case rel => exact ⟨y - 1, by omega, by omega, rfl, HB4.out⟩
        case measure => simp [intOf]; omega
      · have HL := Lib.hid hlt
        clear hlt
        go_wp2_with (first | (go_at_call 33; refine (CF.out y hy1 (by omega) _).mono ?_; rintro e w3 ⟨k, hk, rfl, hb⟩; have HB4 := Lib.hid (bthen HB3.out hb); have hnk : k ≤ n := (by rw [← hk]; have := HL.out; omega); clear hk hb) | fail)
        clear hg1 hg2
        have HY := Lib.hid (show fst y ≤ n by have := HL.out; omega)
        clear hnk HL HB2 HB3
        go_loopw [6] (fun v6 W => ∃ y : Int, 1 ≤ y ∧ y ≤ 9999 ∧ v6 = .int .i64 y ∧ Hid (fst y ≤ n) ∧ Hid (Below w.heap.size w W)) (fun v6 _ => (10000 - intOf v6).toNat)
        case atStart => exact ⟨y, hy1, hy2, rfl, HY.out, HB4.out⟩
        case round =>
          clear hy1 hy2 HY HB4
          obtain ⟨z, hz1, hz2, rfl, HZ, HB5⟩ := hrel
          by_cases hlt : fst (z + 1) ≤ n
          · have hz3 : z < 9999 := by
              by_cases e : z = 9999
              · subst e; have := HF2.out; simp at hlt; omega
              · omega
            have HL := Lib.hid hlt
            clear hlt
            go_wp2_with (first | (go_at_call 33; refine (CF.out (z + 1) (by omega) (by omega) _).mono ?_; rintro e w3 ⟨k, hk, rfl, hb⟩; have HB6 := Lib.hid (bthen HB5.out hb); have hnk : k ≤ n := (by rw [← hk]; exact HL.out); clear hk hb) | fail)
            go_roundw
            case rel => exact ⟨z + 1, by omega, by omega, rfl, HL.out, HB6.out⟩
            case measure => simp [intOf]; omega
          · have HL := Lib.hid hlt
            clear hlt
            obtain ⟨f, hf⟩ : ∃ f, fst z = f := ⟨_, rfl⟩
            have hfb := fst_bd (y := z) (by omega) (by omega)
            have CF1 := Lib.hid (fun w => hf ▸ first_at z hz1 (by omega) w)
            have hfn := HZ.out
            rw [hf] at hfb hfn
            obtain ⟨hf1, hf2⟩ := hfb
            have hfn2 : n < f + 366 := by
              have h1 := HL.out
              have h2 := fst_succ z
              have h3 := lp_01 z
              omega
            have HFz := Lib.hid hf
            clear hf
            go_wp2_with (first | (go_at_call_of 33 (Value.int IntKind.i64 z); refine (CF1.out _).mono ?_; rintro e w4 ⟨rfl, hb⟩; have HB7 := Lib.hid (bthen HB6.out hb); clear hb HB6) | (go_at_call 33; refine (CF.out (z + 1) (by omega) (by omega) _).mono ?_; rintro e w3 ⟨k, hk, rfl, hb⟩; have HB6 := Lib.hid (bthen HB5.out hb); have hnk : n < k := (by rw [← hk]; have := HL.out; omega); clear hk hb) | fail)
            have HM0 := Lib.hid (show n - f + 1 ≤ 365 + lp z by have h1 := HL.out; have h2 := fst_succ z; have := HFz.out; omega)
            clear HL HB5 HZ
            go_loopw [7, 8] (fun v7 v8 W => ∃ d m : Int, 1 ≤ m ∧ m ≤ 12 ∧ 1 ≤ d ∧ d ≤ 366 ∧ v7 = .int .i64 d ∧ v8 = .int .i64 m ∧ Hid (d = n - f - cum z m + 1) ∧ Hid (Below w.heap.size w W)) (fun v7 _ _ => (intOf v7).toNat)
            case atStart => exact ⟨n - f + 1, 1, by omega, by omega, by omega, by omega, rfl, rfl, (show n - f + 1 = n - f - cum z 1 + 1 by rw [cum_1]; omega), HB7.out⟩
            case round =>
              obtain ⟨d, m, hm1, hm2, hd1, hd2, rfl, rfl, HD, HB8⟩ := hrel
              have hkb := dim_bd (y := z) hm1 hm2
              obtain ⟨hk1, hk2⟩ := hkb
              have hdA : dimA z m = dim z m := by unfold dimA; rw [if_pos ⟨⟨hz1, hz2⟩, hm1, hm2⟩]
              have CDz := Lib.hid (fun w => hdA ▸ rdays_at z m w)
              have hcs := cum_succ (y := z) hm1 hm2
              by_cases hlt : dim z m < d
              · have hm3 : m < 12 := by
                  by_cases e : m = 12
                  · subst e
                    have h1 := cum_13 z
                    have h2 := HM0.out
                    have h3 := HD.out
                    simp at hcs
                    omega
                  · omega
                have HN := Lib.hid (show d - dim z m = n - f - cum z (m + 1) + 1 by have := HD.out; omega)
                clear hcs hdA
                generalize dim z m = k at *
                go_wp2_with (first | (go_at_call 22; refine (CDz.out _).mono ?_; rintro e w5 ⟨rfl, hb⟩; have HB9 := Lib.hid (bthen HB8.out hb); have HB8 := HB9; clear hb) | fail)
                go_roundw
                case rel => exact ⟨d - k, m + 1, by omega, by omega, by omega, by omega, rfl, rfl, HN.out, HB8.out⟩
                case measure => simp [intOf]; omega
              · have HV := Lib.hid (show Vld z m d from ⟨⟨hz1, hz2⟩, ⟨hm1, hm2⟩, hd1, by omega⟩)
                have HN := Lib.hid (show num z m d = n by have := HD.out; have := HFz.out; unfold num; omega)
                clear hcs hdA
                generalize dim z m = k at *
                go_wp2_with (first | (go_at_call 22; refine (CDz.out _).mono ?_; rintro e w5 ⟨rfl, hb⟩; have HB9 := Lib.hid (bthen HB8.out hb); clear hb) | fail)
                refine bodyPost_ret (v := .tuple #[.int .i64 z, .int .i64 m, .int .i64 d, .bool true]) (by simp [results, Try.results19, go_sem]) rfl ⟨z, m, d, HV.out, HN.out, rfl, HB9.out⟩
end Go.Proofs.Ytdbaeigbejcobaa.Cal
