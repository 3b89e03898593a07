import Derived.Test.YtapebhefbokcfaaWinRows
namespace Go.Proofs.Ytapebhefbokcfaa.Win
open Go.RowKit Go.Proofs.Ytapebhefbokcfaa.DebW
set_option linter.unusedVariables false
set_option linter.unusedSimpArgs false
def Rd8 (w : World) (A : Option Addr) (n : Nat) (g : Nat → Int) : Prop := (∀ j, 0 ≤ g j ∧ g j ≤ 255) ∧ (0 < n → ∃ b off, A = some ⟨b, off, none⟩ ∧ ∀ j, j < n → w.cell? ⟨b, off + j, none⟩ = some (.int .u8 (g j)))
theorem rd8_of {w : World} {a : Option Addr} {len cap : Nat} {zs : List Int} (h : (a = none ∧ len = 0 ∧ cap = 0 ∧ zs = []) ∨ ∃ x, a = some x ∧ len ≤ cap ∧ cap ≤ maxLen ∧ zs.length = cap ∧ (∀ j, j < zs.length → w.cell? (x.add j) = some (.int .u8 (zs.getD j 0))) ∧ (∀ y ∈ zs, (Lit.int .u8 y).wf = true)) :
    Rd8 w a len (fun j => zs.getD j 0) := by
  rcases h with ⟨rfl, rfl, rfl, rfl⟩ | ⟨x, rfl, h1, h2, h3, h4, h5⟩
  · exact ⟨fun j => by show 0 ≤ ([] : List Int).getD j 0 ∧ ([] : List Int).getD j 0 ≤ 255; simp, fun h => absurd h (by omega)⟩
  · refine ⟨fun j => ?_, fun h => ?_⟩
    · by_cases hj : j < zs.length
      · have := h5 (zs.getD j 0) (by rw [List.getD_eq_getElem?_getD, List.getElem?_eq_getElem hj]; exact List.getElem_mem hj)
        exact bounds_u8 this
      · show 0 ≤ zs.getD j 0 ∧ zs.getD j 0 ≤ 255
        rw [List.getD_eq_getElem?_getD, List.getElem?_eq_none (Nat.le_of_not_lt hj)]
        decide
    · obtain ⟨b, off, rfl, hc⟩ := ints_at h4 (by omega)
      exact ⟨b, off, rfl, fun j hj => hc j (by omega)⟩
theorem u8_bd {x : Int} (h : (Lit.int .u8 x).wf = true) : 0 ≤ x ∧ x ≤ 255 := bounds_u8 h
def BI (mo : Int) (k i : Nat) (N : Int) (A M : List Int) : Prop := A.length = M.length ∧ A.length ≤ i ∧ 0 ≤ N ∧ N ≤ 15 * i ∧ (∀ j, 0 ≤ A.getD j 0 ∧ A.getD j 0 ≤ N) ∧ (∀ j, 0 ≤ M.getD j 0 ∧ M.getD j 0 ≤ 4) ∧ wpre 10 (N / 10) k A M A.length ≤ mo
theorem bi_psum {mo : Int} {k i : Nat} {N N' : Int} {A M : List Int} (h : BI mo k i N A M) (hN : N ≤ N') : psum (Sof 10 A M) (N' / 10) k k = wpre 10 (N' / 10) k A M A.length :=
  psum_ssum 10 A M _ k A.length fun j _ => by have := h.2.2.2.2.1 j; omega
theorem bi_no {mo : Int} {k i : Nat} {N N' : Int} {A M : List Int} (h : BI mo k i N A M) (hN : N ≤ N') (hN2 : N' ≤ N + 15) : BI mo k (i + 1) N' A M := by
  refine ⟨h.1, by have := h.2.1; omega, by have := h.2.2.1; omega, by have := h.2.2.2.1; omega, fun j => by have := h.2.2.2.2.1 j; omega, h.2.2.2.2.2.1, ?_⟩
  exact Int.le_trans (wpre_mono 10 _ _ k A M (by omega) (fun j => (h.2.2.2.2.2.1 j).1) _) h.2.2.2.2.2.2
theorem bi_yes {mo m : Int} {k i : Nat} {N N' : Int} {A M : List Int} (h : BI mo k i N A M) (hN : N ≤ N') (hN2 : N' ≤ N + 15) (hm : 1 ≤ m ∧ m ≤ 4) (hs : psum (Sof 10 A M) (N' / 10) k k + m ≤ mo) : BI mo k (i + 1) N' (A ++ [N']) (M ++ [m]) := by
  rw [bi_psum h hN] at hs
  obtain ⟨h1, h2, h3, h4, h5, h6, h7⟩ := h
  refine ⟨by simp [h1], by simp; omega, by omega, by omega, fun j => ?_, fun j => ?_, ?_⟩
  · rw [getD_snoc]; have := h5 j; split <;> omega
  · rw [getD_snoc]; have := h6 j; split <;> omega
  · rw [List.length_append, List.length_singleton, wpre_succ, wpre_snoc _ _ _ _ _ _ _ h1 _ (Nat.le_refl _), getD_snoc, getD_snoc, if_pos rfl, if_pos h1]
    split <;> omega
theorem bi_bw {mo : Int} {k i : Nat} {N : Int} {A M : List Int} (h : BI mo k i N A M) (hi : i ≤ 100) (hk : 1 ≤ k ∧ k ≤ 8) : Bw 10 (N / 10) k (Sof 10 A M) := by
  obtain ⟨h1, h2, h3, h4, h5, h6, h7⟩ := h
  refine ⟨by omega, by omega, hk.1, by omega, by omega, by omega, by omega, fun q => ?_⟩
  have := ssum_bd 10 4 A M q h6 A.length
  unfold Sof
  omega
theorem bi_at {N N' : Int} (h0 : 0 ≤ N) (h : N ≤ N') (h2 : N' ≤ 2000) : atOf 10 (N / 10) N' = N' / 10 := by unfold atOf; omega
theorem cn_at {k : Nat} (h1 : 1 ≤ k) (h2 : k ≤ 8) (w : World) : Calls Try.prog 18 #[.int .i64 (10 * (1 + ((k : Int) - 1))), .int .i64 (1 + ((k : Int) - 1))] w fun e w' => ∃ b r, e = .returned (ptr b) ∧ w.heap.size ≤ b ∧ w.heap.size ≤ r ∧ Below w.heap.size w w' ∧ WI b r 10 0 k (fun _ => 0) w' := by
  have h := new_at (10 * (k : Int)) k (by unfold wok; refine ⟨by omega, by omega, ?_⟩; rw [Int.mul_emod_left]) w
  rw [show (10 * (k : Int)) / k = 10 from Int.mul_ediv_cancel _ (by omega)] at h
  rw [show 1 + ((k : Int) - 1) = k by omega]
  exact h
theorem bounds_yes {b r k i : Nat} {mo N y m : Int} {A M : List Int} (W : World) (hW : WI b r 10 (N / 10) k (Sof 10 A M) W) (h : BI mo k i N A M) (hi : i ≤ 100) (hk : 1 ≤ k ∧ k ≤ 8) (hy : 0 ≤ y ∧ y ≤ 15) (hm : 1 ≤ m ∧ m ≤ 4) (hs : psum (Sof 10 A M) ((N + y) / 10) k k + m ≤ mo) :
    Calls Try.prog 24 #[ptr b, .int .i64 (N + y), .int .i64 m, .int .i64 mo] W fun e w' => e = .returned (.bool true) ∧ G2 b r W w' ∧ WI b r 10 ((N + y) / 10) k (Sof 10 (A ++ [N + y]) (M ++ [m])) w' := by
  have ha := bi_at (N := N) (N' := N + y) h.2.2.1 (by omega) (by have := h.2.2.2.1; omega)
  have hmm : min (max m 0) 1099511627776 = m := by omega
  have hc := allow_w (N + y) m mo W hW (bi_bw h hi hk)
  rw [ha, hmm] at hc
  rw [sof_snoc 10 A M _ _ h.1]
  simp only [hs, if_true, decide_true] at hc
  exact hc
theorem bounds_no {b r k i : Nat} {mo N y m : Int} {A M : List Int} (W : World) (hW : WI b r 10 (N / 10) k (Sof 10 A M) W) (h : BI mo k i N A M) (hi : i ≤ 100) (hk : 1 ≤ k ∧ k ≤ 8) (hy : 0 ≤ y ∧ y ≤ 15) (hm : 1 ≤ m ∧ m ≤ 4) (hs : ¬ psum (Sof 10 A M) ((N + y) / 10) k k + m ≤ mo) :
    Calls Try.prog 24 #[ptr b, .int .i64 (N + y), .int .i64 m, .int .i64 mo] W fun e w' => e = .returned (.bool false) ∧ G2 b r W w' ∧ WI b r 10 ((N + y) / 10) k (Sof 10 A M) w' := by
  have ha := bi_at (N := N) (N' := N + y) h.2.2.1 (by omega) (by have := h.2.2.2.1; omega)
  have hmm : min (max m 0) 1099511627776 = m := by omega
  have hc := allow_w (N + y) m mo W hW (bi_bw h hi hk)
  rw [ha, hmm] at hc
  simp only [hs, if_false, decide_false] at hc
  exact hc
theorem bounds_sum {b r k i : Nat} {mo N : Int} {A M : List Int} (W : World) (hW : WI b r 10 (N / 10) k (Sof 10 A M) W) (h : BI mo k i N A M) (hi : i ≤ 100) (hk : 1 ≤ k ∧ k ≤ 8) :
    Calls Try.prog 21 #[ptr b, .int .i64 N] W fun e w' => e = .returned (.int .i64 (wpre 10 (N / 10) k A M A.length)) ∧ G2 b r W w' ∧ WI b r 10 (N / 10) k (Sof 10 A M) w' := by
  have ha := bi_at (N := N) (N' := N) h.2.2.1 (by omega) (by have := h.2.2.2.1; omega)
  have hc := sum_w N W hW (bi_bw h hi hk)
  rw [ha, bi_psum h (Int.le_refl _)] at hc
  exact hc
set_option maxHeartbeats 8000000 in
set_option maxRecDepth 100000 in
theorem bounds_true (pz mo : Int) (A : Option Addr) (n c : Nat) (g : Nat → Int) (w : World) (hp : 0 ≤ pz ∧ pz ≤ 255) (hmo : 0 ≤ mo ∧ mo ≤ 255) (hn : n ≤ 100) (hA : Rd8 w A n g) :
    Calls Try.prog 6 #[.int .u8 pz, .int .u8 mo, .slice A n c] w (Tr w) := by
  obtain ⟨hp1, hp2⟩ := hp
  obtain ⟨hmo1, hmo2⟩ := hmo
  obtain ⟨hg, hA⟩ := hA
  have HA := Lib.hid hA
  clear hA
  obtain ⟨k, hk⟩ : ∃ k : Nat, (k : Int) = 1 + pz % 8 := ⟨(1 + pz % 8).toNat, by omega⟩
  have hk1 : 1 ≤ k ∧ k ≤ 8 := by omega
  obtain ⟨hk2, hk3⟩ := hk1
  have hpt : pz.tmod 8 = (k : Int) - 1 := by rw [Int.tmod_eq_emod_of_nonneg (by omega)]; omega
  have hpe : pz % 8 = (k : Int) - 1 := by omega
  have hwk : IntKind.u8.wrap ((k : Int) - 1) = (k : Int) - 1 := by
    have : k = 1 ∨ k = 2 ∨ k = 3 ∨ k = 4 ∨ k = 5 ∨ k = 6 ∨ k = 7 ∨ k = 8 := by omega
    rcases this with rfl | rfl | rfl | rfl | rfl | rfl | rfl | rfl <;> decide
  have CN := Lib.hid (fun (W : World) => cn_at hk2 hk3 W)
  have HKE := Lib.hid hk
  have HKK := Lib.hid (show 1 + ((k : Int) - 1) = k by omega)
  clear hk
  go_enter Try.func6, Try.ntmps6
  go_wp2_with (first
    | (go_at_call 17; refine (fixed_at _).mono ?_; rintro e w1 ⟨rfl, hb⟩; have HB1 := Lib.hid hb; clear hb)
    | (go_at_call 18; refine (CN.out _).mono ?_; rintro e w2 ⟨b, r, rfl, hb, hr, hbel, hwi⟩; have HB2 := Lib.hid hbel; have HW2 := Lib.hid hwi; clear hbel hwi; rw [HKK.out])
    | fail)
  go_loopw [9, 10, 11, 12, 13, 14, 15, 16, 32] (fun v9 v10 v11 v12 v13 v14 v15 v16 v32 W => ∃ (i : Nat) (N : Int) (vA vM : Value) (As Ms : List Int), i ≤ n ∧ v9 = .int .i64 N ∧ vA = v10 ∧ vM = v11 ∧ v32 = .int .i64 i ∧ Hid (BI mo k i N As Ms) ∧ Hid (Two w2.heap.size vA vM As Ms W) ∧ Hid (WI b r 10 (N / 10) k (Sof 10 As Ms) W) ∧ Hid (Below w.heap.size w W) ∧ Hid (w2.heap.size ≤ W.heap.size)) (fun _ _ _ _ _ _ _ _ v32 _ => n - (intOf v32).toNat)
  case atStart => exact ⟨0, 0, _, _, [], [], by omega, rfl, rfl, rfl, rfl, by refine ⟨rfl, by simp, by omega, by omega, fun j => by simp, fun j => by simp, ?_⟩; show (0 : Int) ≤ mo; omega, two_nil _ _, HW2.out, HB1.out.trans (HB2.out.mono HB1.out.size), Nat.le_refl _⟩
  case round =>
    obtain ⟨i, N, vA, vM, As, Ms, hi, rfl, rfl, rfl, rfl, HI, HT, HW, HB, HZ⟩ := hrel
    have HLT := Lib.hid (wi_lt HW2.out)
    obtain ⟨i1, i2, i3, i4, i5, i6, i7⟩ := HI.out
    have hin : i ≤ 100 := by omega
    have HI2 := Lib.hid (show As.length ≤ 1000 by omega)
    have HI3 := Lib.hid (show Ms.length ≤ 1000 by omega)
    clear i1 i2 i5 i6 i7
    by_cases hlt : i < n
    · obtain ⟨b0, off, rfl, hcell⟩ := HA.out (by omega)
      obtain ⟨x, hx⟩ : ∃ x, x = g i := ⟨_, rfl⟩
      have hgk := hg i
      rw [← hx] at hgk
      obtain ⟨hx1, hx2⟩ := hgk
      have hblk : b0 < w.heap.size := World.block_lt_of_cell? w _ (hcell 0 (by omega))
      have hcx : wr.cell? ⟨b0, off + i, none⟩ = some (.int .u8 x) := by rw [hx]; exact ((bcell HB.out).1 b0 (off + i) hblk).trans (hcell i hlt)
      have HX := Lib.hid hx
      have HC := Lib.hid hcell
      clear hx hcell hg
      obtain ⟨y, hy⟩ : ∃ y, x % 16 = y := ⟨_, rfl⟩
      have hy1 : 0 ≤ y := by omega
      have hy2 : y ≤ 15 := by omega
      have hy3 : x.tmod 16 = y := by rw [Int.tmod_eq_emod_of_nonneg (by omega)]; exact hy
      obtain ⟨m, hm⟩ : ∃ m, (i : Int) % 4 = m := ⟨_, rfl⟩
      have hm1 : 0 ≤ m := by omega
      have hm2 : m ≤ 3 := by omega
      have hm3 : (i : Int).tmod 4 = m := by rw [Int.tmod_eq_emod_of_nonneg (by omega)]; exact hm
      have hn1 : 0 ≤ N + y := by omega
      have hn2 : N + y ≤ 1500 := by omega
      by_cases hs : psum (Sof 10 As Ms) ((N + y) / 10) k k + (m + 1) ≤ mo
      · have CA := Lib.hid (bounds_yes wr HW.out HI.out (by omega) ⟨hk2, hk3⟩ ⟨hy1, hy2⟩ (by omega) hs)
        have HI9 := Lib.hid (bi_yes (N' := N + y) (m := m + 1) HI.out (by omega) (by omega) (by omega) hs)
        clear hs
        go_wp2_with (first
          | (go_at_call 24; refine (CA.out).mono ?_; rintro e w4 ⟨rfl, hg4, hwi⟩; have HG4 := Lib.hid hg4; have HW4 := Lib.hid hwi; clear hg4 hwi; have HT4 := Lib.hid (two_g2 HT.out HG4.out HLT.out.1 HLT.out.2); have HZ4 := Lib.hid (Nat.le_trans HZ.out HG4.out.size))
          | (at_builtin; refine app1z (W := w4) w2.heap.size rfl _ _ 32 rfl Try.underlying32 info3 vA As (N + y) rfl ?hx HT4.out.l HZ4.out HI2.out ?_; (case hx => rfl); intro Aa pa ca w5 HAa hrow hg hp; have HT5 := Lib.hid (two_app _ HT4.out hrow hg hp HZ4.out).1; have HB5 := Lib.hid (two_app _ HT4.out hrow hg hp HZ4.out).2; have HZ5 := Lib.hid (Nat.le_trans HZ4.out HB5.out.size); clear HT4 hrow hg hp)
          | (at_builtin; refine app1z (W := w5) w2.heap.size rfl _ _ 32 rfl Try.underlying32 info3 vM Ms (m + 1) rfl ?hx HT5.out.r HZ5.out HI3.out ?_; (case hx => rfl); intro Mm pm cm w6 HMm hrow hg hp; have HTz := Lib.hid (two_symm (two_app _ (two_symm HT5.out) hrow hg hp HZ5.out).1); have HB6 := Lib.hid (HB5.out.trans (two_app _ (two_symm HT5.out) hrow hg hp HZ5.out).2); clear HT5 hrow hg hp)
          | fail)
        have HIz : Hid (BI mo k (i + 1) (N + y) Aa Mm) := Lib.hid (by rw [HAa.out, HMm.out]; exact HI9.out)
        have HWz : Hid (WI b r 10 ((N + y) / 10) k (Sof 10 Aa Mm) w6) := Lib.hid (by rw [HAa.out, HMm.out]; exact wi_belowB HW4.out HB6.out HLT.out.1 HLT.out.2)
        have HZz := Lib.hid (Nat.le_trans HZ4.out HB6.out.size)
        have HBz := Lib.hid ((g2_new HB.out (by have := HB1.out.size; omega) (by have := HB1.out.size; omega) HG4.out).trans (HB6.out.mono (by have := HB1.out.size; have := HB2.out.size; omega)))
        have HCA := Lib.hid (fun j (h : j < Aa.length) => (⟨pa, rfl, rowp_at HTz.out.l h⟩ : ∃ pb, some (⟨pa, 0, none⟩ : Addr) = some ⟨pb, 0, none⟩ ∧ w6.cell? ⟨pb, j, none⟩ = some (.int .i64 (Aa.getD j 0))))
        have HCM := Lib.hid (fun j (h : j < Mm.length) => (⟨pm, rfl, rowp_at HTz.out.r h⟩ : ∃ pb, some (⟨pm, 0, none⟩ : Addr) = some ⟨pb, 0, none⟩ ∧ w6.cell? ⟨pb, j, none⟩ = some (.int .i64 (Mm.getD j 0))))
        have HBW := Lib.hid (show Below w.heap.size w w6 from HBz.out)
        obtain ⟨t, ht⟩ : ∃ t, (N + y) / 10 = t := ⟨_, rfl⟩
        have ht1 : (N + y).tdiv 10 = t := by rw [Int.tdiv_eq_ediv_of_nonneg (by omega)]; exact ht
        have ht2 : 0 ≤ t ∧ t ≤ 200 := by omega
        obtain ⟨ht3, ht4⟩ := ht2
        have HS := Lib.hid (bounds_sum w6 HWz.out HIz.out (by omega) ⟨hk2, hk3⟩)
        rw [ht] at HS
        have HSB := Lib.hid (fun j => wpre_bd 10 t 4 k Aa Mm HIz.out.2.2.2.2.2.1 j)
        have HTOT := Lib.hid (show wpre 10 t k Aa Mm Aa.length ≤ mo by rw [← ht]; exact HIz.out.2.2.2.2.2.2)
        have HLA := Lib.hid (show Aa.length ≤ 101 by have := HIz.out.2.1; omega)
        have HLM := Lib.hid (show Aa.length = Mm.length from HIz.out.1)
        have HAB := Lib.hid HIz.out.2.2.2.2.1
        have HMB := Lib.hid HIz.out.2.2.2.2.2.1
        have HTT := Lib.hid ht
        clear hy hm hn
        go_loopw [15, 16, 61] (fun v15 v16 v61 W2 => ∃ (j : Nat), j ≤ Aa.length ∧ v15 = .int .i64 (wpre 10 t k Aa Mm j) ∧ v61 = .int .i64 j ∧ W2 = w6) (fun _ _ v61 _ => Aa.length - (intOf v61).toNat)
        case atStart => exact ⟨0, by omega, rfl, rfl, rfl⟩
        case round =>
          obtain ⟨j, hj, rfl, rfl, rfl⟩ := hrel
          have hj9 : j ≤ 101 := by have := HLA.out; omega
          obtain ⟨s, hs⟩ : ∃ s, wpre 10 t k Aa Mm j = s := ⟨_, rfl⟩
          have hsb := HSB.out j
          rw [hs] at hsb ⊢
          have hs1 : 0 ≤ s := hsb.1
          have hs2 : s ≤ 404 := by omega
          clear hsb
          by_cases hjl : j < Aa.length
          · obtain ⟨pA, hpA, hca⟩ := HCA.out j hjl
            have hjm : j < Mm.length := by have := HLM.out; omega
            obtain ⟨pM, hpM, hcm⟩ := HCM.out j hjm
            cases hpA
            cases hpM
            have hab := HAB.out j
            have hmb := HMB.out j
            have hsu := wpre_succ 10 t k Aa Mm j
            rw [hs] at hsu
            obtain ⟨a, ha⟩ : ∃ a, Aa.getD j 0 = a := ⟨_, rfl⟩
            obtain ⟨u, hu⟩ : ∃ u, Mm.getD j 0 = u := ⟨_, rfl⟩
            rw [ha] at hca hab hsu
            rw [hu] at hcm hmb hsu
            obtain ⟨q, hq⟩ : ∃ q, a / 10 = q := ⟨_, rfl⟩
            rw [hq] at hsu
            have hq1 : a.tdiv 10 = q := by rw [Int.tdiv_eq_ediv_of_nonneg (by omega)]; exact hq
            have hq2 : 0 ≤ q := by omega
            have hq3 : q ≤ 200 := by omega
            obtain ⟨ha1, ha2⟩ := hab
            obtain ⟨hu1, hu2⟩ := hmb
            have HSU := Lib.hid hsu
            have HS0 := Lib.hid hs
            have HAV := Lib.hid ha
            have HUV := Lib.hid hu
            clear hsu hs ha hu
            by_cases htq : t - q < (k : Int)
            · go_wp2
              refine ⟨⟨j + 1, by omega, by rw [HSU.out, if_pos htq], by simp, trivial⟩, by simp [intOf]; omega⟩
            · go_wp2
              refine ⟨⟨j + 1, by omega, by rw [HSU.out, if_neg htq]; simp, by simp, trivial⟩, by simp [intOf]; omega⟩
          · have hje : j = Aa.length := by omega
            have htot := HTOT.out
            rw [← hje, hs] at htot
            rw [← hje, hs] at HS
            have HS0 := Lib.hid hs
            have hjA : ¬ (j : Int) < (Aa.length : Int) := by omega
            have HJE := Lib.hid hje
            clear hs hje hjl
            go_wp2_with (first | (go_at_call 21; refine (HS.out).mono ?_; rintro e w8 ⟨rfl, hg8, hwi8⟩; have HG8 := Lib.hid hg8; have HW8 := Lib.hid hwi8; clear hg8 hwi8) | fail)
            have HB8 := Lib.hid (show Below w.heap.size w w8 from g2_new HBW.out (by have := HB1.out.size; omega) (by have := HB1.out.size; omega) HG8.out)
            rw [← HTT.out] at HW8
            go_roundw
            case rel => exact ⟨i + 1, N + y, _, _, Aa, Mm, by omega, rfl, rfl, rfl, by simp, HIz.out, two_g2 HTz.out HG8.out HLT.out.1 HLT.out.2, HW8.out, HB8.out, Nat.le_trans HZz.out HG8.out.size⟩
            case measure => simp [intOf]; omega
      · have CA := Lib.hid (bounds_no wr HW.out HI.out (by omega) ⟨hk2, hk3⟩ ⟨hy1, hy2⟩ (by omega) hs)
        have HIz := Lib.hid (bi_no (N' := N + y) HI.out (by omega) (by omega))
        clear hs
        go_wp2_with (first
          | (go_at_call 24; refine (CA.out).mono ?_; rintro e w4 ⟨rfl, hg4, hwi⟩; have HG4 := Lib.hid hg4; have HWz := Lib.hid hwi; clear hg4 hwi; have HTz := Lib.hid (two_g2 HT.out HG4.out HLT.out.1 HLT.out.2); have HZz := Lib.hid (Nat.le_trans HZ.out HG4.out.size); obtain ⟨A0, cA, rfl, hcA⟩ := rowp_any HTz.out.l; obtain ⟨M0, cM, rfl, hcM⟩ := rowp_any HTz.out.r; have HCA := Lib.hid hcA; have HCM := Lib.hid hcM; clear hcA hcM)
          | fail)
        have HBz := Lib.hid (g2_new HB.out (by have := HB1.out.size; omega) (by have := HB1.out.size; omega) HG4.out)
        have HBW := Lib.hid (show Below w.heap.size w w4 from HBz.out)
        obtain ⟨t, ht⟩ : ∃ t, (N + y) / 10 = t := ⟨_, rfl⟩
        have ht1 : (N + y).tdiv 10 = t := by rw [Int.tdiv_eq_ediv_of_nonneg (by omega)]; exact ht
        have ht2 : 0 ≤ t ∧ t ≤ 200 := by omega
        obtain ⟨ht3, ht4⟩ := ht2
        have HS := Lib.hid (bounds_sum w4 HWz.out HIz.out (by omega) ⟨hk2, hk3⟩)
        rw [ht] at HS
        have HSB := Lib.hid (fun j => wpre_bd 10 t 4 k As Ms HIz.out.2.2.2.2.2.1 j)
        have HTOT := Lib.hid (show wpre 10 t k As Ms As.length ≤ mo by rw [← ht]; exact HIz.out.2.2.2.2.2.2)
        have HLA := Lib.hid (show As.length ≤ 101 by have := HIz.out.2.1; omega)
        have HLM := Lib.hid (show As.length = Ms.length from HIz.out.1)
        have HAB := Lib.hid HIz.out.2.2.2.2.1
        have HMB := Lib.hid HIz.out.2.2.2.2.2.1
        have HTT := Lib.hid ht
        clear hy hm hn
        go_loopw [15, 16, 61] (fun v15 v16 v61 W2 => ∃ (j : Nat), j ≤ As.length ∧ v15 = .int .i64 (wpre 10 t k As Ms j) ∧ v61 = .int .i64 j ∧ W2 = w4) (fun _ _ v61 _ => As.length - (intOf v61).toNat)
        case atStart => exact ⟨0, by omega, rfl, rfl, rfl⟩
        case round =>
          obtain ⟨j, hj, rfl, rfl, rfl⟩ := hrel
          have hj9 : j ≤ 101 := by have := HLA.out; omega
          obtain ⟨s, hs⟩ : ∃ s, wpre 10 t k As Ms j = s := ⟨_, rfl⟩
          have hsb := HSB.out j
          rw [hs] at hsb ⊢
          have hs1 : 0 ≤ s := hsb.1
          have hs2 : s ≤ 404 := by omega
          clear hsb
          by_cases hjl : j < As.length
          · obtain ⟨pA, hpA, hca⟩ := HCA.out j hjl
            have hjm : j < Ms.length := by have := HLM.out; omega
            obtain ⟨pM, hpM, hcm⟩ := HCM.out j hjm
            cases hpA
            cases hpM
            have hab := HAB.out j
            have hmb := HMB.out j
            have hsu := wpre_succ 10 t k As Ms j
            rw [hs] at hsu
            obtain ⟨a, ha⟩ : ∃ a, As.getD j 0 = a := ⟨_, rfl⟩
            obtain ⟨u, hu⟩ : ∃ u, Ms.getD j 0 = u := ⟨_, rfl⟩
            rw [ha] at hca hab hsu
            rw [hu] at hcm hmb hsu
            obtain ⟨q, hq⟩ : ∃ q, a / 10 = q := ⟨_, rfl⟩
            rw [hq] at hsu
            have hq1 : a.tdiv 10 = q := by rw [Int.tdiv_eq_ediv_of_nonneg (by omega)]; exact hq
            have hq2 : 0 ≤ q := by omega
            have hq3 : q ≤ 200 := by omega
            obtain ⟨ha1, ha2⟩ := hab
            obtain ⟨hu1, hu2⟩ := hmb
            have HSU := Lib.hid hsu
            have HS0 := Lib.hid hs
            have HAV := Lib.hid ha
            have HUV := Lib.hid hu
            clear hsu hs ha hu
            by_cases htq : t - q < (k : Int)
            · go_wp2
              refine ⟨⟨j + 1, by omega, by rw [HSU.out, if_pos htq], by simp, trivial⟩, by simp [intOf]; omega⟩
            · go_wp2
              refine ⟨⟨j + 1, by omega, by rw [HSU.out, if_neg htq]; simp, by simp, trivial⟩, by simp [intOf]; omega⟩
          · have hje : j = As.length := by omega
            have htot := HTOT.out
            rw [← hje, hs] at htot
            rw [← hje, hs] at HS
            have HS0 := Lib.hid hs
            have hjA : ¬ (j : Int) < (As.length : Int) := by omega
            have HJE := Lib.hid hje
            clear hs hje hjl
            go_wp2_with (first | (go_at_call 21; refine (HS.out).mono ?_; rintro e w8 ⟨rfl, hg8, hwi8⟩; have HG8 := Lib.hid hg8; have HW8 := Lib.hid hwi8; clear hg8 hwi8) | fail)
            have HB8 := Lib.hid (show Below w.heap.size w w8 from g2_new HBW.out (by have := HB1.out.size; omega) (by have := HB1.out.size; omega) HG8.out)
            rw [← HTT.out] at HW8
            go_roundw
            case rel => exact ⟨i + 1, N + y, _, _, As, Ms, by omega, rfl, rfl, rfl, by simp, HIz.out, two_g2 HTz.out HG8.out HLT.out.1 HLT.out.2, HW8.out, HB8.out, Nat.le_trans HZz.out HG8.out.size⟩
            case measure => simp [intOf]; omega
    · obtain rfl : i = n := by omega
      go_wp2
      go_ret
      exact ⟨rfl, HB.out⟩
theorem bounds_long (pz mo : Int) (A : Option Addr) (n c : Nat) (w : World) (hn : 100 < n) :
    Calls Try.prog 6 #[.int .u8 pz, .int .u8 mo, .slice A n c] w (Tr w) := by
  go_enter Try.func6, Try.ntmps6
  go_wp2_with (first | (go_at_call 17; refine (fixed_at _).mono ?_; rintro e w1 ⟨rfl, hb⟩; have HB1 := Lib.hid hb; clear hb) | fail)
  go_ret
  exact ⟨rfl, HB1.out⟩
theorem bounds_all (pz mo : Int) (a : Option Addr) (len cap : Nat) (zs : List Int) (w : World) (hq : (Lit.int .u8 pz).wf = true) (hm : (Lit.int .u8 mo).wf = true) (h : (a = none ∧ len = 0 ∧ cap = 0 ∧ zs = []) ∨ ∃ x, a = some x ∧ len ≤ cap ∧ cap ≤ maxLen ∧ zs.length = cap ∧ (∀ j, j < zs.length → w.cell? (x.add j) = some (.int .u8 (zs.getD j 0))) ∧ (∀ y ∈ zs, (Lit.int .u8 y).wf = true)) :
    Calls Try.prog 6 #[.int .u8 pz, .int .u8 mo, .slice a len cap] w (Tr w) := by
  by_cases hn : len ≤ 100
  · exact bounds_true pz mo a len cap _ w (u8_bd hq) (u8_bd hm) hn (rd8_of h)
  · exact bounds_long pz mo a len cap w (by omega)
end Go.Proofs.Ytapebhefbokcfaa.Win
