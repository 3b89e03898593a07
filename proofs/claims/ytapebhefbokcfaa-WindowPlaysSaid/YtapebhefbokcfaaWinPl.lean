import Derived.Test.YtapebhefbokcfaaWinActs
namespace Go.Proofs.Ytapebhefbokcfaa.Win
open Go.RowKit Go.Proofs.Ytapebhefbokcfaa.DebW
set_option linter.unusedVariables false
set_option linter.unusedSimpArgs false
set_option maxHeartbeats 16000000 in
set_option maxRecDepth 100000 in
theorem plays_true (wd : Int) (L : Nat) (A : Option Addr) (n c : Nat) (z : Nat → Int × Int × Int × Int) (w : World) (hok : wok wd L) (hn : n ≤ 100) (hA : RdQ w A n z) :
    Calls Try.prog 5 #[.int .i64 wd, .int .i64 L, .slice A n c] w (Tr w) := by
  have HA := Lib.hid hA
  have CN := Lib.hid (fun (W : World) => new_at wd L hok W)
  obtain ⟨⟨h0, h0'⟩, ⟨h1, h2⟩, h3⟩ := hok
  have hz : ¬ (L : Int) = 0 := by omega
  have hz2 : ¬ L = 0 := by omega
  have hmk := run_make_row' (P := Try.prog) 32 3 (.int .i64 0) 8 Try.underlying32 info3 rfl .i64 .i64 L (by omega) (by omega)
  have hw0 : IntKind.i64.wrap (0 : Int) = 0 := iw (by omega) (by omega)
  have hwm : IntKind.i64.wrap (wd.tmod (L : Int)) = 0 := by rw [Int.tmod_eq_emod_of_nonneg (by omega), h3]; exact hw0
  have e1 : wd.tdiv (L : Int) = wd / (L : Int) := Int.tdiv_eq_ediv_of_nonneg (by omega)
  have q1 := Int.ediv_mul_cancel (Int.dvd_of_emod_eq_zero h3)
  have q2 := Int.ediv_le_self (a := wd) (L : Int) (by omega)
  have hw2 : IntKind.i64.wrap (wd.tdiv (L : Int)) = wd / (L : Int) := by rw [e1]; exact iw (by have := Int.ediv_nonneg (show 0 ≤ wd by omega) (show (0 : Int) ≤ L by omega); omega) (by omega)
  obtain ⟨p, hp⟩ : ∃ p, wd / (L : Int) = p := ⟨_, rfl⟩
  rw [hp] at hw2 q1 q2 CN
  have hp1 : 1 ≤ p := by
    rcases Int.lt_or_le p 1 with h | h
    · have := Int.mul_le_mul_of_nonneg_right (show p ≤ 0 by omega) (show (0 : Int) ≤ L by omega); omega
    · exact h
  have hp2 : p ≤ 1099511627776 := by omega
  clear e1 hp q1 q2 hA
  go_enter Try.func5, Try.ntmps5
  go_wp2_with (first
    | (go_at_call 17; refine (fixed_at _).mono ?_; rintro e w1 ⟨rfl, hb⟩; have HB1 := Lib.hid hb; clear hb)
    | (go_at_call 18; refine (CN.out _).mono ?_; rintro e w2 ⟨b, r, rfl, hb, hr, hbel, hwi⟩; have HB2 := Lib.hid hbel; have HW2 := Lib.hid hwi; clear hbel hwi)
    | fail)
  have HLT := Lib.hid (wi_lt HW2.out)
  obtain ⟨B0, hB0⟩ : ∃ B0, w2.heap.size = B0 := ⟨_, rfl⟩
  rw [hB0] at HLT
  have HB0 := Lib.hid (show w.heap.size ≤ b ∧ w.heap.size ≤ r by have := HB1.out.size; omega)
  have HZ0 := Lib.hid (show B0 ≤ w2.heap.size by omega)
  clear h3 hwm hB0
  go_loopw [9, 10, 11, 71] (fun v9 v10 v11 v71 W => ∃ (i : Nat) (N : Int) (vA vM : Value) (As Ms : List Int), i ≤ n ∧ v11 = .int .i64 N ∧ vA = v9 ∧ vM = v10 ∧ v71 = .int .i64 i ∧ Hid (BP i N As Ms) ∧ Hid (Two B0 vA vM As Ms W) ∧ Hid (WI b r p (N / p) L (Sof p As Ms) W) ∧ Hid (Below w.heap.size w W) ∧ Hid (B0 ≤ W.heap.size)) (fun _ _ _ v71 _ => n - (intOf v71).toNat)
  case atStart => exact ⟨0, 0, _, _, [], [], by omega, rfl, rfl, rfl, rfl, ⟨rfl, by simp, by omega, by omega, fun j => by simp, fun j => by simp⟩, two_nil _ _, by rw [Int.zero_ediv]; exact HW2.out, HB1.out.trans (HB2.out.mono HB1.out.size), HZ0.out⟩
  case round =>
    obtain ⟨i, N, vA, vM, As, Ms, hi, rfl, rfl, rfl, rfl, HI, HT, HW, HB, HZ⟩ := hrel
    rename World => wo
    by_cases hlt : i < n
    · obtain ⟨i1, i2, i3, i4, i5, i6⟩ := HI.out
      have hi9 : i ≤ 100 := by omega
      have HI2 := Lib.hid (show As.length ≤ 100 by omega)
      have HI3 := Lib.hid (show Ms.length ≤ 100 by omega)
      have HLN := Lib.hid i1
      obtain ⟨b0, off, rfl, hcell⟩ := HA.out (by omega)
      obtain ⟨z0, hx0⟩ : ∃ x, x = (z i).1 := ⟨_, rfl⟩
      obtain ⟨z1, hx1⟩ : ∃ x, x = (z i).2.1 := ⟨_, rfl⟩
      obtain ⟨z2, hx2⟩ : ∃ x, x = (z i).2.2.1 := ⟨_, rfl⟩
      obtain ⟨z3, hx3⟩ : ∃ x, x = (z i).2.2.2 := ⟨_, rfl⟩
      obtain ⟨⟨g0, g1, g2, g3⟩, f0, f1, f2, f3⟩ := hcell i hlt
      rw [← hx0] at g0 f0
      rw [← hx1] at g1 f1
      rw [← hx2] at g2 f2
      rw [← hx3] at g3 f3
      obtain ⟨z00, z01⟩ := bounds_u8 f0
      obtain ⟨z10, z11⟩ := i64_bd f1
      obtain ⟨z20, z21⟩ := i64_bd f2
      obtain ⟨z30, z31⟩ := i64_bd f3
      have hblk : b0 < w.heap.size := World.block_lt_of_cell? w _ g0
      have k0 : wo.cell? ⟨b0, off + i * 4, none⟩ = some (.int .u8 z0) := ((bcell HB.out).1 b0 _ hblk).trans g0
      have k1 : wo.cell? ⟨b0, off + i * 4 + 1, none⟩ = some (.int .i64 z1) := ((bcell HB.out).1 b0 _ hblk).trans g1
      have k2 : wo.cell? ⟨b0, off + i * 4 + 2, none⟩ = some (.int .i64 z2) := ((bcell HB.out).1 b0 _ hblk).trans g2
      have k3 : wo.cell? ⟨b0, off + i * 4 + 3, none⟩ = some (.int .i64 z3) := ((bcell HB.out).1 b0 _ hblk).trans g3
      clear hx0 hx1 hx2 hx3 g0 g1 g2 g3 f0 f1 f2 f3 hcell i1 i2 i5 i6
      obtain ⟨N', hN'⟩ : ∃ N', nowp N z1 = N' := ⟨_, rfl⟩
      obtain ⟨m, hm⟩ : ∃ m, min (max z2 0) 1099511627776 = m := ⟨_, rfl⟩
      have hn1 : 0 ≤ N' := by rw [← hN']; unfold nowp; omega
      have hn2 : N' ≤ 1152921504606846976 := by rw [← hN']; unfold nowp; omega
      have hm1 : 0 ≤ m := by omega
      have hm2 : m ≤ 1099511627776 := by omega
      have HN := Lib.hid hN'
      have HM := Lib.hid hm
      clear hN' hm
      go_upto_region 14 with (fail)
      go_cut [11] (fun s11 wx => s11 = .int .i64 N' ∧ wx = wo.alloc (Obj.cells #[.int .u8 z0, .int .i64 z1, .int .i64 z2, .int .i64 z3] 46))
      case first =>
        as_aux_lemma =>
          go_wp2_with fail
          all_goals
            go_meet
            exact ⟨val_int (by rw [← HN.out]; unfold nowp; omega), rfl⟩
      case rest =>
        obtain ⟨rfl, rfl⟩ := hcut
        go_upto_region 15 with (fail)
        go_cut [14] (fun s14 wx => s14 = .int .i64 m ∧ wx = wo.alloc (Obj.cells #[.int .u8 z0, .int .i64 z1, .int .i64 z2, .int .i64 z3] 46))
        case first =>
          as_aux_lemma =>
            go_wp2_with fail
            all_goals
              go_meet
              exact ⟨val_int (by rw [← HM.out]; omega), rfl⟩
        case rest =>
          obtain ⟨rfl, rfl⟩ := hcut
          have hfA := rowp_any HT.out.l
          obtain ⟨A0, cA, hvA, hcA⟩ := hfA
          subst hvA
          go_wp2_with fail
          have hszb := HLT.out
          have hZ := HZ.out
          have hbw : b < wo.heap.size := by omega
          have hrw : r < wo.heap.size := by omega
          clear hszb hZ
          obtain ⟨t, ht⟩ : ∃ t, N' / p = t := ⟨_, rfl⟩
          have ht0 : 0 ≤ t := by rw [← ht]; exact Int.ediv_nonneg hn1 (by omega)
          have ht1 : t ≤ 1152921504606846976 := by rw [← ht]; exact Int.le_trans (Int.ediv_le_self _ hn1) hn2
          have ht2 : IntKind.i64.wrap (N'.tdiv p) = t := by rw [Int.tdiv_eq_ediv_of_nonneg hn1, ht]; exact iw (by omega) (by omega)
          have hpz : ¬ p = 0 := by omega
          have HTT := Lib.hid ht
          have HCA := Lib.hid hcA
          have HAB := Lib.hid HI.out.2.2.2.2.1
          have HMB := Lib.hid HI.out.2.2.2.2.2
          have HIN := Lib.hid (show N ≤ N' by rw [← HN.out]; unfold nowp; omega)
          clear ht hcA k0 k1 k2 k3 i3 i4
          have hwB : w.heap.size ≤ B0 := by have := HB0.out; have := HLT.out; omega
          go_loopw [89] (fun v89 W2 => ∃ (j : Nat), j ≤ As.length ∧ v89 = .int .i64 j ∧ Hid (PS b r p (N / p) L (Sof p As Ms) wo z0 z1 z2 z3 (fun e => ssum p As Ms j (t + 1 + e - L)) W2)) (fun v89 _ => As.length - (intOf v89).toNat)
          case atStart => exact ⟨0, by omega, rfl, ps_new wo z0 z1 z2 z3 HW.out⟩
          case round =>
            obtain ⟨j, hj, rfl, HP⟩ := hrel
            have hj9 : j ≤ 100 := by have := HI2.out; omega
            by_cases hjl : j < As.length
            · as_aux_lemma =>
                have hjm : j < Ms.length := by have := HLN.out; omega
                obtain ⟨pA, hpA, _⟩ := HCA.out j hjl
                cases hpA
                have HT2 := Lib.hid (two_g2 HT.out HP.out.g HLT.out.1 HLT.out.2)
                have hca := rowp_at HT2.out.l hjl
                obtain ⟨M0, cM, hvM, hcM⟩ := rowp_any HT2.out.r
                obtain ⟨pM, hpM, hcm⟩ := hcM j hjm
                subst hpM
                subst hvM
                clear hcM
                have hab := HAB.out j
                have hmb := HMB.out j
                have hsu : ∀ e : Nat, ssum p As Ms (j + 1) (t + 1 + e - L) = ssum p As Ms j (t + 1 + e - L) + if As.getD j 0 / p = t + 1 + e - L then Ms.getD j 0 else 0 := fun e => ssum_succ p As Ms j _
                have hsb : ∀ q, 0 ≤ ssum p As Ms j q ∧ ssum p As Ms j q ≤ 112589990684262400 := fun q => by have := ssum_bd p 1099511627776 As Ms q HMB.out j; omega
                obtain ⟨a, ha⟩ : ∃ a, As.getD j 0 = a := ⟨_, rfl⟩
                obtain ⟨u, hu⟩ : ∃ u, Ms.getD j 0 = u := ⟨_, rfl⟩
                rw [ha] at hca hab hsu
                rw [hu] at hcm hmb hsu
                obtain ⟨q, hq⟩ : ∃ q, a / p = q := ⟨_, rfl⟩
                rw [hq] at hsu
                have hqt : q ≤ t := by rw [← hq, ← HTT.out]; exact Int.ediv_le_ediv (by omega) (by have := HIN.out; omega)
                have hq0 : 0 ≤ q := by rw [← hq]; exact Int.ediv_nonneg hab.1 (by omega)
                have hq1 : IntKind.i64.wrap (a.tdiv p) = q := by rw [Int.tdiv_eq_ediv_of_nonneg hab.1, hq]; exact iw (by omega) (by omega)
                have hq2 : IntKind.i64.wrap (t - q) = t - q := iw (by omega) (by omega)
                have HSU := Lib.hid hsu
                have HSB := Lib.hid hsb
                obtain ⟨hu1, hu2⟩ := hmb
                clear hsu hsb hab hq ha hu
                go_wp2_with fail
                go_quiet (fail)
                by_cases htq : t - q < (L : Int)
                · obtain ⟨e, he⟩ : ∃ e : Nat, (e : Int) = (L : Int) - 1 - (t - q) := ⟨((L : Int) - 1 - (t - q)).toNat, by omega⟩
                  have heL : e < L := by omega
                  go_upto_region 23 with (fail)
                  have HP3 := Lib.hid (ps_drewN HP.out nq)
                  have hcm3 : (wr.drewN nq).cell? ⟨pM, j, none⟩ = some (.int .i64 u) := hcm
                  have hx3 := HP3.out.x e heL
                  have hf3 := HP3.out.f e heL
                  have hxb := HSB.out (t + 1 + e - L)
                  have hwa : IntKind.i64.wrap ((L : Int) - 1) = (L : Int) - 1 := iw (by omega) (by omega)
                  have hwb : IntKind.i64.wrap ((L : Int) - 1 - (t - q)) = (e : Int) := by rw [he]; exact iw (by omega) (by omega)
                  have hsu := HSU.out e
                  rw [if_pos (by omega)] at hsu
                  obtain ⟨x, hx⟩ : ∃ x, ssum p As Ms j (t + 1 + e - L) = x := ⟨_, rfl⟩
                  rw [hx] at hx3 hxb hsu
                  obtain ⟨hx1, hx2⟩ := hxb
                  have hwc : IntKind.i64.wrap (x + u) = x + u := iw (by omega) (by omega)
                  have HE := Lib.hid he
                  have HX := Lib.hid hsu
                  clear hca hcm hx hsu he htq hq1 hq2
                  generalize wr.drewN nq = w3 at *
                  go_still_tail 13, (by kernel_rfl)
                  change wpList _ _ _ _ _ w3.drew
                  go_wp2
                  refine ⟨⟨j + 1, by omega, by simp, ps_congr (ps_set (ps_drewN HP3.out 1) heL (x + u) hbw hrw) fun e' he' => ?_⟩, by simp [intOf]; omega⟩
                  unfold upd
                  have hE := HE.out
                  by_cases ee : e' = e
                  · subst ee; rw [if_pos rfl, HX.out]
                  · rw [if_neg ee, HSU.out e', if_neg (by omega)]; exact (Int.add_zero _).symm
                · go_wp2
                  refine ⟨⟨j + 1, by omega, by simp, ps_congr (ps_drewN HP.out nq) fun e' he' => ?_⟩, by simp [intOf]; omega⟩
                  rw [HSU.out e', if_neg (by omega)]; exact (Int.add_zero _).symm
            · have hje : j = As.length := by omega
              subst hje
              have HPW := Lib.hid (show PS b r p (N / p) L (Sof p As Ms) wo z0 z1 z2 z3 (fun e => Sof p As Ms (t + 1 + e - L)) wr from HP.out)
              rename World => wx
              have HBW := Lib.hid (bp_bw HI.out (by omega) ⟨hp1, hp2⟩ ⟨by omega, by omega⟩ : Bw p (N / p) L (Sof p As Ms))
              clear hjl HP
              go_wp2_with fail
              go_loopw [15, 16, 121] (fun v15 v16 v121 W3 => ∃ (j : Nat), j ≤ L ∧ v15 = .int .i64 (psum (Sof p As Ms) t L j) ∧ v16 = .int .i64 (pmax (Sof p As Ms) t L j) ∧ v121 = .int .i64 j ∧ W3 = wx) (fun _ _ v121 _ => L - (intOf v121).toNat)
              case atStart => exact ⟨0, by omega, rfl, rfl, rfl, rfl⟩
              case round =>
                obtain ⟨j, hj, rfl, rfl, rfl, rfl⟩ := hrel
                by_cases hjl : j < L
                · as_aux_lemma =>
                    have hc := HPW.out.x j hjl
                    have hx := HBW.out.s (t + 1 + j - L)
                    have hps := psum_bd t L j HBW.out.s
                    have hpm := pmax_bd t L j HBW.out.s
                    have hp2 := psum_succ (Sof p As Ms) t L j
                    have hp3 := pmax_succ (Sof p As Ms) t L j
                    obtain ⟨x, hxx⟩ : ∃ x, Sof p As Ms (t + 1 + j - L) = x := ⟨_, rfl⟩
                    rw [hxx] at hc hx hp2 hp3
                    obtain ⟨y, hy⟩ : ∃ y, psum (Sof p As Ms) t L j = y := ⟨_, rfl⟩
                    obtain ⟨y2, hy2⟩ : ∃ y, pmax (Sof p As Ms) t L j = y := ⟨_, rfl⟩
                    rw [hy] at hps hp2 ⊢
                    rw [hy2] at hpm hp3 ⊢
                    have hw : IntKind.i64.wrap (y + x) = y + x := iw (by omega) (by omega)
                    have HP2 := Lib.hid hp2
                    have HP3 := Lib.hid hp3
                    clear hxx hy hy2 hp2 hp3
                    by_cases hxy : y2 < x
                    all_goals
                      go_wp2
                      refine ⟨⟨j + 1, by omega, by rw [HP2.out], by rw [HP3.out]; first | rfl | (congr 1; omega), by simp, trivial⟩, by simp [intOf]; omega⟩
                · rename World => wx
                  have hje : j = L := by omega
                  rw [hje]
                  clear hje hj hjl
                  have HAT := Lib.hid (show atOf p (N / p) z1 = t by rw [bp_at hp1, HN.out, HTT.out])
                  have HAT2 := Lib.hid (show atOf p t z1 = t by have := bp_at2 (N := N) (z := z1) hp1; rw [HN.out, HTT.out] at this; exact this)
                  have hB2 := bw_at HBW.out z1
                  rw [HAT.out] at hB2
                  have HB2 := Lib.hid hB2
                  have hCP := parts_w z1 wx HPW.out.wi HBW.out
                  rw [HAT.out] at hCP
                  have hCS := fun (W : World) (h : WI b r p t L (Sof p As Ms) W) => sum_w z1 W h HB2.out
                  have hCG := fun (W : World) (h : WI b r p t L (Sof p As Ms) W) => great_w z1 W h HB2.out
                  have hCF := fun (W : World) (h : WI b r p t L (Sof p As Ms) W) => full_w z1 W h HB2.out
                  rw [HAT2.out] at hCS hCG hCF
                  have hsb := psum_bd t L L HB2.out.s
                  obtain ⟨sm, hsm⟩ : ∃ sm, psum (Sof p As Ms) t L L = sm := ⟨_, rfl⟩
                  obtain ⟨mx, hmx⟩ : ∃ mx, pmax (Sof p As Ms) t L L = mx := ⟨_, rfl⟩
                  rw [hsm] at hCS hsb ⊢
                  rw [hmx] at hCG ⊢
                  have hsb1 : 0 ≤ sm ∧ sm ≤ 72057594037927936 := by omega
                  obtain ⟨hsb1, hsb2⟩ := hsb1
                  have CP := Lib.hid hCP
                  have CS := Lib.hid hCS
                  have CG := Lib.hid hCG
                  have CF := Lib.hid hCF
                  have HSM := Lib.hid hsm
                  have hx1 := Int.mul_nonneg (show 0 ≤ t + 1 by omega) (show 0 ≤ p by omega)
                  have hx2 : (t + 1) * p ≤ 1152923704606846976 := by have := HB2.out.ap; rw [Int.add_mul]; omega
                  have hw1 : IntKind.i64.wrap (t + 1) = t + 1 := iw (by omega) (by omega)
                  have hw3 : IntKind.i64.wrap ((t + 1) * p) = (t + 1) * p := iw (by omega) (by omega)
                  have c1 := HPW.out.c1
                  clear hsm hmx hsb hCP hCS hCG hCF hB2
                  go_wp2_with (first
                    | (go_at_call 20; refine (CP.out).mono ?_; rintro e w3 ⟨pb, cap, B1, rfl, hB1, hrow, hg, hwi⟩; have HP3 := Lib.hid (ps_call HPW.out hg hwi hbw hrw); have HR3 := Lib.hid hrow; have HB3 := Lib.hid (show b < B1 ∧ r < B1 by have := wi_lt HPW.out.wi; omega); clear hrow hg hwi hB1)
                    | fail)
                  have c3 := HP3.out.c1
                  have HWI := Lib.hid HP3.out.wi
                  go_cut [168] (fun s168 w7 => s168 = .bool false ∧ Hid (PS b r p t L (Sof p As Ms) wo z0 z1 z2 z3 (fun e => Sof p As Ms (t + 1 + e - L)) w7) ∧ Hid (G2 b r w3 w7))
                  case first =>
                    --R31
                    as_aux_lemma =>
                      go_region_held3 (fun w' => w'.cell? ⟨wo.heap.size, 1, none⟩ = some (.int .i64 z1) ∧ Hid (PS b r p t L (Sof p As Ms) wo z0 z1 z2 z3 (fun e => Sof p As Ms (t + 1 + e - L)) w') ∧ Hid (G2 b r w3 w'))
                        (first
                          | (exact ⟨c3, Lib.hid (ps_drewN HP3.out 1), Lib.hid (g2_drewN (g2_refl b r w3) 1)⟩)
                          | (exact ⟨HP4.out.c1, HP4, HG4⟩)
                          | (exact ⟨HP5.out.c1, HP5, HG5⟩)
                          | (exact ⟨HP6.out.c1, HP6, HG6⟩)
                          | (go_keep; done))
                        (first
                          | (go_simp; go_at_call 21; refine (CS.out _ (ps_drewN HP3.out 1).wi).mono ?_; rintro e w4 ⟨rfl, hg, hwi⟩; have HP4 := Lib.hid (ps_call (ps_drewN HP3.out 1) hg hwi hbw hrw); have HG4 := Lib.hid (g2_trans (g2_drewN (g2_refl b r w3) 1) hg); clear hg hwi)
                          | (go_simp; go_at_call 22; refine (CG.out _ HP4.out.wi).mono ?_; rintro e w5 ⟨rfl, hg, hwi⟩; have HP5 := Lib.hid (ps_call HP4.out hg hwi hbw hrw); have HG5 := Lib.hid (g2_trans HG4.out hg); clear hg hwi)
                          | (go_simp; go_at_call 19; refine (CF.out _ HP5.out.wi).mono ?_; rintro e w6 ⟨rfl, hg, hwi⟩; have HP6 := Lib.hid (ps_call HP5.out hg hwi hbw hrw); have HG6 := Lib.hid (g2_trans HG5.out hg); clear hg hwi)
                          | fail)

                      go_wp2_with fail
                      go_meet
                      exact ⟨rfl, HP6, HG6⟩
                    --E31
                  case rest =>
                    obtain ⟨rfl, HP7, HG7⟩ := hcut
                    clear c1 c3 HP3
                    have HR7 := Lib.hid (rowp_g2 HR3.out HG7.out HB3.out.1 HB3.out.2)
                    rename World => w7
                    have hRL := parts_len (Sof p As Ms) t L L
                    go_wp2_with fail
                    go_loopw [171] (fun v171 W8 => ∃ (j : Nat), j ≤ L ∧ v171 = .int .i64 j ∧ Hid (PS b r p t L (Sof p As Ms) wo z0 z1 z2 z3 (fun e => Sof p As Ms (t + 1 + e - L)) W8) ∧ Hid (RowP B1 (.slice (some ⟨pb, 0, none⟩) L cap) (parts (Sof p As Ms) t L L) W8)) (fun v171 _ => L - (intOf v171).toNat)
                    case atStart => exact ⟨0, by omega, rfl, HP7, HR7⟩
                    case round =>
                      obtain ⟨j, hj, rfl, HP8, HR8⟩ := hrel
                      rename World => w8
                      by_cases hjl : j < L
                      · have hc1 := rowp_at HR8.out (i := j) (by rw [parts_len]; exact hjl)
                        rw [parts_get _ _ hjl] at hc1
                        have hc2 := HP8.out.x j hjl
                        obtain ⟨x, hxx⟩ : ∃ x, Sof p As Ms (t + 1 + j - L) = x := ⟨_, rfl⟩
                        simp only [hxx] at hc1 hc2
                        clear hxx
                        go_wp2_with fail
                        go_quiet (fail)
                        go_wp2
                        refine ⟨⟨j + 1, by omega, by simp, ps_drewN HP8.out nq, ?_⟩, by simp [intOf]; omega⟩
                        exact ⟨owns_same HR8.out.1 fun k hk => rfl, HR8.out.2⟩
                      · have hje : j = L := by omega
                        rw [hje]
                        clear hje hj hjl HP7 HR7
                        --R4
                        have c1 := HP8.out.c1
                        have c2 := HP8.out.c2
                        have c3 := HP8.out.c3
                        have c0 := HP8.out.c0
                        obtain ⟨vA, hvA⟩ : ∃ vA, Value.slice A0 As.length cA = vA := ⟨_, rfl⟩
                        rw [hvA] at HT ⊢
                        clear hvA
                        have HT8 := Lib.hid (two_g2 HT.out HP8.out.g HLT.out.1 HLT.out.2)
                        have HZ8 := Lib.hid (Nat.le_trans HZ.out HP8.out.g.size)
                        have hcA := add_w z1 z2 w8 HP8.out.wi HB2.out
                        have hcL := allow_w z1 z2 z3 w8 HP8.out.wi HB2.out
                        rw [HAT2.out, HM.out] at hcA
                        rw [HAT2.out, HM.out, HSM.out] at hcL
                        have hws : IntKind.i64.wrap (sm + m) = sm + m := iw (by omega) (by omega)
                        clear hx1 hx2 hw1 hw3 hRL HCA
                        by_cases hk : (z0 % 2 == 0) = true
                        · have CA := Lib.hid hcA
                          clear hcA hcL
                          as_aux_lemma =>
                            go_wp2_with (first
                              | (go_at_call 23; refine (CA.out).mono ?_; rintro e w9 ⟨rfl, hg, hwi⟩; have HT9 := Lib.hid (two_g2 HT8.out hg HLT.out.1 HLT.out.2); have HZ9 := Lib.hid (Nat.le_trans HZ8.out hg.size); have HW9 := Lib.hid hwi; have HB9 := Lib.hid (g2_new HB.out HB0.out.1 HB0.out.2 (g2_trans HP8.out.g hg)); clear hg hwi)
                              | (at_builtin; refine app1z (W := w9) B0 rfl _ _ 32 rfl Try.underlying32 info3 vA As N' rfl ?hx HT9.out.l HZ9.out (Nat.le_trans HI2.out (by omega)) ?_; (case hx => rfl); intro Aa pa ca w10 HAa hrow hg hp; have HT10 := Lib.hid (two_app _ HT9.out hrow hg hp HZ9.out).1; have HB10 := Lib.hid (two_app _ HT9.out hrow hg hp HZ9.out).2; have HZ10 := Lib.hid (Nat.le_trans HZ9.out HB10.out.size); clear HT9 hrow hg hp)
                              | (at_builtin; refine app1z (W := w10) B0 rfl _ _ 32 rfl Try.underlying32 info3 vM Ms m rfl ?hx HT10.out.r HZ10.out (Nat.le_trans HI3.out (by omega)) ?_; (case hx => rfl); intro Mm pm cm w11 HMm hrow hg hp; have HT11 := Lib.hid (two_symm (two_app _ (two_symm HT10.out) hrow hg hp HZ10.out).1); have HB11 := Lib.hid (HB10.out.trans (two_app _ (two_symm HT10.out) hrow hg hp HZ10.out).2); clear HT10 hrow hg hp)
                              | fail)
                            have HIz := Lib.hid (show BP (i + 1) N' Aa Mm by have h := bp_yes (z := z1) (c := m) HI.out ⟨hm1, hm2⟩; rw [HN.out] at h; rw [HAa.out, HMm.out]; exact h)
                            have HWz := Lib.hid (show WI b r p (N' / p) L (Sof p Aa Mm) w11 by rw [HAa.out, HMm.out, sof_snoc p As Ms N' m HLN.out, HTT.out]; exact wi_belowB HW9.out HB11.out HLT.out.1 HLT.out.2)
                            have HBz := Lib.hid (HB9.out.trans (HB11.out.mono hwB))
                            have HZz := Lib.hid (Nat.le_trans HZ9.out HB11.out.size)
                            go_roundw
                            case rel => exact ⟨i + 1, N', _, _, Aa, Mm, by omega, rfl, rfl, rfl, by simp, HIz.out, HT11.out, HWz.out, HBz.out, HZz.out⟩
                            case measure => simp [intOf]; omega
                        · have hk2 : (z0 % 2 == 0) = false := by simpa using hk
                          clear hk hcA
                          by_cases hs : sm + m ≤ z3
                          · simp only [hs, if_true, decide_true] at hcL
                            have CA := Lib.hid hcL
                            clear hcL
                            as_aux_lemma =>
                              go_wp2_with (first
                                | (go_at_call 24; refine (CA.out).mono ?_; rintro e w9 ⟨rfl, hg, hwi⟩; have HT9 := Lib.hid (two_g2 HT8.out hg HLT.out.1 HLT.out.2); have HZ9 := Lib.hid (Nat.le_trans HZ8.out hg.size); have HW9 := Lib.hid hwi; have HB9 := Lib.hid (g2_new HB.out HB0.out.1 HB0.out.2 (g2_trans HP8.out.g hg)); clear hg hwi)
                                | (at_builtin; refine app1z (W := w9) B0 rfl _ _ 32 rfl Try.underlying32 info3 vA As N' rfl ?hx HT9.out.l HZ9.out (Nat.le_trans HI2.out (by omega)) ?_; (case hx => rfl); intro Aa pa ca w10 HAa hrow hg hp; have HT10 := Lib.hid (two_app _ HT9.out hrow hg hp HZ9.out).1; have HB10 := Lib.hid (two_app _ HT9.out hrow hg hp HZ9.out).2; have HZ10 := Lib.hid (Nat.le_trans HZ9.out HB10.out.size); clear HT9 hrow hg hp)
                                | (at_builtin; refine app1z (W := w10) B0 rfl _ _ 32 rfl Try.underlying32 info3 vM Ms m rfl ?hx HT10.out.r HZ10.out (Nat.le_trans HI3.out (by omega)) ?_; (case hx => rfl); intro Mm pm cm w11 HMm hrow hg hp; have HT11 := Lib.hid (two_symm (two_app _ (two_symm HT10.out) hrow hg hp HZ10.out).1); have HB11 := Lib.hid (HB10.out.trans (two_app _ (two_symm HT10.out) hrow hg hp HZ10.out).2); clear HT10 hrow hg hp)
                                | fail)
                              have HIz := Lib.hid (show BP (i + 1) N' Aa Mm by have h := bp_yes (z := z1) (c := m) HI.out ⟨hm1, hm2⟩; rw [HN.out] at h; rw [HAa.out, HMm.out]; exact h)
                              have HWz := Lib.hid (show WI b r p (N' / p) L (Sof p Aa Mm) w11 by rw [HAa.out, HMm.out, sof_snoc p As Ms N' m HLN.out, HTT.out]; exact wi_belowB HW9.out HB11.out HLT.out.1 HLT.out.2)
                              have HBz := Lib.hid (HB9.out.trans (HB11.out.mono hwB))
                              have HZz := Lib.hid (Nat.le_trans HZ9.out HB11.out.size)
                              go_roundw
                              case rel => exact ⟨i + 1, N', _, _, Aa, Mm, by omega, rfl, rfl, rfl, by simp, HIz.out, HT11.out, HWz.out, HBz.out, HZz.out⟩
                              case measure => simp [intOf]; omega
                          · simp only [hs, if_false, decide_false] at hcL
                            have CA := Lib.hid hcL
                            clear hcL
                            as_aux_lemma =>
                              go_wp2_with (first
                                | (go_at_call 24; refine (CA.out).mono ?_; rintro e w9 ⟨rfl, hg, hwi⟩; have HT9 := Lib.hid (two_g2 HT8.out hg HLT.out.1 HLT.out.2); have HZ9 := Lib.hid (Nat.le_trans HZ8.out hg.size); have HW9 := Lib.hid hwi; have HB9 := Lib.hid (g2_new HB.out HB0.out.1 HB0.out.2 (g2_trans HP8.out.g hg)); clear hg hwi)
                                | fail)
                              have HIz := Lib.hid (show BP (i + 1) N' As Ms by have h := bp_no (z := z1) HI.out; rw [HN.out] at h; exact h)
                              have HWz := Lib.hid (show WI b r p (N' / p) L (Sof p As Ms) w9 by rw [HTT.out]; exact HW9.out)
                              go_roundw
                              case rel => exact ⟨i + 1, N', _, _, As, Ms, by omega, rfl, rfl, rfl, by simp, HIz.out, HT9.out, HWz.out, HB9.out, HZ9.out⟩
                              case measure => simp [intOf]; omega
                        --E4

    · obtain rfl : i = n := by omega
      go_wp2
      go_ret
      exact ⟨rfl, HB.out⟩

end Go.Proofs.Ytapebhefbokcfaa.Win
