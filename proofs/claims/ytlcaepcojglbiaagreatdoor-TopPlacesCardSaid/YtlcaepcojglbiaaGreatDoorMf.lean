/- The red and black trees: taking out: a part of the walk of the whole machine. For all states that the readings allow. -/
import Derived.Test.YtlcaepcojglbiaaGreatDoorMe
import Derived.Test.YtlcaepcojglbiaaGreatDoorMd
namespace Go.Proofs.YtlcaepcojglbiaaGreatDoor.Tp
open Go.RowKit
set_option linter.unusedVariables false
set_option linter.unusedSimpArgs false
set_option maxRecDepth 100000 in
set_option maxHeartbeats 4000000 in
theorem swap_at {tp nb : Nat} {S : TS} (z y : Nat) (W : World) (h : TR tp nb S W) (hk : S.ok) (hz : z < S.len) (hy : y < S.len) (hzy : z ≠ y) : Calls Tryz.prog 137 #[ptr tp, .int .i64 z, .int .i64 y] W fun e W' => e = .returned (.tuple #[]) ∧ TR tp nb (S.swap z y) W' ∧ G2 tp nb W W' := by
  have C1 := Lib.hid (hang_at z y W h hk hz hy)
  have hk1 := ok_hang hk z y hz hy
  obtain ⟨S1, hS1⟩ : ∃ S1, S.hang z y = S1 := ⟨_, rfl⟩
  have hSW : S.swap z y = ((S1.heir z y).kid (S1.N z).l y).kid (S1.N z).r y := by rw [← hS1]; rfl
  rw [hSW]
  rw [hS1] at C1 hk1
  rw [← hk1.2] at hz hy
  have hkl := (hk1.1.2 z hz).1
  have hkr := (hk1.1.2 z hz).2.1
  have hl := h.ln
  rw [← hk1.2] at hl
  obtain ⟨d, hd⟩ : ∃ d, S1.N z = d := ⟨_, rfl⟩
  have HD := Lib.hid hd
  have hheir : S1.heir z y = ((S1.setl y d.l).setr y d.r).setc y d.red := by rw [← hd]; rfl
  rw [hheir]
  obtain ⟨dt, dq, zl, zr, du, dred, dtk, dtn⟩ := d
  dsimp only at hkl hkr ⊢
  rw [hd] at hkl hkr ⊢
  dsimp only at hkl hkr ⊢
  have HO := Lib.hid (fun (w : World) (h : TR tp nb S1 w) => tr_c (tr_r (tr_l h y zl) y zr) y dred)
  have HX := Lib.hid (fun (w : World) (S : TS) (h : TR tp nb S w) (i : Nat) => tr_u h i y)
  obtain ⟨S4, hS4⟩ : ∃ S4, ((S1.setl y zl).setr y zr).setc y dred = S4 := ⟨_, rfl⟩
  have hl4 : S4.len = S1.len := by rw [← hS4]; rfl
  rw [hS4] at HO ⊢
  have ey2 : ¬ y * 8 + 2 = y * 8 + 3 := by omega
  have ey3 : ¬ y * 8 + 3 = y * 8 + 2 := by omega
  clear h hk hk1 hS1 hSW hS4 hheir hd
  go_enter Tryz.func137, Tryz.ntmps137
  go_wp2_with (first
    | (go_at_call 136; refine (C1.out).mono ?_; clear C1; rintro e w1 ⟨rfl, hT, hG⟩; have HT := Lib.hid hT; have HG := Lib.hid hG; obtain ⟨⟨a0, a1, a2, a3⟩, a4, a5, a6, a7⟩ := tr_node hT hz; rw [HD.out] at a0 a1 a2 a3 a4 a5 a6 a7; dsimp only at a0 a1 a2 a3 a4 a5 a6 a7; have c0 := hT.c0; clear hT hG)
    | fail)
  have hlt := HT.out.lt
  have HT2 := Lib.hid (tr_alloc HT.out (.cells #[.int .i64 dt, .int .i64 dq, .int .i64 zl, .int .i64 zr, .int .i64 du, .bool dred, .bool dtk, .int .i64 dtn] 193))
  have hn := heap_alloc_new w1 (.cells #[.int .i64 dt, .int .i64 dq, .int .i64 zl, .int .i64 zr, .int .i64 du, .bool dred, .bool dtk, .int .i64 dtn] 193)
  have k2 := (cell_of hn 2 _ rfl).1
  have k3 := (cell_of hn 3 _ rfl).1
  have k5 := (cell_of hn 5 _ rfl).1
  have HG2 := Lib.hid (g2_alloc HG.out (.cells #[.int .i64 dt, .int .i64 dq, .int .i64 zl, .int .i64 zr, .int .i64 du, .bool dred, .bool dtk, .int .i64 dtn] 193))
  have hnb : ¬ nb = w1.heap.size := by omega
  have hnb2 : ¬ w1.heap.size = nb := by omega
  clear a0 a1 a2 a3 a4 a5 a6 a7 c0 hn HT HG
  obtain ⟨w2, hw2⟩ : ∃ w2, w1.alloc (.cells #[.int .i64 dt, .int .i64 dq, .int .i64 zl, .int .i64 zr, .int .i64 du, .bool dred, .bool dtk, .int .i64 dtn] 193) = w2 := ⟨_, rfl⟩
  rw [hw2] at HT2 HG2 k2 k3 k5 ⊢
  clear hw2
  have hT2 := HT2.out
  obtain ⟨⟨-, -, b2, b3⟩, -, b5, -, -⟩ := tr_node hT2 hy
  have c0 := hT2.c0
  have z2 := hT2.zn (y * 8 + 2)
  have z3 := hT2.zn (y * 8 + 3)
  have z5 := hT2.zn (y * 8 + 5)
  clear hT2
  go_region
  have HT4 := Lib.hid (tr_drew (HO.out w2 HT2.out))
  have HG4 := Lib.hid (g2_drew (g2_n (g2_n (g2_n HG2.out (y * 8 + 2) (.int .i64 zl)) (y * 8 + 3) (.int .i64 zr)) (y * 8 + 5) (.bool dred)))
  have d2 : ((((w2.setCell ⟨nb, y * 8 + 2, none⟩ (.int .i64 zl)).setCell ⟨nb, y * 8 + 3, none⟩ (.int .i64 zr)).setCell ⟨nb, y * 8 + 5, none⟩ (.bool dred)).drew).cell? ⟨nb, y * 8 + 2, none⟩ = some (.int .i64 zl) :=
    (cs_other (by simp)).trans ((cs_other (by simp)).trans (cs_same b2))
  have d3 : ((((w2.setCell ⟨nb, y * 8 + 2, none⟩ (.int .i64 zl)).setCell ⟨nb, y * 8 + 3, none⟩ (.int .i64 zr)).setCell ⟨nb, y * 8 + 5, none⟩ (.bool dred)).drew).cell? ⟨nb, y * 8 + 3, none⟩ = some (.int .i64 zr) :=
    (cs_other (by simp)).trans (cs_same ((cs_other (by simp)).trans b3))
  clear b2 b3 b5 c0 z2 z3 z5 k2 k3 k5 HO HT2 HG2
  obtain ⟨w4, hw4⟩ : ∃ w4, (((w2.setCell ⟨nb, y * 8 + 2, none⟩ (.int .i64 zl)).setCell ⟨nb, y * 8 + 3, none⟩ (.int .i64 zr)).setCell ⟨nb, y * 8 + 5, none⟩ (.bool dred)).drew = w4 := ⟨_, rfl⟩
  rw [hw4] at HT4 HG4 d2 d3 ⊢
  clear hw4
  go_wp2_with fail
  go_region
  have hlt4 := HT4.out.lt
  have hs4 := HG4.out.size
  have hn := heap_alloc_new w4 (.cells #[.int .i64 zl, .int .i64 zr] 3)
  have HJ : Hid ((fun (i : Nat) (w : World) => TR tp nb (if i = 0 then S4 else if i = 1 then S4.kid zl y else (S4.kid zl y).kid zr y) w ∧ G2 tp nb W w ∧ w.cell? ⟨w4.heap.size, 0, none⟩ = some (.int .i64 zl) ∧ w.cell? ⟨w4.heap.size, 1, none⟩ = some (.int .i64 zr)) 0 (w4.alloc (.cells #[.int .i64 zl, .int .i64 zr] 3)).drew) :=
    Lib.hid ⟨tr_drew (tr_alloc HT4.out _), g2_drew (g2_alloc HG4.out _), (cell_of hn 0 _ rfl).1, (cell_of hn 1 _ rfl).1⟩
  have hsn : ¬ w4.heap.size = nb := by omega
  clear hn d2 d3
  obtain ⟨J, hJ⟩ : ∃ J : Nat → World → Prop, J = (fun (i : Nat) (w : World) => TR tp nb (if i = 0 then S4 else if i = 1 then S4.kid zl y else (S4.kid zl y).kid zr y) w ∧ G2 tp nb W w ∧ w.cell? ⟨w4.heap.size, 0, none⟩ = some (.int .i64 zl) ∧ w.cell? ⟨w4.heap.size, 1, none⟩ = some (.int .i64 zr)) := ⟨_, rfl⟩
  rw [← hJ] at HJ
  have HJ' := Lib.hid hJ
  have e1 : ∀ p, p = 0 → S4.kid p y = S4 := fun p e => by unfold TS.kid; rw [if_pos e]
  have e2 : ∀ (T : TS) p, p ≠ 0 → T.kid p y = T.setu p y := fun T p e => by unfold TS.kid; rw [if_neg e]
  have e3 : ∀ (T : TS) p, p = 0 → T.kid p y = T := fun T p e => by unfold TS.kid; rw [if_pos e]
  have hlk : ∀ (T : TS) p, (T.kid p y).len = T.len := fun T p => by unfold TS.kid; split <;> rfl
  have HE := Lib.hid (And.intro e2 (And.intro e3 hlk))
  clear e1 e2 e3 hlk hJ HT4 HG4
  obtain ⟨w5, hw5⟩ : ∃ w5, (w4.alloc (.cells #[.int .i64 zl, .int .i64 zr] 3)).drew = w5 := ⟨_, rfl⟩
  rw [hw5] at HJ ⊢
  clear hw5
  go_wp2_with fail
  go_loopw [52] (fun v w => ∃ i : Nat, i ≤ 2 ∧ v = .int .i64 i ∧ Hid (J i w)) (fun v _ => 2 - (intOf v).toNat)
  case atStart => exact ⟨0, by omega, rfl, HJ⟩
  case round =>
    obtain ⟨i, hi, rfl, hJi⟩ := hrel
    have hJ1 := hJi.out
    rw [HJ'.out] at hJ1
    obtain ⟨hT, hG, q0, q1⟩ := hJ1
    have HT := Lib.hid hT
    have HG := Lib.hid hG
    rcases (show i = 0 ∨ i = 1 ∨ i = 2 by omega) with rfl | rfl | rfl
    · rw [if_pos rfl] at HT hT
      have c0 := hT.c0
      rw [hl4] at c0
      obtain ⟨-, u4, -⟩ := tr_node hT (show zl < S4.len by rw [hl4]; exact hkl)
      have zu := hT.zn (zl * 8 + 4)
      clear hT hG hJi
      by_cases e : zl = 0
      · have hb : ((zl : Int) != 0) = false := by simpa using e
        have hb2 : (zl : Int) = 0 := by omega
        have H1 : Hid (J 1 wr) := by
          rw [HJ'.out]
          exact Lib.hid ⟨by rw [if_neg (by omega), if_pos rfl, HE.out.2.1 _ _ e]; exact HT.out, HG.out, q0, q1⟩
        go_wp2
        exact ⟨⟨1, by omega, by simp, H1⟩, by simp [intOf]⟩
      · have hb : ((zl : Int) != 0) = true := by simpa using e
        have hb2 : ¬ (zl : Int) = 0 := by omega
        have H1 : Hid (J 1 (wr.setCell ⟨nb, zl * 8 + 4, none⟩ (.int .i64 y))) := by
          rw [HJ'.out]
          exact Lib.hid ⟨by rw [if_neg (by omega), if_pos rfl, HE.out.1 _ _ e]; exact HX.out wr S4 HT.out zl, g2_n HG.out _ _, (cs_other (by simp [Ne.symm hsn])).trans q0, (cs_other (by simp [Ne.symm hsn])).trans q1⟩
        go_wp2
        exact ⟨⟨1, by omega, by simp, H1⟩, by simp [intOf]⟩
    · rw [if_neg (by omega), if_pos rfl] at HT hT
      have c0 := hT.c0
      rw [HE.out.2.2, hl4] at c0
      obtain ⟨-, u4, -⟩ := tr_node hT (show zr < (S4.kid zl y).len by rw [HE.out.2.2, hl4]; exact hkr)
      have zu := hT.zn (zr * 8 + 4)
      clear hT hG hJi
      by_cases e : zr = 0
      · have hb : ((zr : Int) != 0) = false := by simpa using e
        have hb2 : (zr : Int) = 0 := by omega
        have H1 : Hid (J 2 wr) := by
          rw [HJ'.out]
          exact Lib.hid ⟨by rw [if_neg (by omega), if_neg (by omega), HE.out.2.1 _ _ e]; exact HT.out, HG.out, q0, q1⟩
        go_wp2
        exact ⟨⟨2, by omega, by simp, H1⟩, by simp [intOf]⟩
      · have hb : ((zr : Int) != 0) = true := by simpa using e
        have hb2 : ¬ (zr : Int) = 0 := by omega
        have H1 : Hid (J 2 (wr.setCell ⟨nb, zr * 8 + 4, none⟩ (.int .i64 y))) := by
          rw [HJ'.out]
          exact Lib.hid ⟨by rw [if_neg (by omega), if_neg (by omega), HE.out.1 _ _ e]; exact HX.out wr _ HT.out zr, g2_n HG.out _ _, (cs_other (by simp [Ne.symm hsn])).trans q0, (cs_other (by simp [Ne.symm hsn])).trans q1⟩
        go_wp2
        exact ⟨⟨2, by omega, by simp, H1⟩, by simp [intOf]⟩
    · rw [if_neg (by omega), if_neg (by omega)] at HT
      clear hT hG hJi
      go_wp2
      exact bodyPost_end (results_none rfl _ _ _) rfl ⟨rfl, HT.out, HG.out⟩
end Go.Proofs.YtlcaepcojglbiaaGreatDoor.Tp
namespace Go.Proofs.YtlcaepcojglbiaaGreatDoor.Tp
open Go.RowKit
set_option linter.unusedVariables false
set_option linter.unusedSimpArgs false
theorem mostq_at {tp nb : Nat} {S : TS} (W : World) (h : TR tp nb S W) (hk : S.ok) (t : Sh) (x u : Nat) (ht : Rep S.N t x u) (hte : t ≠ .e) (hx : x < S.len) : Calls Tryz.prog 135 #[ptr tp, .int .i64 x] W fun e W' => e = .returned (.int .i64 t.low) ∧ W' = W := most_at W h hk t x u ht hte hx
/-- What fill finishes. -/
def Fin (tp nb : Nat) (S1 : TS) (PS : List Nat) (W W' : World) : Prop := ∃ S', TR tp nb S' W' ∧ G2 tp nb W W' ∧ KS S1 S' ∧ S'.N 0 = S1.N 0 ∧ WT S' PS
theorem fin_fill {tp nb : Nat} {S1 : TS} {PS : List Nat} {x : Nat} (hF : ∃ t u k h, FI S1 S1 PS t x u k h) (h0 : (S1.N 0).red = false) (w : World) (hT : TR tp nb S1 w) : Calls Tryz.prog 138 #[ptr tp, .int .i64 x] w fun e w' => e = .returned (.tuple #[]) ∧ Fin tp nb S1 PS w w' := by
  obtain ⟨t, u, k, h, m⟩ := hF
  refine (fill_at w hT m h0).mono ?_
  rintro e w' ⟨rfl, S', h1, h2, h3, h4, h5⟩
  exact ⟨rfl, S', h1, h2, h3, h5, h4⟩
theorem fin_w {tp nb : Nat} {S1 : TS} {PS : List Nat} {W w w' : World} (h : Fin tp nb S1 PS w w') (hg : G2 tp nb W w) : Fin tp nb S1 PS W w' := by
  obtain ⟨S', h1, h2, h3⟩ := h
  exact ⟨S', h1, g2_trans hg h2, h3⟩
theorem fin_no {tp nb : Nat} {S1 : TS} {PS : List Nat} {W w : World} (h : TR tp nb S1 w) (hg : G2 tp nb W w) (hk : S1.ok) (hw : WT S1 PS) : Fin tp nb S1 PS W w := ⟨S1, h, hg, ks_refl hk, rfl, hw⟩
set_option maxRecDepth 100000 in
set_option maxHeartbeats 4000000 in
/-- One child at most: the walk. -/
theorem cut_w1 {tp nb : Nat} {S : TS} {PS : List Nat} {x : Nat} (z : Nat) (W : World) (h : TR tp nb S W) (hk : S.ok) (hz : z < S.len) (hx : ((S.N z).l = 0 ∧ x = (S.N z).r) ∨ ((S.N z).l ≠ 0 ∧ (S.N z).r = 0 ∧ x = (S.N z).l))
    (h0 : ((S.hang z x).N 0).red = false) (hF : (S.N z).red = false → ∃ t u k h, FI (S.hang z x) (S.hang z x) PS t x u k h) (hW : (S.N z).red = true → WT (S.hang z x) PS) :
    Calls Tryz.prog 125 #[ptr tp, .int .i64 z] W fun e W' => e = .returned (.tuple #[]) ∧ Fin tp nb (S.hang z x) PS W W' := by
  have hxl : x < S.len := by
    have := hk.2 z hz
    rcases hx with ⟨_, rfl⟩ | ⟨_, _, rfl⟩
    · exact this.2.1
    · exact this.1
  have C1 := Lib.hid (hang_at z x W h hk hz hxl)
  have hk1 := ok_hang hk z x hz hxl
  obtain ⟨-, -, zc, -, -⟩ := tr_node h hz
  obtain ⟨⟨-, -, zl, zr⟩, -⟩ := tr_node h hz
  have c0 := h.c0
  have hl := h.ln
  have hred : ((S.hang z x).N z).red = (S.N z).red := hang_red
  obtain ⟨S1, hS1⟩ : ∃ S1, S.hang z x = S1 := ⟨_, rfl⟩
  rw [hS1] at C1 hk1 h0 hF hW hred ⊢
  have HF := Lib.hid (fun e w hT => fin_fill (tp := tp) (nb := nb) (hF e) h0 w hT)
  have HW := Lib.hid (fun e W w hT hG => fin_no (tp := tp) (nb := nb) (W := W) (w := w) hT hG hk1.1 (hW e))
  have hz1 : z < S1.len := by rw [hk1.2]; exact hz
  have hx1 : x < S1.len := by rw [hk1.2]; exact hxl
  have HL := Lib.hid hk1.2
  obtain ⟨dl, hdl⟩ : ∃ dl, (S.N z).l = dl := ⟨_, rfl⟩
  obtain ⟨dr, hdr⟩ : ∃ dr, (S.N z).r = dr := ⟨_, rfl⟩
  rw [hdl, hdr] at hx
  rw [hdl] at zl
  rw [hdr] at zr
  cases hcol : (S.N z).red with
  | true =>
    have HR := Lib.hid (hred.trans hcol)
    replace HW := Lib.hid (HW.out hcol)
    clear h hk hk1 h0 hF hW hS1 hdl hdr zc hred HF hcol
    rcases hx with ⟨rfl, rfl⟩ | ⟨hl0, rfl, rfl⟩
    · go_enter Tryz.func125, Tryz.ntmps125
      go_wp2_with (first
        | (go_at_call 136; refine (C1.out).mono ?_; clear C1 c0 zl zr; rintro e w1 ⟨rfl, hT, hG⟩; have HT := Lib.hid hT; have HG := Lib.hid hG; obtain ⟨-, -, yc, -, -⟩ := tr_node hT hz1; rw [HR.out] at yc; obtain ⟨-, xu, -⟩ := tr_node hT hx1; have c0 := hT.c0; rw [HL.out] at c0; clear hT hG)
        | fail)
      exact bodyPost_end (results_none rfl _ _ _) rfl ⟨rfl, HW.out _ _ HT.out HG.out⟩
    · have hn0 : ¬ (x : Int) = 0 := by omega
      have hb0 : ((x : Int) != 0) = true := by simpa using hn0
      go_enter Tryz.func125, Tryz.ntmps125
      go_wp2_with (first
        | (go_at_call 136; refine (C1.out).mono ?_; clear C1 c0 zl zr; rintro e w1 ⟨rfl, hT, hG⟩; have HT := Lib.hid hT; have HG := Lib.hid hG; obtain ⟨-, -, yc, -, -⟩ := tr_node hT hz1; rw [HR.out] at yc; obtain ⟨-, xu, -⟩ := tr_node hT hx1; have c0 := hT.c0; rw [HL.out] at c0; clear hT hG)
        | fail)
      exact bodyPost_end (results_none rfl _ _ _) rfl ⟨rfl, HW.out _ _ HT.out HG.out⟩
  | false =>
    have HR := Lib.hid (hred.trans hcol)
    replace HF := Lib.hid (HF.out hcol)
    clear h hk hk1 h0 hF hW hS1 hdl hdr zc hred HW hcol
    rcases hx with ⟨rfl, rfl⟩ | ⟨hl0, rfl, rfl⟩
    · go_enter Tryz.func125, Tryz.ntmps125
      go_wp2_with (first
        | (go_at_call 136; refine (C1.out).mono ?_; clear C1 c0 zl zr; rintro e w1 ⟨rfl, hT, hG⟩; have HT := Lib.hid hT; have HG := Lib.hid hG; obtain ⟨-, -, yc, -, -⟩ := tr_node hT hz1; rw [HR.out] at yc; obtain ⟨-, xu, -⟩ := tr_node hT hx1; have c0 := hT.c0; rw [HL.out] at c0; clear hT hG)
        | (go_at_call 138; refine (HF.out _ HT.out).mono ?_; clear HF; rintro e w2 ⟨rfl, hE⟩; have HE := Lib.hid hE; clear hE)
        | fail)
      exact bodyPost_end (results_none rfl _ _ _) rfl ⟨rfl, fin_w HE.out HG.out⟩
    · have hn0 : ¬ (x : Int) = 0 := by omega
      have hb0 : ((x : Int) != 0) = true := by simpa using hn0
      go_enter Tryz.func125, Tryz.ntmps125
      go_wp2_with (first
        | (go_at_call 136; refine (C1.out).mono ?_; clear C1 c0 zl zr; rintro e w1 ⟨rfl, hT, hG⟩; have HT := Lib.hid hT; have HG := Lib.hid hG; obtain ⟨-, -, yc, -, -⟩ := tr_node hT hz1; rw [HR.out] at yc; obtain ⟨-, xu, -⟩ := tr_node hT hx1; have c0 := hT.c0; rw [HL.out] at c0; clear hT hG)
        | (go_at_call 138; refine (HF.out _ HT.out).mono ?_; clear HF; rintro e w2 ⟨rfl, hE⟩; have HE := Lib.hid hE; clear hE)
        | fail)
      exact bodyPost_end (results_none rfl _ _ _) rfl ⟨rfl, fin_w HE.out HG.out⟩
set_option maxRecDepth 100000 in
set_option maxHeartbeats 4000000 in
/-- Two children: the walk. -/
theorem cut_w2 {tp nb : Nat} {S : TS} {PS : List Nat} {x y u2 : Nat} {t : Sh} (z : Nat) (W : World) (h : TR tp nb S W) (hk : S.ok) (hz : z < S.len) (hl0 : (S.N z).l ≠ 0) (hr0 : (S.N z).r ≠ 0) (hrep : Rep S.N t (S.N z).r z) (hte : t ≠ .e) (hlow : t.low = y) (hyl0 : (S.N y).l = 0) (hx : x = (S.N y).r)
    (hu : ((S.hang y x).N x).u = u2) (hul : u2 < S.len) (hyl : y < S.len) (hy0 : y ≠ 0) (hzy : z ≠ y)
    (h0 : ((((S.hang y x).swap z y).setu x (if u2 = z then y else u2)).N 0).red = false) (hok : (((S.hang y x).swap z y).setu x (if u2 = z then y else u2)).ok) (hlen : ((S.hang y x).swap z y).len = S.len)
    (hF : (S.N y).red = false → ∃ t u k h, FI (((S.hang y x).swap z y).setu x (if u2 = z then y else u2)) (((S.hang y x).swap z y).setu x (if u2 = z then y else u2)) PS t x u k h) (hW : (S.N y).red = true → WT (((S.hang y x).swap z y).setu x (if u2 = z then y else u2)) PS) :
    Calls Tryz.prog 125 #[ptr tp, .int .i64 z] W fun e W' => e = .returned (.tuple #[]) ∧ Fin tp nb (((S.hang y x).swap z y).setu x (if u2 = z then y else u2)) PS W W' := by
  have hrl : (S.N z).r < S.len := (hk.2 z hz).2.1
  have hxl : x < S.len := by rw [hx]; exact (hk.2 y hyl).2.1
  have C0 := Lib.hid (most_at W h hk t _ _ hrep hte hrl)
  rw [hlow] at C0
  have C1 := Lib.hid (hang_at y x W h hk hyl hxl)
  have hk1 := ok_hang hk y x hyl hxl
  have hred : ((S.hang y x).N y).red = (S.N y).red := hang_red
  obtain ⟨⟨-, -, zl, zr⟩, -⟩ := tr_node h hz
  obtain ⟨⟨-, -, yl, yr⟩, -⟩ := tr_node h hyl
  rw [hyl0] at yl
  rw [← hx] at yr
  have c0 := h.c0
  have hl := h.ln
  obtain ⟨S1, hS1⟩ : ∃ S1, S.hang y x = S1 := ⟨_, rfl⟩
  rw [hS1] at C1 hk1 h0 hF hW hred hu hok hlen ⊢
  have C2 := Lib.hid (fun w hT => swap_at (tp := tp) (nb := nb) (S := S1) z y w hT hk1.1 (by rw [hk1.2]; exact hz) (by rw [hk1.2]; exact hyl) hzy)
  have HX := Lib.hid (fun w (hT : TR tp nb (S1.swap z y) w) => tr_u hT x (if u2 = z then y else u2))
  obtain ⟨S2, hS2⟩ : ∃ S2, S1.swap z y = S2 := ⟨_, rfl⟩
  rw [hS2] at C2 HX hlen
  rw [hS2] at h0 hF hW hok ⊢
  obtain ⟨S3, hS3⟩ : ∃ S3, S2.setu x (if u2 = z then y else u2) = S3 := ⟨_, rfl⟩
  rw [hS3] at HX h0 hF hW hok ⊢
  have HF := Lib.hid (fun e w hT => fin_fill (tp := tp) (nb := nb) (hF e) h0 w hT)
  have HW := Lib.hid (fun e W w hT hG => fin_no (tp := tp) (nb := nb) (W := W) (w := w) hT hG hok (hW e))
  have hy1 : y < S1.len := by rw [hk1.2]; exact hyl
  have hx1 : x < S1.len := by rw [hk1.2]; exact hxl
  have hx2 : x < S2.len := by rw [hlen]; exact hxl
  have HL := Lib.hid hk1.2
  have HL2 := Lib.hid hlen
  have HU := Lib.hid hu
  obtain ⟨dl, hdl⟩ : ∃ dl, (S.N z).l = dl := ⟨_, rfl⟩
  obtain ⟨dr, hdr⟩ : ∃ dr, (S.N z).r = dr := ⟨_, rfl⟩
  rw [hdl] at zl hl0
  rw [hdr] at zr hr0 hrl C0
  have hdl0 : ¬ (dl : Int) = 0 := by omega
  have hdlb : ((dl : Int) != 0) = true := by simpa using hdl0
  have hdr0 : ¬ (dr : Int) = 0 := by omega
  have hdrb : ((dr : Int) != 0) = true := by simpa using hdr0
  have hyz : ¬ (y : Int) = (z : Int) := by omega
  have hyzb : ((y : Int) != (z : Int)) = true := by simpa using hyz
  cases hcol : (S.N y).red with
  | true =>
    have HR := Lib.hid (hred.trans hcol)
    replace HW := Lib.hid (HW.out hcol)
    clear h hk hk1 h0 hF hW hS1 hS2 hS3 hdl hdr hred HF hcol hok hrep hlow hte hyl0 hx hu hlen
    by_cases e : u2 = z
    · rw [if_pos e] at HX
      subst e
      go_enter Tryz.func125, Tryz.ntmps125
      go_wp2_with
            (first
              | (go_at_call 135; refine (C0.out).mono ?_; clear C0; rintro e w0 ⟨rfl, rfl⟩)
              | (go_at_call 136; refine (C1.out).mono ?_; clear C1 c0 zl zr yl yr; rintro e w1 ⟨rfl, hT, hG⟩; have HT := Lib.hid hT; have HG := Lib.hid hG; have HC2 := Lib.hid (C2.out w1 hT); obtain ⟨-, -, yc, -, -⟩ := tr_node hT hy1; rw [HR.out] at yc; obtain ⟨-, xu, -⟩ := tr_node hT hx1; rw [HU.out] at xu; have c0 := hT.c0; rw [HL.out] at c0; clear hT hG)
              | (go_at_call 137; refine (HC2.out).mono ?_; clear HC2 c0 yc xu; rintro e w2 ⟨rfl, hT, hG⟩; have HT2 := Lib.hid (HX.out w2 hT); have HG2 := Lib.hid (g2_trans HG.out hG); obtain ⟨-, xu, -⟩ := tr_node hT hx2; have c0 := hT.c0; rw [HL2.out] at c0; have zx := hT.zn (x * 8 + 4); clear hT hG)
              | fail)
      exact bodyPost_end (results_none rfl _ _ _) rfl ⟨rfl, HW.out _ _ HT2.out (g2_n HG2.out _ _)⟩
    · rw [if_neg e] at HX
      have e1 : ¬ (u2 : Int) = (z : Int) := by omega
      have e2 : ((u2 : Int) == (z : Int)) = false := by simpa using e1
      go_enter Tryz.func125, Tryz.ntmps125
      go_wp2_with
            (first
              | (go_at_call 135; refine (C0.out).mono ?_; clear C0; rintro e w0 ⟨rfl, rfl⟩)
              | (go_at_call 136; refine (C1.out).mono ?_; clear C1 c0 zl zr yl yr; rintro e w1 ⟨rfl, hT, hG⟩; have HT := Lib.hid hT; have HG := Lib.hid hG; have HC2 := Lib.hid (C2.out w1 hT); obtain ⟨-, -, yc, -, -⟩ := tr_node hT hy1; rw [HR.out] at yc; obtain ⟨-, xu, -⟩ := tr_node hT hx1; rw [HU.out] at xu; have c0 := hT.c0; rw [HL.out] at c0; clear hT hG)
              | (go_at_call 137; refine (HC2.out).mono ?_; clear HC2 c0 yc xu; rintro e w2 ⟨rfl, hT, hG⟩; have HT2 := Lib.hid (HX.out w2 hT); have HG2 := Lib.hid (g2_trans HG.out hG); obtain ⟨-, xu, -⟩ := tr_node hT hx2; have c0 := hT.c0; rw [HL2.out] at c0; have zx := hT.zn (x * 8 + 4); clear hT hG)
              | fail)
      exact bodyPost_end (results_none rfl _ _ _) rfl ⟨rfl, HW.out _ _ HT2.out (g2_n HG2.out _ _)⟩
  | false =>
    have HR := Lib.hid (hred.trans hcol)
    replace HF := Lib.hid (HF.out hcol)
    clear h hk hk1 h0 hF hW hS1 hS2 hS3 hdl hdr hred HW hcol hok hrep hlow hte hyl0 hx hu hlen
    by_cases e : u2 = z
    · rw [if_pos e] at HX
      subst e
      go_enter Tryz.func125, Tryz.ntmps125
      go_wp2_with
            (first
              | (go_at_call 135; refine (C0.out).mono ?_; clear C0; rintro e w0 ⟨rfl, rfl⟩)
              | (go_at_call 136; refine (C1.out).mono ?_; clear C1 c0 zl zr yl yr; rintro e w1 ⟨rfl, hT, hG⟩; have HT := Lib.hid hT; have HG := Lib.hid hG; have HC2 := Lib.hid (C2.out w1 hT); obtain ⟨-, -, yc, -, -⟩ := tr_node hT hy1; rw [HR.out] at yc; obtain ⟨-, xu, -⟩ := tr_node hT hx1; rw [HU.out] at xu; have c0 := hT.c0; rw [HL.out] at c0; clear hT hG)
              | (go_at_call 137; refine (HC2.out).mono ?_; clear HC2 c0 yc xu; rintro e w2 ⟨rfl, hT, hG⟩; have HT2 := Lib.hid (HX.out w2 hT); have HG2 := Lib.hid (g2_trans HG.out hG); obtain ⟨-, xu, -⟩ := tr_node hT hx2; have c0 := hT.c0; rw [HL2.out] at c0; have zx := hT.zn (x * 8 + 4); clear hT hG)
              | (go_at_call 138; refine (HF.out _ HT2.out).mono ?_; clear HF; rintro e w3 ⟨rfl, hE⟩; have HE := Lib.hid hE; clear hE)
              | fail)
      exact bodyPost_end (results_none rfl _ _ _) rfl ⟨rfl, fin_w HE.out (g2_n HG2.out _ _)⟩
    · rw [if_neg e] at HX
      have e1 : ¬ (u2 : Int) = (z : Int) := by omega
      have e2 : ((u2 : Int) == (z : Int)) = false := by simpa using e1
      go_enter Tryz.func125, Tryz.ntmps125
      go_wp2_with
            (first
              | (go_at_call 135; refine (C0.out).mono ?_; clear C0; rintro e w0 ⟨rfl, rfl⟩)
              | (go_at_call 136; refine (C1.out).mono ?_; clear C1 c0 zl zr yl yr; rintro e w1 ⟨rfl, hT, hG⟩; have HT := Lib.hid hT; have HG := Lib.hid hG; have HC2 := Lib.hid (C2.out w1 hT); obtain ⟨-, -, yc, -, -⟩ := tr_node hT hy1; rw [HR.out] at yc; obtain ⟨-, xu, -⟩ := tr_node hT hx1; rw [HU.out] at xu; have c0 := hT.c0; rw [HL.out] at c0; clear hT hG)
              | (go_at_call 137; refine (HC2.out).mono ?_; clear HC2 c0 yc xu; rintro e w2 ⟨rfl, hT, hG⟩; have HT2 := Lib.hid (HX.out w2 hT); have HG2 := Lib.hid (g2_trans HG.out hG); obtain ⟨-, xu, -⟩ := tr_node hT hx2; have c0 := hT.c0; rw [HL2.out] at c0; have zx := hT.zn (x * 8 + 4); clear hT hG)
              | (go_at_call 138; refine (HF.out _ HT2.out).mono ?_; clear HF; rintro e w3 ⟨rfl, hE⟩; have HE := Lib.hid hE; clear hE)
              | fail)
      exact bodyPost_end (results_none rfl _ _ _) rfl ⟨rfl, fin_w HE.out (g2_n HG2.out _ _)⟩
end Go.Proofs.YtlcaepcojglbiaaGreatDoor.Tp
namespace Go.Proofs.YtlcaepcojglbiaaGreatDoor.Tp
open Go.RowKit
set_option linter.unusedVariables false
set_option linter.unusedSimpArgs false
theorem ck_fin {S S1 S' : TS} {ps : List Nat} (h : CK S S1 ps) (hk : KS S1 S') (h0 : S'.N 0 = S1.N 0) : CK S S' ps :=
  ⟨hk.ok, hk.len.trans h.len, hk.n.trans h.n, hk.free.trans h.free, fun j => (hk.key j).trans (h.key j), fun C hC hp => by
    have c1 := h.fr C hC hp
    have c2 := hk.fr C c1.1
    exact ⟨c2.1, fun j hj => (c2.2 j hj).trans (c1.2 j hj)⟩, by rw [h0]; exact h.red0⟩
/-- A node is cut out. -/
theorem cut_at {tp nb : Nat} {S : TS} {ps A B : List Nat} (z : Nat) (W : World) (h : TR tp nb S W) (hk : S.ok) (hw : WT S ps) (h0 : (S.N 0).red = false) (hA : ps = A ++ z :: B) :
    Calls Tryz.prog 125 #[ptr tp, .int .i64 z] W fun e W' => e = .returned (.tuple #[]) ∧ ∃ S', TR tp nb S' W' ∧ G2 tp nb W W' ∧ CK S S' ps ∧ WT S' (A ++ B) := by
  obtain ⟨t0, h0', H0⟩ := ni_start hw
  have hz : z ∈ t0.ps := by
    have := H0.ord
    simp [lps, rps] at this
    rw [this, hA]; simp
  obtain ⟨c, l, r, k, u, hh, H⟩ := ni_find H0 hz
  have hzl : z < S.len := (z_lt hk H.z).2.1
  have hzr : (S.N z).red = c := H.z.rt.2.2.1
  have hl := H.z.rt.2.2.2.2.1
  have hr := H.z.rt.2.2.2.2.2
  have one : ∀ (t : Sh) (x : Nat), ((l = .e ∧ t = r ∧ x = (S.N z).r) ∨ (r = .e ∧ t = l ∧ x = (S.N z).l)) → (((S.N z).l = 0 ∧ x = (S.N z).r) ∨ ((S.N z).l ≠ 0 ∧ (S.N z).r = 0 ∧ x = (S.N z).l)) →
      Calls Tryz.prog 125 #[ptr tp, .int .i64 z] W fun e W' => e = .returned (.tuple #[]) ∧ ∃ S', TR tp nb S' W' ∧ G2 tp nb W W' ∧ CK S S' ps ∧ WT S' (A ++ B) := by
    intro t x ht hx
    obtain ⟨ck, f1, f2⟩ := cut_one hk H ht hA
    refine (cut_w1 (PS := A ++ B) z W h hk hzl hx (by rw [ck.red0]; exact h0) (fun e => ?_) (fun e => ?_)).mono ?_
    · obtain ⟨h', m⟩ := f1 (hzr.symm.trans e)
      exact ⟨_, _, _, _, m⟩
    · exact f2 (hzr.symm.trans e)
    · rintro e W' ⟨rfl, S', a1, a2, a3, a4, a5⟩
      exact ⟨rfl, S', a1, a2, ck_fin ck a3 a4, a5⟩
  by_cases el : l = .e
  · subst el
    have e1 : (S.N z).l = 0 := hl
    exact one r _ (.inl ⟨rfl, rfl, rfl⟩) (.inl ⟨e1, rfl⟩)
  · have nl : (S.N z).l ≠ 0 := by
      rcases rep_place hl with ⟨_, e⟩ | ⟨e, _⟩
      · exact absurd e el
      · exact e
    by_cases er : r = .e
    · subst er
      have e1 : (S.N z).r = 0 := hr
      exact one l _ (.inr ⟨rfl, rfl, rfl⟩) (.inr ⟨nl, e1, rfl⟩)
    · have nr : (S.N z).r ≠ 0 := by
        rcases rep_place hr with ⟨_, e⟩ | ⟨e, _⟩
        · exact absurd e er
        · exact e
      obtain ⟨y', h', HR⟩ := ni_down (f := ⟨true, c, z, l⟩) (t := r) H
      obtain ⟨cy, r2, k2, u2, h2, H2, hs, hrp⟩ := ni_low HR er
      obtain ⟨y, hy⟩ : ∃ y, r.low = y := ⟨_, rfl⟩
      rw [hy] at H2 hrp
      obtain ⟨⟨q1, q2, q3, q4, q5, q6⟩, ck, f1, f2⟩ := cut_two (S := S) hk H H2 hs hrp rfl hA
      have hyr : (S.N y).red = cy := H2.z.rt.2.2.1
      have hyl : (S.N y).l = 0 := H2.z.rt.2.2.2.2.1
      have hlen : ((S.hang y (S.N y).r).swap z y).len = S.len := ck.len
      refine (cut_w2 (PS := A ++ B) (u2 := u2) z W h hk hzl nl nr hr er hy hyl rfl q1 q2 q4 q5 q6 (by rw [ck.red0]; exact h0) ck.ok hlen (fun e => ?_) (fun e => ?_)).mono ?_
      · obtain ⟨h', k', m⟩ := f1 (hyr.symm.trans e)
        exact ⟨_, _, _, _, m⟩
      · exact f2 (hyr.symm.trans e)
      · rintro e W' ⟨rfl, S', a1, a2, a3, a4, a5⟩
        exact ⟨rfl, S', a1, a2, ck_fin ck a3 a4, a5⟩
end Go.Proofs.YtlcaepcojglbiaaGreatDoor.Tp
namespace Go.Proofs.YtlcaepcojglbiaaGreatDoor.Tp
open Go.RowKit
set_option linter.unusedVariables false
set_option linter.unusedSimpArgs false
theorem dl_one (d : Nd) : (dl d).toArray.all (·.oneCell') = true := by
  refine all_oneCell_toArray fun v hv => ?_
  simp only [dl, List.mem_cons, List.not_mem_nil, or_false] at hv
  rcases hv with rfl | rfl | rfl | rfl | rfl | rfl | rfl | rfl <;> rfl
/-- What Drop leaves, behind the cut. -/
def TS.gone (S2 : TS) (z : Nat) (tu : Int) : TS := { ({ S2.setn z ⟨0, 0, S2.free, 0, 0, false, false, tu⟩ with free := z } : TS).setn 0 nd0 with n := S2.n - 1 }
set_option maxRecDepth 100000 in
set_option maxHeartbeats 4000000 in
theorem dropw {tp nb : Nat} {S : TS} {ps A B : List Nat} (z : Nat) (W : World) (h : TR tp nb S W) (hk : S.ok) (hw : WT S ps) (h0 : (S.N 0).red = false) (hA : ps = A ++ z :: B) (hz : z < S.len) (hz0 : z ≠ 0) (ht : (S.N z).taken = true) (hn1 : 1 ≤ S.n) (hn64 : S.n ≤ 64) :
    Calls Tryz.prog 105 #[ptr tp, .agg #[.int .i64 z, .int .i64 (S.N z).turn]] W fun e W' => e = .returned (.int .i64 0) ∧ ∃ S2, CK S S2 ps ∧ WT S2 (A ++ B) ∧ TR tp nb (S2.gone z (S.N z).turn) W' ∧ G2 tp nb W W' := by
  have hT1 := tr_alloc h (.cells #[.int .i64 z, .int .i64 (S.N z).turn] 171)
  have C1 := Lib.hid (is_at z _ hT1 hz hz0 ht)
  have C2 := Lib.hid (fun w (hT : TR tp nb S w) => cut_at z w hT hk hw h0 hA)
  have HT1 := Lib.hid hT1
  obtain ⟨tu, htu⟩ : ∃ tu, (S.N z).turn = tu := ⟨_, rfl⟩
  rw [htu] at C1 HT1 ⊢
  have hn := heap_alloc_new W (.cells #[.int .i64 z, .int .i64 tu] 171)
  have HN := Lib.hid hn
  obtain ⟨⟨k0, z0⟩, k1, z1⟩ := And.intro (cell_of hn 0 _ rfl) (cell_of hn 1 _ rfl)
  have hlt := h.lt
  have hne : ¬ tp = W.heap.size := by omega
  have hl := h.ln
  have hzl := hz
  clear h hT1 hn
  go_enter Tryz.func105, Tryz.ntmps105
  go_wp2_with (first
    | (go_at_call 124; refine (C1.out).mono ?_; clear C1; rintro e w1 ⟨rfl, hB⟩; have HT := Lib.hid (tr_below HT1.out hB); have HC2 := Lib.hid (C2.out w1 HT.out); have hn := (hB.block W.heap.size (by simp)).trans HN.out; obtain ⟨⟨k0, z0⟩, k1, z1⟩ := And.intro (cell_of hn 0 _ rfl) (cell_of hn 1 _ rfl); clear hn)
    | (go_at_call 125; refine (HC2.out).mono ?_; clear HC2; rintro e w2 ⟨rfl, S2, hT, hG, ck, wt⟩)
    | fail)
  have hn := (hG.block W.heap.size (by have := hB.size; simp at this; omega) (by omega) (by omega)).trans ((hB.block W.heap.size (by simp)).trans HN.out)
  have HN2 := Lib.hid hn
  obtain ⟨⟨k0, z0⟩, k1, z1⟩ := And.intro (cell_of hn 0 _ rfl) (cell_of hn 1 _ rfl)
  have hz2 : z < S2.len := by rw [ck.len]; exact hz
  have c0 := hT.c0
  have c3 := hT.c3
  rw [ck.len] at c0
  obtain ⟨f, hf⟩ : ∃ f, S2.free = f := ⟨_, rfl⟩
  rw [hf] at c3
  have HT2 := Lib.hid hT
  have HS := Lib.hid (tr_setn (tr_drew hT) (x := z) (by omega) ⟨0, 0, f, 0, 0, false, false, tu⟩)
  have HR := Lib.hid (tr_there (tr_drew hT) (x := z) (by omega))
  have HCK := Lib.hid (And.intro ck (And.intro wt hf))
  have HGA := Lib.hid (g2_setCells (g2_drew hG) (z * 8) (dl ⟨0, 0, f, 0, 0, false, false, tu⟩))
  have HB := Lib.hid hB
  clear hT hG hB ck wt hn hf k0 z0 k1 z1
  obtain ⟨⟨k0, z0⟩, k1, z1⟩ := And.intro (cell_of HN2.out 0 _ rfl) (cell_of HN2.out 1 _ rfl)
  go_still_tail 14, (by kernel_rfl)
  change wpList _ _ _ _ _ w2.drew
  refine wpList_store_mid rfl 193 _ _ rfl nb (z * 8) (dl ⟨0, 0, f, 0, 0, false, false, tu⟩).toArray rfl rfl HR.out (by kernel_rfl) (dl_one _) ?_
  clear k0 z0 k1 z1 c0 c3
  obtain ⟨w3, hw3⟩ : ∃ w3, w2.drew.setCells nb (z * 8) (dl ⟨0, 0, f, 0, 0, false, false, tu⟩) = w3 := ⟨_, rfl⟩
  change wpList _ _ _ _ _ (w2.drew.setCells nb (z * 8) (dl ⟨0, 0, f, 0, 0, false, false, tu⟩))
  rw [hw3] at HS HGA ⊢
  have HN3 : Hid (w3.heap[W.heap.size]? = some (.cells #[.int .i64 z, .int .i64 tu] 171)) := by
    rw [← hw3]
    exact Lib.hid ((World.heap_setCells_other w2.drew nb _ _ (Array.getElem?_eq_some_iff.1 HN2.out).1 (by omega)).trans HN2.out)
  clear hw3
  have hT := HS.out
  obtain ⟨⟨k0, z0⟩, k1, z1⟩ := And.intro (cell_of HN3.out 0 _ rfl) (cell_of HN3.out 1 _ rfl)
  have c0 := hT.c0
  have c3 := hT.c3
  have z3 := hT.zt 3
  have HT4 := Lib.hid (tr_free hT z)
  have hlen4 : (S2.setn z ⟨0, 0, f, 0, 0, false, false, tu⟩).len = S.len := HCK.out.1.len
  rw [hlen4] at c0
  have HS5 := Lib.hid (tr_setn HT4.out (x := 0) (by omega) nd0)
  obtain ⟨d0, hd0⟩ : ∃ d0, (S2.setn z ⟨0, 0, f, 0, 0, false, false, tu⟩).N 0 = d0 := ⟨_, rfl⟩
  have hc := hT.cn 0 (by omega)
  rw [hd0] at hc
  have m0 : w3.cell? ⟨nb, 0, none⟩ = some (.int .i64 d0.t) := hc 0 (by omega)
  have m1 : w3.cell? ⟨nb, 1, none⟩ = some (.int .i64 d0.q) := hc 1 (by omega)
  have m2 : w3.cell? ⟨nb, 2, none⟩ = some (.int .i64 d0.l) := hc 2 (by omega)
  have m3 : w3.cell? ⟨nb, 3, none⟩ = some (.int .i64 d0.r) := hc 3 (by omega)
  have m4 : w3.cell? ⟨nb, 4, none⟩ = some (.int .i64 d0.u) := hc 4 (by omega)
  have m5 : w3.cell? ⟨nb, 5, none⟩ = some (.bool d0.red) := hc 5 (by omega)
  have m6 : w3.cell? ⟨nb, 6, none⟩ = some (.bool d0.taken) := hc 6 (by omega)
  have m7 : w3.cell? ⟨nb, 7, none⟩ = some (.int .i64 d0.turn) := hc 7 (by omega)
  have f0 := hT.zn 0
  have f1 := hT.zn 1
  have f2 := hT.zn 2
  have f3 := hT.zn 3
  have f4 := hT.zn 4
  have f5 := hT.zn 5
  have f6 := hT.zn 6
  have f7 := hT.zn 7
  have hnt : ¬ nb = tp := Ne.symm hT.ne
  have hnt2 : ¬ tp = nb := hT.ne
  have c2 := hT.c2
  have zt2 := hT.zt 2
  have hn2 : (S2.setn z ⟨0, 0, f, 0, 0, false, false, tu⟩).n = S.n := HCK.out.1.n
  rw [hn2] at c2
  clear hT hc hd0
  go_wp2_with fail
  have HTE := Lib.hid (tr_n HS5.out (S.n - 1))
  have HGE := Lib.hid (g2_trans (g2_trans (g2_alloc (g2_refl tp nb W) (.cells #[.int .i64 z, .int .i64 tu] 171)) (g2_below HB.out)) HGA.out)
  go_ret
  refine ⟨rfl, S2, HCK.out.1, HCK.out.2.1, ?_, ?_⟩
  · unfold TS.gone
    rw [HCK.out.2.2, HCK.out.1.n]
    have h := HTE.out
    rw [show ((S.n - 1 : Nat) : Int) = (S.n : Int) - 1 by omega] at h
    exact h
  · exact g2_t (g2_setCells (g2_t HGE.out 3 (.int .i64 z)) 0 (dl nd0)) 2 _
end Go.Proofs.YtlcaepcojglbiaaGreatDoor.Tp
namespace Go.Proofs.YtlcaepcojglbiaaGreatDoor.Tp
open Go.RowKit
set_option linter.unusedVariables false
set_option linter.unusedSimpArgs false
theorem gone_at {S2 : TS} {z : Nat} {tu : Int} (hz : z ≠ 0) : (S2.gone z tu).N z = ⟨0, 0, S2.free, 0, 0, false, false, tu⟩ := by
  show (if z = 0 then nd0 else if z = z then _ else _) = _
  rw [if_neg hz, if_pos rfl]
theorem gone_0 {S2 : TS} {z : Nat} {tu : Int} : (S2.gone z tu).N 0 = nd0 := by
  show (if 0 = 0 then nd0 else if 0 = z then (⟨0, 0, S2.free, 0, 0, false, false, tu⟩ : Nd) else S2.N 0) = _
  rw [if_pos rfl]
theorem gone_ne {S2 : TS} {z j : Nat} {tu : Int} (hz : j ≠ z) (h0 : j ≠ 0) : (S2.gone z tu).N j = S2.N j := by
  show (if j = 0 then nd0 else if j = z then _ else _) = _
  rw [if_neg h0, if_neg hz]
theorem ti_gone {S S2 : TS} {ps A B fs : List Nat} {z : Nat} (h : TI S ps fs) (hA : ps = A ++ z :: B) (ck : CK S S2 ps) (wt : WT S2 (A ++ B)) :
    TI (S2.gone z (S.N z).turn) (A ++ B) (z :: fs) ∧ (∀ j ∈ A ++ B, ((S2.gone z (S.N z).turn).N j).key = (S.N j).key) ∧ ∀ j, ((S2.gone z (S.N z).turn).N j).turn = if j = 0 then 0 else (S.N j).turn := by
  have hzp : z ∈ ps := by rw [hA]; simp
  have hzb := h.bd z (by simp [hzp])
  have hz0 : z ≠ 0 := by omega
  have hm : ∀ j ∈ A ++ B, j ∈ ps := fun j hj => by rw [hA]; simp at hj ⊢; rcases hj with hj | hj <;> simp [hj]
  have hnd := nd2 h.nd
  have hndp := hnd.1
  rw [hA] at hndp
  have hzn : z ∉ A ++ B := by
    have := nd_n hndp
    simp
    exact ⟨this.2.2.1, this.2.2.2.1⟩
  have hne : ∀ j ∈ A ++ B, j ≠ z ∧ j ≠ 0 := fun j hj => ⟨fun e => hzn (e ▸ hj), by have := (h.bd j (by simp [hm j hj])).1; omega⟩
  have kt : ∀ {a b : Nd}, a.key = b.key → a.t = b.t ∧ a.q = b.q ∧ a.taken = b.taken ∧ a.turn = b.turn := fun {a b} e => by
    simp only [Nd.key, Prod.mk.injEq] at e; exact e
  have hkey : ∀ j ∈ A ++ B, ((S2.gone z (S.N z).turn).N j).key = (S.N j).key := fun j hj => by
    rw [gone_ne (hne j hj).1 (hne j hj).2]; exact ck.key j
  have hturn : ∀ j, ((S2.gone z (S.N z).turn).N j).turn = if j = 0 then 0 else (S.N j).turn := fun j => by
    by_cases e0 : j = 0
    · subst e0; rw [gone_0, if_pos rfl]; rfl
    · rw [if_neg e0]
      by_cases e : j = z
      · subst e; rw [gone_at hz0]
      · rw [gone_ne e e0]; exact (kt (ck.key j)).2.2.2
  have hcl : Cl (fun j => j = 0 ∨ j ∈ ps) S := by
    have := wt_cl h.wt h.z0 (C := fun j => j = 0 ∨ j ∈ ps) (.inl rfl) (fun j hj => .inr hj)
    exact ⟨.inl rfl, this.1, this.2⟩
  have hfr := (ck.fr _ hcl (fun j hj => .inr hj)).2
  have hout : ∀ j, j ≠ 0 → j ∉ ps → S2.N j = S.N j := fun j h1 h2 => hfr j (by rintro (e | e); exact h1 e; exact h2 e)
  have hlen : (S2.gone z (S.N z).turn).len = S.len := ck.len
  have hfree : S.free < S.len := by
    have hc := h.fc
    cases fs with
    | nil => have : S.free = 0 := hc; rw [this]; omega
    | cons x l => obtain ⟨rfl, _⟩ := hc; exact (h.bd S.free (by simp)).2
  have hfsp : ∀ j ∈ fs, j ≠ 0 ∧ j ∉ ps := fun j hj => ⟨by have := (h.bd j (by simp [hj])).1; omega, fun e => hnd.2.2 j e hj⟩
  refine ⟨⟨?_, ?_, gone_0, ?_, ?_, ?_, ?_, ?_, ?_, ?_, ?_, ?_, by rw [hlen]; exact h.mx⟩, hkey, hturn⟩
  · refine ⟨ck.ok.1, fun i hi => ?_⟩
    rw [hlen] at hi ⊢
    by_cases e0 : i = 0
    · subst e0; rw [gone_0]; exact ⟨hi, hi, hi⟩
    · by_cases e : i = z
      · subst e; rw [gone_at hz0]; exact ⟨by show S2.free < _; rw [ck.free]; exact hfree, by show 0 < S.len; omega, by show 0 < S.len; omega⟩
      · rw [gone_ne e e0]
        have := ck.ok.2 i (by rw [ck.len]; exact hi)
        rw [ck.len] at this
        exact this
  · obtain ⟨⟨w, h', hw, hb, hr, hp⟩, hn⟩ := wt
    refine ⟨⟨w, h', rep_same hw fun j hj => ?_, hb, hr, hp⟩, hn⟩
    rw [hp] at hj
    exact gone_ne (hne j hj).1 (hne j hj).2
  · refine ⟨rfl, hz0, ?_⟩
    rw [gone_at hz0]
    show chain _ S2.free fs
    rw [ck.free]
    refine chain_same h.fc fun j hj => ?_
    obtain ⟨h1, h2⟩ := hfsp j hj
    rw [gone_ne (fun (e : j = z) => h2 (by rw [e]; exact hzp)) h1, hout j h1 h2]
  · refine nd2' wt.nd ?_ fun j h1 h2 => ?_
    · rw [List.nodup_cons]
      exact ⟨fun e => (hfsp z e).2 hzp, hnd.2.1⟩
    · rcases List.mem_cons.1 h2 with rfl | h2
      · exact hzn h1
      · exact (hfsp j h2).2 (hm j h1)
  · intro j hj
    rw [hlen]
    rw [List.mem_append] at hj
    rcases hj with hj | hj
    · exact h.bd j (by simp [hm j hj])
    · rcases List.mem_cons.1 hj with rfl | hj
      · exact hzb
      · exact h.bd j (by simp [hj])
  · rw [hlen, h.cnt, hA]; simp; omega
  · show S2.n - 1 = _
    rw [ck.n, h.n, hA]; simp
  · intro j hj
    have h1 := kt (hkey j hj)
    have h2 := h.tk j (hm j hj)
    exact ⟨h1.2.2.1.trans h2.1, h1.2.1.trans h2.2⟩
  · intro j hj
    rw [hlen] at hj
    have hjp : j ∉ ps := fun e => by have := (h.bd j (by simp [e])).2; omega
    rw [gone_ne (by omega) (by omega), hout j (by omega) hjp]
    exact h.sp j hj
  · have hs := h.so
    rw [hA] at hs
    have hs2 : (A ++ B).Pairwise fun a b => (S.N a).t ≤ (S.N b).t := hs.sublist (by simp)
    refine hs2.imp_of_mem fun {a b} ha hb e => ?_
    rw [(kt (hkey a ha)).1, (kt (hkey b hb)).1]; exact e
  · intro j
    rw [hturn]
    split
    · omega
    · exact h.tu j
end Go.Proofs.YtlcaepcojglbiaaGreatDoor.Tp
