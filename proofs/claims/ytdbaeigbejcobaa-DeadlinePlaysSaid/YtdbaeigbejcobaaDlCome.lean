import Derived.Test.YtdbaeigbejcobaaDlPl0
import Derived.BigRegion
namespace Go.Proofs.Ytdbaeigbejcobaa.Dl
open Go.RowKit
set_option linter.unusedVariables false
set_option linter.unusedSimpArgs false
/-- A job comes. -/
def rel (q : Int × Int × Int) (t : Int) : Prop := q.2.2 ≤ t ∧ (t - q.2.2) % q.1 = 0
instance (q : Int × Int × Int) (t : Int) : Decidable (rel q t) := by unfold rel; exact inferInstance
def cL (z : Nat → Int × Int × Int) (t : Int) (L : Nat → Int) (j i : Nat) : Int := if i < j ∧ rel (z i) t then (z i).2.1 else L i
def cD (z : Nat → Int × Int × Int) (t : Int) (D : Nat → Int) (j i : Nat) : Int := if i < j ∧ rel (z i) t then t + (z i).1 else D i
def cM (z : Nat → Int × Int × Int) (t : Int) (L M : Nat → Int) (j i : Nat) : Int := if i < j ∧ rel (z i) t ∧ 0 < L i then M i + 1 else M i
theorem cL_0 (z : Nat → Int × Int × Int) (t : Int) (L : Nat → Int) : cL z t L 0 = L := by funext i; simp [cL]
theorem cD_0 (z : Nat → Int × Int × Int) (t : Int) (L : Nat → Int) : cD z t L 0 = L := by funext i; simp [cD]
theorem cM_0 (z : Nat → Int × Int × Int) (t : Int) (L M : Nat → Int) : cM z t L M 0 = M := by funext i; simp [cM]
theorem cL_no {z : Nat → Int × Int × Int} {t : Int} {L : Nat → Int} {j : Nat} (h : ¬ rel (z j) t) : cL z t L (j + 1) = cL z t L j := by
  funext i
  unfold cL
  by_cases e : i = j
  · subst e; rw [if_neg (fun k => h k.2), if_neg (fun k => h k.2)]
  · simp only [show i < j + 1 ↔ i < j by omega]
theorem cD_no {z : Nat → Int × Int × Int} {t : Int} {L : Nat → Int} {j : Nat} (h : ¬ rel (z j) t) : cD z t L (j + 1) = cD z t L j := by
  funext i
  unfold cD
  by_cases e : i = j
  · subst e; rw [if_neg (fun k => h k.2), if_neg (fun k => h k.2)]
  · simp only [show i < j + 1 ↔ i < j by omega]
theorem cM_no {z : Nat → Int × Int × Int} {t : Int} {L M : Nat → Int} {j : Nat} (h : ¬ (rel (z j) t ∧ 0 < L j)) : cM z t L M (j + 1) = cM z t L M j := by
  funext i
  unfold cM
  by_cases e : i = j
  · subst e; rw [if_neg (fun k => h k.2), if_neg (fun k => h k.2)]
  · simp only [show i < j + 1 ↔ i < j by omega]
theorem cL_yes {z : Nat → Int × Int × Int} {t : Int} {L : Nat → Int} {j : Nat} (h : rel (z j) t) : cL z t L (j + 1) = upd (cL z t L j) j (z j).2.1 := by
  funext i
  unfold cL upd
  by_cases e : i = j
  · subst e; rw [if_pos ⟨by omega, h⟩, if_pos rfl]
  · rw [if_neg e]; simp only [show i < j + 1 ↔ i < j by omega]
theorem cD_yes {z : Nat → Int × Int × Int} {t : Int} {L : Nat → Int} {j : Nat} (h : rel (z j) t) : cD z t L (j + 1) = upd (cD z t L j) j (t + (z j).1) := by
  funext i
  unfold cD upd
  by_cases e : i = j
  · subst e; rw [if_pos ⟨by omega, h⟩, if_pos rfl]
  · rw [if_neg e]; simp only [show i < j + 1 ↔ i < j by omega]
theorem cM_yes {z : Nat → Int × Int × Int} {t : Int} {L M : Nat → Int} {j : Nat} (h : rel (z j) t) (hl : 0 < L j) : cM z t L M (j + 1) = upd (cM z t L M j) j (M j + 1) := by
  funext i
  unfold cM upd
  by_cases e : i = j
  · subst e; rw [if_pos ⟨by omega, h, hl⟩, if_pos rfl]
  · rw [if_neg e]; simp only [show i < j + 1 ↔ i < j by omega]
theorem cL_at (z : Nat → Int × Int × Int) (t : Int) (L : Nat → Int) (j : Nat) : cL z t L j j = L j := by simp [cL]
theorem cM_at (z : Nat → Int × Int × Int) (t : Int) (L M : Nat → Int) (j : Nat) : cM z t L M j j = M j := by simp [cM]
set_option maxRecDepth 100000 in
set_option maxHeartbeats 4000000 in
theorem come_at (A0 : Option Addr) (n c : Nat) (z : Nat → Int × Int × Int) (wb : World) {base pb rl rd rm : Nat} {L D M : Nat → Int} {q : Int} {v : Value} {xs : List Int} (t : Nat) (w : World) (ht : t ≤ 20000) (hA : Rd3 wb A0 n z) (hok : AllOk z n) (hbase : wb.heap.size = base) (hbel : Below base wb w)
    (hM : ∀ i, i < n → 0 ≤ M i ∧ M i ≤ 20000) (h : PI base pb rl rd rm n (.slice A0 n c) L D M q v xs w) :
    Calls Try.prog 40 #[ptr pb, .int .i64 t] w fun e w' => e = .returned (.tuple #[]) ∧ PI base pb rl rd rm n (.slice A0 n c) (cL z t L n) (cD z t D n) (cM z t L M n) q v xs w' ∧ Below base wb w' := by
  have HA := Lib.hid hA
  have HO := Lib.hid hok.1
  have hn : n ≤ 16 := hok.2.2
  have HM := Lib.hid hM
  have c0 := h.c0
  have HP := Lib.hid h
  have HB := Lib.hid hbel
  have HS := Lib.hid hbase
  clear hA hok hM h hbel hbase
  go_enter Try.func40, Try.ntmps40
  go_wp2_with fail
  go_loopw [11] (fun v11 W => ∃ (i : Nat), i ≤ n ∧ v11 = .int .i64 i ∧ Hid (PI base pb rl rd rm n (.slice A0 n c) (cL z t L i) (cD z t D i) (cM z t L M i) q v xs W) ∧ Hid (Below base wb W)) (fun v11 _ => n - (intOf v11).toNat)
  case atStart => exact ⟨0, by omega, rfl, by rw [cL_0, cD_0, cM_0]; exact HP.out, HB.out⟩
  case round =>
    clear c0 HP HB
    obtain ⟨i, hi, rfl, HP, HB⟩ := hrel
    rename World => wo
    by_cases hlt : i < n
    · obtain ⟨b0, off, rfl, hcell⟩ := HA.out (by omega)
      obtain ⟨⟨g0, g1, g2⟩, _⟩ := hcell i hlt
      have hblk : b0 < base := HS.out ▸ World.block_lt_of_cell? wb _ g0
      have k0 : wo.cell? ⟨b0, off + i * 3, none⟩ = some (.int .i64 (z i).1) := (HB.out.cell (p := ⟨b0, off + i * 3, none⟩) hblk).trans g0
      have k1 : wo.cell? ⟨b0, off + i * 3 + 1, none⟩ = some (.int .i64 (z i).2.1) := (HB.out.cell (p := ⟨b0, off + i * 3 + 1, none⟩) hblk).trans g1
      have k2 : wo.cell? ⟨b0, off + i * 3 + 2, none⟩ = some (.int .i64 (z i).2.2) := (HB.out.cell (p := ⟨b0, off + i * 3 + 2, none⟩) hblk).trans g2
      have hto := HO.out i hlt
      have hmi := HM.out i hlt
      unfold TaskOk at hto
      have HR1 := Lib.hid (@cL_no z t L i)
      have HR2 := Lib.hid (@cD_no z t D i)
      have HR3 := Lib.hid (@cM_no z t L M i)
      have HR4 := Lib.hid (@cL_yes z t L i)
      have HR5 := Lib.hid (@cD_yes z t D i)
      have HR6 := Lib.hid (@cM_yes z t L M i)
      have hl := (HP.out.l i hlt)
      have hm := (HP.out.m i hlt)
      have hd := (HP.out.d i hlt)
      rw [cL_at] at hl
      rw [cM_at] at hm
      by_cases hr : rel (z i) t
      · have HR := Lib.hid hr
        unfold rel at hr
        have HBN := Lib.hid hto
        obtain ⟨hbe, hy⟩ := hr
        obtain ⟨p, hp⟩ : ∃ x, (z i).1 = x := ⟨_, rfl⟩
        obtain ⟨x1, hx1⟩ : ∃ x, (z i).2.1 = x := ⟨_, rfl⟩
        obtain ⟨x2, hx2⟩ : ∃ x, (z i).2.2 = x := ⟨_, rfl⟩
        have HX := Lib.hid (show (z i).1 = p ∧ (z i).2.1 = x1 from ⟨hp, hx1⟩)
        rw [hp] at k0 hto hy
        rw [hx1] at k1 hto
        rw [hx2] at k2 hto hy hbe
        obtain ⟨t1, t2, t3, t4, t5, t6⟩ := hto
        have HB2 := Lib.hid (show Below base wb (wo.alloc (.cells #[.int .i64 p, .int .i64 x1, .int .i64 x2] 35)) from HB.out.alloc (HS.out ▸ HB.out.size) _)
        have HP2 := Lib.hid (pi_alloc HP.out (.cells #[.int .i64 p, .int .i64 x1, .int .i64 x2] 35))
        have hw0 : IntKind.i64.wrap ((t : Int) - x2) = (t : Int) - x2 := iw (by omega) (by omega)
        have hw2 : IntKind.i64.wrap ((t : Int) + p) = (t : Int) + p := iw (by omega) (by omega)
        have hpz : ¬ p = 0 := by omega
        have kt : ∀ (x : Int) (b : Addr), b.block = rm → ((wo.alloc (.cells #[.int .i64 p, .int .i64 x1, .int .i64 x2] 35)).setCell b (.int .i64 x)).cell? ⟨wo.heap.size, 0, none⟩ = some (.int .i64 p) ∧ ((wo.alloc (.cells #[.int .i64 p, .int .i64 x1, .int .i64 x2] 35)).setCell b (.int .i64 x)).cell? ⟨wo.heap.size, 1, none⟩ = some (.int .i64 x1) := by
          intro x b hb
          have := HP.out.hi
          exact ⟨(cs_other (by rintro rfl; simp at hb; omega)).trans (cell_new wo _ 35 0 _ rfl), (cs_other (by rintro rfl; simp at hb; omega)).trans (cell_new wo _ 35 1 _ rfl)⟩
        have KT := Lib.hid kt
        have a1 := HP2.out.c1
        have a4 := HP2.out.c4
        have al := HP2.out.l i hlt
        have am := HP2.out.m i hlt
        rw [cL_at] at al
        rw [cM_at] at am
        obtain ⟨al1, al2⟩ := al
        obtain ⟨am1, am2⟩ := am
        obtain ⟨ml, hml⟩ : ∃ x, M i = x := ⟨_, rfl⟩
        obtain ⟨ll, hll⟩ : ∃ x, L i = x := ⟨_, rfl⟩
        have HLL := Lib.hid (show M i = ml ∧ L i = ll from ⟨hml, hll⟩)
        rw [hml] at am1 hmi
        rw [hll] at al1
        obtain ⟨m1, m2⟩ := hmi
        have hw3 : IntKind.i64.wrap (ml + 1) = ml + 1 := iw (by omega) (by omega)
        by_cases hlp : 0 < ll
        · clear hp hx1 hx2 hcell g0 g1 g2 hl hm hd kt hml hll
          go_upto_region 6 with (fail)
          have HP3 := Lib.hid (pi_m HP2.out i (ml + 1))
          have hk := KT.out (ml + 1) ⟨rm, i, none⟩ rfl
          have HB3 := Lib.hid (below_set HB2.out (p := ⟨rm, i, none⟩) (HP2.out.lo.2.2.2) (.int .i64 (ml + 1)))
          have hsz := size_set (wo.alloc (.cells #[.int .i64 p, .int .i64 x1, .int .i64 x2] 35)) ⟨rm, i, none⟩ (.int .i64 (ml + 1))
          obtain ⟨s, hs⟩ : ∃ s, wo.heap.size = s := ⟨_, rfl⟩
          rw [hs] at hk
          generalize hW2 : (wo.alloc (.cells #[.int .i64 p, .int .i64 x1, .int .i64 x2] 35)).setCell ⟨rm, i, none⟩ (.int .i64 (ml + 1)) = W2 at *
          have hne := HP3.out.ne
          have hhi := HP2.out.hi
          have hsr : s ≠ rl ∧ s ≠ rd := by
            have := HP.out.hi
            constructor <;> omega
          obtain ⟨hs1, hs2⟩ := hsr
          obtain ⟨⟨n1, n2, n3⟩, n4, n5, n6⟩ := hne
          obtain ⟨k1', k2'⟩ := hk
          have b1 := HP3.out.c1
          have b2 := HP3.out.c2
          obtain ⟨bl1, bl2⟩ := HP3.out.l i hlt
          obtain ⟨bd1, bd2⟩ := HP3.out.d i hlt
          have HPE := Lib.hid (pi_drewN (pi_d (pi_l HP3.out i x1) i ((t : Int) + p)) 1)
          have HBE := Lib.hid (below_drewN (below_set (below_set HB3.out (p := ⟨rl, i, none⟩) HP3.out.lo.2.1 (.int .i64 x1)) (p := ⟨rd, i, none⟩) HP3.out.lo.2.2.1 (.int .i64 ((t : Int) + p))) 1)
          clear a1 a4 al1 al2 am1 am2 k0 k1 k2 hW2 hsz hhi HP HP2
          go_region
          have HLX := Lib.hid hlp
          clear hlp
          go_wp2
          refine ⟨⟨i + 1, by omega, by simp, ?_, HBE.out⟩, by simp [intOf]; omega⟩
          show PI _ _ _ _ _ _ _ _ _ _ _ _ _ _
          rw [HR4.out HR.out, HR5.out HR.out, HR6.out HR.out (by rw [HLL.out.2]; exact HLX.out), HX.out.1, HX.out.2, HLL.out.1]
          exact HPE.out
        · clear hp hx1 hx2 hcell g0 g1 g2 hl hm hd kt hml hll
          go_upto_region 6 with (fail)
          have HP3 := HP2
          have hk : (wo.alloc (.cells #[.int .i64 p, .int .i64 x1, .int .i64 x2] 35)).cell? ⟨wo.heap.size, 0, none⟩ = some (.int .i64 p) ∧ (wo.alloc (.cells #[.int .i64 p, .int .i64 x1, .int .i64 x2] 35)).cell? ⟨wo.heap.size, 1, none⟩ = some (.int .i64 x1) := ⟨cell_new wo _ 35 0 _ rfl, cell_new wo _ 35 1 _ rfl⟩
          have HB3 := HB2
          obtain ⟨s, hs⟩ : ∃ s, wo.heap.size = s := ⟨_, rfl⟩
          rw [hs] at hk
          clear KT
          generalize hW2 : wo.alloc (.cells #[.int .i64 p, .int .i64 x1, .int .i64 x2] 35) = W2 at *
          have hne := HP3.out.ne
          have hsr : s ≠ rl ∧ s ≠ rd := by
            have := HP.out.hi
            constructor <;> omega
          obtain ⟨hs1, hs2⟩ := hsr
          obtain ⟨⟨n1, n2, n3⟩, n4, n5, n6⟩ := hne
          obtain ⟨k1', k2'⟩ := hk
          have b1 := HP3.out.c1
          have b2 := HP3.out.c2
          obtain ⟨bl1, bl2⟩ := HP3.out.l i hlt
          obtain ⟨bd1, bd2⟩ := HP3.out.d i hlt
          have HPE := Lib.hid (pi_drewN (pi_d (pi_l HP3.out i x1) i ((t : Int) + p)) 1)
          have HBE := Lib.hid (below_drewN (below_set (below_set HB3.out (p := ⟨rl, i, none⟩) HP3.out.lo.2.1 (.int .i64 x1)) (p := ⟨rd, i, none⟩) HP3.out.lo.2.2.1 (.int .i64 ((t : Int) + p))) 1)
          clear a1 a4 al1 al2 am1 am2 k0 k1 k2 hW2 HP HP2
          go_region
          have HLX := Lib.hid hlp
          clear hlp
          go_wp2
          refine ⟨⟨i + 1, by omega, by simp, ?_, HBE.out⟩, by simp [intOf]; omega⟩
          show PI _ _ _ _ _ _ _ _ _ _ _ _ _ _
          rw [HR4.out HR.out, HR5.out HR.out, HR3.out (fun k => HLX.out (by rw [← HLL.out.2]; exact k.2)), HX.out.1, HX.out.2]
          exact HPE.out
      · have HR := Lib.hid hr
        unfold rel at hr
        obtain ⟨p, hp⟩ : ∃ x, (z i).1 = x := ⟨_, rfl⟩
        obtain ⟨x1, hx1⟩ : ∃ x, (z i).2.1 = x := ⟨_, rfl⟩
        obtain ⟨x2, hx2⟩ : ∃ x, (z i).2.2 = x := ⟨_, rfl⟩
        rw [hp] at k0 hto hr
        rw [hx1] at k1 hto
        rw [hx2] at k2 hto hr
        have HB2 := Lib.hid (show Below base wb (wo.alloc (.cells #[.int .i64 p, .int .i64 x1, .int .i64 x2] 35)) from HB.out.alloc (HS.out ▸ HB.out.size) _)
        have HP2 := Lib.hid (pi_alloc HP.out (.cells #[.int .i64 p, .int .i64 x1, .int .i64 x2] 35))
        obtain ⟨t1, t2, t3, t4, t5, t6⟩ := hto
        by_cases hb : (t : Int) < x2
        · clear hr hp hx1 hx2 hcell g0 g1 g2 hl hm hd
          go_wp2
          exact ⟨⟨i + 1, by omega, by simp, by rw [HR1.out HR.out, HR2.out HR.out, HR3.out fun k => HR.out k.1]; exact HP2.out, HB2.out⟩, by simp [intOf]; omega⟩
        · have hmod : ¬ ((t : Int) - x2) % p = 0 := fun e => hr ⟨by omega, e⟩
          obtain ⟨y, hy⟩ : ∃ y, ((t : Int) - x2) % p = y := ⟨_, rfl⟩
          have hy0 : 0 ≤ y ∧ y < p := by rw [← hy]; exact ⟨Int.emod_nonneg _ (by omega), Int.emod_lt_of_pos _ (by omega)⟩
          have hw0 : IntKind.i64.wrap ((t : Int) - x2) = (t : Int) - x2 := iw (by omega) (by omega)
          have hw1 : IntKind.i64.wrap (((t : Int) - x2).tmod p) = y := by rw [Int.tmod_eq_emod_of_nonneg (by omega), hy]; exact iw (by omega) (by omega)
          rw [hy] at hmod
          have hpz : ¬ p = 0 := by omega
          clear hr hp hx1 hx2 hcell g0 g1 g2 hl hm hd
          go_wp2
          exact ⟨⟨i + 1, by omega, by simp, by rw [HR1.out HR.out, HR2.out HR.out, HR3.out fun k => HR.out k.1]; exact HP2.out, HB2.out⟩, by simp [intOf]; omega⟩
    · obtain rfl : i = n := by omega
      go_wp2
      refine bodyPost_end (results_none rfl _ _ _) rfl ⟨rfl, HP.out, HB.out⟩
end Go.Proofs.Ytdbaeigbejcobaa.Dl
