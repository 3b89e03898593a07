/- The queue: dropping and adding: a part of the walk of the whole machine. For all states that the readings allow. -/
import Derived.Test.YtlcaepcojglbiaaGreatDoorMi
namespace Go.Proofs.YtlcaepcojglbiaaGreatDoor.Tp
open Go.RowKit
set_option linter.unusedVariables false
set_option linter.unusedSimpArgs false
theorem put_none (a : Act) (v : Value) : a.put none v = a := rfl
def dropv (id : Int) (L : List Tm) : Value := match L.find? (fun t => t.id == id) with
  | none => .tuple #[tmv tm0, .bool false]
  | some t => .tuple #[tmv t, .bool true]
theorem dropv_no {id : Int} {L : List Tm} (h : hasId id L = false) : dropv id L = .tuple #[tmv tm0, .bool false] := by
  unfold dropv
  have : L.find? (fun t => t.id == id) = none := List.find?_eq_none.2 fun t ht => by simpa using hasId_no h t ht
  rw [this]
theorem qdel_no {id : Int} {L : List Tm} (h : hasId id L = false) : qdel id L = L := List.filter_eq_self.2 fun t ht => by simpa using hasId_no h t ht
set_option maxRecDepth 100000 in
set_option maxHeartbeats 4000000 in
theorem qdrop_no {a : QA} {L : List Tm} (id : Int) (W : World) (h : QR a L W) (hid : i64 id) (hn : hasId id L = false) : Calls Tryz.prog 78 #[ptr a.q, .int .i64 id] W fun e W' => e = .returned (.tuple #[tmv tm0, .bool false]) ∧ Below W.heap.size W W' := by
  have HB := Lib.hid ((Below.refl W.heap.size W).alloc (Nat.le_refl _) (.cells #[.int .i64 0, .int .i64 0, .int .i64 0, .int .i64 0, .bool false] 31))
  have C1 := Lib.hid (qhas_at id _ (qr_below h HB.out) hid)
  rw [hn] at C1
  have HN := Lib.hid (heap_alloc_new W (.cells #[.int .i64 0, .int .i64 0, .int .i64 0, .int .i64 0, .bool false] 31))
  clear h hn
  go_enter Tryz.func78, Tryz.ntmps78
  go_wp2_with (first
    | (go_at_call 95; refine (C1.out).mono ?_; clear C1; rintro e w1 ⟨rfl, hB⟩; have hn := (hB.block W.heap.size (by simp)).trans HN.out; have HN1 := Lib.hid hn; obtain ⟨⟨k0, z0⟩, ⟨k1, z1⟩, ⟨k2, z2⟩, ⟨k3, z3⟩, k4, z4⟩ := cells5 hn; have HB1 := Lib.hid (HB.out.trans (hB.mono HB.out.size)); clear hn hB)
    | fail)
  exact bodyPost_ret (results_cell_row_tmp Tryz.results78 _ _ W.heap.size 31 _ (0, 0) _ rfl (set5 HN1.out _ _ _ _ _) Tryz.underlying31 rfl (by kernel_rfl)) rfl ⟨rfl, below_set5 HB1.out (Nat.le_refl _) _ _ _ _ _⟩
theorem tdrop_at {tp nb : Nat} {S : TS} {A B fs : List Nat} {z : Nat} (W : World) (h : TR tp nb S W) (ti : TI S (A ++ z :: B) fs) : Calls Tryz.prog 105 #[ptr tp, .agg #[.int .i64 z, .int .i64 (S.N z).turn]] W fun e W' => e = .returned (.int .i64 0) ∧ ∃ S', TR tp nb S' W' ∧ G2 tp nb W W' ∧ TI S' (A ++ B) (z :: fs) ∧ ∀ j ∈ A ++ B, (S'.N j).key = (S.N j).key := by
  have hb := ti.bd z (by simp)
  have hn := ti.n
  have hc := ti.cnt
  have hm := ti.mx
  simp at hn hc
  refine (dropw z W h ti.ok ti.wt (by rw [ti.z0]; rfl) rfl hb.2 (by omega) (ti.tk z (by simp)).1 (by omega) (by omega)).mono ?_
  rintro e W' ⟨rfl, S2, ck, wt, hT, hG⟩
  obtain ⟨t1, t2, _⟩ := ti_gone ti rfl ck wt
  exact ⟨rfl, _, hT, hG, t1, t2⟩
set_option maxRecDepth 100000 in
set_option maxHeartbeats 4000000 in
theorem qdrop_yes {a : QA} {L : List Tm} (t : Tm) (W : World) (h : QR a L W) (ht : t ∈ L) : Calls Tryz.prog 78 #[ptr a.q, .int .i64 t.id] W fun e W' => e = .returned (.tuple #[tmv t, .bool true]) ∧ QR a (qdel t.id L) W' ∧ GF a.foot W W' := by
  obtain ⟨S, ps, fs, m, f1, f2, hx⟩ := h.x
  have ht2 := ht
  rw [hx.l] at ht2
  obtain ⟨z, hz, hzt⟩ := List.mem_map.1 ht2
  obtain ⟨A, B, hA⟩ := List.append_of_mem hz
  subst hA
  have HB := Lib.hid ((Below.refl W.heap.size W).alloc (Nat.le_refl _) (.cells #[.int .i64 0, .int .i64 0, .int .i64 0, .int .i64 0, .bool false] 31))
  have hw := hx.wf z hz
  rw [hzt] at hw
  have C1 := Lib.hid (qhas_at t.id _ (qr_below h HB.out) hw.id)
  rw [hasId_iff.2 ⟨t, ht, rfl⟩] at C1
  have HN := Lib.hid (heap_alloc_new W (.cells #[.int .i64 0, .int .i64 0, .int .i64 0, .int .i64 0, .bool false] 31))
  have HX0 := Lib.hid (fun w (hB : Below (W.alloc (.cells #[.int .i64 0, .int .i64 0, .int .i64 0, .int .i64 0, .bool false] 31)).heap.size (W.alloc (.cells #[.int .i64 0, .int .i64 0, .int .i64 0, .int .i64 0, .bool false] 31)) w) =>
    qx_same hx (W' := w) (HB.out.trans (hB.mono HB.out.size)).size fun i hi => (HB.out.trans (hB.mono HB.out.size)).block i (qr_lt h i (.inr hi)))
  have hf1 : f1 t.id = some ⟨t, z, (S.N z).turn⟩ := (hx.g1 _ _).2 ⟨z, hz, by rw [hzt], by rw [hzt]⟩
  have HF1 := Lib.hid hf1
  have c0 := h.c0
  have c1 := h.c1
  have c2 := h.c2
  have hq := h.lt
  have HNQ := Lib.hid (And.intro h.nq h.nt)
  have HLT := Lib.hid (qr_lt h)
  obtain ⟨u, hu⟩ : ∃ u, (S.N z).turn = u := ⟨_, rfl⟩
  rw [hu] at HF1
  have HU := Lib.hid hu
  have HZT := Lib.hid hzt
  have HID := Lib.hid (ki_key hw.id)
  have HHK := Lib.hid (kh_key (p := ((z : Int), u)) (by have := hx.ti.bd z (by simp); have := hx.ti.mx; show _ ∧ _; omega) (by rw [← hu]; exact hx.ti.tu z))
  obtain ⟨id, tc, ts, th, tl⟩ := t
  dsimp only at C1 HF1 HID ⊢
  have C2 := Lib.hid (fun w (hT : TR a.tp a.nb S w) => tdrop_at w hT hx.ti)
  rw [hu] at C2
  have HQD := Lib.hid (fun S' w' (ti' : TI S' (A ++ B) (z :: fs)) hk tr' v1' v2' => qx_del (W' := w') hx rfl ti' hk tr' v1' v2')
  have HF2 := Lib.hid (qx_f2 hx hz)
  rw [hu] at HQD HF2
  rw [hzt] at HQD HF2
  have nqt : ¬ a.q = a.tp := fun e => h.nq (.inl e)
  have nqn : ¬ a.q = a.nb := fun e => h.nq (.inr (.inl e))
  have nqm : ¬ a.q = a.mb := fun e => h.nq (.inr (.inr (.inl e)))
  have nqs : ¬ a.q = a.ms := fun e => h.nq (.inr (.inr (.inr e)))
  have lt1 := qr_lt h a.tp (.inr (.inl rfl))
  have lt2 := qr_lt h a.nb (.inr (.inr (.inl rfl)))
  have lt3 := qr_lt h a.mb (.inr (.inr (.inr (.inl rfl))))
  have lt4 := qr_lt h a.ms (.inr (.inr (.inr (.inr rfl))))
  clear h hx ht ht2 hz hf1 hu hzt hw
  go_enter Tryz.func78, Tryz.ntmps78
  go_wp2_with (first
    | (go_at_call 95; refine (C1.out).mono ?_; clear C1; rintro e w1 ⟨rfl, hB⟩; have hn := (hB.block W.heap.size (by simp)).trans HN.out; have HN1 := Lib.hid hn; have hs1 := (Array.getElem?_eq_some_iff.1 hn).1; have hne : ¬ W.heap.size = w1.heap.size := (by omega); have HB1 := Lib.hid (HB.out.trans (hB.mono HB.out.size)); have HX1 := Lib.hid (HX0.out w1 hB); have d0 := (World.cell?_of_block (a := ⟨a.q, 0, none⟩) (HB1.out.block a.q hq)).trans c0; have d1 := (World.cell?_of_block (a := ⟨a.q, 1, none⟩) (HB1.out.block a.q hq)).trans c1; have d2 := (World.cell?_of_block (a := ⟨a.q, 2, none⟩) (HB1.out.block a.q hq)).trans c2; clear hn hB)
    | (at_lookup; refine wpList_look_mv _ rfl _ _ 144 false rfl keyed3 Tryz.underlying144 (zero177 _) ki_inj HX1.out.v1 id HID.out rfl rfl (.agg #[.int .i64 id, .int .i64 tc, .int .i64 ts, .int .i64 th, .bool tl, .int .i64 z, .int .i64 u]) (by rw [HF1.out]; rfl) ?_)
    | fail)
  have hbs := HB1.out.size
  have hn2 := heap_alloc_new w1 (.cells #[.int .i64 id, .int .i64 tc, .int .i64 ts, .int .i64 th, .bool tl, .int .i64 z, .int .i64 u] 177)
  have hn1 := (Below.heap_alloc w1 (.cells #[.int .i64 id, .int .i64 tc, .int .i64 ts, .int .i64 th, .bool tl, .int .i64 z, .int .i64 u] 177) W.heap.size hs1).trans HN1.out
  have e0 := (World.cell?_of_block (a := ⟨a.q, 0, none⟩) (Below.heap_alloc w1 (.cells #[.int .i64 id, .int .i64 tc, .int .i64 ts, .int .i64 th, .bool tl, .int .i64 z, .int .i64 u] 177) a.q (by omega))).trans d0
  have e1 := (World.cell?_of_block (a := ⟨a.q, 1, none⟩) (Below.heap_alloc w1 (.cells #[.int .i64 id, .int .i64 tc, .int .i64 ts, .int .i64 th, .bool tl, .int .i64 z, .int .i64 u] 177) a.q (by omega))).trans d1
  have e2 := (World.cell?_of_block (a := ⟨a.q, 2, none⟩) (Below.heap_alloc w1 (.cells #[.int .i64 id, .int .i64 tc, .int .i64 ts, .int .i64 th, .bool tl, .int .i64 z, .int .i64 u] 177) a.q (by omega))).trans d2
  have HX2 := Lib.hid (qx_same HX1.out (W' := w1.alloc (.cells #[.int .i64 id, .int .i64 tc, .int .i64 ts, .int .i64 th, .bool tl, .int .i64 z, .int .i64 u] 177)) (by simp) fun i hi => Below.heap_alloc w1 _ i (by have := HLT.out i (.inr hi); omega))
  have HB2 := Lib.hid (HB1.out.alloc HB1.out.size (.cells #[.int .i64 id, .int .i64 tc, .int .i64 ts, .int .i64 th, .bool tl, .int .i64 z, .int .i64 u] 177))
  have hsz2 : (w1.alloc (.cells #[.int .i64 id, .int .i64 tc, .int .i64 ts, .int .i64 th, .bool tl, .int .i64 z, .int .i64 u] 177)).heap.size = w1.heap.size + 1 := by simp
  obtain ⟨g, hg⟩ : ∃ g, w1.heap.size = g := ⟨_, rfl⟩
  obtain ⟨w2, hw2⟩ : ∃ w2, w1.alloc (.cells #[.int .i64 id, .int .i64 tc, .int .i64 ts, .int .i64 th, .bool tl, .int .i64 z, .int .i64 u] 177) = w2 := ⟨_, rfl⟩
  rw [hw2] at hn2 hn1 HX2 e0 e1 e2 HB2 hsz2 ⊢
  rw [hg] at hn2 hne hs1 hbs hsz2 ⊢
  clear hw2 hg HX1 HB1 HN1 c0 c1 c2 HB HN HX0 d0 d1 d2
  have HE1 := Lib.hid e1
  have HE2 := Lib.hid e2
  have HN1 := Lib.hid hn1
  have HN2 := Lib.hid hn2
  have j5 := (cell_of hn2 5 _ rfl).1
  have j6 := (cell_of hn2 6 _ rfl).1
  clear e1 e2 hn1 hn2
  go_region_held3 (fun w => w.cell? ⟨a.q, 0, none⟩ = some (ptr a.tp) ∧ w.cell? ⟨g, 5, none⟩ = some (.int .i64 z) ∧ w.cell? ⟨g, 6, none⟩ = some (.int .i64 u)) (first | exact ⟨e0, j5, j6⟩ | assumption | (go_keep; done)) (first | (go_simp; go_at_call 105; refine (C2.out w2.drew (tr_drew HX2.out.tr)).mono ?_; clear C2; rintro e w3 ⟨rfl, S', hT, hG, ti', hk⟩; have q0 := (World.cell?_of_block (a := ⟨a.q, 0, none⟩) (hG.block a.q (show a.q < w2.heap.size by omega) nqt nqn)).trans e0; have q5 := (World.cell?_of_block (a := ⟨g, 5, none⟩) (hG.block g (show g < w2.heap.size by omega) (by omega) (by omega))).trans j5; have q6 := (World.cell?_of_block (a := ⟨g, 6, none⟩) (hG.block g (show g < w2.heap.size by omega) (by omega) (by omega))).trans j6) | fail)
  rename_i hHH
  have b1 := (hG.block a.q (show a.q < w2.heap.size by omega) nqt nqn)
  have e1 := (World.cell?_of_block (a := ⟨a.q, 1, none⟩) b1).trans HE1.out
  have e2 := (World.cell?_of_block (a := ⟨a.q, 2, none⟩) b1).trans HE2.out
  have hsz3 := hG.size
  have hn1 := (hG.block W.heap.size (show W.heap.size < w2.heap.size by omega) (by omega) (by omega)).trans HN1.out
  have hn2 := (hG.block g (show g < w2.heap.size by omega) (by omega) (by omega)).trans HN2.out
  have M1 := Lib.hid (mv_same HX2.out.v1 (hG.block a.mb (show a.mb < w2.heap.size by omega) HNQ.out.2.1 HNQ.out.2.2.1))
  have M2 := Lib.hid (mv_same HX2.out.v2 (hG.block a.ms (show a.ms < w2.heap.size by omega) HNQ.out.2.2.2.1 HNQ.out.2.2.2.2.1))
  have HG3 : Hid (GF a.foot W w3) := Lib.hid (gf_trans (gf_drew (gf_mono (⟨HB2.out.os, HB2.out.tape, HB2.out.output, HB2.out.size, fun i hi _ => HB2.out.block i hi⟩ : GF a.foot W w2) fun _ h => h)) (gf_g2 hG (.inl rfl) (.inr (.inl rfl))))
  have HK3 := Lib.hid (And.intro ti' (And.intro hk hT))
  have HN1' := Lib.hid hn1
  have HN2' := Lib.hid hn2
  have hsz3' : g + 1 ≤ w3.heap.size := by rw [← hsz2]; exact hsz3
  have HE2' := Lib.hid e2
  clear hT hG ti' hk q0 q5 q6 e0 j5 j6 HN1 HN2 HE1 HE2 HX2 HB2 hsz2 hsz3 b1 hn1 hn2 e2
  have HC0 : Hid (w3.cell? ⟨a.q, 0, none⟩ = some (ptr a.tp)) := Lib.hid hHH.1
  go_wp2_with (first
    | (at_delete; refine wpList_drop_mv _ rfl _ _ 144 3 rfl keyed3 Tryz.underlying144 ki_inj M1.out id HID.out rfl rfl ?_; intro w4 m4 g4)
    | fail)
  have hsz4 := g4.size
  have e2 := (World.cell?_of_block (a := ⟨a.q, 2, none⟩) (g4.block a.q (by omega) nqm nqm)).trans HE2'.out
  have e1' := (World.cell?_of_block (a := ⟨a.q, 1, none⟩) (g4.block a.q (by omega) nqm nqm)).trans e1
  have e0' := (World.cell?_of_block (a := ⟨a.q, 0, none⟩) (g4.block a.q (by omega) nqm nqm)).trans HC0.out
  have hn1 := (g4.block W.heap.size (by omega) (by omega) (by omega)).trans HN1'.out
  have hn2 := (g4.block g (by omega) (by omega) (by omega)).trans HN2'.out
  have M2' := Lib.hid (mv_same M2.out (g4.block a.ms (by omega) (Ne.symm HNQ.out.2.2.2.2.2) (Ne.symm HNQ.out.2.2.2.2.2)))
  have M1' := Lib.hid m4
  have HT4 := Lib.hid (tr_same HK3.out.2.2 g4.size (g4.block a.tp (by omega) (Ne.symm HNQ.out.2.1) (Ne.symm HNQ.out.2.1)) (g4.block a.nb (by omega) (Ne.symm HNQ.out.2.2.1) (Ne.symm HNQ.out.2.2.1)))
  have HG4 := Lib.hid (gf_trans HG3.out (gf_g2 g4 (.inr (.inr (.inl rfl))) (.inr (.inr (.inl rfl)))))
  have HN1 := Lib.hid hn1
  have HN2 := Lib.hid hn2
  have HC := Lib.hid (And.intro e0' (And.intro e1' e2))
  obtain ⟨lk, hlk⟩ := HHK.out
  have HLK := Lib.hid hlk
  have j5 := (cell_of hn2 5 _ rfl).1
  have j6 := (cell_of hn2 6 _ rfl).1
  clear m4 g4 M1 M2 HG3 HN1' HN2' HE2' HC0 e1 e0' e1' hHH hn1 hn2 hlk
  rw [put_none]
  go_still_tail 6, (by kernel_rfl)
  change wpList _ _ _ _ _ w4.drew
  refine wpList_drop_mv _ rfl _ _ 145 171 rfl keyed171 Tryz.underlying145 kh_inj (mv_same M2'.out rfl) ((z : Int), u) HLK.out rfl rfl ?_
  intro w5 m5 g5
  have hsz5 : w4.heap.size ≤ w5.heap.size := g5.size
  have hq4 : a.q < w4.heap.size := by omega
  have e0 := (World.cell?_of_block (a := ⟨a.q, 0, none⟩) (g5.block a.q hq4 nqs nqs)).trans HC.out.1
  have e1 := (World.cell?_of_block (a := ⟨a.q, 1, none⟩) (g5.block a.q hq4 nqs nqs)).trans HC.out.2.1
  have e2' := (World.cell?_of_block (a := ⟨a.q, 2, none⟩) (g5.block a.q hq4 nqs nqs)).trans HC.out.2.2
  have hn1 := (g5.block W.heap.size (show W.heap.size < w4.heap.size by omega) (by omega) (by omega)).trans HN1.out
  have hn2 := (g5.block g (show g < w4.heap.size by omega) (by omega) (by omega)).trans HN2.out
  have HT5 := tr_same HT4.out g5.size (g5.block a.tp (show a.tp < w4.heap.size by omega) (Ne.symm HNQ.out.2.2.2.1) (Ne.symm HNQ.out.2.2.2.1)) (g5.block a.nb (show a.nb < w4.heap.size by omega) (Ne.symm HNQ.out.2.2.2.2.1) (Ne.symm HNQ.out.2.2.2.2.1))
  have HM5 := mv_same M1'.out (g5.block a.mb (show a.mb < w4.heap.size by omega) HNQ.out.2.2.2.2.2 HNQ.out.2.2.2.2.2)
  have HX5 := Lib.hid (HQD.out S' w5 HK3.out.1 HK3.out.2.1 HT5 HM5 m5)
  have HG5 := Lib.hid (gf_trans (gf_drew HG4.out) (gf_g2 g5 (.inr (.inr (.inr rfl))) (.inr (.inr (.inr rfl)))))
  have HC5 := Lib.hid (And.intro e0 (And.intro e1 e2'))
  have HN5 := Lib.hid hn1
  have hsg : ¬ g = W.heap.size := by omega
  have hW5 : W.heap.size < w5.heap.size := by omega
  obtain ⟨⟨k0, z0⟩, ⟨k1, z1⟩, ⟨k2, z2⟩, ⟨k3, z3⟩, k4, z4⟩ := cells5 hn1
  have i0 := (cell_of hn2 0 _ rfl).1
  have i1 := (cell_of hn2 1 _ rfl).1
  have i2 := (cell_of hn2 2 _ rfl).1
  have i3 := (cell_of hn2 3 _ rfl).1
  have i4 := (cell_of hn2 4 _ rfl).1
  clear m5 g5 M2' M1' HT4 HG4 HN1 HN2 HC HT5 HM5 e0 e1 e2' e2 hn1 hn2 j5 j6
  dsimp only
  rw [put_none]
  go_wp2
  refine bodyPost_ret (results_cell_row_tmp Tryz.results78 _ _ W.heap.size 31 _ (0, 0) _ rfl (set5 HN5.out _ _ _ _ _) Tryz.underlying31 rfl (by kernel_rfl)) rfl ⟨rfl, ?_, gf_set (gf_set (gf_set (gf_set (gf_set HG5.out (.inr (Nat.le_refl _)) _) (.inr (Nat.le_refl _)) _) (.inr (Nat.le_refl _)) _) (.inr (Nat.le_refl _)) _) (.inr (Nat.le_refl _)) _⟩
  have hBL : ∀ i, i < W.heap.size → ((((((w5.setCell ⟨W.heap.size, 0, none⟩ (.int .i64 id)).setCell ⟨W.heap.size, 1, none⟩ (.int .i64 tc)).setCell ⟨W.heap.size, 2, none⟩ (.int .i64 ts)).setCell ⟨W.heap.size, 3, none⟩ (.int .i64 th)).setCell ⟨W.heap.size, 4, none⟩ (.bool tl)).heap[i]? = w5.heap[i]?) := fun i hi =>
    (Below.heap_setCell _ _ _ _ (show i ≠ W.heap.size by omega)).trans ((Below.heap_setCell _ _ _ _ (show i ≠ W.heap.size by omega)).trans ((Below.heap_setCell _ _ _ _ (show i ≠ W.heap.size by omega)).trans ((Below.heap_setCell _ _ _ _ (show i ≠ W.heap.size by omega)).trans (Below.heap_setCell _ _ _ _ (show i ≠ W.heap.size by omega)))))
  refine ⟨(World.cell?_of_block (a := ⟨a.q, 0, none⟩) (hBL a.q hq)).trans HC5.out.1, (World.cell?_of_block (a := ⟨a.q, 1, none⟩) (hBL a.q hq)).trans HC5.out.2.1, (World.cell?_of_block (a := ⟨a.q, 2, none⟩) (hBL a.q hq)).trans HC5.out.2.2, by simp only [size_set]; omega, HNQ.out.1, HNQ.out.2, _, _, _, _, _, _, qx_same HX5.out (by simp only [size_set]; omega) fun i hi => hBL i (HLT.out i (.inr hi))⟩
end Go.Proofs.YtlcaepcojglbiaaGreatDoor.Tp
namespace Go.Proofs.YtlcaepcojglbiaaGreatDoor.Tp
open Go.RowKit
set_option linter.unusedVariables false
set_option linter.unusedSimpArgs false
/-- What is carried through Add. -/
structure AB (a : QA) (S : TS) (n1 n2 : Nat) (f1 : Int → Option Ent) (f2 : Int × Int → Option Int) (bx : Obj) (W w : World) : Prop where
  d0 : w.cell? ⟨a.q, 0, none⟩ = some (ptr a.tp)
  d1 : w.cell? ⟨a.q, 1, none⟩ = some (.map (some a.mb))
  d2 : w.cell? ⟨a.q, 2, none⟩ = some (.map (some a.ms))
  bw : w.heap[W.heap.size]? = some bx
  tr : TR a.tp a.nb S w
  v1 : MV 3 ki entv a.mb n1 f1 w
  v2 : MV 171 kh ki a.ms n2 f2 w
  gf : GF a.foot W w
section
variable {a : QA} {S S' : TS} {n1 n2 n1' n2' : Nat} {f1 f1' : Int → Option Ent} {f2 f2' : Int × Int → Option Int} {bx : Obj} {W w w' : World}
theorem ab_lt (h : AB a S n1 n2 f1 f2 bx W w) : W.heap.size < w.heap.size := (Array.getElem?_eq_some_iff.1 h.bw).1
theorem ab_g2 (h : AB a S n1 n2 f1 f2 bx W w) (hl : ∀ i, a.has i → i < W.heap.size) (nq : ¬ a.foot a.q) (nt : a.mb ≠ a.tp ∧ a.mb ≠ a.nb ∧ a.ms ≠ a.tp ∧ a.ms ≠ a.nb ∧ a.mb ≠ a.ms) (g : G2 a.tp a.nb w w') (t : TR a.tp a.nb S' w') : AB a S' n1 n2 f1 f2 bx W w' := by
  have hlt := ab_lt h
  have l0 := hl a.q (.inl rfl)
  have l1 := hl a.tp (.inr (.inl rfl))
  have l2 := hl a.nb (.inr (.inr (.inl rfl)))
  have bq := g.block a.q (by omega) (fun e => nq (.inl e)) (fun e => nq (.inr (.inl e)))
  exact ⟨(World.cell?_of_block (a := ⟨a.q, 0, none⟩) bq).trans h.d0, (World.cell?_of_block (a := ⟨a.q, 1, none⟩) bq).trans h.d1, (World.cell?_of_block (a := ⟨a.q, 2, none⟩) bq).trans h.d2, (g.block _ hlt (by omega) (by omega)).trans h.bw, t,
    mv_same h.v1 (g.block _ (mv_lt h.v1) nt.1 nt.2.1), mv_same h.v2 (g.block _ (mv_lt h.v2) nt.2.2.1 nt.2.2.2.1), gf_trans h.gf (gf_g2 g (.inl rfl) (.inr (.inl rfl)))⟩
theorem ab_below (h : AB a S n1 n2 f1 f2 bx W w) (hl : ∀ i, a.has i → i < W.heap.size) (g : Below w.heap.size w w') : AB a S n1 n2 f1 f2 bx W w' := by
  have hlt := ab_lt h
  have l0 := hl a.q (.inl rfl)
  have bq := g.block a.q (by omega)
  exact ⟨(World.cell?_of_block (a := ⟨a.q, 0, none⟩) bq).trans h.d0, (World.cell?_of_block (a := ⟨a.q, 1, none⟩) bq).trans h.d1, (World.cell?_of_block (a := ⟨a.q, 2, none⟩) bq).trans h.d2, (g.block _ hlt).trans h.bw, tr_below h.tr g,
    mv_same h.v1 (g.block _ (mv_lt h.v1)), mv_same h.v2 (g.block _ (mv_lt h.v2)), gf_trans h.gf (gf_below g)⟩
theorem ab_drew (h : AB a S n1 n2 f1 f2 bx W w) : AB a S n1 n2 f1 f2 bx W w.drew := ⟨h.d0, h.d1, h.d2, h.bw, tr_drew h.tr, mv_same h.v1 rfl, mv_same h.v2 rfl, gf_drew h.gf⟩
theorem ab_set (h : AB a S n1 n2 f1 f2 bx W w) (hl : ∀ i, a.has i → i < W.heap.size) {g : Nat} (hg : W.heap.size < g) (o : Nat) (v : Value) : AB a S n1 n2 f1 f2 bx W (w.setCell ⟨g, o, none⟩ v) := by
  have hb : ∀ i, i ≤ W.heap.size → (w.setCell ⟨g, o, none⟩ v).heap[i]? = w.heap[i]? := fun i hi => Below.heap_setCell _ _ _ _ (show i ≠ g by omega)
  have l0 := hl a.q (.inl rfl)
  have l1 := hl a.tp (.inr (.inl rfl))
  have l2 := hl a.nb (.inr (.inr (.inl rfl)))
  have l3 := hl a.mb (.inr (.inr (.inr (.inl rfl))))
  have l4 := hl a.ms (.inr (.inr (.inr (.inr rfl))))
  have bq := hb a.q (by omega)
  exact ⟨(World.cell?_of_block (a := ⟨a.q, 0, none⟩) bq).trans h.d0, (World.cell?_of_block (a := ⟨a.q, 1, none⟩) bq).trans h.d1, (World.cell?_of_block (a := ⟨a.q, 2, none⟩) bq).trans h.d2, (hb _ (Nat.le_refl _)).trans h.bw, tr_same h.tr (by rw [size_set]; exact Nat.le_refl _) (hb _ (by omega)) (hb _ (by omega)),
    mv_same h.v1 (hb _ (by omega)), mv_same h.v2 (hb _ (by omega)), gf_set h.gf (.inr (by show W.heap.size ≤ g; omega)) v⟩
theorem ab_v1 (h : AB a S n1 n2 f1 f2 bx W w) (hl : ∀ i, a.has i → i < W.heap.size) (nq : ¬ a.foot a.q) (nt : a.mb ≠ a.tp ∧ a.mb ≠ a.nb ∧ a.ms ≠ a.tp ∧ a.ms ≠ a.nb ∧ a.mb ≠ a.ms) (g : G2 a.mb a.mb w w') (m : MV 3 ki entv a.mb n1' f1' w') : AB a S n1' n2 f1' f2 bx W w' := by
  have hlt := ab_lt h
  have l0 := hl a.q (.inl rfl)
  have l3 := hl a.mb (.inr (.inr (.inr (.inl rfl))))
  have e : ¬ a.q = a.mb := fun e => nq (.inr (.inr (.inl e)))
  have bq := g.block a.q (by omega) e e
  exact ⟨(World.cell?_of_block (a := ⟨a.q, 0, none⟩) bq).trans h.d0, (World.cell?_of_block (a := ⟨a.q, 1, none⟩) bq).trans h.d1, (World.cell?_of_block (a := ⟨a.q, 2, none⟩) bq).trans h.d2, (g.block _ hlt (by omega) (by omega)).trans h.bw,
    tr_same h.tr g.size (g.block _ h.tr.lt.1 (Ne.symm nt.1) (Ne.symm nt.1)) (g.block _ h.tr.lt.2 (Ne.symm nt.2.1) (Ne.symm nt.2.1)), m, mv_same h.v2 (g.block _ (mv_lt h.v2) (Ne.symm nt.2.2.2.2) (Ne.symm nt.2.2.2.2)), gf_trans h.gf (gf_g2 g (.inr (.inr (.inl rfl))) (.inr (.inr (.inl rfl))))⟩
theorem ab_v2 (h : AB a S n1 n2 f1 f2 bx W w) (hl : ∀ i, a.has i → i < W.heap.size) (nq : ¬ a.foot a.q) (nt : a.mb ≠ a.tp ∧ a.mb ≠ a.nb ∧ a.ms ≠ a.tp ∧ a.ms ≠ a.nb ∧ a.mb ≠ a.ms) (g : G2 a.ms a.ms w w') (m : MV 171 kh ki a.ms n2' f2' w') : AB a S n1 n2' f1 f2' bx W w' := by
  have hlt := ab_lt h
  have l0 := hl a.q (.inl rfl)
  have l4 := hl a.ms (.inr (.inr (.inr (.inr rfl))))
  have e : ¬ a.q = a.ms := fun e => nq (.inr (.inr (.inr e)))
  have bq := g.block a.q (by omega) e e
  exact ⟨(World.cell?_of_block (a := ⟨a.q, 0, none⟩) bq).trans h.d0, (World.cell?_of_block (a := ⟨a.q, 1, none⟩) bq).trans h.d1, (World.cell?_of_block (a := ⟨a.q, 2, none⟩) bq).trans h.d2, (g.block _ hlt (by omega) (by omega)).trans h.bw,
    tr_same h.tr g.size (g.block _ h.tr.lt.1 (Ne.symm nt.2.2.1) (Ne.symm nt.2.2.1)) (g.block _ h.tr.lt.2 (Ne.symm nt.2.2.2.1) (Ne.symm nt.2.2.2.1)), mv_same h.v1 (g.block _ (mv_lt h.v1) nt.2.2.2.2 nt.2.2.2.2), m, gf_trans h.gf (gf_g2 g (.inr (.inr (.inr rfl))) (.inr (.inr (.inr rfl))))⟩
end
set_option maxRecDepth 100000 in
set_option maxHeartbeats 4000000 in
theorem qadd_at {a : QA} {L : List Tm} (t : Tm) (W : World) (h : QR a L W) (hw : t.wf) (hsh : t.soft ≤ t.hard) (hno : hasId t.id L = false) (hlen : L.length < 64) : Calls Tryz.prog 72 #[ptr a.q, tmv t] W fun e W' => e = .returned (.int .i64 0) ∧ QR a (qins t L) W' ∧ GF a.foot W W' := by
  obtain ⟨S, ps, fs, m, f1, f2, hx⟩ := h.x
  have HQA := Lib.hid (fun x S' A B fs' w' hAB hlo hhi ti' hxT hxp hk tr' v1' v2' => qx_add (W' := w') hx t hw hno (x := x) (S' := S') (A := A) (B := B) (fs' := fs') hAB hlo hhi ti' hxT hxp hk tr' v1' v2')
  have hpl : ps.length < 64 := by rw [hx.l] at hlen; simpa using hlen
  have C2 := Lib.hid clamp_at
  have C3 := Lib.hid (fun w (hT : TR a.tp a.nb S w) => putw (clampv t.soft) w hT hx.ti hpl)
  have HTU := Lib.hid hw
  have hid := hw.id
  have hBx : Below W.heap.size W (W.alloc (.cells #[.int .i64 t.id, .int .i64 t.clock, .int .i64 t.soft, .int .i64 t.hard, .bool t.lazy] 31)) := (Below.refl W.heap.size W).alloc (Nat.le_refl _) _
  have C1 := Lib.hid (qhas_at t.id _ (qr_below h hBx) hw.id)
  rw [hno] at C1
  have HB := Lib.hid hBx
  have HN := Lib.hid (heap_alloc_new W (.cells #[.int .i64 t.id, .int .i64 t.clock, .int .i64 t.soft, .int .i64 t.hard, .bool t.lazy] 31))
  have HX0 := Lib.hid (fun w (hB : Below W.heap.size W w) => qx_same hx (W' := w) hB.size fun i hi => hB.block i (qr_lt h i (.inr hi)))
  have c0 := h.c0
  have c1 := h.c1
  have c2 := h.c2
  have hq := h.lt
  have HNQ := Lib.hid (And.intro h.nq h.nt)
  have HLT := Lib.hid (qr_lt h)
  have nqt : ¬ a.q = a.tp := fun e => h.nq (.inl e)
  have nqn : ¬ a.q = a.nb := fun e => h.nq (.inr (.inl e))
  have nqm : ¬ a.q = a.mb := fun e => h.nq (.inr (.inr (.inl e)))
  have nqs : ¬ a.q = a.ms := fun e => h.nq (.inr (.inr (.inr e)))
  have lt1 := qr_lt h a.tp (.inr (.inl rfl))
  have lt2 := qr_lt h a.nb (.inr (.inr (.inl rfl)))
  have lt3 := qr_lt h a.mb (.inr (.inr (.inr (.inl rfl))))
  have lt4 := qr_lt h a.ms (.inr (.inr (.inr (.inr rfl))))
  obtain ⟨⟨k0, z0⟩, ⟨k1, z1⟩, ⟨k2, z2⟩, ⟨k3, z3⟩, k4, z4⟩ := cells5 HN.out
  have HID := Lib.hid (ki_key hw.id)
  have hpl2 : ps.length < 1000 := by omega
  obtain ⟨id, tc, ts, th, tl⟩ := t
  dsimp only at C1 C3 HID HB HN hsh k0 k1 k2 k3 k4 z0 z1 z2 z3 z4 hid ⊢
  have hns : ¬ th < ts := by omega
  clear h hx hw hno hlen hpl hBx z0 z1 z2 z3 z4
  go_enter Tryz.func72, Tryz.ntmps72
  go_wp2_with (first
    | (go_at_call 95; refine (C1.out).mono ?_; clear C1; rintro e w1 ⟨rfl, hB⟩; have hn := (hB.block W.heap.size (by simp)).trans HN.out; have HN1 := Lib.hid hn; have hs1 := (Array.getElem?_eq_some_iff.1 hn).1; have HB1 := Lib.hid (HB.out.trans (hB.mono HB.out.size)); have HX1 := Lib.hid (HX0.out w1 HB1.out); have d0 := (World.cell?_of_block (a := ⟨a.q, 0, none⟩) (HB1.out.block a.q hq)).trans c0; have d1 := (World.cell?_of_block (a := ⟨a.q, 1, none⟩) (HB1.out.block a.q hq)).trans c1; have d2 := (World.cell?_of_block (a := ⟨a.q, 2, none⟩) (HB1.out.block a.q hq)).trans c2; clear k0 k1 k2 k3 k4; obtain ⟨⟨k0, z0⟩, ⟨k1, z1⟩, ⟨k2, z2⟩, ⟨k3, z3⟩, k4, z4⟩ := cells5 hn; clear hn hB)
    | fail)
  have HAB : Hid (AB a S ps.length ps.length f1 f2 (.cells #[.int .i64 id, .int .i64 tc, .int .i64 ts, .int .i64 th, .bool tl] 31) W w1) := Lib.hid ⟨d0, d1, d2, HN1.out, HX1.out.tr, HX1.out.v1, HX1.out.v2, ⟨HB1.out.os, HB1.out.tape, HB1.out.output, HB1.out.size, fun i hi _ => HB1.out.block i hi⟩⟩
  have hs2 : W.heap.size ≤ w1.heap.size := by omega
  have n1 : ¬ a.q = w1.heap.size := by omega
  have n2 : ¬ w1.heap.size = a.q := by omega
  have n3 : ¬ W.heap.size = w1.heap.size := by omega
  have n4 : ¬ w1.heap.size = W.heap.size := by omega
  go_region_held3 (fun w => w.cell? ⟨a.q, 0, none⟩ = some (ptr a.tp) ∧ w.cell? ⟨W.heap.size, 2, none⟩ = some (.int .i64 ts)) (first | exact ⟨d0, k2⟩ | assumption | (go_keep; done)) (first
    | (go_simp; go_at_call 63; refine (C2.out _ _).mono ?_; rintro e w2 ⟨rfl, rfl⟩)
    | (go_simp; go_at_call 96; refine (C3.out w1.drew (tr_drew HX1.out.tr)).mono ?_; clear C3; rintro e w3 ⟨x, S', A, B, fs', rfl, hT, hG, hAB, hlo, hhi, ti', hxT, hxp, hk⟩; have q0 := (World.cell?_of_block (a := ⟨a.q, 0, none⟩) (hG.block a.q (show a.q < w1.heap.size by omega) nqt nqn)).trans d0; have q2 := (World.cell?_of_block (a := ⟨W.heap.size, 2, none⟩) (hG.block W.heap.size hs1 (by omega) (by omega))).trans k2; have hs3 : w1.heap.size ≤ w3.heap.size := hG.size; have n5 : ¬ a.q = w3.heap.size := (by omega); have n6 : ¬ w3.heap.size = a.q := (by omega); have n7 : ¬ W.heap.size = w3.heap.size := (by omega); have n8 : ¬ w3.heap.size = W.heap.size := (by omega))
    | (go_simp; go_at_call 96; refine (C3.out (w1.drew.alloc (.cells #[.int .i64 0, .int .i64 0] 171)) (tr_alloc (tr_drew HX1.out.tr) _)).mono ?_; clear C3; rintro e w3 ⟨x, S', A, B, fs', rfl, hT, hG, hAB, hlo, hhi, ti', hxT, hxp, hk⟩; have hsa : (w1.drew.alloc (.cells #[.int .i64 0, .int .i64 0] 171)).heap.size = w1.heap.size + 1 := (by simp); have q0 := (World.cell?_of_block (a := ⟨a.q, 0, none⟩) ((hG.block a.q (by omega) nqt nqn).trans (Below.heap_alloc w1.drew _ a.q (show a.q < w1.heap.size by omega)))).trans d0; have q2 := (World.cell?_of_block (a := ⟨W.heap.size, 2, none⟩) ((hG.block W.heap.size (by omega) (by omega) (by omega)).trans (Below.heap_alloc w1.drew _ W.heap.size hs1))).trans k2; have hnp := (hG.block w1.heap.size (by omega) (by omega) (by omega)).trans (heap_alloc_new w1.drew (.cells #[.int .i64 0, .int .i64 0] 171)); obtain ⟨⟨p0, y0⟩, p1, y1⟩ := cells2 hnp)
    | fail)
  · have HF : Hid (AB a S' ps.length ps.length f1 f2 (.cells #[.int .i64 id, .int .i64 tc, .int .i64 ts, .int .i64 th, .bool tl] 31) W (w3.alloc (.cells #[.int .i64 x, .int .i64 (S'.N x).turn] 171)) ∧ (w3.alloc (.cells #[.int .i64 x, .int .i64 (S'.N x).turn] 171)).heap[w3.heap.size]? = some (.cells #[.int .i64 x, .int .i64 (S'.N x).turn] 171)) :=
      Lib.hid ⟨ab_below (ab_g2 (ab_drew HAB.out) HLT.out HNQ.out.1 HNQ.out.2 hG hT) HLT.out ((Below.refl _ w3).alloc (Nat.le_refl _) _), heap_alloc_new w3 _⟩
    have hs1' : W.heap.size < w3.heap.size := by omega
    obtain ⟨w4, hw4⟩ : ∃ w4, w3.alloc (.cells #[.int .i64 x, .int .i64 (S'.N x).turn] 171) = w4 := ⟨_, rfl⟩
    rw [hw4] at HF ⊢
    obtain ⟨g, hg⟩ : ∃ g, w3.heap.size = g := ⟨_, rfl⟩
    rw [hg] at HF hs1' ⊢
    have HQ := Lib.hid (And.intro hAB (And.intro hlo (And.intro hhi (And.intro ti' (And.intro hxT (And.intro hxp hk))))))
    clear hw4 hg hT hG hAB hlo hhi ti' hxT hxp hk
    have hlt4 := ab_lt HF.out.1
    have d1 := HF.out.1.d1
    have hn1 := HF.out.1.bw
    have hn2 := HF.out.2
    clear d0 d2 k0 z0 k1 z1 k2 z2 k3 z3 k4 z4 HN1 HX1 HB1 HAB
    obtain ⟨⟨k0, z0⟩, ⟨k1, z1⟩, ⟨k2, z2⟩, ⟨k3, z3⟩, k4, z4⟩ := cells5 hn1
    obtain ⟨⟨j0, y0⟩, j1, y1⟩ := cells2 hn2
    clear hn1 hn2
    go_wp2_with fail
    go_still_tail 9, (by kernel_rfl)
    change wpList _ _ _ _ _ w4.drew
    refine wpList_store_mv _ rfl _ _ _ 144 rfl keyed3 Tryz.underlying144 ki_inj (ab_drew HF.out.1).v1 id (⟨⟨id, tc, ts, th, tl⟩, x, (S'.N x).turn⟩ : Ent) HID.out hpl2 rfl rfl rfl ?_
    intro w5 m5 g5
    have HF5 := Lib.hid (ab_v1 (ab_drew HF.out.1) HLT.out HNQ.out.1 HNQ.out.2 g5 m5)
    have hg5 := (g5.block g (show g < w4.heap.size from (Array.getElem?_eq_some_iff.1 HF.out.2).1) (by omega) (by omega)).trans HF.out.2
    have HG5 := Lib.hid hg5
    have d2 := HF5.out.d2
    have hn1 := HF5.out.bw
    clear d1 k0 z0 k1 z1 k2 z2 k3 z3 k4 z4 j0 y0 j1 y1 hlt4 m5 g5 HF
    obtain ⟨⟨k0, z0⟩, ⟨k1, z1⟩, ⟨k2, z2⟩, ⟨k3, z3⟩, k4, z4⟩ := cells5 hn1
    obtain ⟨⟨j0, y0⟩, j1, y1⟩ := cells2 hg5
    clear hn1 hg5
    have HHK : Hid (∃ l, keyOf Tryz.prog 171 (kh ((x : Int), (S'.N x).turn)) = some l) := Lib.hid (kh_key (by have h1 := HQ.out.2.2.2.1.bd x (by simp); have h2 := HQ.out.2.2.2.1.mx; show _ ∧ _; omega) (HQ.out.2.2.2.1.tu x))
    obtain ⟨lk, hlk⟩ := HHK.out
    have HLK := Lib.hid hlk
    clear hlk HHK
    dsimp only
    rw [put_none]
    go_wp2_with fail
    go_still_tail 7, (by kernel_rfl)
    change wpList _ _ _ _ _ w5.drew
    refine wpList_store_mv _ rfl _ _ _ 145 rfl keyed171 Tryz.underlying145 kh_inj (ab_drew HF5.out).v2 ((x : Int), (S'.N x).turn) id HLK.out hpl2 rfl rfl rfl ?_
    intro w6 m6 g6
    have HF6 := Lib.hid (ab_v2 (ab_drew HF5.out) HLT.out HNQ.out.1 HNQ.out.2 g6 m6)
    clear d2 k0 z0 k1 z1 k2 z2 k3 z3 k4 z4 j0 y0 j1 y1 m6 g6 HF5 HG5
    dsimp only
    rw [put_none]
    go_wp2
    go_ret
    have hq6 := ab_lt HF6.out
    exact ⟨rfl, ⟨HF6.out.d0, HF6.out.d1, HF6.out.d2, by omega, HNQ.out.1, HNQ.out.2, _, _, _, _, _, _, HQA.out x S' A B fs' w6 HQ.out.1 HQ.out.2.1 HQ.out.2.2.1 HQ.out.2.2.2.1 HQ.out.2.2.2.2.1 HQ.out.2.2.2.2.2.1 HQ.out.2.2.2.2.2.2 HF6.out.tr HF6.out.v1 HF6.out.v2⟩, HF6.out.gf⟩
  · have hnp' := hnp
    have HF : Hid (AB a S' ps.length ps.length f1 f2 (.cells #[.int .i64 id, .int .i64 tc, .int .i64 ts, .int .i64 th, .bool tl] 31) W ((w3.setCell ⟨w1.heap.size, 0, none⟩ (.int .i64 x)).setCell ⟨w1.heap.size, 1, none⟩ (.int .i64 (S'.N x).turn)) ∧ ((w3.setCell ⟨w1.heap.size, 0, none⟩ (.int .i64 x)).setCell ⟨w1.heap.size, 1, none⟩ (.int .i64 (S'.N x).turn)).heap[w1.heap.size]? = some (.cells #[.int .i64 x, .int .i64 (S'.N x).turn] 171)) :=
      Lib.hid ⟨ab_set (ab_set (ab_g2 (ab_below (ab_drew HAB.out) HLT.out ((Below.refl _ w1.drew).alloc (Nat.le_refl _) (.cells #[.int .i64 0, .int .i64 0] 171))) HLT.out HNQ.out.1 HNQ.out.2 hG hT) HLT.out hs1 0 _) HLT.out hs1 1 _, set2 hnp _ _⟩
    obtain ⟨w4, hw4⟩ : ∃ w4, (w3.setCell ⟨w1.heap.size, 0, none⟩ (.int .i64 x)).setCell ⟨w1.heap.size, 1, none⟩ (.int .i64 (S'.N x).turn) = w4 := ⟨_, rfl⟩
    rw [hw4] at HF ⊢
    obtain ⟨g, hg⟩ : ∃ g, w1.heap.size = g := ⟨_, rfl⟩
    rw [hg] at HF hs1 ⊢
    have HQ := Lib.hid (And.intro hAB (And.intro hlo (And.intro hhi (And.intro ti' (And.intro hxT (And.intro hxp hk))))))
    clear hnp hnp' hw4 hg hT hG hAB hlo hhi ti' hxT hxp hk
    have hlt4 := ab_lt HF.out.1
    have d1 := HF.out.1.d1
    have hn1 := HF.out.1.bw
    have hn2 := HF.out.2
    clear d0 d2 k0 z0 k1 z1 k2 z2 k3 z3 k4 z4 HN1 HX1 HB1 HAB
    obtain ⟨⟨k0, z0⟩, ⟨k1, z1⟩, ⟨k2, z2⟩, ⟨k3, z3⟩, k4, z4⟩ := cells5 hn1
    obtain ⟨⟨j0, y0⟩, j1, y1⟩ := cells2 hn2
    clear hn1 hn2
    go_wp2_with fail
    go_still_tail 9, (by kernel_rfl)
    change wpList _ _ _ _ _ w4.drew
    refine wpList_store_mv _ rfl _ _ _ 144 rfl keyed3 Tryz.underlying144 ki_inj (ab_drew HF.out.1).v1 id (⟨⟨id, tc, ts, th, tl⟩, x, (S'.N x).turn⟩ : Ent) HID.out hpl2 rfl rfl rfl ?_
    intro w5 m5 g5
    have HF5 := Lib.hid (ab_v1 (ab_drew HF.out.1) HLT.out HNQ.out.1 HNQ.out.2 g5 m5)
    have hg5 := (g5.block g (show g < w4.heap.size from (Array.getElem?_eq_some_iff.1 HF.out.2).1) (by omega) (by omega)).trans HF.out.2
    have HG5 := Lib.hid hg5
    have d2 := HF5.out.d2
    have hn1 := HF5.out.bw
    clear d1 k0 z0 k1 z1 k2 z2 k3 z3 k4 z4 j0 y0 j1 y1 hlt4 m5 g5 HF
    obtain ⟨⟨k0, z0⟩, ⟨k1, z1⟩, ⟨k2, z2⟩, ⟨k3, z3⟩, k4, z4⟩ := cells5 hn1
    obtain ⟨⟨j0, y0⟩, j1, y1⟩ := cells2 hg5
    clear hn1 hg5
    have HHK : Hid (∃ l, keyOf Tryz.prog 171 (kh ((x : Int), (S'.N x).turn)) = some l) := Lib.hid (kh_key (by have h1 := HQ.out.2.2.2.1.bd x (by simp); have h2 := HQ.out.2.2.2.1.mx; show _ ∧ _; omega) (HQ.out.2.2.2.1.tu x))
    obtain ⟨lk, hlk⟩ := HHK.out
    have HLK := Lib.hid hlk
    clear hlk HHK
    dsimp only
    rw [put_none]
    go_wp2_with fail
    go_still_tail 7, (by kernel_rfl)
    change wpList _ _ _ _ _ w5.drew
    refine wpList_store_mv _ rfl _ _ _ 145 rfl keyed171 Tryz.underlying145 kh_inj (ab_drew HF5.out).v2 ((x : Int), (S'.N x).turn) id HLK.out hpl2 rfl rfl rfl ?_
    intro w6 m6 g6
    have HF6 := Lib.hid (ab_v2 (ab_drew HF5.out) HLT.out HNQ.out.1 HNQ.out.2 g6 m6)
    clear d2 k0 z0 k1 z1 k2 z2 k3 z3 k4 z4 j0 y0 j1 y1 m6 g6 HF5 HG5
    dsimp only
    rw [put_none]
    go_wp2
    go_ret
    have hq6 := ab_lt HF6.out
    exact ⟨rfl, ⟨HF6.out.d0, HF6.out.d1, HF6.out.d2, by omega, HNQ.out.1, HNQ.out.2, _, _, _, _, _, _, HQA.out x S' A B fs' w6 HQ.out.1 HQ.out.2.1 HQ.out.2.2.1 HQ.out.2.2.2.1 HQ.out.2.2.2.2.1 HQ.out.2.2.2.2.2.1 HQ.out.2.2.2.2.2.2 HF6.out.tr HF6.out.v1 HF6.out.v2⟩, HF6.out.gf⟩
  · have hnp' := hnp
    have HF : Hid (AB a S' ps.length ps.length f1 f2 (.cells #[.int .i64 id, .int .i64 tc, .int .i64 ts, .int .i64 th, .bool tl] 31) W ((w3.setCell ⟨w1.heap.size, 0, none⟩ (.int .i64 x)).setCell ⟨w1.heap.size, 1, none⟩ (.int .i64 (S'.N x).turn)) ∧ ((w3.setCell ⟨w1.heap.size, 0, none⟩ (.int .i64 x)).setCell ⟨w1.heap.size, 1, none⟩ (.int .i64 (S'.N x).turn)).heap[w1.heap.size]? = some (.cells #[.int .i64 x, .int .i64 (S'.N x).turn] 171)) :=
      Lib.hid ⟨ab_set (ab_set (ab_g2 (ab_below (ab_drew HAB.out) HLT.out ((Below.refl _ w1.drew).alloc (Nat.le_refl _) (.cells #[.int .i64 0, .int .i64 0] 171))) HLT.out HNQ.out.1 HNQ.out.2 hG hT) HLT.out hs1 0 _) HLT.out hs1 1 _, set2 hnp _ _⟩
    obtain ⟨w4, hw4⟩ : ∃ w4, (w3.setCell ⟨w1.heap.size, 0, none⟩ (.int .i64 x)).setCell ⟨w1.heap.size, 1, none⟩ (.int .i64 (S'.N x).turn) = w4 := ⟨_, rfl⟩
    rw [hw4] at HF ⊢
    obtain ⟨g, hg⟩ : ∃ g, w1.heap.size = g := ⟨_, rfl⟩
    rw [hg] at HF hs1 ⊢
    have HQ := Lib.hid (And.intro hAB (And.intro hlo (And.intro hhi (And.intro ti' (And.intro hxT (And.intro hxp hk))))))
    clear hnp hnp' hw4 hg hT hG hAB hlo hhi ti' hxT hxp hk
    have hlt4 := ab_lt HF.out.1
    have d1 := HF.out.1.d1
    have hn1 := HF.out.1.bw
    have hn2 := HF.out.2
    clear d0 d2 k0 z0 k1 z1 k2 z2 k3 z3 k4 z4 HN1 HX1 HB1 HAB
    obtain ⟨⟨k0, z0⟩, ⟨k1, z1⟩, ⟨k2, z2⟩, ⟨k3, z3⟩, k4, z4⟩ := cells5 hn1
    obtain ⟨⟨j0, y0⟩, j1, y1⟩ := cells2 hn2
    clear hn1 hn2
    go_wp2_with fail
    go_still_tail 9, (by kernel_rfl)
    change wpList _ _ _ _ _ w4.drew
    refine wpList_store_mv _ rfl _ _ _ 144 rfl keyed3 Tryz.underlying144 ki_inj (ab_drew HF.out.1).v1 id (⟨⟨id, tc, ts, th, tl⟩, x, (S'.N x).turn⟩ : Ent) HID.out hpl2 rfl rfl rfl ?_
    intro w5 m5 g5
    have HF5 := Lib.hid (ab_v1 (ab_drew HF.out.1) HLT.out HNQ.out.1 HNQ.out.2 g5 m5)
    have hg5 := (g5.block g (show g < w4.heap.size from (Array.getElem?_eq_some_iff.1 HF.out.2).1) (by omega) (by omega)).trans HF.out.2
    have HG5 := Lib.hid hg5
    have d2 := HF5.out.d2
    have hn1 := HF5.out.bw
    clear d1 k0 z0 k1 z1 k2 z2 k3 z3 k4 z4 j0 y0 j1 y1 hlt4 m5 g5 HF
    obtain ⟨⟨k0, z0⟩, ⟨k1, z1⟩, ⟨k2, z2⟩, ⟨k3, z3⟩, k4, z4⟩ := cells5 hn1
    obtain ⟨⟨j0, y0⟩, j1, y1⟩ := cells2 hg5
    clear hn1 hg5
    have HHK : Hid (∃ l, keyOf Tryz.prog 171 (kh ((x : Int), (S'.N x).turn)) = some l) := Lib.hid (kh_key (by have h1 := HQ.out.2.2.2.1.bd x (by simp); have h2 := HQ.out.2.2.2.1.mx; show _ ∧ _; omega) (HQ.out.2.2.2.1.tu x))
    obtain ⟨lk, hlk⟩ := HHK.out
    have HLK := Lib.hid hlk
    clear hlk HHK
    dsimp only
    rw [put_none]
    go_wp2_with fail
    go_still_tail 7, (by kernel_rfl)
    change wpList _ _ _ _ _ w5.drew
    refine wpList_store_mv _ rfl _ _ _ 145 rfl keyed171 Tryz.underlying145 kh_inj (ab_drew HF5.out).v2 ((x : Int), (S'.N x).turn) id HLK.out hpl2 rfl rfl rfl ?_
    intro w6 m6 g6
    have HF6 := Lib.hid (ab_v2 (ab_drew HF5.out) HLT.out HNQ.out.1 HNQ.out.2 g6 m6)
    clear d2 k0 z0 k1 z1 k2 z2 k3 z3 k4 z4 j0 y0 j1 y1 m6 g6 HF5 HG5
    dsimp only
    rw [put_none]
    go_wp2
    go_ret
    have hq6 := ab_lt HF6.out
    exact ⟨rfl, ⟨HF6.out.d0, HF6.out.d1, HF6.out.d2, by omega, HNQ.out.1, HNQ.out.2, _, _, _, _, _, _, HQA.out x S' A B fs' w6 HQ.out.1 HQ.out.2.1 HQ.out.2.2.1 HQ.out.2.2.2.1 HQ.out.2.2.2.2.1 HQ.out.2.2.2.2.2.1 HQ.out.2.2.2.2.2.2 HF6.out.tr HF6.out.v1 HF6.out.v2⟩, HF6.out.gf⟩
end Go.Proofs.YtlcaepcojglbiaaGreatDoor.Tp
