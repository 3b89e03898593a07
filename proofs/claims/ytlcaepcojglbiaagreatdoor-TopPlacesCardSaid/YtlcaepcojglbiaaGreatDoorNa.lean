/- The users: sleeps and steps: a part of the walk of the whole machine. For all states that the readings allow. -/
import Derived.Deep.RegionHeld3
import Derived.Carry
import Derived.Test.YtlcaepcojglbiaaGreatDoorMz
namespace Go.Proofs.YtlcaepcojglbiaaGreatDoor.Tp
open Go.RowKit Go.Maps
set_option linter.unusedVariables false
set_option linter.unusedSimpArgs false
def zSleep (z : Array Value) : Array Value := ((((z.set! 36 (.int .i64 9)).set! 37 (.int .i64 2)).set! 38 (.int .i64 2)).set! 39 (.bool true)).set! 137 (.bool true)
section
variable {A : EA} {E : En} {M : GM} {sb zb : Nat} {z : Array Value}
/-- Only a block of no one's has changed. -/
theorem ur_r {W W' : World} {r : Nat} (h : UR A E sb zb z W) (h1 : sb ≠ r) (h2 : zb ≠ r) (h3 : ¬ A.has E.n r) (hs : W.heap.size ≤ W'.heap.size) (hb : ∀ x, x ≠ r → W'.heap[x]? = W.heap[x]?) : UR A E sb zb z W' := by
  obtain ⟨cs, hc, hcs⟩ := h.s
  exact ⟨er_same h.er hs fun x hx => hb x fun e => h3 (e ▸ hx), ⟨cs, (hb sb h1).trans hc, hcs⟩, (hb zb h2).trans h.z, h.ns, h.nz, h.ne⟩
set_option maxRecDepth 100000 in
set_option maxHeartbeats 8000000 in
theorem sleep9_at (W : World) (h : UR A E sb zb z W) (hE : EI E M) (hM : M 9 = none) (hg : E.K.gen < 1000000) (hon : onl E.on 16 = [0]) (hwn : E.wn < 64) (ht2 : E.K.tm 2 = 0) (hs : z.size = 160) (ha : z[137]? = some (.bool false)) (ha9 : (zSleep z)[137]? = some (.bool true)) (hl9 : L9 (zSleep z)) :
    Calls Tryz.prog 13 #[ptr sb, .int .i64 9, .int .i64 2, .agg #[.int .i64 0, .int .i64 2], .bool false] W fun e W' => e = .returned (.int .i64 0) ∧ UR A E.put9 sb zb (zSleep z) W' ∧ EI E.put9 (Mput9 M) ∧ GF (fun x => A.has E.n x ∨ x = zb) W W' := by
  obtain ⟨t0, h0⟩ : ∃ t, E.K.tm 0 = t := ⟨_, rfl⟩
  obtain ⟨t1, h1⟩ : ∃ t, E.K.tm 1 = t := ⟨_, rfl⟩
  have C1 : Hid (∀ (z : Array Value) w, UR A E sb zb z w → Calls Tryz.prog 35 #[ptr sb] w fun e w' => e = .returned (.agg #[.int .i64 t0, .int .i64 t1, .int .i64 0]) ∧ Below w.heap.size w w') := Lib.hid fun z w hw => by
    have := utimes_at w hw hE.ck
    unfold offv at this
    rw [h0, h1, ht2] at this
    exact this
  have C2 : Hid (∀ w, UR A E sb zb z w → Calls Tryz.prog 34 #[ptr zb, .int .i64 9, .int .i64 2, .agg #[.int .i64 0, .int .i64 2], .bool false, .agg #[.int .i64 t0, .int .i64 t1, .int .i64 0]] w fun e w' => e = .returned (.tuple #[.agg #[.int .i64 9, .int .i64 2, .int .i64 2, .bool true], .int .i64 0]) ∧ UR A E sb zb (zSleep z) w' ∧ GF (fun x => A.has E.n x ∨ x = zb) w w' ∧ (∀ x, x < w.heap.size → x ≠ zb → w'.heap[x]? = w.heap[x]?)) := Lib.hid fun w hw => (sstart9_at (t0 := t0) (t1 := t1) w hw.z hs ha).mono fun e w' hh => ⟨hh.1, ur_z hw hh.2.2 hh.2.1, gf_mono hh.2.2 fun x e => .inr e, fun x h1 h2 => hh.2.2.block x h1 h2⟩
  have C3 : Hid (∀ w, UR A E sb zb (zSleep z) w → Calls Tryz.prog 36 #[ptr zb, .int .i64 9, .agg #[.int .i64 t0, .int .i64 t1, .int .i64 0]] w fun e w' => e = .returned (.int .i64 8) ∧ Below w.heap.size w w') := Lib.hid fun w hw => wake9_no w hw.z ha9 hl9
  have C4 : Hid (∀ w, UR A E sb zb (zSleep z) w → Calls Tryz.prog 37 #[ptr sb, .int .i64 9, .int .i64 2, .int .i64 2, .int .i64 0, .bool false] w fun e w' => e = .returned (.tuple #[]) ∧ UR A E.put9 sb zb (zSleep z) w' ∧ EI E.put9 (Mput9 M) ∧ GF (fun x => A.has E.n x ∨ x = zb) w w' ∧ (∀ x, x < w.heap.size → ¬ A.has E.n x → w'.heap[x]? = w.heap[x]?)) := Lib.hid fun w hw => (put9_at w hw hE hM hg hon hwn).mono fun e w' hh => ⟨hh.1, hh.2.1, hh.2.2.1, gf_mono hh.2.2.2 fun x e => .inl e, fun x h1 h2 => hh.2.2.2.block x h1 h2⟩
  have HS := Lib.hid (fun E' (z : Array Value) w (hw : UR A E' sb zb z w) => ur_cells hw)
  have HL := Lib.hid (ur_lt h)
  have HLA := Lib.hid (er_lt h.er)
  have HB0 : Hid (Below W.heap.size W (W.alloc (.cells #[.int .i64 0, .int .i64 2] 55))) := Lib.hid ((Below.refl _ _).alloc (Nat.le_refl _) _)
  have H1 := Lib.hid (ur_below h HB0.out)
  have hn := heap_alloc_new W (.cells #[.int .i64 0, .int .i64 2] 55)
  have hsz : (W.alloc (.cells #[.int .i64 0, .int .i64 2] 55)).heap.size = W.heap.size + 1 := by simp
  clear h hE hM hg hon hwn ht2 hs ha ha9 hl9 h0 h1
  go_enter Tryz.func13, Tryz.ntmps13
  go_wp2_with fail
  obtain ⟨W1, hW1⟩ : ∃ W1, W.alloc (.cells #[.int .i64 0, .int .i64 2] 55) = W1 := ⟨_, rfl⟩
  rw [hW1] at HB0 H1 hn hsz ⊢
  obtain ⟨b, hb⟩ : ∃ b, W.heap.size = b := ⟨_, rfl⟩
  have HBW := Lib.hid hb
  rw [hb] at hn hsz ⊢
  have hbz : b ≠ zb := by have := HL.out.2; omega
  have hbl : b < W1.heap.size := by omega
  have HN := Lib.hid hn
  have HU1 := Lib.hid (ur_drew H1.out)
  obtain ⟨-, -, s2⟩ := HS.out _ _ _ H1.out
  obtain ⟨⟨b0, -⟩, b1, -⟩ := cells2 hn
  clear hW1 hb hn hsz
  have HU1b : Hid (UR A E sb zb z (W1.alloc (.cells #[.int .i64 0, .int .i64 0, .int .i64 0, .bool false] 91)).drew ∧ (W1.alloc (.cells #[.int .i64 0, .int .i64 0, .int .i64 0, .bool false] 91)).drew.heap[b]? = W1.heap[b]? ∧ (W1.alloc (.cells #[.int .i64 0, .int .i64 0, .int .i64 0, .bool false] 91)).drew.heap[W1.heap.size]? = some (.cells #[.int .i64 0, .int .i64 0, .int .i64 0, .bool false] 91) ∧ (W1.alloc (.cells #[.int .i64 0, .int .i64 0, .int .i64 0, .bool false] 91)).drew.heap.size = W1.heap.size + 1) := Lib.hid ⟨ur_drew (ur_below H1.out ((Below.refl _ _).alloc (Nat.le_refl _) _)), Below.heap_alloc W1 _ b hbl, heap_alloc_new W1 _, by show (W1.alloc (.cells #[.int .i64 0, .int .i64 0, .int .i64 0, .bool false] 91)).heap.size = _; simp⟩
  have hsb : sb < b := by have := HL.out.1; have := HBW.out; omega
  have nA1 : ¬ sb = W1.heap.size := by omega
  have nA2 : ¬ W1.heap.size = sb := by omega
  have nA3 : ¬ b = W1.heap.size := by omega
  have nA4 : ¬ W1.heap.size = b := by omega
  have HZl := Lib.hid (show zb < W1.heap.size from (ur_lt H1.out).2)
  go_region_held3 (fun w => w.cell? ⟨sb, 2, none⟩ = some (ptr zb) ∧ w.cell? ⟨b, 0, none⟩ = some (.int .i64 0) ∧ w.cell? ⟨b, 1, none⟩ = some (.int .i64 2)) (first | (with_reducible exact ⟨s2, b0, b1⟩) | (with_reducible exact ⟨r2, c0, c1⟩) | (with_reducible exact ⟨q2, d0, d1⟩) | (go_keep; done)) (first
    | (go_simp; go_at_call 35; (with_reducible refine (C1.out _ _ HU1.out).mono ?_); rintro e w2 ⟨rfl, hB⟩; have hn2 := (hB.block b hbl).trans HN.out; have HU2 := Lib.hid (ur_below HU1.out hB); obtain ⟨⟨c0, -⟩, c1, -⟩ := cells2 hn2; obtain ⟨-, -, r2⟩ := HS.out _ _ _ HU2.out; have hbl2 : b < w2.heap.size := (Nat.lt_of_lt_of_le hbl hB.size); have HU2b : Hid (UR A E sb zb z (w2.alloc (.cells #[.int .i64 0, .int .i64 0, .int .i64 0, .bool false] 91)) ∧ (w2.alloc (.cells #[.int .i64 0, .int .i64 0, .int .i64 0, .bool false] 91)).heap[b]? = w2.heap[b]? ∧ (w2.alloc (.cells #[.int .i64 0, .int .i64 0, .int .i64 0, .bool false] 91)).heap[w2.heap.size]? = some (.cells #[.int .i64 0, .int .i64 0, .int .i64 0, .bool false] 91) ∧ (w2.alloc (.cells #[.int .i64 0, .int .i64 0, .int .i64 0, .bool false] 91)).heap.size = w2.heap.size + 1) := Lib.hid ⟨ur_below HU2.out ((Below.refl _ _).alloc (Nat.le_refl _) _), Below.heap_alloc w2 _ b hbl2, heap_alloc_new w2 _, by simp⟩; have nB1 : ¬ sb = w2.heap.size := (by omega); have nB2 : ¬ w2.heap.size = sb := (by omega); have nB3 : ¬ b = w2.heap.size := (by omega); have nB4 : ¬ w2.heap.size = b := (by omega); have HB2 := Lib.hid (And.intro hB (Nat.lt_of_lt_of_le HZl.out hB.size)); have HN2 := Lib.hid hn2; have tokA : True := trivial; clear hB hn2)
    | (go_simp; go_at_call 35; (with_reducible refine (C1.out _ _ HU1b.out.1).mono ?_); rintro e w2 ⟨rfl, hB⟩; have hn2 := (hB.block b (by rw [HU1b.out.2.2.2]; omega)).trans (HU1b.out.2.1.trans HN.out); have hn2x := (hB.block W1.heap.size (by rw [HU1b.out.2.2.2]; omega)).trans HU1b.out.2.2.1; have HU2 := Lib.hid (ur_below HU1b.out.1 hB); obtain ⟨⟨c0, -⟩, c1, -⟩ := cells2 hn2; obtain ⟨-, -, r2⟩ := HS.out _ _ _ HU2.out; have hszb := hB.size; rw [HU1b.out.2.2.2] at hszb; have hbl2 : b < w2.heap.size := (by omega); have HB2 := Lib.hid (And.intro hB hszb); have HN2 := Lib.hid hn2; have HX2 := Lib.hid hn2x; have tokB : True := trivial; clear hB hn2 hn2x hszb)
    | (go_simp; go_at_call 34; have _t := tokA; (with_reducible refine (C2.out _ HU2.out).mono ?_); clear C2; rintro e w3 ⟨rfl, hu, hgf, hblk⟩; have hn3 := (hblk b hbl2 hbz).trans HN2.out; have HU3 := Lib.hid hu; obtain ⟨⟨d0, -⟩, d1, -⟩ := cells2 hn3; obtain ⟨-, -, q2⟩ := HS.out _ _ _ hu; have HG3 := Lib.hid hgf; clear hu hgf hblk hn3)
    | (go_simp; go_at_call 34; have _t := tokA; (with_reducible refine (C2.out _ HU2b.out.1).mono ?_); clear C2; rintro e w3 ⟨rfl, hu, hgf, hblk⟩; have hn3 := (hblk b (by rw [HU2b.out.2.2.2]; omega) hbz).trans (HU2b.out.2.1.trans HN2.out); have hnx := (hblk w2.heap.size (by rw [HU2b.out.2.2.2]; omega) (by have := HB2.out.2; omega)).trans HU2b.out.2.2.1; have HU3 := Lib.hid hu; obtain ⟨⟨d0, -⟩, d1, -⟩ := cells2 hn3; obtain ⟨⟨x0, x0f⟩, ⟨x1, x1f⟩, ⟨x2, x2f⟩, x3, x3f⟩ := cells4 hnx; obtain ⟨-, -, q2⟩ := HS.out _ _ _ hu; have HG3 := Lib.hid hgf; have HNX := Lib.hid hnx; clear hu hgf hblk hn3 hnx)
    | (go_simp; go_at_call 34; have _t := tokB; (with_reducible refine (C2.out _ HU2.out).mono ?_); clear C2; rintro e w3 ⟨rfl, hu, hgf, hblk⟩; have hn3 := (hblk b hbl2 hbz).trans HN2.out; have hnx := (hblk W1.heap.size (by have := HB2.out.2; omega) (by have := HZl.out; omega)).trans HX2.out; have HU3 := Lib.hid hu; obtain ⟨⟨d0, -⟩, d1, -⟩ := cells2 hn3; obtain ⟨⟨x0, x0f⟩, ⟨x1, x1f⟩, ⟨x2, x2f⟩, x3, x3f⟩ := cells4 hnx; obtain ⟨-, -, q2⟩ := HS.out _ _ _ hu; have HG3 := Lib.hid hgf; have HNX := Lib.hid hnx; clear hu hgf hblk hn3 hnx)
    | fail)
  · have PK : Hid (UR A E sb zb (zSleep z) (w3.alloc (.cells #[.int .i64 9, .int .i64 2, .int .i64 2, .bool true] 91)) ∧ (w3.alloc (.cells #[.int .i64 9, .int .i64 2, .int .i64 2, .bool true] 91)).heap[w3.heap.size]? = some (.cells #[.int .i64 9, .int .i64 2, .int .i64 2, .bool true] 91) ∧ GF (fun x => A.has E.n x ∨ x = zb) W (w3.alloc (.cells #[.int .i64 9, .int .i64 2, .int .i64 2, .bool true] 91)) ∧ W.heap.size ≤ w3.heap.size) := Lib.hid ⟨ur_below HU3.out ((Below.refl _ _).alloc (Nat.le_refl _) _), heap_alloc_new w3 _, gf_alloc (gf_trans (gf_trans (gf_drew (gf_below HB0.out)) (gf_below HB2.out.1)) HG3.out) _, by have h1 := HB0.out.size; have h2 := HB2.out.1.size; have h3 := HG3.out.size; exact Nat.le_trans h1 (Nat.le_trans h2 h3)⟩
    obtain ⟨W4, hW4⟩ : ∃ W4, w3.alloc (.cells #[.int .i64 9, .int .i64 2, .int .i64 2, .bool true] 91) = W4 := ⟨_, rfl⟩
    obtain ⟨r, hr⟩ : ∃ r, w3.heap.size = r := ⟨_, rfl⟩
    rw [hW4, hr] at PK
    rw [hW4, hr]
    clear hW4 hr
    have HZ := HLA
    have hn4 := PK.out.2.1
    have HR : Hid (¬ A.has E.n r ∧ r ≠ zb) := Lib.hid ⟨fun e => by have := HLA.out r e; have := PK.out.2.2.2; omega, fun e => by have := HL.out.2; have := PK.out.2.2.2; omega⟩
    obtain ⟨-, -, k2⟩ := HS.out _ _ _ PK.out.1
    have hrl := (Array.getElem?_eq_some_iff.1 hn4).1
    have HU4 := Lib.hid (ur_drew PK.out.1)
    clear hn4 HB0 H1 HBW hbl HN HU1 s2 b0 b1 HU1b nA1 nA2 nA3 nA4 HZl HU2 c0 c1 r2 hbl2 HU2b nB1 nB2 nB3 nB4 HB2 HN2 HU3 d0 d1 q2 HG3
    go_wp2_with fail
    go_region_held3 (fun w => w.cell? ⟨sb, 2, none⟩ = some (ptr zb)) (first | (with_reducible exact k2) | (with_reducible exact l2) | (with_reducible exact l3) | (go_keep; done)) (first
      | (go_simp; go_at_call 35; (with_reducible refine (C1.out _ _ HU4.out).mono ?_); rintro e w5 ⟨rfl, hB⟩; have HU5 := Lib.hid (ur_below HU4.out hB); obtain ⟨-, -, l2⟩ := HS.out _ _ _ HU5.out; have HN5 := Lib.hid ((hB.block r hrl).trans PK.out.2.1); have HG5 := Lib.hid (gf_trans (gf_drew PK.out.2.2.1) (gf_below hB)); clear hB)
      | (go_simp; go_at_call 36; (with_reducible refine (C3.out _ HU5.out).mono ?_); rintro e w6 ⟨rfl, hB⟩; have HU6 := Lib.hid (ur_below HU5.out hB); obtain ⟨-, -, l3⟩ := HS.out _ _ _ HU6.out; have hn6 := (hB.block r (Array.getElem?_eq_some_iff.1 HN5.out).1).trans HN5.out; have HN6 := Lib.hid hn6; have HG6 := Lib.hid (gf_trans HG5.out (gf_below hB)); clear hB hn6)
      | fail)
    clear k2 l2 l3
    obtain ⟨-, m1, -⟩ := HS.out _ _ _ HU6.out
    obtain ⟨-, ⟨o1, -⟩, ⟨o2, -⟩, -⟩ := cells4 HN6.out
    have HU7 := Lib.hid (ur_drew HU6.out)
    have hrl6 := (Array.getElem?_eq_some_iff.1 HN6.out).1
    go_wp2_with fail
    go_region_held3 (fun w => w.cell? ⟨sb, 1, none⟩ = some (.int .i64 1) ∧ w.cell? ⟨r, 1, none⟩ = some (.int .i64 2) ∧ w.cell? ⟨r, 2, none⟩ = some (.int .i64 2)) (first | (with_reducible exact ⟨m1, o1, o2⟩) | (with_reducible exact ⟨y1, y2, y3⟩) | (go_keep; done)) (first
      | (go_simp; go_at_call 37; (with_reducible refine (C4.out _ HU7.out).mono ?_); rintro e w8 ⟨rfl, hu, he, hgf, hblk⟩; obtain ⟨-, y1, -⟩ := HS.out _ _ _ hu; have hn8 := (hblk r hrl6 HR.out.1).trans HN6.out; obtain ⟨-, ⟨y2, -⟩, ⟨y3, -⟩, -⟩ := cells4 hn8; have HH := Lib.hid (And.intro hu (And.intro he (gf_trans (gf_drew HG6.out) hgf))); clear hu he hgf hblk hn8)
      | fail)
    go_wp2_with fail
    go_ret
    exact ⟨rfl, HH.out⟩
  · have PK : Hid (UR A E sb zb (zSleep z) (((((w3.setCell ⟨w2.heap.size, 0, none⟩ (.int .i64 9)).setCell ⟨w2.heap.size, 1, none⟩ (.int .i64 2)).setCell ⟨w2.heap.size, 2, none⟩ (.int .i64 2)).setCell ⟨w2.heap.size, 3, none⟩ (.bool true))) ∧ (((((w3.setCell ⟨w2.heap.size, 0, none⟩ (.int .i64 9)).setCell ⟨w2.heap.size, 1, none⟩ (.int .i64 2)).setCell ⟨w2.heap.size, 2, none⟩ (.int .i64 2)).setCell ⟨w2.heap.size, 3, none⟩ (.bool true))).heap[w2.heap.size]? = some (.cells #[.int .i64 9, .int .i64 2, .int .i64 2, .bool true] 91) ∧ GF (fun x => A.has E.n x ∨ x = zb) W (((((w3.setCell ⟨w2.heap.size, 0, none⟩ (.int .i64 9)).setCell ⟨w2.heap.size, 1, none⟩ (.int .i64 2)).setCell ⟨w2.heap.size, 2, none⟩ (.int .i64 2)).setCell ⟨w2.heap.size, 3, none⟩ (.bool true))) ∧ W.heap.size ≤ w2.heap.size) := Lib.hid (by
      have h1 := HB0.out.size
      have h2 : W1.heap.size ≤ w2.heap.size := HB2.out.1.size
      have h3 := HL.out
      refine ⟨ur_r HU3.out (r := w2.heap.size) (by omega) (by omega) (fun e => by have := HLA.out _ e; omega) (by simp only [size_set]; exact Nat.le_refl _) fun x hx => (Below.heap_setCell _ _ _ _ hx).trans ((Below.heap_setCell _ _ _ _ hx).trans ((Below.heap_setCell _ _ _ _ hx).trans (Below.heap_setCell _ _ _ _ hx))), heap_setCell_same _ _ 3 _ 91 _ (heap_setCell_same _ _ 2 _ 91 _ (heap_setCell_same _ _ 1 _ 91 _ (heap_setCell_same _ _ 0 _ 91 _ HNX.out))), ?_, by omega⟩
      have g0 : GF (fun x => A.has E.n x ∨ x = zb) W w3 := gf_trans (gf_alloc (gf_trans (gf_drew (gf_below HB0.out)) (gf_below HB2.out.1)) _) HG3.out
      exact gf_set (gf_set (gf_set (gf_set g0 (.inr (by show W.heap.size ≤ w2.heap.size; omega)) _) (.inr (by show W.heap.size ≤ w2.heap.size; omega)) _) (.inr (by show W.heap.size ≤ w2.heap.size; omega)) _) (.inr (by show W.heap.size ≤ w2.heap.size; omega)) _)
    obtain ⟨W4, hW4⟩ : ∃ W4, ((((w3.setCell ⟨w2.heap.size, 0, none⟩ (.int .i64 9)).setCell ⟨w2.heap.size, 1, none⟩ (.int .i64 2)).setCell ⟨w2.heap.size, 2, none⟩ (.int .i64 2)).setCell ⟨w2.heap.size, 3, none⟩ (.bool true)) = W4 := ⟨_, rfl⟩
    obtain ⟨r, hr⟩ : ∃ r, w2.heap.size = r := ⟨_, rfl⟩
    rw [hW4, hr] at PK
    rw [hW4, hr]
    clear hW4 hr
    have HZ := HLA
    have hn4 := PK.out.2.1
    have HR : Hid (¬ A.has E.n r ∧ r ≠ zb) := Lib.hid ⟨fun e => by have := HLA.out r e; have := PK.out.2.2.2; omega, fun e => by have := HL.out.2; have := PK.out.2.2.2; omega⟩
    obtain ⟨-, -, k2⟩ := HS.out _ _ _ PK.out.1
    have hrl := (Array.getElem?_eq_some_iff.1 hn4).1
    have HU4 := Lib.hid (ur_drew PK.out.1)
    clear hn4 HB0 H1 HBW hbl HN HU1 s2 b0 b1 HU1b nA1 nA2 nA3 nA4 HZl HU2 c0 c1 r2 hbl2 HU2b nB1 nB2 nB3 nB4 HB2 HN2 HU3 d0 d1 q2 HG3 x0 x0f x1 x1f x2 x2f x3 x3f HNX
    go_wp2_with fail
    go_region_held3 (fun w => w.cell? ⟨sb, 2, none⟩ = some (ptr zb)) (first | (with_reducible exact k2) | (with_reducible exact l2) | (with_reducible exact l3) | (go_keep; done)) (first
      | (go_simp; go_at_call 35; (with_reducible refine (C1.out _ _ HU4.out).mono ?_); rintro e w5 ⟨rfl, hB⟩; have HU5 := Lib.hid (ur_below HU4.out hB); obtain ⟨-, -, l2⟩ := HS.out _ _ _ HU5.out; have HN5 := Lib.hid ((hB.block r hrl).trans PK.out.2.1); have HG5 := Lib.hid (gf_trans (gf_drew PK.out.2.2.1) (gf_below hB)); clear hB)
      | (go_simp; go_at_call 36; (with_reducible refine (C3.out _ HU5.out).mono ?_); rintro e w6 ⟨rfl, hB⟩; have HU6 := Lib.hid (ur_below HU5.out hB); obtain ⟨-, -, l3⟩ := HS.out _ _ _ HU6.out; have hn6 := (hB.block r (Array.getElem?_eq_some_iff.1 HN5.out).1).trans HN5.out; have HN6 := Lib.hid hn6; have HG6 := Lib.hid (gf_trans HG5.out (gf_below hB)); clear hB hn6)
      | fail)
    clear k2 l2 l3
    obtain ⟨-, m1, -⟩ := HS.out _ _ _ HU6.out
    obtain ⟨-, ⟨o1, -⟩, ⟨o2, -⟩, -⟩ := cells4 HN6.out
    have HU7 := Lib.hid (ur_drew HU6.out)
    have hrl6 := (Array.getElem?_eq_some_iff.1 HN6.out).1
    go_wp2_with fail
    go_region_held3 (fun w => w.cell? ⟨sb, 1, none⟩ = some (.int .i64 1) ∧ w.cell? ⟨r, 1, none⟩ = some (.int .i64 2) ∧ w.cell? ⟨r, 2, none⟩ = some (.int .i64 2)) (first | (with_reducible exact ⟨m1, o1, o2⟩) | (with_reducible exact ⟨y1, y2, y3⟩) | (go_keep; done)) (first
      | (go_simp; go_at_call 37; (with_reducible refine (C4.out _ HU7.out).mono ?_); rintro e w8 ⟨rfl, hu, he, hgf, hblk⟩; obtain ⟨-, y1, -⟩ := HS.out _ _ _ hu; have hn8 := (hblk r hrl6 HR.out.1).trans HN6.out; obtain ⟨-, ⟨y2, -⟩, ⟨y3, -⟩, -⟩ := cells4 hn8; have HH := Lib.hid (And.intro hu (And.intro he (gf_trans (gf_drew HG6.out) hgf))); clear hu he hgf hblk hn8)
      | fail)
    go_wp2_with fail
    go_ret
    exact ⟨rfl, HH.out⟩
  · have PK : Hid (UR A E sb zb (zSleep z) (((((w3.setCell ⟨W1.heap.size, 0, none⟩ (.int .i64 9)).setCell ⟨W1.heap.size, 1, none⟩ (.int .i64 2)).setCell ⟨W1.heap.size, 2, none⟩ (.int .i64 2)).setCell ⟨W1.heap.size, 3, none⟩ (.bool true))) ∧ (((((w3.setCell ⟨W1.heap.size, 0, none⟩ (.int .i64 9)).setCell ⟨W1.heap.size, 1, none⟩ (.int .i64 2)).setCell ⟨W1.heap.size, 2, none⟩ (.int .i64 2)).setCell ⟨W1.heap.size, 3, none⟩ (.bool true))).heap[W1.heap.size]? = some (.cells #[.int .i64 9, .int .i64 2, .int .i64 2, .bool true] 91) ∧ GF (fun x => A.has E.n x ∨ x = zb) W (((((w3.setCell ⟨W1.heap.size, 0, none⟩ (.int .i64 9)).setCell ⟨W1.heap.size, 1, none⟩ (.int .i64 2)).setCell ⟨W1.heap.size, 2, none⟩ (.int .i64 2)).setCell ⟨W1.heap.size, 3, none⟩ (.bool true))) ∧ W.heap.size ≤ W1.heap.size) := Lib.hid (by
      have h1 := HB0.out.size
      have h3 := HL.out
      refine ⟨ur_r HU3.out (r := W1.heap.size) (by omega) (by omega) (fun e => by have := HLA.out _ e; omega) (by simp only [size_set]; exact Nat.le_refl _) fun x hx => (Below.heap_setCell _ _ _ _ hx).trans ((Below.heap_setCell _ _ _ _ hx).trans ((Below.heap_setCell _ _ _ _ hx).trans (Below.heap_setCell _ _ _ _ hx))), heap_setCell_same _ _ 3 _ 91 _ (heap_setCell_same _ _ 2 _ 91 _ (heap_setCell_same _ _ 1 _ 91 _ (heap_setCell_same _ _ 0 _ 91 _ HNX.out))), ?_, h1⟩
      have g0 : GF (fun x => A.has E.n x ∨ x = zb) W w3 := gf_trans (gf_trans (gf_drew (gf_alloc (gf_below HB0.out) _)) (gf_below HB2.out.1)) HG3.out
      exact gf_set (gf_set (gf_set (gf_set g0 (.inr h1) _) (.inr h1) _) (.inr h1) _) (.inr h1) _)
    obtain ⟨W4, hW4⟩ : ∃ W4, ((((w3.setCell ⟨W1.heap.size, 0, none⟩ (.int .i64 9)).setCell ⟨W1.heap.size, 1, none⟩ (.int .i64 2)).setCell ⟨W1.heap.size, 2, none⟩ (.int .i64 2)).setCell ⟨W1.heap.size, 3, none⟩ (.bool true)) = W4 := ⟨_, rfl⟩
    obtain ⟨r, hr⟩ : ∃ r, W1.heap.size = r := ⟨_, rfl⟩
    rw [hW4, hr] at PK
    rw [hW4, hr]
    clear hW4 hr
    have HZ := HLA
    have hn4 := PK.out.2.1
    have HR : Hid (¬ A.has E.n r ∧ r ≠ zb) := Lib.hid ⟨fun e => by have := HLA.out r e; have := PK.out.2.2.2; omega, fun e => by have := HL.out.2; have := PK.out.2.2.2; omega⟩
    obtain ⟨-, -, k2⟩ := HS.out _ _ _ PK.out.1
    have hrl := (Array.getElem?_eq_some_iff.1 hn4).1
    have HU4 := Lib.hid (ur_drew PK.out.1)
    clear hn4 HB0 H1 HBW hbl HN HU1 s2 b0 b1 HU1b nA1 nA2 nA3 nA4 HZl HU2 c0 c1 r2 hbl2 HB2 HN2 HX2 HU3 d0 d1 q2 HG3 x0 x0f x1 x1f x2 x2f x3 x3f HNX
    go_wp2_with fail
    go_region_held3 (fun w => w.cell? ⟨sb, 2, none⟩ = some (ptr zb)) (first | (with_reducible exact k2) | (with_reducible exact l2) | (with_reducible exact l3) | (go_keep; done)) (first
      | (go_simp; go_at_call 35; (with_reducible refine (C1.out _ _ HU4.out).mono ?_); rintro e w5 ⟨rfl, hB⟩; have HU5 := Lib.hid (ur_below HU4.out hB); obtain ⟨-, -, l2⟩ := HS.out _ _ _ HU5.out; have HN5 := Lib.hid ((hB.block r hrl).trans PK.out.2.1); have HG5 := Lib.hid (gf_trans (gf_drew PK.out.2.2.1) (gf_below hB)); clear hB)
      | (go_simp; go_at_call 36; (with_reducible refine (C3.out _ HU5.out).mono ?_); rintro e w6 ⟨rfl, hB⟩; have HU6 := Lib.hid (ur_below HU5.out hB); obtain ⟨-, -, l3⟩ := HS.out _ _ _ HU6.out; have hn6 := (hB.block r (Array.getElem?_eq_some_iff.1 HN5.out).1).trans HN5.out; have HN6 := Lib.hid hn6; have HG6 := Lib.hid (gf_trans HG5.out (gf_below hB)); clear hB hn6)
      | fail)
    clear k2 l2 l3
    obtain ⟨-, m1, -⟩ := HS.out _ _ _ HU6.out
    obtain ⟨-, ⟨o1, -⟩, ⟨o2, -⟩, -⟩ := cells4 HN6.out
    have HU7 := Lib.hid (ur_drew HU6.out)
    have hrl6 := (Array.getElem?_eq_some_iff.1 HN6.out).1
    go_wp2_with fail
    go_region_held3 (fun w => w.cell? ⟨sb, 1, none⟩ = some (.int .i64 1) ∧ w.cell? ⟨r, 1, none⟩ = some (.int .i64 2) ∧ w.cell? ⟨r, 2, none⟩ = some (.int .i64 2)) (first | (with_reducible exact ⟨m1, o1, o2⟩) | (with_reducible exact ⟨y1, y2, y3⟩) | (go_keep; done)) (first
      | (go_simp; go_at_call 37; (with_reducible refine (C4.out _ HU7.out).mono ?_); rintro e w8 ⟨rfl, hu, he, hgf, hblk⟩; obtain ⟨-, y1, -⟩ := HS.out _ _ _ hu; have hn8 := (hblk r hrl6 HR.out.1).trans HN6.out; obtain ⟨-, ⟨y2, -⟩, ⟨y3, -⟩, -⟩ := cells4 hn8; have HH := Lib.hid (And.intro hu (And.intro he (gf_trans (gf_drew HG6.out) hgf))); clear hu he hgf hblk hn8)
      | fail)
    go_wp2_with fail
    go_ret
    exact ⟨rfl, HH.out⟩
end
end Go.Proofs.YtlcaepcojglbiaaGreatDoor.Tp
namespace Go.Proofs.YtlcaepcojglbiaaGreatDoor.Tp
open Go.RowKit Go.Maps
set_option linter.unusedVariables false
set_option linter.unusedSimpArgs false
theorem info60z : (Tryz.prog.info? 60).map (fun i => (i.zero, i.size, i.bytes)) = some (some (.agg #[.int .i64 0, .int .i64 0]), 2, 16) := by kernel_rfl
theorem cells8 {w : World} {g ty : Nat} {x0 x1 x2 x3 x4 x5 x6 x7 : Value} (h : w.heap[g]? = some (.cells #[x0, x1, x2, x3, x4, x5, x6, x7] ty)) : w.cell? ⟨g, 0, none⟩ = some x0 ∧ w.cell? ⟨g, 1, none⟩ = some x1 ∧ w.cell? ⟨g, 2, none⟩ = some x2 ∧ w.cell? ⟨g, 3, none⟩ = some x3 ∧ w.cell? ⟨g, 4, none⟩ = some x4 ∧ w.cell? ⟨g, 5, none⟩ = some x5 ∧ w.cell? ⟨g, 6, none⟩ = some x6 ∧ w.cell? ⟨g, 7, none⟩ = some x7 :=
  ⟨(cell_of h 0 _ rfl).1, (cell_of h 1 _ rfl).1, (cell_of h 2 _ rfl).1, (cell_of h 3 _ rfl).1, (cell_of h 4 _ rfl).1, (cell_of h 5 _ rfl).1, (cell_of h 6 _ rfl).1, (cell_of h 7 _ rfl).1⟩
section
variable {A : EA} {E : En} {M : GM} {sb zb : Nat} {z : Array Value}
set_option maxRecDepth 100000 in
set_option maxHeartbeats 8000000 in
theorem ustep_nil (s : St) (W : World) (h : UR A E sb zb z W) (hE : EI E M) (hw : s.wf) (hg : E.K.gen < 1000000) (hk1 : ¬ s.kind = 1) (hk2 : ¬ s.kind = 2) (ho : ∀ o x E' M', DoR E M s o x E' M' → o = []) :
    Calls Tryz.prog 14 #[ptr sb, stv s] W fun e W' => ∃ x E' M', e = .returned (.tuple #[.slice none 0 0, .int .i64 x]) ∧ DoR E M s [] x E' M' ∧ UR A E' sb zb z W' ∧ EI E' M' ∧ GF (A.has E.n) W W' ∧ E'.n = E.n := by
  have C1 : Hid (∀ w, UR A E sb zb z w → Calls Tryz.prog 7 #[ptr A.e, stv s] w fun e w' => ∃ p c x E' M', e = .returned (.tuple #[.slice p 0 c, .int .i64 x]) ∧ DoR E M s [] x E' M' ∧ UR A E' sb zb z w' ∧ EI E' M' ∧ GF (A.has E.n) w w' ∧ E'.n = E.n) := Lib.hid fun w hw' => (udo_at s w hw' hE hw hg).mono (by
    rintro e w' ⟨p, m, c, x, o, E', M', rfl, hd, hf, h1, h2, h3, h4⟩
    obtain rfl := ho _ _ _ _ hd
    have hm : m = 0 := own_len hf
    subst hm
    exact ⟨p, c, x, E', M', rfl, hd, h1, h2, h3, h4⟩)
  obtain ⟨R, hR⟩ : ∃ R : Int → World → Prop, R = fun x w => ∃ E' M', DoR E M s [] x E' M' ∧ UR A E' sb zb z w ∧ EI E' M' ∧ GF (A.has E.n) W w ∧ E'.n = E.n := ⟨_, rfl⟩
  have HRI : Hid (∀ x w, R x w → ∃ E' M', DoR E M s [] x E' M' ∧ UR A E' sb zb z w ∧ EI E' M' ∧ GF (A.has E.n) W w ∧ E'.n = E.n) := Lib.hid fun x w hr => by rw [hR] at hr; exact hr
  have HRR : Hid (∀ x w, (∃ E' M', DoR E M s [] x E' M' ∧ UR A E' sb zb z w ∧ EI E' M' ∧ GF (A.has E.n) W w ∧ E'.n = E.n) → R x w) := Lib.hid fun x w hr => by rw [hR]; exact hr
  clear hR
  obtain ⟨kd, cpu, n, t⟩ := s
  dsimp only at hk1 hk2
  have hk1b : (kd == 1) = false := by simpa using hk1
  have hk2b : (kd == 2) = false := by simpa using hk2
  clear hk1 hk2
  obtain ⟨id, tc, ts, th, tl⟩ := t
  have HS := Lib.hid (fun E' (z : Array Value) w (hw : UR A E' sb zb z w) => ur_cells hw)
  have HL := Lib.hid (er_lt h.er)
  have HB0 : Hid (Below W.heap.size W (W.alloc (.cells #[.int .i64 kd, .int .i64 cpu, .int .i64 n, .int .i64 id, .int .i64 tc, .int .i64 ts, .int .i64 th, .bool tl] 33))) := Lib.hid ((Below.refl _ _).alloc (Nat.le_refl _) _)
  have H1 := Lib.hid (ur_below h HB0.out)
  have hn := heap_alloc_new W (.cells #[.int .i64 kd, .int .i64 cpu, .int .i64 n, .int .i64 id, .int .i64 tc, .int .i64 ts, .int .i64 th, .bool tl] 33)
  have hsz : W.heap.size < (W.alloc (.cells #[.int .i64 kd, .int .i64 cpu, .int .i64 n, .int .i64 id, .int .i64 tc, .int .i64 ts, .int .i64 th, .bool tl] 33)).heap.size := by simp
  clear h hE hw hg ho
  go_enter Tryz.func14, Tryz.ntmps14
  go_wp2_with fail
  obtain ⟨W1, hW1⟩ : ∃ W1, W.alloc (.cells #[.int .i64 kd, .int .i64 cpu, .int .i64 n, .int .i64 id, .int .i64 tc, .int .i64 ts, .int .i64 th, .bool tl] 33) = W1 := ⟨_, rfl⟩
  rw [hW1] at HB0 H1 hn hsz ⊢
  obtain ⟨b, hb⟩ : ∃ b, W.heap.size = b := ⟨_, rfl⟩
  have HNH : Hid (¬ A.has E.n b) := Lib.hid fun e => by have := HL.out b e; omega
  rw [hb] at hn hsz ⊢
  have HN := Lib.hid hn
  have HU1 := Lib.hid (ur_drew H1.out)
  obtain ⟨s0, -, -⟩ := HS.out _ _ _ H1.out
  obtain ⟨b0, b1, b2, b3, b4, b5, b6, b7⟩ := cells8 hn
  clear hW1 hb hn
  go_region_held3 (fun w => w.cell? ⟨sb, 0, none⟩ = some (ptr A.e) ∧ w.cell? ⟨b, 0, none⟩ = some (.int .i64 kd) ∧ w.cell? ⟨b, 1, none⟩ = some (.int .i64 cpu) ∧ w.cell? ⟨b, 2, none⟩ = some (.int .i64 n) ∧ w.cell? ⟨b, 3, none⟩ = some (.int .i64 id) ∧ w.cell? ⟨b, 4, none⟩ = some (.int .i64 tc) ∧ w.cell? ⟨b, 5, none⟩ = some (.int .i64 ts) ∧ w.cell? ⟨b, 6, none⟩ = some (.int .i64 th) ∧ w.cell? ⟨b, 7, none⟩ = some (.bool tl)) (first | (with_reducible exact ⟨s0, b0, b1, b2, b3, b4, b5, b6, b7⟩) | (with_reducible exact ⟨r0, d0, d1, d2, d3, d4, d5, d6, d7⟩) | (go_keep; done)) (first
    | (go_simp; go_at_call 7; (with_reducible refine (C1.out _ HU1.out).mono ?_); clear C1; rintro e w2 ⟨p, c, x, E', M', rfl, hd, hu, he, hgf, hn'⟩; have hnb := (hgf.block b hsz HNH.out).trans HN.out; obtain ⟨d0, d1, d2, d3, d4, d5, d6, d7⟩ := cells8 hnb; obtain ⟨r0, -, -⟩ := HS.out _ _ _ hu; have HH := Lib.hid (HRR.out x w2 ⟨E', M', hd, hu, he, gf_trans (gf_drew (gf_below HB0.out)) hgf, hn'⟩); clear hd hu he hgf hn' hnb)
    | fail)
  clear s0 b0 b1 b2 b3 b4 b5 b6 b7 r0 d0 d1 d2 d3 d4 d5 d6 d7
  go_wp2_with fail
  go_loopw [8, 34] (fun s8 s34 wr => s8 = .slice none 0 0 ∧ s34 = .int .i64 ((0 : Nat) : Int) ∧ Hid (R x wr)) (fun _ _ _ => 0)
  case atStart => exact ⟨rfl, rfl, HH⟩
  case round =>
    obtain ⟨rfl, rfl, HJ⟩ := hrel
    go_wp2_with fail
    obtain ⟨E', M', h1, h2, h3, h4, h5⟩ := HRI.out x wr HJ.out
    exact bodyPost_ret (results_tmp2 rfl _ _ _) rfl ⟨x, E', M', rfl, h1, h2, h3, h4, h5⟩
def fd9 : Fd := ⟨9, 2, 0, 2, 2⟩
def WokT (base : Nat) (v : Value) (w : World) : Prop := w.ownsRow base 60 2 v 1 [.int .i64 9, .int .i64 2]
set_option maxRecDepth 100000 in
set_option maxHeartbeats 8000000 in
theorem ustep_one (s : St) (W : World) (h : UR A E sb zb z W) (hE : EI E M) (hw : s.wf) (hg : E.K.gen < 1000000) (hk1 : ¬ s.kind = 1) (hk2 : ¬ s.kind = 2) (ho : ∀ o x E' M', DoR E M s o x E' M' → o = [fd9] ∧ E'.K.tm 2 = 2) (ha : z[137]? = some (.bool true)) (hl : L9 z) :
    Calls Tryz.prog 14 #[ptr sb, stv s] W fun e W' => (∃ v x, e = .returned (.tuple #[v, .int .i64 x]) ∧ WokT W.heap.size v W') ∧ TAB W' ∧ GF (fun x => A.has E.n x ∨ x = zb) W W' ∧ W'.heap[0]? = W.heap[0]? := by
  have C1 : Hid (∀ w, UR A E sb zb z w → Calls Tryz.prog 7 #[ptr A.e, stv s] w fun e w' => ∃ gb c x E', e = .returned (.tuple #[.slice (some ⟨gb, 0, none⟩) 1 c, .int .i64 x]) ∧ w'.cell? ⟨gb, 0, none⟩ = some (.int .i64 9) ∧ w'.cell? ⟨gb, 1, none⟩ = some (.int .i64 2) ∧ w'.cell? ⟨gb, 2, none⟩ = some (.int .i64 0) ∧ w'.cell? ⟨gb, 3, none⟩ = some (.int .i64 2) ∧ w'.cell? ⟨gb, 4, none⟩ = some (.int .i64 2) ∧ gb < w'.heap.size ∧ UR A E' sb zb z w' ∧ E'.K.ok ∧ E'.K.tm 2 = 2 ∧ GF (A.has E.n) w w' ∧ E'.n = E.n) := Lib.hid fun w hw' => (udo_at s w hw' hE hw hg).mono (by
    rintro e w' ⟨p, m, c, x, o, E', M', rfl, hd, hf, h1, h2, h3, h4⟩
    obtain ⟨rfl, ht⟩ := ho _ _ _ _ hd
    have hm : m = 1 := own_len hf
    subst hm
    rcases hf.2 with ⟨e1, e2⟩ | ⟨gb, cap, cur, e1, hb, hgb, hrest⟩
    · cases e2
    · cases e1
      have hc := World.ownsRow.cells (g := gb) hf rfl
      exact ⟨gb, c, x, E', rfl, hc 0 _ rfl, hc 1 _ rfl, hc 2 _ rfl, hc 3 _ rfl, hc 4 _ rfl, (Array.getElem?_eq_some_iff.1 hgb).1, h1, h2.ck, ht, h3, h4⟩)
  have CT : Hid (∀ E', E'.K.ok → E'.K.tm 2 = 2 → ∀ w, UR A E' sb zb z w → Calls Tryz.prog 35 #[ptr sb] w fun e w' => ∃ t0 t1, e = .returned (.agg #[.int .i64 t0, .int .i64 t1, .int .i64 2]) ∧ Below w.heap.size w w') := Lib.hid fun E' hok ht w hw' => (utimes_at w hw' hok).mono fun e w' hh => by
    obtain ⟨rfl, hB⟩ := hh
    refine ⟨E'.K.tm 0, E'.K.tm 1, ?_, hB⟩
    unfold offv
    rw [ht]
  have CW : Hid (∀ E' t0 t1 w, UR A E' sb zb z w → Calls Tryz.prog 36 #[ptr zb, .int .i64 9, .agg #[.int .i64 t0, .int .i64 t1, .int .i64 2]] w fun e w' => e = .returned (.int .i64 0) ∧ UR A E' sb zb (z.set! 137 (.bool false)) w' ∧ GF (fun x => x = zb) w w') := Lib.hid fun E' t0 t1 w hw' => (wake9_yes w hw'.z ha hl).mono fun e w' hh => ⟨hh.1, ur_z hw' hh.2.2 hh.2.1, hh.2.2⟩
  obtain ⟨kd, cpu, n, t⟩ := s
  dsimp only at hk1 hk2
  obtain ⟨id, tc, ts, th, tl⟩ := t
  have hk1b : (kd == 1) = false := by simpa using hk1
  have hk2b : (kd == 2) = false := by simpa using hk2
  clear hk1 hk2
  have HS := Lib.hid (fun E' (z : Array Value) w (hw : UR A E' sb zb z w) => ur_cells hw)
  have HL := Lib.hid (er_lt h.er)
  have HLZ := Lib.hid (ur_lt h)
  have HER := Lib.hid h.er
  have HB0 : Hid (Below W.heap.size W (W.alloc (.cells #[.int .i64 kd, .int .i64 cpu, .int .i64 n, .int .i64 id, .int .i64 tc, .int .i64 ts, .int .i64 th, .bool tl] 33))) := Lib.hid ((Below.refl _ _).alloc (Nat.le_refl _) _)
  have H1 := Lib.hid (ur_below h HB0.out)
  have hn := heap_alloc_new W (.cells #[.int .i64 kd, .int .i64 cpu, .int .i64 n, .int .i64 id, .int .i64 tc, .int .i64 ts, .int .i64 th, .bool tl] 33)
  have hsz : W.heap.size < (W.alloc (.cells #[.int .i64 kd, .int .i64 cpu, .int .i64 n, .int .i64 id, .int .i64 tc, .int .i64 ts, .int .i64 th, .bool tl] 33)).heap.size := by simp
  clear h hE hw hg ho ha hl
  go_enter Tryz.func14, Tryz.ntmps14
  go_wp2_with fail
  obtain ⟨W1, hW1⟩ : ∃ W1, W.alloc (.cells #[.int .i64 kd, .int .i64 cpu, .int .i64 n, .int .i64 id, .int .i64 tc, .int .i64 ts, .int .i64 th, .bool tl] 33) = W1 := ⟨_, rfl⟩
  rw [hW1] at HB0 H1 hn hsz ⊢
  obtain ⟨b, hb⟩ : ∃ b, W.heap.size = b := ⟨_, rfl⟩
  have HNH : Hid (¬ A.has E.n b) := Lib.hid fun e => by have := HL.out b e; omega
  rw [hb] at hn hsz ⊢
  have HN := Lib.hid hn
  have HU1 := Lib.hid (ur_drew H1.out)
  obtain ⟨s0, -, -⟩ := HS.out _ _ _ H1.out
  obtain ⟨b0, b1, b2, b3, b4, b5, b6, b7⟩ := cells8 hn
  have HBE := Lib.hid hb
  clear hW1 hb hn
  go_region_held3 (fun w => w.cell? ⟨sb, 0, none⟩ = some (ptr A.e) ∧ w.cell? ⟨b, 0, none⟩ = some (.int .i64 kd) ∧ w.cell? ⟨b, 1, none⟩ = some (.int .i64 cpu) ∧ w.cell? ⟨b, 2, none⟩ = some (.int .i64 n) ∧ w.cell? ⟨b, 3, none⟩ = some (.int .i64 id) ∧ w.cell? ⟨b, 4, none⟩ = some (.int .i64 tc) ∧ w.cell? ⟨b, 5, none⟩ = some (.int .i64 ts) ∧ w.cell? ⟨b, 6, none⟩ = some (.int .i64 th) ∧ w.cell? ⟨b, 7, none⟩ = some (.bool tl)) (first | (with_reducible exact ⟨s0, b0, b1, b2, b3, b4, b5, b6, b7⟩) | (with_reducible exact ⟨r0, d0, d1, d2, d3, d4, d5, d6, d7⟩) | (go_keep; done)) (first
    | (go_simp; go_at_call 7; (with_reducible refine (C1.out _ HU1.out).mono ?_); clear C1; rintro e w2 ⟨gb, c, x, E', rfl, g0, g1, g2, g3, g4, hgl, hu, hok, ht2, hgf, hn'⟩; have hnb := (hgf.block b hsz HNH.out).trans HN.out; obtain ⟨d0, d1, d2, d3, d4, d5, d6, d7⟩ := cells8 hnb; obtain ⟨r0, -, -⟩ := HS.out _ _ _ hu; have HU2 := Lib.hid hu; have HG2 := Lib.hid (gf_trans (gf_drew (gf_below HB0.out)) hgf); have HOK := Lib.hid (And.intro hok (And.intro ht2 hn')); have HG5 := Lib.hid (And.intro g0 (And.intro g1 (And.intro g2 (And.intro g3 g4)))); clear hu hok ht2 hgf hn' hnb g0 g1 g2 g3 g4)
    | fail)
  clear s0 b0 b1 b2 b3 b4 b5 b6 b7 r0 d0 d1 d2 d3 d4 d5 d6 d7
  go_wp2_with fail
  obtain ⟨R, hR⟩ : ∃ R : Nat → Value → World → Prop, R = fun k v wr => (k = 0 ∧ v = .slice none 0 0 ∧ wr = w2) ∨ (k = 1 ∧ WokT W.heap.size v wr ∧ TAB wr ∧ GF (fun x => A.has E.n x ∨ x = zb) W wr ∧ wr.heap[0]? = W.heap[0]?) := ⟨_, rfl⟩
  have HR0 : Hid (R 0 (.slice none 0 0) w2) := Lib.hid (by rw [hR]; exact .inl ⟨rfl, rfl, rfl⟩)
  have HRK : Hid (∀ k v wr, R k v wr → (k = 0 ∧ v = .slice none 0 0 ∧ wr = w2) ∨ (k = 1 ∧ WokT W.heap.size v wr ∧ TAB wr ∧ GF (fun x => A.has E.n x ∨ x = zb) W wr ∧ wr.heap[0]? = W.heap[0]?)) := Lib.hid fun k v wr hr => by rw [hR] at hr; exact hr
  have HR1 : Hid (∀ v wr, WokT W.heap.size v wr → TAB wr → GF (fun x => A.has E.n x ∨ x = zb) W wr → wr.heap[0]? = W.heap[0]? → R 1 v wr) := Lib.hid fun v wr a1 a2 a3 a4 => by rw [hR]; exact .inr ⟨rfl, a1, a2, a3, a4⟩
  clear hR
  go_loopw [8, 34] (fun s8 s34 wr => ∃ k : Nat, s34 = .int .i64 k ∧ Hid (R k s8 wr)) (fun _ s34 _ => 1 - (intOf s34).toNat)
  case atStart => exact ⟨0, rfl, HR0⟩
  case round =>
    obtain ⟨k, rfl, HJ⟩ := hrel
    clear HR0
    rcases HRK.out _ _ _ HJ.out with ⟨rfl, rfl, rfl⟩ | ⟨rfl, hq⟩
    · clear HJ HRK
      obtain ⟨g0, g1, g2, g3, g4⟩ := HG5.out
      have hnf := heap_alloc_new wr (.cells #[.int .i64 9, .int .i64 2, .int .i64 0, .int .i64 2, .int .i64 2] 48)
      have HU3 := Lib.hid (ur_below HU2.out ((Below.refl _ _).alloc (Nat.le_refl _) (.cells #[.int .i64 9, .int .i64 2, .int .i64 0, .int .i64 2, .int .i64 2] 48)))
      have hs3 : (wr.alloc (.cells #[.int .i64 9, .int .i64 2, .int .i64 0, .int .i64 2, .int .i64 2] 48)).heap.size = wr.heap.size + 1 := by simp
      have HG3 := Lib.hid (gf_alloc HG2.out (.cells #[.int .i64 9, .int .i64 2, .int .i64 0, .int .i64 2, .int .i64 2] 48))
      go_wp2_with fail
      have hss : W.heap.size ≤ wr.heap.size := HG2.out.size
      obtain ⟨W3, hW3⟩ : ∃ W3, wr.alloc (.cells #[.int .i64 9, .int .i64 2, .int .i64 0, .int .i64 2, .int .i64 2] 48) = W3 := ⟨_, rfl⟩
      obtain ⟨f, hf⟩ : ∃ f, wr.heap.size = f := ⟨_, rfl⟩
      rw [hW3] at hnf HU3 hs3 HG3 ⊢
      rw [hf] at hnf hs3 hss ⊢
      have HF : Hid (f ≠ zb ∧ ¬ A.has E.n f) := Lib.hid ⟨fun e => by have := HLZ.out.2; omega, fun e => by have := HL.out f e; omega⟩
      have HNF := Lib.hid hnf
      obtain ⟨⟨f0, -⟩, -, -, ⟨f3, -⟩, -⟩ := cells5 hnf
      obtain ⟨-, -, k2⟩ := HS.out _ _ _ HU3.out
      have HU3d := Lib.hid (ur_drew HU3.out)
      have hfl : f < W3.heap.size := by omega
      clear hW3 hf hnf g0 g1 g2 g3 g4 HU2
      go_region_held3 (fun w => w.cell? ⟨sb, 2, none⟩ = some (ptr zb) ∧ w.cell? ⟨f, 0, none⟩ = some (.int .i64 9)) (first | (with_reducible exact ⟨k2, f0⟩) | (with_reducible exact ⟨l2, l0⟩) | (with_reducible exact ⟨m2, m0⟩) | (go_keep; done)) (first
        | (go_simp; go_at_call 35; (with_reducible refine (CT.out E' HOK.out.1 HOK.out.2.1 _ HU3d.out).mono ?_); rintro e w4 ⟨t0, t1, rfl, hB⟩; have HU4 := Lib.hid (ur_below HU3d.out hB); obtain ⟨-, -, l2⟩ := HS.out _ _ _ HU4.out; have hn4 := (hB.block f hfl).trans HNF.out; have HN4 := Lib.hid hn4; obtain ⟨⟨l0, -⟩, -⟩ := cells5 hn4; have HG4 := Lib.hid (gf_trans (gf_drew HG3.out) (gf_below hB)); clear hB hn4)
        | (go_simp; go_at_call 36; (with_reducible refine (CW.out E' t0 t1 _ HU4.out).mono ?_); rintro e w5 ⟨rfl, hu, hgf⟩; have HU5 := Lib.hid hu; obtain ⟨-, -, m2⟩ := HS.out _ _ _ hu; have hn5 := (hgf.block f (Array.getElem?_eq_some_iff.1 HN4.out).1 HF.out.1).trans HN4.out; have HN5 := Lib.hid hn5; obtain ⟨⟨m0, -⟩, -⟩ := cells5 hn5; have HG6 := Lib.hid (gf_trans (gf_mono (G := fun x => A.has E.n x ∨ x = zb) HG4.out fun x e => .inl e) (gf_mono hgf fun x e => .inr e)); clear hu hgf hn5)
        | fail)
      clear k2 f0 f3 l2 l0 m2 m0
      obtain ⟨⟨f0, -⟩, -, -, ⟨f3, -⟩, -⟩ := cells5 HN5.out
      have HBL : Hid (Below w5.heap.size w5 (w5.alloc (.cells #[.int .i64 9, .int .i64 2] 60))) := Lib.hid ((Below.refl _ _).alloc (Nat.le_refl _) _)
      have HO : Hid ((w5.alloc (.cells #[.int .i64 9, .int .i64 2] 60)).ownsRow W.heap.size 60 2 (.slice none 0 0) 0 []) := Lib.hid (World.ownsRow_nil _ _ _ _)
      have HO1 := Lib.hid (own_new w5 #[.int .i64 9, .int .i64 2] 60 2 1 0 (Nat.zero_le _) rfl (by unfold maxLen; omega))
      have HBS : Hid (W.heap.size ≤ (w5.alloc (.cells #[.int .i64 9, .int .i64 2] 60)).heap.size) := Lib.hid (Nat.le_trans HG6.out.size (by simp))
      go_wp2_with (first
        | (at_builtin; refine wpList_app _ rfl _ _ 56 rfl Tryz.underlying56 info60z rfl (by omega) (by omega) ?_ ?_ HO.out HO1.out (by simp [Value.oneCell']) (by omega) HBS.out ?_; rfl; rfl; intro v6 w6 hown hgr hloc; have HN6 := Lib.hid (And.intro hown hgr); obtain ⟨p6, m6, c6, rfl⟩ := own_slice hown; clear hown hgr hloc)
        | fail)
      have HX : Hid (R 1 (.slice p6 m6 c6) w6) := by
        have hgr := HN6.out.2
        have hB6 : Below w5.heap.size w5 w6 := below_grown HBL.out (Nat.le_refl _) hgr fun k hk => by simp [Value.ownBlock] at hk
        have her := er_below HU5.out.er hB6
        exact Lib.hid (HR1.out _ _ HN6.out.1 her.tab (gf_trans HG6.out (gf_below hB6)) (er_zero HER.out her))
      go_roundw
      case rel => exact ⟨1, by go_num, HX⟩
      case measure => simp [intOf]
    · have HQ := Lib.hid hq
      clear hq
      go_wp2_with fail
      exact bodyPost_ret (results_tmp2 rfl _ _ _) rfl ⟨⟨_, x, rfl, HQ.out.1⟩, HQ.out.2⟩
end
end Go.Proofs.YtlcaepcojglbiaaGreatDoor.Tp
namespace Go.Proofs.YtlcaepcojglbiaaGreatDoor.Tp
open Go.RowKit Go.Maps
set_option linter.unusedVariables false
set_option linter.unusedSimpArgs false
structure VJ (A : EA) (sb zb : Nat) (W w : World) : Prop where
  ur : UR A (En.new 1 1073741824) sb zb Tryz.zeroCells122 w
  s : ∃ cs, w.heap[sb]? = some (.cells cs 88) ∧ cs.size = 37
  bl : Below W.heap.size W w
theorem vj_step {A : EA} {sb zb : Nat} {W w w1 : World} (h : VJ A sb zb W w) (hB : Below w.heap.size w w1) (i : Nat) (v : Value) (hsb : W.heap.size ≤ sb) : VJ A sb zb W (w1.setCell ⟨sb, 5 + i, none⟩ v) := by
  obtain ⟨cs, hs, hz⟩ := h.s
  have hsl := (ur_lt h.ur).1
  have h1 := ur_below h.ur hB
  have hs1 := (hB.block sb hsl).trans hs
  have hs2 := heap_setCell_same w1 sb (5 + i) cs 88 v hs1
  have hne : ∀ x, x ≠ sb → (w1.setCell ⟨sb, 5 + i, none⟩ v).heap[x]? = w1.heap[x]? := fun x hx => Below.heap_setCell _ _ _ _ hx
  have hsz : w1.heap.size ≤ (w1.setCell ⟨sb, 5 + i, none⟩ v).heap.size := by rw [size_set]; exact Nat.le_refl _
  obtain ⟨cs', hc', h0', h1', h2'⟩ := h1.s
  rw [hs1] at hc'
  cases hc'
  have hset : ∀ k, k < 5 → (cs.set! (5 + i) v)[k]? = cs[k]? := fun k hk => by
    rw [Array.set!_eq_setIfInBounds, Array.getElem?_setIfInBounds_ne (by omega)]
  refine ⟨⟨er_same h1.er hsz fun x hx => hne x fun e => h1.ns (e ▸ hx), ⟨_, hs2, (hset 0 (by omega)).trans h0', (hset 1 (by omega)).trans h1', (hset 2 (by omega)).trans h2'⟩, (hne zb fun e => h1.ne e.symm).trans h1.z, h1.ns, h1.nz, h1.ne⟩, ⟨_, hs2, by simpa using hz⟩, below_set (h.bl.trans (hB.mono h.bl.size)) (by exact hsb) v⟩
theorem vj_start {A : EA} {W w1 w2 w3 : World} {o : Obj} {cs : Array Value} (her : ER A (En.new 1 1073741824) w1) (hB1 : Below W.heap.size W w1) (hz : w2.heap[w1.heap.size]? = some (.cells Tryz.zeroCells122 122)) (hB2 : Below w1.heap.size w1 w2) (hB3 : Below w2.heap.size w2 w3) (hc : cs.size = 37) (h0 : cs[0]? = some (ptr A.e)) (h1 : cs[1]? = some (.int .i64 1)) (h2 : cs[2]? = some (ptr w1.heap.size)) : VJ A (w3.heap.size + 1) w1.heap.size W ((w3.alloc o).alloc (.cells cs 88)) := by
  have s1 := hB1.size
  have s2 := hB2.size
  have s3 := hB3.size
  have hzl := (Array.getElem?_eq_some_iff.1 hz).1
  have b3 : Below w1.heap.size w1 w3 := hB2.trans (hB3.mono hB2.size)
  have b4 := b3.alloc b3.size o
  have b5 := b4.alloc b4.size (.cells cs 88)
  have hs : (w3.alloc o).heap.size = w3.heap.size + 1 := by simp
  have hn := heap_alloc_new (w3.alloc o) (.cells cs 88)
  rw [hs] at hn
  have hzz : ((w3.alloc o).alloc (.cells cs 88)).heap[w1.heap.size]? = some (.cells Tryz.zeroCells122 122) := (Below.heap_alloc (w3.alloc o) _ w1.heap.size (by omega)).trans ((Below.heap_alloc w3 o w1.heap.size (by omega)).trans ((hB3.block w1.heap.size hzl).trans hz))
  refine ⟨⟨er_below her b5, ⟨cs, hn, h0, h1, h2⟩, hzz, fun e => ?_, fun e => ?_, by omega⟩, ⟨cs, hn, hc⟩, hB1.trans (b5.mono s1)⟩
  · have := er_lt her _ e
    omega
  · have := er_lt her _ e
    omega
set_option maxRecDepth 100000 in
set_option maxHeartbeats 8000000 in
theorem unew_at (W : World) (hT : TAB W) : Calls Tryz.prog 12 #[.int .i64 1] W fun e W' => ∃ A sb zb, e = .returned (ptr sb) ∧ UR A (En.new 1 1073741824) sb zb Tryz.zeroCells122 W' ∧ Below W.heap.size W W' ∧ (∀ x, A.has 1 x → x = 0 ∨ W.heap.size ≤ x) ∧ W.heap.size ≤ sb ∧ W.heap.size ≤ zb := by
  have C1 : Hid (Calls Tryz.prog 6 #[.int .i64 1, .int .i64 1, .int .i64 1073741824] W fun e W' => ∃ A : EA, e = .returned (ptr A.e) ∧ ER A (En.new 1 1073741824) W' ∧ Below W.heap.size W W' ∧ ∀ x, A.has 1 x → x = 0 ∨ W.heap.size ≤ x) := Lib.hid (enew_at 1 (by omega) (by omega) 1073741824 (by omega) (by omega) W hT)
  have C2 := Lib.hid snew_at
  have C3 := Lib.hid pnew_at
  have C4 := Lib.hid gnew_at
  have hmm := @run_makeMap Tryz.prog
  have HW0 := Lib.hid (tab_pos hT)
  clear hT
  go_enter Tryz.func12, Tryz.ntmps12
  go_wp2_with (first
    | (go_at_call 6; (with_reducible refine (C1.out).mono ?_); clear C1; rintro e w1 ⟨A, rfl, her, hB, hlo⟩; have HE1 := Lib.hid (And.intro her (And.intro hB hlo)); clear her hB hlo)
    | (go_at_call 31; (with_reducible refine (C2.out _).mono ?_); clear C2; rintro e w2 ⟨rfl, hz, hB⟩; have HE2 := Lib.hid (And.intro hz hB); clear hz hB)
    | (go_at_call 32; (with_reducible refine (C3.out _).mono ?_); clear C3; rintro e w3 ⟨rfl, hB⟩; have HE3 := Lib.hid hB; clear hB)
    | fail)
  have hv := vj_start (o := .map #[] 0) (cs := #[ptr A.e, .int .i64 1, ptr w1.heap.size, ptr w2.heap.size, .map (some w3.heap.size), .pointer none, .pointer none, .pointer none, .pointer none, .pointer none, .pointer none, .pointer none, .pointer none, .pointer none, .pointer none, .pointer none, .pointer none, .pointer none, .pointer none, .pointer none, .pointer none, .pointer none, .pointer none, .pointer none, .pointer none, .pointer none, .pointer none, .pointer none, .pointer none, .pointer none, .pointer none, .pointer none, .pointer none, .pointer none, .pointer none, .pointer none, .pointer none]) HE1.out.1 HE1.out.2.1 HE2.out.1 HE2.out.2 HE3.out rfl rfl rfl rfl
  obtain ⟨W4, hW4⟩ : ∃ W4, (w3.alloc (.map #[] 0)).alloc (.cells #[ptr A.e, .int .i64 1, ptr w1.heap.size, ptr w2.heap.size, .map (some w3.heap.size), .pointer none, .pointer none, .pointer none, .pointer none, .pointer none, .pointer none, .pointer none, .pointer none, .pointer none, .pointer none, .pointer none, .pointer none, .pointer none, .pointer none, .pointer none, .pointer none, .pointer none, .pointer none, .pointer none, .pointer none, .pointer none, .pointer none, .pointer none, .pointer none, .pointer none, .pointer none, .pointer none, .pointer none, .pointer none, .pointer none, .pointer none, .pointer none] 88) = W4 := ⟨_, rfl⟩
  rw [hW4] at hv ⊢
  have HJ0 := Lib.hid hv
  have hsb1 : W.heap.size ≤ w3.heap.size + 1 := by have h1 := HE1.out.2.1.size; have h2 := HE2.out.2.size; have h3 := HE3.out.size; omega
  have HZB : Hid (W.heap.size ≤ w1.heap.size) := Lib.hid HE1.out.2.1.size
  have HLO := Lib.hid HE1.out.2.2
  obtain ⟨sb, hsb⟩ : ∃ sb, w3.heap.size + 1 = sb := ⟨_, rfl⟩
  obtain ⟨zb, hzb⟩ : ∃ zb, w1.heap.size = zb := ⟨_, rfl⟩
  rw [hsb] at HJ0 hsb1 ⊢
  rw [hzb] at HJ0 HZB ⊢
  have HSB := Lib.hid hsb1
  clear hv hW4 hsb hzb HE1 HE2 HE3 hsb1
  go_loopw [17] (fun s17 wr => ∃ i : Nat, i ≤ 32 ∧ s17 = .int .i64 i ∧ Hid (VJ A sb zb W wr)) (fun s17 _ => 32 - (intOf s17).toNat)
  case atStart => exact ⟨0, by omega, rfl, HJ0⟩
  case round =>
    obtain ⟨i, hi, rfl, HJ⟩ := hrel
    clear HJ0
    by_cases hi32 : i = 32
    · subst hi32
      clear hi
      go_wp2_with fail
      go_ret
      exact ⟨A, sb, zb, rfl, HJ.out.ur, HJ.out.bl, HLO.out, HSB.out, HZB.out⟩
    · have hi2 : (i : Int) < 32 := by omega
      have hi3 : i < 32 := by omega
      obtain ⟨cs, hcs, hsz⟩ := HJ.out.s
      obtain ⟨v, hv⟩ : ∃ v, cs[5 + i]? = some v := ⟨_, Array.getElem?_eq_getElem (by omega)⟩
      have hsl := (ur_lt HJ.out.ur).1
      have HCS := Lib.hid (And.intro hcs hv)
      clear hcs hsz hv hi hi32
      go_wp2_with fail
      go_region_held3 (fun w => True) (first | trivial | (go_keep; done)) (first
        | (go_simp; go_at_call 33; (with_reducible refine (C4.out _).mono ?_); clear C4; rintro e w5 ⟨rfl, hB⟩; have hn := (hB.block sb hsl).trans HCS.out.1; obtain ⟨b0, b1⟩ := cell_of hn (5 + i) _ HCS.out.2; have HN : Hid (VJ A sb zb W (w5.setCell ⟨sb, 5 + i, none⟩ (ptr wr.heap.size))) := Lib.hid (vj_step HJ.out ⟨hB.os, hB.tape, hB.output, hB.size, hB.block⟩ i _ HSB.out); clear hB hn)
        | fail)
      go_wp2_with fail
      go_roundw
      case rel => exact ⟨i + 1, by omega, by go_num, HN⟩
      case measure => simp [intOf]; omega
end Go.Proofs.YtlcaepcojglbiaaGreatDoor.Tp
