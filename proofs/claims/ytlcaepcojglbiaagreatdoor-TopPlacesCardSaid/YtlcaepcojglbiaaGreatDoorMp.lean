/- The base: new, cancel, start: a part of the walk of the whole machine. For all states that the readings allow. -/
import Derived.Test.YtlcaepcojglbiaaGreatDoorMl
namespace Go.Proofs.YtlcaepcojglbiaaGreatDoor.Tp
open Go.RowKit
set_option linter.unusedVariables false
set_option linter.unusedSimpArgs false
abbrev np : Value := .pointer none
def qpv (q : Nat → QA) (n j : Nat) : Value := if j < n then ptr (q j).q else np
structure NJ (W : World) (bb : Nat) (n : Nat) (q : Nat → QA) (w : World) : Prop where
  hc : w.heap[bb]? = some (.cells #[qpv q n 0, qpv q n 1, qpv q n 2, qpv q n 3, qpv q n 4, qpv q n 5] 105)
  qs : ∀ j, j < n → QR (q j) [] w
  lo : ∀ j, j < n → ∀ i, (q j).has i → bb < i
  dq : ∀ j m, j < n → m < n → j ≠ m → ∀ i, (q j).has i → ¬ (q m).has i
  bl : Below bb W w
theorem nj_step {W w w1 : World} {bb n : Nat} {q : Nat → QA} {a : QA} (h : NJ W bb n q w) (hn : n < 6) (hQ : QR a [] w1) (hB : Below w.heap.size w w1) (ha : ∀ i, a.has i → w.heap.size ≤ i) : NJ W bb (n + 1) (fun j => if j = n then a else q j) (w1.setCell ⟨bb, n, none⟩ (ptr a.q)) := by
  have hl := (Array.getElem?_eq_some_iff.1 h.hc).1
  have hne : ∀ i, bb < i → (w1.setCell ⟨bb, n, none⟩ (ptr a.q)).heap[i]? = w1.heap[i]? := fun i hi => Below.heap_setCell _ _ _ _ (show i ≠ bb by omega)
  have sz : (w1.setCell ⟨bb, n, none⟩ (ptr a.q)).heap.size = w1.heap.size := size_set _ _ _
  refine ⟨?_, ?_, ?_, ?_, ?_⟩
  · have h1 := heap_setCell_same w1 bb n _ 105 (ptr a.q) ((hB.block bb hl).trans h.hc)
    rw [h1]
    rcases (show n = 0 ∨ n = 1 ∨ n = 2 ∨ n = 3 ∨ n = 4 ∨ n = 5 by omega) with rfl | rfl | rfl | rfl | rfl | rfl <;> rfl
  · intro j hj
    by_cases e : j = n
    · subst e
      show QR (if j = j then a else q j) [] _
      rw [if_pos rfl]
      exact qr_same hQ (by rw [sz]; exact Nat.le_refl _) fun i hi => hne i (by have := ha i hi; omega)
    · show QR (if j = n then a else q j) [] _
      rw [if_neg e]
      have hq := h.qs j (by omega)
      exact qr_same hq (by rw [sz]; exact hB.size) fun i hi => (hne i (h.lo j (by omega) i hi)).trans (hB.block i (qr_lt hq i hi))
  · intro j hj i hi
    by_cases e : j = n
    · replace hi : (if j = n then a else q j).has i := hi
      rw [if_pos e] at hi
      have := ha i hi; omega
    · replace hi : (if j = n then a else q j).has i := hi
      rw [if_neg e] at hi
      exact h.lo j (by omega) i hi
  · intro j m hj hm hne2 i hi hi2
    replace hi : (if j = n then a else q j).has i := hi
    replace hi2 : (if m = n then a else q m).has i := hi2
    by_cases e : j = n
    · rw [if_pos e] at hi
      rw [if_neg (by omega)] at hi2
      have h1 := ha i hi
      have h2 := qr_lt (h.qs m (by omega)) i hi2
      omega
    · rw [if_neg e] at hi
      by_cases e2 : m = n
      · rw [if_pos e2] at hi2
        have h1 := ha i hi2
        have h2 := qr_lt (h.qs j (by omega)) i hi
        omega
      · rw [if_neg e2] at hi2
        exact h.dq j m (by omega) (by omega) hne2 i hi hi2
  · have h1 := h.bl.trans (hB.mono (by omega))
    exact below_set h1 (Nat.le_refl _) _
set_option maxRecDepth 100000 in
set_option maxHeartbeats 4000000 in
theorem bnew_at (W : World) : Calls Tryz.prog 17 #[] W fun e W' => ∃ a : BA, e = .returned (ptr a.bb) ∧ BR a (fun _ => []) W' ∧ Below W.heap.size W W' ∧ (∀ i, a.has i → W.heap.size ≤ i) := by
  have C1 := Lib.hid qnew_at
  have H0 : Hid (∀ q, NJ W W.heap.size 0 q (W.alloc (.cells #[np, np, np, np, np, np] 105))) := Lib.hid fun q => ⟨heap_alloc_new W _, fun j hj => by omega, fun j hj => by omega, fun j m hj => by omega, (Below.refl W.heap.size W).alloc (Nat.le_refl _) _⟩
  have q0 : Nat → QA := fun _ => ⟨0, 0, 0, 0, 0⟩
  go_enter Tryz.func17, Tryz.ntmps17
  go_wp2_with fail
  go_loopw [6] (fun s6 wr => ∃ (i : Nat) (q : Nat → QA), i ≤ 3 ∧ s6 = .int .i64 i ∧ Hid (NJ W W.heap.size (2 * i) q wr)) (fun s6 _ => 3 - (intOf s6).toNat)
  case atStart => exact ⟨0, q0, by omega, rfl, Lib.hid (H0.out q0)⟩
  case round =>
    obtain ⟨i, q, hi, rfl, HJ⟩ := hrel
    rcases (show i = 0 ∨ i = 1 ∨ i = 2 ∨ i = 3 by omega) with rfl | rfl | rfl | rfl
    · go_wp2_with fail
      go_loopw [9] (fun s9 w2 => ∃ (k : Nat) (q : Nat → QA), k ≤ 2 ∧ s9 = .int .i64 k ∧ Hid (NJ W W.heap.size (2 * 0 + k) q w2)) (fun s9 _ => 2 - (intOf s9).toNat)
      case atStart => exact ⟨0, q, by omega, rfl, HJ⟩
      case round =>
        obtain ⟨k, q, hk, rfl, HJ2⟩ := hrel
        rcases (show k = 0 ∨ k = 1 ∨ k = 2 by omega) with rfl | rfl | rfl
        · clear HJ H0
          have hlt := (Array.getElem?_eq_some_iff.1 HJ2.out.hc).1
          go_wp2_with fail
          go_region_held3 (fun w => True) (first | trivial | (go_keep; done)) (first
            | (go_simp; go_at_call 39; refine (C1.out _).mono ?_; clear C1; rintro e w1 ⟨a, rfl, hQ, hB, hlo⟩; have hn := (hB.block W.heap.size hlt).trans HJ2.out.hc; have b0 := cell_of hn 0 _ rfl; have HN : Hid (NJ W W.heap.size 1 _ (w1.setCell ⟨W.heap.size, 0, none⟩ (ptr a.q))) := Lib.hid (nj_step HJ2.out (by omega) hQ ⟨hB.os, hB.tape, hB.output, hB.size, hB.block⟩ hlo); clear hn hQ hB hlo)
            | fail)
          go_wp2_with fail
          go_roundw
          case rel => (repeat apply Exists.intro); exact ⟨⟨1, _, by omega, rfl, HN⟩, rfl⟩
          case measure => simp [intOf]
        · clear HJ H0
          have hlt := (Array.getElem?_eq_some_iff.1 HJ2.out.hc).1
          go_wp2_with fail
          go_region_held3 (fun w => True) (first | trivial | (go_keep; done)) (first
            | (go_simp; go_at_call 39; refine (C1.out _).mono ?_; clear C1; rintro e w1 ⟨a, rfl, hQ, hB, hlo⟩; have hn := (hB.block W.heap.size hlt).trans HJ2.out.hc; have b0 := cell_of hn 1 _ rfl; have HN : Hid (NJ W W.heap.size 2 _ (w1.setCell ⟨W.heap.size, 1, none⟩ (ptr a.q))) := Lib.hid (nj_step HJ2.out (by omega) hQ ⟨hB.os, hB.tape, hB.output, hB.size, hB.block⟩ hlo); clear hn hQ hB hlo)
            | fail)
          go_wp2_with fail
          go_roundw
          case rel => (repeat apply Exists.intro); exact ⟨⟨2, _, by omega, rfl, HN⟩, rfl⟩
          case measure => simp [intOf]
        · clear HJ
          go_wp2_with fail
          go_roundw
          case rel => exact ⟨1, _, by omega, rfl, HJ2⟩
          case measure => simp [intOf]
    · go_wp2_with fail
      go_loopw [9] (fun s9 w2 => ∃ (k : Nat) (q : Nat → QA), k ≤ 2 ∧ s9 = .int .i64 k ∧ Hid (NJ W W.heap.size (2 * 1 + k) q w2)) (fun s9 _ => 2 - (intOf s9).toNat)
      case atStart => exact ⟨0, q, by omega, rfl, HJ⟩
      case round =>
        obtain ⟨k, q, hk, rfl, HJ2⟩ := hrel
        rcases (show k = 0 ∨ k = 1 ∨ k = 2 by omega) with rfl | rfl | rfl
        · clear HJ H0
          have hlt := (Array.getElem?_eq_some_iff.1 HJ2.out.hc).1
          go_wp2_with fail
          go_region_held3 (fun w => True) (first | trivial | (go_keep; done)) (first
            | (go_simp; go_at_call 39; refine (C1.out _).mono ?_; clear C1; rintro e w1 ⟨a, rfl, hQ, hB, hlo⟩; have hn := (hB.block W.heap.size hlt).trans HJ2.out.hc; have b0 := cell_of hn 2 _ rfl; have HN : Hid (NJ W W.heap.size 3 _ (w1.setCell ⟨W.heap.size, 2, none⟩ (ptr a.q))) := Lib.hid (nj_step HJ2.out (by omega) hQ ⟨hB.os, hB.tape, hB.output, hB.size, hB.block⟩ hlo); clear hn hQ hB hlo)
            | fail)
          go_wp2_with fail
          go_roundw
          case rel => (repeat apply Exists.intro); exact ⟨⟨1, _, by omega, rfl, HN⟩, rfl⟩
          case measure => simp [intOf]
        · clear HJ H0
          have hlt := (Array.getElem?_eq_some_iff.1 HJ2.out.hc).1
          go_wp2_with fail
          go_region_held3 (fun w => True) (first | trivial | (go_keep; done)) (first
            | (go_simp; go_at_call 39; refine (C1.out _).mono ?_; clear C1; rintro e w1 ⟨a, rfl, hQ, hB, hlo⟩; have hn := (hB.block W.heap.size hlt).trans HJ2.out.hc; have b0 := cell_of hn 3 _ rfl; have HN : Hid (NJ W W.heap.size 4 _ (w1.setCell ⟨W.heap.size, 3, none⟩ (ptr a.q))) := Lib.hid (nj_step HJ2.out (by omega) hQ ⟨hB.os, hB.tape, hB.output, hB.size, hB.block⟩ hlo); clear hn hQ hB hlo)
            | fail)
          go_wp2_with fail
          go_roundw
          case rel => (repeat apply Exists.intro); exact ⟨⟨2, _, by omega, rfl, HN⟩, rfl⟩
          case measure => simp [intOf]
        · clear HJ
          go_wp2_with fail
          go_roundw
          case rel => exact ⟨2, _, by omega, rfl, HJ2⟩
          case measure => simp [intOf]
    · go_wp2_with fail
      go_loopw [9] (fun s9 w2 => ∃ (k : Nat) (q : Nat → QA), k ≤ 2 ∧ s9 = .int .i64 k ∧ Hid (NJ W W.heap.size (2 * 2 + k) q w2)) (fun s9 _ => 2 - (intOf s9).toNat)
      case atStart => exact ⟨0, q, by omega, rfl, HJ⟩
      case round =>
        obtain ⟨k, q, hk, rfl, HJ2⟩ := hrel
        rcases (show k = 0 ∨ k = 1 ∨ k = 2 by omega) with rfl | rfl | rfl
        · clear HJ H0
          have hlt := (Array.getElem?_eq_some_iff.1 HJ2.out.hc).1
          go_wp2_with fail
          go_region_held3 (fun w => True) (first | trivial | (go_keep; done)) (first
            | (go_simp; go_at_call 39; refine (C1.out _).mono ?_; clear C1; rintro e w1 ⟨a, rfl, hQ, hB, hlo⟩; have hn := (hB.block W.heap.size hlt).trans HJ2.out.hc; have b0 := cell_of hn 4 _ rfl; have HN : Hid (NJ W W.heap.size 5 _ (w1.setCell ⟨W.heap.size, 4, none⟩ (ptr a.q))) := Lib.hid (nj_step HJ2.out (by omega) hQ ⟨hB.os, hB.tape, hB.output, hB.size, hB.block⟩ hlo); clear hn hQ hB hlo)
            | fail)
          go_wp2_with fail
          go_roundw
          case rel => (repeat apply Exists.intro); exact ⟨⟨1, _, by omega, rfl, HN⟩, rfl⟩
          case measure => simp [intOf]
        · clear HJ H0
          have hlt := (Array.getElem?_eq_some_iff.1 HJ2.out.hc).1
          go_wp2_with fail
          go_region_held3 (fun w => True) (first | trivial | (go_keep; done)) (first
            | (go_simp; go_at_call 39; refine (C1.out _).mono ?_; clear C1; rintro e w1 ⟨a, rfl, hQ, hB, hlo⟩; have hn := (hB.block W.heap.size hlt).trans HJ2.out.hc; have b0 := cell_of hn 5 _ rfl; have HN : Hid (NJ W W.heap.size 6 _ (w1.setCell ⟨W.heap.size, 5, none⟩ (ptr a.q))) := Lib.hid (nj_step HJ2.out (by omega) hQ ⟨hB.os, hB.tape, hB.output, hB.size, hB.block⟩ hlo); clear hn hQ hB hlo)
            | fail)
          go_wp2_with fail
          go_roundw
          case rel => (repeat apply Exists.intro); exact ⟨⟨2, _, by omega, rfl, HN⟩, rfl⟩
          case measure => simp [intOf]
        · clear HJ
          go_wp2_with fail
          go_roundw
          case rel => exact ⟨3, _, by omega, rfl, HJ2⟩
          case measure => simp [intOf]
    · clear H0
      go_wp2
      go_ret
      refine ⟨⟨W.heap.size, q⟩, rfl, ⟨?_, (Array.getElem?_eq_some_iff.1 HJ.out.hc).1, HJ.out.qs, HJ.out.dq, fun n hn e => Nat.lt_irrefl _ (HJ.out.lo n hn _ e)⟩, HJ.out.bl, ?_⟩
      · intro j hj
        rcases (show j = 0 ∨ j = 1 ∨ j = 2 ∨ j = 3 ∨ j = 4 ∨ j = 5 by omega) with rfl | rfl | rfl | rfl | rfl | rfl
        · exact (cell_of HJ.out.hc 0 _ rfl).1
        · exact (cell_of HJ.out.hc 1 _ rfl).1
        · exact (cell_of HJ.out.hc 2 _ rfl).1
        · exact (cell_of HJ.out.hc 3 _ rfl).1
        · exact (cell_of HJ.out.hc 4 _ rfl).1
        · exact (cell_of HJ.out.hc 5 _ rfl).1
      · rintro i (rfl | ⟨n, hn, hi⟩)
        · exact Nat.le_refl _
        · have := HJ.out.lo n hn i hi; exact Nat.le_of_lt this
end Go.Proofs.YtlcaepcojglbiaaGreatDoor.Tp
namespace Go.Proofs.YtlcaepcojglbiaaGreatDoor.Tp
open Go.RowKit
set_option linter.unusedVariables false
set_option linter.unusedSimpArgs false
abbrev tma (t : Tm) : Array Value := #[.int .i64 t.id, .int .i64 t.clock, .int .i64 t.soft, .int .i64 t.hard, .bool t.lazy]
set_option maxRecDepth 100000 in
set_option maxHeartbeats 4000000 in
theorem cancel1_no {qa : QA} {L : List Tm} {id : Int} {h0 h1 h2 : Nat} {x0 x1 x2 x3 x4 v : Value} {x y : Value} (w : World) (h : QR qa L w) (hid : i64 id) (hno : hasId id L = false) (hb0 : w.heap[h0]? = some (.cells #[.int .i64 id] 3)) (hb1 : w.heap[h1]? = some (.cells #[x0, x1, x2, x3, x4] 31)) (hb2 : w.heap[h2]? = some (.cells #[v] 4)) (hne : h1 ≠ h2) :
    Calls Tryz.prog 77 #[x, y, ptr qa.q, ptr h0, ptr h1, ptr h2] w fun e w' => e = .returned (.bool true) ∧ w'.heap[h1]? = some (.cells (tma tm0) 31) ∧ w'.heap[h2]? = some (.cells #[.bool false] 4) ∧ GF (fun i => i = h1 ∨ i = h2) w w' := by
  have C := Lib.hid (qdrop_no id w h hid hno)
  have k0 := (cell_of hb0 0 _ rfl).1
  have HB1 := Lib.hid hb1
  have HB2 := Lib.hid hb2
  have hne' : ¬ h1 = h2 := hne
  have hne2 : ¬ h2 = h1 := Ne.symm hne
  clear h hb0 hb1 hb2 hne
  go_enter Tryz.func77, Tryz.ntmps77
  go_wp2_with (first
    | (go_at_call 78; refine (C.out).mono ?_; clear C; rintro e w1 ⟨rfl, hB⟩; have hn := (hB.block h1 (Array.getElem?_eq_some_iff.1 HB1.out).1).trans HB1.out; have hn2 := (hB.block h2 (Array.getElem?_eq_some_iff.1 HB2.out).1).trans HB2.out; have HN := Lib.hid hn; have HN2 := Lib.hid hn2; have HG : Hid (GF (fun i => i = h1 ∨ i = h2) w w1) := Lib.hid (gf_below hB); obtain ⟨⟨j0, y0⟩, ⟨j1, y1⟩, ⟨j2, y2⟩, ⟨j3, y3⟩, j4, y4⟩ := cells5 hn; obtain ⟨i0, z0⟩ := cell_of hn2 0 _ rfl; clear hn hn2 hB)
    | fail)
  go_ret
  exact ⟨rfl, (Below.heap_setCell _ _ _ _ (by exact hne')).trans (set5 HN.out _ _ _ _ _), set1 ((Below.heap_setCell _ _ _ _ (by exact hne2)).trans ((Below.heap_setCell _ _ _ _ (by exact hne2)).trans ((Below.heap_setCell _ _ _ _ (by exact hne2)).trans ((Below.heap_setCell _ _ _ _ (by exact hne2)).trans ((Below.heap_setCell _ _ _ _ (by exact hne2)).trans HN2.out))))) _,
    gf_set (gf_set (gf_set (gf_set (gf_set (gf_set HG.out (.inl (.inl rfl)) _) (.inl (.inl rfl)) _) (.inl (.inl rfl)) _) (.inl (.inl rfl)) _) (.inl (.inl rfl)) _) (.inl (.inr rfl)) _⟩
set_option maxRecDepth 100000 in
set_option maxHeartbeats 4000000 in
theorem cancel1_yes {qa : QA} {L : List Tm} {t : Tm} {h0 h1 h2 : Nat} {x0 x1 x2 x3 x4 v : Value} {x y : Value} (w : World) (h : QR qa L w) (ht : t ∈ L) (hb0 : w.heap[h0]? = some (.cells #[.int .i64 t.id] 3)) (hb1 : w.heap[h1]? = some (.cells #[x0, x1, x2, x3, x4] 31)) (hb2 : w.heap[h2]? = some (.cells #[v] 4)) (hne : h1 ≠ h2)
    (n0 : ¬ qa.has h1) (n1 : ¬ qa.has h2) :
    Calls Tryz.prog 77 #[x, y, ptr qa.q, ptr h0, ptr h1, ptr h2] w fun e w' => e = .returned (.bool false) ∧ w'.heap[h1]? = some (.cells (tma t) 31) ∧ w'.heap[h2]? = some (.cells #[.bool true] 4) ∧ QR qa (qdel t.id L) w' ∧ GF (fun i => qa.foot i ∨ i = h1 ∨ i = h2) w w' := by
  have C := Lib.hid (qdrop_yes t w h ht)
  have k0 := (cell_of hb0 0 _ rfl).1
  have HB1 := Lib.hid hb1
  have HB2 := Lib.hid hb2
  have N0 := Lib.hid n0
  have N1 := Lib.hid n1
  have hne' : ¬ h1 = h2 := hne
  have hne2 : ¬ h2 = h1 := Ne.symm hne
  obtain ⟨id, tc, ts, th, tl⟩ := t
  dsimp only at C k0 ⊢
  clear h ht hb0 hb1 hb2 hne n0 n1
  go_enter Tryz.func77, Tryz.ntmps77
  go_wp2_with (first
    | (go_at_call 78; refine (C.out).mono ?_; clear C; rintro e w1 ⟨rfl, hQ, hG⟩; have hn := (hG.block h1 (Array.getElem?_eq_some_iff.1 HB1.out).1 (fun e => N0.out (.inr e))).trans HB1.out; have hn2 := (hG.block h2 (Array.getElem?_eq_some_iff.1 HB2.out).1 (fun e => N1.out (.inr e))).trans HB2.out; have HN := Lib.hid hn; have HN2 := Lib.hid hn2; have HQ := Lib.hid hQ; have HG : Hid (GF (fun i => qa.foot i ∨ i = h1 ∨ i = h2) w w1) := Lib.hid (gf_mono hG fun i e => .inl e); obtain ⟨⟨j0, y0⟩, ⟨j1, y1⟩, ⟨j2, y2⟩, ⟨j3, y3⟩, j4, y4⟩ := cells5 hn; obtain ⟨i0, z0⟩ := cell_of hn2 0 _ rfl; clear hn hn2 hQ hG)
    | fail)
  go_ret
  exact ⟨rfl, (Below.heap_setCell _ _ _ _ (by exact hne')).trans (set5 HN.out _ _ _ _ _), set1 ((Below.heap_setCell _ _ _ _ (by exact hne2)).trans ((Below.heap_setCell _ _ _ _ (by exact hne2)).trans ((Below.heap_setCell _ _ _ _ (by exact hne2)).trans ((Below.heap_setCell _ _ _ _ (by exact hne2)).trans ((Below.heap_setCell _ _ _ _ (by exact hne2)).trans HN2.out))))) _,
    qr_set (qr_set (qr_set (qr_set (qr_set (qr_set HQ.out (p := ⟨h1, 0, none⟩) N0.out _) (p := ⟨h1, 1, none⟩) N0.out _) (p := ⟨h1, 2, none⟩) N0.out _) (p := ⟨h1, 3, none⟩) N0.out _) (p := ⟨h1, 4, none⟩) N0.out _) (p := ⟨h2, 0, none⟩) N1.out _,
    gf_set (gf_set (gf_set (gf_set (gf_set (gf_set HG.out (.inl (.inr (.inl rfl))) _) (.inl (.inr (.inl rfl))) _) (.inl (.inr (.inl rfl))) _) (.inl (.inr (.inl rfl))) _) (.inl (.inr (.inl rfl))) _) (.inl (.inr (.inr rfl))) _⟩
theorem gf_of_below {F G : Nat → Prop} {W x y : World} (h : Below W.heap.size W x) (g : GF G x y) (hG : ∀ i, i < W.heap.size → G i → F i) : GF F W y :=
  ⟨g.os.trans h.os, g.tape.trans h.tape, g.output.trans h.output, Nat.le_trans h.size g.size, fun i hi hn => (g.block i (Nat.lt_of_lt_of_le hi h.size) fun e => hn (hG i hi e)).trans (h.block i hi)⟩
theorem enters77' : Enters 77 := enters77
/-- The state that Cancel's function walks on: the blocks h0 h1 h2 (id's box, the result's, ok's). -/
structure CJ (W : World) (h0 h1 h2 : Nat) (id : Int) (w : World) : Prop where
  b : Below W.heap.size W w
  e0 : w.heap[h0]? = some (.cells #[.int .i64 id] 3)
  e1 : ∃ x0 x1 x2 x3 x4, w.heap[h1]? = some (.cells #[x0, x1, x2, x3, x4] 31)
  e2 : ∃ v, w.heap[h2]? = some (.cells #[v] 4)
theorem cj_next {W : World} {h0 h1 h2 : Nat} {id : Int} {w w' : World} (h : CJ W h0 h1 h2 id w) (H0 : W.heap.size ≤ h0) (H1 : W.heap.size ≤ h1) (H2 : W.heap.size ≤ h2) (n1 : h0 ≠ h1) (n2 : h0 ≠ h2) {v : Value}
    (f1 : w'.heap[h1]? = some (.cells (tma tm0) 31)) (f2 : w'.heap[h2]? = some (.cells #[v] 4)) (g : GF (fun i => i = h1 ∨ i = h2) w w') : CJ W h0 h1 h2 id w' :=
  ⟨gf_to_below h.b (Nat.le_refl _) g (fun i e => by rcases e with e | e <;> omega), (g.block _ (Array.getElem?_eq_some_iff.1 h.e0).1 (by omega)).trans h.e0, ⟨_, _, _, _, _, f1⟩, ⟨_, f2⟩⟩
theorem bhas_each {id : Int} {b : Nat → List Tm} (h : bhas id b = false) {j : Nat} (hj : j < 6) : hasId id (b j) = false := by
  cases hh : hasId id (b j) with
  | false => rfl
  | true => have := bhas_yes hj hh; rw [h] at this; cases this
set_option maxRecDepth 100000 in
set_option maxHeartbeats 4000000 in
/-- Cancel, whatever its function's walk has shown. -/
theorem bcancel_gen {bb : Nat} {id : Int} {t : Tm} {v : Bool} (W : World) (R : World → Prop)
    (C : ∀ W4, Below W.heap.size W W4 → W4.heap[W.heap.size]? = some (.cells #[.int .i64 id] 3) → W4.heap[W.heap.size + 1]? = some (.cells (tma tm0) 31) → W4.heap[W.heap.size + 2]? = some (.cells (tma tm0) 31) → W4.heap[W.heap.size + 3]? = some (.cells #[.bool false] 4) →
      Calls Tryz.prog 76 #[ptr bb, .func (.func 77) #[] #[ptr W.heap.size, ptr (W.heap.size + 2), ptr (W.heap.size + 3)]] W4 fun e w => e = .returned (.tuple #[]) ∧ w.heap[W.heap.size + 1]? = some (.cells (tma tm0) 31) ∧ w.heap[W.heap.size + 2]? = some (.cells (tma t) 31) ∧ w.heap[W.heap.size + 3]? = some (.cells #[.bool v] 4) ∧ R w) :
    Calls Tryz.prog 44 #[ptr bb, .int .i64 id] W fun e W' => e = .returned (.tuple #[tmv t, .bool v]) ∧ ∃ w, R w ∧ GF (fun i => i = W.heap.size + 1) w W' := by
  have HB0 : Below W.heap.size W ((((W.alloc (.cells #[.int .i64 id] 3)).alloc (.cells (tma tm0) 31)).alloc (.cells (tma tm0) 31)).alloc (.cells #[.bool false] 4)) := ((((Below.refl W.heap.size W).alloc (Nat.le_refl _) _).alloc (by simp) _).alloc (by simp; omega) _).alloc (by simp; omega) _
  obtain ⟨W1, hW1⟩ : ∃ W1, W.alloc (.cells #[.int .i64 id] 3) = W1 := ⟨_, rfl⟩
  have s1 : W1.heap.size = W.heap.size + 1 := by rw [← hW1]; simp
  have p0 : W1.heap[W.heap.size]? = some (.cells #[.int .i64 id] 3) := by rw [← hW1]; exact heap_alloc_new W _
  rw [hW1] at HB0
  obtain ⟨W2, hW2⟩ : ∃ W2, W1.alloc (.cells (tma tm0) 31) = W2 := ⟨_, rfl⟩
  have s2 : W2.heap.size = W.heap.size + 2 := by rw [← hW2]; simp; omega
  rw [hW2] at HB0
  have p1 : W2.heap[W.heap.size]? = some (.cells #[.int .i64 id] 3) := by rw [← hW2]; exact (Below.heap_alloc _ _ _ (by omega)).trans p0
  have r1 : W2.heap[W.heap.size + 1]? = some (.cells (tma tm0) 31) := by rw [← hW2, ← s1]; exact heap_alloc_new W1 _
  obtain ⟨W3, hW3⟩ : ∃ W3, W2.alloc (.cells (tma tm0) 31) = W3 := ⟨_, rfl⟩
  have s3 : W3.heap.size = W.heap.size + 3 := by rw [← hW3]; simp; omega
  rw [hW3] at HB0
  have p2 : W3.heap[W.heap.size]? = some (.cells #[.int .i64 id] 3) := by rw [← hW3]; exact (Below.heap_alloc _ _ _ (by omega)).trans p1
  have r2 : W3.heap[W.heap.size + 1]? = some (.cells (tma tm0) 31) := by rw [← hW3]; exact (Below.heap_alloc _ _ _ (by omega)).trans r1
  have t2 : W3.heap[W.heap.size + 2]? = some (.cells (tma tm0) 31) := by rw [← hW3, ← s2]; exact heap_alloc_new W2 _
  obtain ⟨W4, hW4⟩ : ∃ W4, W3.alloc (.cells #[.bool false] 4) = W4 := ⟨_, rfl⟩
  rw [hW4] at HB0
  have p3 : W4.heap[W.heap.size]? = some (.cells #[.int .i64 id] 3) := by rw [← hW4]; exact (Below.heap_alloc _ _ _ (by omega)).trans p2
  have r3 : W4.heap[W.heap.size + 1]? = some (.cells (tma tm0) 31) := by rw [← hW4]; exact (Below.heap_alloc _ _ _ (by omega)).trans r2
  have t3 : W4.heap[W.heap.size + 2]? = some (.cells (tma tm0) 31) := by rw [← hW4]; exact (Below.heap_alloc _ _ _ (by omega)).trans t2
  have u3 : W4.heap[W.heap.size + 3]? = some (.cells #[.bool false] 4) := by rw [← hW4, ← s3]; exact heap_alloc_new W3 _
  have HC := Lib.hid (C W4 HB0 p3 r3 t3 u3)
  obtain ⟨ti, tc, ts, th, tl⟩ := t
  clear HB0 C p0 p1 p2 p3 r1 r2 r3 t2 t3 u3 s1 s2 s3
  subst hW1; subst hW2; subst hW3; subst hW4
  go_enter Tryz.func44, Tryz.ntmps44
  go_wp2_with (first
    | (go_at_call 76; refine (HC.out).mono ?_; clear HC; rintro e w1 ⟨rfl, hr, ht, hu, hR⟩; have HR := Lib.hid hr; have HRR := Lib.hid hR; obtain ⟨⟨a0, b0⟩, ⟨a1, b1⟩, ⟨a2, b2⟩, ⟨a3, b3⟩, a4, b4⟩ := cells5 hr; obtain ⟨⟨c0, d0⟩, ⟨c1, d1⟩, ⟨c2, d2⟩, ⟨c3, d3⟩, c4, d4⟩ := cells5 ht; obtain ⟨j1, y1⟩ := cell_of hu 0 _ rfl; clear hr ht hu hR)
    | fail)
  go_region
  simp only [Exit.then]
  rename_i aa
  refine aa _ _ (wp_ret ?_)
  have hX := set5 HR.out (.int .i64 ti) (.int .i64 tc) (.int .i64 ts) (.int .i64 th) (.bool tl)
  have hG := gf_set (gf_set (gf_set (gf_set (gf_set (gf_refl (fun i => i = W.heap.size + 1) w1) (p := ⟨W.heap.size + 1, 0, none⟩) (.inl rfl) (.int .i64 ti)) (p := ⟨W.heap.size + 1, 1, none⟩) (.inl rfl) (.int .i64 tc)) (p := ⟨W.heap.size + 1, 2, none⟩) (.inl rfl) (.int .i64 ts)) (p := ⟨W.heap.size + 1, 3, none⟩) (.inl rfl) (.int .i64 th)) (p := ⟨W.heap.size + 1, 4, none⟩) (.inl rfl) (.bool tl)
  refine bodyPost_ret (results_cell_row_tmp Tryz.results44 _ _ (W.heap.size + 1) 31 _ (0, 0) _ ?_ (by exact hX) Tryz.underlying31 rfl ?_) ?_ ⟨?_, w1, HRR.out, ?_⟩
  · rfl
  · kernel_rfl
  · rfl
  · rfl
  · exact gf_drew hG
theorem bcancel_no {a : BA} {b : Nat → List Tm} (id : Int) (W : World) (h : BR a b W) (hid : i64 id) (hno : bhas id b = false) : Calls Tryz.prog 44 #[ptr a.bb, .int .i64 id] W fun e W' => e = .returned (.tuple #[tmv tm0, .bool false]) ∧ Below W.heap.size W W' := by
  refine (bcancel_gen (t := tm0) (v := false) W (fun w => Below W.heap.size W w) fun W4 HB p r t u => ?_).mono ?_
  · have C := each_at (bb := a.bb) (caps := #[ptr W.heap.size, ptr (W.heap.size + 2), ptr (W.heap.size + 3)]) enters77 (fun j => (a.q j).q)
      (fun n w => CJ W W.heap.size (W.heap.size + 2) (W.heap.size + 3) id w ∧ w.heap[W.heap.size + 1]? = some (.cells (tma tm0) 31) ∧ w.heap[W.heap.size + 2]? = some (.cells (tma tm0) 31) ∧ w.heap[W.heap.size + 3]? = some (.cells #[.bool false] 4))
      (fun w => w.heap[W.heap.size + 1]? = some (.cells (tma tm0) 31) ∧ w.heap[W.heap.size + 2]? = some (.cells (tma tm0) 31) ∧ w.heap[W.heap.size + 3]? = some (.cells #[.bool false] 4) ∧ Below W.heap.size W w)
      (fun n w hJ j hj => (br_below h hJ.1.b).c j hj)
      (fun i k hi hk w hJ => by
        obtain ⟨hJ, r, e1, e2⟩ := hJ
        refine (cancel1_no (L := b (2 * i + k)) w ((br_below h hJ.b).q (2 * i + k) (by omega)) hid (bhas_each hno (by omega)) hJ.e0 e1 e2 (by omega)).mono ?_
        rintro e w' ⟨rfl, f1, f2, g⟩
        exact ⟨_, rfl, fun _ => ⟨cj_next hJ (Nat.le_refl _) (by omega) (by omega) (by omega) (by omega) f1 f2 g, (g.block _ (Array.getElem?_eq_some_iff.1 r).1 (by omega)).trans r, f1, f2⟩, fun hb => by cases hb⟩)
      (fun w hJ => ⟨hJ.2.1, hJ.2.2.1, hJ.2.2.2, hJ.1.b⟩)
      _ ⟨⟨HB, p, ⟨_, _, _, _, _, t⟩, ⟨_, u⟩⟩, r, t, u⟩
    exact C
  · rintro e W' ⟨rfl, w, hw, g⟩
    exact ⟨rfl, gf_to_below hw (Nat.le_refl _) g fun i e => by omega⟩
theorem bcancel_yes {a : BA} {b : Nat → List Tm} {n : Nat} (t : Tm) (W : World) (h : BR a b W) (hid : i64 t.id) (hn : n < 6) (ht : t ∈ b n) (hno : ∀ j, j < n → hasId t.id (b j) = false) : Calls Tryz.prog 44 #[ptr a.bb, .int .i64 t.id] W fun e W' => e = .returned (.tuple #[tmv t, .bool true]) ∧ BR a (bset b n (qdel t.id (b n))) W' ∧ GF (a.q n).foot W W' := by
  refine (bcancel_gen (t := t) (v := true) W (fun w => QR (a.q n) (qdel t.id (b n)) w ∧ GF (a.q n).foot W w) fun W4 HB p r t' u => ?_).mono ?_
  · have C := each_at (bb := a.bb) (caps := #[ptr W.heap.size, ptr (W.heap.size + 2), ptr (W.heap.size + 3)]) enters77 (fun j => (a.q j).q)
      (fun m w => m ≤ n ∧ CJ W W.heap.size (W.heap.size + 2) (W.heap.size + 3) t.id w ∧ w.heap[W.heap.size + 1]? = some (.cells (tma tm0) 31) ∧ w.heap[W.heap.size + 2]? = some (.cells (tma tm0) 31) ∧ w.heap[W.heap.size + 3]? = some (.cells #[.bool false] 4))
      (fun w => w.heap[W.heap.size + 1]? = some (.cells (tma tm0) 31) ∧ w.heap[W.heap.size + 2]? = some (.cells (tma t) 31) ∧ w.heap[W.heap.size + 3]? = some (.cells #[.bool true] 4) ∧ QR (a.q n) (qdel t.id (b n)) w ∧ GF (a.q n).foot W w)
      (fun n w hJ j hj => (br_below h hJ.2.1.b).c j hj)
      (fun i k hi hk w hJ => by
        obtain ⟨hle, hJ, r, e1, e2⟩ := hJ
        by_cases en : 2 * i + k = n
        · have hb := br_below h hJ.b
          have nh : ∀ x, W.heap.size ≤ x → ¬ (a.q n).has x := fun x hx e => by have := qr_lt (h.q n hn) x e; omega
          rw [en]
          refine (cancel1_yes (L := b n) w (hb.q n hn) ht hJ.e0 e1 e2 (by omega) (nh _ (by omega)) (nh _ (by omega))).mono ?_
          rintro e w' ⟨rfl, f1, f2, q, g⟩
          refine ⟨false, rfl, (fun hb => by cases hb), fun _ => ⟨(g.block _ (Array.getElem?_eq_some_iff.1 r).1 ?_).trans r, f1, f2, q, gf_of_below hJ.b g ?_⟩⟩
          · rintro (e | e | e)
            · exact nh _ (by omega) (.inr e)
            · omega
            · omega
          · rintro j hj (e | e | e)
            · exact e
            · omega
            · omega
        · refine (cancel1_no (L := b (2 * i + k)) w ((br_below h hJ.b).q (2 * i + k) (by omega)) hid (hno _ (by omega)) hJ.e0 e1 e2 (by omega)).mono ?_
          rintro e w' ⟨rfl, f1, f2, g⟩
          exact ⟨_, rfl, fun _ => ⟨by omega, cj_next hJ (Nat.le_refl _) (by omega) (by omega) (by omega) (by omega) f1 f2 g, (g.block _ (Array.getElem?_eq_some_iff.1 r).1 (by omega)).trans r, f1, f2⟩, fun hb => by cases hb⟩)
      (fun w hJ => absurd hJ.1 (by omega))
      _ ⟨by omega, ⟨HB, p, ⟨_, _, _, _, _, t'⟩, ⟨_, u⟩⟩, r, t', u⟩
    exact C
  · rintro e W' ⟨rfl, w, ⟨q, g1⟩, g⟩
    have g2 : GF (a.q n).foot W W' := ⟨g.os.trans g1.os, g.tape.trans g1.tape, g.output.trans g1.output, Nat.le_trans g1.size g.size, fun i hi hf => (g.block i (Nat.lt_of_lt_of_le hi g1.size) (by omega)).trans (g1.block i hi hf)⟩
    exact ⟨rfl, br_step h hn (qr_gf q g fun i hi e => by have := qr_lt (h.q n hn) i hi; omega) g2, g2⟩
end Go.Proofs.YtlcaepcojglbiaaGreatDoor.Tp
namespace Go.Proofs.YtlcaepcojglbiaaGreatDoor.Tp
open Go.RowKit
set_option linter.unusedVariables false
set_option linter.unusedSimpArgs false
/-- Which queue is a timer's. -/
def sel (t : Tm) : Nat := 2 * t.clock.toNat + if t.lazy then 1 else 0
set_option maxRecDepth 100000 in
set_option maxHeartbeats 4000000 in
theorem bstart_at {a : BA} {b : Nat → List Tm} (t : Tm) (W : World) (h : BR a b W) (hw : t.wf) (hc : 0 ≤ t.clock ∧ t.clock < 3) (hsh : t.soft ≤ t.hard) (hno : bhas t.id b = false) (hlen : (b (sel t)).length < 64) :
    Calls Tryz.prog 42 #[ptr a.bb, tmv t] W fun e W' => e = .returned (.int .i64 0) ∧ BR a (bset b (sel t) (qins t (b (sel t)))) W' ∧ GF (a.q (sel t)).foot W W' := by
  obtain ⟨id, tc, ts, th, tl⟩ := t
  dsimp only at hc hsh
  obtain ⟨c, rfl⟩ : ∃ c : Nat, tc = c := ⟨tc.toNat, by omega⟩
  have hc3 : c < 3 := by omega
  have hBx : Below W.heap.size W (W.alloc (.cells #[.int .i64 id, .int .i64 c, .int .i64 ts, .int .i64 th, .bool tl] 31)) := (Below.refl W.heap.size W).alloc (Nat.le_refl _) _
  have C1 := Lib.hid (bhas_at id _ (br_below h hBx) hw.id)
  rw [show bhas id b = false from hno] at C1
  have HB := Lib.hid hBx
  have HN := Lib.hid (heap_alloc_new W (.cells #[.int .i64 id, .int .i64 c, .int .i64 ts, .int .i64 th, .bool tl] 31))
  have hs6 : sel ⟨id, c, ts, th, tl⟩ < 6 := by unfold sel; dsimp only; split <;> omega
  have hdef : sel ⟨id, c, ts, th, tl⟩ = 2 * c + (if tl then 1 else 0) := rfl
  obtain ⟨n, hn⟩ : ∃ n, sel ⟨id, c, ts, th, tl⟩ = n := ⟨_, rfl⟩
  rw [hn] at hlen hs6 hdef ⊢
  have hbn : ∀ t' ∈ b n, t'.id ≠ id := fun t' ht' => by
    have : hasId id (b n) = false := by
      cases hh : hasId id (b n) with
      | false => rfl
      | true => have := bhas_yes hs6 hh; rw [show bhas id b = false from hno] at this; cases this
    exact hasId_no this t' ht'
  have hnob : hasId id (b n) = false := by
    cases hh : hasId id (b n) with
    | false => rfl
    | true => have := bhas_yes hs6 hh; rw [show bhas id b = false from hno] at this; cases this
  have C2 := Lib.hid (fun w (hB : BR a b w) => qadd_at ⟨id, c, ts, th, tl⟩ w (hB.q n hs6) hw hsh hnob hlen)
  have C3 := Lib.hid side_at
  have HBR := Lib.hid h
  have HS6 := Lib.hid hs6
  obtain ⟨⟨k0, z0⟩, ⟨k1, z1⟩, ⟨k2, z2⟩, ⟨k3, z3⟩, k4, z4⟩ := cells5 HN.out
  have HCL := Lib.hid hBx.size
  clear h hw hno hlen hbn hnob hn hBx
  rcases (show c = 0 ∨ c = 1 ∨ c = 2 by omega) with rfl | rfl | rfl
  · cases tl
    · replace hdef : n = 0 := by rw [hdef]; rfl
      subst hdef
      go_enter Tryz.func42, Tryz.ntmps42
      go_wp2_with (first
        | (go_at_call 70; refine (C1.out).mono ?_; clear C1; rintro e w1 ⟨rfl, hB⟩; have hn := (hB.block W.heap.size (by simp)).trans HN.out; have HN1 := Lib.hid hn; have HB1 := Lib.hid (HB.out.trans (hB.mono HB.out.size)); have HR1 := Lib.hid (br_below HBR.out HB1.out); have d0 := HR1.out.c 0 (by omega); clear k0 k1 k2 k3 k4 z0 z1 z2 z3 z4; obtain ⟨⟨k0, z0⟩, ⟨k1, z1⟩, ⟨k2, z2⟩, ⟨k3, z3⟩, k4, z4⟩ := cells5 hn; clear hn hB)
        | fail)
      go_still_tail 12, (by kernel_rfl)
      still_call (C3.out _ _)
      repeat still_step
      refine wpStill_nil ?_
      change wpList _ _ _ _ _ w1.drew
      have HD := Lib.hid (br_same HR1.out (W' := w1.drew) (Nat.le_refl _) fun _ _ => rfl)
      go_wp2_with (first
        | (go_at_call 72; refine (C2.out w1.drew HD.out).mono ?_; clear C2; rintro e w2 ⟨rfl, hQ, hG⟩; have HQ := Lib.hid (And.intro hQ hG); clear hQ hG)
        | fail)
      go_ret
      exact ⟨rfl, br_step HD.out HS6.out HQ.out.1 HQ.out.2, gf_trans (gf_drew (⟨HB1.out.os, HB1.out.tape, HB1.out.output, HB1.out.size, fun i hi _ => HB1.out.block i hi⟩ : GF _ W w1)) HQ.out.2⟩
    · replace hdef : n = 1 := by rw [hdef]; rfl
      subst hdef
      go_enter Tryz.func42, Tryz.ntmps42
      go_wp2_with (first
        | (go_at_call 70; refine (C1.out).mono ?_; clear C1; rintro e w1 ⟨rfl, hB⟩; have hn := (hB.block W.heap.size (by simp)).trans HN.out; have HN1 := Lib.hid hn; have HB1 := Lib.hid (HB.out.trans (hB.mono HB.out.size)); have HR1 := Lib.hid (br_below HBR.out HB1.out); have d0 := HR1.out.c 1 (by omega); clear k0 k1 k2 k3 k4 z0 z1 z2 z3 z4; obtain ⟨⟨k0, z0⟩, ⟨k1, z1⟩, ⟨k2, z2⟩, ⟨k3, z3⟩, k4, z4⟩ := cells5 hn; clear hn hB)
        | fail)
      go_still_tail 12, (by kernel_rfl)
      still_call (C3.out _ _)
      repeat still_step
      refine wpStill_nil ?_
      change wpList _ _ _ _ _ w1.drew
      have HD := Lib.hid (br_same HR1.out (W' := w1.drew) (Nat.le_refl _) fun _ _ => rfl)
      go_wp2_with (first
        | (go_at_call 72; refine (C2.out w1.drew HD.out).mono ?_; clear C2; rintro e w2 ⟨rfl, hQ, hG⟩; have HQ := Lib.hid (And.intro hQ hG); clear hQ hG)
        | fail)
      go_ret
      exact ⟨rfl, br_step HD.out HS6.out HQ.out.1 HQ.out.2, gf_trans (gf_drew (⟨HB1.out.os, HB1.out.tape, HB1.out.output, HB1.out.size, fun i hi _ => HB1.out.block i hi⟩ : GF _ W w1)) HQ.out.2⟩
  · cases tl
    · replace hdef : n = 2 := by rw [hdef]; rfl
      subst hdef
      go_enter Tryz.func42, Tryz.ntmps42
      go_wp2_with (first
        | (go_at_call 70; refine (C1.out).mono ?_; clear C1; rintro e w1 ⟨rfl, hB⟩; have hn := (hB.block W.heap.size (by simp)).trans HN.out; have HN1 := Lib.hid hn; have HB1 := Lib.hid (HB.out.trans (hB.mono HB.out.size)); have HR1 := Lib.hid (br_below HBR.out HB1.out); have d0 := HR1.out.c 2 (by omega); clear k0 k1 k2 k3 k4 z0 z1 z2 z3 z4; obtain ⟨⟨k0, z0⟩, ⟨k1, z1⟩, ⟨k2, z2⟩, ⟨k3, z3⟩, k4, z4⟩ := cells5 hn; clear hn hB)
        | fail)
      go_still_tail 12, (by kernel_rfl)
      still_call (C3.out _ _)
      repeat still_step
      refine wpStill_nil ?_
      change wpList _ _ _ _ _ w1.drew
      have HD := Lib.hid (br_same HR1.out (W' := w1.drew) (Nat.le_refl _) fun _ _ => rfl)
      go_wp2_with (first
        | (go_at_call 72; refine (C2.out w1.drew HD.out).mono ?_; clear C2; rintro e w2 ⟨rfl, hQ, hG⟩; have HQ := Lib.hid (And.intro hQ hG); clear hQ hG)
        | fail)
      go_ret
      exact ⟨rfl, br_step HD.out HS6.out HQ.out.1 HQ.out.2, gf_trans (gf_drew (⟨HB1.out.os, HB1.out.tape, HB1.out.output, HB1.out.size, fun i hi _ => HB1.out.block i hi⟩ : GF _ W w1)) HQ.out.2⟩
    · replace hdef : n = 3 := by rw [hdef]; rfl
      subst hdef
      go_enter Tryz.func42, Tryz.ntmps42
      go_wp2_with (first
        | (go_at_call 70; refine (C1.out).mono ?_; clear C1; rintro e w1 ⟨rfl, hB⟩; have hn := (hB.block W.heap.size (by simp)).trans HN.out; have HN1 := Lib.hid hn; have HB1 := Lib.hid (HB.out.trans (hB.mono HB.out.size)); have HR1 := Lib.hid (br_below HBR.out HB1.out); have d0 := HR1.out.c 3 (by omega); clear k0 k1 k2 k3 k4 z0 z1 z2 z3 z4; obtain ⟨⟨k0, z0⟩, ⟨k1, z1⟩, ⟨k2, z2⟩, ⟨k3, z3⟩, k4, z4⟩ := cells5 hn; clear hn hB)
        | fail)
      go_still_tail 12, (by kernel_rfl)
      still_call (C3.out _ _)
      repeat still_step
      refine wpStill_nil ?_
      change wpList _ _ _ _ _ w1.drew
      have HD := Lib.hid (br_same HR1.out (W' := w1.drew) (Nat.le_refl _) fun _ _ => rfl)
      go_wp2_with (first
        | (go_at_call 72; refine (C2.out w1.drew HD.out).mono ?_; clear C2; rintro e w2 ⟨rfl, hQ, hG⟩; have HQ := Lib.hid (And.intro hQ hG); clear hQ hG)
        | fail)
      go_ret
      exact ⟨rfl, br_step HD.out HS6.out HQ.out.1 HQ.out.2, gf_trans (gf_drew (⟨HB1.out.os, HB1.out.tape, HB1.out.output, HB1.out.size, fun i hi _ => HB1.out.block i hi⟩ : GF _ W w1)) HQ.out.2⟩
  · cases tl
    · replace hdef : n = 4 := by rw [hdef]; rfl
      subst hdef
      go_enter Tryz.func42, Tryz.ntmps42
      go_wp2_with (first
        | (go_at_call 70; refine (C1.out).mono ?_; clear C1; rintro e w1 ⟨rfl, hB⟩; have hn := (hB.block W.heap.size (by simp)).trans HN.out; have HN1 := Lib.hid hn; have HB1 := Lib.hid (HB.out.trans (hB.mono HB.out.size)); have HR1 := Lib.hid (br_below HBR.out HB1.out); have d0 := HR1.out.c 4 (by omega); clear k0 k1 k2 k3 k4 z0 z1 z2 z3 z4; obtain ⟨⟨k0, z0⟩, ⟨k1, z1⟩, ⟨k2, z2⟩, ⟨k3, z3⟩, k4, z4⟩ := cells5 hn; clear hn hB)
        | fail)
      go_still_tail 12, (by kernel_rfl)
      still_call (C3.out _ _)
      repeat still_step
      refine wpStill_nil ?_
      change wpList _ _ _ _ _ w1.drew
      have HD := Lib.hid (br_same HR1.out (W' := w1.drew) (Nat.le_refl _) fun _ _ => rfl)
      go_wp2_with (first
        | (go_at_call 72; refine (C2.out w1.drew HD.out).mono ?_; clear C2; rintro e w2 ⟨rfl, hQ, hG⟩; have HQ := Lib.hid (And.intro hQ hG); clear hQ hG)
        | fail)
      go_ret
      exact ⟨rfl, br_step HD.out HS6.out HQ.out.1 HQ.out.2, gf_trans (gf_drew (⟨HB1.out.os, HB1.out.tape, HB1.out.output, HB1.out.size, fun i hi _ => HB1.out.block i hi⟩ : GF _ W w1)) HQ.out.2⟩
    · replace hdef : n = 5 := by rw [hdef]; rfl
      subst hdef
      go_enter Tryz.func42, Tryz.ntmps42
      go_wp2_with (first
        | (go_at_call 70; refine (C1.out).mono ?_; clear C1; rintro e w1 ⟨rfl, hB⟩; have hn := (hB.block W.heap.size (by simp)).trans HN.out; have HN1 := Lib.hid hn; have HB1 := Lib.hid (HB.out.trans (hB.mono HB.out.size)); have HR1 := Lib.hid (br_below HBR.out HB1.out); have d0 := HR1.out.c 5 (by omega); clear k0 k1 k2 k3 k4 z0 z1 z2 z3 z4; obtain ⟨⟨k0, z0⟩, ⟨k1, z1⟩, ⟨k2, z2⟩, ⟨k3, z3⟩, k4, z4⟩ := cells5 hn; clear hn hB)
        | fail)
      go_still_tail 12, (by kernel_rfl)
      still_call (C3.out _ _)
      repeat still_step
      refine wpStill_nil ?_
      change wpList _ _ _ _ _ w1.drew
      have HD := Lib.hid (br_same HR1.out (W' := w1.drew) (Nat.le_refl _) fun _ _ => rfl)
      go_wp2_with (first
        | (go_at_call 72; refine (C2.out w1.drew HD.out).mono ?_; clear C2; rintro e w2 ⟨rfl, hQ, hG⟩; have HQ := Lib.hid (And.intro hQ hG); clear hQ hG)
        | fail)
      go_ret
      exact ⟨rfl, br_step HD.out HS6.out HQ.out.1 HQ.out.2, gf_trans (gf_drew (⟨HB1.out.os, HB1.out.tape, HB1.out.output, HB1.out.size, fun i hi _ => HB1.out.block i hi⟩ : GF _ W w1)) HQ.out.2⟩
end Go.Proofs.YtlcaepcojglbiaaGreatDoor.Tp
