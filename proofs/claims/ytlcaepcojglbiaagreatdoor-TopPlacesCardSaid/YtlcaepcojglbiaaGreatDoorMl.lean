/- The queue: due, new, all; the base: what it has: a part of the walk of the whole machine. For all states that the readings allow. -/
import Derived.Carry
import Derived.Test.YtlcaepcojglbiaaGreatDoorMj
import Derived.Test.YtlcaepcojglbiaaGreatDoorMk
namespace Go.Proofs.YtlcaepcojglbiaaGreatDoor.Tp
open Go.RowKit
set_option linter.unusedVariables false
set_option linter.unusedSimpArgs false
theorem qr_set {a : QA} {L : List Tm} {W : World} (h : QR a L W) {p : Addr} (hp : ¬ a.has p.block) (v : Value) : QR a L (W.setCell p v) :=
  qr_same h (by rw [size_set]; exact Nat.le_refl _) fun i hi => Below.heap_setCell _ _ _ _ fun e => hp (e ▸ hi)
theorem qr_set5 {a : QA} {L : List Tm} {W : World} (h : QR a L W) {g : Nat} (hg : ¬ a.has g) (x0 x1 x2 x3 x4 : Value) : QR a L (((((W.setCell ⟨g, 0, none⟩ x0).setCell ⟨g, 1, none⟩ x1).setCell ⟨g, 2, none⟩ x2).setCell ⟨g, 3, none⟩ x3).setCell ⟨g, 4, none⟩ x4) :=
  qr_set (qr_set (qr_set (qr_set (qr_set h (p := ⟨g, 0, none⟩) hg x0) (p := ⟨g, 1, none⟩) hg x1) (p := ⟨g, 2, none⟩) hg x2) (p := ⟨g, 3, none⟩) hg x3) (p := ⟨g, 4, none⟩) hg x4
theorem gf_set5 {F : Nat → Prop} {W w : World} (h : GF F W w) {g : Nat} (hg : W.heap.size ≤ g) (x0 x1 x2 x3 x4 : Value) : GF F W (((((w.setCell ⟨g, 0, none⟩ x0).setCell ⟨g, 1, none⟩ x1).setCell ⟨g, 2, none⟩ x2).setCell ⟨g, 3, none⟩ x3).setCell ⟨g, 4, none⟩ x4) :=
  gf_set (gf_set (gf_set (gf_set (gf_set h (.inr hg) x0) (.inr hg) x1) (.inr hg) x2) (.inr hg) x3) (.inr hg) x4
def isDue (t : Tm) (now : Int) : Bool := !decide (4611686018427387903 ≤ t.soft) && decide (clampv t.soft ≤ clampv now)
set_option maxRecDepth 100000 in
set_option maxHeartbeats 4000000 in
theorem qdue_nil {a : QA} (now : Int) (W : World) (h : QR a [] W) : Calls Tryz.prog 127 #[ptr a.q, .int .i64 now] W fun e W' => e = .returned (.tuple #[tmv tm0, .bool false]) ∧ Below W.heap.size W W' := by
  have HB := Lib.hid ((Below.refl W.heap.size W).alloc (Nat.le_refl _) (.cells #[.int .i64 0, .int .i64 0, .int .i64 0, .int .i64 0, .bool false] 31))
  have C1 := Lib.hid (qfirst_at _ (qr_below h HB.out))
  unfold fsv at C1
  have HN := Lib.hid (heap_alloc_new W (.cells #[.int .i64 0, .int .i64 0, .int .i64 0, .int .i64 0, .bool false] 31))
  clear h
  go_enter Tryz.func127, Tryz.ntmps127
  go_wp2_with (first
    | (go_at_call 102; refine (C1.out).mono ?_; clear C1; rintro e w1 ⟨rfl, hB⟩; have hn := (hB.block W.heap.size (by simp)).trans HN.out; have HN1 := Lib.hid hn; have hs1 := (Array.getElem?_eq_some_iff.1 hn).1; have hne : ¬ W.heap.size = w1.heap.size := (by omega); obtain ⟨⟨k0, z0⟩, ⟨k1, z1⟩, ⟨k2, z2⟩, ⟨k3, z3⟩, k4, z4⟩ := cells5 hn; have HB1 := Lib.hid (HB.out.trans (hB.mono HB.out.size)); clear hn hB)
    | fail)
  exact bodyPost_ret (results_cell_row_tmp Tryz.results127 _ _ W.heap.size 31 _ (0, 0) _ rfl ((Below.heap_alloc _ _ _ (by simp only [size_set]; exact hs1)).trans (set5 HN1.out _ _ _ _ _)) Tryz.underlying31 rfl (by kernel_rfl)) rfl ⟨rfl, (below_set5 HB1.out (Nat.le_refl _) _ _ _ _ _).alloc (by have := HB1.out.size; simp only [size_set]; omega) _⟩
set_option maxRecDepth 100000 in
set_option maxHeartbeats 4000000 in
theorem qdue_no {a : QA} {t : Tm} {L : List Tm} (now : Int) (W : World) (h : QR a (t :: L) W) (hd : isDue t now = false) : Calls Tryz.prog 127 #[ptr a.q, .int .i64 now] W fun e W' => e = .returned (.tuple #[tmv tm0, .bool false]) ∧ Below W.heap.size W W' := by
  have HB := Lib.hid ((Below.refl W.heap.size W).alloc (Nat.le_refl _) (.cells #[.int .i64 0, .int .i64 0, .int .i64 0, .int .i64 0, .bool false] 31))
  have C1 := Lib.hid (qfirst_at _ (qr_below h HB.out))
  unfold fsv at C1
  have HN := Lib.hid (heap_alloc_new W (.cells #[.int .i64 0, .int .i64 0, .int .i64 0, .int .i64 0, .bool false] 31))
  have C3 := Lib.hid clamp_at
  obtain ⟨id, tc, ts, th, tl⟩ := t
  unfold isDue at hd
  dsimp only at hd
  clear h
  by_cases hnv : 4611686018427387903 ≤ ts
  · have C2 := Lib.hid (never_yes hnv)
    clear hd
    go_enter Tryz.func127, Tryz.ntmps127
    go_wp2_with (first
      | (go_at_call 102; refine (C1.out).mono ?_; clear C1; rintro e w1 ⟨rfl, hB⟩; have hn := (hB.block W.heap.size (by simp)).trans HN.out; have HN1 := Lib.hid hn; have hs1 := (Array.getElem?_eq_some_iff.1 hn).1; have hne : ¬ W.heap.size = w1.heap.size := (by omega); obtain ⟨⟨k0, z0⟩, ⟨k1, z1⟩, ⟨k2, z2⟩, ⟨k3, z3⟩, k4, z4⟩ := cells5 hn; have HB1 := Lib.hid (HB.out.trans (hB.mono HB.out.size)); clear hn hB)
      | (go_at_call 62; refine (C2.out _).mono ?_; clear C2; rintro e w2 ⟨rfl, rfl⟩)
      | fail)
    exact bodyPost_ret (results_cell_row_tmp Tryz.results127 _ _ W.heap.size 31 _ (0, 0) _ rfl ((Below.heap_alloc _ _ _ (by simp only [size_set]; exact hs1)).trans (set5 HN1.out _ _ _ _ _)) Tryz.underlying31 rfl (by kernel_rfl)) rfl ⟨rfl, (below_set5 HB1.out (Nat.le_refl _) _ _ _ _ _).alloc (by have := HB1.out.size; simp only [size_set]; omega) _⟩
  · have C2 := Lib.hid (never_no hnv)
    rw [decide_eq_false hnv] at hd
    have hlt : clampv now < clampv ts := by simp at hd; omega
    have hnle : ¬ clampv ts ≤ clampv now := by omega
    obtain ⟨x, hx⟩ : ∃ x, clampv ts = x := ⟨_, rfl⟩
    obtain ⟨y, hy⟩ : ∃ y, clampv now = y := ⟨_, rfl⟩
    have C4 := Lib.hid (C3.out ts)
    have C5 := Lib.hid (C3.out now)
    rw [hx] at hlt hnle C4
    rw [hy] at hlt hnle C5
    clear hd hnv C3 hx hy
    go_enter Tryz.func127, Tryz.ntmps127
    go_wp2_with (first
      | (go_at_call 102; refine (C1.out).mono ?_; clear C1; rintro e w1 ⟨rfl, hB⟩; have hn := (hB.block W.heap.size (by simp)).trans HN.out; have HN1 := Lib.hid hn; have hs1 := (Array.getElem?_eq_some_iff.1 hn).1; have hne : ¬ W.heap.size = w1.heap.size := (by omega); obtain ⟨⟨k0, z0⟩, ⟨k1, z1⟩, ⟨k2, z2⟩, ⟨k3, z3⟩, k4, z4⟩ := cells5 hn; have HB1 := Lib.hid (HB.out.trans (hB.mono HB.out.size)); clear hn hB)
      | (go_at_call 62; refine (C2.out _).mono ?_; clear C2; rintro e w2 ⟨rfl, rfl⟩)
      | (go_at_call 63; refine (C4.out _).mono ?_; clear C4; rintro e w2 ⟨rfl, rfl⟩)
      | (go_at_call 63; refine (C5.out _).mono ?_; clear C5; rintro e w2 ⟨rfl, rfl⟩)
      | fail)
    exact bodyPost_ret (results_cell_row_tmp Tryz.results127 _ _ W.heap.size 31 _ (0, 0) _ rfl ((Below.heap_alloc _ _ _ (by simp only [size_set]; exact hs1)).trans (set5 HN1.out _ _ _ _ _)) Tryz.underlying31 rfl (by kernel_rfl)) rfl ⟨rfl, (below_set5 HB1.out (Nat.le_refl _) _ _ _ _ _).alloc (by have := HB1.out.size; simp only [size_set]; omega) _⟩
theorem qdel_head {a : QA} {t : Tm} {L : List Tm} {W : World} (h : QR a (t :: L) W) : qdel t.id (t :: L) = L := by
  obtain ⟨S, ps, fs, m, f1, f2, hx⟩ := h.x
  cases ps with
  | nil => have := hx.l; simp at this
  | cons p ps =>
    have hl := hx.l
    simp at hl
    have := qx_split hx (A := []) (B := ps) (z := p) rfl
    rw [← hl.1] at this
    rw [this, hl.2]; rfl
set_option maxRecDepth 100000 in
set_option maxHeartbeats 4000000 in
theorem qdue_yes {a : QA} {t : Tm} {L : List Tm} (now : Int) (W : World) (h : QR a (t :: L) W) (hd : isDue t now = true) : Calls Tryz.prog 127 #[ptr a.q, .int .i64 now] W fun e W' => e = .returned (.tuple #[tmv t, .bool true]) ∧ QR a L W' ∧ GF a.foot W W' := by
  have HB := Lib.hid ((Below.refl W.heap.size W).alloc (Nat.le_refl _) (.cells #[.int .i64 0, .int .i64 0, .int .i64 0, .int .i64 0, .bool false] 31))
  have hQ1 := qr_below h HB.out
  have C1 := Lib.hid (qfirst_at _ hQ1)
  unfold fsv at C1
  have HQ1 := Lib.hid hQ1
  have HLT := Lib.hid (qr_lt h)
  have HNQ := Lib.hid h.nq
  have hhd := qdel_head h
  have C6 := Lib.hid (fun w (hq : QR a (t :: L) w) => qdrop_yes t w hq (by simp))
  rw [hhd] at C6
  have HN := Lib.hid (heap_alloc_new W (.cells #[.int .i64 0, .int .i64 0, .int .i64 0, .int .i64 0, .bool false] 31))
  have C3 := Lib.hid clamp_at
  obtain ⟨id, tc, ts, th, tl⟩ := t
  unfold isDue at hd
  dsimp only at hd C6
  clear h hQ1 hhd
  have hnv : ¬ 4611686018427387903 ≤ ts := fun e => by rw [decide_eq_true e] at hd; simp at hd
  have C2 := Lib.hid (never_no hnv)
  rw [decide_eq_false hnv] at hd
  have hle : clampv ts ≤ clampv now := by simpa using hd
  have hnlt : ¬ clampv now < clampv ts := by omega
  obtain ⟨x, hx⟩ : ∃ x, clampv ts = x := ⟨_, rfl⟩
  obtain ⟨y, hy⟩ : ∃ y, clampv now = y := ⟨_, rfl⟩
  have C4 := Lib.hid (C3.out ts)
  have C5 := Lib.hid (C3.out now)
  rw [hx] at hle hnlt C4
  rw [hy] at hle hnlt C5
  clear hd hnv C3 hx hy
  go_enter Tryz.func127, Tryz.ntmps127
  go_wp2_with (first
    | (go_at_call 102; refine (C1.out).mono ?_; clear C1; rintro e w1 ⟨rfl, hB⟩; have hn := (hB.block W.heap.size (by simp)).trans HN.out; have HN1 := Lib.hid hn; have hs1 := (Array.getElem?_eq_some_iff.1 hn).1; have hne : ¬ W.heap.size = w1.heap.size := (by omega); have HQ2 := Lib.hid (qr_below HQ1.out hB); have HB1 := Lib.hid (HB.out.trans (hB.mono HB.out.size)); clear hn hB)
    | (go_at_call 62; refine (C2.out _).mono ?_; clear C2; rintro e w2 ⟨rfl, rfl⟩)
    | (go_at_call 63; refine (C4.out _).mono ?_; clear C4; rintro e w2 ⟨rfl, rfl⟩)
    | (go_at_call 63; refine (C5.out _).mono ?_; clear C5; rintro e w2 ⟨rfl, rfl⟩)
    | (go_at_call 78; refine (C6.out _ (qr_below HQ2.out ((Below.refl _ _).alloc (Nat.le_refl _) _))).mono ?_; clear C6; rintro e w3 ⟨rfl, hQ, hG⟩; have hn := (hG.block W.heap.size (by simp; omega) (fun e => by have := HLT.out W.heap.size (.inr e); omega)).trans ((Below.heap_alloc _ _ W.heap.size hs1).trans HN1.out); obtain ⟨⟨k0, z0⟩, ⟨k1, z1⟩, ⟨k2, z2⟩, ⟨k3, z3⟩, k4, z4⟩ := cells5 hn; have HN3 := Lib.hid hn; have HQ3 := Lib.hid hQ; have HG3 : Hid (GF a.foot W w3) := Lib.hid (gf_trans (gf_alloc (⟨HB1.out.os, HB1.out.tape, HB1.out.output, HB1.out.size, fun i hi _ => HB1.out.block i hi⟩ : GF a.foot W w1) _) hG); clear hn hQ hG)
    | fail)
  exact bodyPost_ret (results_cell_row_tmp Tryz.results127 _ _ W.heap.size 31 _ (0, 0) _ rfl (set5 HN3.out _ _ _ _ _) Tryz.underlying31 rfl (by kernel_rfl)) rfl ⟨rfl, qr_set5 HQ3.out (fun e => by have := HLT.out _ e; omega) _ _ _ _ _, gf_set5 HG3.out (Nat.le_refl _) _ _ _ _ _⟩
end Go.Proofs.YtlcaepcojglbiaaGreatDoor.Tp
namespace Go.Proofs.YtlcaepcojglbiaaGreatDoor.Tp
open Go.RowKit
set_option linter.unusedVariables false
set_option linter.unusedSimpArgs false
set_option maxRecDepth 100000 in
set_option maxHeartbeats 4000000 in
theorem qnew_at (W : World) : Calls Tryz.prog 39 #[] W fun e W' => ∃ a : QA, e = .returned (ptr a.q) ∧ QR a [] W' ∧ Below W.heap.size W W' ∧ (∀ i, a.has i → W.heap.size ≤ i) := by
  have C1 := Lib.hid (tnew_at W)
  have hmm := @run_makeMap Tryz.prog
  go_enter Tryz.func39, Tryz.ntmps39
  go_wp2_with (first
    | (go_at_call 69; refine (C1.out).mono ?_; clear C1; rintro e w1 ⟨rfl, hT, hB⟩; have HT := Lib.hid hT; have HB := Lib.hid hB; clear hT hB)
    | fail)
  go_ret
  have hs1 := HB.out.size
  have hlt := HT.out.lt
  have hB2 := HB.out.alloc HB.out.size (.map #[] 0)
  have hB3 := hB2.alloc hB2.size (.map #[] 0)
  have m1 := mv_made 3 ki entv w1
  have m2 := mv_made 171 kh ki (w1.alloc (.map #[] 0))
  have hT3 := tr_alloc (tr_alloc HT.out (.map #[] 0)) (.map #[] 0)
  have m1' := mv_same (W' := (w1.alloc (.map #[] 0)).alloc (.map #[] 0)) m1 (Below.heap_alloc _ _ _ (by simp))
  have hs : ((w1.alloc (.map #[] 0)).alloc (.map #[] 0)).heap.size = w1.heap.size + 2 := by simp
  have hs' : (w1.alloc (.map #[] 0)).heap.size = w1.heap.size + 1 := by simp
  rw [hs'] at m2
  obtain ⟨w3, hw3⟩ : ∃ w3, (w1.alloc (.map #[] 0)).alloc (.map #[] 0) = w3 := ⟨_, rfl⟩
  rw [hw3] at hB3 m1' m2 hT3 hs
  have hn := heap_alloc_new w3 (.cells #[ptr (W.heap.size + 1), .map (some w1.heap.size), .map (some (w1.heap.size + 1))] 147)
  rw [hs] at hn
  have hsz : ∀ i, i < w3.heap.size → (w3.alloc (.cells #[ptr (W.heap.size + 1), .map (some w1.heap.size), .map (some (w1.heap.size + 1))] 147)).heap[i]? = w3.heap[i]? := fun i hi => Below.heap_alloc _ _ _ hi
  have hws : (w3.alloc (.cells #[ptr (W.heap.size + 1), .map (some w1.heap.size), .map (some (w1.heap.size + 1))] 147)).heap.size = w1.heap.size + 3 := by simp; first | done | omega
  rw [hw3]
  refine ⟨⟨w1.heap.size + 2, W.heap.size + 1, W.heap.size, w1.heap.size, w1.heap.size + 1⟩, rfl, ⟨(cell_of hn 0 _ rfl).1, (cell_of hn 1 _ rfl).1, (cell_of hn 2 _ rfl).1, by rw [hws]; show w1.heap.size + 2 < _; omega, ?_, ?_, ts0, [], [], fun _ => tm0, fun _ => none, fun _ => none, ?_⟩, hB3.alloc hB3.size _, ?_⟩
  · rintro (e | e | e | e)
    · have e : w1.heap.size + 2 = W.heap.size + 1 := e
      omega
    · have e : w1.heap.size + 2 = W.heap.size := e
      omega
    · have e : w1.heap.size + 2 = w1.heap.size := e
      omega
    · have e : w1.heap.size + 2 = w1.heap.size + 1 := e
      omega
  · dsimp only
    refine ⟨?_, ?_, ?_, ?_, ?_⟩ <;> (intro e; omega)
  · exact ⟨tr_alloc hT3 _, ti_0, rfl, by simp, by simp, mv_same m1' (hsz w1.heap.size (by omega)), mv_same m2 (hsz (w1.heap.size + 1) (by omega)), by simp, by simp, by simp⟩
  · rintro i (e | e | e | e | e) <;> dsimp only at e <;> omega
end Go.Proofs.YtlcaepcojglbiaaGreatDoor.Tp
namespace Go.Proofs.YtlcaepcojglbiaaGreatDoor.Tp
open Go.RowKit
set_option linter.unusedVariables false
set_option linter.unusedSimpArgs false
/-- The handle that lies in a variable: of the head of what is left. -/
def hcell (S : TS) (B : List Nat) : Array Value := if B = [] then #[.int .i64 0, .int .i64 0] else #[.int .i64 (B.headD 0 : Nat), .int .i64 (S.N (B.headD 0)).turn]
theorem hcell_nil (S : TS) : hcell S [] = #[.int .i64 0, .int .i64 0] := if_pos rfl
theorem hcell_cons (S : TS) (z : Nat) (B : List Nat) : hcell S (z :: B) = #[.int .i64 (z : Nat), .int .i64 (S.N z).turn] := if_neg (by simp)
theorem hnd_nil (S : TS) : hnd (([] : List Nat).headD 0) (S.N (([] : List Nat).headD 0)).turn = .tuple #[.agg #[.int .i64 0, .int .i64 0], .bool false] := if_pos rfl
theorem hnd_cons (S : TS) {z : Nat} (B : List Nat) (hz : z ≠ 0) : hnd ((z :: B).headD 0) (S.N ((z :: B).headD 0)).turn = .tuple #[.agg #[.int .i64 z, .int .i64 (S.N z).turn], .bool true] := if_neg hz
/-- What holds between two rounds. -/
structure AJ (a : QA) (m : Nat → Tm) (S : TS) (W : World) (A B : List Nat) (v : Value) (hb : Nat) (w : World) : Prop where
  ot : OT W.heap.size v (A.map m) w
  bh : w.heap[hb]? = some (.cells (hcell S B) 171)
  lt : W.heap.size ≤ hb
  ne : v.ownBlock ≠ some hb
  bl : Below W.heap.size W w
def nonemp (B : List Nat) : Bool := match B with | [] => false | _ :: _ => true
theorem hnd_gen (S : TS) (B : List Nat) (hB : ∀ p ∈ B, p ≠ 0) : ∃ px pu : Int, hcell S B = #[.int .i64 px, .int .i64 pu] ∧ hnd (B.headD 0) (S.N (B.headD 0)).turn = .tuple #[.agg #[.int .i64 px, .int .i64 pu], .bool (nonemp B)] := by
  cases B with
  | nil => exact ⟨0, 0, hcell_nil S, hnd_nil S⟩
  | cons z B => exact ⟨z, (S.N z).turn, hcell_cons S z B, hnd_cons S B (hB z (by simp))⟩
set_option maxRecDepth 100000 in
set_option maxHeartbeats 4000000 in
theorem qall_at {a : QA} {L : List Tm} (W : World) (h : QR a L W) : Calls Tryz.prog 110 #[ptr a.q] W fun e W' => (∃ v, e = .returned v ∧ OT W.heap.size v L W') ∧ Below W.heap.size W W' := by
  obtain ⟨S, ps, fs, m, f1, f2, hx⟩ := h.x
  have C1 := Lib.hid (tfirst_at W hx.tr hx.ti)
  have HX0 := Lib.hid (fun w (hB : Below W.heap.size W w) => qx_same hx (W' := w) hB.size fun i hi => hB.block i (qr_lt h i (.inr hi)))
  have c0 := h.c0
  have HC := Lib.hid (And.intro h.c0 (And.intro h.c1 h.c2))
  have hq := h.lt
  have HL := Lib.hid hx.l
  have HTI := Lib.hid hx.ti
  have HPS := Lib.hid (fun p (hp : p ∈ ps) => (show p ≠ 0 ∧ p < 65 by have h1 := hx.ti.bd p (by simp [hp]); have h2 := hx.ti.mx; omega))
  have HJ0 : Hid (∀ w, Below W.heap.size W w → AJ a m S W [] ps (.slice none 0 0) w.heap.size (w.alloc (.cells (hcell S ps) 171))) :=
    Lib.hid fun w hB => ⟨ot_nil _ _, heap_alloc_new w _, hB.size, by simp [Value.ownBlock], hB.alloc hB.size _⟩
  obtain ⟨px, pu, hc, hh⟩ := hnd_gen S ps (fun p hp => (HPS.out p hp).1)
  have HGEN := Lib.hid (fun B (hB : ∀ p ∈ B, p ∈ ps) => hnd_gen S B (fun p hp => (HPS.out p (hB p hp)).1))
  have HNX := Lib.hid (fun A z B w (hT : TR a.tp a.nb S w) (e : A ++ z :: B = ps) => tnext_at (A := A) (B := B) (z := z) (fs := fs) w hT (by rw [e]; exact HTI.out))
  have HRUN : Hid (∀ w, QX a L S ps fs m f1 f2 w → ∀ p ∈ ps,
        (Instr.lookup 145 (.map (some a.ms)) (.agg #[.int .i64 p, .int .i64 (S.N p).turn]) false).run Tryz.prog w = .ok (.int .i64 (m p).id) w ∧
        (Instr.lookup 144 (.map (some a.mb)) (.int .i64 (m p).id) false).run Tryz.prog w = .ok (entv ⟨m p, p, (S.N p).turn⟩) w) := Lib.hid fun w hx p hp => by
      have hp65 := (HPS.out p hp).2
      obtain ⟨lk, hlk⟩ := kh_key (p := ((p : Int), (S.N p).turn)) (by show _ ∧ _; omega) (HTI.out.tu p)
      have r2 := mv_look hx.v2 keyed171 Tryz.underlying145 (zero3 w) kh_inj false ((p : Int), (S.N p).turn) hlk
      rw [qx_f2 hx hp] at r2
      have r1 := mv_look hx.v1 keyed3 Tryz.underlying144 (zero177 w) ki_inj false (m p).id (ki_key (hx.wf p hp).id)
      rw [(hx.g1 (m p).id ⟨m p, p, (S.N p).turn⟩).2 ⟨p, hp, rfl, rfl⟩] at r1
      exact ⟨r2, r1⟩
  rw [hh] at C1
  rw [hc] at HJ0
  have HHC := Lib.hid hc
  obtain ⟨n0, hn0⟩ : ∃ n0, ps.length = n0 := ⟨_, rfl⟩
  have HN0 := Lib.hid hn0
  obtain ⟨ne, hne⟩ : ∃ ne, nonemp ps = ne := ⟨_, rfl⟩
  rw [hne] at C1
  have HNE := Lib.hid hne
  clear h hx hc hh hn0 hne
  go_enter Tryz.func110, Tryz.ntmps110
  go_wp2_with (first
    | (go_at_call 123; refine (C1.out).mono ?_; clear C1; rintro e w1 ⟨rfl, hB⟩; have HJ1 := Lib.hid (HJ0.out w1 hB); clear hB HJ0)
    | fail)
  go_loopg [3, 4, 5] n0 (fun g s3 s4 s5 wr => ∃ (A B : List Nat) (hb : Nat), Hid (A ++ B = ps ∧ g = B.length ∧ AJ a m S W A B s3 hb wr) ∧ s4 = .pointer (some ⟨hb, 0, none⟩) ∧ s5 = .bool (nonemp B))
  case atStart =>
    refine ⟨[], ps, w1.heap.size, Lib.hid ⟨rfl, HN0.out.symm, ?_⟩, rfl, by rw [HNE.out]⟩
    exact HJ1.out
  case round =>
    obtain ⟨A, B, hb, HJ, rfl, rfl⟩ := hrel
    clear HJ1 HHC HNE
    cases B with
    | nil =>
      have hne : nonemp [] = false := rfl
      rw [hne]
      clear hne
      go_wp2
      go_ret
      refine ⟨⟨_, rfl, ?_⟩, HJ.out.2.2.bl⟩
      rw [HL.out, ← HJ.out.1, List.append_nil]
      exact HJ.out.2.2.ot
    | cons z B =>
      have hne : nonemp (z :: B) = true := rfl
      rw [hne]
      clear hne
      have hzp : z ∈ ps := by rw [← HJ.out.1]; simp
      have hz0 := (HPS.out z hzp).1
      have hbl := HJ.out.2.2.bl
      have HX := Lib.hid (HX0.out wr hbl)
      have bq := hbl.block a.q hq
      have d0 := (World.cell?_of_block (a := ⟨a.q, 0, none⟩) bq).trans c0
      have d1 := (World.cell?_of_block (a := ⟨a.q, 1, none⟩) bq).trans HC.out.2.1
      have d2 := (World.cell?_of_block (a := ⟨a.q, 2, none⟩) bq).trans HC.out.2.2
      have hn := HJ.out.2.2.bh
      rw [hcell_cons] at hn
      have hxd : QX a L S ps fs m f1 f2 wr.drew := qx_same HX.out (Nat.le_refl _) fun _ _ => rfl
      have hr := HRUN.out wr.drew hxd z hzp
      have C2 := Lib.hid (fun w (hT : TR a.tp a.nb S w) => HNX.out A z B w hT HJ.out.1)
      obtain ⟨qx, qu, hqc, hqh⟩ := HGEN.out B (fun p hp => by rw [← HJ.out.1]; simp [hp])
      rw [hqh] at C2
      have HQC := Lib.hid hqc
      obtain ⟨zu, hzu⟩ : ∃ zu, (S.N z).turn = zu := ⟨_, rfl⟩
      rw [hzu] at hn hr C2
      have HT : Hid (∃ t, t = m z) := Lib.hid ⟨_, rfl⟩
      obtain ⟨t, ht⟩ := HT.out
      rw [← ht] at hr
      have HTM := Lib.hid ht
      obtain ⟨id, tc, ts, th, tl⟩ := t
      dsimp only at hr
      obtain ⟨r2, r1'⟩ := hr
      have r1 : (Instr.lookup 144 (.map (some a.mb)) (.int .i64 id) false).run Tryz.prog wr.drew = .ok (.agg #[.int .i64 id, .int .i64 tc, .int .i64 ts, .int .i64 th, .bool tl, .int .i64 z, .int .i64 zu]) wr.drew := r1'
      clear r1'
      have HN := Lib.hid hn
      obtain ⟨⟨j0, y0⟩, j1, y1⟩ := cells2 hn
      have HAL : Hid (A.length ≤ 64) := by
        have h1 := HTI.out.cnt
        have h2 := HTI.out.mx
        have h3 : ps.length = A.length + (B.length + 1) := by rw [← HJ.out.1]; simp
        exact Lib.hid (by omega)
      have HHB := Lib.hid (And.intro (Array.getElem?_eq_some_iff.1 hn).1 HJ.out.2.2.lt)
      clear hn hbl bq hxd hqc hqh hzu ht HT
      go_wp2_with fail
      have HOT : Hid ((wr.drew.alloc (.cells #[.int .i64 id, .int .i64 tc, .int .i64 ts, .int .i64 th, .bool tl] 31)).ownsRow W.heap.size 31 5 u3 (A.map m).length (tmcs (A.map m))) := Lib.hid (World.ownsRow.alloc (World.ownsRow.kept (w' := wr.drew) HJ.out.2.2.ot (row := none) ⟨rfl, rfl, rfl, Nat.le_refl _, fun _ _ _ => rfl⟩ (by cases hv : u3.ownBlock <;> simp)) _)
      have HNW := Lib.hid (own_new wr.drew #[.int .i64 id, .int .i64 tc, .int .i64 ts, .int .i64 th, .bool tl] 31 5 1 0 (Nat.zero_le _) rfl (by unfold maxLen; omega))
      have HLE : Hid ((A.map m).length + 1 ≤ 1000000) := Lib.hid (by have := HAL.out; simp only [List.length_map]; omega)
      have HBE : Hid (W.heap.size ≤ (wr.drew.alloc (.cells #[.int .i64 id, .int .i64 tc, .int .i64 ts, .int .i64 th, .bool tl] 31)).heap.size) := Lib.hid (by have := HHB.out; simp; show W.heap.size ≤ wr.heap.size + 1; omega)
      have HBW : Hid (∀ (v' : Value) (w2 : World), (wr.drew.alloc (.cells #[.int .i64 id, .int .i64 tc, .int .i64 ts, .int .i64 th, .bool tl] 31)).grownBy w2 u3.ownBlock → w2.heap[hb]? = some (.cells #[.int .i64 z, .int .i64 zu] 171) ∧ w2.heap[a.q]? = wr.heap[a.q]?) := Lib.hid fun v' w2 hgrow =>
        ⟨(hgrow.block hb (by simp; have := HHB.out; show hb < wr.heap.size + 1; omega) (fun e => HJ.out.2.2.ne e.symm)).trans ((Below.heap_alloc wr.drew _ hb HHB.out.1).trans HN.out),
         (hgrow.block a.q (by simp; have := HHB.out; show a.q < wr.heap.size + 1; omega) (fun e => by have := (ot_lt HJ.out.2.2.ot a.q e.symm).1; omega)).trans (Below.heap_alloc wr.drew _ a.q (show a.q < wr.heap.size by have := HHB.out; omega))⟩
      have hfl := run_field177 (.int .i64 id) (.int .i64 tc) (.int .i64 ts) (.int .i64 th) (.bool tl) (.int .i64 z) (.int .i64 zu)
      go_region_held3 (fun w => w.cell? ⟨a.q, 1, none⟩ = some (.map (some a.mb)) ∧ w.cell? ⟨a.q, 2, none⟩ = some (.map (some a.ms)) ∧ w.cell? ⟨hb, 0, none⟩ = some (.int .i64 z) ∧ w.cell? ⟨hb, 1, none⟩ = some (.int .i64 zu)) (first | exact ⟨d1, d2, j0, j1⟩ | exact ⟨b1, b2, b3, b4⟩ | assumption | (go_keep; done)) (first
        | (refine step_app rfl _ _ 42 rfl Tryz.underlying42 info31z rfl (by omega) (by omega) rfl rfl HOT.out HNW.out (tmcs_one [⟨id, tc, ts, th, tl⟩]) HLE.out HBE.out ?_; intro v' w2 hown hgrow hloc; have hbw := HBW.out v' w2 hgrow; obtain ⟨⟨b3, -⟩, b4, -⟩ := cells2 hbw.1; have b1 := (World.cell?_of_block (a := ⟨a.q, 1, none⟩) hbw.2).trans d1; have b2 := (World.cell?_of_block (a := ⟨a.q, 2, none⟩) hbw.2).trans d2)
        | fail)
      have HOW : Hid (w2.ownsRow W.heap.size 31 5 v' ((A.map m).length + 1) (tmcs (A.map m) ++ [.int .i64 id, .int .i64 tc, .int .i64 ts, .int .i64 th, .bool tl])) := Lib.hid hown
      have HGR : Hid ((wr.drew.alloc (.cells #[.int .i64 id, .int .i64 tc, .int .i64 ts, .int .i64 th, .bool tl] 31)).grownBy w2 u3.ownBlock) := Lib.hid hgrow
      have e0 := (World.cell?_of_block (a := ⟨a.q, 0, none⟩) hbw.2).trans d0
      clear hown hgrow hloc hbw r1 r2 hfl j0 y0 j1 y1 d1 d2 b1 b2 HNW
      go_wp2_with fail
      have hsz2 : wr.heap.size + 1 ≤ w2.heap.size := by have := HGR.out.size; simp at this; exact this
      have hB2 : Below W.heap.size W w2 := below_grown ((below_drew HJ.out.2.2.bl).alloc HJ.out.2.2.bl.size _) (Nat.le_refl _) HGR.out (fun k e => (ot_lt HJ.out.2.2.ot k e).1)
      have hB3 := hB2.alloc hB2.size (.cells #[.int .i64 z, .int .i64 zu] 171)
      have HT3 := Lib.hid (HX0.out _ hB3).tr
      have e0' := (World.cell?_of_block (a := ⟨a.q, 0, none⟩) (Below.heap_alloc w2 (.cells #[.int .i64 z, .int .i64 zu] 171) a.q (by have := hB2.size; omega))).trans e0
      have hn3 := heap_alloc_new w2 (.cells #[.int .i64 z, .int .i64 zu] 171)
      have HB3 := Lib.hid hB3
      have HOT3 := Lib.hid (World.ownsRow.alloc HOW.out (.cells #[.int .i64 z, .int .i64 zu] 171))
      have HNB : Hid (v'.ownBlock ≠ some w2.heap.size) := Lib.hid fun e => by have := (World.ownsRow.lt HOW.out _ e).2; omega
      have hWg : W.heap.size ≤ w2.heap.size := hB2.size
      clear b3 b4 e0 d0 hB2 hB3
      obtain ⟨g, hg⟩ : ∃ g, w2.heap.size = g := ⟨_, rfl⟩
      obtain ⟨w3, hw3⟩ : ∃ w3, w2.alloc (.cells #[.int .i64 z, .int .i64 zu] 171) = w3 := ⟨_, rfl⟩
      have hsz3 : w3.heap.size = g + 1 := by rw [← hw3, ← hg]; simp
      rw [hw3] at HT3 e0' hn3 HB3 HOT3 ⊢
      rw [hg] at hn3 hsz2 HNB hWg ⊢
      clear hw3 hg HGR HOW
      have HN3 := Lib.hid hn3
      have ng1 : ¬ a.q = g := by omega
      have ng2 : ¬ g = a.q := by omega
      obtain ⟨⟨j0, y0⟩, j1, y1⟩ := cells2 hn3
      clear hn3
      go_wp2_with fail
      go_region_with (first
        | (go_simp; go_at_call 128; refine (C2.out w3.drew (tr_drew HT3.out)).mono ?_; clear C2; rintro e w4 ⟨rfl, hB⟩; have hn4 := (hB.block g (show g < w3.heap.size by omega)).trans HN3.out; obtain ⟨⟨i0, x0⟩, i1, x1⟩ := cells2 hn4; have HN4 := Lib.hid hn4; have HB4 := Lib.hid hB; clear hn4 hB)
        | fail)
      all_goals
        have HAJ : Hid (AJ a m S W (A ++ [z]) B v' g ((w4.setCell ⟨g, 0, none⟩ (.int .i64 qx)).setCell ⟨g, 1, none⟩ (.int .i64 qu))) := by
          have hz : ∀ k, v'.ownBlock = some k → ((w4.setCell ⟨g, 0, none⟩ (.int .i64 qx)).setCell ⟨g, 1, none⟩ (.int .i64 qu)).heap[k]? = w3.heap[k]? := fun k hk => by
            have hkg : k ≠ g := fun e => HNB.out (by rw [hk, e])
            have hk3 := (World.ownsRow.lt HOT3.out k hk).2
            exact (Below.heap_setCell _ _ _ _ hkg).trans ((Below.heap_setCell _ _ _ _ hkg).trans (HB4.out.block k hk3))
          refine Lib.hid ⟨?_, by rw [HQC.out]; exact set2 HN4.out _ _, hWg, HNB.out, below_set (below_set (HB3.out.trans ((show Below w3.heap.size w3 w4 from ⟨HB4.out.os, HB4.out.tape, HB4.out.output, HB4.out.size, HB4.out.block⟩).mono HB3.out.size)) hWg _) hWg _⟩
          have ho : OT W.heap.size v' ((A ++ [z]).map m) w3 := by
            unfold OT
            have e : (A ++ [z]).map m = A.map m ++ [⟨id, tc, ts, th, tl⟩] := by rw [List.map_append, HTM.out]; rfl
            rw [e]
            have h := HOT3.out
            have e2 : tmcs (A.map m ++ [⟨id, tc, ts, th, tl⟩]) = tmcs (A.map m) ++ [.int .i64 id, .int .i64 tc, .int .i64 ts, .int .i64 th, .bool tl] := by simp [tmcs, tmc]
            rw [e2, List.length_append]
            exact h
          exact ot_same ho hz
        clear HB4 HN4 HOT3 HB3 HNB HT3 HN3 i0 x0 i1 x1 e0' HX
        go_wp2_with fail
        go_roundg B.length
        case measure => rw [HJ.out.2.1]; simp
        case rel => exact ⟨A ++ [z], B, g, Lib.hid ⟨by rw [← HJ.out.1]; simp, rfl, HAJ.out⟩, rfl, rfl⟩
end Go.Proofs.YtlcaepcojglbiaaGreatDoor.Tp
namespace Go.Proofs.YtlcaepcojglbiaaGreatDoor.Tp
open Go.RowKit
set_option linter.unusedVariables false
set_option linter.unusedSimpArgs false
theorem idx0 (x y : Nat) (w : World) : (Instr.index 102 (.agg #[ptr x, ptr y]) (.int .i64 0)).run Tryz.prog w = .ok (ptr x) w := by kernel_rfl
theorem idx1 (x y : Nat) (w : World) : (Instr.index 102 (.agg #[ptr x, ptr y]) (.int .i64 1)).run Tryz.prog w = .ok (ptr y) w := by kernel_rfl
/-- A function value that is a literal's number. -/
def Enters (F : Nat) : Prop := ∀ args w, (callFunc F args).run Tryz.prog w = .ok (Next.enter F args) w
set_option maxRecDepth 100000 in
set_option maxHeartbeats 4000000 in
/-- each, whatever it calls: J: what holds ahead of the n-th queue; R: at the end. -/
theorem each_at {bb F : Nat} {caps : Array Value} (hF : Enters F) (Q : Nat → Nat) (J : Nat → World → Prop) (R : World → Prop)
    (hc : ∀ n w, J n w → ∀ j, j < 6 → w.cell? ⟨bb, j, none⟩ = some (ptr (Q j)))
    (hcall : ∀ i k, i < 3 → k < 2 → ∀ w, J (2 * i + k) w → Calls Tryz.prog F (#[.int .i64 (i : Nat), .int .i64 (k : Nat), ptr (Q (2 * i + k))] ++ caps) w fun e w' => ∃ b, e = .returned (.bool b) ∧ (b = true → J (2 * i + k + 1) w') ∧ (b = false → R w'))
    (hend : ∀ w, J 6 w → R w) (W : World) (h0 : J 0 W) : Calls Tryz.prog 76 #[ptr bb, .func (.func F) #[] caps] W fun e W' => e = .returned (.tuple #[]) ∧ R W' := by
  have HF := hF
  unfold Enters at HF
  have HC := Lib.hid hc
  have HCALL := Lib.hid hcall
  have HEND := Lib.hid hend
  have H0 := Lib.hid h0
  have hi0 := idx0
  have hi1 := idx1
  clear hF hc hcall hend h0
  go_enter Tryz.func76, Tryz.ntmps76
  go_wp2_with fail
  go_loopw [9] (fun s9 wr => ∃ i : Nat, i ≤ 3 ∧ s9 = .int .i64 i ∧ Hid (J (2 * i) wr)) (fun s9 _ => 3 - (intOf s9).toNat)
  case atStart => exact ⟨0, by omega, rfl, H0⟩
  case round =>
    obtain ⟨i, hi, rfl, HJ⟩ := hrel
    rcases (show i = 0 ∨ i = 1 ∨ i = 2 ∨ i = 3 by omega) with rfl | rfl | rfl | rfl
    · have c0 := HC.out _ _ HJ.out 0 (by omega)
      have c1 := HC.out _ _ HJ.out 1 (by omega)
      clear H0
      go_wp2_with fail
      go_loopw [18] (fun s18 w2 => ∃ k : Nat, k ≤ 2 ∧ s18 = .int .i64 k ∧ Hid (J (2 * 0 + k) w2)) (fun s18 _ => 2 - (intOf s18).toNat)
      case atStart => exact ⟨0, by omega, rfl, HJ⟩
      case round =>
        obtain ⟨k, hk, rfl, HJ2⟩ := hrel
        rcases (show k = 0 ∨ k = 1 ∨ k = 2 by omega) with rfl | rfl | rfl
        · have C := Lib.hid (HCALL.out 0 0 (by omega) (by omega) _ HJ2.out)
          clear HJ2 HJ
          go_wp2_with (first
            | (refine (C.out).mono ?_; clear C; rintro e w3 ⟨b, rfl, hb1, hb2⟩; have HB1 := Lib.hid hb1; have HB2 := Lib.hid hb2; clear hb1 hb2; cases b)
            | fail)
          · exact bodyPost_ret (results_none rfl _ _ _) rfl ⟨rfl, HB2.out (by first | rfl | trivial)⟩
          · go_roundw
            case rel => exact ⟨_, _, _, _, _, _, _, _, _, _, _, _, _, ⟨1, by omega, rfl, Lib.hid (HB1.out (by first | rfl | trivial))⟩, rfl⟩
            case measure => simp [intOf]
        · have C := Lib.hid (HCALL.out 0 1 (by omega) (by omega) _ HJ2.out)
          clear HJ2 HJ
          go_wp2_with (first
            | (refine (C.out).mono ?_; clear C; rintro e w3 ⟨b, rfl, hb1, hb2⟩; have HB1 := Lib.hid hb1; have HB2 := Lib.hid hb2; clear hb1 hb2; cases b)
            | fail)
          · exact bodyPost_ret (results_none rfl _ _ _) rfl ⟨rfl, HB2.out (by first | rfl | trivial)⟩
          · go_roundw
            case rel => exact ⟨_, _, _, _, _, _, _, _, _, _, _, _, _, ⟨2, by omega, rfl, Lib.hid (HB1.out (by first | rfl | trivial))⟩, rfl⟩
            case measure => simp [intOf]
        · clear HJ
          go_wp2_with fail
          go_roundw
          case rel => exact ⟨1, by omega, rfl, HJ2⟩
          case measure => simp [intOf]
    · have c0 := HC.out _ _ HJ.out 2 (by omega)
      have c1 := HC.out _ _ HJ.out 3 (by omega)
      clear H0
      go_wp2_with fail
      go_loopw [18] (fun s18 w2 => ∃ k : Nat, k ≤ 2 ∧ s18 = .int .i64 k ∧ Hid (J (2 * 1 + k) w2)) (fun s18 _ => 2 - (intOf s18).toNat)
      case atStart => exact ⟨0, by omega, rfl, HJ⟩
      case round =>
        obtain ⟨k, hk, rfl, HJ2⟩ := hrel
        rcases (show k = 0 ∨ k = 1 ∨ k = 2 by omega) with rfl | rfl | rfl
        · have C := Lib.hid (HCALL.out 1 0 (by omega) (by omega) _ HJ2.out)
          clear HJ2 HJ
          go_wp2_with (first
            | (refine (C.out).mono ?_; clear C; rintro e w3 ⟨b, rfl, hb1, hb2⟩; have HB1 := Lib.hid hb1; have HB2 := Lib.hid hb2; clear hb1 hb2; cases b)
            | fail)
          · exact bodyPost_ret (results_none rfl _ _ _) rfl ⟨rfl, HB2.out (by first | rfl | trivial)⟩
          · go_roundw
            case rel => exact ⟨_, _, _, _, _, _, _, _, _, _, _, _, _, ⟨1, by omega, rfl, Lib.hid (HB1.out (by first | rfl | trivial))⟩, rfl⟩
            case measure => simp [intOf]
        · have C := Lib.hid (HCALL.out 1 1 (by omega) (by omega) _ HJ2.out)
          clear HJ2 HJ
          go_wp2_with (first
            | (refine (C.out).mono ?_; clear C; rintro e w3 ⟨b, rfl, hb1, hb2⟩; have HB1 := Lib.hid hb1; have HB2 := Lib.hid hb2; clear hb1 hb2; cases b)
            | fail)
          · exact bodyPost_ret (results_none rfl _ _ _) rfl ⟨rfl, HB2.out (by first | rfl | trivial)⟩
          · go_roundw
            case rel => exact ⟨_, _, _, _, _, _, _, _, _, _, _, _, _, ⟨2, by omega, rfl, Lib.hid (HB1.out (by first | rfl | trivial))⟩, rfl⟩
            case measure => simp [intOf]
        · clear HJ
          go_wp2_with fail
          go_roundw
          case rel => exact ⟨2, by omega, rfl, HJ2⟩
          case measure => simp [intOf]
    · have c0 := HC.out _ _ HJ.out 4 (by omega)
      have c1 := HC.out _ _ HJ.out 5 (by omega)
      clear H0
      go_wp2_with fail
      go_loopw [18] (fun s18 w2 => ∃ k : Nat, k ≤ 2 ∧ s18 = .int .i64 k ∧ Hid (J (2 * 2 + k) w2)) (fun s18 _ => 2 - (intOf s18).toNat)
      case atStart => exact ⟨0, by omega, rfl, HJ⟩
      case round =>
        obtain ⟨k, hk, rfl, HJ2⟩ := hrel
        rcases (show k = 0 ∨ k = 1 ∨ k = 2 by omega) with rfl | rfl | rfl
        · have C := Lib.hid (HCALL.out 2 0 (by omega) (by omega) _ HJ2.out)
          clear HJ2 HJ
          go_wp2_with (first
            | (refine (C.out).mono ?_; clear C; rintro e w3 ⟨b, rfl, hb1, hb2⟩; have HB1 := Lib.hid hb1; have HB2 := Lib.hid hb2; clear hb1 hb2; cases b)
            | fail)
          · exact bodyPost_ret (results_none rfl _ _ _) rfl ⟨rfl, HB2.out (by first | rfl | trivial)⟩
          · go_roundw
            case rel => exact ⟨_, _, _, _, _, _, _, _, _, _, _, _, _, ⟨1, by omega, rfl, Lib.hid (HB1.out (by first | rfl | trivial))⟩, rfl⟩
            case measure => simp [intOf]
        · have C := Lib.hid (HCALL.out 2 1 (by omega) (by omega) _ HJ2.out)
          clear HJ2 HJ
          go_wp2_with (first
            | (refine (C.out).mono ?_; clear C; rintro e w3 ⟨b, rfl, hb1, hb2⟩; have HB1 := Lib.hid hb1; have HB2 := Lib.hid hb2; clear hb1 hb2; cases b)
            | fail)
          · exact bodyPost_ret (results_none rfl _ _ _) rfl ⟨rfl, HB2.out (by first | rfl | trivial)⟩
          · go_roundw
            case rel => exact ⟨_, _, _, _, _, _, _, _, _, _, _, _, _, ⟨2, by omega, rfl, Lib.hid (HB1.out (by first | rfl | trivial))⟩, rfl⟩
            case measure => simp [intOf]
        · clear HJ
          go_wp2_with fail
          go_roundw
          case rel => exact ⟨3, by omega, rfl, HJ2⟩
          case measure => simp [intOf]
    · clear H0
      go_wp2
      exact bodyPost_end (results_none rfl _ _ _) rfl ⟨rfl, HEND.out _ HJ.out⟩
end Go.Proofs.YtlcaepcojglbiaaGreatDoor.Tp
namespace Go.Proofs.YtlcaepcojglbiaaGreatDoor.Tp
open Go.RowKit
set_option linter.unusedVariables false
set_option linter.unusedSimpArgs false
/-! A base: six queues. -/
structure BA where
  bb : Nat
  q : Nat → QA
def BA.foot (a : BA) (i : Nat) : Prop := ∃ n, n < 6 ∧ (a.q n).foot i
def BA.has (a : BA) (i : Nat) : Prop := i = a.bb ∨ ∃ n, n < 6 ∧ (a.q n).has i
structure BR (a : BA) (b : Nat → List Tm) (W : World) : Prop where
  c : ∀ j, j < 6 → W.cell? ⟨a.bb, j, none⟩ = some (ptr (a.q j).q)
  lt : a.bb < W.heap.size
  q : ∀ n, n < 6 → QR (a.q n) (b n) W
  dq : ∀ n m, n < 6 → m < 6 → n ≠ m → ∀ i, (a.q n).has i → ¬ (a.q m).has i
  nb : ∀ n, n < 6 → ¬ (a.q n).has a.bb
def bset (b : Nat → List Tm) (n : Nat) (L : List Tm) : Nat → List Tm := fun j => if j = n then L else b j
section
variable {a : BA} {b : Nat → List Tm} {W W' : World}
theorem br_lt (h : BR a b W) : ∀ i, a.has i → i < W.heap.size := by
  rintro i (rfl | ⟨n, hn, hi⟩)
  · exact h.lt
  · exact qr_lt (h.q n hn) i hi
theorem br_same (h : BR a b W) (hs : W.heap.size ≤ W'.heap.size) (hb : ∀ i, a.has i → W'.heap[i]? = W.heap[i]?) : BR a b W' :=
  ⟨fun j hj => (World.cell?_of_block (a := ⟨a.bb, j, none⟩) (hb _ (.inl rfl))).trans (h.c j hj), Nat.lt_of_lt_of_le h.lt hs, fun n hn => qr_same (h.q n hn) hs fun i hi => hb i (.inr ⟨n, hn, hi⟩), h.dq, h.nb⟩
theorem br_gf {F : Nat → Prop} (h : BR a b W) (g : GF F W W') (hd : ∀ i, a.has i → ¬ F i) : BR a b W' := br_same h g.size fun i hi => g.block i (br_lt h i hi) (hd i hi)
theorem br_below (h : BR a b W) (g : Below W.heap.size W W') : BR a b W' := br_same h g.size fun i hi => g.block i (br_lt h i hi)
/-- One queue has changed. -/
theorem br_step (h : BR a b W) {n : Nat} (hn : n < 6) {L : List Tm} (hq : QR (a.q n) L W') (g : GF (a.q n).foot W W') : BR a (bset b n L) W' := by
  refine ⟨fun j hj => (World.cell?_of_block (a := ⟨a.bb, j, none⟩) (g.block a.bb h.lt fun e => h.nb n hn (.inr e))).trans (h.c j hj), Nat.lt_of_lt_of_le h.lt g.size, fun m hm => ?_, h.dq, h.nb⟩
  unfold bset
  by_cases e : m = n
  · rw [if_pos e, e]; exact hq
  · rw [if_neg e]
    exact qr_gf (h.q m hm) g fun i hi e2 => h.dq m n hm hn e i hi (.inr e2)
end
/-- Is an id anywhere? -/
def bhas (id : Int) (b : Nat → List Tm) : Bool := hasId id (b 0) || hasId id (b 1) || hasId id (b 2) || hasId id (b 3) || hasId id (b 4) || hasId id (b 5)
theorem bhas_no {id : Int} {b : Nat → List Tm} (h : ∀ j, j < 6 → hasId id (b j) = false) : bhas id b = false := by
  simp [bhas, h 0, h 1, h 2, h 3, h 4, h 5]
theorem bhas_yes {id : Int} {b : Nat → List Tm} {n : Nat} (hn : n < 6) (h : hasId id (b n) = true) : bhas id b = true := by
  rcases (show n = 0 ∨ n = 1 ∨ n = 2 ∨ n = 3 ∨ n = 4 ∨ n = 5 by omega) with rfl | rfl | rfl | rfl | rfl | rfl <;> simp [bhas, h]
theorem enters94 : Enters 94 := fun args w => by kernel_rfl
theorem enters77 : Enters 77 := fun args w => by kernel_rfl
theorem enters101 : Enters 101 := fun args w => by kernel_rfl
theorem enters107 : Enters 107 := fun args w => by kernel_rfl
theorem enters109 : Enters 109 := fun args w => by kernel_rfl
theorem enters126 : Enters 126 := fun args w => by kernel_rfl
theorem side_at (l : Bool) (W : World) : Calls Tryz.prog 71 #[.bool l] W fun e W' => e = .returned (.int .i64 (if l then 1 else 0 : Nat)) ∧ W' = W := by
  cases l
  all_goals
    go_enter Tryz.func71, Tryz.ntmps71
    go_wp2
    go_ret
    exact ⟨rfl, rfl⟩
/-- One block has changed. -/
theorem set1 {W : World} {g t : Nat} {x0 : Value} (h : W.heap[g]? = some (.cells #[x0] t)) (a : Value) : (W.setCell ⟨g, 0, none⟩ a).heap[g]? = some (.cells #[a] t) := heap_setCell_same _ g 0 _ _ a h
set_option maxRecDepth 100000 in
set_option maxHeartbeats 4000000 in
theorem has1_at {qa : QA} {L : List Tm} {id : Int} {h0 h1 : Nat} {v : Bool} {x y : Value} (w : World) (h : QR qa L w) (hid : i64 id) (hb0 : w.heap[h0]? = some (.cells #[.int .i64 id] 3)) (hb1 : w.heap[h1]? = some (.cells #[.bool v] 4)) :
    Calls Tryz.prog 94 #[x, y, ptr qa.q, ptr h0, ptr h1] w fun e w' => e = .returned (.bool (!hasId id L)) ∧ w'.heap[h1]? = some (.cells #[.bool (hasId id L)] 4) ∧ GF (fun i => i = h1) w w' := by
  have C := Lib.hid (qhas_at id w h hid)
  have k0 := (cell_of hb0 0 _ rfl).1
  have HB1 := Lib.hid hb1
  obtain ⟨r, hr⟩ : ∃ r, hasId id L = r := ⟨_, rfl⟩
  rw [hr] at C ⊢
  clear h hb0 hb1 hr
  go_enter Tryz.func94, Tryz.ntmps94
  go_wp2_with (first
    | (go_at_call 95; refine (C.out).mono ?_; clear C; rintro e w1 ⟨rfl, hB⟩; have hn := (hB.block h1 (Array.getElem?_eq_some_iff.1 HB1.out).1).trans HB1.out; have HN := Lib.hid hn; have HG : Hid (GF (fun i => i = h1) w w1) := Lib.hid (gf_below hB); obtain ⟨j1, y1⟩ := cell_of hn 0 _ rfl; clear hn hB)
    | fail)
  go_ret
  exact ⟨rfl, set1 HN.out _, gf_set HG.out (.inl rfl) _⟩
end Go.Proofs.YtlcaepcojglbiaaGreatDoor.Tp
namespace Go.Proofs.YtlcaepcojglbiaaGreatDoor.Tp
open Go.RowKit
set_option linter.unusedVariables false
set_option linter.unusedSimpArgs false
theorem gf_to_below {F : Nat → Prop} {B : Nat} {W x y : World} (h : Below B W x) (hB : B ≤ W.heap.size) (g : GF F x y) (hF : ∀ i, F i → B ≤ i) : Below B W y :=
  ⟨g.os.trans h.os, g.tape.trans h.tape, g.output.trans h.output, Nat.le_trans h.size g.size, fun i hi => (g.block i (by have := h.size; omega) fun e => by have := hF i e; omega).trans (h.block i hi)⟩
theorem pair_lt {n : Nat} (h : n < 6) : ∃ i k, i < 3 ∧ k < 2 ∧ n = 2 * i + k := ⟨n / 2, n % 2, by omega, by omega, by omega⟩
set_option maxRecDepth 100000 in
set_option maxHeartbeats 4000000 in
theorem bhas_at {a : BA} {b : Nat → List Tm} (id : Int) (W : World) (h : BR a b W) (hid : i64 id) : Calls Tryz.prog 70 #[ptr a.bb, .int .i64 id] W fun e W' => e = .returned (.bool (bhas id b)) ∧ Below W.heap.size W W' := by
  have HB0 : Below W.heap.size W ((W.alloc (.cells #[.int .i64 id] 3)).alloc (.cells #[.bool false] 4)) := ((Below.refl W.heap.size W).alloc (Nat.le_refl _) _).alloc (by simp) _
  have hn2 := heap_alloc_new (W.alloc (.cells #[.int .i64 id] 3)) (.cells #[.bool false] 4)
  rw [show (W.alloc (.cells #[.int .i64 id] 3)).heap.size = W.heap.size + 1 by simp] at hn2
  have hn1 := (Below.heap_alloc (W.alloc (.cells #[.int .i64 id] 3)) (.cells #[.bool false] 4) W.heap.size (by simp)).trans (heap_alloc_new W _)
  have C := each_at (bb := a.bb) (caps := #[ptr W.heap.size, ptr (W.heap.size + 1)]) enters94 (fun j => (a.q j).q)
    (fun n w => Below W.heap.size W w ∧ w.heap[W.heap.size]? = some (.cells #[.int .i64 id] 3) ∧ w.heap[W.heap.size + 1]? = some (.cells #[.bool false] 4) ∧ ∀ j, j < n → hasId id (b j) = false)
    (fun w => Below W.heap.size W w ∧ w.heap[W.heap.size + 1]? = some (.cells #[.bool (bhas id b)] 4))
    (fun n w hJ j hj => (br_below h hJ.1).c j hj)
    (fun i k hi hk w hJ => by
      obtain ⟨hB, e0, e1, hno⟩ := hJ
      refine (has1_at (L := b (2 * i + k)) w ((br_below h hB).q (2 * i + k) (by omega)) hid e0 e1).mono ?_
      rintro e w' ⟨rfl, f1, g⟩
      have hB' := gf_to_below hB (Nat.le_refl _) g (fun i e => by omega)
      refine ⟨_, rfl, fun hb => ?_, fun hb => ?_⟩
      · have hb : hasId id (b (2 * i + k)) = false := by simpa using hb
        rw [hb] at f1
        refine ⟨hB', (g.block _ (Array.getElem?_eq_some_iff.1 e0).1 (by omega)).trans e0, f1, fun j hj => ?_⟩
        by_cases ej : j = 2 * i + k
        · rw [ej]; exact hb
        · exact hno j (by omega)
      · have hb : hasId id (b (2 * i + k)) = true := by simpa using hb
        rw [hb] at f1
        rw [bhas_yes (by omega) hb]
        exact ⟨hB', f1⟩)
    (fun w hJ => by
      rw [bhas_no hJ.2.2.2]
      exact ⟨hJ.1, hJ.2.2.1⟩)
    _ ⟨HB0, hn1, hn2, fun j hj => by omega⟩
  have HC := Lib.hid C
  obtain ⟨r, hr⟩ : ∃ r, bhas id b = r := ⟨_, rfl⟩
  rw [hr] at HC ⊢
  clear h HB0 hn2 hn1 C hr
  go_enter Tryz.func70, Tryz.ntmps70
  go_wp2_with (first
    | (go_at_call 76; refine (HC.out).mono ?_; clear HC; rintro e w1 ⟨rfl, hB, hn⟩; have HB := Lib.hid hB; obtain ⟨j1, y1⟩ := cell_of hn 0 _ rfl; clear hB hn)
    | fail)
  go_ret
  exact ⟨rfl, HB.out⟩
end Go.Proofs.YtlcaepcojglbiaaGreatDoor.Tp
