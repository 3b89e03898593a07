import Derived.Test.YtlmhhpddlgmnkaaPhWalk
namespace Go.Proofs.Ytlmhhpddlgmnkaa.Ph
open Go.RowKit
set_option linter.unusedVariables false
set_option linter.unusedSimpArgs false
theorem cs_same {W : World} {a : Addr} {u v : Value} (h : W.cell? a = some u) : (W.setCell a v).cell? a = some v := by
  first | exact World.cell?_setCell_same W a v h | exact World.cell?_setCell_same _ _ _ h
theorem cs_other {W : World} {a b : Addr} {v : Value} (h : a ≠ b) : (W.setCell a v).cell? b = W.cell? b := by
  first | exact World.cell?_setCell_other W a b v h | exact World.cell?_setCell_other W a v b h | exact World.cell?_setCell_other _ _ _ _ h
structure RW (w : World) (b0 b1 b2 b3 : Nat) (r0 r1 r2 r3 a b c d : Int) (W : World) : Prop where
  x0 : W.cell? ⟨b0, 0, none⟩ = some (.int .i64 r0)
  x1 : W.cell? ⟨b0, 1, none⟩ = some (.int .i64 r1)
  x2 : W.cell? ⟨b1, 0, none⟩ = some (.int .i64 r2)
  x3 : W.cell? ⟨b1, 1, none⟩ = some (.int .i64 r3)
  y0 : W.cell? ⟨b2, 0, none⟩ = some (.int .i64 a)
  y1 : W.cell? ⟨b2, 1, none⟩ = some (.int .i64 b)
  y2 : W.cell? ⟨b3, 0, none⟩ = some (.int .i64 c)
  y3 : W.cell? ⟨b3, 1, none⟩ = some (.int .i64 d)
  f0 : ∀ o, W.frozen? ⟨b0, o, none⟩ = false
  f1 : ∀ o, W.frozen? ⟨b1, o, none⟩ = false
  f2 : ∀ o, W.frozen? ⟨b2, o, none⟩ = false
  f3 : ∀ o, W.frozen? ⟨b3, o, none⟩ = false
  lt : b0 < b1 ∧ b1 < b2 ∧ b2 < b3
  lo : w.heap.size ≤ b0
  bel : Below w.heap.size w W
  sz : b3 < W.heap.size
theorem bcell {W w1 : World} (hb : Below W.heap.size W w1) : (∀ b o, b < W.heap.size → w1.cell? ⟨b, o, none⟩ = W.cell? ⟨b, o, none⟩) ∧ (∀ b o, b < W.heap.size → w1.frozen? ⟨b, o, none⟩ = W.frozen? ⟨b, o, none⟩) :=
  ⟨fun b o h => hb.cell (p := ⟨b, o, none⟩) h, fun b o h => hb.frozen (p := ⟨b, o, none⟩) h⟩
theorem rw_below {w : World} {b0 b1 b2 b3 : Nat} {r0 r1 r2 r3 a b c d : Int} {W W' : World} (h : RW w b0 b1 b2 b3 r0 r1 r2 r3 a b c d W) (hb : Below W.heap.size W W') : RW w b0 b1 b2 b3 r0 r1 r2 r3 a b c d W' := by
  have k := bcell hb
  have s := h.sz
  have l := h.lt
  exact ⟨(k.1 b0 0 (by omega)).trans h.x0, (k.1 b0 1 (by omega)).trans h.x1, (k.1 b1 0 (by omega)).trans h.x2, (k.1 b1 1 (by omega)).trans h.x3, (k.1 b2 0 (by omega)).trans h.y0, (k.1 b2 1 (by omega)).trans h.y1, (k.1 b3 0 (by omega)).trans h.y2, (k.1 b3 1 (by omega)).trans h.y3,
    fun o => (k.2 b0 o (by omega)).trans (h.f0 o), fun o => (k.2 b1 o (by omega)).trans (h.f1 o), fun o => (k.2 b2 o (by omega)).trans (h.f2 o), fun o => (k.2 b3 o (by omega)).trans (h.f3 o), h.lt, h.lo, h.bel.trans (hb.mono h.bel.size), Nat.lt_of_lt_of_le s hb.size⟩
theorem below_set {B : Nat} {w W : World} (h : Below B w W) {p : Addr} (hp : B ≤ p.block) (u : Value) : Below B w (W.setCell p u) :=
  ⟨h.os, h.tape, h.output, by simpa [World.setCell] using h.size, fun i hi => (Below.heap_setCell W p u i (by rintro rfl; omega)).trans (h.block i hi)⟩
theorem ne_addr {b c : Nat} (h : b ≠ c) (o q : Nat) : (⟨b, o, none⟩ : Addr) ≠ ⟨c, q, none⟩ := fun e => h (by injection e)
theorem rw_r0 {w : World} {b0 b1 b2 b3 : Nat} {r0 r1 r2 r3 a b c d : Int} {W : World} (h : RW w b0 b1 b2 b3 r0 r1 r2 r3 a b c d W) (a' b' : Int) : RW w b0 b1 b2 b3 a' b' r2 r3 a b c d ((W.setCell ⟨b0, 0, none⟩ (.int .i64 a')).setCell ⟨b0, 1, none⟩ (.int .i64 b')) := by
  have l := h.lt
  have lo := h.lo
  refine ⟨?_, ?_, ?_, ?_, ?_, ?_, ?_, ?_, fun o => by rw [World.frozen?_setCell, World.frozen?_setCell]; exact h.f0 o, fun o => by rw [World.frozen?_setCell, World.frozen?_setCell]; exact h.f1 o, fun o => by rw [World.frozen?_setCell, World.frozen?_setCell]; exact h.f2 o, fun o => by rw [World.frozen?_setCell, World.frozen?_setCell]; exact h.f3 o, h.lt, h.lo, below_set (below_set h.bel (by show w.heap.size ≤ b0; omega) _) (by show w.heap.size ≤ b0; omega) _, by simpa [World.setCell] using h.sz⟩
  · rw [cs_other (by simp)]; exact cs_same h.x0
  · exact cs_same (by rw [cs_other (by simp)]; exact h.x1)
  · rw [cs_other (ne_addr (by omega) _ _), cs_other (ne_addr (by omega) _ _)]; exact h.x2
  · rw [cs_other (ne_addr (by omega) _ _), cs_other (ne_addr (by omega) _ _)]; exact h.x3
  · rw [cs_other (ne_addr (by omega) _ _), cs_other (ne_addr (by omega) _ _)]; exact h.y0
  · rw [cs_other (ne_addr (by omega) _ _), cs_other (ne_addr (by omega) _ _)]; exact h.y1
  · rw [cs_other (ne_addr (by omega) _ _), cs_other (ne_addr (by omega) _ _)]; exact h.y2
  · rw [cs_other (ne_addr (by omega) _ _), cs_other (ne_addr (by omega) _ _)]; exact h.y3
theorem rw_r1 {w : World} {b0 b1 b2 b3 : Nat} {r0 r1 r2 r3 a b c d : Int} {W : World} (h : RW w b0 b1 b2 b3 r0 r1 r2 r3 a b c d W) (a' b' : Int) : RW w b0 b1 b2 b3 r0 r1 a' b' a b c d ((W.setCell ⟨b1, 0, none⟩ (.int .i64 a')).setCell ⟨b1, 1, none⟩ (.int .i64 b')) := by
  have l := h.lt
  have lo := h.lo
  refine ⟨?_, ?_, ?_, ?_, ?_, ?_, ?_, ?_, fun o => by rw [World.frozen?_setCell, World.frozen?_setCell]; exact h.f0 o, fun o => by rw [World.frozen?_setCell, World.frozen?_setCell]; exact h.f1 o, fun o => by rw [World.frozen?_setCell, World.frozen?_setCell]; exact h.f2 o, fun o => by rw [World.frozen?_setCell, World.frozen?_setCell]; exact h.f3 o, h.lt, h.lo, below_set (below_set h.bel (by show w.heap.size ≤ b1; omega) _) (by show w.heap.size ≤ b1; omega) _, by simpa [World.setCell] using h.sz⟩
  · rw [cs_other (ne_addr (by omega) _ _), cs_other (ne_addr (by omega) _ _)]; exact h.x0
  · rw [cs_other (ne_addr (by omega) _ _), cs_other (ne_addr (by omega) _ _)]; exact h.x1
  · rw [cs_other (by simp)]; exact cs_same h.x2
  · exact cs_same (by rw [cs_other (by simp)]; exact h.x3)
  · rw [cs_other (ne_addr (by omega) _ _), cs_other (ne_addr (by omega) _ _)]; exact h.y0
  · rw [cs_other (ne_addr (by omega) _ _), cs_other (ne_addr (by omega) _ _)]; exact h.y1
  · rw [cs_other (ne_addr (by omega) _ _), cs_other (ne_addr (by omega) _ _)]; exact h.y2
  · rw [cs_other (ne_addr (by omega) _ _), cs_other (ne_addr (by omega) _ _)]; exact h.y3
theorem rw_at {w : World} {b0 b1 b2 b3 : Nat} {r0 r1 r2 r3 a b c d : Int} {W : World} (h : RW w b0 b1 b2 b3 r0 r1 r2 r3 a b c d W) (a' b' : Int) : RW w b0 b1 b2 b3 r0 r1 r2 r3 a' b' c d ((W.setCell ⟨b2, 0, none⟩ (.int .i64 a')).setCell ⟨b2, 1, none⟩ (.int .i64 b')) := by
  have l := h.lt
  have lo := h.lo
  refine ⟨?_, ?_, ?_, ?_, ?_, ?_, ?_, ?_, fun o => by rw [World.frozen?_setCell, World.frozen?_setCell]; exact h.f0 o, fun o => by rw [World.frozen?_setCell, World.frozen?_setCell]; exact h.f1 o, fun o => by rw [World.frozen?_setCell, World.frozen?_setCell]; exact h.f2 o, fun o => by rw [World.frozen?_setCell, World.frozen?_setCell]; exact h.f3 o, h.lt, h.lo, below_set (below_set h.bel (by show w.heap.size ≤ b2; omega) _) (by show w.heap.size ≤ b2; omega) _, by simpa [World.setCell] using h.sz⟩
  · rw [cs_other (ne_addr (by omega) _ _), cs_other (ne_addr (by omega) _ _)]; exact h.x0
  · rw [cs_other (ne_addr (by omega) _ _), cs_other (ne_addr (by omega) _ _)]; exact h.x1
  · rw [cs_other (ne_addr (by omega) _ _), cs_other (ne_addr (by omega) _ _)]; exact h.x2
  · rw [cs_other (ne_addr (by omega) _ _), cs_other (ne_addr (by omega) _ _)]; exact h.x3
  · rw [cs_other (by simp)]; exact cs_same h.y0
  · exact cs_same (by rw [cs_other (by simp)]; exact h.y1)
  · rw [cs_other (ne_addr (by omega) _ _), cs_other (ne_addr (by omega) _ _)]; exact h.y2
  · rw [cs_other (ne_addr (by omega) _ _), cs_other (ne_addr (by omega) _ _)]; exact h.y3
theorem rw_along {w : World} {b0 b1 b2 b3 : Nat} {r0 r1 r2 r3 a b c d : Int} {W : World} (h : RW w b0 b1 b2 b3 r0 r1 r2 r3 a b c d W) (a' b' : Int) : RW w b0 b1 b2 b3 r0 r1 r2 r3 a b a' b' ((W.setCell ⟨b3, 0, none⟩ (.int .i64 a')).setCell ⟨b3, 1, none⟩ (.int .i64 b')) := by
  have l := h.lt
  have lo := h.lo
  refine ⟨?_, ?_, ?_, ?_, ?_, ?_, ?_, ?_, fun o => by rw [World.frozen?_setCell, World.frozen?_setCell]; exact h.f0 o, fun o => by rw [World.frozen?_setCell, World.frozen?_setCell]; exact h.f1 o, fun o => by rw [World.frozen?_setCell, World.frozen?_setCell]; exact h.f2 o, fun o => by rw [World.frozen?_setCell, World.frozen?_setCell]; exact h.f3 o, h.lt, h.lo, below_set (below_set h.bel (by show w.heap.size ≤ b3; omega) _) (by show w.heap.size ≤ b3; omega) _, by simpa [World.setCell] using h.sz⟩
  · rw [cs_other (ne_addr (by omega) _ _), cs_other (ne_addr (by omega) _ _)]; exact h.x0
  · rw [cs_other (ne_addr (by omega) _ _), cs_other (ne_addr (by omega) _ _)]; exact h.x1
  · rw [cs_other (ne_addr (by omega) _ _), cs_other (ne_addr (by omega) _ _)]; exact h.x2
  · rw [cs_other (ne_addr (by omega) _ _), cs_other (ne_addr (by omega) _ _)]; exact h.x3
  · rw [cs_other (ne_addr (by omega) _ _), cs_other (ne_addr (by omega) _ _)]; exact h.y0
  · rw [cs_other (ne_addr (by omega) _ _), cs_other (ne_addr (by omega) _ _)]; exact h.y1
  · rw [cs_other (by simp)]; exact cs_same h.y2
  · exact cs_same (by rw [cs_other (by simp)]; exact h.y3)
theorem rw_drewN {w : World} {b0 b1 b2 b3 : Nat} {r0 r1 r2 r3 a b c d : Int} {W : World} (h : RW w b0 b1 b2 b3 r0 r1 r2 r3 a b c d W) (n : Nat) : RW w b0 b1 b2 b3 r0 r1 r2 r3 a b c d (W.drewN n) := rw_below h ⟨rfl, rfl, rfl, Nat.le_refl _, fun _ _ => rfl⟩
theorem cell_of {W : World} {b t : Nat} {c : Array Value} (h : W.heap[b]? = some (.cells c t)) (i : Nat) (v : Value) (hv : c[i]? = some v) : W.cell? ⟨b, i, none⟩ = some v := by simp [World.cell?, h, hv]
theorem fr_of_blk {W : World} {b t : Nat} {c : Array Value} (h : W.heap[b]? = some (.cells c t)) (i : Nat) : W.frozen? ⟨b, i, none⟩ = false := by simp [World.frozen?, h]
abbrev z2 (a b : Int) : Obj := .cells #[.int .i64 a, .int .i64 b] 27
theorem rw_new (w : World) : RW w w.heap.size (w.heap.size + 1) (w.heap.size + 1 + 1) (w.heap.size + 1 + 1 + 1) 0 0 0 0 0 0 1 0 ((((w.alloc (z2 0 0)).alloc (z2 0 0)).alloc (z2 0 0)).alloc (z2 1 0)) := by
  have s1 : (w.alloc (z2 0 0)).heap.size = w.heap.size + 1 := by simp
  have s2 : ((w.alloc (z2 0 0)).alloc (z2 0 0)).heap.size = w.heap.size + 1 + 1 := by simp
  have s3 : (((w.alloc (z2 0 0)).alloc (z2 0 0)).alloc (z2 0 0)).heap.size = w.heap.size + 1 + 1 + 1 := by simp
  have n0 := heap_alloc_new w (z2 0 0)
  have n1 := heap_alloc_new (w.alloc (z2 0 0)) (z2 0 0)
  have n2 := heap_alloc_new ((w.alloc (z2 0 0)).alloc (z2 0 0)) (z2 0 0)
  have n3 := heap_alloc_new (((w.alloc (z2 0 0)).alloc (z2 0 0)).alloc (z2 0 0)) (z2 1 0)
  rw [s1] at n1
  rw [s2] at n2
  rw [s3] at n3
  have k0 := ((Below.heap_alloc (((w.alloc (z2 0 0)).alloc (z2 0 0)).alloc (z2 0 0)) (z2 1 0) w.heap.size (by omega)).trans ((Below.heap_alloc ((w.alloc (z2 0 0)).alloc (z2 0 0)) (z2 0 0) w.heap.size (by omega)).trans (Below.heap_alloc (w.alloc (z2 0 0)) (z2 0 0) w.heap.size (by omega)))).trans n0
  have k1 := ((Below.heap_alloc (((w.alloc (z2 0 0)).alloc (z2 0 0)).alloc (z2 0 0)) (z2 1 0) (w.heap.size + 1) (by omega)).trans (Below.heap_alloc ((w.alloc (z2 0 0)).alloc (z2 0 0)) (z2 0 0) (w.heap.size + 1) (by omega))).trans n1
  have k2 := (Below.heap_alloc (((w.alloc (z2 0 0)).alloc (z2 0 0)).alloc (z2 0 0)) (z2 1 0) (w.heap.size + 1 + 1) (by omega)).trans n2
  refine ⟨cell_of k0 0 _ rfl, cell_of k0 1 _ rfl, cell_of k1 0 _ rfl, cell_of k1 1 _ rfl, cell_of k2 0 _ rfl, cell_of k2 1 _ rfl, cell_of n3 0 _ rfl, cell_of n3 1 _ rfl, fr_of_blk k0, fr_of_blk k1, fr_of_blk k2, fr_of_blk n3, by omega, Nat.le_refl _, ?_, ?_⟩
  · exact ((((Below.refl _ _).alloc (Nat.le_refl _) _).alloc (by simp) _).alloc (by simp; omega) _).alloc (by simp; omega) _
  · exact (Array.getElem?_eq_some_iff.1 n3).1
theorem tu1 {c d : Int} (h : In c ∧ In d) (w : World) : Calls Try.prog 13 #[pr c d, .int .i64 1] w fun e w' => e = .returned (pr (-d) c) ∧ Below w.heap.size w w' := rturn_at 1 (by omega) h w
theorem tu2 {c d : Int} (h : In c ∧ In d) (w : World) : Calls Try.prog 13 #[pr c d, .int .i64 2] w fun e w' => e = .returned (pr (-c) (-d)) ∧ Below w.heap.size w w' := rturn_at 2 (by omega) h w
theorem tu3 {c d : Int} (h : In c ∧ In d) (w : World) : Calls Try.prog 13 #[pr c d, .int .i64 3] w fun e w' => e = .returned (pr d (-c)) ∧ Below w.heap.size w w' := rturn_at 3 (by omega) h w
set_option maxRecDepth 100000 in
set_option maxHeartbeats 4000000 in
theorem rwalk_at (A : Option Addr) (n c : Nat) (g : Nat → Int) (w : World) (hA : Rd8 w A n g) (N : Nat) (hN : (N : Int) = min (n : Int) 4096) :
    Calls Try.prog 18 #[.slice A n c] w fun e w' => e = .returned (.tuple #[pr (wk g N).a (wk g N).b, pr (wk g N).c (wk g N).d]) ∧ Below w.heap.size w w' := by
  obtain ⟨hg, hA⟩ := hA
  have HA := Lib.hid hA
  have HNE := Lib.hid hN
  clear hA hN
  go_enter Try.func18, Try.ntmps18
  go_wp2_with fail
  have HR0 := Lib.hid (rw_new w)
  generalize hw0 : (((w.alloc (z2 0 0)).alloc (z2 0 0)).alloc (z2 0 0)).alloc (z2 1 0) = w0 at *
  generalize w.heap.size + 1 + 1 + 1 = b3 at *
  generalize w.heap.size + 1 + 1 = b2 at *
  generalize w.heap.size + 1 = b1 at *
  generalize hb0 : w.heap.size = b0 at *
  clear hw0
  have HBS := Lib.hid hb0
  clear hb0
  have HL := Lib.hid (show w.heap.size ≤ b0 from HR0.out.lo)
  go_loopw [12] (fun v12 W => ∃ (i : Nat), i ≤ N ∧ v12 = .int .i64 i ∧ Hid (RW w b0 b1 b2 b3 0 0 0 0 (wk g i).a (wk g i).b (wk g i).c (wk g i).d W)) (fun v12 _ => n - (intOf v12).toNat)
  case atStart => exact ⟨0, by omega, rfl, HR0.out⟩
  case round =>
    obtain ⟨i, hi, rfl, HR⟩ := hrel
    have hu := wk_un g i
    have hb := wk_bd g i
    have hN9 : N ≤ n ∧ N ≤ 4096 := by have := HNE.out; omega
    obtain ⟨hN1, hN2⟩ := hN9
    by_cases hlt : i < N
    · have hltn : i < n := by omega
      have hne : ¬ i = 4096 := by omega
      have hne2 : ¬ (i : Int) = 4096 := by omega
      obtain ⟨b9, off, rfl, hcell⟩ := HA.out (by omega)
      have hblk := World.block_lt_of_cell? w _ (hcell 0 (by omega))
      have hcx : wr.cell? ⟨b9, off + i, none⟩ = some (.int .u8 (g i)) := (HR.out.bel.cell (p := ⟨b9, off + i, none⟩) hblk).trans (hcell i (by omega))
      have hgi := hg i
      obtain ⟨x, hx⟩ : ∃ x, g i = x := ⟨_, rfl⟩
      have hsu : wk g (i + 1) = stepW (x % 4) (wk g i) := by rw [← hx]; rfl
      rw [hx] at hcx hgi
      obtain ⟨x1, x2⟩ := hgi
      have hr1 : x.tmod 4 = x % 4 := Int.tmod_eq_emod_of_nonneg (by omega)
      have HC := Lib.hid hcell
      have HR2' := HR.out
      obtain ⟨st, hst⟩ : ∃ st, wk g i = st := ⟨_, rfl⟩
      rw [hst] at hsu hu hb HR2'
      have HST := Lib.hid hst
      have HSU := Lib.hid hsu
      clear hcell hx hst hsu hg
      obtain ⟨ta, tb, tc, td⟩ := st
      unfold Un at hu
      simp only at hu hb HR2'
      have HR2 := Lib.hid HR2'
      clear HR2'
      have y0 := HR2.out.y0
      have y1 := HR2.out.y1
      have y2 := HR2.out.y2
      have y3 := HR2.out.y3
      rcases (show x % 4 = 0 ∨ x % 4 = 1 ∨ x % 4 = 2 ∨ x % 4 = 3 by omega) with h4 | h4 | h4 | h4
      · rw [h4] at hr1
        have hr3 := h4
        have HSV := Lib.hid (show wk g (i + 1) = ⟨ta + tc, tb + td, tc, td⟩ by rw [HSU.out, h4]; rfl)
        have H4 := Lib.hid h4
        clear h4
        have f2 := HR2.out.f2
        have e1 : IntKind.i64.wrap (ta + tc) = ta + tc := iw (by omega) (by omega)
        have e2 : IntKind.i64.wrap (tb + td) = tb + td := iw (by omega) (by omega)
        clear hu hb
        go_wp2
        refine ⟨⟨i + 1, by omega, by simp, by rw [HSV.out]; exact rw_at HR2.out _ _⟩, by simp [intOf]; omega⟩
      · rw [h4] at hr1
        have hr3 := h4
        have HSV := Lib.hid (show wk g (i + 1) = ⟨ta, tb, -td, tc⟩ by rw [HSU.out, h4]; rfl)
        have H4 := Lib.hid h4
        clear h4
        have CT := Lib.hid (tu1 (c := tc) (d := td) (by unfold In; omega))
        clear hu hb y0 y1
        go_wp2_with (first
          | (go_at_call 13; refine (CT.out _).mono ?_; rintro e w5 ⟨rfl, hb5⟩; have HR5 := Lib.hid (rw_below HR2.out hb5); have f3 := HR5.out.f3; have y2' := HR5.out.y2; have y3' := HR5.out.y3; clear hb5)
          | fail)
        refine ⟨⟨i + 1, by omega, by simp, by rw [HSV.out]; exact rw_along HR5.out _ _⟩, by simp [intOf]; omega⟩
      · rw [h4] at hr1
        have hr3 := h4
        have HSV := Lib.hid (show wk g (i + 1) = ⟨ta, tb, td, -tc⟩ by rw [HSU.out, h4]; rfl)
        have H4 := Lib.hid h4
        clear h4
        have CT := Lib.hid (tu3 (c := tc) (d := td) (by unfold In; omega))
        clear hu hb y0 y1
        go_wp2_with (first
          | (go_at_call 13; refine (CT.out _).mono ?_; rintro e w5 ⟨rfl, hb5⟩; have HR5 := Lib.hid (rw_below HR2.out hb5); have f3 := HR5.out.f3; have y2' := HR5.out.y2; have y3' := HR5.out.y3; clear hb5)
          | fail)
        refine ⟨⟨i + 1, by omega, by simp, by rw [HSV.out]; exact rw_along HR5.out _ _⟩, by simp [intOf]; omega⟩
      · rw [h4] at hr1
        have hr3 := h4
        have HSV := Lib.hid (show wk g (i + 1) = ⟨ta, tb, -tc, -td⟩ by rw [HSU.out, h4]; rfl)
        have H4 := Lib.hid h4
        clear h4
        have CT := Lib.hid (tu2 (c := tc) (d := td) (by unfold In; omega))
        clear hu hb y0 y1
        go_wp2_with (first
          | (go_at_call 13; refine (CT.out _).mono ?_; rintro e w5 ⟨rfl, hb5⟩; have HR5 := Lib.hid (rw_below HR2.out hb5); have f3 := HR5.out.f3; have y2' := HR5.out.y2; have y3' := HR5.out.y3; clear hb5)
          | fail)
        refine ⟨⟨i + 1, by omega, by simp, by rw [HSV.out]; exact rw_along HR5.out _ _⟩, by simp [intOf]; omega⟩
    · have hie : i = N := by omega
      rw [hie] at HR
      clear hu hb
      rcases (show (N = n ∧ N ≤ 4096) ∨ (N < n ∧ N = 4096) by have := HNE.out; omega) with ⟨h1, h2⟩ | ⟨h1, h2⟩
      · have hin : ¬ i < n := by omega
        have HIE := Lib.hid hie
        have HNN := Lib.hid h1
        clear h1 hie h2
        have y0 := HR.out.y0
        have y1 := HR.out.y1
        have y2 := HR.out.y2
        have y3 := HR.out.y3
        have x0 := HR.out.x0
        have x1 := HR.out.x1
        have x2 := HR.out.x2
        have x3 := HR.out.x3
        have f0 := HR.out.f0
        have f1 := HR.out.f1
        have n1 : b0 ≠ b1 := by have := HR.out.lt; omega
        have n2 : b0 ≠ b2 := by have := HR.out.lt; omega
        have n3 : b0 ≠ b3 := by have := HR.out.lt; omega
        have n4 : b1 ≠ b2 := by have := HR.out.lt; omega
        have n5 : b1 ≠ b3 := by have := HR.out.lt; omega
        have n6 : b2 ≠ b3 := by have := HR.out.lt; omega
        go_wp2_with fail
        go_region
        go_wp2
        have HF := Lib.hid (show RW w b0 b1 b2 b3 (wk g N).a (wk g N).b (wk g N).c (wk g N).d (wk g N).a (wk g N).b (wk g N).c (wk g N).d (((((wr.setCell ⟨b0, 0, none⟩ (.int .i64 (wk g N).a)).setCell ⟨b0, 1, none⟩ (.int .i64 (wk g N).b)).setCell ⟨b1, 0, none⟩ (.int .i64 (wk g N).c)).setCell ⟨b1, 1, none⟩ (.int .i64 (wk g N).d)).drew) from rw_drewN (rw_r1 (rw_r0 HR.out (wk g N).a (wk g N).b) (wk g N).c (wk g N).d) 1)
        clear x0 x1 x2 x3 y0 y1 y2 y3 f0 f1
        generalize ((((wr.setCell ⟨b0, 0, none⟩ (.int .i64 (wk g N).a)).setCell ⟨b0, 1, none⟩ (.int .i64 (wk g N).b)).setCell ⟨b1, 0, none⟩ (.int .i64 (wk g N).c)).setCell ⟨b1, 1, none⟩ (.int .i64 (wk g N).d)).drew = wf at HF ⊢
        have x0 := HF.out.x0
        have x1 := HF.out.x1
        have x2 := HF.out.x2
        have x3 := HF.out.x3
        refine bodyPost_ret (v := .tuple #[pr (wk g N).a (wk g N).b, pr (wk g N).c (wk g N).d]) (by simp [results, Try.results18, go_sem, x0, x1, x2, x3]) rfl ⟨rfl, HF.out.bel⟩
      · have hin : i < n := by omega
        have hie2 : i = 4096 := by omega
        have HIE := Lib.hid hie
        obtain ⟨b9, off, rfl, hcell⟩ := HA.out (by omega)
        have hblk := World.block_lt_of_cell? w _ (hcell 0 (by omega))
        have hcx : wr.cell? ⟨b9, off + i, none⟩ = some (.int .u8 (g i)) := (HR.out.bel.cell (p := ⟨b9, off + i, none⟩) hblk).trans (hcell i (by omega))
        have HC := Lib.hid hcell
        clear hcell hie h2 hi hlt
        subst hie2
        have y0 := HR.out.y0
        have y1 := HR.out.y1
        have y2 := HR.out.y2
        have y3 := HR.out.y3
        have x0 := HR.out.x0
        have x1 := HR.out.x1
        have x2 := HR.out.x2
        have x3 := HR.out.x3
        have f0 := HR.out.f0
        have f1 := HR.out.f1
        have n1 : b0 ≠ b1 := by have := HR.out.lt; omega
        have n2 : b0 ≠ b2 := by have := HR.out.lt; omega
        have n3 : b0 ≠ b3 := by have := HR.out.lt; omega
        have n4 : b1 ≠ b2 := by have := HR.out.lt; omega
        have n5 : b1 ≠ b3 := by have := HR.out.lt; omega
        have n6 : b2 ≠ b3 := by have := HR.out.lt; omega
        go_wp2_with fail
        go_region
        go_wp2
        have HF := Lib.hid (show RW w b0 b1 b2 b3 (wk g N).a (wk g N).b (wk g N).c (wk g N).d (wk g N).a (wk g N).b (wk g N).c (wk g N).d (((((wr.setCell ⟨b0, 0, none⟩ (.int .i64 (wk g N).a)).setCell ⟨b0, 1, none⟩ (.int .i64 (wk g N).b)).setCell ⟨b1, 0, none⟩ (.int .i64 (wk g N).c)).setCell ⟨b1, 1, none⟩ (.int .i64 (wk g N).d)).drew) from rw_drewN (rw_r1 (rw_r0 HR.out (wk g N).a (wk g N).b) (wk g N).c (wk g N).d) 1)
        clear x0 x1 x2 x3 y0 y1 y2 y3 f0 f1
        generalize ((((wr.setCell ⟨b0, 0, none⟩ (.int .i64 (wk g N).a)).setCell ⟨b0, 1, none⟩ (.int .i64 (wk g N).b)).setCell ⟨b1, 0, none⟩ (.int .i64 (wk g N).c)).setCell ⟨b1, 1, none⟩ (.int .i64 (wk g N).d)).drew = wf at HF ⊢
        have x0 := HF.out.x0
        have x1 := HF.out.x1
        have x2 := HF.out.x2
        have x3 := HF.out.x3
        refine bodyPost_ret (v := .tuple #[pr (wk g N).a (wk g N).b, pr (wk g N).c (wk g N).d]) (by simp [results, Try.results18, go_sem, x0, x1, x2, x3]) rfl ⟨rfl, HF.out.bel⟩
end Go.Proofs.Ytlmhhpddlgmnkaa.Ph
