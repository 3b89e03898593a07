import Derived.Test.YtapebhefbokcfaaWinRows
namespace Go.Proofs.Ytapebhefbokcfaa.Win
open Go.RowKit Go.Proofs.Ytapebhefbokcfaa.DebW
set_option linter.unusedVariables false
set_option linter.unusedSimpArgs false
theorem ws_same {b r : Nat} {p a : Int} {L : Nat} {X : Nat → Int} {W W' : World} (h : WS b r p a L X W) (hb : W'.heap[b]? = W.heap[b]?) (hr : W'.heap[r]? = W.heap[r]?) (hs : W.heap.size ≤ W'.heap.size) : WS b r p a L X W' :=
  ⟨(World.cell?_of_block (a := ⟨b, 0, none⟩) hb).trans h.c0, (World.cell?_of_block (a := ⟨b, 1, none⟩) hb).trans h.c1, (World.cell?_of_block (a := ⟨b, 2, none⟩) hb).trans h.c2, (World.frozen?_of_block (a := ⟨b, 1, none⟩) hb).trans h.z1, fun j hj => (World.cell?_of_block (a := ⟨r, j, none⟩) hr).trans (h.cr j hj), fun j hj => (World.frozen?_of_block (a := ⟨r, j, none⟩) hr).trans (h.zr j hj), Nat.lt_of_lt_of_le h.hb hs, Nat.lt_of_lt_of_le h.hr hs, h.ne⟩
theorem wi_same {b r : Nat} {p a : Int} {L : Nat} {S : Int → Int} {W W' : World} (h : WI b r p a L S W) (hb : W'.heap[b]? = W.heap[b]?) (hr : W'.heap[r]? = W.heap[r]?) (hs : W.heap.size ≤ W'.heap.size) : WI b r p a L S W' := by
  obtain ⟨X, h1, h2⟩ := h
  exact ⟨X, ws_same h1 hb hr hs, h2⟩
theorem wi_set {b r : Nat} {p a : Int} {L : Nat} {S : Int → Int} {W : World} (h : WI b r p a L S W) {x : Addr} (hb : b ≠ x.block) (hr : r ≠ x.block) (v : Value) : WI b r p a L S (W.setCell x v) :=
  wi_same h (Below.heap_setCell W x v b hb) (Below.heap_setCell W x v r hr) (by simp [World.setCell])
theorem wi_drewN {b r : Nat} {p a : Int} {L : Nat} {S : Int → Int} {W : World} (h : WI b r p a L S W) (n : Nat) : WI b r p a L S (W.drewN n) := wi_same h rfl rfl (Nat.le_refl _)
/-- Within a round: the act's own block and the row that is wanted are new; the window alone has changed. -/
structure PS (b r : Nat) (p a : Int) (L : Nat) (S : Int → Int) (wr : World) (z0 z1 z2 z3 : Int) (X : Nat → Int) (W : World) : Prop where
  g : G2 b r wr W
  sz : wr.heap.size + 2 ≤ W.heap.size
  wi : WI b r p a L S W
  c0 : W.cell? ⟨wr.heap.size, 0, none⟩ = some (.int .u8 z0)
  c1 : W.cell? ⟨wr.heap.size, 1, none⟩ = some (.int .i64 z1)
  c2 : W.cell? ⟨wr.heap.size, 2, none⟩ = some (.int .i64 z2)
  c3 : W.cell? ⟨wr.heap.size, 3, none⟩ = some (.int .i64 z3)
  x : ∀ j, j < L → W.cell? ⟨wr.heap.size + 1, j, none⟩ = some (.int .i64 (X j))
  f : ∀ j, j < L → W.frozen? ⟨wr.heap.size + 1, j, none⟩ = false
theorem ps_new {b r : Nat} {p a : Int} {L : Nat} {S : Int → Int} (wr : World) (z0 z1 z2 z3 : Int) (h : WI b r p a L S wr) : PS b r p a L S wr z0 z1 z2 z3 (fun _ => 0) ((wr.alloc (.cells #[.int .u8 z0, .int .i64 z1, .int .i64 z2, .int .i64 z3] 46)).alloc (.cells (madeCells #[.int .i64 0] L) 3)) := by
  have hl := wi_lt h
  have hs : (wr.alloc (.cells #[.int .u8 z0, .int .i64 z1, .int .i64 z2, .int .i64 z3] 46)).heap.size = wr.heap.size + 1 := by simp
  have hA : ((wr.alloc (.cells #[.int .u8 z0, .int .i64 z1, .int .i64 z2, .int .i64 z3] 46)).alloc (.cells (madeCells #[.int .i64 0] L) 3)).heap[wr.heap.size]? = some (.cells #[.int .u8 z0, .int .i64 z1, .int .i64 z2, .int .i64 z3] 46) :=
    (Below.heap_alloc _ _ _ (by rw [hs]; omega)).trans (heap_alloc_new wr _)
  have hrow := World.rowIs_made (wr.alloc (.cells #[.int .u8 z0, .int .i64 z1, .int .i64 z2, .int .i64 z3] 46)) (.int .i64 0) L 3
  rw [hs] at hrow
  have hb : Below wr.heap.size wr ((wr.alloc (.cells #[.int .u8 z0, .int .i64 z1, .int .i64 z2, .int .i64 z3] 46)).alloc (.cells (madeCells #[.int .i64 0] L) 3)) :=
    ⟨rfl, rfl, rfl, by simp; omega, fun k hk => (Below.heap_alloc _ _ k (by rw [hs]; omega)).trans (Below.heap_alloc wr _ k hk)⟩
  exact ⟨g2_below hb, by simp, wi_below h hb, (cell_of hA 0 _ rfl).1, (cell_of hA 1 _ rfl).1, (cell_of hA 2 _ rfl).1, (cell_of hA 3 _ rfl).1, fun j hj => hrow.cell hj, fun j hj => hrow.frozen j⟩
theorem ps_call {b r : Nat} {p a a' : Int} {L : Nat} {S S' : Int → Int} {wr : World} {z0 z1 z2 z3 : Int} {X : Nat → Int} {W W' : World} (h : PS b r p a L S wr z0 z1 z2 z3 X W) (g : G2 b r W W') (hwi : WI b r p a' L S' W') (hb : b < wr.heap.size) (hr : r < wr.heap.size) : PS b r p a' L S' wr z0 z1 z2 z3 X W' := by
  have s := h.sz
  have k : ∀ o, W'.cell? ⟨wr.heap.size, o, none⟩ = W.cell? ⟨wr.heap.size, o, none⟩ := fun o => g2_cell g (by omega) (by omega) (by omega) o
  have k2 : ∀ o, W'.cell? ⟨wr.heap.size + 1, o, none⟩ = W.cell? ⟨wr.heap.size + 1, o, none⟩ := fun o => g2_cell g (by omega) (by omega) (by omega) o
  exact ⟨g2_trans h.g g, Nat.le_trans h.sz g.size, hwi, (k 0).trans h.c0, (k 1).trans h.c1, (k 2).trans h.c2, (k 3).trans h.c3, fun j hj => (k2 j).trans (h.x j hj), fun j hj => (World.frozen?_of_block (a := ⟨wr.heap.size + 1, j, none⟩) (g.block (wr.heap.size + 1) (by omega) (by omega) (by omega))).trans (h.f j hj)⟩
theorem ps_drewN {b r : Nat} {p a : Int} {L : Nat} {S : Int → Int} {wr : World} {z0 z1 z2 z3 : Int} {X : Nat → Int} {W : World} (h : PS b r p a L S wr z0 z1 z2 z3 X W) (n : Nat) : PS b r p a L S wr z0 z1 z2 z3 X (W.drewN n) :=
  ⟨g2_drewN h.g n, h.sz, wi_drewN h.wi n, h.c0, h.c1, h.c2, h.c3, h.x, h.f⟩
theorem ps_set {b r : Nat} {p a : Int} {L : Nat} {S : Int → Int} {wr : World} {z0 z1 z2 z3 : Int} {X : Nat → Int} {W : World} (h : PS b r p a L S wr z0 z1 z2 z3 X W) {e : Nat} (he : e < L) (v : Int) (hb : b < wr.heap.size) (hr : r < wr.heap.size) : PS b r p a L S wr z0 z1 z2 z3 (upd X e v) (W.setCell ⟨wr.heap.size + 1, e, none⟩ (.int .i64 v)) := by
  refine ⟨g2_set h.g (.inr (.inr (by simp))) _, by simpa [World.setCell] using h.sz, wi_set h.wi (by simp; omega) (by simp; omega) _, (cs_other (by simp)).trans h.c0, (cs_other (by simp)).trans h.c1, (cs_other (by simp)).trans h.c2, (cs_other (by simp)).trans h.c3, fun j hj => ?_, fun j hj => by rw [World.frozen?_setCell]; exact h.f j hj⟩
  unfold upd
  by_cases e1 : j = e
  · subst e1; rw [if_pos rfl]; exact cs_same (h.x j hj)
  · rw [if_neg e1, cs_other (by first | (simp; done) | (simp; omega))]; exact h.x j hj
theorem ps_congr {b r : Nat} {p a : Int} {L : Nat} {S : Int → Int} {wr : World} {z0 z1 z2 z3 : Int} {X Y : Nat → Int} {W : World} (h : PS b r p a L S wr z0 z1 z2 z3 X W) (e : ∀ j, j < L → X j = Y j) : PS b r p a L S wr z0 z1 z2 z3 Y W :=
  ⟨h.g, h.sz, h.wi, h.c0, h.c1, h.c2, h.c3, fun j hj => by rw [← e j hj]; exact h.x j hj, h.f⟩
theorem rowp_g2 {base b r : Nat} {v : Value} {xs : List Int} {W W' : World} (h : RowP base v xs W) (g : G2 b r W W') (hb : b < base) (hr : r < base) : RowP base v xs W' :=
  ⟨owns_same h.1 fun k hk => by have := h.1.lt k hk; exact g.block k this.2 (by omega) (by omega), h.2⟩
/-! The invariant of the rounds. -/
def BP (i : Nat) (N : Int) (A M : List Int) : Prop := A.length = M.length ∧ A.length ≤ i ∧ 0 ≤ N ∧ N ≤ 1152921504606846976 ∧ (∀ j, 0 ≤ A.getD j 0 ∧ A.getD j 0 ≤ N) ∧ (∀ j, 0 ≤ M.getD j 0 ∧ M.getD j 0 ≤ 1099511627776)
def nowp (N z : Int) : Int := max N (min (max z 0) 1152921504606846976)
theorem bp_no {i : Nat} {N z : Int} {A M : List Int} (h : BP i N A M) : BP (i + 1) (nowp N z) A M := by
  unfold nowp
  exact ⟨h.1, by have := h.2.1; omega, by have := h.2.2.1; omega, by have := h.2.2.2.1; omega, fun j => by have := h.2.2.2.2.1 j; omega, h.2.2.2.2.2⟩
theorem bp_yes {i : Nat} {N z c : Int} {A M : List Int} (h : BP i N A M) (hc : 0 ≤ c ∧ c ≤ 1099511627776) : BP (i + 1) (nowp N z) (A ++ [nowp N z]) (M ++ [c]) := by
  unfold nowp
  obtain ⟨h1, h2, h3, h4, h5, h6⟩ := h
  refine ⟨by simp [h1], by simp; omega, by omega, by omega, fun j => ?_, fun j => ?_⟩
  · rw [getD_snoc]; have := h5 j; split <;> omega
  · rw [getD_snoc]; have := h6 j; split <;> omega
theorem bp_bw {p : Int} {L i : Nat} {N : Int} {A M : List Int} (h : BP i N A M) (hi : i ≤ 101) (hp : 1 ≤ p ∧ p ≤ 1099511627776) (hL : 1 ≤ L ∧ L ≤ 64) : Bw p (N / p) L (Sof p A M) := by
  obtain ⟨h1, h2, h3, h4, h5, h6⟩ := h
  have e1 := Int.ediv_nonneg h3 (show 0 ≤ p by omega)
  have e2 := Int.ediv_le_self (a := N) p h3
  have e3 := Int.ediv_mul_le N (b := p) (by omega)
  refine ⟨hp.1, hp.2, hL.1, hL.2, e1, by omega, by omega, fun q => ?_⟩
  have := ssum_bd p 1099511627776 A M q h6 A.length
  unfold Sof
  omega
theorem bp_at {p N z : Int} (hp : 1 ≤ p) : atOf p (N / p) z = nowp N z / p := by
  unfold atOf nowp
  generalize min (max z 0) 1152921504606846976 = c
  rcases Int.le_total N c with h | h
  · have := Int.ediv_le_ediv (c := p) (by omega) h
    rw [show max N c = c by omega]; omega
  · have := Int.ediv_le_ediv (c := p) (by omega) h
    rw [show max N c = N by omega]; omega
theorem bp_at2 {p N z : Int} (hp : 1 ≤ p) : atOf p (nowp N z / p) z = nowp N z / p := by
  rw [bp_at hp]; unfold nowp; congr 1; omega
end Go.Proofs.Ytapebhefbokcfaa.Win
