import Derived.Test.YtdbaeigbejcobaaDlFits
import Derived.ProofKit
import Derived.Laws.OwnMore
import Derived.Laws.AppendOwn
import Derived.Deep.AppendLies
import Derived.Deep.OwnRows
namespace Go.Proofs.Ytdbaeigbejcobaa.Dl
open Go.RowKit
set_option linter.unusedVariables false
set_option linter.unusedSimpArgs false
abbrev Tr (w : World) (e : Ending) (w' : World) : Prop := e = .returned (.bool true) ∧ Below w.heap.size w w'
abbrev ptr (b : Nat) : Value := .pointer (some ⟨b, 0, none⟩)
def upd (X : Nat → Int) (k : Nat) (v : Int) : Nat → Int := fun j => if j = k then v else X j
theorem cs_same {W : World} {a : Addr} {u v : Value} (h : W.cell? a = some u) : (W.setCell a v).cell? a = some v := by
  first | exact World.cell?_setCell_same W a v h | exact World.cell?_setCell_same _ _ _ h
theorem cs_other {W : World} {a b : Addr} {v : Value} (h : a ≠ b) : (W.setCell a v).cell? b = W.cell? b := by
  first | exact World.cell?_setCell_other W a b v h | exact World.cell?_setCell_other W a v b h | exact World.cell?_setCell_other _ _ _ _ h
/-! A row of numbers that the call has made. -/
def RowP (base : Nat) (v : Value) (xs : List Int) (W : World) : Prop := W.ownsRow base 3 1 v xs.length (xs.map (.int .i64)) ∧ (xs.length = 0 → v = .slice none 0 0)
theorem rowp_nil (base : Nat) (W : World) : RowP base (.slice none 0 0) [] W := ⟨World.ownsRow_nil _ _ _ _, fun _ => rfl⟩
theorem rowp_any {base : Nat} {v : Value} {xs : List Int} {W : World} (h : RowP base v xs W) : ∃ A0 cap, v = .slice A0 xs.length cap ∧ ∀ i, i < xs.length → ∃ pb, A0 = some ⟨pb, 0, none⟩ ∧ pb < W.heap.size ∧ base ≤ pb ∧ W.cell? ⟨pb, i, none⟩ = some (.int .i64 (xs.getD i 0)) := by
  obtain ⟨h1, _⟩ := h
  rcases h1.2 with ⟨rfl, h0⟩ | ⟨g, cap, cur, rfl, hb, hg, _⟩
  · exact ⟨none, 0, by rw [h0], fun i hi => by omega⟩
  · refine ⟨_, cap, rfl, fun i hi => ⟨g, rfl, (Array.getElem?_eq_some_iff.1 hg).1, hb, ?_⟩⟩
    rw [h1.cellAt i (by omega)]
    simp [List.getD_eq_getElem?_getD, List.getElem?_eq_getElem hi]
theorem owns_same {w w' : World} {base : Nat} {e : TypeId} {size : Nat} {v : Value} {n : Nat} {xs : List Value} (h : w.ownsRow base e size v n xs) (hg : ∀ k, v.ownBlock = some k → w'.heap[k]? = w.heap[k]?) : w'.ownsRow base e size v n xs := by
  refine ⟨h.1, ?_⟩
  rcases h.2 with hn | ⟨g, cap, cur, rfl, hb, hgg, rest⟩
  · exact .inl hn
  · exact .inr ⟨g, cap, cur, rfl, hb, (hg g rfl).trans hgg, rest⟩
theorem rowp_same {w w' : World} {base : Nat} {v : Value} {xs : List Int} (h : RowP base v xs w) (hg : ∀ k, v.ownBlock = some k → w'.heap[k]? = w.heap[k]?) : RowP base v xs w' := ⟨owns_same h.1 hg, h.2⟩
/-- append(v, y): behind 'at_builtin'; y's box is the newest block. -/
theorem app1z {P : Program} {ops : Array Oper} {rest : List Oper} {o : Oper} {a : Act} {Q : Exit → Act → World → Prop} {W : World} (base : Nat) (hgd : o.guard = none) (s x : Operand) (t : TypeId)
    (ho : o.op = .call { callee := .builtin .append, args := #[s, x], argTypes := #[t, t] }) (ht : P.underlying t = some (.slice 3)) (hinfo : (P.info? 3).map (fun i => (i.zero, i.size, i.bytes)) = some (some (.int .i64 0), 1, 8))
    (v : Value) (xs : List Int) (y : Int) (hs : a.eval s = v) (hx : a.eval x = .slice (some ⟨W.heap.size, 0, none⟩) 1 1) (HO : RowP base v xs W) (hbase : base ≤ W.heap.size) (hl : xs.length ≤ 30000)
    (h : ∀ zs g cap w1, Hid (zs = xs ++ [y]) → Hid (RowP base (.slice (some ⟨g, 0, none⟩) zs.length cap) zs w1 ∧ (W.alloc (.cells #[.int .i64 y] 3)).grownBy w1 v.ownBlock ∧ (v.ownBlock = (Value.slice (some ⟨g, 0, none⟩) zs.length cap).ownBlock ∨ (Value.slice (some ⟨g, 0, none⟩) zs.length cap).ownBlock = some (W.heap.size + 1))) → wpList P ops Q rest (a.put o.dst (.slice (some ⟨g, 0, none⟩) zs.length cap)) w1) :
    wpList P ops Q (o :: rest) a (W.alloc (.cells #[.int .i64 y] 3)) := by
  obtain ⟨i0, hi, hzz⟩ := Option.map_eq_some_iff.1 hinfo
  simp only [Prod.mk.injEq] at hzz
  obtain ⟨hz0, hz1, hz2⟩ := hzz
  refine wpList_append_lies (W.alloc (.cells #[.int .i64 y] 3)) hgd s x t ho base 3 i0 (.int .i64 0) 1 8 ht hi hz0 hz1 hz2 rfl (by decide) v xs.length (xs.map (.int .i64)) hs (HO.1.alloc _) ⟨W.heap.size, 0, none⟩ 1 1 [.int .i64 y] hx rfl
    (World.news_of_block (cs := #[.int .i64 y]) (t := 3) (fr := (0, 0)) (heap_alloc_new W _)) (by simp [Value.oneCell']) (by omega) (by unfold maxLen; omega) (by omega) (by first | (simp; done) | (simp; omega)) (W.heap.size + 1) (by simp) ?_
  intro g cap w1 hown hg hp _
  have hlen : (xs ++ [y]).length = xs.length + 1 := by simp
  have hR : RowP base (.slice (some ⟨g, 0, none⟩) (xs.length + 1) cap) (xs ++ [y]) w1 := by
    refine ⟨?_, fun e => by rw [hlen] at e; omega⟩
    have e1 : (xs ++ [y]).map (Value.int IntKind.i64) = xs.map (.int .i64) ++ [.int .i64 y] := by simp
    rw [hlen, e1]; exact hown
  have h1 := h (xs ++ [y]) g cap w1 (Lib.hid rfl)
  rw [hlen] at h1
  refine h1 (Lib.hid ⟨hR, hg, ?_⟩)
  rcases hp with e | e
  · left; rw [e]; rfl
  · right; rw [← e]; rfl
/-! The player's blocks. -/
structure PI (base pb rl rd rm n : Nat) (A : Value) (L D M : Nat → Int) (q : Int) (v : Value) (xs : List Int) (W : World) : Prop where
  c0 : W.cell? ⟨pb, 0, none⟩ = some A
  c1 : W.cell? ⟨pb, 1, none⟩ = some (.slice (some ⟨rl, 0, none⟩) n n)
  c2 : W.cell? ⟨pb, 2, none⟩ = some (.slice (some ⟨rd, 0, none⟩) n n)
  c3 : W.cell? ⟨pb, 3, none⟩ = some v
  c4 : W.cell? ⟨pb, 4, none⟩ = some (.slice (some ⟨rm, 0, none⟩) n n)
  c5 : W.cell? ⟨pb, 5, none⟩ = some (.int .i64 q)
  z3 : W.frozen? ⟨pb, 3, none⟩ = false
  z5 : W.frozen? ⟨pb, 5, none⟩ = false
  l : ∀ i, i < n → W.cell? ⟨rl, i, none⟩ = some (.int .i64 (L i)) ∧ W.frozen? ⟨rl, i, none⟩ = false
  d : ∀ i, i < n → W.cell? ⟨rd, i, none⟩ = some (.int .i64 (D i)) ∧ W.frozen? ⟨rd, i, none⟩ = false
  m : ∀ i, i < n → W.cell? ⟨rm, i, none⟩ = some (.int .i64 (M i)) ∧ W.frozen? ⟨rm, i, none⟩ = false
  lo : base ≤ pb ∧ base ≤ rl ∧ base ≤ rd ∧ base ≤ rm
  hi : pb < W.heap.size ∧ rl < W.heap.size ∧ rd < W.heap.size ∧ rm < W.heap.size
  ne : (pb ≠ rl ∧ pb ≠ rd ∧ pb ≠ rm) ∧ rl ≠ rd ∧ rl ≠ rm ∧ rd ≠ rm
  row : RowP base v xs W
  own : ∀ k, v.ownBlock = some k → k ≠ pb ∧ k ≠ rl ∧ k ≠ rd ∧ k ≠ rm
theorem pi_same {base pb rl rd rm n : Nat} {A : Value} {L D M : Nat → Int} {q : Int} {v : Value} {xs : List Int} {W W' : World} (h : PI base pb rl rd rm n A L D M q v xs W) (hs : W.heap.size ≤ W'.heap.size) (hk : ∀ k, base ≤ k → k < W.heap.size → W'.heap[k]? = W.heap[k]?) : PI base pb rl rd rm n A L D M q v xs W' := by
  have hi := h.hi
  have lo := h.lo
  have kp := hk pb lo.1 hi.1
  have kl := hk rl lo.2.1 hi.2.1
  have kd := hk rd lo.2.2.1 hi.2.2.1
  have km := hk rm lo.2.2.2 hi.2.2.2
  have C : ∀ o, W'.cell? ⟨pb, o, none⟩ = W.cell? ⟨pb, o, none⟩ := fun o => World.cell?_of_block (a := ⟨pb, o, none⟩) kp
  have Z : ∀ o, W'.frozen? ⟨pb, o, none⟩ = W.frozen? ⟨pb, o, none⟩ := fun o => World.frozen?_of_block (a := ⟨pb, o, none⟩) kp
  exact ⟨(C 0).trans h.c0, (C 1).trans h.c1, (C 2).trans h.c2, (C 3).trans h.c3, (C 4).trans h.c4, (C 5).trans h.c5, (Z 3).trans h.z3, (Z 5).trans h.z5,
    fun i hh => ⟨(World.cell?_of_block (a := ⟨rl, i, none⟩) kl).trans (h.l i hh).1, (World.frozen?_of_block (a := ⟨rl, i, none⟩) kl).trans (h.l i hh).2⟩,
    fun i hh => ⟨(World.cell?_of_block (a := ⟨rd, i, none⟩) kd).trans (h.d i hh).1, (World.frozen?_of_block (a := ⟨rd, i, none⟩) kd).trans (h.d i hh).2⟩,
    fun i hh => ⟨(World.cell?_of_block (a := ⟨rm, i, none⟩) km).trans (h.m i hh).1, (World.frozen?_of_block (a := ⟨rm, i, none⟩) km).trans (h.m i hh).2⟩,
    lo, ⟨by omega, by omega, by omega, by omega⟩, h.ne, rowp_same h.row (fun k e => by have := h.row.1.lt k e; exact hk k this.1 this.2), h.own⟩
theorem pi_below {base pb rl rd rm n : Nat} {A : Value} {L D M : Nat → Int} {q : Int} {v : Value} {xs : List Int} {W W' : World} (h : PI base pb rl rd rm n A L D M q v xs W) (hb : Below W.heap.size W W') : PI base pb rl rd rm n A L D M q v xs W' :=
  pi_same h hb.size fun k _ hk => hb.block k hk
theorem pi_alloc {base pb rl rd rm n : Nat} {A : Value} {L D M : Nat → Int} {q : Int} {v : Value} {xs : List Int} {W : World} (h : PI base pb rl rd rm n A L D M q v xs W) (o : Obj) : PI base pb rl rd rm n A L D M q v xs (W.alloc o) :=
  pi_same h (by simp) fun k _ hk => Below.heap_alloc W o k hk
theorem pi_drewN {base pb rl rd rm n : Nat} {A : Value} {L D M : Nat → Int} {q : Int} {v : Value} {xs : List Int} {W : World} (h : PI base pb rl rd rm n A L D M q v xs W) (j : Nat) : PI base pb rl rd rm n A L D M q v xs (W.drewN j) :=
  pi_same h (Nat.le_refl _) fun k _ _ => rfl
/-- What stands in a row behind a store. -/
theorem row_set {W : World} {r n i : Nat} {X : Nat → Int} (h : ∀ j, j < n → W.cell? ⟨r, j, none⟩ = some (.int .i64 (X j)) ∧ W.frozen? ⟨r, j, none⟩ = false) (x : Int) : ∀ j, j < n → (W.setCell ⟨r, i, none⟩ (.int .i64 x)).cell? ⟨r, j, none⟩ = some (.int .i64 (upd X i x j)) ∧ (W.setCell ⟨r, i, none⟩ (.int .i64 x)).frozen? ⟨r, j, none⟩ = false := by
  intro j hj
  refine ⟨?_, by rw [World.frozen?_setCell]; exact (h j hj).2⟩
  unfold upd
  by_cases e : j = i
  · subst e; rw [if_pos rfl]; exact cs_same (h j hj).1
  · rw [if_neg e, cs_other (by first | (simp; done) | (simp; omega))]; exact (h j hj).1
theorem row_oth {W : World} {r n : Nat} {X : Nat → Int} (h : ∀ j, j < n → W.cell? ⟨r, j, none⟩ = some (.int .i64 (X j)) ∧ W.frozen? ⟨r, j, none⟩ = false) {p : Addr} (hp : p.block ≠ r) (x : Value) : ∀ j, j < n → (W.setCell p x).cell? ⟨r, j, none⟩ = some (.int .i64 (X j)) ∧ (W.setCell p x).frozen? ⟨r, j, none⟩ = false := by
  intro j hj
  refine ⟨?_, by rw [World.frozen?_setCell]; exact (h j hj).2⟩
  rw [cs_other (by rintro rfl; exact hp rfl)]; exact (h j hj).1
theorem row_keep {W : World} {base : Nat} {v : Value} {xs : List Int} (h : RowP base v xs W) {p : Addr} (hp : ∀ k, v.ownBlock = some k → k ≠ p.block) (x : Value) : RowP base v xs (W.setCell p x) :=
  rowp_same h fun k e => Below.heap_setCell W p x k (hp k e)
theorem size_set (W : World) (p : Addr) (x : Value) : (W.setCell p x).heap.size = W.heap.size := by simp [World.setCell]
theorem pi_l {base pb rl rd rm n : Nat} {A : Value} {L D M : Nat → Int} {q : Int} {v : Value} {xs : List Int} {W : World} (h : PI base pb rl rd rm n A L D M q v xs W) (i : Nat) (x : Int) : PI base pb rl rd rm n A (upd L i x) D M q v xs (W.setCell ⟨rl, i, none⟩ (.int .i64 x)) := by
  obtain ⟨⟨n1, n2, n3⟩, n4, n5, n6⟩ := h.ne
  have C : ∀ o, (W.setCell ⟨rl, i, none⟩ (.int .i64 x)).cell? ⟨pb, o, none⟩ = W.cell? ⟨pb, o, none⟩ := fun o => cs_other (by first | (simp; done) | (simp; omega))
  have s := size_set W ⟨rl, i, none⟩ (.int .i64 x)
  exact ⟨(C 0).trans h.c0, (C 1).trans h.c1, (C 2).trans h.c2, (C 3).trans h.c3, (C 4).trans h.c4, (C 5).trans h.c5, by rw [World.frozen?_setCell]; exact h.z3, by rw [World.frozen?_setCell]; exact h.z5,
    row_set h.l x, row_oth h.d n4 _, row_oth h.m n5 _, h.lo, by rw [s]; exact h.hi, h.ne, row_keep h.row (fun k e => (h.own k e).2.1) _, h.own⟩
theorem pi_d {base pb rl rd rm n : Nat} {A : Value} {L D M : Nat → Int} {q : Int} {v : Value} {xs : List Int} {W : World} (h : PI base pb rl rd rm n A L D M q v xs W) (i : Nat) (x : Int) : PI base pb rl rd rm n A L (upd D i x) M q v xs (W.setCell ⟨rd, i, none⟩ (.int .i64 x)) := by
  obtain ⟨⟨n1, n2, n3⟩, n4, n5, n6⟩ := h.ne
  have C : ∀ o, (W.setCell ⟨rd, i, none⟩ (.int .i64 x)).cell? ⟨pb, o, none⟩ = W.cell? ⟨pb, o, none⟩ := fun o => cs_other (by first | (simp; done) | (simp; omega))
  have s := size_set W ⟨rd, i, none⟩ (.int .i64 x)
  exact ⟨(C 0).trans h.c0, (C 1).trans h.c1, (C 2).trans h.c2, (C 3).trans h.c3, (C 4).trans h.c4, (C 5).trans h.c5, by rw [World.frozen?_setCell]; exact h.z3, by rw [World.frozen?_setCell]; exact h.z5,
    row_oth h.l n4.symm _, row_set h.d x, row_oth h.m n6 _, h.lo, by rw [s]; exact h.hi, h.ne, row_keep h.row (fun k e => (h.own k e).2.2.1) _, h.own⟩
theorem pi_m {base pb rl rd rm n : Nat} {A : Value} {L D M : Nat → Int} {q : Int} {v : Value} {xs : List Int} {W : World} (h : PI base pb rl rd rm n A L D M q v xs W) (i : Nat) (x : Int) : PI base pb rl rd rm n A L D (upd M i x) q v xs (W.setCell ⟨rm, i, none⟩ (.int .i64 x)) := by
  obtain ⟨⟨n1, n2, n3⟩, n4, n5, n6⟩ := h.ne
  have C : ∀ o, (W.setCell ⟨rm, i, none⟩ (.int .i64 x)).cell? ⟨pb, o, none⟩ = W.cell? ⟨pb, o, none⟩ := fun o => cs_other (by first | (simp; done) | (simp; omega))
  have s := size_set W ⟨rm, i, none⟩ (.int .i64 x)
  exact ⟨(C 0).trans h.c0, (C 1).trans h.c1, (C 2).trans h.c2, (C 3).trans h.c3, (C 4).trans h.c4, (C 5).trans h.c5, by rw [World.frozen?_setCell]; exact h.z3, by rw [World.frozen?_setCell]; exact h.z5,
    row_oth h.l n5.symm _, row_oth h.d n6.symm _, row_set h.m x, h.lo, by rw [s]; exact h.hi, h.ne, row_keep h.row (fun k e => (h.own k e).2.2.2) _, h.own⟩
theorem pi_q {base pb rl rd rm n : Nat} {A : Value} {L D M : Nat → Int} {q : Int} {v : Value} {xs : List Int} {W : World} (h : PI base pb rl rd rm n A L D M q v xs W) (x : Int) : PI base pb rl rd rm n A L D M x v xs (W.setCell ⟨pb, 5, none⟩ (.int .i64 x)) := by
  obtain ⟨⟨n1, n2, n3⟩, n4, n5, n6⟩ := h.ne
  have C : ∀ o, o ≠ 5 → (W.setCell ⟨pb, 5, none⟩ (.int .i64 x)).cell? ⟨pb, o, none⟩ = W.cell? ⟨pb, o, none⟩ := fun o ho => cs_other (by first | (simp; done) | (simp; omega))
  have s := size_set W ⟨pb, 5, none⟩ (.int .i64 x)
  exact ⟨(C 0 (by omega)).trans h.c0, (C 1 (by omega)).trans h.c1, (C 2 (by omega)).trans h.c2, (C 3 (by omega)).trans h.c3, (C 4 (by omega)).trans h.c4, cs_same h.c5, by rw [World.frozen?_setCell]; exact h.z3, by rw [World.frozen?_setCell]; exact h.z5,
    row_oth h.l n1 _, row_oth h.d n2 _, row_oth h.m n3 _, h.lo, by rw [s]; exact h.hi, h.ne, row_keep h.row (fun k e => (h.own k e).1) _, h.own⟩
/-- The row that is done, appended to, and stored. -/
theorem pi_app {base pb rl rd rm n : Nat} {A : Value} {L D M : Nat → Int} {q : Int} {v v1 : Value} {xs zs : List Int} {W w1 : World} (o : Obj) (h : PI base pb rl rd rm n A L D M q v xs W) (hr : RowP base v1 zs w1) (hg : (W.alloc o).grownBy w1 v.ownBlock) (hp : v.ownBlock = v1.ownBlock ∨ v1.ownBlock = some (W.heap.size + 1)) (hbase : base ≤ W.heap.size) :
    PI base pb rl rd rm n A L D M q v1 zs (w1.setCell ⟨pb, 3, none⟩ v1) ∧ Below base W (w1.setCell ⟨pb, 3, none⟩ v1) ∧ w1.cell? ⟨pb, 3, none⟩ = some v ∧ w1.frozen? ⟨pb, 3, none⟩ = false := by
  obtain ⟨⟨n1, n2, n3⟩, n4, n5, n6⟩ := h.ne
  obtain ⟨h1, h2, h3, h4⟩ := h.hi
  have hk : ∀ k, k < W.heap.size → some k ≠ v.ownBlock → w1.heap[k]? = W.heap[k]? := fun k hk hne => (hg.block k (by first | (simp; done) | (simp; omega)) hne).trans (Below.heap_alloc W o k hk)
  have hv : ∀ k, v.ownBlock = some k → k ≠ pb ∧ k ≠ rl ∧ k ≠ rd ∧ k ≠ rm := h.own
  have kp := hk pb h1 fun e => (hv pb e.symm).1 rfl
  have kl := hk rl h2 fun e => (hv rl e.symm).2.1 rfl
  have kd := hk rd h3 fun e => (hv rd e.symm).2.2.1 rfl
  have km := hk rm h4 fun e => (hv rm e.symm).2.2.2 rfl
  have hown : ∀ k, v1.ownBlock = some k → k ≠ pb ∧ k ≠ rl ∧ k ≠ rd ∧ k ≠ rm := by
    intro k e
    rcases hp with e1 | e1
    · exact hv k (e1.trans e)
    · rw [e] at e1; simp at e1; omega
  have hsz : W.heap.size ≤ w1.heap.size := Nat.le_trans (by simp) hg.size
  have C : ∀ o, w1.cell? ⟨pb, o, none⟩ = W.cell? ⟨pb, o, none⟩ := fun o => World.cell?_of_block (a := ⟨pb, o, none⟩) kp
  have Z : ∀ o, w1.frozen? ⟨pb, o, none⟩ = W.frozen? ⟨pb, o, none⟩ := fun o => World.frozen?_of_block (a := ⟨pb, o, none⟩) kp
  have C2 : ∀ o, o ≠ 3 → (w1.setCell ⟨pb, 3, none⟩ v1).cell? ⟨pb, o, none⟩ = W.cell? ⟨pb, o, none⟩ := fun o ho => (cs_other (by first | (simp; done) | (simp; omega))).trans (C o)
  have s := size_set w1 ⟨pb, 3, none⟩ v1
  have rl' : ∀ i, i < n → w1.cell? ⟨rl, i, none⟩ = some (.int .i64 (L i)) ∧ w1.frozen? ⟨rl, i, none⟩ = false := fun i hh => ⟨(World.cell?_of_block (a := ⟨rl, i, none⟩) kl).trans (h.l i hh).1, (World.frozen?_of_block (a := ⟨rl, i, none⟩) kl).trans (h.l i hh).2⟩
  have rd' : ∀ i, i < n → w1.cell? ⟨rd, i, none⟩ = some (.int .i64 (D i)) ∧ w1.frozen? ⟨rd, i, none⟩ = false := fun i hh => ⟨(World.cell?_of_block (a := ⟨rd, i, none⟩) kd).trans (h.d i hh).1, (World.frozen?_of_block (a := ⟨rd, i, none⟩) kd).trans (h.d i hh).2⟩
  have rm' : ∀ i, i < n → w1.cell? ⟨rm, i, none⟩ = some (.int .i64 (M i)) ∧ w1.frozen? ⟨rm, i, none⟩ = false := fun i hh => ⟨(World.cell?_of_block (a := ⟨rm, i, none⟩) km).trans (h.m i hh).1, (World.frozen?_of_block (a := ⟨rm, i, none⟩) km).trans (h.m i hh).2⟩
  refine ⟨⟨(C2 0 (by omega)).trans h.c0, (C2 1 (by omega)).trans h.c1, (C2 2 (by omega)).trans h.c2, cs_same ((C 3).trans h.c3), (C2 4 (by omega)).trans h.c4, (C2 5 (by omega)).trans h.c5, by rw [World.frozen?_setCell]; exact (Z 3).trans h.z3, by rw [World.frozen?_setCell]; exact (Z 5).trans h.z5,
    row_oth rl' n1 _, row_oth rd' n2 _, row_oth rm' n3 _, h.lo, by rw [s]; omega, h.ne, row_keep hr (fun k e => (hown k e).1) _, hown⟩, ?_, (C 3).trans h.c3, (Z 3).trans h.z3⟩
  refine ⟨hg.os.trans rfl, hg.tape.trans rfl, hg.output.trans rfl, by rw [s]; exact hsz, fun i hi => ?_⟩
  have lo := h.lo
  rw [Below.heap_setCell w1 ⟨pb, 3, none⟩ v1 i (by show i ≠ pb; omega)]
  refine hk i (by omega) fun e => ?_
  have := h.row.1.lt i e.symm
  omega
theorem below_set {base : Nat} {w W : World} (h : Below base w W) {p : Addr} (hp : base ≤ p.block) (x : Value) : Below base w (W.setCell p x) :=
  ⟨h.os, h.tape, h.output, by rw [size_set]; exact h.size, fun i hi => (Below.heap_setCell W p x i (by omega)).trans (h.block i hi)⟩
end Go.Proofs.Ytdbaeigbejcobaa.Dl
