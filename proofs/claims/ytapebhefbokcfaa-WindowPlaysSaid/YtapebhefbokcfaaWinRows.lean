import Derived.Test.YtapebhefbokcfaaWinFix
namespace Go.Proofs.Ytapebhefbokcfaa.Win
open Go.RowKit Go.Proofs.Ytapebhefbokcfaa.DebW
set_option linter.unusedVariables false
set_option linter.unusedSimpArgs false
/-! Two rows that the call itself makes. -/
theorem owns_same {w w' : World} {base : Nat} {e : TypeId} {size : Nat} {v : Value} {n : Nat} {xs : List Value} (h : w.ownsRow base e size v n xs) (hg : ∀ k, v.ownBlock = some k → w'.heap[k]? = w.heap[k]?) : w'.ownsRow base e size v n xs := by
  refine ⟨h.1, ?_⟩
  rcases h.2 with hn | ⟨g, cap, cur, rfl, hb, hgg, rest⟩
  · exact .inl hn
  · exact .inr ⟨g, cap, cur, rfl, hb, (hg g rfl).trans hgg, rest⟩
structure Two (base : Nat) (va vb : Value) (xs ys : List Int) (W : World) : Prop where
  l : RowP base va xs W
  r : RowP base vb ys W
  ne : va.ownBlock = none ∨ va.ownBlock ≠ vb.ownBlock
theorem two_symm {base : Nat} {va vb : Value} {xs ys : List Int} {W : World} (h : Two base va vb xs ys W) : Two base vb va ys xs W := by
  refine ⟨h.r, h.l, ?_⟩
  rcases h.ne with h1 | h1
  · cases hv : vb.ownBlock with
    | none => exact .inl rfl
    | some k => right; rw [h1]; simp
  · exact .inr (Ne.symm h1)
theorem two_nil (base : Nat) (W : World) : Two base (.slice none 0 0) (.slice none 0 0) [] [] W := ⟨rowp_nil _ _, rowp_nil _ _, .inl rfl⟩
theorem two_g2 {base b r : Nat} {va vb : Value} {xs ys : List Int} {W W' : World} (h : Two base va vb xs ys W) (g : G2 b r W W') (hb : b < base) (hr : r < base) : Two base va vb xs ys W' := by
  refine ⟨⟨owns_same h.l.1 fun k hk => ?_, h.l.2⟩, ⟨owns_same h.r.1 fun k hk => ?_, h.r.2⟩, h.ne⟩
  · have := h.l.1.lt k hk; exact g.block k this.2 (by omega) (by omega)
  · have := h.r.1.lt k hk; exact g.block k this.2 (by omega) (by omega)
theorem two_below {base : Nat} {va vb : Value} {xs ys : List Int} {W W' : World} (h : Two base va vb xs ys W) (g : Below W.heap.size W W') : Two base va vb xs ys W' := by
  refine ⟨⟨owns_same h.l.1 fun k hk => ?_, h.l.2⟩, ⟨owns_same h.r.1 fun k hk => ?_, h.r.2⟩, h.ne⟩
  · have := h.l.1.lt k hk; exact g.block k this.2
  · have := h.r.1.lt k hk; exact g.block k this.2
/-- append(v, y): behind 'at_builtin'; y's box is the newest block. -/
theorem app1g {P : Program} {ops : Array Oper} {rest : List Oper} {o : Oper} {a : Act} {Q : Exit → Act → World → Prop} {W : World} (base : Nat) (hgd : o.guard = none) (s x : Operand) (t : TypeId)
    (ho : o.op = .call { callee := .builtin .append, args := #[s, x], argTypes := #[t, t] }) (ht : P.underlying t = some (.slice 3)) (hinfo : (P.info? 3).map (fun i => (i.zero, i.size, i.bytes)) = some (some (.int .i64 0), 1, 8))
    (v : Value) (xs : List Int) (y : Int) (hs : a.eval s = v) (hx : a.eval x = .slice (some ⟨W.heap.size, 0, none⟩) 1 1) (HO : RowP base v xs W) (hbase : base ≤ W.heap.size) (hl : xs.length ≤ 1000)
    (h : ∀ pb cap w1, RowP base (.slice (some ⟨pb, 0, none⟩) (xs.length + 1) cap) (xs ++ [y]) w1 → (W.alloc (.cells #[.int .i64 y] 3)).grownBy w1 v.ownBlock → (v.ownBlock = some pb ∨ pb = W.heap.size + 1) → wpList P ops Q rest (a.put o.dst (.slice (some ⟨pb, 0, none⟩) (xs.length + 1) cap)) w1) :
    wpList P ops Q (o :: rest) a (W.alloc (.cells #[.int .i64 y] 3)) := by
  obtain ⟨i0, hi, hzz⟩ := Option.map_eq_some_iff.1 hinfo
  simp only [Prod.mk.injEq] at hzz
  obtain ⟨hz0, hz1, hz2⟩ := hzz
  refine wpList_append_lies (W.alloc (.cells #[.int .i64 y] 3)) hgd s x t ho base 3 i0 (.int .i64 0) 1 8 ht hi hz0 hz1 hz2 rfl (by decide) v xs.length (xs.map (.int .i64)) hs (HO.1.alloc _) ⟨W.heap.size, 0, none⟩ 1 1 [.int .i64 y] hx rfl
    (World.news_of_block (cs := #[.int .i64 y]) (t := 3) (fr := (0, 0)) (heap_alloc_new W _)) (by simp [Value.oneCell']) (by omega) (by unfold maxLen; omega) (by omega) (by simp; omega) (W.heap.size + 1) (by simp) ?_
  intro g cap w1 hown hg hp _
  have hlen : (xs ++ [y]).length = xs.length + 1 := by simp
  have hR : RowP base (.slice (some ⟨g, 0, none⟩) (xs.length + 1) cap) (xs ++ [y]) w1 := by
    refine ⟨?_, fun e => by rw [hlen] at e; omega⟩
    have e1 : (xs ++ [y]).map (Value.int IntKind.i64) = xs.map (.int .i64) ++ [.int .i64 y] := by simp
    rw [hlen, e1]; exact hown
  exact h g cap w1 hR hg hp
/-- .. the row's length kept as the length of a list. -/
theorem app1z {P : Program} {ops : Array Oper} {rest : List Oper} {o : Oper} {a : Act} {Q : Exit → Act → World → Prop} {W : World} (base : Nat) (hgd : o.guard = none) (s x : Operand) (t : TypeId)
    (ho : o.op = .call { callee := .builtin .append, args := #[s, x], argTypes := #[t, t] }) (ht : P.underlying t = some (.slice 3)) (hinfo : (P.info? 3).map (fun i => (i.zero, i.size, i.bytes)) = some (some (.int .i64 0), 1, 8))
    (v : Value) (xs : List Int) (y : Int) (hs : a.eval s = v) (hx : a.eval x = .slice (some ⟨W.heap.size, 0, none⟩) 1 1) (HO : RowP base v xs W) (hbase : base ≤ W.heap.size) (hl : xs.length ≤ 1000)
    (h : ∀ zs pb cap w1, Hid (zs = xs ++ [y]) → RowP base (.slice (some ⟨pb, 0, none⟩) zs.length cap) zs w1 → (W.alloc (.cells #[.int .i64 y] 3)).grownBy w1 v.ownBlock → (v.ownBlock = some pb ∨ pb = W.heap.size + 1) → wpList P ops Q rest (a.put o.dst (.slice (some ⟨pb, 0, none⟩) zs.length cap)) w1) :
    wpList P ops Q (o :: rest) a (W.alloc (.cells #[.int .i64 y] 3)) := by
  refine app1g base hgd s x t ho ht hinfo v xs y hs hx HO hbase hl fun pb cap w1 hr hg hp => ?_
  have h1 := h (xs ++ [y]) pb cap w1 (Lib.hid rfl)
  rw [show (xs ++ [y]).length = xs.length + 1 by simp] at h1
  exact h1 hr hg hp
theorem two_app {base pb n cap : Nat} {va vb : Value} {xs ys zs : List Int} {W w1 : World} (o : Obj) (h : Two base va vb xs ys W) (hrow : RowP base (.slice (some ⟨pb, 0, none⟩) n cap) zs w1) (hg : (W.alloc o).grownBy w1 va.ownBlock) (hp : va.ownBlock = some pb ∨ pb = W.heap.size + 1) (hb : base ≤ W.heap.size) :
    Two base (.slice (some ⟨pb, 0, none⟩) n cap) vb zs ys w1 ∧ Below base W w1 := by
  have hvb : ∀ k, vb.ownBlock = some k → k ≠ pb ∧ some k ≠ va.ownBlock ∧ k < W.heap.size := by
    intro k hk
    have hlt := h.r.1.lt k hk
    have hne : some k ≠ va.ownBlock := by
      rcases h.ne with e | e
      · rw [e]; simp
      · rw [← hk]; exact Ne.symm e
    refine ⟨?_, hne, hlt.2⟩
    rintro rfl
    rcases hp with e | e
    · exact hne e.symm
    · omega
  refine ⟨⟨hrow, ⟨owns_same h.r.1 fun k hk => ?_, h.r.2⟩, ?_⟩, ?_⟩
  · obtain ⟨h1, h2, h3⟩ := hvb k hk
    exact (hg.block k (by simp; omega) h2).trans (Below.heap_alloc W o k h3)
  · right
    show some pb ≠ vb.ownBlock
    intro e
    exact (hvb pb e.symm).1 rfl
  · refine ⟨hg.os.trans rfl, hg.tape.trans rfl, hg.output.trans rfl, Nat.le_trans (by simp) hg.size, fun i hi => ?_⟩
    refine (hg.block i (by simp; omega) ?_).trans (Below.heap_alloc W o i (by omega))
    intro e
    have := (h.l.1.lt i e.symm).1
    omega
theorem two_alloc {base : Nat} {va vb : Value} {xs ys : List Int} {W : World} (h : Two base va vb xs ys W) (o : Obj) : Two base va vb xs ys (W.alloc o) :=
  two_below h ⟨rfl, rfl, rfl, by simp, fun k hk => Below.heap_alloc W o k hk⟩
theorem rowp_any {base : Nat} {v : Value} {xs : List Int} {W : World} (h : RowP base v xs W) : ∃ A0 cap, v = .slice A0 xs.length cap ∧ ∀ i, i < xs.length → ∃ pb, A0 = some ⟨pb, 0, none⟩ ∧ W.cell? ⟨pb, i, none⟩ = some (.int .i64 (xs.getD i 0)) := by
  rcases h.1.2 with ⟨rfl, h0⟩ | ⟨g, cap, cur, rfl, hb, hg, _⟩
  · exact ⟨none, 0, by rw [h0], fun i hi => by omega⟩
  · exact ⟨_, cap, rfl, fun i hi => ⟨g, rfl, rowp_at h hi⟩⟩
theorem wi_belowB {b r base : Nat} {p a : Int} {L : Nat} {S : Int → Int} {W W' : World} (h : WI b r p a L S W) (hb : Below base W W') (hb1 : b < base) (hr1 : r < base) : WI b r p a L S W' := by
  obtain ⟨X, h1, h2⟩ := h
  refine ⟨X, ⟨(hb.cell (p := ⟨b, 0, none⟩) hb1).trans h1.c0, (hb.cell (p := ⟨b, 1, none⟩) hb1).trans h1.c1, (hb.cell (p := ⟨b, 2, none⟩) hb1).trans h1.c2, (hb.frozen (p := ⟨b, 1, none⟩) hb1).trans h1.z1, fun j hj => (hb.cell (p := ⟨r, j, none⟩) hr1).trans (h1.cr j hj), fun j hj => (hb.frozen (p := ⟨r, j, none⟩) hr1).trans (h1.zr j hj), Nat.lt_of_lt_of_le h1.hb hb.size, Nat.lt_of_lt_of_le h1.hr hb.size, h1.ne⟩, h2⟩
/-! What came, by sums. -/
def ssum (p : Int) (A M : List Int) (j : Nat) (q : Int) : Int := ((List.range j).map fun i => if A.getD i 0 / p = q then M.getD i 0 else 0).sum
def Sof (p : Int) (A M : List Int) : Int → Int := ssum p A M A.length
def wpre (p t : Int) (k : Nat) (A M : List Int) (j : Nat) : Int := ((List.range j).map fun i => if t - A.getD i 0 / p < k then M.getD i 0 else 0).sum
theorem ssum_succ (p : Int) (A M : List Int) (j : Nat) (q : Int) : ssum p A M (j + 1) q = ssum p A M j q + if A.getD j 0 / p = q then M.getD j 0 else 0 := by simp [ssum, List.range_succ]
theorem wpre_succ (p t : Int) (k : Nat) (A M : List Int) (j : Nat) : wpre p t k A M (j + 1) = wpre p t k A M j + if t - A.getD j 0 / p < k then M.getD j 0 else 0 := by simp [wpre, List.range_succ]
theorem getD_snoc {A : List Int} {a : Int} {i : Nat} : (A ++ [a]).getD i 0 = if i = A.length then a else A.getD i 0 := by
  rcases Nat.lt_trichotomy i A.length with h | h | h
  · rw [if_neg (by omega)]; simp [List.getD_eq_getElem?_getD, List.getElem?_append_left h]
  · subst h; simp [List.getD_eq_getElem?_getD]
  · rw [if_neg (by omega)]; simp [List.getD_eq_getElem?_getD, List.getElem?_append_right (Nat.le_of_lt h)]
    rw [List.getElem?_eq_none (by simp; omega), List.getElem?_eq_none (by omega)]
theorem ssum_snoc (p : Int) (A M : List Int) (a m : Int) (hl : A.length = M.length) (j : Nat) (hj : j ≤ A.length) (q : Int) : ssum p (A ++ [a]) (M ++ [m]) j q = ssum p A M j q := by
  induction j with
  | zero => rfl
  | succ j ih => rw [ssum_succ, ssum_succ, ih (by omega), show (A ++ [a]).getD j 0 = A.getD j 0 from by rw [getD_snoc, if_neg (by omega)], show (M ++ [m]).getD j 0 = M.getD j 0 from by rw [getD_snoc, if_neg (by omega)]]
theorem wpre_snoc (p t : Int) (k : Nat) (A M : List Int) (a m : Int) (hl : A.length = M.length) (j : Nat) (hj : j ≤ A.length) : wpre p t k (A ++ [a]) (M ++ [m]) j = wpre p t k A M j := by
  induction j with
  | zero => rfl
  | succ j ih => rw [wpre_succ, wpre_succ, ih (by omega), show (A ++ [a]).getD j 0 = A.getD j 0 from by rw [getD_snoc, if_neg (by omega)], show (M ++ [m]).getD j 0 = M.getD j 0 from by rw [getD_snoc, if_neg (by omega)]]
theorem sof_snoc (p : Int) (A M : List Int) (a m : Int) (hl : A.length = M.length) : Sof p (A ++ [a]) (M ++ [m]) = bump (Sof p A M) (a / p) m := by
  funext q
  unfold Sof bump
  rw [List.length_append, List.length_singleton, ssum_succ, ssum_snoc p A M a m hl _ (Nat.le_refl _), getD_snoc, getD_snoc, if_pos rfl, if_pos hl]
  by_cases h : a / p = q
  · rw [if_pos h, if_pos h.symm]
  · rw [if_neg h, if_neg (Ne.symm h)]; omega
theorem psum_add (f g : Int → Int) (t : Int) (L k : Nat) : psum (fun q => f q + g q) t L k = psum f t L k + psum g t L k := by
  induction k with
  | zero => simp [psum, parts]
  | succ k ih => rw [psum_succ, psum_succ, psum_succ, ih]; omega
theorem psum_ind (e c t : Int) (L k : Nat) : psum (fun q => if e = q then c else 0) t L k = if t + 1 - L ≤ e ∧ e < t + 1 - L + k then c else 0 := by
  induction k with
  | zero => simp [psum, parts]; intros; omega
  | succ k ih =>
    rw [psum_succ, ih]
    by_cases h1 : e = t + 1 + k - L
    · rw [if_neg (by omega), if_pos h1, if_pos (by omega)]; omega
    · by_cases h2 : t + 1 - (L : Int) ≤ e ∧ e < t + 1 - L + k
      · rw [if_pos h2, if_neg h1, if_pos (by omega)]; omega
      · rw [if_neg h2, if_neg h1, if_neg (by omega)]; omega
theorem psum_ssum (p : Int) (A M : List Int) (t : Int) (L j : Nat) (h : ∀ i, i < j → A.getD i 0 / p ≤ t) : psum (ssum p A M j) t L L = wpre p t L A M j := by
  induction j with
  | zero =>
    have e : ∀ k, psum (ssum p A M 0) t L k = 0 := by
      intro k
      induction k with
      | zero => rfl
      | succ k ih => rw [psum_succ, ih]; rfl
    rw [e]; rfl
  | succ j ih =>
    rw [show ssum p A M (j + 1) = fun q => ssum p A M j q + (fun q => if A.getD j 0 / p = q then M.getD j 0 else 0) q from funext fun q => ssum_succ p A M j q, psum_add, ih (fun i hi => h i (by omega)), wpre_succ, psum_ind]
    have := h j (by omega)
    congr 1
    by_cases h2 : t - A.getD j 0 / p < (L : Int)
    · rw [if_pos h2, if_pos (by omega)]
    · rw [if_neg h2, if_neg (by omega)]
theorem ssum_bd (p B : Int) (A M : List Int) (q : Int) (h : ∀ i, 0 ≤ M.getD i 0 ∧ M.getD i 0 ≤ B) (j : Nat) : 0 ≤ ssum p A M j q ∧ ssum p A M j q ≤ j * B := by
  induction j with
  | zero => simp [ssum]
  | succ j ih =>
    rw [ssum_succ]
    have := h j
    have e : ((j + 1 : Nat) : Int) * B = j * B + B := by rw [Int.natCast_succ, Int.add_mul]; omega
    rw [e]
    split <;> omega
theorem wpre_bd (p t B : Int) (k : Nat) (A M : List Int) (h : ∀ i, 0 ≤ M.getD i 0 ∧ M.getD i 0 ≤ B) (j : Nat) : 0 ≤ wpre p t k A M j ∧ wpre p t k A M j ≤ j * B := by
  induction j with
  | zero => simp [wpre]
  | succ j ih =>
    rw [wpre_succ]
    have := h j
    have e : ((j + 1 : Nat) : Int) * B = j * B + B := by rw [Int.natCast_succ, Int.add_mul]; omega
    rw [e]
    split <;> omega
theorem wpre_mono (p t t' : Int) (k : Nat) (A M : List Int) (ht : t ≤ t') (h : ∀ i, 0 ≤ M.getD i 0) (j : Nat) : wpre p t' k A M j ≤ wpre p t k A M j := by
  induction j with
  | zero => simp [wpre]
  | succ j ih =>
    rw [wpre_succ, wpre_succ]
    have := h j
    split <;> split <;> omega
end Go.Proofs.Ytapebhefbokcfaa.Win
