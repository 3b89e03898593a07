import Derived.Test.YtdbaeigbejcobaaDlFix
import Derived.Test.YtdbaeigbejcobaaDlRef
import Derived.Maps.AppendAt
namespace Go.Proofs.Ytdbaeigbejcobaa.Dl
open Go.RowKit
set_option linter.unusedVariables false
set_option linter.unusedSimpArgs false
/-! Rows of jobs in memory. -/
def cl (js : List Jb) : List Value := js.flatMap fun j => [.int .i64 j.1, .int .i64 j.2.1, .int .i64 j.2.2]
theorem cl_nil : cl [] = [] := rfl
theorem cl_cons (j : Jb) (js : List Jb) : cl (j :: js) = .int .i64 j.1 :: .int .i64 j.2.1 :: .int .i64 j.2.2 :: cl js := rfl
theorem cl_app (a b : List Jb) : cl (a ++ b) = cl a ++ cl b := by simp [cl]
theorem cl_len (js : List Jb) : (cl js).length = js.length * 3 := by
  induction js with
  | nil => rfl
  | cons j js ih => rw [cl_cons]; simp [ih]; omega
theorem jg_zero (j : Jb) (js : List Jb) : jg (j :: js) 0 = j := rfl
theorem jg_succ (j : Jb) (js : List Jb) (k : Nat) : jg (j :: js) (k + 1) = jg js k := rfl
theorem cl_get (js : List Jb) (k : Nat) (hk : k < js.length) : (cl js)[k * 3]? = some (.int .i64 (jg js k).1) ∧ (cl js)[k * 3 + 1]? = some (.int .i64 (jg js k).2.1) ∧ (cl js)[k * 3 + 2]? = some (.int .i64 (jg js k).2.2) := by
  induction js generalizing k with
  | nil => simp at hk
  | cons j js ih =>
    rw [cl_cons]
    cases k with
    | zero => exact ⟨rfl, rfl, rfl⟩
    | succ k =>
      have h := ih k (by simpa using hk)
      rw [jg_succ, show (k + 1) * 3 = k * 3 + 3 by omega]
      exact h
theorem cl_set (js : List Jb) (k : Nat) (x : Int) : (cl js).set (k * 3) (.int .i64 x) = cl (js.set k (x, (jg js k).2)) := by
  induction js generalizing k with
  | nil => rfl
  | cons j js ih =>
    cases k with
    | zero => rfl
    | succ k =>
      rw [cl_cons, show (k + 1) * 3 = k * 3 + 3 by omega]
      show _ :: _ :: _ :: (cl js).set (k * 3) (.int .i64 x) = cl (j :: js.set k (x, (jg js k).2))
      rw [ih k, cl_cons]
theorem cl_one {js : List Jb} : ∀ u ∈ cl js, u.oneCell' = true := by
  intro u hu
  unfold cl at hu
  rw [List.mem_flatMap] at hu
  obtain ⟨j, _, hj⟩ := hu
  simp only [List.mem_cons, List.not_mem_nil, or_false] at hj
  rcases hj with rfl | rfl | rfl <;> rfl
theorem cl_split (js : List Jb) (b : Nat) : cl js = cl (js.take b) ++ cl (js.drop b) := by rw [← cl_app, List.take_append_drop]
/-- A row of jobs that the call has made. -/
def JR (base : Nat) (v : Value) (js : List Jb) (W : World) : Prop := W.ownsRow base 33 3 v js.length (cl js)
theorem jr_nil (base : Nat) (W : World) : JR base (.slice none 0 0) [] W := World.ownsRow_nil _ _ _ _
theorem jr_any {base : Nat} {v : Value} {js : List Jb} {W : World} (h : JR base v js W) : ∃ A0 cap, v = .slice A0 js.length cap ∧ (js.length ≤ cap ∧ cap ≤ maxLen) ∧ ∀ i, i < js.length → ∃ g, A0 = some ⟨g, 0, none⟩ ∧ g < W.heap.size ∧ base ≤ g ∧
    (W.cell? ⟨g, i * 3, none⟩ = some (.int .i64 (jg js i).1) ∧ W.cell? ⟨g, i * 3 + 1, none⟩ = some (.int .i64 (jg js i).2.1) ∧ W.cell? ⟨g, i * 3 + 2, none⟩ = some (.int .i64 (jg js i).2.2)) ∧ W.frozen? ⟨g, i * 3, none⟩ = false := by
  have h' := h
  rcases h.2 with ⟨rfl, h0⟩ | ⟨g, cap, cur, rfl, hb, hg, hc1, hc2, _⟩
  · refine ⟨none, 0, by rw [h0], ⟨by omega, by simp [maxLen]⟩, fun i hi => by omega⟩
  · refine ⟨_, cap, rfl, ⟨hc1, hc2⟩, fun i hi => ⟨g, rfl, (Array.getElem?_eq_some_iff.1 hg).1, hb, ?_, h'.frozenAt _⟩⟩
    obtain ⟨c0, c1, c2⟩ := cl_get js i hi
    exact ⟨(h'.cellAt _ (by omega)).trans c0, (h'.cellAt _ (by omega)).trans c1, (h'.cellAt _ (by omega)).trans c2⟩
theorem jr_same {base : Nat} {v : Value} {js : List Jb} {W W' : World} (h : JR base v js W) (hk : ∀ k, v.ownBlock = some k → W'.heap[k]? = W.heap[k]?) : JR base v js W' := owns_same h hk
/-- The row that goes on, and what is missed. -/
structure RW (base ms n : Nat) (X : Nat → Int) (v : Value) (js : List Jb) (W : World) : Prop where
  m : ∀ i, i < n → W.cell? ⟨ms, i, none⟩ = some (.int .i64 (X i)) ∧ W.frozen? ⟨ms, i, none⟩ = false
  lo : base ≤ ms
  hi : ms < W.heap.size
  row : JR base v js W
  ne : ∀ k, v.ownBlock = some k → k ≠ ms
theorem rw_same {base ms n : Nat} {X : Nat → Int} {v : Value} {js : List Jb} {W W' : World} (h : RW base ms n X v js W) (hs : W.heap.size ≤ W'.heap.size) (hk : ∀ k, base ≤ k → k < W.heap.size → W'.heap[k]? = W.heap[k]?) : RW base ms n X v js W' := by
  have km := hk ms h.lo h.hi
  exact ⟨fun i hi => ⟨(World.cell?_of_block (a := ⟨ms, i, none⟩) km).trans (h.m i hi).1, (World.frozen?_of_block (a := ⟨ms, i, none⟩) km).trans (h.m i hi).2⟩, h.lo, Nat.lt_of_lt_of_le h.hi hs,
    jr_same h.row (fun k e => by have := h.row.lt k e; exact hk k this.1 this.2), h.ne⟩
theorem rw_alloc {base ms n : Nat} {X : Nat → Int} {v : Value} {js : List Jb} {W : World} (h : RW base ms n X v js W) (o : Obj) : RW base ms n X v js (W.alloc o) := rw_same h (by simp) fun k _ hk => Below.heap_alloc W o k hk
theorem rw_drewN {base ms n : Nat} {X : Nat → Int} {v : Value} {js : List Jb} {W : World} (h : RW base ms n X v js W) (j : Nat) : RW base ms n X v js (W.drewN j) := rw_same h (Nat.le_refl _) fun k _ _ => rfl
theorem rw_congr {base ms n : Nat} {X Y : Nat → Int} {v : Value} {js : List Jb} {W : World} (h : RW base ms n X v js W) (e : ∀ i, i < n → X i = Y i) : RW base ms n Y v js W := ⟨fun i hi => by rw [← e i hi]; exact h.m i hi, h.lo, h.hi, h.row, h.ne⟩
/-- Beside it the row that is kept. -/
structure KW (base ms n : Nat) (X : Nat → Int) (v : Value) (js : List Jb) (u : Value) (ks : List Jb) (W : World) : Prop where
  r : RW base ms n X v js W
  k : JR base u ks W
  ne : ∀ k, u.ownBlock = some k → k ≠ ms ∧ v.ownBlock ≠ some k
theorem kw_new {base ms n : Nat} {X : Nat → Int} {v : Value} {js : List Jb} {W : World} (h : RW base ms n X v js W) : KW base ms n X v js (.slice none 0 0) [] W := ⟨h, jr_nil _ _, fun k e => by simp [Value.ownBlock] at e⟩
theorem kw_alloc {base ms n : Nat} {X : Nat → Int} {v : Value} {js : List Jb} {u : Value} {ks : List Jb} {W : World} (h : KW base ms n X v js u ks W) (o : Obj) : KW base ms n X v js u ks (W.alloc o) :=
  ⟨rw_alloc h.r o, jr_same h.k (fun k e => Below.heap_alloc W o k (h.k.lt k e).2), h.ne⟩
theorem kw_end {base ms n : Nat} {X : Nat → Int} {v : Value} {js : List Jb} {u : Value} {ks : List Jb} {W : World} (h : KW base ms n X v js u ks W) : RW base ms n X u ks W := ⟨h.r.m, h.r.lo, h.r.hi, h.k, fun k e => (h.ne k e).1⟩
theorem jr_set {base : Nat} {v : Value} {js : List Jb} {W : World} (h : JR base v js W) {p : Addr} (hp : ∀ k, v.ownBlock = some k → k ≠ p.block) (x : Value) : JR base v js (W.setCell p x) := jr_same h fun k e => Below.heap_setCell W p x k (hp k e)
theorem rw_miss {base ms n : Nat} {X : Nat → Int} {v : Value} {js : List Jb} {W : World} (h : RW base ms n X v js W) (i : Nat) (x : Int) : RW base ms n (upd X i x) v js (W.setCell ⟨ms, i, none⟩ (.int .i64 x)) :=
  ⟨row_set h.m x, h.lo, by rw [size_set]; exact h.hi, jr_set h.row h.ne _, h.ne⟩
theorem kw_miss {base ms n : Nat} {X : Nat → Int} {v : Value} {js : List Jb} {u : Value} {ks : List Jb} {W : World} (h : KW base ms n X v js u ks W) (i : Nat) (x : Int) : KW base ms n (upd X i x) v js u ks (W.setCell ⟨ms, i, none⟩ (.int .i64 x)) :=
  ⟨rw_miss h.r i x, jr_set h.k (fun k e => (h.ne k e).1) _, h.ne⟩
/-- A job's left, stored. -/
theorem rw_left {base ms n g cap : Nat} {X : Nat → Int} {js : List Jb} {W : World} (h : RW base ms n X (.slice (some ⟨g, 0, none⟩) js.length cap) js W) (b : Nat) (x : Int) : RW base ms n X (.slice (some ⟨g, 0, none⟩) js.length cap) (js.set b (x, (jg js b).2)) (W.setCell ⟨g, b * 3, none⟩ (.int .i64 x)) := by
  have hne := h.ne g rfl
  have hr := (World.ownsRow.stored h.row (b * 3) (.int .i64 x)).1
  rw [cl_set] at hr
  refine ⟨row_oth h.m (by exact hne) _, h.lo, by rw [size_set]; exact h.hi, ?_, h.ne⟩
  unfold JR
  rw [List.length_set]
  exact hr
/-- append(v, job): behind 'at_builtin'; the job's box is the newest block. -/
theorem app_job {P : Program} {ops : Array Oper} {rest : List Oper} {o : Oper} {a : Act} {Q : Exit → Act → World → Prop} {W : World} (base : Nat) (hgd : o.guard = none) (s x : Operand) (t : TypeId)
    (ho : o.op = .call { callee := .builtin .append, args := #[s, x], argTypes := #[t, t] }) (ht : P.underlying t = some (.slice 33)) (hinfo : (P.info? 33).map (fun i => (i.zero, i.size, i.bytes)) = some (some (.agg #[.int .i64 0, .int .i64 0, .int .i64 0]), 3, 24))
    (v : Value) (js : List Jb) (y : Jb) (H : Nat) (hH : W.heap.size = H) (hs : a.eval s = v) (hx : a.eval x = .slice (some ⟨H, 0, none⟩) 1 1) (HO : JR base v js W) (hbase : base ≤ W.heap.size) (hl : js.length ≤ 30000)
    (h : ∀ zs v1 w1, Hid (zs = js ++ [y]) → Hid (JR base v1 zs w1 ∧ (W.alloc (.cells #[.int .i64 y.1, .int .i64 y.2.1, .int .i64 y.2.2] 33)).grownBy w1 v.ownBlock ∧ (v.ownBlock = v1.ownBlock ∨ v1.ownBlock = some (W.heap.size + 1))) → wpList P ops Q rest (a.put o.dst v1) w1) :
    wpList P ops Q (o :: rest) a (W.alloc (.cells #[.int .i64 y.1, .int .i64 y.2.1, .int .i64 y.2.2] 33)) := by
  subst hH
  obtain ⟨i0, hi, hzz⟩ := Option.map_eq_some_iff.1 hinfo
  simp only [Prod.mk.injEq] at hzz
  obtain ⟨hz0, hz1, hz2⟩ := hzz
  refine wpList_append_lies (W.alloc (.cells #[.int .i64 y.1, .int .i64 y.2.1, .int .i64 y.2.2] 33)) hgd s x t ho base 33 i0 _ 3 24 ht hi hz0 hz1 hz2 rfl (by decide) v js.length (cl js) hs (World.ownsRow.alloc HO _) ⟨W.heap.size, 0, none⟩ 1 1 [.int .i64 y.1, .int .i64 y.2.1, .int .i64 y.2.2] hx rfl
    (World.news_of_block (cs := #[.int .i64 y.1, .int .i64 y.2.1, .int .i64 y.2.2]) (t := 33) (fr := (0, 0)) (heap_alloc_new W _)) (by simp [Value.oneCell']) (by omega) (by unfold maxLen; omega) (by omega) (by simp; omega) (W.heap.size + 1) (by simp) ?_
  intro g cap w1 hown hg hp _
  have hlen : (js ++ [y]).length = js.length + 1 := by simp
  refine h (js ++ [y]) _ w1 (Lib.hid rfl) (Lib.hid ⟨?_, hg, ?_⟩)
  · unfold JR
    rw [hlen, cl_app]
    exact hown
  · rcases hp with e | e
    · left; rw [e]; rfl
    · right; rw [← e]; rfl
theorem kw_app {base ms n : Nat} {X : Nat → Int} {v : Value} {js : List Jb} {u u1 : Value} {ks zs : List Jb} {W w1 : World} (o : Obj) (h : KW base ms n X v js u ks W) (hr : JR base u1 zs w1) (hg : (W.alloc o).grownBy w1 u.ownBlock) (hp : u.ownBlock = u1.ownBlock ∨ u1.ownBlock = some (W.heap.size + 1)) (hb : base ≤ W.heap.size) :
    KW base ms n X v js u1 zs w1 ∧ Below base W w1 := by
  have hk : ∀ k, k < W.heap.size → some k ≠ u.ownBlock → w1.heap[k]? = W.heap[k]? := fun k hk hne => (hg.block k (by simp; omega) hne).trans (Below.heap_alloc W o k hk)
  have hsz : W.heap.size ≤ w1.heap.size := Nat.le_trans (by simp) hg.size
  have hm := h.r.hi
  have km := hk ms hm fun e => (h.ne ms e.symm).1 rfl
  have hne : ∀ k, u1.ownBlock = some k → k ≠ ms ∧ v.ownBlock ≠ some k := by
    intro k e
    rcases hp with e1 | e1
    · exact h.ne k (e1.trans e)
    · rw [e] at e1
      simp only [Option.some.injEq] at e1
      refine ⟨by omega, fun e2 => ?_⟩
      have := (h.r.row.lt k e2).2
      omega
  refine ⟨⟨⟨fun i hi => ⟨(World.cell?_of_block (a := ⟨ms, i, none⟩) km).trans (h.r.m i hi).1, (World.frozen?_of_block (a := ⟨ms, i, none⟩) km).trans (h.r.m i hi).2⟩, h.r.lo, Nat.lt_of_lt_of_le hm hsz, jr_same h.r.row (fun k e => hk k (h.r.row.lt k e).2 fun e2 => (h.ne k e2.symm).2 e), h.r.ne⟩, hr, hne⟩, ?_⟩
  refine ⟨hg.os.trans rfl, hg.tape.trans rfl, hg.output.trans rfl, hsz, fun i hi => hk i (by omega) fun e => ?_⟩
  have := (h.k.lt i e.symm).1
  omega
theorem rw_app {base ms n : Nat} {X : Nat → Int} {v v1 : Value} {js zs : List Jb} {W w1 : World} (o : Obj) (h : RW base ms n X v js W) (hr : JR base v1 zs w1) (hg : (W.alloc o).grownBy w1 v.ownBlock) (hp : v.ownBlock = v1.ownBlock ∨ v1.ownBlock = some (W.heap.size + 1)) (hb : base ≤ W.heap.size) :
    RW base ms n X v1 zs w1 ∧ Below base W w1 := by
  have hk : KW base ms n X (.slice none 0 0) [] v js W := ⟨⟨h.m, h.lo, h.hi, jr_nil _ _, fun k e => by simp [Value.ownBlock] at e⟩, h.row, fun k e => ⟨h.ne k e, by simp [Value.ownBlock]⟩⟩
  have := kw_app o hk hr hg hp hb
  exact ⟨kw_end this.1, this.2⟩
/-- append of a part of a row, at a step of a region that draws. -/
theorem step_app {P : Program} {w : World} {ops : Array Oper} {o : Oper} {a : Act} {K : Act → World → Prop} {Q : Exit → Act → World → Prop} {E : Prop} (base : Nat) (hgd : o.guard = none) (s x : Operand) (t : TypeId)
    (ho : o.op = .call { callee := .builtin .append, args := #[s, x], argTypes := #[t, t] }) (ht : P.underlying t = some (.slice 33)) (hinfo : (P.info? 33).map (fun i => (i.zero, i.size, i.bytes)) = some (some (.agg #[.int .i64 0, .int .i64 0, .int .i64 0]), 3, 24))
    (v : Value) (js : List Jb) (hs : a.eval s = v) (HO : JR base v js w) (ad : Addr) (c m : Nat) (ys : List Jb) (hm : ys.length = m) (hx : a.eval x = .slice (some ad) m c) (hnews : ∀ j u, (cl ys)[j]? = some u → w.cell? (ad.add j) = some u) (hbase : base ≤ w.heap.size) (hl : js.length + ys.length ≤ 30000)
    (h : ∀ v1 w1, Hid (JR base v1 (js ++ ys) w1 ∧ w.grownBy w1 v.ownBlock ∧ (v1.ownBlock = v.ownBlock ∨ v1.ownBlock = some w.heap.size)) → K (a.put o.dst v1) w1) :
    if Region.wanted o (yielded ops a.tmps) = true then Oper.wp P o a w K Q else E := by
  have hw : Region.wanted o (yielded ops a.tmps) = true := by simp [Region.wanted, hgd]
  rw [if_pos hw]
  subst hm
  obtain ⟨i0, hi, hzz⟩ := Option.map_eq_some_iff.1 hinfo
  simp only [Prod.mk.injEq] at hzz
  obtain ⟨hz0, hz1, hz2⟩ := hzz
  obtain ⟨v', w', hr, h2, h3, h4, h5⟩ := run_append_own_at (P := P) w base t o.type 33 i0 _ 3 24 ht hi hz0 hz1 hz2 rfl (by decide) v js.length (cl js) HO ad ys.length c (cl ys) (cl_len ys) hnews cl_one (by unfold maxLen; omega) (by omega) hbase
  unfold Oper.wp execOp
  simp only [ho, resolve, invoke, builtin, Sem.run_bind, Sem.run_pure, Result.andThen_ok, List.map_toArray, List.map_cons, List.map_nil, hs, hx, hr]
  refine h v' w' (Lib.hid ⟨?_, h3, h5⟩)
  unfold JR
  rw [List.length_append, cl_app]
  exact h2
end Go.Proofs.Ytdbaeigbejcobaa.Dl
