/- The map of ids, the times and the devices: a part of the walk of the whole machine. For all states that the readings allow. -/
import Derived.Maps.OwnSet
import Derived.Maps.OwnOps
import Derived.DeepKeys4
import Derived.Test.YtlcaepcojglbiaaGreatDoorMd
import Derived.Test.YtlcaepcojglbiaaGreatDoorMa
namespace Go.Proofs.YtlcaepcojglbiaaGreatDoor.Tp
open Go.RowKit Go.MapKept Go.ChangeMaps
open Go.Maps (Keyed)
set_option linter.unusedVariables false
set_option linter.unusedSimpArgs false
/-! A map in memory, as a function. -/
structure MV {ι α : Type} (k : TypeId) (kv : ι → Value) (vv : α → Value) (b n : Nat) (f : ι → Option α) (W : World) : Prop where
  ex : ∃ es clock, W.heap[b]? = some (.map es clock) ∧ es.size = n ∧ Stamped es clock ∧ (∀ x ∈ es.toList, ∃ i v, f i = some v ∧ x.key = kv i ∧ x.val = vv v ∧ ∃ l, keyOf Tryz.prog k (kv i) = some l) ∧ ∀ i v, f i = some v → ∃ x ∈ es.toList, x.key = kv i ∧ x.val = vv v
  mx : n ≤ 1000
section
variable {ι α : Type} {k : TypeId} {kv : ι → Value} {vv : α → Value} {b n : Nat} {f : ι → Option α} {W W' : World}
theorem mv_lt (h : MV k kv vv b n f W) : b < W.heap.size := by
  obtain ⟨es, clock, hb, _⟩ := h.ex
  exact (Array.getElem?_eq_some_iff.1 hb).1
theorem mv_same (h : MV k kv vv b n f W) (h1 : W'.heap[b]? = W.heap[b]?) : MV k kv vv b n f W' := by
  obtain ⟨es, clock, hb, h2⟩ := h.ex
  exact ⟨⟨es, clock, h1.trans hb, h2⟩, h.mx⟩
theorem mv_made (k : TypeId) (kv : ι → Value) (vv : α → Value) (W : World) : MV k kv vv W.heap.size 0 (fun _ => none) (W.alloc (.map #[] 0)) :=
  ⟨⟨#[], 0, heap_alloc_new W _, rfl, stamped_empty 0, fun x hx => by simp at hx, fun i v hi => by cases hi⟩, by omega⟩
theorem mv_keys (h : MV k kv vv b n f W) : ∃ es clock, W.heap[b]? = some (.map es clock) ∧ ∀ e ∈ es.toList, ∃ l, keyOf Tryz.prog k e.key = some l := by
  obtain ⟨es, clock, hb, _, _, h1, _⟩ := h.ex
  refine ⟨es, clock, hb, fun e he => ?_⟩
  obtain ⟨i, v, _, hk, _, l, hl⟩ := h1 e he
  exact ⟨l, by rw [hk]; exact hl⟩
/-- What lies at a key. -/
def look (z : Value) (c : Bool) (vv : α → Value) : Option α → Value
  | none => if c then .tuple #[z, .bool false] else z
  | some v => if c then .tuple #[vv v, .bool true] else vv v
theorem mv_look {t e : TypeId} {z : Value} (h : MV k kv vv b n f W) (K : Keyed Tryz.prog k) (ht : Tryz.prog.underlying t = some (.map k e)) (hz : (zeroValue e).run Tryz.prog W = .ok z W) (inj : ∀ i j, kv i = kv j → i = j) (c : Bool) (i : ι) {l : Lit} (hi : keyOf Tryz.prog k (kv i) = some l) :
    (Instr.lookup t (.map (some b)) (kv i) c).run Tryz.prog W = .ok (look z c vv (f i)) W := by
  obtain ⟨es, clock, hb, hn, hs, h1, h2⟩ := h.ex
  have hk : ∀ e ∈ es.toList, ∃ l, keyOf Tryz.prog k e.key = some l := fun e he => by
    obtain ⟨i, v, _, hk, _, l, hl⟩ := h1 e he
    exact ⟨l, by rw [hk]; exact hl⟩
  rcases K.find W hi es.toList hk with ⟨r1, r2⟩ | ⟨j, e0, r1, r2, r3⟩
  · have : f i = none := by
      cases hf : f i with
      | none => rfl
      | some v =>
        obtain ⟨x, hx, hxk, _⟩ := h2 i v hf
        exact absurd hxk (r2 x hx)
    rw [this]
    cases c <;> simp [Instr.lookup, run_underlying ht, MapKept.run_getObj_map hb, K.check W _ hi, r1, hz, Result.andThen, look]
  · obtain ⟨i', v, hf, hk', hv', _⟩ := h1 e0 (List.mem_of_getElem? r2)
    obtain rfl := inj i i' (by rw [← hk', r3])
    rw [hf]
    cases c <;> simp [Instr.lookup, run_underlying ht, MapKept.run_getObj_map hb, K.check W _ hi, r1, Result.andThen, look, hv']
theorem g2_block {b : Nat} {W : World} (o : Obj) (hb : b < W.heap.size) : G2 b b W (setBlock W b o) :=
  ⟨rfl, rfl, rfl, by simp [setBlock], fun i hi h1 _ => by simp [setBlock, Array.getElem?_setIfInBounds, Ne.symm h1]⟩
theorem mv_store {t e : TypeId} (h : MV k kv vv b n f W) (K : Keyed Tryz.prog k) (ht : Tryz.prog.underlying t = some (.map k e)) (inj : ∀ i j, kv i = kv j → i = j) [DecidableEq ι] (i : ι) (v : α) {l : Lit} (hi : keyOf Tryz.prog k (kv i) = some l) (hn : n < 1000) :
    ∃ W', (Instr.mapUpdate t (.map (some b)) (kv i) (vv v)).run Tryz.prog W = .ok () W' ∧ MV k kv vv b (if (f i).isSome then n else n + 1) (fun j => if j = i then some v else f j) W' ∧ G2 b b W W' := by
  have hlt := mv_lt h
  obtain ⟨es, clock, hb, hsz, hs, h1, h2⟩ := h.ex
  have hk : ∀ e ∈ es.toList, ∃ l, keyOf Tryz.prog k e.key = some l := fun e he => by
    obtain ⟨i, v, _, hk, _, l, hl⟩ := h1 e he
    exact ⟨l, by rw [hk]; exact hl⟩
  rcases K.find W hi es.toList hk with ⟨r1, r2⟩ | ⟨j, e0, r1, r2, r3⟩
  · have hf : f i = none := by
      cases hf : f i with
      | none => rfl
      | some v =>
        obtain ⟨x, hx, hxk, _⟩ := h2 i v hf
        exact absurd hxk (r2 x hx)
    refine ⟨setBlock W b (.map (es.push ⟨kv i, vv v, clock⟩) (clock + 1)), ?_, ⟨⟨_, _, heap_setBlock_same hb _, ?_, stamped_push hs r2, ?_, ?_⟩, ?_⟩, g2_block _ hlt⟩
    · simp [Instr.mapUpdate, run_underlying ht, MapKept.run_getObj_map hb, K.check W false hi, r1, MapKept.run_setObj_map _ hb, Result.andThen, setBlock]
    · rw [hf]; simp [hsz]
    · intro x hx
      simp only [Array.toList_push, List.mem_append, List.mem_singleton] at hx
      rcases hx with hx | rfl
      · obtain ⟨j, u, g1, g2, g3, g4⟩ := h1 x hx
        have hji : j ≠ i := fun e => r2 x hx (by rw [g2, e])
        exact ⟨j, u, by rw [if_neg hji]; exact g1, g2, g3, g4⟩
      · exact ⟨i, v, by rw [if_pos rfl], rfl, rfl, l, hi⟩
    · intro j u hj
      by_cases e : j = i
      · subst e
        rw [if_pos rfl] at hj
        cases hj
        exact ⟨⟨kv j, vv v, clock⟩, by simp, rfl, rfl⟩
      · rw [if_neg e] at hj
        obtain ⟨x, hx, g⟩ := h2 j u hj
        exact ⟨x, by simp only [Array.toList_push, List.mem_append]; exact .inl hx, g⟩
    · split <;> omega
  · obtain ⟨i', v0, hf, hk', hv', _⟩ := h1 e0 (List.mem_of_getElem? r2)
    obtain rfl := inj i i' (by rw [← hk', r3])
    have hj : es[j]? = some e0 := by simpa using r2
    have hjl : j < es.toList.length := (List.getElem?_eq_some_iff.1 r2).1
    have hkeyf : ∀ e', es[j]? = some e' → ({ e' with key := kv i, val := vv v } : MapEntry).key = e'.key := fun e' he' => by rw [hj] at he'; cases he'; exact r3.symm
    have hlist : (es.modify j (fun e' => { e' with key := kv i, val := vv v })).toList = es.toList.set j { e0 with key := kv i, val := vv v } := by rw [Array.toList_modify, modify_eq_set _ _ _ _ r2]
    have hnd := ((stamped_iff es clock).1 hs).2.2
    have who : ∀ a (ha : a < es.toList.length), a ≠ j → es.toList[a].key ≠ kv i := by
      intro a ha hne
      have he0 : es.toList[j] = e0 := (List.getElem?_eq_some_iff.1 r2).2
      rw [List.pairwise_iff_getElem] at hnd
      rcases Nat.lt_or_gt_of_ne hne with q | q
      · have := hnd a j ha hjl q
        rw [he0, r3] at this
        exact this
      · have := hnd j a hjl ha q
        rw [he0, r3] at this
        exact fun e => this e.symm
    refine ⟨setBlock W b (.map (es.modify j (fun e' => { e' with key := kv i, val := vv v })) clock), ?_, ⟨⟨_, _, heap_setBlock_same hb _, ?_, stamped_modify hs _ _ (fun _ _ => rfl) (fun e' _ he' => hkeyf e' he'), ?_, ?_⟩, ?_⟩, g2_block _ hlt⟩
    · simp [Instr.mapUpdate, run_underlying ht, MapKept.run_getObj_map hb, K.check W false hi, r1, hj, r3, K.stays W hi, MapKept.run_setObj_map _ hb, Result.andThen, setBlock]
    · rw [hf]; simp [hsz]
    · intro x hx
      rw [hlist] at hx
      obtain ⟨a, ha, ex⟩ := List.getElem_of_mem hx
      rw [List.getElem_set] at ex
      split at ex
      · subst ex
        exact ⟨i, v, by rw [if_pos rfl], rfl, rfl, l, hi⟩
      · rename_i hne
        have ha' : a < es.toList.length := by simpa using ha
        have hxm : x ∈ es.toList := ex ▸ List.getElem_mem ha'
        obtain ⟨j', u, g1, g2, g3, g4⟩ := h1 x hxm
        have hji : j' ≠ i := fun e => who a ha' (fun e => hne e.symm) (by rw [ex, g2, e])
        exact ⟨j', u, by rw [if_neg hji]; exact g1, g2, g3, g4⟩
    · intro a u ha
      rw [hlist]
      by_cases e : a = i
      · subst e
        rw [if_pos rfl] at ha
        cases ha
        exact ⟨_, List.mem_iff_getElem.2 ⟨j, by simpa using hjl, by simp; rfl⟩, rfl, rfl⟩
      · rw [if_neg e] at ha
        obtain ⟨x, hx, g⟩ := h2 a u ha
        obtain ⟨p, hp, ep⟩ := List.getElem_of_mem hx
        have hpj : p ≠ j := fun e2 => by
          subst e2
          have he0 : es.toList[p] = e0 := (List.getElem?_eq_some_iff.1 r2).2
          rw [he0] at ep
          subst ep
          exact e (inj _ _ (g.1.symm.trans r3))
        exact ⟨x, List.mem_iff_getElem.2 ⟨p, by simpa using hp, by rw [List.getElem_set_ne (Ne.symm hpj)]; exact ep⟩, g⟩
    · rw [hf]; simp; omega
theorem mv_drop {t e ty : TypeId} (h : MV k kv vv b n f W) (K : Keyed Tryz.prog k) (ht : Tryz.prog.underlying t = some (.map k e)) (inj : ∀ i j, kv i = kv j → i = j) [DecidableEq ι] (i : ι) {l : Lit} (hi : keyOf Tryz.prog k (kv i) = some l) :
    ∃ W', (Builtin.delete_ #[t, k] ty #[.map (some b), kv i]).run Tryz.prog W = .ok (.tuple #[]) W' ∧ MV k kv vv b (if (f i).isSome then n - 1 else n) (fun j => if j = i then none else f j) W' ∧ G2 b b W W' := by
  have hlt := mv_lt h
  obtain ⟨es, clock, hb, hsz, hs, h1, h2⟩ := h.ex
  have hk : ∀ e ∈ es.toList, ∃ l, keyOf Tryz.prog k e.key = some l := fun e he => by
    obtain ⟨i, v, _, hk, _, l, hl⟩ := h1 e he
    exact ⟨l, by rw [hk]; exact hl⟩
  rcases K.find W hi es.toList hk with ⟨r1, r2⟩ | ⟨j, e0, r1, r2, r3⟩
  · have hf : f i = none := by
      cases hf : f i with
      | none => rfl
      | some v =>
        obtain ⟨x, hx, hxk, _⟩ := h2 i v hf
        exact absurd hxk (r2 x hx)
    refine ⟨setBlock W b (.map es clock), ?_, ⟨⟨_, _, heap_setBlock_same hb _, ?_, hs, ?_, ?_⟩, ?_⟩, g2_block _ hlt⟩
    · simp [Builtin.delete_, run_underlying ht, MapKept.run_getObj_map hb, K.check W _ hi, r1, MapKept.run_setObj_map _ hb, Result.andThen, setBlock]
    · rw [hf]; simp [hsz]
    · intro x hx
      obtain ⟨j, u, g1, g2⟩ := h1 x hx
      have hji : j ≠ i := fun e => by rw [e, hf] at g1; cases g1
      exact ⟨j, u, by rw [if_neg hji]; exact g1, g2⟩
    · intro j u hj
      by_cases e : j = i
      · rw [if_pos e] at hj; cases hj
      · rw [if_neg e] at hj; exact h2 j u hj
    · rw [hf]; exact h.mx
  · obtain ⟨i', v0, hf, hk', hv', _⟩ := h1 e0 (List.mem_of_getElem? r2)
    obtain rfl := inj i i' (by rw [← hk', r3])
    have hjl : j < es.toList.length := (List.getElem?_eq_some_iff.1 r2).1
    have hjs : j < es.size := by simpa using hjl
    have hsub : (es.eraseIdxIfInBounds j).toList = es.toList.eraseIdx j := by
      unfold Array.eraseIdxIfInBounds
      rw [dif_pos hjs]
      simp
    have hnd := ((stamped_iff es clock).1 hs).2.2
    have he0 : es.toList[j] = e0 := (List.getElem?_eq_some_iff.1 r2).2
    have who : ∀ a (ha : a < es.toList.length), a ≠ j → es.toList[a].key ≠ kv i := by
      intro a ha hne
      rw [List.pairwise_iff_getElem] at hnd
      rcases Nat.lt_or_gt_of_ne hne with q | q
      · have := hnd a j ha hjl q
        rw [he0, r3] at this
        exact this
      · have := hnd j a hjl ha q
        rw [he0, r3] at this
        exact fun e => this e.symm
    refine ⟨setBlock W b (.map (es.eraseIdxIfInBounds j) clock), ?_, ⟨⟨_, _, heap_setBlock_same hb _, ?_, stamped_erase hs j, ?_, ?_⟩, ?_⟩, g2_block _ hlt⟩
    · simp [Builtin.delete_, run_underlying ht, MapKept.run_getObj_map hb, K.check W _ hi, r1, MapKept.run_setObj_map _ hb, Result.andThen, setBlock]
    · rw [hf]
      unfold Array.eraseIdxIfInBounds
      rw [dif_pos hjs]
      simp [hsz]
    · intro x hx
      rw [hsub] at hx
      obtain ⟨a, hne, ha⟩ := List.mem_eraseIdx_iff_getElem?.1 hx
      obtain ⟨ha1, ha2⟩ := List.getElem?_eq_some_iff.1 ha
      obtain ⟨j', u, g1, g2, g3, g4⟩ := h1 x (List.mem_of_getElem? ha)
      have hji : j' ≠ i := fun e => who a ha1 hne (by rw [ha2, g2, e])
      exact ⟨j', u, by rw [if_neg hji]; exact g1, g2, g3, g4⟩
    · intro a u ha
      rw [hsub]
      by_cases e : a = i
      · rw [if_pos e] at ha; cases ha
      · rw [if_neg e] at ha
        obtain ⟨x, hx, g⟩ := h2 a u ha
        obtain ⟨p, hp, ep⟩ := List.getElem_of_mem hx
        have hpj : p ≠ j := fun e2 => by
          subst e2
          rw [he0] at ep
          subst ep
          exact e (inj _ _ (g.1.symm.trans r3))
        exact ⟨x, List.mem_eraseIdx_iff_getElem?.2 ⟨p, hpj, by rw [List.getElem?_eq_getElem hp, ep]⟩, g⟩
    · have := h.mx
      split <;> omega
theorem mv_len {t e : TypeId} (h : MV k kv vv b n f W) (ht : Tryz.prog.underlying t = some (.map k e)) (ty : TypeId) : (Builtin.len_ #[t] ty #[.map (some b)]).run Tryz.prog W = .ok (.int .i64 n) W := by
  obtain ⟨es, clock, hb, hsz, _⟩ := h.ex
  simp [Builtin.len_, run_underlying ht, MapKept.run_getObj_map hb, goInt, Result.andThen, hsz]
end
/-! At the operation. -/
section
variable {ι α : Type} {k e t : TypeId} {kv : ι → Value} {vv : α → Value} {b n : Nat} {f : ι → Option α} (w : World) {ops : Array Oper} {rest : List Oper} {o : Oper} {a : Act} {Q : Exit → Act → World → Prop}
theorem wpList_look_mv (hg : o.guard = none) (m x : Operand) (t : TypeId) (c : Bool) (hop : o.op = Op.lookup t m x c)
    (K : Keyed Tryz.prog k) (ht : Tryz.prog.underlying t = some (.map k e)) {z : Value} (hz : (zeroValue e).run Tryz.prog w = .ok z w) (inj : ∀ i j, kv i = kv j → i = j)
    (h : MV k kv vv b n f w) (i : ι) {l : Lit} (hi : keyOf Tryz.prog k (kv i) = some l) (hm : a.eval m = .map (some b)) (hx : a.eval x = kv i) (r : Value) (hr : look z c vv (f i) = r)
    (hK : wpList Tryz.prog ops Q rest (a.put o.dst r) w) : wpList Tryz.prog ops Q (o :: rest) a w := by
  refine wpList_plain hg fun K' hK' => ?_
  have hrun := mv_look h K ht hz inj c i hi
  unfold Oper.wp
  simp [execOp, hop, hm, hx, hrun, hr, Result.andThen]
  exact hK' _ _ hK
theorem wpList_store_mv [DecidableEq ι] (hg : o.guard = none) (m x y : Operand) (t : TypeId) (hop : o.op = Op.mapUpdate t m x y)
    (K : Keyed Tryz.prog k) (ht : Tryz.prog.underlying t = some (.map k e)) (inj : ∀ i j, kv i = kv j → i = j)
    (h : MV k kv vv b n f w) (i : ι) (v : α) {l : Lit} (hi : keyOf Tryz.prog k (kv i) = some l) (hn : n < 1000) (hm : a.eval m = .map (some b)) (hx : a.eval x = kv i) (hy : a.eval y = vv v)
    (hK : ∀ w', MV k kv vv b (if (f i).isSome then n else n + 1) (fun j => if j = i then some v else f j) w' → G2 b b w w' → wpList Tryz.prog ops Q rest (a.put o.dst undef) w') : wpList Tryz.prog ops Q (o :: rest) a w := by
  refine wpList_plain hg fun K' hK' => ?_
  obtain ⟨w', hrun, r1, r2⟩ := mv_store h K ht inj i v hi hn
  unfold Oper.wp
  simp [execOp, hop, hm, hx, hy, hrun, Result.andThen]
  exact hK' _ _ (hK w' r1 r2)
theorem wpList_drop_mv [DecidableEq ι] (hg : o.guard = none) (m x : Operand) (t k : TypeId) (hop : o.op = Op.call { callee := Callee.builtin Builtin.delete, args := #[m, x], argTypes := #[t, k] })
    (K : Keyed Tryz.prog k) (ht : Tryz.prog.underlying t = some (.map k e)) (inj : ∀ i j, kv i = kv j → i = j)
    (h : MV k kv vv b n f w) (i : ι) {l : Lit} (hi : keyOf Tryz.prog k (kv i) = some l) (hm : a.eval m = .map (some b)) (hx : a.eval x = kv i)
    (hK : ∀ w', MV k kv vv b (if (f i).isSome then n - 1 else n) (fun j => if j = i then none else f j) w' → G2 b b w w' → wpList Tryz.prog ops Q rest (a.put o.dst (.tuple #[])) w') : wpList Tryz.prog ops Q (o :: rest) a w := by
  refine wpList_plain hg fun K' hK' => ?_
  obtain ⟨w', hrun, r1, r2⟩ := mv_drop (ty := o.type) h K ht inj i hi
  unfold Oper.wp
  simp [execOp, hop, resolve, invoke, builtin, hm, hx, hrun, Result.andThen]
  exact hK' _ _ (hK w' r1 r2)
theorem wpList_len_mv (hg : o.guard = none) (m : Operand) (t : TypeId) (hop : o.op = Op.call { callee := Callee.builtin Builtin.len, args := #[m], argTypes := #[t] })
    (ht : Tryz.prog.underlying t = some (.map k e)) (h : MV k kv vv b n f w) (hm : a.eval m = .map (some b))
    (hK : wpList Tryz.prog ops Q rest (a.put o.dst (.int .i64 n)) w) : wpList Tryz.prog ops Q (o :: rest) a w := by
  refine wpList_plain hg fun K' hK' => ?_
  unfold Oper.wp
  simp [execOp, hop, resolve, invoke, builtin, hm, mv_len h ht o.type, Result.andThen]
  exact hK' _ _ hK
end
/-! Keys: whole numbers, handles. -/
theorem keyed3 : Keyed Tryz.prog 3 := Go.Maps.int_keyed Tryz.underlying3
set_option maxRecDepth 100000 in
theorem laidOut : laidOutB Tryz.prog = true := by kernel_rfl
set_option maxRecDepth 100000 in
theorem row171 : 171 < Tryz.prog.types.size := of_decide_eq_true (by kernel_rfl)
theorem wide171 : (match Tryz.prog.underlying 171 with | some (.array _ _) | some (.struct _) => true | _ => false) = true := by rw [Tryz.underlying171]
set_option maxRecDepth 100000 in
theorem keyed171 : Keyed Tryz.prog 171 := Keyed.of_law (deep_law_laid laidOut (m := 2) (by omega) row171 (by kernel_rfl) wide171)
abbrev ki (i : Int) : Value := .int .i64 i
abbrev kh (p : Int × Int) : Value := .agg #[.int .i64 p.1, .int .i64 p.2]
theorem ki_inj : ∀ i j, ki i = ki j → i = j := fun i j h => by cases h; rfl
theorem kh_inj : ∀ i j, kh i = kh j → i = j := fun i j h => by
  obtain ⟨a, b⟩ := i
  obtain ⟨c, d⟩ := j
  simp at h
  simp [h]
theorem ki_key {i : Int} (h : -9223372036854775808 ≤ i ∧ i ≤ 9223372036854775807) : keyOf Tryz.prog 3 (ki i) = some (.int .i64 i) := Go.Maps.keyOf_int_mk Tryz.underlying3 (WalkArith.wf_i64 (by omega))
theorem kh_gen (P : Program) {t u : TypeId} {fa fb : Field} (ht : P.underlying t = some (.struct #[fa, fb])) (ta : fa.type = u) (tb : fb.type = u) (oa : fa.offset = 0) (ob : fb.offset = 1) (na : (fa.name != "_") = true) (nb : (fb.name != "_") = true) (hu : P.underlying u = some (.int .i64)) (hc : P.cellsOf t = 2) (hcu : P.cellsOf u = 1) (hk : P.keyType t = true) (m : Nat) (hm : P.types.size + 1 = m + 2)
    (a b : Int) (w1 : (Lit.int .i64 a).wf = true) (w2 : (Lit.int .i64 b).wf = true) : ∃ l, keyOf P t (.agg #[.int .i64 a, .int .i64 b]) = some l := by
  refine ⟨.string (keyBytes [.int .i64 a, .int .i64 b]), ?_⟩
  unfold keyOf
  rw [ht]
  have hl : P.keyLits (P.types.size + 1) t [.int .i64 a, .int .i64 b] = some [.int .i64 a, .int .i64 b] := by
    rw [hm]
    simp [Program.keyLits, ht, hc, na, nb, ta, tb, oa, ob, hcu, hu, w1, w2]
  simp [hk, Value.formed, ht, hc, Value.cells, hl]
theorem size_two : ∃ m, Tryz.prog.types.size + 1 = m + 2 := by
  have h := row171
  generalize Tryz.prog.types.size = n at h ⊢
  exact ⟨n - 1, by omega⟩
set_option maxRecDepth 100000 in
theorem kh_key {p : Int × Int} (h1 : -9223372036854775808 ≤ p.1 ∧ p.1 ≤ 9223372036854775807) (h2 : -9223372036854775808 ≤ p.2 ∧ p.2 ≤ 9223372036854775807) : ∃ l, keyOf Tryz.prog 171 (kh p) = some l := by
  obtain ⟨m, hm⟩ := size_two
  exact kh_gen Tryz.prog Tryz.underlying171 rfl rfl rfl rfl rfl rfl Tryz.underlying3 (by kernel_rfl) (by kernel_rfl) (by kernel_rfl) m hm p.1 p.2 (WalkArith.wf_i64 (by omega)) (WalkArith.wf_i64 (by omega))
end Go.Proofs.YtlcaepcojglbiaaGreatDoor.Tp
namespace Go.Proofs.YtlcaepcojglbiaaGreatDoor.Tp
open Go.RowKit
set_option linter.unusedVariables false
set_option linter.unusedSimpArgs false
/-! Times. -/
def clampv (t : Int) : Int := min (max t (-4611686018427387903)) 4611686018427387903
def addv (a b : Int) : Int := if 4611686018427387903 ≤ a then 4611686018427387903 else clampv (clampv a + clampv b)
def subv (a b : Int) : Int := if 4611686018427387903 ≤ a then 4611686018427387903 else clampv (clampv a - clampv b)
def betw (l t h : Int) : Int := min (max (clampv t) (clampv l)) (clampv h)
theorem clampv_bd (t : Int) : -4611686018427387903 ≤ clampv t ∧ clampv t ≤ 4611686018427387903 := by unfold clampv; omega
theorem clamp_at (t : Int) (W : World) : Calls Tryz.prog 63 #[.int .i64 t] W fun e W' => e = .returned (.int .i64 (clampv t)) ∧ W' = W := by
  unfold clampv
  rcases (show t < -4611686018427387903 ∨ (-4611686018427387903 ≤ t ∧ t ≤ 4611686018427387903) ∨ 4611686018427387903 < t by omega) with h | ⟨h, h2⟩ | h
  all_goals
    go_enter Tryz.func63, Tryz.ntmps63
    go_wp2
    go_ret
    exact ⟨ret_int (by omega), rfl⟩
theorem never_at (t : Int) (W : World) : Calls Tryz.prog 62 #[.int .i64 t] W fun e W' => e = .returned (.bool (decide (4611686018427387903 ≤ t))) ∧ W' = W := by
  go_enter Tryz.func62, Tryz.ntmps62
  go_wp2
  go_ret
  exact ⟨rfl, rfl⟩
theorem never_yes {t : Int} (h : 4611686018427387903 ≤ t) (W : World) : Calls Tryz.prog 62 #[.int .i64 t] W fun e W' => e = .returned (.bool true) ∧ W' = W := by
  have := never_at t W
  rw [decide_eq_true h] at this
  exact this
theorem never_no {t : Int} (h : ¬ 4611686018427387903 ≤ t) (W : World) : Calls Tryz.prog 62 #[.int .i64 t] W fun e W' => e = .returned (.bool false) ∧ W' = W := by
  have := never_at t W
  rw [decide_eq_false h] at this
  exact this
theorem add_at (a b : Int) (W : World) : Calls Tryz.prog 60 #[.int .i64 a, .int .i64 b] W fun e W' => e = .returned (.int .i64 (addv a b)) ∧ W' = W := by
  have C := Lib.hid (clamp_at)
  have ha := clampv_bd a
  have hb := clampv_bd b
  unfold addv
  by_cases h : 4611686018427387903 ≤ a
  · rw [if_pos h]
    have CN := Lib.hid (fun W => never_yes h W)
    clear h C
    go_enter Tryz.func60, Tryz.ntmps60
    go_wp2_with (first | (go_at_call 62; refine (CN.out _).mono ?_; clear CN; rintro e w1 ⟨rfl, rfl⟩) | fail)
    go_ret
    exact ⟨rfl, rfl⟩
  · rw [if_neg h]
    have CN := Lib.hid (fun W => never_no h W)
    have C1 := Lib.hid (fun W => clamp_at a W)
    have C2 := Lib.hid (fun W => clamp_at b W)
    obtain ⟨x, hx⟩ : ∃ x, clampv a = x := ⟨_, rfl⟩
    obtain ⟨y, hy⟩ : ∃ y, clampv b = y := ⟨_, rfl⟩
    rw [hx] at ha C1 ⊢
    rw [hy] at hb C2 ⊢
    have C3 := Lib.hid (fun W => clamp_at (x + y) W)
    have hw : IntKind.i64.wrap (x + y) = x + y := iw (by omega) (by omega)
    obtain ⟨z, hz⟩ : ∃ z, clampv (x + y) = z := ⟨_, rfl⟩
    rw [hz] at C3 ⊢
    clear h C hx hy hz
    go_enter Tryz.func60, Tryz.ntmps60
    go_wp2_with (first
      | (go_at_call 62; refine (CN.out _).mono ?_; clear CN; rintro e w1 ⟨rfl, rfl⟩)
      | (go_at_call 63; refine (C1.out _).mono ?_; clear C1; rintro e w2 ⟨rfl, rfl⟩)
      | (go_at_call 63; refine (C2.out _).mono ?_; clear C2; rintro e w3 ⟨rfl, rfl⟩)
      | (go_at_call 63; refine (C3.out _).mono ?_; clear C3; rintro e w4 ⟨rfl, rfl⟩)
      | fail)
    go_ret
    exact ⟨rfl, rfl⟩
theorem sub_at (a b : Int) (W : World) : Calls Tryz.prog 104 #[.int .i64 a, .int .i64 b] W fun e W' => e = .returned (.int .i64 (subv a b)) ∧ W' = W := by
  have ha := clampv_bd a
  have hb := clampv_bd b
  unfold subv
  by_cases h : 4611686018427387903 ≤ a
  · rw [if_pos h]
    have CN := Lib.hid (fun W => never_yes h W)
    clear h
    go_enter Tryz.func104, Tryz.ntmps104
    go_wp2_with (first | (go_at_call 62; refine (CN.out _).mono ?_; clear CN; rintro e w1 ⟨rfl, rfl⟩) | fail)
    go_ret
    exact ⟨rfl, rfl⟩
  · rw [if_neg h]
    have CN := Lib.hid (fun W => never_no h W)
    have C1 := Lib.hid (fun W => clamp_at a W)
    have C2 := Lib.hid (fun W => clamp_at b W)
    obtain ⟨x, hx⟩ : ∃ x, clampv a = x := ⟨_, rfl⟩
    obtain ⟨y, hy⟩ : ∃ y, clampv b = y := ⟨_, rfl⟩
    rw [hx] at ha C1 ⊢
    rw [hy] at hb C2 ⊢
    have C3 := Lib.hid (fun W => clamp_at (x - y) W)
    have hw : IntKind.i64.wrap (x - y) = x - y := iw (by omega) (by omega)
    obtain ⟨z, hz⟩ : ∃ z, clampv (x - y) = z := ⟨_, rfl⟩
    rw [hz] at C3 ⊢
    clear h hx hy hz
    go_enter Tryz.func104, Tryz.ntmps104
    go_wp2_with (first
      | (go_at_call 62; refine (CN.out _).mono ?_; clear CN; rintro e w1 ⟨rfl, rfl⟩)
      | (go_at_call 63; refine (C1.out _).mono ?_; clear C1; rintro e w2 ⟨rfl, rfl⟩)
      | (go_at_call 63; refine (C2.out _).mono ?_; clear C2; rintro e w3 ⟨rfl, rfl⟩)
      | (go_at_call 63; refine (C3.out _).mono ?_; clear C3; rintro e w4 ⟨rfl, rfl⟩)
      | fail)
    go_ret
    exact ⟨rfl, rfl⟩
theorem betw_at (l t h : Int) (W : World) : Calls Tryz.prog 121 #[.int .i64 l, .int .i64 t, .int .i64 h] W fun e W' => e = .returned (.int .i64 (betw l t h)) ∧ W' = W := by
  have C1 := Lib.hid (fun W => clamp_at t W)
  have C2 := Lib.hid (fun W => clamp_at l W)
  have C3 := Lib.hid (fun W => clamp_at h W)
  unfold betw
  obtain ⟨x, hx⟩ : ∃ x, clampv t = x := ⟨_, rfl⟩
  obtain ⟨y, hy⟩ : ∃ y, clampv l = y := ⟨_, rfl⟩
  obtain ⟨z, hz⟩ : ∃ z, clampv h = z := ⟨_, rfl⟩
  rw [hx] at C1 ⊢
  rw [hy] at C2 ⊢
  rw [hz] at C3 ⊢
  clear hx hy hz
  go_enter Tryz.func121, Tryz.ntmps121
  go_wp2_with (first
    | (go_at_call 63; refine (C1.out _).mono ?_; clear C1; rintro e w2 ⟨rfl, rfl⟩)
    | (go_at_call 63; refine (C2.out _).mono ?_; clear C2; rintro e w3 ⟨rfl, rfl⟩)
    | (go_at_call 63; refine (C3.out _).mono ?_; clear C3; rintro e w4 ⟨rfl, rfl⟩)
    | fail)
  all_goals
    go_ret
    exact ⟨ret_int (by omega), rfl⟩
/-- The least of two times. -/
def first2 (x y : Int) : Int := min (min 4611686018427387903 (clampv x)) (clampv y)
set_option maxHeartbeats 4000000 in
theorem first2_at (b : Nat) (x y : Int) (W : World) (h0 : W.cell? ⟨b, 0, none⟩ = some (.int .i64 x)) (h1 : W.cell? ⟨b, 1, none⟩ = some (.int .i64 y)) : Calls Tryz.prog 103 #[.slice (some ⟨b, 0, none⟩) 2 2] W fun e W' => e = .returned (.int .i64 (first2 x y)) ∧ W' = W := by
  have C1 := Lib.hid (fun W => clamp_at x W)
  have C2 := Lib.hid (fun W => clamp_at y W)
  have hx := clampv_bd x
  have hy := clampv_bd y
  obtain ⟨f, hf⟩ : ∃ f, first2 x y = f := ⟨_, rfl⟩
  rw [hf]
  unfold first2 at hf
  obtain ⟨cx, hcx⟩ : ∃ c, clampv x = c := ⟨_, rfl⟩
  obtain ⟨cy, hcy⟩ : ∃ c, clampv y = c := ⟨_, rfl⟩
  rw [hcx] at C1 hx hf
  rw [hcy] at C2 hy hf
  have HF := Lib.hid hf
  clear hcx hcy hf
  go_enter Tryz.func103, Tryz.ntmps103
  go_wp2_with fail
  go_loopw [3, 8] (fun v3 v8 w => ∃ (i : Nat) (m : Int), i ≤ 2 ∧ v8 = .int .i64 i ∧ v3 = .int .i64 m ∧ Hid (m = if i = 0 then 4611686018427387903 else if i = 1 then cx else f) ∧ w = W) (fun _ v8 _ => 2 - (intOf v8).toNat)
  case atStart => exact ⟨0, _, by omega, rfl, rfl, Lib.hid (by simp), rfl⟩
  case round =>
    obtain ⟨i, m, hi, rfl, rfl, HM, rfl⟩ := hrel
    rcases (show i = 0 ∨ i = 1 ∨ i = 2 by omega) with rfl | rfl | rfl
    · have hm : m = 4611686018427387903 := by simpa using HM.out
      subst hm
      go_wp2_with (first | (go_at_call 63; refine (C1.out _).mono ?_; clear C1; rintro e w2 ⟨rfl, rfl⟩) | fail)
      all_goals exact ⟨⟨1, _, by omega, by simp, rfl, Lib.hid (by simp; omega), by first | rfl | trivial⟩, by simp [intOf]⟩
    · have hm : m = cx := by simpa using HM.out
      subst hm
      go_wp2_with (first | (go_at_call 63; refine (C2.out _).mono ?_; clear C2; rintro e w2 ⟨rfl, rfl⟩) | fail)
      all_goals exact ⟨⟨2, _, by omega, by simp, rfl, Lib.hid (by have := HF.out; simp; omega), by first | rfl | trivial⟩, by simp [intOf]⟩
    · have hm : m = f := by simpa using HM.out
      subst hm
      go_wp2
      go_ret
      exact ⟨rfl, rfl⟩
end Go.Proofs.YtlcaepcojglbiaaGreatDoor.Tp
namespace Go.Proofs.YtlcaepcojglbiaaGreatDoor.Tp
open Go.RowKit
set_option linter.unusedVariables false
set_option linter.unusedSimpArgs false
/-! A device. -/
structure Dv where
  least : Int
  great : Int
  at' : Int
  armed : Bool
  latched : Bool
  off : Bool
structure DR (b : Nat) (d : Dv) (W : World) : Prop where
  c0 : W.cell? ⟨b, 0, none⟩ = some (.int .i64 d.least)
  c1 : W.cell? ⟨b, 1, none⟩ = some (.int .i64 d.great)
  c2 : W.cell? ⟨b, 2, none⟩ = some (.int .i64 d.at')
  c3 : W.cell? ⟨b, 3, none⟩ = some (.bool d.armed)
  c4 : W.cell? ⟨b, 4, none⟩ = some (.bool d.latched)
  c5 : W.cell? ⟨b, 5, none⟩ = some (.bool d.off)
  z : ∀ j, W.frozen? ⟨b, j, none⟩ = false
  lt : b < W.heap.size
theorem dr_same {b : Nat} {d : Dv} {W W' : World} (h : DR b d W) (hs : W.heap.size ≤ W'.heap.size) (h1 : W'.heap[b]? = W.heap[b]?) : DR b d W' := by
  have C : ∀ o, W'.cell? ⟨b, o, none⟩ = W.cell? ⟨b, o, none⟩ := fun o => World.cell?_of_block (a := ⟨b, o, none⟩) h1
  exact ⟨(C 0).trans h.c0, (C 1).trans h.c1, (C 2).trans h.c2, (C 3).trans h.c3, (C 4).trans h.c4, (C 5).trans h.c5, fun j => (World.frozen?_of_block (a := ⟨b, j, none⟩) h1).trans (h.z j), Nat.lt_of_lt_of_le h.lt hs⟩
theorem dr_drewN {b : Nat} {d : Dv} {W : World} (h : DR b d W) (n : Nat) : DR b d (W.drewN n) := dr_same h (Nat.le_refl _) rfl
theorem dr_at {b : Nat} {d : Dv} {W : World} (h : DR b d W) (v : Int) : DR b { d with at' := v } (W.setCell ⟨b, 2, none⟩ (.int .i64 v)) := by
  have C : ∀ o, o ≠ 2 → (W.setCell ⟨b, 2, none⟩ (.int .i64 v)).cell? ⟨b, o, none⟩ = W.cell? ⟨b, o, none⟩ := fun o ho => cs_other (by first | (simp; done) | (simp; omega))
  exact ⟨(C 0 (by omega)).trans h.c0, (C 1 (by omega)).trans h.c1, cs_same h.c2, (C 3 (by omega)).trans h.c3, (C 4 (by omega)).trans h.c4, (C 5 (by omega)).trans h.c5, fun j => by rw [World.frozen?_setCell]; exact h.z j, by rw [size_set]; exact h.lt⟩
theorem dr_armed {b : Nat} {d : Dv} {W : World} (h : DR b d W) (v : Bool) : DR b { d with armed := v } (W.setCell ⟨b, 3, none⟩ (.bool v)) := by
  have C : ∀ o, o ≠ 3 → (W.setCell ⟨b, 3, none⟩ (.bool v)).cell? ⟨b, o, none⟩ = W.cell? ⟨b, o, none⟩ := fun o ho => cs_other (by first | (simp; done) | (simp; omega))
  exact ⟨(C 0 (by omega)).trans h.c0, (C 1 (by omega)).trans h.c1, (C 2 (by omega)).trans h.c2, cs_same h.c3, (C 4 (by omega)).trans h.c4, (C 5 (by omega)).trans h.c5, fun j => by rw [World.frozen?_setCell]; exact h.z j, by rw [size_set]; exact h.lt⟩
theorem dr_latched {b : Nat} {d : Dv} {W : World} (h : DR b d W) (v : Bool) : DR b { d with latched := v } (W.setCell ⟨b, 4, none⟩ (.bool v)) := by
  have C : ∀ o, o ≠ 4 → (W.setCell ⟨b, 4, none⟩ (.bool v)).cell? ⟨b, o, none⟩ = W.cell? ⟨b, o, none⟩ := fun o ho => cs_other (by first | (simp; done) | (simp; omega))
  exact ⟨(C 0 (by omega)).trans h.c0, (C 1 (by omega)).trans h.c1, (C 2 (by omega)).trans h.c2, (C 3 (by omega)).trans h.c3, cs_same h.c4, (C 5 (by omega)).trans h.c5, fun j => by rw [World.frozen?_setCell]; exact h.z j, by rw [size_set]; exact h.lt⟩
theorem dr_off {b : Nat} {d : Dv} {W : World} (h : DR b d W) (v : Bool) : DR b { d with off := v } (W.setCell ⟨b, 5, none⟩ (.bool v)) := by
  have C : ∀ o, o ≠ 5 → (W.setCell ⟨b, 5, none⟩ (.bool v)).cell? ⟨b, o, none⟩ = W.cell? ⟨b, o, none⟩ := fun o ho => cs_other (by first | (simp; done) | (simp; omega))
  exact ⟨(C 0 (by omega)).trans h.c0, (C 1 (by omega)).trans h.c1, (C 2 (by omega)).trans h.c2, (C 3 (by omega)).trans h.c3, (C 4 (by omega)).trans h.c4, cs_same h.c5, fun j => by rw [World.frozen?_setCell]; exact h.z j, by rw [size_set]; exact h.lt⟩
theorem g2_b {b r : Nat} {x y : World} (h : G2 b r x y) (o : Nat) (u : Value) : G2 b r x (y.setCell ⟨b, o, none⟩ u) := g2_set h (.inl rfl) u
theorem take_at {b : Nat} {d : Dv} (W : World) (h : DR b d W) : Calls Tryz.prog 79 #[ptr b] W fun e W' => e = .returned (.bool d.latched) ∧ DR b { d with latched := false } W' ∧ G2 b b W W' := by
  have HT := Lib.hid h
  have c4 := h.c4
  have z4 := h.z 4
  cases hl : d.latched with
  | true =>
    rw [hl] at c4
    have HE := Lib.hid (dr_latched h false)
    clear h hl
    go_enter Tryz.func79, Tryz.ntmps79
    go_wp2
    go_ret
    exact ⟨rfl, HE.out, g2_b (g2_refl _ _ _) _ _⟩
  | false =>
    rw [hl] at c4
    have HE := Lib.hid (show DR b { d with latched := false } W from by
      have : ({ d with latched := false } : Dv) = d := by cases d; simp only at hl; subst hl; rfl
      rw [this]; exact h)
    clear h hl
    go_enter Tryz.func79, Tryz.ntmps79
    go_wp2
    go_ret
    exact ⟨rfl, HE.out, g2_refl _ _ _⟩
theorem stop_at {b : Nat} {d : Dv} (W : World) (h : DR b d W) : Calls Tryz.prog 122 #[ptr b] W fun e W' => e = .returned (.tuple #[]) ∧ DR b { d with armed := false } W' ∧ G2 b b W W' := by
  have HE := Lib.hid (dr_armed h false)
  have c3 := h.c3
  have z3 := h.z 3
  clear h
  go_enter Tryz.func122, Tryz.ntmps122
  go_wp2
  exact bodyPost_end (results_none rfl _ _ _) rfl ⟨rfl, HE.out, g2_b (g2_refl _ _ _) _ _⟩
theorem off_at {b : Nat} {d : Dv} (W : World) (h : DR b d W) : Calls Tryz.prog 84 #[ptr b] W fun e W' => e = .returned (.tuple #[]) ∧ DR b { d with off := true, armed := false, latched := false } W' ∧ G2 b b W W' := by
  have HE := Lib.hid (dr_latched (dr_armed (dr_off h true) false) false)
  have c3 := h.c3
  have c4 := h.c4
  have c5 := h.c5
  have z3 := h.z 3
  have z4 := h.z 4
  have z5 := h.z 5
  have HT := Lib.hid h
  clear h
  go_enter Tryz.func84, Tryz.ntmps84
  go_wp2
  exact bodyPost_end (results_none rfl _ _ _) rfl ⟨rfl, HE.out, g2_b (g2_b (g2_b (g2_refl _ _ _) _ _) _ _) _ _⟩
theorem on_at {b : Nat} {d : Dv} (W : World) (h : DR b d W) : Calls Tryz.prog 56 #[ptr b] W fun e W' => e = .returned (.tuple #[]) ∧ DR b { d with off := false } W' ∧ G2 b b W W' := by
  have HE := Lib.hid (dr_off h false)
  have c5 := h.c5
  have z5 := h.z 5
  clear h
  go_enter Tryz.func56, Tryz.ntmps56
  go_wp2
  exact bodyPost_end (results_none rfl _ _ _) rfl ⟨rfl, HE.out, g2_b (g2_refl _ _ _) _ _⟩
theorem live_at {b : Nat} {d : Dv} (W : World) (h : DR b d W) : Calls Tryz.prog 98 #[ptr b] W fun e W' => e = .returned (.bool (!d.off)) ∧ W' = W := by
  have c5 := h.c5
  cases ho : d.off
  all_goals
    rw [ho] at c5
    clear h ho
    go_enter Tryz.func98, Tryz.ntmps98
    go_wp2
    go_ret
    exact ⟨rfl, rfl⟩
def Dv.when (d : Dv) (now t : Int) : Int := betw (addv now d.least) t (addv now d.great)
set_option maxHeartbeats 4000000 in
theorem when_at {b : Nat} {d : Dv} (now t : Int) (W : World) (h : DR b d W) : Calls Tryz.prog 99 #[ptr b, .int .i64 now, .int .i64 t] W fun e W' => e = .returned (.int .i64 (d.when now t)) ∧ ∃ n, W' = W.drewN n := by
  have c0 := h.c0
  have c1 := h.c1
  unfold Dv.when
  obtain ⟨x, hx⟩ : ∃ x, d.least = x := ⟨_, rfl⟩
  obtain ⟨y, hy⟩ : ∃ y, d.great = y := ⟨_, rfl⟩
  rw [hx] at c0 ⊢
  rw [hy] at c1 ⊢
  clear h hx hy
  go_enter Tryz.func99, Tryz.ntmps99
  go_wp2_with fail
  go_quiet ((first | (go_at_call 60; exact Calls.quiet_of_same (add_at _ _ _)) | (go_at_call 121; exact Calls.quiet_of_same (betw_at _ _ _ _))))
  go_wp2
  go_ret
  exact ⟨rfl, nq, rfl⟩
def Dv.arm (d : Dv) (now t : Int) : Dv := { d with at' := d.when now t, armed := true }
theorem g2_eqn {b r : Nat} {x y : World} (h : ∃ n, y = x.drewN n) : G2 b r x y := by
  obtain ⟨n, rfl⟩ := h
  exact g2_drewN (g2_refl _ _ _) n
set_option maxHeartbeats 4000000 in
/-- Program, where it is on and the time comes. -/
theorem program_at {b : Nat} {d : Dv} (now t : Int) (W : World) (h : DR b d W) (ho : d.off = false) (ht : ¬ 4611686018427387903 ≤ t) : Calls Tryz.prog 100 #[ptr b, .int .i64 now, .int .i64 t] W fun e W' => (∃ v, e = .returned (.tuple #[.int .i64 v, .bool true])) ∧ DR b (d.arm now t) W' ∧ G2 b b W W' := by
  have C1 := Lib.hid (live_at W h)
  have C2 := Lib.hid (never_no ht W)
  have C3 := Lib.hid (when_at now t W h)
  obtain ⟨x, hx⟩ : ∃ x, d.when now t = x := ⟨_, rfl⟩
  rw [hx] at C3
  rw [ho] at C1
  unfold Dv.arm
  rw [hx]
  have HE := Lib.hid (fun n => dr_armed (dr_at (dr_drewN h n) x) true)
  have c2 := h.c2
  have c3 := h.c3
  have z2 := h.z 2
  have z3 := h.z 3
  clear h hx ho ht
  go_enter Tryz.func100, Tryz.ntmps100
  go_wp2_with (first
    | (go_at_call 98; refine (C1.out).mono ?_; clear C1; rintro e w1 ⟨rfl, rfl⟩)
    | (go_at_call 62; refine (C2.out).mono ?_; clear C2; rintro e w1 ⟨rfl, rfl⟩)
    | (go_at_call 99; refine (C3.out).mono ?_; clear C3; rintro e w1 ⟨rfl, n, rfl⟩)
    | fail)
  exact bodyPost_ret (results_tmp2 rfl _ _ _) rfl ⟨⟨_, rfl⟩, HE.out n, g2_b (g2_b (g2_drewN (g2_refl _ _ _) n) _ _) _ _⟩
def Dv.sooner (d : Dv) (now t : Int) : Dv := if d.off = true ∨ 4611686018427387903 ≤ t ∨ (d.armed = true ∧ d.at' ≤ d.when now t) then d else d.arm now t
set_option maxHeartbeats 4000000 in
theorem sooner_at {b : Nat} {d : Dv} (now t : Int) (W : World) (h : DR b d W) : Calls Tryz.prog 74 #[ptr b, .int .i64 now, .int .i64 t] W fun e W' => (∃ v, e = .returned v) ∧ DR b (d.sooner now t) W' ∧ G2 b b W W' := by
  have HT := Lib.hid h
  have CL := Lib.hid (fun n => live_at (W.drewN n) (dr_drewN h n))
  have CN := Lib.hid (fun n => never_at t (W.drewN n))
  have CW := Lib.hid (fun n => when_at now t (W.drewN n) (dr_drewN h n))
  have CP := Lib.hid (fun n => program_at now t (W.drewN n) (dr_drewN h n))
  have c2 := h.c2
  have c3 := h.c3
  cases ho : d.off with
  | true =>
    rw [ho] at CL
    have HS : d.sooner now t = d := by simp [Dv.sooner, ho]
    rw [HS]
    clear h HS ho
    go_enter Tryz.func74, Tryz.ntmps74
    go_wp2_with fail
    go_quiet ((go_at_call 98; exact Calls.quiet_of_same (CL.out _)))
    go_wp2
    go_ret
    exact ⟨⟨_, rfl⟩, dr_drewN HT.out _, g2_drewN (g2_refl _ _ _) _⟩
  | false =>
    rw [ho] at CL
    by_cases ht : 4611686018427387903 ≤ t
    · rw [decide_eq_true ht] at CN
      have HS : d.sooner now t = d := by simp [Dv.sooner, ht]
      rw [HS]
      clear h HS ho ht
      go_enter Tryz.func74, Tryz.ntmps74
      go_wp2_with fail
      go_quiet ((first | (go_at_call 98; exact Calls.quiet_of_same (CL.out _)) | (go_at_call 62; exact Calls.quiet_of_same (CN.out _))))
      go_wp2
      go_ret
      exact ⟨⟨_, rfl⟩, dr_drewN HT.out _, g2_drewN (g2_refl _ _ _) _⟩
    · have HP := Lib.hid (fun n => CP.out n ho ht)
      rw [decide_eq_false ht] at CN
      cases ha : d.armed with
      | false =>
        have HS : d.sooner now t = d.arm now t := by simp [Dv.sooner, ht, ho, ha]
        rw [HS]
        rw [ha] at c3
        clear h HS ho ht CP ha
        go_enter Tryz.func74, Tryz.ntmps74
        go_wp2_with fail
        go_quiet ((first | (go_at_call 98; exact Calls.quiet_of_same (CL.out _)) | (go_at_call 62; exact Calls.quiet_of_same (CN.out _))))
        go_wp2_with (first
          | (go_at_call 100; refine (HP.out _).mono ?_; clear HP; rintro e w1 ⟨⟨v, rfl⟩, hd, hg⟩)
          | fail)
        go_ret
        exact ⟨⟨_, rfl⟩, hd, g2_trans (g2_drewN (g2_refl _ _ _) _) hg⟩
      | true =>
        rw [ha] at c3
        obtain ⟨x, hx⟩ : ∃ x, d.when now t = x := ⟨_, rfl⟩
        obtain ⟨y, hy⟩ : ∃ y, d.at' = y := ⟨_, rfl⟩
        rw [hx] at CW
        rw [hy] at c2
        by_cases hw : y ≤ x
        · have HS : d.sooner now t = d := by simp [Dv.sooner, ha, hx, hy, hw]
          rw [HS]
          clear h HS ho ht CP ha hx hy HP
          go_enter Tryz.func74, Tryz.ntmps74
          go_wp2_with fail
          go_quiet ((first | (go_at_call 98; exact Calls.quiet_of_same (CL.out _)) | (go_at_call 62; exact Calls.quiet_of_same (CN.out _)) | (go_at_call 99; exact Calls.quiet_of (CW.out _))))
          go_wp2
          go_ret
          exact ⟨⟨_, rfl⟩, dr_drewN HT.out _, g2_drewN (g2_refl _ _ _) _⟩
        · have HS : d.sooner now t = d.arm now t := by simp [Dv.sooner, ht, ho, hx, hy, hw]
          rw [HS]
          clear h HS ho ht CP ha hx hy
          go_enter Tryz.func74, Tryz.ntmps74
          go_wp2_with fail
          go_quiet ((first | (go_at_call 98; exact Calls.quiet_of_same (CL.out _)) | (go_at_call 62; exact Calls.quiet_of_same (CN.out _)) | (go_at_call 99; exact Calls.quiet_of (CW.out _))))
          go_wp2_with (first
            | (go_at_call 100; refine (HP.out _).mono ?_; clear HP; rintro e w1 ⟨⟨v, rfl⟩, hd, hg⟩)
            | fail)
          go_ret
          exact ⟨⟨_, rfl⟩, hd, g2_trans (g2_drewN (g2_refl _ _ _) _) hg⟩
def Dv.pass (d : Dv) (now : Int) : Dv := if d.armed = true ∧ d.at' ≤ clampv now then { d with armed := false, latched := true } else d
set_option maxHeartbeats 4000000 in
theorem pass_at {b : Nat} {d : Dv} (now : Int) (W : World) (h : DR b d W) : Calls Tryz.prog 46 #[ptr b, .int .i64 now] W fun e W' => (∃ v, e = .returned v) ∧ DR b (d.pass now) W' ∧ G2 b b W W' := by
  have HT := Lib.hid h
  have CC := Lib.hid (fun n => clamp_at now (W.drewN n))
  have c2 := h.c2
  have c3 := h.c3
  have c4 := h.c4
  have z3 := h.z 3
  have z4 := h.z 4
  cases ha : d.armed with
  | false =>
    have HS : d.pass now = d := by simp [Dv.pass, ha]
    rw [HS]
    rw [ha] at c3
    clear h HS ha
    go_enter Tryz.func46, Tryz.ntmps46
    go_wp2_with fail
    go_quiet (fail)
    go_wp2
    go_ret
    exact ⟨⟨_, rfl⟩, dr_drewN HT.out _, g2_drewN (g2_refl _ _ _) _⟩
  | true =>
    rw [ha] at c3
    obtain ⟨x, hx⟩ : ∃ x, clampv now = x := ⟨_, rfl⟩
    obtain ⟨y, hy⟩ : ∃ y, d.at' = y := ⟨_, rfl⟩
    rw [hx] at CC
    rw [hy] at c2
    by_cases hw : y ≤ x
    · have HS : d.pass now = { d with armed := false, latched := true } := by simp [Dv.pass, ha, hx, hy, hw]
      rw [HS]
      have HE := Lib.hid (fun n => dr_latched (dr_armed (dr_drewN h n) false) true)
      clear h HS ha hx hy
      go_enter Tryz.func46, Tryz.ntmps46
      go_wp2_with fail
      go_quiet ((go_at_call 63; exact Calls.quiet_of_same (CC.out _)))
      go_wp2
      go_ret
      exact ⟨⟨_, rfl⟩, HE.out _, g2_b (g2_b (g2_drewN (g2_refl _ _ _) _) _ _) _ _⟩
    · have HS : d.pass now = d := by simp [Dv.pass, hx, hy, hw]
      rw [HS]
      clear h HS ha hx hy
      go_enter Tryz.func46, Tryz.ntmps46
      go_wp2_with fail
      go_quiet ((go_at_call 63; exact Calls.quiet_of_same (CC.out _)))
      go_wp2
      go_ret
      exact ⟨⟨_, rfl⟩, dr_drewN HT.out _, g2_drewN (g2_refl _ _ _) _⟩
end Go.Proofs.YtlcaepcojglbiaaGreatDoor.Tp
