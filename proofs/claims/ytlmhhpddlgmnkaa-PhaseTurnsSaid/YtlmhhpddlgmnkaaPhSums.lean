import Derived.Deep.Slices
import Derived.Lib.SmallJoins
import Derived.Laws.OwnMore
import Derived.Laws.AppendOwn
import Derived.Deep.AppendLies
import Derived.Test.YtlmhhpddlgmnkaaPhWhole
namespace Go.Proofs.Ytlmhhpddlgmnkaa.Ph
open Go.RowKit
set_option linter.unusedVariables false
set_option linter.unusedSimpArgs false
/-- A slice of arrays of two numbers, opened. -/
theorem open_two {H : Type} {enc : TypeId × Value → H} {P : Program} {w : World} {base : Nat} {spare : Nat → Bool} {held : Bool} {fuel : Nat} {t e i0 : TypeId} {a : Option Addr} {len cap : Nat} {x : DataW H × List MemPlace}
    (ht : P.underlying t = some (.slice e)) (he : P.underlying e = some (.array 2 i0)) (ce : P.cellsOf e = 2) (c0 : P.cellsOf i0 = 1) (u0 : P.underlying i0 = some (.int .i64))
    (h : DataW.trod enc P w base spare held fuel t [.slice a len cap] = some x) :
    (a = none ∧ len = 0) ∨ ∃ (y : Addr) (z : Nat → Int × Int), a = some y ∧ ∀ i, i < len →
      (w.cell? (y.add (i * 2)) = some (.int .i64 (z i).1) ∧ w.cell? (y.add (i * 2 + 1)) = some (.int .i64 (z i).2)) := by
  rcases Go.Deep.open_slice ht h with ⟨h0, _⟩ | ⟨y, len', cap', m, n, D, Pl, hcs, hb, hl, hm, hmm, hxx, hx⟩
  · simp at h0
    exact .inl ⟨h0.1, h0.2.1⟩
  right
  simp at hcs
  obtain ⟨rfl, rfl, rfl⟩ := hcs
  have hlm : len ≤ m := by rw [hmm]; split <;> omega
  have each : ∀ i, i < len → ∃ z : Int × Int, (w.cell? (y.add (i * 2)) = some (.int .i64 z.1) ∧ w.cell? (y.add (i * 2 + 1)) = some (.int .i64 z.2)) := by
    intro i hi
    obtain ⟨cs', h1, h2⟩ := hx i (by omega)
    rw [ce] at h1
    obtain ⟨_, hlen, hcell⟩ := World.cells?_some h1
    obtain ⟨xs, k, _, _, _, hxl, hf⟩ := DataW.trod_array he h2
    match cs', hlen, xs, hxl with
    | [v0, v1], _, [y0, y1], _ =>
      have g0 := hf 0 (by omega)
      have g1 := hf 1 (by omega)
      simp [c0] at g0 g1
      obtain ⟨z0, e0, _, _⟩ := DataW.trod_int u0 g0
      obtain ⟨z1, e1, _, _⟩ := DataW.trod_int u0 g1
      simp only [List.cons.injEq, and_true] at e0 e1
      subst e0 e1
      have q0 := hcell 0 (by omega)
      have q1 := hcell 1 (by omega)
      rw [Go.Deep.add_add] at q0 q1
      exact ⟨(z0, z1), by simpa using q0, by simpa using q1⟩
  obtain ⟨z, hz⟩ := Go.Deep.choose_lt each
  exact ⟨y, z, rfl, hz⟩
def Rd2 (w : World) (A : Option Addr) (n : Nat) (z : Nat → Int × Int) : Prop := 0 < n → ∃ b off, A = some ⟨b, off, none⟩ ∧ ∀ i, i < n →
  (w.cell? ⟨b, off + i * 2, none⟩ = some (.int .i64 (z i).1) ∧ w.cell? ⟨b, off + i * 2 + 1, none⟩ = some (.int .i64 (z i).2))
theorem rd2_of {w : World} {a : Option Addr} {len : Nat} (h : (a = none ∧ len = 0) ∨ ∃ (y : Addr) (z : Nat → Int × Int), a = some y ∧ ∀ i, i < len →
      (w.cell? (y.add (i * 2)) = some (.int .i64 (z i).1) ∧ w.cell? (y.add (i * 2 + 1)) = some (.int .i64 (z i).2))) : ∃ z, Rd2 w a len z := by
  rcases h with ⟨rfl, rfl⟩ | ⟨x, z, rfl, hx⟩
  · exact ⟨fun _ => (0, 0), fun h => absurd h (by omega)⟩
  · refine ⟨z, fun h => ?_⟩
    obtain ⟨b, off, spot⟩ := x
    have hspot : spot = none := by simpa [Addr.add] using World.cell?_spot (hx 0 h).1
    subst hspot
    refine ⟨b, off, rfl, fun j hj => ?_⟩
    obtain ⟨h0, h1⟩ := hx j hj
    rw [Go.WideShapes.add_plain] at h0 h1
    exact ⟨h0, by rw [Nat.add_assoc]; exact h1⟩
/-! A row of whole complex numbers that the call itself makes. -/
abbrev cw (p : Int × Int) : Value := cx (fw p.1) (fw p.2)
def RowC (base : Nat) (v : Value) (ps : List (Int × Int)) (W : World) : Prop := W.ownsRow base 23 1 v ps.length (ps.map cw)
theorem rowc_nil (base : Nat) (W : World) : RowC base (.slice none 0 0) [] W := World.ownsRow_nil _ _ _ _
theorem rowc_below {base : Nat} {v : Value} {ps : List (Int × Int)} {W W' : World} (h : RowC base v ps W) (hb : Below W.heap.size W W') : RowC base v ps W' := by
  refine World.ownsRow.kept (row := none) h ⟨hb.os, hb.tape, hb.output, hb.size, fun k hk _ => hb.block k hk⟩ ?_
  cases hv : v.ownBlock with
  | none => exact .inl rfl
  | some k => exact .inr (by simp)
theorem rowc_any {base : Nat} {v : Value} {ps : List (Int × Int)} {W : World} (h : RowC base v ps W) : ∃ A0 cap, v = .slice A0 ps.length cap ∧ ∀ i, i < ps.length → ∃ pb, A0 = some ⟨pb, 0, none⟩ ∧ W.cell? ⟨pb, i, none⟩ = some (cw (ps.getD i (0, 0))) := by
  have h' := h
  rcases h.2 with ⟨rfl, h0⟩ | ⟨g, cap, cur, rfl, hb, hg, _⟩
  · exact ⟨none, 0, by rw [h0], fun i hi => by omega⟩
  · refine ⟨_, cap, rfl, fun i hi => ⟨g, rfl, ?_⟩⟩
    rw [World.ownsRow.cellAt h' i (by simpa using hi)]
    simp [List.getD_eq_getElem?_getD, List.getElem?_eq_getElem hi]
theorem info23 : (Try.prog.info? 23).map (fun i => (i.zero, i.size, i.bytes)) = some (some (.complex .f64 0 0), 1, 16) := by kernel_rfl
/-- append(v, y): behind 'at_builtin'; y's box is the newest block. -/
theorem app1c {ops : Array Oper} {rest : List Oper} {o : Oper} {a : Act} {Q : Exit → Act → World → Prop} {W : World} (base : Nat) (hgd : o.guard = none) (s x : Operand)
    (ho : o.op = .call { callee := .builtin .append, args := #[s, x], argTypes := #[44, 44] })
    (v : Value) (xs : List (Int × Int)) (y : Int × Int) (hs : a.eval s = v) (hx : a.eval x = .slice (some ⟨W.heap.size, 0, none⟩) 1 1) (HO : RowC base v xs W) (hbase : base ≤ W.heap.size) (hl : xs.length ≤ 1000)
    (h : ∀ v1 w1, RowC base v1 (xs ++ [y]) w1 → Below base W w1 → wpList Try.prog ops Q rest (a.put o.dst v1) w1) :
    wpList Try.prog ops Q (o :: rest) a (W.alloc (.cells #[cw y] 23)) := by
  obtain ⟨i0, hi, hzz⟩ := Option.map_eq_some_iff.1 info23
  simp only [Prod.mk.injEq] at hzz
  obtain ⟨hz0, hz1, hz2⟩ := hzz
  refine wpList_append_own (W.alloc (.cells #[cw y] 23)) hgd s x 44 ho base 23 i0 (.complex .f64 0 0) 1 16 Try.underlying44 hi hz0 hz1 hz2 rfl (by decide) v xs.length (xs.map cw) hs (World.ownsRow.alloc HO _) ⟨W.heap.size, 0, none⟩ 1 1 [cw y] hx rfl
    (World.news_of_block (cs := #[cw y]) (t := 23) (fr := (0, 0)) (heap_alloc_new W _)) (by simp [Value.oneCell']) (by unfold maxLen; omega) (by omega) (by simp; omega) ?_
  intro v1 w1 hown hg _
  refine h v1 w1 ?_ ⟨hg.os.trans rfl, hg.tape.trans rfl, hg.output.trans rfl, Nat.le_trans (by simp) hg.size, fun i hi => ?_⟩
  · have hlen : (xs ++ [y]).length = xs.length + 1 := by simp
    have e1 : (xs ++ [y]).map cw = xs.map cw ++ [cw y] := by simp
    unfold RowC
    rw [hlen, e1]; exact hown
  refine (hg.block i (by simp; omega) ?_).trans (Below.heap_alloc W _ i (by omega))
  cases hv : v.ownBlock with
  | none => simp
  | some kk =>
    have := (World.ownsRow.lt HO kk hv).1
    simp; omega
/-! Sums. -/
def s1 (ps : List (Int × Int)) (i : Nat) : Int := ((List.range i).map fun j => (ps.getD j (0, 0)).1).sum
def s2 (ps : List (Int × Int)) (i : Nat) : Int := ((List.range i).map fun j => (ps.getD j (0, 0)).2).sum
theorem s1_succ (ps : List (Int × Int)) (i : Nat) : s1 ps (i + 1) = s1 ps i + (ps.getD i (0, 0)).1 := by simp [s1, List.range_succ]
theorem s2_succ (ps : List (Int × Int)) (i : Nat) : s2 ps (i + 1) = s2 ps i + (ps.getD i (0, 0)).2 := by simp [s2, List.range_succ]
def AllIn (ps : List (Int × Int)) : Prop := ∀ i, In (ps.getD i (0, 0)).1 ∧ In (ps.getD i (0, 0)).2
def Ok (ps : List (Int × Int)) (n : Nat) : Prop := ∀ i, i ≤ n → In (s1 ps i) ∧ In (s2 ps i)
theorem ok_zero (ps : List (Int × Int)) : Ok ps 0 := fun i hi => by
  obtain rfl : i = 0 := by omega
  exact ⟨by unfold In s1; simp, by unfold In s2; simp⟩
theorem ok_succ {ps : List (Int × Int)} {n : Nat} (h : Ok ps n) (k : In (s1 ps (n + 1)) ∧ In (s2 ps (n + 1))) : Ok ps (n + 1) := fun i hi => by
  rcases Nat.lt_or_ge i (n + 1) with h1 | h1
  · exact h i (by omega)
  · obtain rfl : i = n + 1 := by omega
    exact k
theorem getD_snoc {A : List (Int × Int)} {a : Int × Int} {i : Nat} : (A ++ [a]).getD i (0, 0) = if i = A.length then a else A.getD i (0, 0) := by
  rcases Nat.lt_trichotomy i A.length with h | h | h
  · rw [if_neg (by omega)]; simp [List.getD_eq_getElem?_getD, List.getElem?_append_left h]
  · subst h; simp [List.getD_eq_getElem?_getD]
  · rw [if_neg (by omega)]; simp [List.getD_eq_getElem?_getD, List.getElem?_append_right (Nat.le_of_lt h)]
    rw [List.getElem?_eq_none (by simp; omega), List.getElem?_eq_none (by omega)]
theorem s_snoc (ps : List (Int × Int)) (y : Int × Int) (i : Nat) (hi : i ≤ ps.length) : s1 (ps ++ [y]) i = s1 ps i ∧ s2 (ps ++ [y]) i = s2 ps i := by
  induction i with
  | zero => exact ⟨rfl, rfl⟩
  | succ i ih =>
    have e : (ps ++ [y]).getD i (0, 0) = ps.getD i (0, 0) := by rw [getD_snoc, if_neg (by omega)]
    rw [s1_succ, s1_succ, s2_succ, s2_succ, (ih (by omega)).1, (ih (by omega)).2, e]
    exact ⟨rfl, rfl⟩
theorem s_last (ps : List (Int × Int)) (y : Int × Int) : s1 (ps ++ [y]) (ps.length + 1) = s1 ps ps.length + y.1 ∧ s2 (ps ++ [y]) (ps.length + 1) = s2 ps ps.length + y.2 := by
  have e : (ps ++ [y]).getD ps.length (0, 0) = y := by rw [getD_snoc, if_pos rfl]
  rw [s1_succ, s2_succ, (s_snoc ps y ps.length (Nat.le_refl _)).1, (s_snoc ps y ps.length (Nat.le_refl _)).2, e]
  exact ⟨rfl, rfl⟩
theorem ok_snoc (ps : List (Int × Int)) (y : Int × Int) : Ok (ps ++ [y]) (ps.length + 1) ↔ Ok ps ps.length ∧ In (s1 ps ps.length + y.1) ∧ In (s2 ps ps.length + y.2) := by
  constructor
  · intro h
    refine ⟨fun i hi => ?_, ?_⟩
    · have := h i (by omega)
      rw [(s_snoc ps y i hi).1, (s_snoc ps y i hi).2] at this; exact this
    · have := h (ps.length + 1) (Nat.le_refl _)
      rw [(s_last ps y).1, (s_last ps y).2] at this; exact this
  · rintro ⟨h, k⟩ i hi
    rcases Nat.lt_or_ge i (ps.length + 1) with h1 | h1
    · rw [(s_snoc ps y i (by omega)).1, (s_snoc ps y i (by omega)).2]; exact h i (by omega)
    · obtain rfl : i = ps.length + 1 := by omega
      rw [(s_last ps y).1, (s_last ps y).2]; exact k
end Go.Proofs.Ytlmhhpddlgmnkaa.Ph
