import Derived.Deep.Slices
import Derived.Lib.SmallJoins
import Derived.Test.YtapebhefbokcfaaWinPl0
namespace Go.Proofs.Ytapebhefbokcfaa.Win
open Go.RowKit Go.Proofs.Ytapebhefbokcfaa.DebW
set_option linter.unusedVariables false
set_option linter.unusedSimpArgs false
/-- A slice of acts, opened: four cells an element. -/
theorem open_quads {H : Type} {enc : TypeId × Value → H} {P : Program} {w : World} {base : Nat} {spare : Nat → Bool} {held : Bool} {fuel : Nat} {t e : TypeId} {f0 f1 f2 f3 : Field} {a : Option Addr} {len cap : Nat} {x : DataW H × List MemPlace}
    (ht : P.underlying t = some (.slice e)) (he : P.underlying e = some (.struct #[f0, f1, f2, f3])) (ce : P.cellsOf e = 4) (o0 : f0.offset = 0) (o1 : f1.offset = 1) (o2 : f2.offset = 2) (o3 : f3.offset = 3)
    (c0 : P.cellsOf f0.type = 1) (c1 : P.cellsOf f1.type = 1) (c2 : P.cellsOf f2.type = 1) (c3 : P.cellsOf f3.type = 1)
    (u0 : P.underlying f0.type = some (.int .u8)) (u1 : P.underlying f1.type = some (.int .i64)) (u2 : P.underlying f2.type = some (.int .i64)) (u3 : P.underlying f3.type = some (.int .i64))
    (h : DataW.trod enc P w base spare held fuel t [.slice a len cap] = some x) :
    (a = none ∧ len = 0) ∨ ∃ (y : Addr) (z : Nat → Int × Int × Int × Int), a = some y ∧ ∀ i, i < len →
      (w.cell? (y.add (i * 4)) = some (.int .u8 (z i).1) ∧ w.cell? (y.add (i * 4 + 1)) = some (.int .i64 (z i).2.1) ∧ w.cell? (y.add (i * 4 + 2)) = some (.int .i64 (z i).2.2.1) ∧ w.cell? (y.add (i * 4 + 3)) = some (.int .i64 (z i).2.2.2)) ∧
      ((Lit.int .u8 (z i).1).wf = true ∧ (Lit.int .i64 (z i).2.1).wf = true ∧ (Lit.int .i64 (z i).2.2.1).wf = true ∧ (Lit.int .i64 (z i).2.2.2).wf = true) := by
  rcases Go.Deep.open_slice ht h with ⟨h0, _⟩ | ⟨y, len', cap', m, n, D, Pl, hcs, hb, hl, hm, hmm, hxx, hx⟩
  · simp at h0
    exact .inl ⟨h0.1, h0.2.1⟩
  right
  simp at hcs
  obtain ⟨rfl, rfl, rfl⟩ := hcs
  have hlm : len ≤ m := by rw [hmm]; split <;> omega
  have each : ∀ i, i < len → ∃ z : Int × Int × Int × Int, (w.cell? (y.add (i * 4)) = some (.int .u8 z.1) ∧ w.cell? (y.add (i * 4 + 1)) = some (.int .i64 z.2.1) ∧ w.cell? (y.add (i * 4 + 2)) = some (.int .i64 z.2.2.1) ∧ w.cell? (y.add (i * 4 + 3)) = some (.int .i64 z.2.2.2)) ∧
      ((Lit.int .u8 z.1).wf = true ∧ (Lit.int .i64 z.2.1).wf = true ∧ (Lit.int .i64 z.2.2.1).wf = true ∧ (Lit.int .i64 z.2.2.2).wf = true) := by
    intro i hi
    obtain ⟨cs', h1, h2⟩ := hx i (by omega)
    rw [ce] at h1
    obtain ⟨_, hlen, hcell⟩ := World.cells?_some h1
    obtain ⟨y0, y1, y2, y3, k, _, _, g0, g1, g2, g3⟩ := Go.Joins.trod_struct4 he h2
    match cs', hlen with
    | [v0, v1, v2, v3], _ =>
      simp [o0, o1, o2, o3, c0, c1, c2, c3] at g0 g1 g2 g3
      obtain ⟨z0, e0, _, wf0⟩ := DataW.trod_int u0 g0
      obtain ⟨z1, e1, _, wf1⟩ := DataW.trod_int u1 g1
      obtain ⟨z2, e2, _, wf2⟩ := DataW.trod_int u2 g2
      obtain ⟨z3, e3, _, wf3⟩ := DataW.trod_int u3 g3
      simp only [List.cons.injEq, and_true] at e0 e1 e2 e3
      subst e0 e1 e2 e3
      have q0 := hcell 0 (by omega)
      have q1 := hcell 1 (by omega)
      have q2 := hcell 2 (by omega)
      have q3 := hcell 3 (by omega)
      rw [Go.Deep.add_add] at q0 q1 q2 q3
      exact ⟨(z0, z1, z2, z3), ⟨by simpa using q0, by simpa using q1, by simpa using q2, by simpa using q3⟩, wf0, wf1, wf2, wf3⟩
  obtain ⟨z, hz⟩ := Go.Deep.choose_lt each
  exact ⟨y, z, rfl, hz⟩
/-- A slice of acts that is read. -/
def RdQ (w : World) (A : Option Addr) (n : Nat) (z : Nat → Int × Int × Int × Int) : Prop := 0 < n → ∃ b off, A = some ⟨b, off, none⟩ ∧ ∀ i, i < n →
  (w.cell? ⟨b, off + i * 4, none⟩ = some (.int .u8 (z i).1) ∧ w.cell? ⟨b, off + i * 4 + 1, none⟩ = some (.int .i64 (z i).2.1) ∧ w.cell? ⟨b, off + i * 4 + 2, none⟩ = some (.int .i64 (z i).2.2.1) ∧ w.cell? ⟨b, off + i * 4 + 3, none⟩ = some (.int .i64 (z i).2.2.2)) ∧
  ((Lit.int .u8 (z i).1).wf = true ∧ (Lit.int .i64 (z i).2.1).wf = true ∧ (Lit.int .i64 (z i).2.2.1).wf = true ∧ (Lit.int .i64 (z i).2.2.2).wf = true)
theorem rdq_of {w : World} {a : Option Addr} {len : Nat} (h : (a = none ∧ len = 0) ∨ ∃ (y : Addr) (z : Nat → Int × Int × Int × Int), a = some y ∧ ∀ i, i < len →
      (w.cell? (y.add (i * 4)) = some (.int .u8 (z i).1) ∧ w.cell? (y.add (i * 4 + 1)) = some (.int .i64 (z i).2.1) ∧ w.cell? (y.add (i * 4 + 2)) = some (.int .i64 (z i).2.2.1) ∧ w.cell? (y.add (i * 4 + 3)) = some (.int .i64 (z i).2.2.2)) ∧
      ((Lit.int .u8 (z i).1).wf = true ∧ (Lit.int .i64 (z i).2.1).wf = true ∧ (Lit.int .i64 (z i).2.2.1).wf = true ∧ (Lit.int .i64 (z i).2.2.2).wf = true)) : ∃ z, RdQ w a len z := by
  rcases h with ⟨rfl, rfl⟩ | ⟨x, z, rfl, hx⟩
  · exact ⟨fun _ => (0, 0, 0, 0), fun h => absurd h (by omega)⟩
  · refine ⟨z, fun h => ?_⟩
    obtain ⟨b, off, spot⟩ := x
    have hspot : spot = none := by simpa [Addr.add] using World.cell?_spot (hx 0 h).1.1
    subst hspot
    refine ⟨b, off, rfl, fun j hj => ?_⟩
    obtain ⟨⟨h0, h1, h2, h3⟩, hw⟩ := hx j hj
    rw [Go.WideShapes.add_plain] at h0 h1 h2 h3
    exact ⟨⟨h0, by rw [Nat.add_assoc]; exact h1, by rw [Nat.add_assoc]; exact h2, by rw [Nat.add_assoc]; exact h3⟩, hw⟩
theorem i64_bd {x : Int} (h : (Lit.int .i64 x).wf = true) : -9223372036854775808 ≤ x ∧ x ≤ 9223372036854775807 := by
  simp [Lit.wf, IntKind.min, IntKind.max, IntKind.signed, IntKind.bits] at h
  exact h
end Go.Proofs.Ytapebhefbokcfaa.Win
