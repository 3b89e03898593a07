import Derived.Deep.Slices
import Derived.Lib.SmallJoins
import Derived.WalkKit
import Derived.OpenShut
import Derived.WideShapes
namespace Go.Proofs.Ytdbaeigbejcobaa.Dl
open Go.RowKit
set_option linter.unusedVariables false
set_option linter.unusedSimpArgs false
/-- A slice of tasks, opened: three cells an element. -/
theorem open_tris {H : Type} {enc : TypeId × Value → H} {P : Program} {w : World} {base : Nat} {spare : Nat → Bool} {held : Bool} {fuel : Nat} {t e : TypeId} {f0 f1 f2 : Field} {a : Option Addr} {len cap : Nat} {x : DataW H × List MemPlace}
    (ht : P.underlying t = some (.slice e)) (he : P.underlying e = some (.struct #[f0, f1, f2])) (ce : P.cellsOf e = 3) (o0 : f0.offset = 0) (o1 : f1.offset = 1) (o2 : f2.offset = 2)
    (c0 : P.cellsOf f0.type = 1) (c1 : P.cellsOf f1.type = 1) (c2 : P.cellsOf f2.type = 1)
    (u0 : P.underlying f0.type = some (.int .i64)) (u1 : P.underlying f1.type = some (.int .i64)) (u2 : P.underlying f2.type = some (.int .i64))
    (h : DataW.trod enc P w base spare held fuel t [.slice a len cap] = some x) :
    (a = none ∧ len = 0) ∨ ∃ (y : Addr) (z : Nat → Int × Int × Int), a = some y ∧ ∀ i, i < len →
      (w.cell? (y.add (i * 3)) = some (.int .i64 (z i).1) ∧ w.cell? (y.add (i * 3 + 1)) = some (.int .i64 (z i).2.1) ∧ w.cell? (y.add (i * 3 + 2)) = some (.int .i64 (z i).2.2)) ∧
      ((Lit.int .i64 (z i).1).wf = true ∧ (Lit.int .i64 (z i).2.1).wf = true ∧ (Lit.int .i64 (z i).2.2).wf = true) := by
  rcases Go.Deep.open_slice ht h with ⟨h0, _⟩ | ⟨y, len', cap', m, n, D, Pl, hcs, hb, hl, hm, hmm, hxx, hx⟩
  · simp at h0
    exact .inl ⟨h0.1, h0.2.1⟩
  right
  simp at hcs
  obtain ⟨rfl, rfl, rfl⟩ := hcs
  have hlm : len ≤ m := by rw [hmm]; split <;> omega
  have each : ∀ i, i < len → ∃ z : Int × Int × Int, (w.cell? (y.add (i * 3)) = some (.int .i64 z.1) ∧ w.cell? (y.add (i * 3 + 1)) = some (.int .i64 z.2.1) ∧ w.cell? (y.add (i * 3 + 2)) = some (.int .i64 z.2.2)) ∧
      ((Lit.int .i64 z.1).wf = true ∧ (Lit.int .i64 z.2.1).wf = true ∧ (Lit.int .i64 z.2.2).wf = true) := by
    intro i hi
    obtain ⟨cs', h1, h2⟩ := hx i (by omega)
    rw [ce] at h1
    obtain ⟨_, hlen, hcell⟩ := World.cells?_some h1
    obtain ⟨xs, k, _, _, _, hxl, hf⟩ := DataW.trod_struct he h2
    match xs, hxl, cs', hlen with
    | [y0, y1, y2], _, [v0, v1, v2], _ =>
      have g0 := hf 0 f0 rfl
      have g1 := hf 1 f1 rfl
      have g2 := hf 2 f2 rfl
      simp [o0, o1, o2, c0, c1, c2] at g0 g1 g2
      obtain ⟨z0, e0, _, wf0⟩ := DataW.trod_int u0 g0
      obtain ⟨z1, e1, _, wf1⟩ := DataW.trod_int u1 g1
      obtain ⟨z2, e2, _, wf2⟩ := DataW.trod_int u2 g2
      simp only [List.cons.injEq, and_true] at e0 e1 e2
      subst e0 e1 e2
      have q0 := hcell 0 (by omega)
      have q1 := hcell 1 (by omega)
      have q2 := hcell 2 (by omega)
      rw [Go.Deep.add_add] at q0 q1 q2
      exact ⟨(z0, z1, z2), ⟨by simpa using q0, by simpa using q1, by simpa using q2⟩, wf0, wf1, wf2⟩
  obtain ⟨z, hz⟩ := Go.Deep.choose_lt each
  exact ⟨y, z, rfl, hz⟩
/-- A slice of acts that is read. -/
def Rd3 (w : World) (A : Option Addr) (n : Nat) (z : Nat → Int × Int × Int) : Prop := 0 < n → ∃ b off, A = some ⟨b, off, none⟩ ∧ ∀ i, i < n →
  (w.cell? ⟨b, off + i * 3, none⟩ = some (.int .i64 (z i).1) ∧ w.cell? ⟨b, off + i * 3 + 1, none⟩ = some (.int .i64 (z i).2.1) ∧ w.cell? ⟨b, off + i * 3 + 2, none⟩ = some (.int .i64 (z i).2.2)) ∧
  ((Lit.int .i64 (z i).1).wf = true ∧ (Lit.int .i64 (z i).2.1).wf = true ∧ (Lit.int .i64 (z i).2.2).wf = true)
theorem rd3_of {w : World} {a : Option Addr} {len : Nat} (h : (a = none ∧ len = 0) ∨ ∃ (y : Addr) (z : Nat → Int × Int × Int), a = some y ∧ ∀ i, i < len →
      (w.cell? (y.add (i * 3)) = some (.int .i64 (z i).1) ∧ w.cell? (y.add (i * 3 + 1)) = some (.int .i64 (z i).2.1) ∧ w.cell? (y.add (i * 3 + 2)) = some (.int .i64 (z i).2.2)) ∧
      ((Lit.int .i64 (z i).1).wf = true ∧ (Lit.int .i64 (z i).2.1).wf = true ∧ (Lit.int .i64 (z i).2.2).wf = true)) : ∃ z, Rd3 w a len z := by
  rcases h with ⟨rfl, rfl⟩ | ⟨x, z, rfl, hx⟩
  · exact ⟨fun _ => (0, 0, 0), fun h => absurd h (by omega)⟩
  · refine ⟨z, fun h => ?_⟩
    obtain ⟨b, off, spot⟩ := x
    have hspot : spot = none := by simpa [Addr.add] using World.cell?_spot (hx 0 h).1.1
    subst hspot
    refine ⟨b, off, rfl, fun j hj => ?_⟩
    obtain ⟨⟨h0, h1, h2⟩, hw⟩ := hx j hj
    rw [Go.WideShapes.add_plain] at h0 h1 h2
    exact ⟨⟨h0, by rw [Nat.add_assoc]; exact h1, by rw [Nat.add_assoc]; exact h2⟩, hw⟩
end Go.Proofs.Ytdbaeigbejcobaa.Dl
