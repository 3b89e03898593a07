import Derived.Test.YtapebhefbokcfaaDebWalks
import Derived.Deep.DeepCutAuto
namespace Go.Proofs.Ytapebhefbokcfaa.Win
open Go.RowKit Go.Proofs.Ytapebhefbokcfaa.DebW
set_option linter.unusedVariables false
set_option linter.unusedSimpArgs false
/-- Two blocks alone, and what is new, have changed. -/
structure G2 (b r : Nat) (W W' : World) : Prop where
  os : W'.os = W.os
  tape : W'.tape = W.tape
  output : W'.output = W.output
  size : W.heap.size ≤ W'.heap.size
  block : ∀ i, i < W.heap.size → i ≠ b → i ≠ r → W'.heap[i]? = W.heap[i]?
theorem g2_refl (b r : Nat) (w : World) : G2 b r w w := ⟨rfl, rfl, rfl, Nat.le_refl _, fun _ _ _ _ => rfl⟩
theorem g2_trans {b r : Nat} {x y z : World} (h : G2 b r x y) (k : G2 b r y z) : G2 b r x z :=
  ⟨k.os.trans h.os, k.tape.trans h.tape, k.output.trans h.output, Nat.le_trans h.size k.size, fun i hi h1 h2 => (k.block i (Nat.lt_of_lt_of_le hi h.size) h1 h2).trans (h.block i hi h1 h2)⟩
theorem g2_below {b r : Nat} {x y : World} (h : Below x.heap.size x y) : G2 b r x y := ⟨h.os, h.tape, h.output, h.size, fun i hi _ _ => h.block i hi⟩
theorem g2_drewN {b r : Nat} {x y : World} (h : G2 b r x y) (n : Nat) : G2 b r x (y.drewN n) := ⟨h.os, h.tape, h.output, h.size, h.block⟩
theorem g2_alloc {b r : Nat} {x y : World} (h : G2 b r x y) (o : Obj) : G2 b r x (y.alloc o) :=
  ⟨h.os, h.tape, h.output, Nat.le_trans h.size (by simp), fun i hi h1 h2 => (Below.heap_alloc y o i (Nat.lt_of_lt_of_le hi h.size)).trans (h.block i hi h1 h2)⟩
theorem g2_set {b r : Nat} {x y : World} (h : G2 b r x y) {p : Addr} (hp : p.block = b ∨ p.block = r ∨ x.heap.size ≤ p.block) (u : Value) : G2 b r x (y.setCell p u) :=
  ⟨h.os, h.tape, h.output, by simpa [World.setCell] using h.size, fun i hi h1 h2 => (Below.heap_setCell y p u i (by
    rintro rfl
    rcases hp with hp | hp | hp
    · exact h1 hp
    · exact h2 hp
    · omega)).trans (h.block i hi h1 h2)⟩
theorem g2_cell {b r : Nat} {x y : World} (h : G2 b r x y) {c : Nat} (hc : c < x.heap.size) (h1 : c ≠ b) (h2 : c ≠ r) (o : Nat) : y.cell? ⟨c, o, none⟩ = x.cell? ⟨c, o, none⟩ :=
  World.cell?_of_block (a := ⟨c, o, none⟩) (h.block c hc h1 h2)
theorem g2_new {b r : Nat} {w x y : World} (h : Below w.heap.size w x) (hb : w.heap.size ≤ b) (hr : w.heap.size ≤ r) (k : G2 b r x y) : Below w.heap.size w y :=
  ⟨k.os.trans h.os, k.tape.trans h.tape, k.output.trans h.output, Nat.le_trans h.size k.size, fun i hi => (k.block i (Nat.lt_of_lt_of_le hi h.size) (by omega) (by omega)).trans (h.block i hi)⟩
/-- A window behind a pointer, and its row. -/
structure WS (b r : Nat) (p a : Int) (L : Nat) (X : Nat → Int) (W : World) : Prop where
  c0 : W.cell? ⟨b, 0, none⟩ = some (.int .i64 p)
  c1 : W.cell? ⟨b, 1, none⟩ = some (.int .i64 a)
  c2 : W.cell? ⟨b, 2, none⟩ = some (.slice (some ⟨r, 0, none⟩) L L)
  z1 : W.frozen? ⟨b, 1, none⟩ = false
  cr : ∀ j, j < L → W.cell? ⟨r, j, none⟩ = some (.int .i64 (X j))
  zr : ∀ j, j < L → W.frozen? ⟨r, j, none⟩ = false
  hb : b < W.heap.size
  hr : r < W.heap.size
  ne : b ≠ r
theorem come_at (n : Int) (w : World) : Calls Try.prog 37 #[.int .i64 n] w fun e w' => e = .returned (.int .i64 (min (max n 0) 1099511627776)) ∧ w = w' := by
  rcases (show n < 0 ∨ (0 ≤ n ∧ n ≤ 1099511627776) ∨ 1099511627776 < n by omega) with h | ⟨h, h2⟩ | h
  all_goals
    go_enter Try.func37, Try.ntmps37
    go_wp2
    go_ret
    exact ⟨ret_int (by omega), rfl⟩
end Go.Proofs.Ytapebhefbokcfaa.Win
