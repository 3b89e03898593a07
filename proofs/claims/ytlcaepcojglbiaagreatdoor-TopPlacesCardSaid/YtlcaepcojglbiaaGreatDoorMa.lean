/- The red and black trees: the reading of nodes: a part of the walk of the whole machine. For all states that the readings allow. -/
import Derived.Test.YtlcaepcojglbiaaGreatDoorProg
import Derived.WalkKit
import Derived.OwnWalk
import Derived.Below
import Derived.IntWalk
import Derived.Deep.QuietTactic
import Derived.BigQuiet
import Derived.BigRegion
import Derived.Deep.RegionWith
import Derived.Deep.RegionHeld3
import Derived.Lib.Hide
import Derived.LoopTactic
import Derived.WalkLawsBesides
import Derived.Laws.ResultCell
import Derived.OpenShut
import Derived.ProofKit
import Derived.Deep.DeepCutAuto
namespace Go.Proofs.YtlcaepcojglbiaaGreatDoor.Tp
open Go.RowKit
set_option linter.unusedVariables false
set_option linter.unusedSimpArgs false
/-! Worlds in which two blocks alone, and what is new, have changed. -/
structure G2 (b r : Nat) (W W' : World) : Prop where
  os : W'.os = W.os
  tape : W'.tape = W.tape
  output : W'.output = W.output
  size : W.heap.size ≤ W'.heap.size
  block : ∀ i, i < W.heap.size → i ≠ b → i ≠ r → W'.heap[i]? = W.heap[i]?
theorem g2_refl (b r : Nat) (w : World) : G2 b r w w := ⟨rfl, rfl, rfl, Nat.le_refl _, fun _ _ _ _ => rfl⟩
theorem g2_trans {b r : Nat} {x y z : World} (h : G2 b r x y) (k : G2 b r y z) : G2 b r x z :=
  ⟨k.os.trans h.os, k.tape.trans h.tape, k.output.trans h.output, Nat.le_trans h.size k.size, fun i hi h1 h2 => (k.block i (Nat.lt_of_lt_of_le hi h.size) h1 h2).trans (h.block i hi h1 h2)⟩
theorem g2_drewN {b r : Nat} {x y : World} (h : G2 b r x y) (n : Nat) : G2 b r x (y.drewN n) := ⟨h.os, h.tape, h.output, h.size, h.block⟩
theorem g2_drew {b r : Nat} {x y : World} (h : G2 b r x y) : G2 b r x y.drew := ⟨h.os, h.tape, h.output, h.size, h.block⟩
theorem g2_alloc {b r : Nat} {x y : World} (h : G2 b r x y) (o : Obj) : G2 b r x (y.alloc o) :=
  ⟨h.os, h.tape, h.output, Nat.le_trans h.size (by simp), fun i hi h1 h2 => (Below.heap_alloc y o i (Nat.lt_of_lt_of_le hi h.size)).trans (h.block i hi h1 h2)⟩
theorem g2_set {b r : Nat} {x y : World} (h : G2 b r x y) {p : Addr} (hp : p.block = b ∨ p.block = r ∨ x.heap.size ≤ p.block) (u : Value) : G2 b r x (y.setCell p u) :=
  ⟨h.os, h.tape, h.output, by simpa [World.setCell] using h.size, fun i hi h1 h2 => (Below.heap_setCell y p u i (by
    rintro rfl
    rcases hp with hp | hp | hp
    · exact h1 hp
    · exact h2 hp
    · omega)).trans (h.block i hi h1 h2)⟩
theorem iw {x : Int} (h1 : -9223372036854775808 ≤ x) (h2 : x ≤ 9223372036854775807) : IntKind.i64.wrap x = x := IntWalk.i64_in _ (by omega)
theorem ret_int {k : IntKind} {a b : Int} (h : a = b) : Ending.returned (.int k a) = .returned (.int k b) := by rw [h]
abbrev ptr (b : Nat) : Value := .pointer (some ⟨b, 0, none⟩)
theorem size_set (W : World) (p : Addr) (x : Value) : (W.setCell p x).heap.size = W.heap.size := by simp [World.setCell]
theorem cs_same {W : World} {a : Addr} {u v : Value} (h : W.cell? a = some u) : (W.setCell a v).cell? a = some v := by
  first | exact World.cell?_setCell_same W a v h | exact World.cell?_setCell_same _ _ _ h
theorem cs_other {W : World} {a b : Addr} {v : Value} (h : a ≠ b) : (W.setCell a v).cell? b = W.cell? b := by
  first | exact World.cell?_setCell_other W a b v h | exact World.cell?_setCell_other W a v b h | exact World.cell?_setCell_other _ _ _ _ h
/-! A tree in memory. -/
/-- A node: its key, who hangs where. -/
structure Nd where
  t : Int
  q : Int
  l : Nat
  r : Nat
  u : Nat
  red : Bool
  taken : Bool
  turn : Int
def Nd.cell (d : Nd) (k : Nat) : Value :=
  match k with
  | 0 => .int .i64 d.t
  | 1 => .int .i64 d.q
  | 2 => .int .i64 d.l
  | 3 => .int .i64 d.r
  | 4 => .int .i64 d.u
  | 5 => .bool d.red
  | 6 => .bool d.taken
  | _ => .int .i64 d.turn
def nd0 : Nd := ⟨0, 0, 0, 0, 0, false, false, 0⟩
structure TS where
  N : Nat → Nd
  len : Nat
  root : Nat
  n : Nat
  free : Nat
def TS.upd (S : TS) (i : Nat) (f : Nd → Nd) : TS := { S with N := fun j => if j = i then f (S.N j) else S.N j }
def TS.setl (S : TS) (i v : Nat) : TS := S.upd i fun d => { d with l := v }
def TS.setr (S : TS) (i v : Nat) : TS := S.upd i fun d => { d with r := v }
def TS.setu (S : TS) (i v : Nat) : TS := S.upd i fun d => { d with u := v }
def TS.setc (S : TS) (i : Nat) (v : Bool) : TS := S.upd i fun d => { d with red := v }
def TS.setn (S : TS) (i : Nat) (d : Nd) : TS := S.upd i fun _ => d
structure TR (tp nb : Nat) (S : TS) (W : World) : Prop where
  c0 : W.cell? ⟨tp, 0, none⟩ = some (.slice (some ⟨nb, 0, none⟩) S.len 65)
  c1 : W.cell? ⟨tp, 1, none⟩ = some (.int .i64 S.root)
  c2 : W.cell? ⟨tp, 2, none⟩ = some (.int .i64 S.n)
  c3 : W.cell? ⟨tp, 3, none⟩ = some (.int .i64 S.free)
  c4 : W.cell? ⟨tp, 4, none⟩ = some (.int .i64 64)
  zt : ∀ j, W.frozen? ⟨tp, j, none⟩ = false
  cn : ∀ i, i < 65 → ∀ k, k < 8 → W.cell? ⟨nb, i * 8 + k, none⟩ = some ((S.N i).cell k)
  zn : ∀ j, W.frozen? ⟨nb, j, none⟩ = false
  ne : tp ≠ nb
  lt : tp < W.heap.size ∧ nb < W.heap.size
  ln : 1 ≤ S.len ∧ S.len ≤ 65
theorem tr_node {tp nb : Nat} {S : TS} {W : World} (h : TR tp nb S W) {i : Nat} (hi : i < S.len) :
    (W.cell? ⟨nb, i * 8, none⟩ = some (.int .i64 (S.N i).t) ∧ W.cell? ⟨nb, i * 8 + 1, none⟩ = some (.int .i64 (S.N i).q) ∧ W.cell? ⟨nb, i * 8 + 2, none⟩ = some (.int .i64 (S.N i).l) ∧ W.cell? ⟨nb, i * 8 + 3, none⟩ = some (.int .i64 (S.N i).r)) ∧
    W.cell? ⟨nb, i * 8 + 4, none⟩ = some (.int .i64 (S.N i).u) ∧ W.cell? ⟨nb, i * 8 + 5, none⟩ = some (.bool (S.N i).red) ∧ W.cell? ⟨nb, i * 8 + 6, none⟩ = some (.bool (S.N i).taken) ∧ W.cell? ⟨nb, i * 8 + 7, none⟩ = some (.int .i64 (S.N i).turn) := by
  have hl := h.ln
  have c := h.cn i (by omega)
  exact ⟨⟨c 0 (by omega), c 1 (by omega), c 2 (by omega), c 3 (by omega)⟩, c 4 (by omega), c 5 (by omega), c 6 (by omega), c 7 (by omega)⟩
theorem tr_same {tp nb : Nat} {S : TS} {W W' : World} (h : TR tp nb S W) (hs : W.heap.size ≤ W'.heap.size) (h1 : W'.heap[tp]? = W.heap[tp]?) (h2 : W'.heap[nb]? = W.heap[nb]?) : TR tp nb S W' := by
  have C : ∀ o, W'.cell? ⟨tp, o, none⟩ = W.cell? ⟨tp, o, none⟩ := fun o => World.cell?_of_block (a := ⟨tp, o, none⟩) h1
  have D : ∀ o, W'.cell? ⟨nb, o, none⟩ = W.cell? ⟨nb, o, none⟩ := fun o => World.cell?_of_block (a := ⟨nb, o, none⟩) h2
  have lt := h.lt
  exact ⟨(C 0).trans h.c0, (C 1).trans h.c1, (C 2).trans h.c2, (C 3).trans h.c3, (C 4).trans h.c4, fun j => (World.frozen?_of_block (a := ⟨tp, j, none⟩) h1).trans (h.zt j),
    fun i hi k hk => (D _).trans (h.cn i hi k hk), fun j => (World.frozen?_of_block (a := ⟨nb, j, none⟩) h2).trans (h.zn j), h.ne, by omega, h.ln⟩
theorem tr_drewN {tp nb : Nat} {S : TS} {W : World} (h : TR tp nb S W) (n : Nat) : TR tp nb S (W.drewN n) := tr_same h (Nat.le_refl _) rfl rfl
theorem tr_drew {tp nb : Nat} {S : TS} {W : World} (h : TR tp nb S W) : TR tp nb S W.drew := tr_same h (Nat.le_refl _) rfl rfl
theorem tr_alloc {tp nb : Nat} {S : TS} {W : World} (h : TR tp nb S W) (o : Obj) : TR tp nb S (W.alloc o) :=
  tr_same h (by simp) (Below.heap_alloc W o tp h.lt.1) (Below.heap_alloc W o nb h.lt.2)
/-- One cell of a node is stored. -/
theorem tr_upd {tp nb : Nat} {S : TS} {W : World} (h : TR tp nb S W) (i k : Nat) (f : Nd → Nd) (v : Value) (hk : k < 8) (hv : (f (S.N i)).cell k = v) (ho : ∀ j, j < 8 → j ≠ k → (f (S.N i)).cell j = (S.N i).cell j) : TR tp nb (S.upd i f) (W.setCell ⟨nb, i * 8 + k, none⟩ v) := by
  have hne := h.ne
  have C : ∀ o, (W.setCell ⟨nb, i * 8 + k, none⟩ v).cell? ⟨tp, o, none⟩ = W.cell? ⟨tp, o, none⟩ := fun o => cs_other (by first | (simp; done) | (simp; omega))
  refine ⟨(C 0).trans h.c0, (C 1).trans h.c1, (C 2).trans h.c2, (C 3).trans h.c3, (C 4).trans h.c4, fun j => by rw [World.frozen?_setCell]; exact h.zt j, fun a ha b hb => ?_, fun j => by rw [World.frozen?_setCell]; exact h.zn j, h.ne, by rw [size_set]; exact h.lt, h.ln⟩
  show _ = some ((if a = i then f (S.N a) else S.N a).cell b)
  by_cases e : a = i
  · subst e
    rw [if_pos rfl]
    by_cases e2 : b = k
    · subst e2
      rw [hv]
      exact cs_same (h.cn a ha b hb)
    · rw [ho b hb e2, cs_other (by first | (simp; done) | (simp; omega))]
      exact h.cn a ha b hb
  · rw [if_neg e, cs_other (by first | (simp; done) | (simp; omega))]
    exact h.cn a ha b hb
theorem tr_l {tp nb : Nat} {S : TS} {W : World} (h : TR tp nb S W) (i v : Nat) : TR tp nb (S.setl i v) (W.setCell ⟨nb, i * 8 + 2, none⟩ (.int .i64 v)) :=
  tr_upd h i 2 _ _ (by omega) rfl fun j h1 h2 => by
    rcases (show j = 0 ∨ j = 1 ∨ j = 3 ∨ j = 4 ∨ j = 5 ∨ j = 6 ∨ j = 7 by omega) with rfl | rfl | rfl | rfl | rfl | rfl | rfl <;> rfl
theorem tr_r {tp nb : Nat} {S : TS} {W : World} (h : TR tp nb S W) (i v : Nat) : TR tp nb (S.setr i v) (W.setCell ⟨nb, i * 8 + 3, none⟩ (.int .i64 v)) :=
  tr_upd h i 3 _ _ (by omega) rfl fun j h1 h2 => by
    rcases (show j = 0 ∨ j = 1 ∨ j = 2 ∨ j = 4 ∨ j = 5 ∨ j = 6 ∨ j = 7 by omega) with rfl | rfl | rfl | rfl | rfl | rfl | rfl <;> rfl
theorem tr_u {tp nb : Nat} {S : TS} {W : World} (h : TR tp nb S W) (i v : Nat) : TR tp nb (S.setu i v) (W.setCell ⟨nb, i * 8 + 4, none⟩ (.int .i64 v)) :=
  tr_upd h i 4 _ _ (by omega) rfl fun j h1 h2 => by
    rcases (show j = 0 ∨ j = 1 ∨ j = 2 ∨ j = 3 ∨ j = 5 ∨ j = 6 ∨ j = 7 by omega) with rfl | rfl | rfl | rfl | rfl | rfl | rfl <;> rfl
theorem tr_c {tp nb : Nat} {S : TS} {W : World} (h : TR tp nb S W) (i : Nat) (v : Bool) : TR tp nb (S.setc i v) (W.setCell ⟨nb, i * 8 + 5, none⟩ (.bool v)) :=
  tr_upd h i 5 _ _ (by omega) rfl fun j h1 h2 => by
    rcases (show j = 0 ∨ j = 1 ∨ j = 2 ∨ j = 3 ∨ j = 4 ∨ j = 6 ∨ j = 7 by omega) with rfl | rfl | rfl | rfl | rfl | rfl | rfl <;> rfl
theorem tr_root {tp nb : Nat} {S : TS} {W : World} (h : TR tp nb S W) (v : Nat) : TR tp nb { S with root := v } (W.setCell ⟨tp, 1, none⟩ (.int .i64 v)) := by
  have hne := h.ne
  have C : ∀ o, o ≠ 1 → (W.setCell ⟨tp, 1, none⟩ (.int .i64 v)).cell? ⟨tp, o, none⟩ = W.cell? ⟨tp, o, none⟩ := fun o ho => cs_other (by first | (simp; done) | (simp; omega))
  exact ⟨(C 0 (by omega)).trans h.c0, cs_same h.c1, (C 2 (by omega)).trans h.c2, (C 3 (by omega)).trans h.c3, (C 4 (by omega)).trans h.c4, fun j => by rw [World.frozen?_setCell]; exact h.zt j,
    fun i hi k hk => by rw [cs_other (by first | (simp; done) | (simp; omega))]; exact h.cn i hi k hk, fun j => by rw [World.frozen?_setCell]; exact h.zn j, h.ne, by rw [size_set]; exact h.lt, h.ln⟩
theorem tr_n {tp nb : Nat} {S : TS} {W : World} (h : TR tp nb S W) (v : Nat) : TR tp nb { S with n := v } (W.setCell ⟨tp, 2, none⟩ (.int .i64 v)) := by
  have hne := h.ne
  have C : ∀ o, o ≠ 2 → (W.setCell ⟨tp, 2, none⟩ (.int .i64 v)).cell? ⟨tp, o, none⟩ = W.cell? ⟨tp, o, none⟩ := fun o ho => cs_other (by first | (simp; done) | (simp; omega))
  exact ⟨(C 0 (by omega)).trans h.c0, (C 1 (by omega)).trans h.c1, cs_same h.c2, (C 3 (by omega)).trans h.c3, (C 4 (by omega)).trans h.c4, fun j => by rw [World.frozen?_setCell]; exact h.zt j,
    fun i hi k hk => by rw [cs_other (by first | (simp; done) | (simp; omega))]; exact h.cn i hi k hk, fun j => by rw [World.frozen?_setCell]; exact h.zn j, h.ne, by rw [size_set]; exact h.lt, h.ln⟩
theorem tr_free {tp nb : Nat} {S : TS} {W : World} (h : TR tp nb S W) (v : Nat) : TR tp nb { S with free := v } (W.setCell ⟨tp, 3, none⟩ (.int .i64 v)) := by
  have hne := h.ne
  have C : ∀ o, o ≠ 3 → (W.setCell ⟨tp, 3, none⟩ (.int .i64 v)).cell? ⟨tp, o, none⟩ = W.cell? ⟨tp, o, none⟩ := fun o ho => cs_other (by first | (simp; done) | (simp; omega))
  exact ⟨(C 0 (by omega)).trans h.c0, (C 1 (by omega)).trans h.c1, (C 2 (by omega)).trans h.c2, cs_same h.c3, (C 4 (by omega)).trans h.c4, fun j => by rw [World.frozen?_setCell]; exact h.zt j,
    fun i hi k hk => by rw [cs_other (by first | (simp; done) | (simp; omega))]; exact h.cn i hi k hk, fun j => by rw [World.frozen?_setCell]; exact h.zn j, h.ne, by rw [size_set]; exact h.lt, h.ln⟩
/-! Functions of the tree: child, hang, turn. -/
theorem child_l {tp nb : Nat} {S : TS} {W : World} (h : TR tp nb S W) (x : Nat) (hx : x < S.len) : Calls Tryz.prog 117 #[ptr tp, .int .i64 x, .bool false] W fun e W' => e = .returned (.pointer (some ⟨nb, x * 8 + 2, none⟩)) ∧ W' = W := by
  have c0 := h.c0
  have hl := h.ln
  clear h
  go_enter Tryz.func117, Tryz.ntmps117
  go_wp2
  go_ret
  exact ⟨rfl, rfl⟩
theorem child_r {tp nb : Nat} {S : TS} {W : World} (h : TR tp nb S W) (x : Nat) (hx : x < S.len) : Calls Tryz.prog 117 #[ptr tp, .int .i64 x, .bool true] W fun e W' => e = .returned (.pointer (some ⟨nb, x * 8 + 3, none⟩)) ∧ W' = W := by
  have c0 := h.c0
  have hl := h.ln
  clear h
  go_enter Tryz.func117, Tryz.ntmps117
  go_wp2
  go_ret
  exact ⟨rfl, rfl⟩
end Go.Proofs.YtlcaepcojglbiaaGreatDoor.Tp
namespace Go.Proofs.YtlcaepcojglbiaaGreatDoor.Tp
open Go.RowKit
set_option linter.unusedVariables false
set_option linter.unusedSimpArgs false
theorem g2_t {b r : Nat} {x y : World} (h : G2 b r x y) (o : Nat) (u : Value) : G2 b r x (y.setCell ⟨b, o, none⟩ u) := g2_set h (.inl rfl) u
theorem g2_n {b r : Nat} {x y : World} (h : G2 b r x y) (o : Nat) (u : Value) : G2 b r x (y.setCell ⟨r, o, none⟩ u) := g2_set h (.inr (.inl rfl)) u
/-- Links lie within the row. -/
def TS.ok (S : TS) : Prop := S.root < S.len ∧ ∀ i, i < S.len → (S.N i).l < S.len ∧ (S.N i).r < S.len ∧ (S.N i).u < S.len
def TS.hang (S : TS) (old x : Nat) : TS :=
  (if (S.N old).u = 0 then { S with root := x } else if (S.N (S.N old).u).l = old then S.setl (S.N old).u x else S.setr (S.N old).u x).setu x (S.N old).u
def TS.child (S : TS) (x : Nat) (right : Bool) : Nat := if right then (S.N x).r else (S.N x).l
def TS.setch (S : TS) (x : Nat) (right : Bool) (v : Nat) : TS := if right then S.setr x v else S.setl x v
def TS.turn1 (S : TS) (x : Nat) (right : Bool) : TS := S.setch x (!right) (S.child (S.child x !right) right)
def TS.turn2 (S : TS) (x : Nat) (right : Bool) : TS := if S.child (S.child x !right) right = 0 then S.turn1 x right else (S.turn1 x right).setu (S.child (S.child x !right) right) x
def TS.turn (S : TS) (x : Nat) (right : Bool) : TS :=
  ((((S.turn2 x right).hang x (S.child x !right)).setch (S.child x !right) right x)).setu x (S.child x !right)
theorem ok_setl {S : TS} (h : S.ok) (i v : Nat) (hv : v < S.len) : (S.setl i v).ok := by
  refine ⟨h.1, fun j hj => ?_⟩
  have := h.2 j hj
  show (if j = i then { S.N j with l := v } else S.N j).l < S.len ∧ (if j = i then { S.N j with l := v } else S.N j).r < S.len ∧ (if j = i then { S.N j with l := v } else S.N j).u < S.len
  split
  · exact ⟨hv, this.2⟩
  · exact this
theorem ok_setr {S : TS} (h : S.ok) (i v : Nat) (hv : v < S.len) : (S.setr i v).ok := by
  refine ⟨h.1, fun j hj => ?_⟩
  have := h.2 j hj
  show (if j = i then { S.N j with r := v } else S.N j).l < S.len ∧ (if j = i then { S.N j with r := v } else S.N j).r < S.len ∧ (if j = i then { S.N j with r := v } else S.N j).u < S.len
  split
  · exact ⟨this.1, hv, this.2.2⟩
  · exact this
theorem ok_setu {S : TS} (h : S.ok) (i v : Nat) (hv : v < S.len) : (S.setu i v).ok := by
  refine ⟨h.1, fun j hj => ?_⟩
  have := h.2 j hj
  show (if j = i then { S.N j with u := v } else S.N j).l < S.len ∧ (if j = i then { S.N j with u := v } else S.N j).r < S.len ∧ (if j = i then { S.N j with u := v } else S.N j).u < S.len
  split
  · exact ⟨this.1, this.2.1, hv⟩
  · exact this
theorem ok_setc {S : TS} (h : S.ok) (i : Nat) (v : Bool) : (S.setc i v).ok := by
  refine ⟨h.1, fun j hj => ?_⟩
  have := h.2 j hj
  show (if j = i then { S.N j with red := v } else S.N j).l < S.len ∧ (if j = i then { S.N j with red := v } else S.N j).r < S.len ∧ (if j = i then { S.N j with red := v } else S.N j).u < S.len
  split <;> exact this
theorem ok_root {S : TS} (h : S.ok) (x : Nat) (hx : x < S.len) : ({ S with root := x } : TS).ok := ⟨hx, h.2⟩
theorem ok_child {S : TS} (h : S.ok) (x : Nat) (right : Bool) (hx : x < S.len) : S.child x right < S.len := by
  have := h.2 x hx
  unfold TS.child; split <;> omega
theorem ok_setch {S : TS} (h : S.ok) (x : Nat) (right : Bool) (v : Nat) (hv : v < S.len) : (S.setch x right v).ok := by
  unfold TS.setch; split
  · exact ok_setr h x v hv
  · exact ok_setl h x v hv
theorem ok_hang {S : TS} (h : S.ok) (old x : Nat) (ho : old < S.len) (hx : x < S.len) : (S.hang old x).ok ∧ (S.hang old x).len = S.len := by
  have hu := (h.2 old ho).2.2
  unfold TS.hang
  by_cases h0 : (S.N old).u = 0
  · rw [if_pos h0]; exact ⟨ok_setu (ok_root h x hx) _ _ (by exact hu), rfl⟩
  · rw [if_neg h0]
    by_cases h1 : (S.N (S.N old).u).l = old
    · rw [if_pos h1]; exact ⟨ok_setu (ok_setl h _ _ hx) _ _ (by exact hu), rfl⟩
    · rw [if_neg h1]; exact ⟨ok_setu (ok_setr h _ _ hx) _ _ (by exact hu), rfl⟩
set_option maxRecDepth 100000 in
set_option maxHeartbeats 4000000 in
theorem hang_at {tp nb : Nat} {S : TS} (old x : Nat) (W : World) (h : TR tp nb S W) (hk : S.ok) (ho : old < S.len) (hx : x < S.len) : Calls Tryz.prog 136 #[ptr tp, .int .i64 old, .int .i64 x] W fun e W' => e = .returned (.tuple #[]) ∧ TR tp nb (S.hang old x) W' ∧ G2 tp nb W W' := by
  have hu := (hk.2 old ho).2.2
  obtain ⟨_, a4, _⟩ := tr_node h ho
  have hh : S.hang old x = (if (S.N old).u = 0 then { S with root := x } else if (S.N (S.N old).u).l = old then S.setl (S.N old).u x else S.setr (S.N old).u x).setu x (S.N old).u := rfl
  obtain ⟨up, hup⟩ : ∃ up, (S.N old).u = up := ⟨_, rfl⟩
  rw [hup] at hu a4 hh
  obtain ⟨⟨_, _, b2, _⟩, b4, _⟩ := tr_node h hu
  obtain ⟨⟨_, _, x2, _⟩, x4, _⟩ := tr_node h hx
  have c0 := h.c0
  have c1 := h.c1
  have hl := h.ln
  have zt := h.zt
  have zn := h.zn
  have hne := h.ne
  have HT := Lib.hid h
  have hsz := h.lt
  clear h hup hk
  by_cases h0 : up = 0
  · rw [if_pos h0] at hh
    rw [hh]
    have HE := Lib.hid (tr_u (tr_root HT.out x) x up)
    subst h0
    have z1 := zt 1
    have z2 := zn (x * 8 + 4)
    clear hh zt zn b2 b4 x2
    go_enter Tryz.func136, Tryz.ntmps136
    go_wp2
    exact bodyPost_end (results_none rfl _ _ _) rfl ⟨rfl, HE.out, g2_n (g2_t (g2_refl _ _ _) _ _) _ _⟩
  · rw [if_neg h0] at hh
    have hup0 : 1 ≤ up := by omega
    by_cases h1 : (S.N up).l = old
    · rw [if_pos h1] at hh
      rw [hh]
      have HE := Lib.hid (tr_u (tr_l HT.out up x) x up)
      rw [h1] at b2
      have z1 := zn (up * 8 + 2)
      have z2 := zn (x * 8 + 4)
      clear hh zt zn x2 c1 h1 b4
      go_enter Tryz.func136, Tryz.ntmps136
      go_wp2
      exact bodyPost_end (results_none rfl _ _ _) rfl ⟨rfl, HE.out, g2_n (g2_n (g2_refl _ _ _) _ _) _ _⟩
    · rw [if_neg h1] at hh
      rw [hh]
      have HE := Lib.hid (tr_u (tr_r HT.out up x) x up)
      obtain ⟨lu, hlu⟩ : ∃ lu, (S.N up).l = lu := ⟨_, rfl⟩
      rw [hlu] at b2 h1
      obtain ⟨⟨_, _, _, b3⟩, _⟩ := tr_node HT.out hu
      have hne2 : ¬ (lu : Int) = (old : Int) := by omega
      have z1 := zn (up * 8 + 3)
      have z2 := zn (x * 8 + 4)
      clear hh zt zn x2 c1 b4 hlu
      go_enter Tryz.func136, Tryz.ntmps136
      go_wp2
      exact bodyPost_end (results_none rfl _ _ _) rfl ⟨rfl, HE.out, g2_n (g2_n (g2_refl _ _ _) _ _) _ _⟩
end Go.Proofs.YtlcaepcojglbiaaGreatDoor.Tp
