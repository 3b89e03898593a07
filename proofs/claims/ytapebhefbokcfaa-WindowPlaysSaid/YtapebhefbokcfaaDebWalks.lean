import Derived.Test.YtapebhefbokcfaaProg
import Derived.WalkKit
import Derived.OwnWalk
import Derived.Below
import Derived.IntWalk
import Derived.Deep.QuietTactic
import Derived.BigQuiet
import Derived.Deep.RegionWith
import Derived.Deep.RegionHeld3
import Derived.Lib.Hide
import Derived.LoopTactic
import Derived.WalkLawsBesides
import Derived.Laws.ResultCell
import Derived.OpenShut
namespace Go.Proofs.Ytapebhefbokcfaa.DebW
open Go.RowKit
/-! Worlds in which one block alone, and what is new, has changed. -/
abbrev G (b : Nat) (W W' : World) : Prop := W.grownBy W' (some b)
theorem g_refl (b : Nat) (w : World) : G b w w := ⟨rfl, rfl, rfl, Nat.le_refl _, fun _ _ _ => rfl⟩
theorem g_trans {b : Nat} {x y z : World} (h : G b x y) (k : G b y z) : G b x z :=
  ⟨k.os.trans h.os, k.tape.trans h.tape, k.output.trans h.output, Nat.le_trans h.size k.size, fun i hi hn => (k.block i (Nat.lt_of_lt_of_le hi h.size) hn).trans (h.block i hi hn)⟩
theorem g_below {b : Nat} {x y : World} (h : Below x.heap.size x y) : G b x y := ⟨h.os, h.tape, h.output, h.size, fun i hi _ => h.block i hi⟩
theorem g_drewN {b : Nat} {x y : World} (h : G b x y) (n : Nat) : G b x (y.drewN n) := ⟨h.os, h.tape, h.output, h.size, h.block⟩
theorem g_alloc {b : Nat} {x y : World} (h : G b x y) (o : Obj) : G b x (y.alloc o) :=
  ⟨h.os, h.tape, h.output, Nat.le_trans h.size (by simp), fun i hi hne => (Below.heap_alloc y o i (Nat.lt_of_lt_of_le hi h.size)).trans (h.block i hi hne)⟩
theorem g_set {b : Nat} {x y : World} (h : G b x y) {p : Addr} (hp : p.block = b ∨ x.heap.size ≤ p.block) (u : Value) : G b x (y.setCell p u) :=
  ⟨h.os, h.tape, h.output, by simpa [World.setCell] using h.size, fun i hi hne => (Below.heap_setCell y p u i (by
    rintro rfl
    rcases hp with hp | hp
    · exact hne (by rw [hp])
    · omega)).trans (h.block i hi hne)⟩
theorem g_cell {b : Nat} {x y : World} (h : G b x y) {c : Nat} (hc : c < x.heap.size) (hne : c ≠ b) (o : Nat) : y.cell? ⟨c, o, none⟩ = x.cell? ⟨c, o, none⟩ :=
  World.cell?_of_block (a := ⟨c, o, none⟩) (h.block c hc (by simpa using hne))
theorem g_frozen {b : Nat} {x y : World} (h : G b x y) {c : Nat} (hc : c < x.heap.size) (hne : c ≠ b) (o : Nat) : y.frozen? ⟨c, o, none⟩ = x.frozen? ⟨c, o, none⟩ :=
  World.frozen?_of_block (a := ⟨c, o, none⟩) (h.block c hc (by simpa using hne))
theorem g_new {b : Nat} {w x y : World} (h : Below w.heap.size w x) (hb : w.heap.size ≤ b) (k : G b x y) : Below w.heap.size w y :=
  ⟨k.os.trans h.os, k.tape.trans h.tape, k.output.trans h.output, Nat.le_trans h.size k.size, fun i hi => (k.block i (Nat.lt_of_lt_of_le hi h.size) (by simp; omega)).trans (h.block i hi)⟩
theorem bcell {W w1 : World} (hb : Below W.heap.size W w1) : (∀ b o, b < W.heap.size → w1.cell? ⟨b, o, none⟩ = W.cell? ⟨b, o, none⟩) ∧ (∀ b o, b < W.heap.size → w1.frozen? ⟨b, o, none⟩ = W.frozen? ⟨b, o, none⟩) :=
  ⟨fun b o h => hb.cell (p := ⟨b, o, none⟩) h, fun b o h => hb.frozen (p := ⟨b, o, none⟩) h⟩
theorem below_drewN {B : Nat} {w W : World} (h : Below B w W) (n : Nat) : Below B w (W.drewN n) := ⟨h.os, h.tape, h.output, h.size, h.block⟩
theorem iw {x : Int} (h1 : -9223372036854775808 ≤ x) (h2 : x ≤ 9223372036854775807) : IntKind.i64.wrap x = x := IntWalk.i64_in _ (by omega)
theorem ret_int {k : IntKind} {a b : Int} (h : a = b) : Ending.returned (.int k a) = .returned (.int k b) := by rw [h]
theorem ret_ib {a b : Int} (h : a = b) : Ending.returned (.tuple #[.int .i64 a, .bool true]) = .returned (.tuple #[.int .i64 b, .bool true]) := by rw [h]
/-- A filter behind a pointer. -/
abbrev FS (b : Nat) (q m now F T P : Int) (W : World) : Prop :=
  W.cell? ⟨b, 0, none⟩ = some (.int .i64 q) ∧ W.cell? ⟨b, 1, none⟩ = some (.int .i64 m) ∧ W.cell? ⟨b, 2, none⟩ = some (.int .i64 now) ∧ W.cell? ⟨b, 3, none⟩ = some (.int .i64 F) ∧ W.cell? ⟨b, 4, none⟩ = some (.int .i64 T) ∧ W.cell? ⟨b, 5, none⟩ = some (.int .i64 P) ∧ W.cell? ⟨b, 6, none⟩ = some (.int .i64 0) ∧ W.frozen? ⟨b, 2, none⟩ = false ∧ W.frozen? ⟨b, 3, none⟩ = false ∧ W.frozen? ⟨b, 4, none⟩ = false ∧ W.frozen? ⟨b, 5, none⟩ = false ∧ W.frozen? ⟨b, 6, none⟩ = false ∧ b < W.heap.size
theorem fs_below {b : Nat} {q m now F T P : Int} {W W' : World} (hb : Below W.heap.size W W') (h : FS b q m now F T P W) : FS b q m now F T P W' := by
  obtain ⟨c0, c1, c2, c3, c4, c5, c6, z2, z3, z4, z5, z6, hz⟩ := h
  have k := bcell hb
  exact ⟨(k.1 b 0 hz).trans c0, (k.1 b 1 hz).trans c1, (k.1 b 2 hz).trans c2, (k.1 b 3 hz).trans c3, (k.1 b 4 hz).trans c4, (k.1 b 5 hz).trans c5, (k.1 b 6 hz).trans c6, (k.2 b 2 hz).trans z2, (k.2 b 3 hz).trans z3, (k.2 b 4 hz).trans z4, (k.2 b 5 hz).trans z5, (k.2 b 6 hz).trans z6, Nat.lt_of_lt_of_le hz hb.size⟩
theorem fs_other {b b2 : Nat} {q m now F T P : Int} {W W' : World} (hb : G b2 W W') (hne : b ≠ b2) (h : FS b q m now F T P W) : FS b q m now F T P W' := by
  obtain ⟨c0, c1, c2, c3, c4, c5, c6, z2, z3, z4, z5, z6, hz⟩ := h
  exact ⟨(g_cell hb hz hne 0).trans c0, (g_cell hb hz hne 1).trans c1, (g_cell hb hz hne 2).trans c2, (g_cell hb hz hne 3).trans c3, (g_cell hb hz hne 4).trans c4, (g_cell hb hz hne 5).trans c5, (g_cell hb hz hne 6).trans c6, (g_frozen hb hz hne 2).trans z2, (g_frozen hb hz hne 3).trans z3, (g_frozen hb hz hne 4).trans z4, (g_frozen hb hz hne 5).trans z5, (g_frozen hb hz hne 6).trans z6, Nat.lt_of_lt_of_le hz hb.size⟩
abbrev ptr (b : Nat) : Value := .pointer (some ⟨b, 0, none⟩)
/-- Bounds of a filter's numbers. -/
def Bd (q m now F T P : Int) : Prop := (1 ≤ q ∧ q ≤ 1099511627776) ∧ (0 ≤ m ∧ m ≤ 1125899906842624) ∧ (0 ≤ now ∧ now ≤ 1152921504606846976) ∧ (0 ≤ F ∧ F ≤ 1152921504606846976) ∧ (0 ≤ T ∧ T ≤ 1152921504606846976) ∧ (0 ≤ P ∧ P ≤ 1152921504606846976)
def endAt (q m F T : Int) : Int := if 0 < m then (if F + m < T + q then F + m else T + q) else T + q

theorem count_at {b : Nat} {q m now F T P : Int} (w : World) (h : FS b q m now F T P w) : Calls Try.prog 16 #[ptr b] w fun e w' => e = .returned (.int .i64 P) ∧ w = w' := by
  obtain ⟨c0, c1, c2, c3, c4, c5, c6, z2, z3, z4, z5, z6, hz⟩ := h
  go_enter Try.func16, Try.ntmps16
  go_wp2
  go_ret
  exact ⟨rfl, rfl⟩
theorem count_nil (w : World) : Calls Try.prog 16 #[.pointer none] w fun e w' => e = .returned (.int .i64 0) ∧ w = w' := by
  go_enter Try.func16, Try.ntmps16
  go_wp2
  go_ret
  exact ⟨rfl, rfl⟩
theorem next_nil (w : World) : Calls Try.prog 13 #[.pointer none] w fun e w' => e = .returned (.tuple #[.int .i64 0, .bool false]) ∧ w = w' := by
  go_enter Try.func13, Try.ntmps13
  go_wp2_with (go_at_call 16; (with_reducible (refine (count_nil _).mono ?_)); rintro e w1 ⟨rfl, rfl⟩)
  go_ret2
  exact ⟨rfl, rfl⟩
theorem next_none {b : Nat} {q m now F T : Int} (w : World) (h : FS b q m now F T 0 w) : Calls Try.prog 13 #[ptr b] w fun e w' => e = .returned (.tuple #[.int .i64 0, .bool false]) ∧ w = w' := by
  have C := Lib.hid (count_at w h)
  clear h
  go_enter Try.func13, Try.ntmps13
  go_wp2_with (go_at_call 16; (with_reducible (refine C.out.mono ?_)); rintro e w1 ⟨rfl, rfl⟩)
  go_ret2
  exact ⟨rfl, rfl⟩
set_option maxHeartbeats 800000 in
theorem next_some {b : Nat} {q m now F T P : Int} (w : World) (h : FS b q m now F T P w) (hb : Bd q m now F T P) (hP : 0 < P) : Calls Try.prog 13 #[ptr b] w fun e w' => e = .returned (.tuple #[.int .i64 (endAt q m F T), .bool true]) ∧ Below w.heap.size w w' := by
  have C := Lib.hid (count_at w h)
  obtain ⟨c0, c1, c2, c3, c4, c5, c6, z2, z3, z4, z5, z6, hz⟩ := h
  obtain ⟨⟨b1, b2⟩, ⟨b3, b4⟩, ⟨b5, b6⟩, ⟨b7, b8⟩, ⟨b9, b10⟩, ⟨b11, b12⟩⟩ := hb
  have hP0 : (P == 0) = false := by rw [beq_eq_false_iff_ne]; omega
  have E1 := Lib.hid (show IntKind.i64.wrap (T + q) = T + q from iw (by omega) (by omega))
  have E2 := Lib.hid (show IntKind.i64.wrap (F + m) = F + m from iw (by omega) (by omega))
  obtain ⟨en, hen⟩ : ∃ en, endAt q m F T = en := ⟨_, rfl⟩
  rw [hen]
  have HE := Lib.hid hen
  clear hen
  by_cases hm : 0 < m
  · by_cases hmin : F + m < T + q
    all_goals
      have HF := Lib.hid (HE.out.symm.trans (by unfold endAt; rw [if_pos hm]))
      go_enter Try.func13, Try.ntmps13
      go_wp2_with (first | (go_at_call 16; (with_reducible (refine C.out.mono ?_)); rintro e w1 ⟨rfl, rfl⟩) | fail)
      have e1 := E1.out
      go_quiet (fail)
      clear e1
      go_wp2_with fail
      have e2 := E2.out
      go_quiet (fail)
      clear e2
      go_wp2
      go_ret2
      exact ⟨ret_ib (by rw [HF.out]; split <;> omega), below_drewN (below_drewN (Below.refl _ _) _) _⟩
  · have HF := Lib.hid (HE.out.symm.trans (by unfold endAt; rw [if_neg hm]))
    go_enter Try.func13, Try.ntmps13
    go_wp2_with (first | (go_at_call 16; (with_reducible (refine C.out.mono ?_)); rintro e w1 ⟨rfl, rfl⟩) | fail)
    have e1 := E1.out
    go_quiet (fail)
    clear e1
    go_wp2
    go_ret2
    exact ⟨ret_ib HF.out.symm, below_drewN (Below.refl _ _) _⟩

abbrev bu (F T P A : Int) : Value := .agg #[.int .i64 F, .int .i64 T, .int .i64 P, .int .i64 A]
set_option maxHeartbeats 800000 in
theorem end_at {b : Nat} {q m now F T P : Int} (w : World) (at_ : Int) (h : FS b q m now F T P w) : Calls Try.prog 35 #[ptr b, .int .i64 at_] w fun e w' => e = .returned (.tuple #[bu F T P at_, .bool true]) ∧ FS b q m now 0 0 0 w' ∧ G b w w' := by
  obtain ⟨c0, c1, c2, c3, c4, c5, c6, z2, z3, z4, z5, z6, hz⟩ := h
  go_enter Try.func35, Try.ntmps35
  go_wp2
  refine bodyPost_ret (v := .tuple #[bu F T P at_, .bool true]) (by simp [results, Try.results35, go_sem]) rfl ⟨rfl, ⟨?_, ?_, ?_, ?_, ?_, ?_, ?_, ?_, ?_, ?_, ?_, ?_, ?_⟩, ?_⟩
  case refine_14 => repeat (first | exact g_refl _ _ | refine g_alloc ?_ _ | refine g_set ?_ (.inl rfl) _)
  all_goals first | go_cell | (go_simp; done) | (simp; omega)
end Go.Proofs.Ytapebhefbokcfaa.DebW
