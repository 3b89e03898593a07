import Derived.Test.YtapebhefbokcfaaDebWalks4
import Derived.ProofKit
import Derived.Deep.DeepCutAuto
import Derived.Laws.OwnMore
import Derived.Laws.AppendOwn
import Derived.Deep.AppendLies
namespace Go.Proofs.Ytapebhefbokcfaa.DebW
open Go.RowKit
set_option linter.unusedSimpArgs false
set_option linter.unusedVariables false
abbrev Tr (w : World) (e : Ending) (w' : World) : Prop := e = .returned (.bool true) ∧ Below w.heap.size w w'
/-- A slice of acts that is read. -/
def RdA (w : World) (A : Option Addr) (n : Nat) (g t : Nat → Int) : Prop := (∀ j, 0 ≤ g j ∧ g j ≤ 255) ∧ (∀ j, -9223372036854775808 ≤ t j ∧ t j ≤ 9223372036854775807) ∧ (0 < n → ∃ b off, A = some ⟨b, off, none⟩ ∧ ∀ j, j < n → w.cell? ⟨b, off + j * 2, none⟩ = some (.int .u8 (g j)) ∧ w.cell? ⟨b, off + j * 2 + 1, none⟩ = some (.int .i64 (t j)))
/-- The pokes, row by row, and the filter's burst. -/
def PlayI (k : Nat) (N F T : Int) (xs : List Int) : Prop := (0 ≤ N ∧ N ≤ 1152921504606846976) ∧ xs.length ≤ k ∧ (xs.length = 0 → F = 0 ∧ T = 0) ∧ (∀ p, xs.length = p + 1 → xs.getD 0 0 = F ∧ xs.getD p 0 = T) ∧ (0 ≤ F ∧ F ≤ 1152921504606846976) ∧ (0 ≤ T ∧ T ≤ 1152921504606846976)
def RowP (base : Nat) (v : Value) (xs : List Int) (W : World) : Prop := W.ownsRow base 3 1 v xs.length (xs.map (.int .i64)) ∧ (xs.length = 0 → v = .slice none 0 0)
theorem rowp_form {base p : Nat} {v : Value} {xs : List Int} {W : World} (h : RowP base v xs W) (hp : xs.length = p + 1) : ∃ pb cap, v = .slice (some ⟨pb, 0, none⟩) (p + 1) cap ∧ base ≤ pb ∧ pb < W.heap.size ∧ W.cell? ⟨pb, 0, none⟩ = some (.int .i64 (xs.getD 0 0)) ∧ W.cell? ⟨pb, p, none⟩ = some (.int .i64 (xs.getD p 0)) := by
  obtain ⟨h1, _⟩ := h
  rcases h1.2 with ⟨rfl, h0⟩ | ⟨g, cap, cur, rfl, hb, hg, _⟩
  · omega
  · refine ⟨g, cap, by rw [hp], hb, (Array.getElem?_eq_some_iff.1 hg).1, ?_, ?_⟩
    · rw [h1.cellAt 0 (by omega)]
      simp [List.getD_eq_getElem?_getD, List.getElem?_eq_getElem (show 0 < xs.length by omega)]
    · rw [h1.cellAt p (by omega)]
      simp [List.getD_eq_getElem?_getD, List.getElem?_eq_getElem (show p < xs.length by omega)]
theorem rowp_keep {base fb : Nat} {v : Value} {xs : List Int} {W W' : World} (h : RowP base v xs W) (hg : G fb W W') (hfb : fb < base) : RowP base v xs W' := by
  refine ⟨h.1.kept hg ?_, h.2⟩
  cases hv : v.ownBlock with
  | none => exact .inl rfl
  | some k =>
    have := (h.1.lt k hv).1
    exact .inr (by simp; omega)
theorem rowp_alloc {base : Nat} {v : Value} {xs : List Int} {W : World} (h : RowP base v xs W) (o : Obj) : RowP base v xs (W.alloc o) := ⟨h.1.alloc o, h.2⟩
theorem rowp_nil (base : Nat) (W : World) : RowP base (.slice none 0 0) [] W := ⟨World.ownsRow_nil _ _ _ _, fun _ => rfl⟩
theorem fs_belowB {b B : Nat} {q m now F T P : Int} {W W' : World} (hb : Below B W W') (hB : b < B) (h : FS b q m now F T P W) : FS b q m now F T P W' := by
  obtain ⟨c0, c1, c2, c3, c4, c5, c6, z2, z3, z4, z5, z6, hz⟩ := h
  exact ⟨(hb.cell (p := ⟨b, 0, none⟩) hB).trans c0, (hb.cell (p := ⟨b, 1, none⟩) hB).trans c1, (hb.cell (p := ⟨b, 2, none⟩) hB).trans c2, (hb.cell (p := ⟨b, 3, none⟩) hB).trans c3, (hb.cell (p := ⟨b, 4, none⟩) hB).trans c4, (hb.cell (p := ⟨b, 5, none⟩) hB).trans c5, (hb.cell (p := ⟨b, 6, none⟩) hB).trans c6, (hb.frozen (p := ⟨b, 2, none⟩) hB).trans z2, (hb.frozen (p := ⟨b, 3, none⟩) hB).trans z3, (hb.frozen (p := ⟨b, 4, none⟩) hB).trans z4, (hb.frozen (p := ⟨b, 5, none⟩) hB).trans z5, (hb.frozen (p := ⟨b, 6, none⟩) hB).trans z6, Nat.lt_of_lt_of_le hz hb.size⟩
/-- append(v, y): behind 'at_builtin'; y's box is the newest block. -/
theorem app1 {P : Program} {ops : Array Oper} {rest : List Oper} {o : Oper} {a : Act} {Q : Exit → Act → World → Prop} {W : World} (base : Nat) (hgd : o.guard = none) (s x : Operand) (t : TypeId)
    (ho : o.op = .call { callee := .builtin .append, args := #[s, x], argTypes := #[t, t] }) (ht : P.underlying t = some (.slice 3)) (hinfo : (P.info? 3).map (fun i => (i.zero, i.size, i.bytes)) = some (some (.int .i64 0), 1, 8))
    (v : Value) (xs : List Int) (y : Int) (hs : a.eval s = v) (hx : a.eval x = .slice (some ⟨W.heap.size, 0, none⟩) 1 1) (HO : RowP base v xs W) (hbase : base ≤ W.heap.size) (hl : xs.length ≤ 1000)
    (h : ∀ pb cap w1, RowP base (.slice (some ⟨pb, 0, none⟩) (xs.length + 1) cap) (xs ++ [y]) w1 → Below base W w1 → wpList P ops Q rest (a.put o.dst (.slice (some ⟨pb, 0, none⟩) (xs.length + 1) cap)) w1) :
    wpList P ops Q (o :: rest) a (W.alloc (.cells #[.int .i64 y] 3)) := by
  obtain ⟨i0, hi, hzz⟩ := Option.map_eq_some_iff.1 hinfo
  simp only [Prod.mk.injEq] at hzz
  obtain ⟨hz0, hz1, hz2⟩ := hzz
  refine wpList_append_own (W.alloc (.cells #[.int .i64 y] 3)) hgd s x t ho base 3 i0 (.int .i64 0) 1 8 ht hi hz0 hz1 hz2 rfl (by decide) v xs.length (xs.map (.int .i64)) hs (HO.1.alloc _) ⟨W.heap.size, 0, none⟩ 1 1 [.int .i64 y] hx rfl
    (World.news_of_block (cs := #[.int .i64 y]) (t := 3) (fr := (0, 0)) (heap_alloc_new W _)) (by simp [Value.oneCell']) (by unfold maxLen; omega) (by omega) (by simp; omega) ?_
  intro v1 w1 hown hg _
  have hlen : (xs ++ [y]).length = xs.length + 1 := by simp
  have hR : RowP base v1 (xs ++ [y]) w1 := by
    refine ⟨?_, fun e => by rw [hlen] at e; omega⟩
    have e1 : (xs ++ [y]).map (Value.int IntKind.i64) = xs.map (.int .i64) ++ [.int .i64 y] := by simp
    rw [hlen, e1]; exact hown
  obtain ⟨pb, cap, rfl, _⟩ := rowp_form hR hlen
  refine h pb cap w1 hR ⟨hg.os.trans rfl, hg.tape.trans rfl, hg.output.trans rfl, Nat.le_trans (by simp) hg.size, fun i hi => ?_⟩
  refine (hg.block i (by simp; omega) ?_).trans (Below.heap_alloc W _ i (by omega))
  cases hv : v.ownBlock with
  | none => simp
  | some kk =>
    have := (HO.1.lt kk hv).1
    simp; omega
theorem info3 : (Try.prog.info? 3).map (fun i => (i.zero, i.size, i.bytes)) = some (some (.int .i64 0), 1, 8) := by kernel_rfl
theorem nowAt_idem {N y N' : Int} (h : nowAt N y = N') (hN : N ≤ 1152921504606846976) : nowAt N' y = N' := by
  rw [← h]; unfold nowAt; (repeat' split) <;> omega
theorem pi_clear {k : Nat} {N F T : Int} {xs : List Int} (h : PlayI k N F T xs) {N' : Int} (hN : 0 ≤ N' ∧ N' ≤ 1152921504606846976) : PlayI (k + 1) N' 0 0 [] :=
  ⟨hN, by simp, fun _ => ⟨rfl, rfl⟩, fun p hp => by simp at hp, by omega, by omega⟩
theorem pi_time {k : Nat} {N F T : Int} {xs : List Int} (h : PlayI k N F T xs) {N' : Int} (hN : 0 ≤ N' ∧ N' ≤ 1152921504606846976) : PlayI (k + 1) N' F T xs :=
  ⟨hN, by have := h.2.1; omega, h.2.2.1, h.2.2.2.1, h.2.2.2.2.1, h.2.2.2.2.2⟩
theorem pi_first (k : Nat) {N' : Int} (hN : 0 ≤ N' ∧ N' ≤ 1152921504606846976) : PlayI (k + 1) N' N' N' [N'] :=
  ⟨hN, by simp, fun h => by simp at h, fun p hp => by
    obtain rfl : p = 0 := by simp at hp; exact hp
    exact ⟨rfl, rfl⟩, hN, hN⟩
theorem pi_more {k p : Nat} {N F T : Int} {xs : List Int} (h : PlayI k N F T xs) (hp : xs.length = p + 1) {N' : Int} (hN : 0 ≤ N' ∧ N' ≤ 1152921504606846976) : PlayI (k + 1) N' F N' (xs ++ [N']) := by
  refine ⟨hN, by have := h.2.1; simp; omega, fun h => by simp at h, fun r hr => ?_, h.2.2.2.2.1, hN⟩
  have h0 := (h.2.2.2.1 p hp).1
  simp at hr
  obtain rfl : r = p + 1 := by omega
  constructor
  · rw [← h0]
    rw [List.getD_eq_getElem?_getD, List.getElem?_append_left (show 0 < xs.length by omega), List.getD_eq_getElem?_getD]
  · simp [List.getD_eq_getElem?_getD, List.getElem?_append_right (show xs.length ≤ p + 1 by omega), hp]
theorem pass_none_at {b : Nat} {q m now F T N : Int} (w : World) (t : Int) (h : FS b q m now F T 0 w) (hnow : 0 ≤ now ∧ now ≤ 1152921504606846976) (hN : nowAt now t = N) :
    Calls Try.prog 14 #[ptr b, .int .i64 t] w fun e w' => e = .returned (.tuple #[zb, .bool false]) ∧ FS b q m N F T 0 w' ∧ G b w w' := hN ▸ pass_none w t h hnow
theorem poke_new_at {b : Nat} {q m now F T N : Int} (w : World) (t : Int) (h : FS b q m now F T 0 w) (hnow : 0 ≤ now ∧ now ≤ 1152921504606846976) (hN : nowAt now t = N) :
    Calls Try.prog 15 #[ptr b, .int .i64 t] w fun e w' => e = .returned (.tuple #[zb, .bool false]) ∧ FS b q m N N N 1 w' ∧ G b w w' := hN ▸ poke_new w t h hnow
theorem poke_wait_at {b : Nat} {q m now F T P N : Int} (w : World) (t : Int) (h : FS b q m now F T P w) (hb : Bd q m now F T P) (hP : 0 < P) (hN : nowAt now t = N) (he : N < endAt q m F T) :
    Calls Try.prog 15 #[ptr b, .int .i64 t] w fun e w' => e = .returned (.tuple #[zb, .bool false]) ∧ FS b q m N F N (P + 1) w' ∧ G b w w' := hN ▸ poke_wait w t h hb hP (by rw [hN]; exact he)
theorem pass_wait_at {b : Nat} {q m now F T P N : Int} (w : World) (t : Int) (h : FS b q m now F T P w) (hb : Bd q m now F T P) (hP : 0 < P) (hN : nowAt now t = N) (he : N < endAt q m F T) :
    Calls Try.prog 14 #[ptr b, .int .i64 t] w fun e w' => e = .returned (.tuple #[zb, .bool false]) ∧ FS b q m N F T P w' ∧ G b w w' := hN ▸ pass_wait w t h hb hP (by rw [hN]; exact he)
theorem pass_end_n {b : Nat} {q m now F T P N en : Int} (w : World) (t : Int) (h : FS b q m now F T P w) (hb : Bd q m now F T P) (hP : 0 < P) (hN : nowAt now t = N) (hen : endAt q m F T = en) (he : en ≤ N) :
    Calls Try.prog 14 #[ptr b, .int .i64 t] w fun e w' => e = .returned (.tuple #[bu F T P en, .bool true]) ∧ FS b q m N 0 0 0 w' ∧ G b w w' := hen ▸ hN ▸ pass_end w t h hb hP (by rw [hN, hen]; exact he)
theorem fs_drew {b : Nat} {q m now F T P : Int} {W : World} (h : FS b q m now F T P W) : FS b q m now F T P W.drew := h
theorem val_int {k : IntKind} {a b : Int} (h : a = b) : Value.int k a = .int k b := by rw [h]
theorem fs_cast {b : Nat} {q m now F T P P' : Int} {W : World} (h : FS b q m now F T P W) (e : P = P') : FS b q m now F T P' W := e ▸ h
end Go.Proofs.Ytapebhefbokcfaa.DebW
