/- The clocks: a part of the walk of the whole machine. For all states that the readings allow. -/
import Derived.Test.YtlcaepcojglbiaaGreatDoorMl
namespace Go.Proofs.YtlcaepcojglbiaaGreatDoor.Tp
open Go.RowKit
set_option linter.unusedVariables false
set_option linter.unusedSimpArgs false
/-- The clock's fields. -/
structure Ck where
  counter : Int
  mono : Int
  o0 : Int
  o1 : Int
  o2 : Int
  asleep : Bool
  slept : Int
  gen : Int
def Ck.off (K : Ck) : Nat → Int
  | 0 => K.o0
  | 1 => K.o1
  | _ => K.o2
abbrev Ck.cells (K : Ck) : Array Value := #[.int .i64 K.counter, .int .i64 K.mono, .int .i64 K.o0, .int .i64 K.o1, .int .i64 K.o2, .bool K.asleep, .int .i64 K.slept, .int .i64 K.gen]
def CR (c : Nat) (K : Ck) (W : World) : Prop := W.heap[c]? = some (.cells K.cells 100)
structure Ck.ok (K : Ck) : Prop where
  m : 0 ≤ K.mono
  c : K.counter ≤ 1152921504606846976
  z : K.o0 = 0
  b : 0 ≤ K.o2
  s : 0 ≤ K.slept
  t : K.mono + K.o2 + (if K.asleep then K.slept else 0) = K.counter
  r : -1152921504606846976 ≤ K.o1 ∧ K.o1 ≤ 1152921504606846976 + K.o2
  q : K.slept ≤ K.counter
  g : 0 ≤ K.gen ∧ K.gen ≤ 1000000
theorem cr_cells {c : Nat} {K : Ck} {W : World} (h : CR c K W) : (W.cell? ⟨c, 0, none⟩ = some (.int .i64 K.counter) ∧ W.frozen? ⟨c, 0, none⟩ = false) ∧ (W.cell? ⟨c, 1, none⟩ = some (.int .i64 K.mono) ∧ W.frozen? ⟨c, 1, none⟩ = false) ∧ (W.cell? ⟨c, 2, none⟩ = some (.int .i64 K.o0) ∧ W.frozen? ⟨c, 2, none⟩ = false) ∧ (W.cell? ⟨c, 3, none⟩ = some (.int .i64 K.o1) ∧ W.frozen? ⟨c, 3, none⟩ = false) ∧ (W.cell? ⟨c, 4, none⟩ = some (.int .i64 K.o2) ∧ W.frozen? ⟨c, 4, none⟩ = false) ∧ (W.cell? ⟨c, 5, none⟩ = some (.bool K.asleep) ∧ W.frozen? ⟨c, 5, none⟩ = false) ∧ (W.cell? ⟨c, 6, none⟩ = some (.int .i64 K.slept) ∧ W.frozen? ⟨c, 6, none⟩ = false) ∧ W.cell? ⟨c, 7, none⟩ = some (.int .i64 K.gen) ∧ W.frozen? ⟨c, 7, none⟩ = false :=
  ⟨cell_of h 0 _ rfl, cell_of h 1 _ rfl, cell_of h 2 _ rfl, cell_of h 3 _ rfl, cell_of h 4 _ rfl, cell_of h 5 _ rfl, cell_of h 6 _ rfl, cell_of h 7 _ rfl⟩
theorem cr_lt {c : Nat} {K : Ck} {W : World} (h : CR c K W) : c < W.heap.size := (Array.getElem?_eq_some_iff.1 h).1
theorem cr_gf {F : Nat → Prop} {c : Nat} {K : Ck} {W W' : World} (h : CR c K W) (g : GF F W W') (hF : ¬ F c) : CR c K W' := (g.block c (cr_lt h) hF).trans h
theorem cr_below {c : Nat} {K : Ck} {W W' : World} (h : CR c K W) (g : Below W.heap.size W W') : CR c K W' := (g.block c (cr_lt h)).trans h
def Ck.zero : Ck := ⟨0, 0, 0, 0, 0, false, 0, 0⟩
theorem cnew_at (W : World) : Calls Tryz.prog 16 #[] W fun e W' => e = .returned (ptr W.heap.size) ∧ CR W.heap.size Ck.zero W' ∧ Below W.heap.size W W' := by
  go_enter Tryz.func16, Tryz.ntmps16
  go_wp2
  go_ret
  exact ⟨rfl, heap_alloc_new W _, (Below.refl W.heap.size W).alloc (Nat.le_refl _) _⟩
theorem cis_at (c k : Nat) (hk : k < 3) (W : World) : Calls Tryz.prog 58 #[ptr c, .int .i64 (k : Nat)] W fun e W' => e = .returned (.bool true) ∧ W' = W := by
  have h1 : (0 : Int) ≤ (k : Int) := by omega
  have h2 : (k : Int) < 3 := by omega
  go_enter Tryz.func58, Tryz.ntmps58
  go_wp2
  go_ret
  exact ⟨rfl, rfl⟩
theorem ck_off_cell {c : Nat} {K : Ck} {W : World} (h : CR c K W) {k : Nat} (hk : k < 3) : W.cell? ⟨c, 2 + k, none⟩ = some (.int .i64 (K.off k)) := by
  rcases (show k = 0 ∨ k = 1 ∨ k = 2 by omega) with rfl | rfl | rfl
  · exact (cell_of h 2 _ rfl).1
  · exact (cell_of h 3 _ rfl).1
  · exact (cell_of h 4 _ rfl).1
set_option maxHeartbeats 4000000 in
theorem coff_at {c : Nat} {K : Ck} (k : Nat) (hk : k < 3) (W : World) (h : CR c K W) : Calls Tryz.prog 97 #[ptr c, .int .i64 (k : Nat)] W fun e W' => e = .returned (.tuple #[.int .i64 (K.off k), .bool true]) ∧ W' = W := by
  have C := Lib.hid (cis_at c k hk)
  have h2 : (k : Int) < 3 := by omega
  have e0 := ck_off_cell h hk
  clear h
  go_enter Tryz.func97, Tryz.ntmps97
  go_wp2_with (first | (go_at_call 58; refine (C.out _).mono ?_; clear C; rintro e w1 ⟨rfl, rfl⟩) | fail)
  exact bodyPost_ret (results_tmp2 rfl _ _ _) rfl ⟨rfl, rfl⟩
set_option maxHeartbeats 4000000 in
theorem cnow_at {c : Nat} {K : Ck} (k : Nat) (hk : k < 3) (W : World) (h : CR c K W) (hok : K.ok) : Calls Tryz.prog 30 #[ptr c, .int .i64 (k : Nat)] W fun e W' => e = .returned (.tuple #[.int .i64 (K.mono + K.off k), .bool true]) ∧ Below W.heap.size W W' := by
  have C := Lib.hid (cis_at c k hk)
  have h2 : (k : Int) < 3 := by omega
  have e0 := ck_off_cell h hk
  obtain ⟨-, ⟨e1, -⟩, -⟩ := cr_cells h
  obtain ⟨h3, h4⟩ : -4611686018427387904 ≤ K.mono + K.off k ∧ K.mono + K.off k ≤ 4611686018427387904 := by
    obtain ⟨a1, a2, a3, a4, a5, a6, a7, a8, a9⟩ := hok
    rcases (show k = 0 ∨ k = 1 ∨ k = 2 by omega) with rfl | rfl | rfl
    · show _ ≤ K.mono + K.o0 ∧ K.mono + K.o0 ≤ _; split at a6 <;> omega
    · show _ ≤ K.mono + K.o1 ∧ K.mono + K.o1 ≤ _; split at a6 <;> omega
    · show _ ≤ K.mono + K.o2 ∧ K.mono + K.o2 ≤ _; split at a6 <;> omega
  have hw : IntKind.i64.wrap (K.mono + K.off k) = K.mono + K.off k := iw (by omega) (by omega)
  clear h hok h3 h4
  go_enter Tryz.func30, Tryz.ntmps30
  go_wp2_with (first | (go_at_call 58; refine (C.out _).mono ?_; clear C; rintro e w1 ⟨rfl, rfl⟩) | fail)
  go_region
  go_wp2_with fail
  exact bodyPost_ret (results_tmp2 rfl _ _ _) rfl ⟨rfl, below_drew (Below.refl _ _)⟩
theorem cgen_at {c : Nat} {K : Ck} (W : World) (h : CR c K W) : Calls Tryz.prog 52 #[ptr c] W fun e W' => e = .returned (.int .i64 K.gen) ∧ W' = W := by
  obtain ⟨-, -, -, -, -, -, -, e1, -⟩ := cr_cells h
  clear h
  go_enter Tryz.func52, Tryz.ntmps52
  go_wp2
  go_ret
  exact ⟨rfl, rfl⟩
def Ck.bad (K : Ck) (n : Int) : Bool := decide (n < 0) || decide (1152921504606846976 - K.counter < n)
def Ck.adv (K : Ck) (n : Int) : Ck := if K.bad n then K else if K.asleep then { K with counter := K.counter + n, slept := K.slept + n } else { K with counter := K.counter + n, mono := K.mono + n }
theorem Ck.bad_iff (K : Ck) (n : Int) : K.bad n = true ↔ n < 0 ∨ 1152921504606846976 - K.counter < n := by simp [Ck.bad]
theorem cset8 {W : World} {c : Nat} {x0 x1 x2 x3 x4 x5 x6 x7 : Value} {t : Nat} (h : W.heap[c]? = some (.cells #[x0, x1, x2, x3, x4, x5, x6, x7] t)) (o : Nat) (v : Value) : (W.setCell ⟨c, o, none⟩ v).heap[c]? = some (.cells ((#[x0, x1, x2, x3, x4, x5, x6, x7] : Array Value).set! o v) t) := heap_setCell_same W c o _ t v h
theorem gfc {c : Nat} {W w : World} (g : GF (fun i => i = c) W w) (o : Nat) (v : Value) : GF (fun i => i = c) W (w.setCell ⟨c, o, none⟩ v) := gf_set g (.inl rfl) v
set_option maxHeartbeats 4000000 in
theorem cadv_at {c : Nat} {K : Ck} (n : Int) (W : World) (h : CR c K W) (hok : K.ok) (hn : i64 n) : Calls Tryz.prog 45 #[ptr c, .int .i64 n] W fun e W' => e = .returned (.int .i64 (if K.bad n then 2 else 0)) ∧ CR c (K.adv n) W' ∧ GF (fun i => i = c) W W' := by
  have hb := K.bad_iff n
  have H := Lib.hid h
  obtain ⟨⟨e0, f0⟩, ⟨e1, f1⟩, -, -, -, ⟨e5, f5⟩, ⟨e6, f6⟩, -⟩ := cr_cells h
  obtain ⟨hm, hc, -, hb0, hs, ht, -, hq, -⟩ := hok
  unfold Ck.adv
  obtain ⟨counter, mono, o0, o1, o2, asleep, slept, gen⟩ := K
  dsimp only at *
  obtain ⟨hn1, hn2⟩ := hn
  have hcc : 0 ≤ counter := by split at ht <;> omega
  have w1 : IntKind.i64.wrap (1152921504606846976 - counter) = 1152921504606846976 - counter := iw (by omega) (by omega)
  by_cases hbad : n < 0 ∨ 1152921504606846976 - counter < n
  · rw [hb.2 hbad]
    clear hb h hm hb0 hs ht hq
    by_cases h0 : n < 0
    · clear hbad
      go_enter Tryz.func45, Tryz.ntmps45
      go_wp2
      go_ret
      exact ⟨rfl, H.out, gf_refl _ _⟩
    · have h1 : 1152921504606846976 - counter < n := by omega
      clear hbad
      go_enter Tryz.func45, Tryz.ntmps45
      go_wp2
      go_ret
      exact ⟨rfl, H.out, gf_refl _ _⟩
  · have hbf : Ck.bad ⟨counter, mono, o0, o1, o2, asleep, slept, gen⟩ n = false := by
      cases hh : Ck.bad ⟨counter, mono, o0, o1, o2, asleep, slept, gen⟩ n with
      | false => rfl
      | true => exact absurd (hb.1 hh) hbad
    rw [hbf]
    have h0 : ¬ n < 0 := by omega
    have h1 : ¬ 1152921504606846976 - counter < n := by omega
    have w2 : IntKind.i64.wrap (counter + n) = counter + n := iw (by omega) (by omega)
    cases asleep
    · have hmm : mono ≤ counter := by simp at ht; omega
      have w3 : IntKind.i64.wrap (mono + n) = mono + n := iw (by omega) (by omega)
      clear hbad hb h hm hb0 hs ht hq hbf hcc
      go_enter Tryz.func45, Tryz.ntmps45
      go_wp2
      go_ret
      exact ⟨rfl, cset8 (cset8 H.out _ _) _ _, gfc (gfc (gf_refl _ _) _ _) _ _⟩
    · have w3 : IntKind.i64.wrap (slept + n) = slept + n := iw (by omega) (by omega)
      clear hbad hb h hm hb0 hs ht hq hbf hcc
      go_enter Tryz.func45, Tryz.ntmps45
      go_wp2
      go_ret
      exact ⟨rfl, cset8 (cset8 H.out _ _) _ _, gfc (gfc (gf_refl _ _) _ _) _ _⟩
theorem eqi (d : Nat) (a b : Int) (w : World) : (Op.equalIn (d + 1) 3 (.int .i64 a) (.int .i64 b)).run Tryz.prog w = .ok (a == b) w := by
  simp [Op.equalIn, run_underlying Tryz.underlying3]
theorem pt30 (a b c : Int) (w : World) : (part 3 #[.int .i64 a, .int .i64 b, .int .i64 c] 0).run Tryz.prog w = .ok (.int .i64 a) w := by kernel_rfl
theorem pt31 (a b c : Int) (w : World) : (part 3 #[.int .i64 a, .int .i64 b, .int .i64 c] 1).run Tryz.prog w = .ok (.int .i64 b) w := by kernel_rfl
theorem pt32 (a b c : Int) (w : World) : (part 3 #[.int .i64 a, .int .i64 b, .int .i64 c] 2).run Tryz.prog w = .ok (.int .i64 c) w := by kernel_rfl
theorem sz33 (w : World) : (sizeOf 3).run Tryz.prog w = .ok 1 w := by kernel_rfl
theorem und27 (w : World) : (underlying 27).run Tryz.prog w = .ok (.array 3 3) w := by kernel_rfl
theorem eqa (d : Nat) (a b c a' b' c' : Int) (w : World) : (Op.equalIn (d + 2) 27 (.agg #[.int .i64 a, .int .i64 b, .int .i64 c]) (.agg #[.int .i64 a', .int .i64 b', .int .i64 c'])).run Tryz.prog w = .ok (decide (a = a' ∧ b = b' ∧ c = c')) w := by
  rw [show d + 2 = (d + 1) + 1 from rfl]
  unfold Op.equalIn
  simp [und27, sz33, pt30, pt31, pt32, eqi, Sem.run_bind, Result.andThen]
  rw [show List.range' 0 3 = [0, 1, 2] from rfl]
  simp only [List.forIn_cons, List.forIn_nil, Sem.run_bind, pt30, pt31, pt32, eqi, Result.andThen]
  by_cases h0 : a = a'
  · by_cases h1 : b = b'
    · by_cases h2 : c = c'
      · simp [h0, h1, h2, pt30, pt31, pt32, eqi, Result.andThen]
      · simp [h0, h1, h2, pt30, pt31, pt32, eqi, Result.andThen]
    · simp [h0, h1, pt30, pt31, pt32, eqi, Result.andThen]
  · simp [h0, pt30, pt31, pt32, eqi, Result.andThen]
theorem eq27 (a b c a' b' c' : Int) (w : World) : (Op.equalIn 10000 27 (.agg #[.int .i64 a, .int .i64 b, .int .i64 c]) (.agg #[.int .i64 a', .int .i64 b', .int .i64 c'])).run Tryz.prog w = .ok (decide (a = a' ∧ b = b' ∧ c = c')) w := eqa 9998 a b c a' b' c' w
def Ck.mv (K : Ck) (l0 l1 l2 : Int) : Ck := if l0 = K.o0 ∧ l1 = K.o1 ∧ l2 = K.o2 then K else { K with o0 := l0, o1 := l1, o2 := l2, gen := K.gen + 1 }
set_option maxHeartbeats 4000000 in
theorem cmove_at {c : Nat} {K : Ck} (l0 l1 l2 : Int) (W : World) (h : CR c K W) (hg : 0 ≤ K.gen ∧ K.gen ≤ 1000000) : Calls Tryz.prog 54 #[ptr c, .agg #[.int .i64 l0, .int .i64 l1, .int .i64 l2]] W fun e W' => e = .returned (.tuple #[]) ∧ CR c (K.mv l0 l1 l2) W' ∧ GF (fun i => i = c) W W' := by
  have H := Lib.hid h
  have hl := cr_lt h
  have HB := Lib.hid ((Below.refl W.heap.size W).alloc (Nat.le_refl _) (.cells #[.int .i64 l0, .int .i64 l1, .int .i64 l2] 27))
  obtain ⟨⟨e0, f0⟩, ⟨e1, f1⟩, ⟨e2, f2⟩, ⟨e3, f3⟩, ⟨e4, f4⟩, ⟨e5, f5⟩, ⟨e6, f6⟩, e7, f7⟩ := cr_cells h
  have w1 : IntKind.i64.wrap (K.gen + 1) = K.gen + 1 := iw (by omega) (by omega)
  have n1 : ¬ c = W.heap.size := by omega
  have n2 : ¬ W.heap.size = c := by omega
  unfold Ck.mv
  obtain ⟨counter, mono, o0, o1, o2, asleep, slept, gen⟩ := K
  dsimp only at *
  have hq : ∀ w : World, (Op.equalIn 10000 27 (.agg #[.int .i64 l0, .int .i64 l1, .int .i64 l2]) (.agg #[.int .i64 o0, .int .i64 o1, .int .i64 o2])).run Tryz.prog w = .ok (decide (l0 = o0 ∧ l1 = o1 ∧ l2 = o2)) w := eq27 l0 l1 l2 o0 o1 o2
  by_cases hs : l0 = o0 ∧ l1 = o1 ∧ l2 = o2
  · rw [decide_eq_true hs] at hq
    rw [if_pos hs]
    clear h hg hs
    go_enter Tryz.func54, Tryz.ntmps54
    go_wp2_with fail
    go_region
    go_wp2_with fail
    exact bodyPost_end (results_none rfl _ _ _) rfl ⟨rfl, (HB.out.block c hl).trans H.out, gf_drew (gf_below HB.out)⟩
  · rw [decide_eq_false hs] at hq
    rw [if_neg hs]
    clear h hg hs
    go_enter Tryz.func54, Tryz.ntmps54
    go_wp2_with fail
    go_region
    go_wp2_with fail
    have hx : ((((W.setCell ⟨c, 2, none⟩ (.int .i64 l0)).setCell ⟨c, 3, none⟩ (.int .i64 l1)).setCell ⟨c, 4, none⟩ (.int .i64 l2)).setCell ⟨c, 7, none⟩ (.int .i64 (gen + 1))).heap[c]? = some (.cells (Ck.cells ⟨counter, mono, l0, l1, l2, asleep, slept, gen + 1⟩) 100) := cset8 (cset8 (cset8 (cset8 H.out 2 (.int .i64 l0)) 3 (.int .i64 l1)) 4 (.int .i64 l2)) 7 (.int .i64 (gen + 1))
    have hy := gfc (gfc (gfc (gfc (gf_refl (fun i => i = c) W) 2 (.int .i64 l0)) 3 (.int .i64 l1)) 4 (.int .i64 l2)) 7 (.int .i64 (gen + 1))
    exact bodyPost_end (results_none rfl _ _ _) rfl ⟨rfl, (Below.heap_alloc _ _ c (by simp only [size_set]; exact hl)).trans hx, gf_drew (gf_alloc hy _)⟩
def Ck.bads (t : Int) : Bool := decide (t < 0) || decide (1152921504606846976 < t)
def Ck.set (K : Ck) (t : Int) : Ck := if Ck.bads t then K else K.mv K.o0 (t - K.mono) K.o2
def Ck.sus (K : Ck) : Ck := if K.asleep then K else { K with asleep := true, slept := 0 }
def Ck.res (K : Ck) : Ck := if K.asleep then Ck.mv { K with asleep := false } K.o0 (K.o1 + K.slept) (K.o2 + K.slept) else K
theorem csus_at {c : Nat} {K : Ck} (W : World) (h : CR c K W) : Calls Tryz.prog 26 #[ptr c] W fun e W' => e = .returned (.int .i64 (if K.asleep then 8 else 0)) ∧ CR c K.sus W' ∧ GF (fun i => i = c) W W' := by
  have H := Lib.hid h
  obtain ⟨-, -, -, -, -, ⟨e5, f5⟩, ⟨e6, f6⟩, -⟩ := cr_cells h
  unfold Ck.sus
  obtain ⟨counter, mono, o0, o1, o2, asleep, slept, gen⟩ := K
  dsimp only at *
  clear h
  cases asleep
  · go_enter Tryz.func26, Tryz.ntmps26
    go_wp2
    go_ret
    exact ⟨rfl, cset8 (cset8 H.out _ _) _ _, gfc (gfc (gf_refl _ _) _ _) _ _⟩
  · go_enter Tryz.func26, Tryz.ntmps26
    go_wp2
    go_ret
    exact ⟨rfl, H.out, gf_refl _ _⟩
set_option maxHeartbeats 4000000 in
theorem cset_at {c : Nat} {K : Ck} (t : Int) (W : World) (h : CR c K W) (hok : K.ok) : Calls Tryz.prog 25 #[ptr c, .int .i64 t] W fun e W' => e = .returned (.int .i64 (if Ck.bads t then 2 else 0)) ∧ CR c (K.set t) W' ∧ GF (fun i => i = c) W W' := by
  have H := Lib.hid h
  have hl := cr_lt h
  have C := Lib.hid (fun W h => cmove_at (c := c) (K := K) K.o0 (t - K.mono) K.o2 W h hok.g)
  obtain ⟨⟨e0, f0⟩, ⟨e1, f1⟩, ⟨e2, f2⟩, ⟨e3, f3⟩, ⟨e4, f4⟩, -⟩ := cr_cells h
  have hm := hok.m
  have hmc : K.mono ≤ 1152921504606846976 := by
    obtain ⟨a1, a2, a3, a4, a5, a6, a7, a8, a9⟩ := hok
    split at a6 <;> omega
  have n1 : ¬ c = W.heap.size := by omega
  have n2 : ¬ W.heap.size = c := by omega
  unfold Ck.set
  by_cases hb : t < 0 ∨ 1152921504606846976 < t
  · have hbt : Ck.bads t = true := by simp [Ck.bads, hb]
    rw [hbt]
    by_cases h0 : t < 0
    · clear hb hbt C h hok hmc hm
      go_enter Tryz.func25, Tryz.ntmps25
      go_wp2
      go_ret
      exact ⟨rfl, H.out, gf_refl _ _⟩
    · have h1 : 1152921504606846976 < t := by omega
      clear hb hbt C h hok hmc hm
      go_enter Tryz.func25, Tryz.ntmps25
      go_wp2
      go_ret
      exact ⟨rfl, H.out, gf_refl _ _⟩
  · have hbt : Ck.bads t = false := by
      cases hh : Ck.bads t with
      | false => rfl
      | true => simp [Ck.bads] at hh; exact absurd hh hb
    rw [hbt]
    have h0 : ¬ t < 0 := by omega
    have h1 : ¬ 1152921504606846976 < t := by omega
    have w1 : IntKind.i64.wrap (t - K.mono) = t - K.mono := iw (by omega) (by omega)
    obtain ⟨counter, mono, o0, o1, o2, asleep, slept, gen⟩ := K
    dsimp only at *
    have HB : Hid (CR c ⟨counter, mono, o0, o1, o2, asleep, slept, gen⟩ (W.alloc (.cells #[.int .i64 o0, .int .i64 (t - mono), .int .i64 o2] 27)) ∧ GF (fun i => i = c) W (W.alloc (.cells #[.int .i64 o0, .int .i64 (t - mono), .int .i64 o2] 27))) := Lib.hid ⟨(Below.heap_alloc _ _ c hl).trans h, gf_alloc (gf_refl _ _) _⟩
    clear hb hbt h hok hmc hm
    go_enter Tryz.func25, Tryz.ntmps25
    go_wp2_with (first | (go_at_call 54; refine (C.out _ HB.out.1).mono ?_; clear C; rintro e w1 ⟨rfl, hc, hg⟩; have HC := Lib.hid (And.intro hc (gf_trans HB.out.2 hg)); clear hc hg) | fail)
    go_ret
    exact ⟨rfl, HC.out⟩
set_option maxHeartbeats 4000000 in
theorem cres_at {c : Nat} {K : Ck} (W : World) (h : CR c K W) (hok : K.ok) : Calls Tryz.prog 27 #[ptr c] W fun e W' => e = .returned (.int .i64 (if K.asleep then 0 else 8)) ∧ CR c K.res W' ∧ GF (fun i => i = c) W W' := by
  have H := Lib.hid h
  have hl := cr_lt h
  have C := Lib.hid (fun W h => cmove_at (c := c) (K := { K with asleep := false }) K.o0 (K.o1 + K.slept) (K.o2 + K.slept) W h hok.g)
  obtain ⟨⟨e0, f0⟩, ⟨e1, f1⟩, ⟨e2, f2⟩, ⟨e3, f3⟩, ⟨e4, f4⟩, ⟨e5, f5⟩, ⟨e6, f6⟩, -⟩ := cr_cells h
  have n1 : ¬ c = W.heap.size := by omega
  have n2 : ¬ W.heap.size = c := by omega
  unfold Ck.res
  have w1 : IntKind.i64.wrap (K.o1 + K.slept) = K.o1 + K.slept := by
    obtain ⟨a1, a2, a3, a4, a5, a6, a7, a8, a9⟩ := hok
    split at a6 <;> exact iw (by omega) (by omega)
  have w2 : IntKind.i64.wrap (K.o2 + K.slept) = K.o2 + K.slept := by
    obtain ⟨a1, a2, a3, a4, a5, a6, a7, a8, a9⟩ := hok
    split at a6 <;> exact iw (by omega) (by omega)
  obtain ⟨counter, mono, o0, o1, o2, asleep, slept, gen⟩ := K
  dsimp only at *
  cases asleep
  · clear C h hok
    go_enter Tryz.func27, Tryz.ntmps27
    go_wp2
    go_ret
    exact ⟨rfl, H.out, gf_refl _ _⟩
  · have HX : Hid (CR c ⟨counter, mono, o0, o1, o2, false, slept, gen⟩ (W.setCell ⟨c, 5, none⟩ (.bool false)) ∧ GF (fun i => i = c) W (W.setCell ⟨c, 5, none⟩ (.bool false))) := Lib.hid ⟨cset8 h 5 (.bool false), gfc (gf_refl _ _) _ _⟩
    have hs : (W.setCell ⟨c, 5, none⟩ (.bool false)).heap.size = W.heap.size := size_set _ _ _
    clear h hok
    go_enter Tryz.func27, Tryz.ntmps27
    go_wp2_with fail
    go_region
    go_wp2_with fail
    go_region
    have HY : Hid (CR c ⟨counter, mono, o0, o1, o2, false, slept, gen⟩ ((W.setCell ⟨c, 5, none⟩ (.bool false)).alloc (.cells #[.int .i64 o0, .int .i64 (o1 + slept), .int .i64 (o2 + slept)] 27)).drew.drew ∧ GF (fun i => i = c) W ((W.setCell ⟨c, 5, none⟩ (.bool false)).alloc (.cells #[.int .i64 o0, .int .i64 (o1 + slept), .int .i64 (o2 + slept)] 27)).drew.drew) := Lib.hid ⟨(Below.heap_alloc _ _ c (by rw [size_set]; exact hl)).trans HX.out.1, gf_drew (gf_drew (gf_alloc HX.out.2 _))⟩
    go_wp2_with (first | (go_at_call 54; refine (C.out _ HY.out.1).mono ?_; clear C; rintro e w3 ⟨rfl, hc, hg⟩; have HC := Lib.hid (And.intro hc (gf_trans HY.out.2 hg)); clear hc hg) | fail)
    go_ret
    exact ⟨rfl, HC.out⟩
end Go.Proofs.YtlcaepcojglbiaaGreatDoor.Tp
namespace Go.Proofs.YtlcaepcojglbiaaGreatDoor.Tp
open Go.RowKit
set_option linter.unusedVariables false
set_option linter.unusedSimpArgs false
theorem ok_zero : Ck.zero.ok := ⟨by decide, by decide, rfl, by decide, by decide, by decide, by decide, by decide, by decide⟩
theorem ok_adv {K : Ck} (h : K.ok) (n : Int) : (K.adv n).ok ∧ (K.adv n).gen = K.gen := by
  have hb := K.bad_iff n
  unfold Ck.adv
  cases hbb : K.bad n with
  | true => exact ⟨h, rfl⟩
  | false =>
    have hn : ¬ (n < 0 ∨ 1152921504606846976 - K.counter < n) := fun e => by rw [hb.2 e] at hbb; cases hbb
    obtain ⟨a1, a2, a3, a4, a5, a6, a7, a8, a9⟩ := h
    obtain ⟨counter, mono, o0, o1, o2, asleep, slept, gen⟩ := K
    dsimp only at *
    cases asleep
    · simp at a6
      exact ⟨⟨by show 0 ≤ mono + n; omega, by show counter + n ≤ _; omega, a3, a4, a5, by show mono + n + o2 + 0 = counter + n; omega, a7, by show slept ≤ counter + n; omega, a9⟩, rfl⟩
    · simp at a6
      exact ⟨⟨a1, by show counter + n ≤ _; omega, a3, a4, by show 0 ≤ slept + n; omega, by show mono + o2 + (slept + n) = counter + n; omega, a7, by show slept + n ≤ counter + n; omega, a9⟩, rfl⟩
theorem ok_mv {K : Ck} (l0 l1 l2 : Int) (h : Ck.ok { K with o0 := l0, o1 := l1, o2 := l2 }) (hg : K.gen < 1000000) : (K.mv l0 l1 l2).ok ∧ K.gen ≤ (K.mv l0 l1 l2).gen ∧ (K.mv l0 l1 l2).gen ≤ K.gen + 1 := by
  unfold Ck.mv
  by_cases hs : l0 = K.o0 ∧ l1 = K.o1 ∧ l2 = K.o2
  · rw [if_pos hs]
    obtain ⟨rfl, rfl, rfl⟩ := hs
    exact ⟨h, by omega, by omega⟩
  · rw [if_neg hs]
    exact ⟨⟨h.m, h.c, h.z, h.b, h.s, h.t, h.r, h.q, by have := h.g.1; show 0 ≤ K.gen + 1; exact Int.le_trans this (by show K.gen ≤ K.gen + 1; omega), by show K.gen + 1 ≤ 1000000; omega⟩, by show K.gen ≤ K.gen + 1; omega, Int.le_refl _⟩
theorem ok_set {K : Ck} (h : K.ok) (hg : K.gen < 1000000) (t : Int) : (K.set t).ok ∧ K.gen ≤ (K.set t).gen ∧ (K.set t).gen ≤ K.gen + 1 := by
  unfold Ck.set
  cases hb : Ck.bads t with
  | true => exact ⟨h, Int.le_refl _, by show K.gen ≤ K.gen + 1; omega⟩
  | false =>
    have hn : ¬ (t < 0 ∨ 1152921504606846976 < t) := by simpa [Ck.bads] using hb
    refine ok_mv _ _ _ ⟨h.m, h.c, h.z, h.b, h.s, h.t, ?_, h.q, h.g⟩ hg
    have a1 := h.m
    have a2 := h.c
    have a4 := h.b
    have a5 := h.s
    have a6 := h.t
    show -1152921504606846976 ≤ t - K.mono ∧ t - K.mono ≤ 1152921504606846976 + K.o2
    split at a6 <;> omega
theorem ok_sus {K : Ck} (h : K.ok) : K.sus.ok ∧ K.sus.gen = K.gen := by
  unfold Ck.sus
  cases ha : K.asleep with
  | true => exact ⟨h, rfl⟩
  | false =>
    have a6 := h.t
    rw [ha] at a6
    have a4 := h.b
    have a1 := h.m
    exact ⟨⟨h.m, h.c, h.z, h.b, Int.le_refl _, a6, h.r, by
      show 0 ≤ K.counter
      replace a6 : K.mono + K.o2 + 0 = K.counter := a6
      omega, h.g⟩, rfl⟩
theorem ok_res {K : Ck} (h : K.ok) (hg : K.gen < 1000000) : K.res.ok ∧ K.gen ≤ K.res.gen ∧ K.res.gen ≤ K.gen + 1 := by
  unfold Ck.res
  cases ha : K.asleep with
  | false => exact ⟨h, Int.le_refl _, by show K.gen ≤ K.gen + 1; omega⟩
  | true =>
    have a6 := h.t
    rw [ha] at a6
    replace a6 : K.mono + K.o2 + K.slept = K.counter := a6
    have a4 := h.b
    have a5 := h.s
    have a7 := h.r
    exact ok_mv (K := { K with asleep := false }) _ _ _ ⟨h.m, h.c, h.z, by show 0 ≤ K.o2 + K.slept; omega, h.s, by show K.mono + (K.o2 + K.slept) + 0 = K.counter; omega, by show -1152921504606846976 ≤ K.o1 + K.slept ∧ K.o1 + K.slept ≤ 1152921504606846976 + (K.o2 + K.slept); omega, h.q, h.g⟩ hg
end Go.Proofs.YtlcaepcojglbiaaGreatDoor.Tp
