/- The plain machine: one act: a part of the walk of the whole machine. For all states that the readings allow. -/
import Derived.BigQuiet
import Derived.Deep.QuietTactic
import Derived.BigRegion
import Derived.Test.YtlcaepcojglbiaaGreatDoorMw
namespace Go.Proofs.YtlcaepcojglbiaaGreatDoor.Tp
open Go.RowKit Go.Maps
set_option linter.unusedVariables false
set_option linter.unusedSimpArgs false
/-! Times, counted by hand. -/
abbrev Ck.pl (K : Ck) : Array Value := #[.int .i64 K.counter, .int .i64 K.mono, .int .i64 K.slept, .int .i64 K.o0, .int .i64 K.o1, .int .i64 K.o2, .bool K.asleep]
theorem cells7 {w : World} {g ty : Nat} {x0 x1 x2 x3 x4 x5 x6 : Value} (h : w.heap[g]? = some (.cells #[x0, x1, x2, x3, x4, x5, x6] ty)) : (w.cell? ⟨g, 0, none⟩ = some x0 ∧ w.frozen? ⟨g, 0, none⟩ = false) ∧ (w.cell? ⟨g, 1, none⟩ = some x1 ∧ w.frozen? ⟨g, 1, none⟩ = false) ∧ (w.cell? ⟨g, 2, none⟩ = some x2 ∧ w.frozen? ⟨g, 2, none⟩ = false) ∧ (w.cell? ⟨g, 3, none⟩ = some x3 ∧ w.frozen? ⟨g, 3, none⟩ = false) ∧ (w.cell? ⟨g, 4, none⟩ = some x4 ∧ w.frozen? ⟨g, 4, none⟩ = false) ∧ (w.cell? ⟨g, 5, none⟩ = some x5 ∧ w.frozen? ⟨g, 5, none⟩ = false) ∧ (w.cell? ⟨g, 6, none⟩ = some x6 ∧ w.frozen? ⟨g, 6, none⟩ = false) :=
  ⟨cell_of h 0 _ rfl, cell_of h 1 _ rfl, cell_of h 2 _ rfl, cell_of h 3 _ rfl, cell_of h 4 _ rfl, cell_of h 5 _ rfl, cell_of h 6 _ rfl⟩
theorem pset7 {W : World} {c : Nat} {x0 x1 x2 x3 x4 x5 x6 : Value} {t : Nat} (h : W.heap[c]? = some (.cells #[x0, x1, x2, x3, x4, x5, x6] t)) (o : Nat) (v : Value) : (W.setCell ⟨c, o, none⟩ v).heap[c]? = some (.cells ((#[x0, x1, x2, x3, x4, x5, x6] : Array Value).set! o v) t) := heap_setCell_same W c o _ t v h
section
variable {pb : Nat}
set_option maxRecDepth 100000 in
set_option maxHeartbeats 4000000 in
theorem pd_3neg (asleep : Bool) (cpu n id tc ts th : Int) (tl : Bool) (counter mono slept o0 o1 o2 : Int) (W : World) (h : W.heap[pb]? = some (.cells #[.int .i64 counter, .int .i64 mono, .int .i64 slept, .int .i64 o0, .int .i64 o1, .int .i64 o2, .bool asleep] 29)) (h0 : n < 0) :
    Calls Tryz.prog 8 #[ptr pb, .agg #[.int .i64 3, .int .i64 cpu, .int .i64 n, .int .i64 id, .int .i64 tc, .int .i64 ts, .int .i64 th, .bool tl]] W fun e W' => e = .returned (.tuple #[]) ∧ W'.heap[pb]? = some (.cells #[.int .i64 counter, .int .i64 mono, .int .i64 slept, .int .i64 o0, .int .i64 o1, .int .i64 o2, .bool asleep] 29) ∧ GF (fun x => x = pb) W W' := by
  have hl := (Array.getElem?_eq_some_iff.1 h).1
  have hn := heap_alloc_new W (.cells #[.int .i64 3, .int .i64 cpu, .int .i64 n, .int .i64 id, .int .i64 tc, .int .i64 ts, .int .i64 th, .bool tl] 33)
  have hp := (Below.heap_alloc W (.cells #[.int .i64 3, .int .i64 cpu, .int .i64 n, .int .i64 id, .int .i64 tc, .int .i64 ts, .int .i64 th, .bool tl] 33) pb hl).trans h
  have HG : Hid (GF (fun x => x = pb) W (W.alloc (.cells #[.int .i64 3, .int .i64 cpu, .int .i64 n, .int .i64 id, .int .i64 tc, .int .i64 ts, .int .i64 th, .bool tl] 33))) := Lib.hid (gf_alloc (gf_refl _ W) _)
  have hne : ¬ pb = W.heap.size := by omega
  have hne' : ¬ W.heap.size = pb := by omega
  clear h hl
  go_enter Tryz.func8, Tryz.ntmps8
  go_wp2_with fail
  obtain ⟨W1, hW1⟩ : ∃ W1, W.alloc (.cells #[.int .i64 3, .int .i64 cpu, .int .i64 n, .int .i64 id, .int .i64 tc, .int .i64 ts, .int .i64 th, .bool tl] 33) = W1 := ⟨_, rfl⟩
  rw [hW1] at hn hp HG ⊢
  obtain ⟨b, hb⟩ : ∃ b, W.heap.size = b := ⟨_, rfl⟩
  rw [hb] at hn hne hne' ⊢
  have HP := Lib.hid hp
  obtain ⟨⟨p0, p0f⟩, ⟨p1, p1f⟩, ⟨p2, p2f⟩, ⟨p3, p3f⟩, ⟨p4, p4f⟩, ⟨p5, p5f⟩, p6, p6f⟩ := cells7 hp
  have b2 := (cell_of hn 2 _ rfl).1
  clear hW1 hb hn hp
  go_quiet (fail)
  go_wp2_with fail
  exact bodyPost_ret (results_none rfl _ _ _) rfl ⟨rfl, HP.out, gf_drewN HG.out _⟩
set_option maxRecDepth 100000 in
set_option maxHeartbeats 4000000 in
theorem pd_3big (asleep : Bool) (cpu n id tc ts th : Int) (tl : Bool) (counter mono slept o0 o1 o2 : Int) (W : World) (h : W.heap[pb]? = some (.cells #[.int .i64 counter, .int .i64 mono, .int .i64 slept, .int .i64 o0, .int .i64 o1, .int .i64 o2, .bool asleep] 29)) (h0 : ¬ n < 0) (hc : 0 ≤ counter ∧ counter ≤ 1152921504606846976) (h1 : 1152921504606846976 - counter < n) :
    Calls Tryz.prog 8 #[ptr pb, .agg #[.int .i64 3, .int .i64 cpu, .int .i64 n, .int .i64 id, .int .i64 tc, .int .i64 ts, .int .i64 th, .bool tl]] W fun e W' => e = .returned (.tuple #[]) ∧ W'.heap[pb]? = some (.cells #[.int .i64 counter, .int .i64 mono, .int .i64 slept, .int .i64 o0, .int .i64 o1, .int .i64 o2, .bool asleep] 29) ∧ GF (fun x => x = pb) W W' := by
  have hl := (Array.getElem?_eq_some_iff.1 h).1
  obtain ⟨hc0, hc1⟩ := hc
  have w1 : IntKind.i64.wrap (1152921504606846976 - counter) = 1152921504606846976 - counter := iw (by omega) (by omega)
  have hn := heap_alloc_new W (.cells #[.int .i64 3, .int .i64 cpu, .int .i64 n, .int .i64 id, .int .i64 tc, .int .i64 ts, .int .i64 th, .bool tl] 33)
  have hp := (Below.heap_alloc W (.cells #[.int .i64 3, .int .i64 cpu, .int .i64 n, .int .i64 id, .int .i64 tc, .int .i64 ts, .int .i64 th, .bool tl] 33) pb hl).trans h
  have HG : Hid (GF (fun x => x = pb) W (W.alloc (.cells #[.int .i64 3, .int .i64 cpu, .int .i64 n, .int .i64 id, .int .i64 tc, .int .i64 ts, .int .i64 th, .bool tl] 33))) := Lib.hid (gf_alloc (gf_refl _ W) _)
  have hne : ¬ pb = W.heap.size := by omega
  have hne' : ¬ W.heap.size = pb := by omega
  clear h hl
  go_enter Tryz.func8, Tryz.ntmps8
  go_wp2_with fail
  obtain ⟨W1, hW1⟩ : ∃ W1, W.alloc (.cells #[.int .i64 3, .int .i64 cpu, .int .i64 n, .int .i64 id, .int .i64 tc, .int .i64 ts, .int .i64 th, .bool tl] 33) = W1 := ⟨_, rfl⟩
  rw [hW1] at hn hp HG ⊢
  obtain ⟨b, hb⟩ : ∃ b, W.heap.size = b := ⟨_, rfl⟩
  rw [hb] at hn hne hne' ⊢
  have HP := Lib.hid hp
  obtain ⟨⟨p0, p0f⟩, ⟨p1, p1f⟩, ⟨p2, p2f⟩, ⟨p3, p3f⟩, ⟨p4, p4f⟩, ⟨p5, p5f⟩, p6, p6f⟩ := cells7 hp
  have b2 := (cell_of hn 2 _ rfl).1
  clear hW1 hb hn hp
  go_quiet (fail)
  go_wp2_with fail
  exact bodyPost_ret (results_none rfl _ _ _) rfl ⟨rfl, HP.out, gf_drewN HG.out _⟩
set_option maxRecDepth 100000 in
set_option maxHeartbeats 4000000 in
theorem pd_3asl (cpu n id tc ts th : Int) (tl : Bool) (counter mono slept o0 o1 o2 : Int) (W : World) (h : W.heap[pb]? = some (.cells #[.int .i64 counter, .int .i64 mono, .int .i64 slept, .int .i64 o0, .int .i64 o1, .int .i64 o2, .bool true] 29)) (h0 : ¬ n < 0) (hc : 0 ≤ counter ∧ counter ≤ 1152921504606846976) (hs : 0 ≤ slept ∧ slept ≤ 1152921504606846976) (h1 : ¬ 1152921504606846976 - counter < n) :
    Calls Tryz.prog 8 #[ptr pb, .agg #[.int .i64 3, .int .i64 cpu, .int .i64 n, .int .i64 id, .int .i64 tc, .int .i64 ts, .int .i64 th, .bool tl]] W fun e W' => e = .returned (.tuple #[]) ∧ W'.heap[pb]? = some (.cells #[.int .i64 (counter + n), .int .i64 mono, .int .i64 (slept + n), .int .i64 o0, .int .i64 o1, .int .i64 o2, .bool true] 29) ∧ GF (fun x => x = pb) W W' := by
  have hl := (Array.getElem?_eq_some_iff.1 h).1
  obtain ⟨hc0, hc1⟩ := hc
  obtain ⟨hs0, hs1⟩ := hs
  have w1 : IntKind.i64.wrap (1152921504606846976 - counter) = 1152921504606846976 - counter := iw (by omega) (by omega)
  have w2 : IntKind.i64.wrap (counter + n) = counter + n := iw (by omega) (by omega)
  have w3 : IntKind.i64.wrap (slept + n) = slept + n := iw (by omega) (by omega)
  have hn := heap_alloc_new W (.cells #[.int .i64 3, .int .i64 cpu, .int .i64 n, .int .i64 id, .int .i64 tc, .int .i64 ts, .int .i64 th, .bool tl] 33)
  have hp := (Below.heap_alloc W (.cells #[.int .i64 3, .int .i64 cpu, .int .i64 n, .int .i64 id, .int .i64 tc, .int .i64 ts, .int .i64 th, .bool tl] 33) pb hl).trans h
  have HG : Hid (GF (fun x => x = pb) W (W.alloc (.cells #[.int .i64 3, .int .i64 cpu, .int .i64 n, .int .i64 id, .int .i64 tc, .int .i64 ts, .int .i64 th, .bool tl] 33))) := Lib.hid (gf_alloc (gf_refl _ W) _)
  have hne : ¬ pb = W.heap.size := by omega
  have hne' : ¬ W.heap.size = pb := by omega
  clear h hl
  go_enter Tryz.func8, Tryz.ntmps8
  go_wp2_with fail
  obtain ⟨W1, hW1⟩ : ∃ W1, W.alloc (.cells #[.int .i64 3, .int .i64 cpu, .int .i64 n, .int .i64 id, .int .i64 tc, .int .i64 ts, .int .i64 th, .bool tl] 33) = W1 := ⟨_, rfl⟩
  rw [hW1] at hn hp HG ⊢
  obtain ⟨b, hb⟩ : ∃ b, W.heap.size = b := ⟨_, rfl⟩
  rw [hb] at hn hne hne' ⊢
  have HP := Lib.hid hp
  obtain ⟨⟨p0, p0f⟩, ⟨p1, p1f⟩, ⟨p2, p2f⟩, ⟨p3, p3f⟩, ⟨p4, p4f⟩, ⟨p5, p5f⟩, p6, p6f⟩ := cells7 hp
  have b2 := (cell_of hn 2 _ rfl).1
  clear hW1 hb hn hp
  go_quiet (fail)
  go_wp2_with fail
  go_region
  go_wp2_with fail
  go_region
  go_wp2_with fail
  have hq := pset7 (W := W1.setCell ⟨pb, 0, none⟩ (.int .i64 (counter + n))) (pset7 HP.out 0 _) 2 (.int .i64 (slept + n))
  have hg : GF (fun x => x = pb) W (((W1.drewN (nq + 1)).setCell ⟨pb, 0, none⟩ (.int .i64 (counter + n))).setCell ⟨pb, 2, none⟩ (.int .i64 (slept + n))).drew := gf_drew (gf_set (p := ⟨pb, 2, none⟩) (gf_set (p := ⟨pb, 0, none⟩) (gf_drewN HG.out _) (.inl rfl) _) (.inl rfl) _)
  exact bodyPost_end (results_none rfl _ _ _) rfl ⟨rfl, hq, hg⟩
set_option maxRecDepth 100000 in
set_option maxHeartbeats 4000000 in
theorem pd_3awk (cpu n id tc ts th : Int) (tl : Bool) (counter mono slept o0 o1 o2 : Int) (W : World) (h : W.heap[pb]? = some (.cells #[.int .i64 counter, .int .i64 mono, .int .i64 slept, .int .i64 o0, .int .i64 o1, .int .i64 o2, .bool false] 29)) (h0 : ¬ n < 0) (hc : 0 ≤ counter ∧ counter ≤ 1152921504606846976) (hs : 0 ≤ mono ∧ mono ≤ 1152921504606846976) (h1 : ¬ 1152921504606846976 - counter < n) :
    Calls Tryz.prog 8 #[ptr pb, .agg #[.int .i64 3, .int .i64 cpu, .int .i64 n, .int .i64 id, .int .i64 tc, .int .i64 ts, .int .i64 th, .bool tl]] W fun e W' => e = .returned (.tuple #[]) ∧ W'.heap[pb]? = some (.cells #[.int .i64 (counter + n), .int .i64 (mono + n), .int .i64 slept, .int .i64 o0, .int .i64 o1, .int .i64 o2, .bool false] 29) ∧ GF (fun x => x = pb) W W' := by
  have hl := (Array.getElem?_eq_some_iff.1 h).1
  obtain ⟨hc0, hc1⟩ := hc
  obtain ⟨hs0, hs1⟩ := hs
  have w1 : IntKind.i64.wrap (1152921504606846976 - counter) = 1152921504606846976 - counter := iw (by omega) (by omega)
  have w2 : IntKind.i64.wrap (counter + n) = counter + n := iw (by omega) (by omega)
  have w3 : IntKind.i64.wrap (mono + n) = mono + n := iw (by omega) (by omega)
  have hn := heap_alloc_new W (.cells #[.int .i64 3, .int .i64 cpu, .int .i64 n, .int .i64 id, .int .i64 tc, .int .i64 ts, .int .i64 th, .bool tl] 33)
  have hp := (Below.heap_alloc W (.cells #[.int .i64 3, .int .i64 cpu, .int .i64 n, .int .i64 id, .int .i64 tc, .int .i64 ts, .int .i64 th, .bool tl] 33) pb hl).trans h
  have HG : Hid (GF (fun x => x = pb) W (W.alloc (.cells #[.int .i64 3, .int .i64 cpu, .int .i64 n, .int .i64 id, .int .i64 tc, .int .i64 ts, .int .i64 th, .bool tl] 33))) := Lib.hid (gf_alloc (gf_refl _ W) _)
  have hne : ¬ pb = W.heap.size := by omega
  have hne' : ¬ W.heap.size = pb := by omega
  clear h hl
  go_enter Tryz.func8, Tryz.ntmps8
  go_wp2_with fail
  obtain ⟨W1, hW1⟩ : ∃ W1, W.alloc (.cells #[.int .i64 3, .int .i64 cpu, .int .i64 n, .int .i64 id, .int .i64 tc, .int .i64 ts, .int .i64 th, .bool tl] 33) = W1 := ⟨_, rfl⟩
  rw [hW1] at hn hp HG ⊢
  obtain ⟨b, hb⟩ : ∃ b, W.heap.size = b := ⟨_, rfl⟩
  rw [hb] at hn hne hne' ⊢
  have HP := Lib.hid hp
  obtain ⟨⟨p0, p0f⟩, ⟨p1, p1f⟩, ⟨p2, p2f⟩, ⟨p3, p3f⟩, ⟨p4, p4f⟩, ⟨p5, p5f⟩, p6, p6f⟩ := cells7 hp
  have b2 := (cell_of hn 2 _ rfl).1
  clear hW1 hb hn hp
  go_quiet (fail)
  go_wp2_with fail
  go_region
  go_wp2_with fail
  go_region
  go_wp2_with fail
  have hq := pset7 (W := W1.setCell ⟨pb, 0, none⟩ (.int .i64 (counter + n))) (pset7 HP.out 0 _) 1 (.int .i64 (mono + n))
  have hg : GF (fun x => x = pb) W (((W1.drewN (nq + 1)).setCell ⟨pb, 0, none⟩ (.int .i64 (counter + n))).setCell ⟨pb, 1, none⟩ (.int .i64 (mono + n))).drew := gf_drew (gf_set (p := ⟨pb, 1, none⟩) (gf_set (p := ⟨pb, 0, none⟩) (gf_drewN HG.out _) (.inl rfl) _) (.inl rfl) _)
  exact bodyPost_end (results_none rfl _ _ _) rfl ⟨rfl, hq, hg⟩
set_option maxRecDepth 100000 in
set_option maxHeartbeats 4000000 in
theorem pd_7lo (asleep : Bool) (cpu n id tc ts th : Int) (tl : Bool) (counter mono slept o0 o1 o2 : Int) (W : World) (h : W.heap[pb]? = some (.cells #[.int .i64 counter, .int .i64 mono, .int .i64 slept, .int .i64 o0, .int .i64 o1, .int .i64 o2, .bool asleep] 29)) (h0 : ¬ 0 ≤ n) :
    Calls Tryz.prog 8 #[ptr pb, .agg #[.int .i64 7, .int .i64 cpu, .int .i64 n, .int .i64 id, .int .i64 tc, .int .i64 ts, .int .i64 th, .bool tl]] W fun e W' => e = .returned (.tuple #[]) ∧ W'.heap[pb]? = some (.cells #[.int .i64 counter, .int .i64 mono, .int .i64 slept, .int .i64 o0, .int .i64 o1, .int .i64 o2, .bool asleep] 29) ∧ GF (fun x => x = pb) W W' := by
  have hl := (Array.getElem?_eq_some_iff.1 h).1
  have hn := heap_alloc_new W (.cells #[.int .i64 7, .int .i64 cpu, .int .i64 n, .int .i64 id, .int .i64 tc, .int .i64 ts, .int .i64 th, .bool tl] 33)
  have hp := (Below.heap_alloc W (.cells #[.int .i64 7, .int .i64 cpu, .int .i64 n, .int .i64 id, .int .i64 tc, .int .i64 ts, .int .i64 th, .bool tl] 33) pb hl).trans h
  have HG : Hid (GF (fun x => x = pb) W (W.alloc (.cells #[.int .i64 7, .int .i64 cpu, .int .i64 n, .int .i64 id, .int .i64 tc, .int .i64 ts, .int .i64 th, .bool tl] 33))) := Lib.hid (gf_alloc (gf_refl _ W) _)
  have hne : ¬ pb = W.heap.size := by omega
  have hne' : ¬ W.heap.size = pb := by omega
  clear h hl
  go_enter Tryz.func8, Tryz.ntmps8
  go_wp2_with fail
  obtain ⟨W1, hW1⟩ : ∃ W1, W.alloc (.cells #[.int .i64 7, .int .i64 cpu, .int .i64 n, .int .i64 id, .int .i64 tc, .int .i64 ts, .int .i64 th, .bool tl] 33) = W1 := ⟨_, rfl⟩
  rw [hW1] at hn hp HG ⊢
  obtain ⟨b, hb⟩ : ∃ b, W.heap.size = b := ⟨_, rfl⟩
  rw [hb] at hn hne hne' ⊢
  have HP := Lib.hid hp
  obtain ⟨⟨p0, p0f⟩, ⟨p1, p1f⟩, ⟨p2, p2f⟩, ⟨p3, p3f⟩, ⟨p4, p4f⟩, ⟨p5, p5f⟩, p6, p6f⟩ := cells7 hp
  have b2 := (cell_of hn 2 _ rfl).1
  clear hW1 hb hn hp
  go_wp2_with fail
  exact bodyPost_end (results_none rfl _ _ _) rfl ⟨rfl, HP.out, HG.out⟩
set_option maxRecDepth 100000 in
set_option maxHeartbeats 4000000 in
theorem pd_7hi (asleep : Bool) (cpu n id tc ts th : Int) (tl : Bool) (counter mono slept o0 o1 o2 : Int) (W : World) (h : W.heap[pb]? = some (.cells #[.int .i64 counter, .int .i64 mono, .int .i64 slept, .int .i64 o0, .int .i64 o1, .int .i64 o2, .bool asleep] 29)) (h0 : 0 ≤ n) (h1 : ¬ n ≤ 1152921504606846976) :
    Calls Tryz.prog 8 #[ptr pb, .agg #[.int .i64 7, .int .i64 cpu, .int .i64 n, .int .i64 id, .int .i64 tc, .int .i64 ts, .int .i64 th, .bool tl]] W fun e W' => e = .returned (.tuple #[]) ∧ W'.heap[pb]? = some (.cells #[.int .i64 counter, .int .i64 mono, .int .i64 slept, .int .i64 o0, .int .i64 o1, .int .i64 o2, .bool asleep] 29) ∧ GF (fun x => x = pb) W W' := by
  have hl := (Array.getElem?_eq_some_iff.1 h).1
  have hn := heap_alloc_new W (.cells #[.int .i64 7, .int .i64 cpu, .int .i64 n, .int .i64 id, .int .i64 tc, .int .i64 ts, .int .i64 th, .bool tl] 33)
  have hp := (Below.heap_alloc W (.cells #[.int .i64 7, .int .i64 cpu, .int .i64 n, .int .i64 id, .int .i64 tc, .int .i64 ts, .int .i64 th, .bool tl] 33) pb hl).trans h
  have HG : Hid (GF (fun x => x = pb) W (W.alloc (.cells #[.int .i64 7, .int .i64 cpu, .int .i64 n, .int .i64 id, .int .i64 tc, .int .i64 ts, .int .i64 th, .bool tl] 33))) := Lib.hid (gf_alloc (gf_refl _ W) _)
  have hne : ¬ pb = W.heap.size := by omega
  have hne' : ¬ W.heap.size = pb := by omega
  clear h hl
  go_enter Tryz.func8, Tryz.ntmps8
  go_wp2_with fail
  obtain ⟨W1, hW1⟩ : ∃ W1, W.alloc (.cells #[.int .i64 7, .int .i64 cpu, .int .i64 n, .int .i64 id, .int .i64 tc, .int .i64 ts, .int .i64 th, .bool tl] 33) = W1 := ⟨_, rfl⟩
  rw [hW1] at hn hp HG ⊢
  obtain ⟨b, hb⟩ : ∃ b, W.heap.size = b := ⟨_, rfl⟩
  rw [hb] at hn hne hne' ⊢
  have HP := Lib.hid hp
  obtain ⟨⟨p0, p0f⟩, ⟨p1, p1f⟩, ⟨p2, p2f⟩, ⟨p3, p3f⟩, ⟨p4, p4f⟩, ⟨p5, p5f⟩, p6, p6f⟩ := cells7 hp
  have b2 := (cell_of hn 2 _ rfl).1
  clear hW1 hb hn hp
  go_wp2_with fail
  exact bodyPost_end (results_none rfl _ _ _) rfl ⟨rfl, HP.out, HG.out⟩
set_option maxRecDepth 100000 in
set_option maxHeartbeats 4000000 in
theorem pd_7 (asleep : Bool) (cpu n id tc ts th : Int) (tl : Bool) (counter mono slept o0 o1 o2 : Int) (W : World) (h : W.heap[pb]? = some (.cells #[.int .i64 counter, .int .i64 mono, .int .i64 slept, .int .i64 o0, .int .i64 o1, .int .i64 o2, .bool asleep] 29)) (h0 : 0 ≤ n) (h1 : n ≤ 1152921504606846976) (hm : 0 ≤ mono ∧ mono ≤ 1152921504606846976) :
    Calls Tryz.prog 8 #[ptr pb, .agg #[.int .i64 7, .int .i64 cpu, .int .i64 n, .int .i64 id, .int .i64 tc, .int .i64 ts, .int .i64 th, .bool tl]] W fun e W' => e = .returned (.tuple #[]) ∧ W'.heap[pb]? = some (.cells #[.int .i64 counter, .int .i64 mono, .int .i64 slept, .int .i64 o0, .int .i64 (n - mono), .int .i64 o2, .bool asleep] 29) ∧ GF (fun x => x = pb) W W' := by
  have hl := (Array.getElem?_eq_some_iff.1 h).1
  obtain ⟨hm0, hm1⟩ := hm
  have w1 : IntKind.i64.wrap (n - mono) = n - mono := iw (by omega) (by omega)
  have hn := heap_alloc_new W (.cells #[.int .i64 7, .int .i64 cpu, .int .i64 n, .int .i64 id, .int .i64 tc, .int .i64 ts, .int .i64 th, .bool tl] 33)
  have hp := (Below.heap_alloc W (.cells #[.int .i64 7, .int .i64 cpu, .int .i64 n, .int .i64 id, .int .i64 tc, .int .i64 ts, .int .i64 th, .bool tl] 33) pb hl).trans h
  have HG : Hid (GF (fun x => x = pb) W (W.alloc (.cells #[.int .i64 7, .int .i64 cpu, .int .i64 n, .int .i64 id, .int .i64 tc, .int .i64 ts, .int .i64 th, .bool tl] 33))) := Lib.hid (gf_alloc (gf_refl _ W) _)
  have hne : ¬ pb = W.heap.size := by omega
  have hne' : ¬ W.heap.size = pb := by omega
  clear h hl
  go_enter Tryz.func8, Tryz.ntmps8
  go_wp2_with fail
  obtain ⟨W1, hW1⟩ : ∃ W1, W.alloc (.cells #[.int .i64 7, .int .i64 cpu, .int .i64 n, .int .i64 id, .int .i64 tc, .int .i64 ts, .int .i64 th, .bool tl] 33) = W1 := ⟨_, rfl⟩
  rw [hW1] at hn hp HG ⊢
  obtain ⟨b, hb⟩ : ∃ b, W.heap.size = b := ⟨_, rfl⟩
  rw [hb] at hn hne hne' ⊢
  have HP := Lib.hid hp
  obtain ⟨⟨p0, p0f⟩, ⟨p1, p1f⟩, ⟨p2, p2f⟩, ⟨p3, p3f⟩, ⟨p4, p4f⟩, ⟨p5, p5f⟩, p6, p6f⟩ := cells7 hp
  have b2 := (cell_of hn 2 _ rfl).1
  clear hW1 hb hn hp
  go_wp2_with fail
  go_region
  go_wp2_with fail
  have hq := pset7 HP.out 4 (.int .i64 (n - mono))
  exact bodyPost_end (results_none rfl _ _ _) rfl ⟨rfl, hq, gf_drew (gf_set (p := ⟨pb, 4, none⟩) HG.out (.inl rfl) _)⟩
set_option maxRecDepth 100000 in
set_option maxHeartbeats 4000000 in
theorem pd_8no (cpu n id tc ts th : Int) (tl : Bool) (counter mono slept o0 o1 o2 : Int) (W : World) (h : W.heap[pb]? = some (.cells #[.int .i64 counter, .int .i64 mono, .int .i64 slept, .int .i64 o0, .int .i64 o1, .int .i64 o2, .bool true] 29))  :
    Calls Tryz.prog 8 #[ptr pb, .agg #[.int .i64 8, .int .i64 cpu, .int .i64 n, .int .i64 id, .int .i64 tc, .int .i64 ts, .int .i64 th, .bool tl]] W fun e W' => e = .returned (.tuple #[]) ∧ W'.heap[pb]? = some (.cells #[.int .i64 counter, .int .i64 mono, .int .i64 slept, .int .i64 o0, .int .i64 o1, .int .i64 o2, .bool true] 29) ∧ GF (fun x => x = pb) W W' := by
  have hl := (Array.getElem?_eq_some_iff.1 h).1
  have hp := (Below.heap_alloc W (.cells #[.int .i64 8, .int .i64 cpu, .int .i64 n, .int .i64 id, .int .i64 tc, .int .i64 ts, .int .i64 th, .bool tl] 33) pb hl).trans h
  have HG : Hid (GF (fun x => x = pb) W (W.alloc (.cells #[.int .i64 8, .int .i64 cpu, .int .i64 n, .int .i64 id, .int .i64 tc, .int .i64 ts, .int .i64 th, .bool tl] 33))) := Lib.hid (gf_alloc (gf_refl _ W) _)
  have hne : ¬ pb = W.heap.size := by omega
  have hne' : ¬ W.heap.size = pb := by omega
  have HP := Lib.hid hp
  obtain ⟨⟨p0, p0f⟩, ⟨p1, p1f⟩, ⟨p2, p2f⟩, ⟨p3, p3f⟩, ⟨p4, p4f⟩, ⟨p5, p5f⟩, p6, p6f⟩ := cells7 hp
  clear h hl hp
  go_enter Tryz.func8, Tryz.ntmps8
  go_wp2_with fail
  exact bodyPost_end (results_none rfl _ _ _) rfl ⟨rfl, HP.out, HG.out⟩
set_option maxRecDepth 100000 in
set_option maxHeartbeats 4000000 in
theorem pd_8 (cpu n id tc ts th : Int) (tl : Bool) (counter mono slept o0 o1 o2 : Int) (W : World) (h : W.heap[pb]? = some (.cells #[.int .i64 counter, .int .i64 mono, .int .i64 slept, .int .i64 o0, .int .i64 o1, .int .i64 o2, .bool false] 29))  :
    Calls Tryz.prog 8 #[ptr pb, .agg #[.int .i64 8, .int .i64 cpu, .int .i64 n, .int .i64 id, .int .i64 tc, .int .i64 ts, .int .i64 th, .bool tl]] W fun e W' => e = .returned (.tuple #[]) ∧ W'.heap[pb]? = some (.cells #[.int .i64 counter, .int .i64 mono, .int .i64 0, .int .i64 o0, .int .i64 o1, .int .i64 o2, .bool true] 29) ∧ GF (fun x => x = pb) W W' := by
  have hl := (Array.getElem?_eq_some_iff.1 h).1
  have hp := (Below.heap_alloc W (.cells #[.int .i64 8, .int .i64 cpu, .int .i64 n, .int .i64 id, .int .i64 tc, .int .i64 ts, .int .i64 th, .bool tl] 33) pb hl).trans h
  have HG : Hid (GF (fun x => x = pb) W (W.alloc (.cells #[.int .i64 8, .int .i64 cpu, .int .i64 n, .int .i64 id, .int .i64 tc, .int .i64 ts, .int .i64 th, .bool tl] 33))) := Lib.hid (gf_alloc (gf_refl _ W) _)
  have hne : ¬ pb = W.heap.size := by omega
  have hne' : ¬ W.heap.size = pb := by omega
  have HP := Lib.hid hp
  obtain ⟨⟨p0, p0f⟩, ⟨p1, p1f⟩, ⟨p2, p2f⟩, ⟨p3, p3f⟩, ⟨p4, p4f⟩, ⟨p5, p5f⟩, p6, p6f⟩ := cells7 hp
  clear h hl hp
  go_enter Tryz.func8, Tryz.ntmps8
  go_wp2_with fail
  have hq := pset7 (W := (W.alloc (.cells #[.int .i64 8, .int .i64 cpu, .int .i64 n, .int .i64 id, .int .i64 tc, .int .i64 ts, .int .i64 th, .bool tl] 33)).setCell ⟨pb, 6, none⟩ (.bool true)) (pset7 HP.out 6 _) 2 (.int .i64 0)
  exact bodyPost_end (results_none rfl _ _ _) rfl ⟨rfl, hq, gf_set (p := ⟨pb, 2, none⟩) (gf_set (p := ⟨pb, 6, none⟩) HG.out (.inl rfl) _) (.inl rfl) _⟩
set_option maxRecDepth 100000 in
set_option maxHeartbeats 4000000 in
theorem pd_9no (cpu n id tc ts th : Int) (tl : Bool) (counter mono slept o0 o1 o2 : Int) (W : World) (h : W.heap[pb]? = some (.cells #[.int .i64 counter, .int .i64 mono, .int .i64 slept, .int .i64 o0, .int .i64 o1, .int .i64 o2, .bool false] 29))  :
    Calls Tryz.prog 8 #[ptr pb, .agg #[.int .i64 9, .int .i64 cpu, .int .i64 n, .int .i64 id, .int .i64 tc, .int .i64 ts, .int .i64 th, .bool tl]] W fun e W' => e = .returned (.tuple #[]) ∧ W'.heap[pb]? = some (.cells #[.int .i64 counter, .int .i64 mono, .int .i64 slept, .int .i64 o0, .int .i64 o1, .int .i64 o2, .bool false] 29) ∧ GF (fun x => x = pb) W W' := by
  have hl := (Array.getElem?_eq_some_iff.1 h).1
  have hp := (Below.heap_alloc W (.cells #[.int .i64 9, .int .i64 cpu, .int .i64 n, .int .i64 id, .int .i64 tc, .int .i64 ts, .int .i64 th, .bool tl] 33) pb hl).trans h
  have HG : Hid (GF (fun x => x = pb) W (W.alloc (.cells #[.int .i64 9, .int .i64 cpu, .int .i64 n, .int .i64 id, .int .i64 tc, .int .i64 ts, .int .i64 th, .bool tl] 33))) := Lib.hid (gf_alloc (gf_refl _ W) _)
  have hne : ¬ pb = W.heap.size := by omega
  have hne' : ¬ W.heap.size = pb := by omega
  have HP := Lib.hid hp
  obtain ⟨⟨p0, p0f⟩, ⟨p1, p1f⟩, ⟨p2, p2f⟩, ⟨p3, p3f⟩, ⟨p4, p4f⟩, ⟨p5, p5f⟩, p6, p6f⟩ := cells7 hp
  clear h hl hp
  go_enter Tryz.func8, Tryz.ntmps8
  go_wp2_with fail
  exact bodyPost_end (results_none rfl _ _ _) rfl ⟨rfl, HP.out, HG.out⟩
set_option maxRecDepth 100000 in
set_option maxHeartbeats 4000000 in
theorem pd_9 (cpu n id tc ts th : Int) (tl : Bool) (counter mono slept o0 o1 o2 : Int) (W : World) (h : W.heap[pb]? = some (.cells #[.int .i64 counter, .int .i64 mono, .int .i64 slept, .int .i64 o0, .int .i64 o1, .int .i64 o2, .bool true] 29)) (hs : 0 ≤ slept ∧ slept ≤ 1152921504606846976) (h1 : -3000000000000000000 ≤ o1 ∧ o1 ≤ 3000000000000000000) (h2 : 0 ≤ o2 ∧ o2 ≤ 1152921504606846976) :
    Calls Tryz.prog 8 #[ptr pb, .agg #[.int .i64 9, .int .i64 cpu, .int .i64 n, .int .i64 id, .int .i64 tc, .int .i64 ts, .int .i64 th, .bool tl]] W fun e W' => e = .returned (.tuple #[]) ∧ W'.heap[pb]? = some (.cells #[.int .i64 counter, .int .i64 mono, .int .i64 slept, .int .i64 o0, .int .i64 (o1 + slept), .int .i64 (o2 + slept), .bool false] 29) ∧ GF (fun x => x = pb) W W' := by
  have hl := (Array.getElem?_eq_some_iff.1 h).1
  obtain ⟨hs0, hs1⟩ := hs
  obtain ⟨h10, h11⟩ := h1
  obtain ⟨h20, h21⟩ := h2
  have w1 : IntKind.i64.wrap (o1 + slept) = o1 + slept := iw (by omega) (by omega)
  have w2 : IntKind.i64.wrap (o2 + slept) = o2 + slept := iw (by omega) (by omega)
  have hp := (Below.heap_alloc W (.cells #[.int .i64 9, .int .i64 cpu, .int .i64 n, .int .i64 id, .int .i64 tc, .int .i64 ts, .int .i64 th, .bool tl] 33) pb hl).trans h
  have HG : Hid (GF (fun x => x = pb) W (W.alloc (.cells #[.int .i64 9, .int .i64 cpu, .int .i64 n, .int .i64 id, .int .i64 tc, .int .i64 ts, .int .i64 th, .bool tl] 33))) := Lib.hid (gf_alloc (gf_refl _ W) _)
  have hne : ¬ pb = W.heap.size := by omega
  have hne' : ¬ W.heap.size = pb := by omega
  have HP := Lib.hid hp
  obtain ⟨⟨p0, p0f⟩, ⟨p1, p1f⟩, ⟨p2, p2f⟩, ⟨p3, p3f⟩, ⟨p4, p4f⟩, ⟨p5, p5f⟩, p6, p6f⟩ := cells7 hp
  clear h hl hp
  go_enter Tryz.func8, Tryz.ntmps8
  go_wp2_with fail
  go_region
  go_wp2_with fail
  go_region
  go_wp2_with fail
  have hq := pset7 (W := ((W.alloc (.cells #[.int .i64 9, .int .i64 cpu, .int .i64 n, .int .i64 id, .int .i64 tc, .int .i64 ts, .int .i64 th, .bool tl] 33)).setCell ⟨pb, 6, none⟩ (.bool false)).setCell ⟨pb, 4, none⟩ (.int .i64 (o1 + slept))) (pset7 (W := (W.alloc (.cells #[.int .i64 9, .int .i64 cpu, .int .i64 n, .int .i64 id, .int .i64 tc, .int .i64 ts, .int .i64 th, .bool tl] 33)).setCell ⟨pb, 6, none⟩ (.bool false)) (pset7 HP.out 6 _) 4 _) 5 (.int .i64 (o2 + slept))
  exact bodyPost_end (results_none rfl _ _ _) rfl ⟨rfl, hq, gf_drew (gf_drew (gf_set (p := ⟨pb, 5, none⟩) (gf_set (p := ⟨pb, 4, none⟩) (gf_set (p := ⟨pb, 6, none⟩) HG.out (.inl rfl) _) (.inl rfl) _) (.inl rfl) _))⟩
set_option maxRecDepth 100000 in
set_option maxHeartbeats 4000000 in
theorem pd_x (k : Int) (asleep : Bool) (cpu n id tc ts th : Int) (tl : Bool) (counter mono slept o0 o1 o2 : Int) (W : World) (h : W.heap[pb]? = some (.cells #[.int .i64 counter, .int .i64 mono, .int .i64 slept, .int .i64 o0, .int .i64 o1, .int .i64 o2, .bool asleep] 29)) (hk : ¬ k = 3 ∧ ¬ k = 7 ∧ ¬ k = 8 ∧ ¬ k = 9) :
    Calls Tryz.prog 8 #[ptr pb, .agg #[.int .i64 k, .int .i64 cpu, .int .i64 n, .int .i64 id, .int .i64 tc, .int .i64 ts, .int .i64 th, .bool tl]] W fun e W' => e = .returned (.tuple #[]) ∧ W'.heap[pb]? = some (.cells #[.int .i64 counter, .int .i64 mono, .int .i64 slept, .int .i64 o0, .int .i64 o1, .int .i64 o2, .bool asleep] 29) ∧ GF (fun x => x = pb) W W' := by
  have hl := (Array.getElem?_eq_some_iff.1 h).1
  obtain ⟨k3, k7, k8, k9⟩ := hk
  have hn := heap_alloc_new W (.cells #[.int .i64 k, .int .i64 cpu, .int .i64 n, .int .i64 id, .int .i64 tc, .int .i64 ts, .int .i64 th, .bool tl] 33)
  have hp := (Below.heap_alloc W (.cells #[.int .i64 k, .int .i64 cpu, .int .i64 n, .int .i64 id, .int .i64 tc, .int .i64 ts, .int .i64 th, .bool tl] 33) pb hl).trans h
  have HG : Hid (GF (fun x => x = pb) W (W.alloc (.cells #[.int .i64 k, .int .i64 cpu, .int .i64 n, .int .i64 id, .int .i64 tc, .int .i64 ts, .int .i64 th, .bool tl] 33))) := Lib.hid (gf_alloc (gf_refl _ W) _)
  have hne : ¬ pb = W.heap.size := by omega
  have hne' : ¬ W.heap.size = pb := by omega
  clear h hl
  go_enter Tryz.func8, Tryz.ntmps8
  go_wp2_with fail
  obtain ⟨W1, hW1⟩ : ∃ W1, W.alloc (.cells #[.int .i64 k, .int .i64 cpu, .int .i64 n, .int .i64 id, .int .i64 tc, .int .i64 ts, .int .i64 th, .bool tl] 33) = W1 := ⟨_, rfl⟩
  rw [hW1] at hn hp HG ⊢
  obtain ⟨b, hb⟩ : ∃ b, W.heap.size = b := ⟨_, rfl⟩
  rw [hb] at hn hne hne' ⊢
  have HP := Lib.hid hp
  obtain ⟨⟨p0, p0f⟩, ⟨p1, p1f⟩, ⟨p2, p2f⟩, ⟨p3, p3f⟩, ⟨p4, p4f⟩, ⟨p5, p5f⟩, p6, p6f⟩ := cells7 hp
  have b2 := (cell_of hn 2 _ rfl).1
  clear hW1 hb hn hp
  go_wp2_with fail
  exact bodyPost_end (results_none rfl _ _ _) rfl ⟨rfl, HP.out, HG.out⟩
theorem plaindo_at {K : Ck} (s : St) (W : World) (h : W.heap[pb]? = some (.cells K.pl 29)) (hok : K.ok) : Calls Tryz.prog 8 #[ptr pb, stv s] W fun e W' => e = .returned (.tuple #[]) ∧ W'.heap[pb]? = some (.cells (K.stp s).pl 29) ∧ GF (fun x => x = pb) W W' := by
  obtain ⟨kd, cpu, n, id, tc, ts, th, tl⟩ := s
  obtain ⟨hm, hc, hz, hb0, hs, ht, hr, hq, -⟩ := hok
  obtain ⟨counter, mono, o0, o1, o2, asleep, slept, gen⟩ := K
  dsimp only at *
  have hcc : 0 ≤ counter := by split at ht <;> omega
  have hmc : mono ≤ 1152921504606846976 := by split at ht <;> omega
  have hoc : o2 ≤ 1152921504606846976 := by split at ht <;> omega
  unfold Ck.stp
  dsimp only
  by_cases k3 : kd = 3
  · subst k3
    rw [if_pos rfl]
    unfold Ck.adv Ck.bad
    dsimp only
    by_cases h0 : n < 0
    · rw [if_pos (by simp [h0])]
      exact pd_3neg asleep cpu n id tc ts th tl counter mono slept o0 o1 o2 W h h0
    · by_cases h1 : 1152921504606846976 - counter < n
      · rw [if_pos (by simp [h1])]
        exact pd_3big asleep cpu n id tc ts th tl counter mono slept o0 o1 o2 W h h0 ⟨hcc, hc⟩ h1
      · rw [if_neg (by simp; omega)]
        cases asleep with
        | true => exact pd_3asl cpu n id tc ts th tl counter mono slept o0 o1 o2 W h h0 ⟨hcc, hc⟩ ⟨hs, by omega⟩ h1
        | false => exact pd_3awk cpu n id tc ts th tl counter mono slept o0 o1 o2 W h h0 ⟨hcc, hc⟩ ⟨hm, hmc⟩ h1
  · rw [if_neg k3]
    by_cases k7 : kd = 7
    · subst k7
      rw [if_pos rfl]
      unfold Ck.set Ck.bads
      by_cases h0 : 0 ≤ n
      · by_cases h1 : n ≤ 1152921504606846976
        · rw [if_neg (by simp; omega)]
          unfold Ck.mv
          dsimp only
          by_cases hsame : o0 = o0 ∧ n - mono = o1 ∧ o2 = o2
          · rw [if_pos hsame]
            have := pd_7 asleep cpu n id tc ts th tl counter mono slept o0 o1 o2 W h h0 h1 ⟨hm, hmc⟩
            rw [hsame.2.1] at this
            exact this
          · rw [if_neg hsame]
            exact pd_7 asleep cpu n id tc ts th tl counter mono slept o0 o1 o2 W h h0 h1 ⟨hm, hmc⟩
        · rw [if_pos (by simp; omega)]
          exact pd_7hi asleep cpu n id tc ts th tl counter mono slept o0 o1 o2 W h h0 h1
      · rw [if_pos (by simp; omega)]
        exact pd_7lo asleep cpu n id tc ts th tl counter mono slept o0 o1 o2 W h h0
    · rw [if_neg k7]
      by_cases k8 : kd = 8
      · subst k8
        rw [if_pos rfl]
        unfold Ck.sus
        dsimp only
        cases asleep with
        | true =>
          rw [if_pos rfl]
          exact pd_8no cpu n id tc ts th tl counter mono slept o0 o1 o2 W h
        | false =>
          rw [if_neg (by decide)]
          exact pd_8 cpu n id tc ts th tl counter mono slept o0 o1 o2 W h
      · rw [if_neg k8]
        by_cases k9 : kd = 9
        · subst k9
          rw [if_pos rfl]
          unfold Ck.res
          dsimp only
          cases asleep with
          | true =>
            rw [if_pos rfl]
            have hp := pd_9 cpu n id tc ts th tl counter mono slept o0 o1 o2 W h ⟨hs, by omega⟩ ⟨by omega, by omega⟩ ⟨hb0, hoc⟩
            unfold Ck.mv
            dsimp only
            by_cases hsame : o0 = o0 ∧ o1 + slept = o1 ∧ o2 + slept = o2
            · rw [if_pos hsame]
              rw [hsame.2.1, hsame.2.2] at hp
              exact hp
            · rw [if_neg hsame]
              exact hp
          | false =>
            rw [if_neg (by decide)]
            exact pd_9no cpu n id tc ts th tl counter mono slept o0 o1 o2 W h
        · rw [if_neg k9]
          exact pd_x kd asleep cpu n id tc ts th tl counter mono slept o0 o1 o2 W h ⟨k3, k7, k8, k9⟩
end
end Go.Proofs.YtlcaepcojglbiaaGreatDoor.Tp
