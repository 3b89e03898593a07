import Derived.Test.YtapebhefbokcfaaWinSum
import Derived.Deep.OwnRows
namespace Go.Proofs.Ytapebhefbokcfaa.Win
open Go.RowKit Go.Proofs.Ytapebhefbokcfaa.DebW
set_option linter.unusedVariables false
set_option linter.unusedSimpArgs false
theorem atOf_idem {p a : Int} (now : Int) : atOf p (atOf p a now) now = atOf p a now := by unfold atOf; omega
set_option maxHeartbeats 4000000 in
set_option maxRecDepth 100000 in
theorem allow_w {b r : Nat} {p a : Int} {L : Nat} {S : Int → Int} (now n m : Int) (w : World) (h : WI b r p a L S w) (B : Bw p a L S) : Calls Try.prog 24 #[ptr b, .int .i64 now, .int .i64 n, .int .i64 m] w fun e w' => e = .returned (.bool (decide (psum S (atOf p a now) L L + min (max n 0) 1099511627776 ≤ m))) ∧ G2 b r w w' ∧ WI b r p (atOf p a now) L (if psum S (atOf p a now) L L + min (max n 0) 1099511627776 ≤ m then bump S (atOf p a now) (min (max n 0) 1099511627776) else S) w' := by
  have CS := Lib.hid (sum_w now w h B)
  have hB := bw_at B now
  have CA := Lib.hid (fun (W : World) (hW : WI b r p (atOf p a now) L S W) => add_w now n W hW hB)
  rw [atOf_idem] at CA
  have hps := psum_bd (atOf p a now) L L B.s
  have hL := B.l2
  obtain ⟨t, ht⟩ : ∃ t, atOf p a now = t := ⟨_, rfl⟩
  obtain ⟨c, hc⟩ : ∃ c, min (max n 0) 1099511627776 = c := ⟨_, rfl⟩
  rw [ht] at CS CA hps
  rw [hc] at CA
  rw [ht, hc]
  have hc0 : 0 ≤ c ∧ c ≤ 1099511627776 := by omega
  have CC := Lib.hid (fun w => (come_at n w).mono fun e w' (q : e = .returned (.int .i64 (min (max n 0) 1099511627776)) ∧ w = w') => (show e = .returned (.int .i64 c) ∧ w' = w from ⟨by rw [← hc]; exact q.1, q.2.symm⟩))
  obtain ⟨s, hs⟩ : ∃ s, psum S t L L = s := ⟨_, rfl⟩
  rw [hs] at CS hps ⊢
  have hw : IntKind.i64.wrap (s + c) = s + c := iw (by omega) (by omega)
  clear ht hc hs h B hB
  by_cases hm : s + c ≤ m
  all_goals
    simp only [hm, if_true, if_false, decide_true, decide_false]
    go_enter Try.func24, Try.ntmps24
    go_wp2_with (first | (go_at_call 21; refine (CS.out).mono ?_; rintro e w1 ⟨rfl, hg, hwi⟩; have HG := Lib.hid hg; have HW := Lib.hid hwi; clear hg hwi) | (go_at_call 37; refine (CC.out _).mono ?_; rintro e w2 ⟨rfl, rfl⟩) | (go_at_call 23; refine (CA.out _ HW.out).mono ?_; rintro e w3 ⟨rfl, hg, hwi⟩; have HG3 := Lib.hid hg; have HW3 := Lib.hid hwi; clear hg hwi) | fail)
    go_ret
    first
      | exact ⟨rfl, g2_trans HG.out HG3.out, HW3.out⟩
      | exact ⟨rfl, HG.out, HW.out⟩
def wok (wd pt : Int) : Prop := (1 ≤ wd ∧ wd ≤ 1099511627776) ∧ (1 ≤ pt ∧ pt ≤ 64) ∧ wd % pt = 0
theorem new_none (wd pt : Int) (h : ¬ wok wd pt) (w : World) : Calls Try.prog 18 #[.int .i64 wd, .int .i64 pt] w fun e w' => e = .returned (.pointer none) ∧ w = w' := by
  unfold wok at h
  rcases (show wd < 1 ∨ (1 ≤ wd ∧ 1099511627776 < wd) ∨ ((1 ≤ wd ∧ wd ≤ 1099511627776) ∧ pt < 1) ∨ ((1 ≤ wd ∧ wd ≤ 1099511627776) ∧ 1 ≤ pt ∧ 64 < pt) ∨ ((1 ≤ wd ∧ wd ≤ 1099511627776) ∧ (1 ≤ pt ∧ pt ≤ 64) ∧ wd % pt ≠ 0) by omega) with h1 | ⟨h0, h1⟩ | ⟨⟨h0, h0'⟩, h1⟩ | ⟨⟨h0, h0'⟩, h1, h2⟩ | ⟨⟨h0, h0'⟩, ⟨h1, h2⟩, h3⟩
  all_goals
    clear h
    try (have hz : ¬ pt = 0 := by omega
         have hq1 := Int.emod_nonneg wd (show pt ≠ 0 by omega)
         have hq2 := Int.emod_lt_of_pos wd (show 0 < pt by omega)
         have hw : IntKind.i64.wrap (wd.tmod pt) = wd % pt := by rw [Int.tmod_eq_emod_of_nonneg (by omega)]; exact iw (by omega) (by omega))
    go_enter Try.func18, Try.ntmps18
    go_wp2
    all_goals first
      | (go_ret; exact ⟨rfl, rfl⟩)
      | (exfalso; simp_all; done)
      | (exfalso; omega)
theorem new_below (w : World) (o o2 : Obj) : Below w.heap.size w ((w.alloc o).alloc o2).drew :=
  ⟨rfl, rfl, rfl, by simp; omega, fun k hk => (Below.heap_alloc (w.alloc o) o2 k (by simp; omega)).trans (Below.heap_alloc w o k hk)⟩
theorem cell_of {W : World} {b t : Nat} {c : Array Value} (h : W.heap[b]? = some (.cells c t)) (i : Nat) (v : Value) (hv : c[i]? = some v) : W.cell? ⟨b, i, none⟩ = some v ∧ W.frozen? ⟨b, i, none⟩ = false := by
  constructor
  · simp [World.cell?, h, hv]
  · simp [World.frozen?, h]
theorem new_ws (w : World) (p : Int) (L : Nat) : WS (w.heap.size + 1) w.heap.size p 0 L (fun _ => 0) ((w.alloc (.cells (madeCells #[.int .i64 0] L) 3)).alloc (.cells #[.int .i64 p, .int .i64 0, .slice (some ⟨w.heap.size, 0, none⟩) L L] 63)).drew := by
  have hrow := ((World.rowIs_made w (.int .i64 0) L 3).alloc (.cells #[.int .i64 p, .int .i64 0, .slice (some ⟨w.heap.size, 0, none⟩) L L] 63)).drew
  have hs : (w.alloc (.cells (madeCells #[.int .i64 0] L) 3)).heap.size = w.heap.size + 1 := by simp
  have hn := heap_alloc_new (w.alloc (.cells (madeCells #[.int .i64 0] L) 3)) (.cells #[.int .i64 p, .int .i64 0, .slice (some ⟨w.heap.size, 0, none⟩) L L] 63)
  rw [hs] at hn
  have hn' : (((w.alloc (.cells (madeCells #[.int .i64 0] L) 3)).alloc (.cells #[.int .i64 p, .int .i64 0, .slice (some ⟨w.heap.size, 0, none⟩) L L] 63)).drew).heap[w.heap.size + 1]? = some (.cells #[.int .i64 p, .int .i64 0, .slice (some ⟨w.heap.size, 0, none⟩) L L] 63) := hn
  refine ⟨(cell_of hn' 0 _ rfl).1, (cell_of hn' 1 _ rfl).1, (cell_of hn' 2 _ rfl).1, (cell_of hn' 1 _ rfl).2, fun j hj => hrow.cell hj, fun j hj => hrow.frozen j, ?_, ?_, by omega⟩
  · exact (Array.getElem?_eq_some_iff.1 hn').1
  · have := (Array.getElem?_eq_some_iff.1 hn').1
    omega
set_option maxHeartbeats 4000000 in
set_option maxRecDepth 100000 in
theorem new_at (wd : Int) (L : Nat) (h : wok wd L) (w : World) : Calls Try.prog 18 #[.int .i64 wd, .int .i64 L] w fun e w' => ∃ b r, e = .returned (ptr b) ∧ w.heap.size ≤ b ∧ w.heap.size ≤ r ∧ Below w.heap.size w w' ∧ WI b r (wd / L) 0 L (fun _ => 0) w' := by
  obtain ⟨⟨h0, h0'⟩, ⟨h1, h2⟩, h3⟩ := h
  have hz : ¬ (L : Int) = 0 := by omega
  have hz2 : ¬ L = 0 := by omega
  have hmk := run_make_row' (P := Try.prog) 32 3 (.int .i64 0) 8 Try.underlying32 info3 rfl .i64 .i64 L (by omega) (by omega)
  have hw0 : IntKind.i64.wrap (0 : Int) = 0 := iw (by omega) (by omega)
  have hw : IntKind.i64.wrap (wd.tmod (L : Int)) = 0 := by rw [Int.tmod_eq_emod_of_nonneg (by omega), h3]; exact hw0
  have e1 : wd.tdiv (L : Int) = wd / (L : Int) := Int.tdiv_eq_ediv_of_nonneg (by omega)
  have q1 := Int.ediv_nonneg (show 0 ≤ wd by omega) (show (0 : Int) ≤ L by omega)
  have q2 := Int.ediv_le_self (a := wd) (L : Int) (by omega)
  have hw2 : IntKind.i64.wrap (wd.tdiv (L : Int)) = wd / (L : Int) := by rw [e1]; exact iw (by omega) (by omega)
  obtain ⟨p, hp⟩ : ∃ p, wd / (L : Int) = p := ⟨_, rfl⟩
  rw [hp] at hw2 q1 q2 ⊢
  clear e1 hp
  go_enter Try.func18, Try.ntmps18
  go_upto_region 3 with fail
  clear hw
  go_region
  go_wp2
  go_ret
  refine ⟨w.heap.size + 1, w.heap.size, rfl, by omega, by omega, new_below w _ _, _, new_ws w p L, fun _ _ _ => rfl, fun _ _ => rfl⟩
end Go.Proofs.Ytapebhefbokcfaa.Win
