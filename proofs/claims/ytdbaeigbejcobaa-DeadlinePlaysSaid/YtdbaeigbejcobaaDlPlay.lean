import Derived.Test.YtdbaeigbejcobaaDlTick
import Derived.Deep.OwnRows
namespace Go.Proofs.Ytdbaeigbejcobaa.Dl
open Go.RowKit
set_option linter.unusedVariables false
set_option linter.unusedSimpArgs false
theorem rd3_below {w w' : World} {A : Option Addr} {n : Nat} {z : Nat → Int × Int × Int} (h : Rd3 w A n z) (hb : Below w.heap.size w w') : Rd3 w' A n z := by
  intro hn
  obtain ⟨b, off, hA, hc⟩ := h hn
  refine ⟨b, off, hA, fun i hi => ?_⟩
  obtain ⟨⟨g0, g1, g2⟩, hw⟩ := hc i hi
  have hblk : b < w.heap.size := World.block_lt_of_cell? w _ g0
  exact ⟨⟨(hb.cell (p := ⟨b, off + i * 3, none⟩) hblk).trans g0, (hb.cell (p := ⟨b, off + i * 3 + 1, none⟩) hblk).trans g1, (hb.cell (p := ⟨b, off + i * 3 + 2, none⟩) hblk).trans g2⟩, hw⟩
theorem cell_of {W : World} {b t : Nat} {c : Array Value} (h : W.heap[b]? = some (.cells c t)) (i : Nat) (v : Value) (hv : c[i]? = some v) : W.cell? ⟨b, i, none⟩ = some v ∧ W.frozen? ⟨b, i, none⟩ = false := by
  constructor
  · simp [World.cell?, h, hv]
  · simp [World.frozen?, h]
/-- A run's cells, written over. -/
theorem run_set {W : World} {g : Nat} {x0 x1 x2 : Value} (h : W.heap[g]? = some (.cells #[x0, x1, x2] 26)) (a b c : Value) : (((W.setCell ⟨g, 0, none⟩ a).setCell ⟨g, 1, none⟩ b).setCell ⟨g, 2, none⟩ c).heap[g]? = some (.cells #[a, b, c] 26) := by
  exact heap_setCell_same _ g 2 _ _ c (heap_setCell_same _ g 1 _ _ b (heap_setCell_same _ g 0 _ _ a h))
theorem run_cells {W : World} {g : Nat} {x0 x1 x2 : Value} (h : W.heap[g]? = some (.cells #[x0, x1, x2] 26)) : (W.cell? ⟨g, 0, none⟩ = some x0 ∧ W.frozen? ⟨g, 0, none⟩ = false) ∧ (W.cell? ⟨g, 1, none⟩ = some x1 ∧ W.frozen? ⟨g, 1, none⟩ = false) ∧ (W.cell? ⟨g, 2, none⟩ = some x2 ∧ W.frozen? ⟨g, 2, none⟩ = false) :=
  ⟨cell_of h 0 _ rfl, cell_of h 1 _ rfl, cell_of h 2 _ rfl⟩
abbrev W0 (w : World) : World := w.alloc (.cells #[.slice none 0 0, .slice none 0 0, .int .i64 0] 26)
theorem w0_size (w : World) : (W0 w).heap.size = w.heap.size + 1 := by simp
theorem w0_at {w W : World} (h : Below (w.heap.size + 1) (W0 w) W) : W.heap[w.heap.size]? = some (.cells #[.slice none 0 0, .slice none 0 0, .int .i64 0] 26) :=
  (h.block w.heap.size (by omega)).trans (heap_alloc_new w _)
theorem w0_below {w W : World} (h : Below (w.heap.size + 1) (W0 w) W) : Below w.heap.size w W :=
  ⟨h.os, h.tape, h.output, Nat.le_trans (by simp) h.size, fun i hi => (h.block i (by omega)).trans (Below.heap_alloc w _ i hi)⟩
theorem below_drew {B : Nat} {w W : World} (h : Below B w W) : Below B w W.drew := ⟨h.os, h.tape, h.output, h.size, h.block⟩
/-- The player's blocks are new. -/
theorem pi_new (w : World) (n rl rd rm : Nat) (A : Value) (hd : rl < 3 ∧ rd < 3 ∧ rm < 3 ∧ rl ≠ rd ∧ rl ≠ rm ∧ rd ≠ rm) : PI w.heap.size (w.heap.size + 1 + 1 + 1) (w.heap.size + rl) (w.heap.size + rd) (w.heap.size + rm) n A (fun _ => 0) (fun _ => 0) (fun _ => 0) 0 (.slice none 0 0) []
    ((((w.alloc (.cells (madeCells #[.int .i64 0] n) 3)).alloc (.cells (madeCells #[.int .i64 0] n) 3)).alloc (.cells (madeCells #[.int .i64 0] n) 3)).alloc (.cells #[A, .slice (some ⟨w.heap.size + rl, 0, none⟩) n n, .slice (some ⟨w.heap.size + rd, 0, none⟩) n n, .slice none 0 0, .slice (some ⟨w.heap.size + rm, 0, none⟩) n n, .int .i64 0] 58)).drew := by
  generalize ho : Obj.cells #[A, .slice (some ⟨w.heap.size + rl, 0, none⟩) n n, .slice (some ⟨w.heap.size + rd, 0, none⟩) n n, .slice none 0 0, .slice (some ⟨w.heap.size + rm, 0, none⟩) n n, .int .i64 0] 58 = o
  generalize hr : Obj.cells (madeCells #[.int .i64 0] n) 3 = r
  have s1 : (w.alloc r).heap.size = w.heap.size + 1 := by simp
  have s2 : ((w.alloc r).alloc r).heap.size = w.heap.size + 1 + 1 := by simp
  have s3 : (((w.alloc r).alloc r).alloc r).heap.size = w.heap.size + 1 + 1 + 1 := by simp
  have r0 := (((World.rowIs_made w (.int .i64 0) n 3).alloc r).alloc r).alloc o
  have r1 := ((World.rowIs_made (w.alloc r) (.int .i64 0) n 3).alloc r).alloc o
  have r2 := (World.rowIs_made ((w.alloc r).alloc r) (.int .i64 0) n 3).alloc o
  rw [hr] at r0 r1 r2
  rw [s1] at r1
  rw [s2] at r2
  have hn := heap_alloc_new (((w.alloc r).alloc r).alloc r) o
  rw [s3] at hn
  have sz : ((((w.alloc r).alloc r).alloc r).alloc o).heap.size = w.heap.size + 1 + 1 + 1 + 1 := by simp
  generalize (((w.alloc r).alloc r).alloc r).alloc o = W at *
  have rows : ∀ k, k < 3 → ∀ i, i < n → W.drew.cell? ⟨w.heap.size + k, i, none⟩ = some (.int .i64 0) ∧ W.drew.frozen? ⟨w.heap.size + k, i, none⟩ = false := by
    intro k hk i hi
    rcases (show k = 0 ∨ k = 1 ∨ k = 2 by omega) with rfl | rfl | rfl
    · exact ⟨r0.drew.cell hi, r0.drew.frozen i⟩
    · exact ⟨r1.drew.cell hi, r1.drew.frozen i⟩
    · exact ⟨r2.drew.cell hi, r2.drew.frozen i⟩
  rw [← ho] at hn
  have hn' : W.drew.heap[w.heap.size + 1 + 1 + 1]? = _ := hn
  have sz' : W.drew.heap.size = w.heap.size + 1 + 1 + 1 + 1 := sz
  obtain ⟨d1, d2, d3, d4, d5, d6⟩ := hd
  exact ⟨(cell_of hn' 0 _ rfl).1, (cell_of hn' 1 _ rfl).1, (cell_of hn' 2 _ rfl).1, (cell_of hn' 3 _ rfl).1, (cell_of hn' 4 _ rfl).1, (cell_of hn' 5 _ rfl).1, (cell_of hn' 3 _ rfl).2, (cell_of hn' 5 _ rfl).2,
    rows rl d1, rows rd d2, rows rm d3, by omega, by rw [sz']; omega, by omega, rowp_nil _ _, by intro k hk; simp [Value.ownBlock] at hk⟩
theorem new_below4 (w : World) (o1 o2 o3 o4 : Obj) : Below w.heap.size w ((((w.alloc o1).alloc o2).alloc o3).alloc o4).drew :=
  ⟨rfl, rfl, rfl, by show _ ≤ ((((w.alloc o1).alloc o2).alloc o3).alloc o4).heap.size; simp; omega, fun k hk => (Below.heap_alloc _ o4 k (by simp; omega)).trans ((Below.heap_alloc _ o3 k (by simp; omega)).trans ((Below.heap_alloc (w.alloc o1) o2 k (by simp; omega)).trans (Below.heap_alloc w o1 k hk)))⟩
/-- The blocks' numbers may lie lower. -/
theorem pi_lower {base b2 pb rl rd rm n : Nat} {A : Value} {L D M : Nat → Int} {q : Int} {v : Value} {xs : List Int} {W : World} (h : PI base pb rl rd rm n A L D M q v xs W) (hb : b2 ≤ base) : PI b2 pb rl rd rm n A L D M q v xs W := by
  refine { h with lo := ?_, row := ?_ }
  · have := h.lo; omega
  · refine ⟨⟨h.row.1.1, ?_⟩, h.row.2⟩
    rcases h.row.1.2 with hn | ⟨g, cap, cur, rfl, hg, rest⟩
    · exact .inl hn
    · exact .inr ⟨g, cap, cur, rfl, by omega, rest⟩
set_option maxRecDepth 100000 in
set_option maxHeartbeats 4000000 in
theorem play_no (A : Option Addr) (n c : Nat) (z : Nat → Int × Int × Int) (t : Int) (w : World) (hn : n ≤ 30) (hA : Rd3 w A n z) (h : ¬ AllOk z n) : Calls Try.prog 11 #[.slice A n c, .int .i64 t] w fun e w' => e = .returned (.agg #[.slice none 0 0, .slice none 0 0, .int .i64 0]) ∧ Below w.heap.size w w' := by
  have C1 := Lib.hid (fun W k => Right_no A n c z W hn k h)
  have HA := Lib.hid hA
  clear hA h
  go_enter Try.func11, Try.ntmps11
  go_wp2_with (first
    | (go_at_call 12; refine (C1.out _ (rd3_below HA.out ((Below.refl _ _).alloc (Nat.le_refl _) _))).mono ?_; clear C1; rintro e w1 ⟨rfl, hb⟩; rw [w0_size] at hb; obtain ⟨⟨a0, z0⟩, ⟨a1, z1⟩, a2, z2⟩ := run_cells (w0_at hb); have HB := Lib.hid hb; clear hb)
    | fail)
  refine bodyPost_ret (results_cell_row Try.results11 _ _ w.heap.size 26 _ (0, 0) _ rfl (run_set (w0_at HB.out) _ _ _) Try.underlying26 rfl (by kernel_rfl)) rfl ⟨rfl, ?_⟩
  exact below_set (below_set (below_set (w0_below HB.out) (by simp) _) (by simp) _) (by simp) _
theorem rd_w0 {w W : World} {A : Option Addr} {n : Nat} {z : Nat → Int × Int × Int} (h : Rd3 (W0 w) A n z) : Rd3 (W0 w) A n z := h
theorem rowp_lower {b b2 : Nat} {v : Value} {xs : List Int} {W : World} (h : RowP b v xs W) (hb : b2 ≤ b) : RowP b2 v xs W := by
  refine ⟨⟨h.1.1, ?_⟩, h.2⟩
  rcases h.1.2 with hn | ⟨g, cap, cur, rfl, hg, rest⟩
  · exact .inl hn
  · exact .inr ⟨g, cap, cur, rfl, by omega, rest⟩
set_option maxRecDepth 100000 in
set_option maxHeartbeats 4000000 in
theorem play_yes (A0 : Option Addr) (n c : Nat) (z : Nat → Int × Int × Int) (T : Nat) (w : World) (hA : Rd3 w A0 n z) (hok : AllOk z n) (hT : T ≤ 20000) : Calls Try.prog 11 #[.slice A0 n c, .int .i64 T] w fun e w' => ∃ v rm, e = .returned (.agg #[v, .slice (some ⟨rm, 0, none⟩) n n, .int .i64 (st z n T).q]) ∧ RowP w.heap.size v (st z n T).xs w' ∧ w.heap.size ≤ rm ∧ rm < w'.heap.size ∧ (∀ i, i < n → w'.cell? ⟨rm, i, none⟩ = some (.int .i64 ((st z n T).M i))) ∧ Below w.heap.size w w' := by
  have C1 := Lib.hid (fun W k => Right_yes A0 n c z W k hok)
  have HA0 := Lib.hid (rd3_below hA ((Below.refl w.heap.size w).alloc (Nat.le_refl _) (.cells #[.slice none 0 0, .slice none 0 0, .int .i64 0] 26)))
  have HO := Lib.hid hok
  have hn : n ≤ 16 := hok.2.2
  have info3 : (Try.prog.info? 3).map (fun i => (i.zero, i.size, i.bytes)) = some (some (.int .i64 0), 1, 8) := by kernel_rfl
  have hmk := run_make_row' (P := Try.prog) 24 3 (.int .i64 0) 8 Try.underlying24 info3 rfl .i64 .i64 n (by omega) (by omega)
  clear hA hok
  go_enter Try.func11, Try.ntmps11
  go_upto_region 3 with (first
    | (go_at_call 12; refine (C1.out _ HA0.out).mono ?_; clear C1; rintro e w1 ⟨rfl, hb⟩; have HB := Lib.hid hb; clear hb)
    | fail)
  go_cut [5] (fun v5 wx => ∃ pb rl rd rm, v5 = ptr pb ∧ Hid (PI (w.heap.size + 1) pb rl rd rm n (.slice A0 n c) (fun _ => 0) (fun _ => 0) (fun _ => 0) 0 (.slice none 0 0) [] wx) ∧ Hid (Below (w.heap.size + 1) (W0 w) wx))
  case first =>
    have HN := Lib.hid (pi_new w1 n)
    have HNB := Lib.hid (new_below4 w1)
    rw [w0_size] at HB
    have HSZ := Lib.hid HB.out.size
    go_region
    all_goals (go_wp2_with fail; go_meet)
    all_goals first
      | exact ⟨_, _, _, _, rfl, Lib.hid (pi_lower (HN.out 0 1 2 _ (by omega)) (by have := HSZ.out; rw [w0_size] at this; omega)), Lib.hid (HB.out.trans ((HNB.out _ _ _ _).mono (by have := HSZ.out; rw [w0_size] at this; omega)))⟩
      | exact ⟨_, _, _, _, rfl, Lib.hid (pi_lower (HN.out 0 2 1 _ (by omega)) (by have := HSZ.out; rw [w0_size] at this; omega)), Lib.hid (HB.out.trans ((HNB.out _ _ _ _).mono (by have := HSZ.out; rw [w0_size] at this; omega)))⟩
      | exact ⟨_, _, _, _, rfl, Lib.hid (pi_lower (HN.out 1 0 2 _ (by omega)) (by have := HSZ.out; rw [w0_size] at this; omega)), Lib.hid (HB.out.trans ((HNB.out _ _ _ _).mono (by have := HSZ.out; rw [w0_size] at this; omega)))⟩
      | exact ⟨_, _, _, _, rfl, Lib.hid (pi_lower (HN.out 1 2 0 _ (by omega)) (by have := HSZ.out; rw [w0_size] at this; omega)), Lib.hid (HB.out.trans ((HNB.out _ _ _ _).mono (by have := HSZ.out; rw [w0_size] at this; omega)))⟩
      | exact ⟨_, _, _, _, rfl, Lib.hid (pi_lower (HN.out 2 0 1 _ (by omega)) (by have := HSZ.out; rw [w0_size] at this; omega)), Lib.hid (HB.out.trans ((HNB.out _ _ _ _).mono (by have := HSZ.out; rw [w0_size] at this; omega)))⟩
      | exact ⟨_, _, _, _, rfl, Lib.hid (pi_lower (HN.out 2 1 0 _ (by omega)) (by have := HSZ.out; rw [w0_size] at this; omega)), Lib.hid (HB.out.trans ((HNB.out _ _ _ _).mono (by have := HSZ.out; rw [w0_size] at this; omega)))⟩
  case rest =>
    clear hmk
    obtain ⟨pb, rl, rd, rm, rfl, HP, HB2⟩ := hcut
    go_wp2_with fail
    go_loopw [27] (fun v27 W => ∃ (i : Nat), i ≤ T ∧ v27 = .int .i64 i ∧ Hid (∃ v, PI (w.heap.size + 1) pb rl rd rm n (.slice A0 n c) (st z n i).L (st z n i).D (st z n i).M (st z n i).q v (st z n i).xs W) ∧ Hid (Below (w.heap.size + 1) (W0 w) W)) (fun v27 _ => T - (intOf v27).toNat)
    case atStart => exact ⟨0, by omega, rfl, ⟨_, HP.out⟩, HB2.out⟩
    case round =>
      clear HP HB2
      obtain ⟨i, hi, rfl, HP, HB⟩ := hrel
      rename World => wo
      by_cases hlt : i < T
      · obtain ⟨v, hv⟩ := HP.out
        have C2 := Lib.hid (tick_at A0 n c z (W0 w) (s := st z n i) i wo (by omega) HA0.out HO.out (w0_size w) HB.out (sb_st HO.out.1 i) hv)
        clear hv
        go_wp2_with (first
          | (go_at_call 29; refine (C2.out).mono ?_; clear C2; rintro e w2 ⟨rfl, hp, hb⟩; have HP2 := Lib.hid hp; have HB2 := Lib.hid hb; clear hb hp)
          | fail)
        exact ⟨⟨i + 1, by omega, by simp, HP2.out, HB2.out⟩, by simp [intOf]; omega⟩
      · obtain rfl : i = T := by omega
        obtain ⟨v, hv⟩ := HP.out
        have p3 := hv.c3
        have p4 := hv.c4
        have p5 := hv.c5
        obtain ⟨⟨a0, z0⟩, ⟨a1, z1⟩, a2, z2⟩ := run_cells (w0_at HB.out)
        obtain ⟨qx, hqx⟩ : ∃ qx, (st z n i).q = qx := ⟨_, rfl⟩
        rw [hqx] at p5
        have HQ := Lib.hid hqx
        have HV := Lib.hid hv
        clear hv hqx
        obtain ⟨A1, cap1, rfl, _⟩ := rowp_any HV.out.row
        generalize hln : (st z n i).xs.length = ln at *
        have HLN := Lib.hid hln
        clear hln
        go_wp2
        refine bodyPost_ret (results_cell_row Try.results11 _ _ w.heap.size 26 _ (0, 0) _ rfl (run_set (w0_at HB.out) _ _ _) Try.underlying26 rfl (by kernel_rfl)) rfl ?_
        refine ⟨_, rm, by rw [HQ.out], ?_, ?_, ?_, ?_, below_set (below_set (below_set (w0_below HB.out) (by simp) _) (by simp) _) (by simp) _⟩
        · refine row_keep (row_keep (row_keep (rowp_lower HV.out.row (by omega)) ?_ _) ?_ _) ?_ _
          all_goals
            intro k hk
            have := (HV.out.row.1.lt k hk).1
            show k ≠ w.heap.size
            omega
        · have := HV.out.lo; omega
        · rw [size_set, size_set, size_set]; exact HV.out.hi.2.2.2
        · intro j hj
          have := HV.out.lo
          rw [cs_other (by first | (simp; done) | (simp; omega)), cs_other (by first | (simp; done) | (simp; omega)), cs_other (by first | (simp; done) | (simp; omega))]
          exact (HV.out.m j hj).1
set_option maxRecDepth 100000 in
set_option maxHeartbeats 4000000 in
theorem play_neg (A0 : Option Addr) (n c : Nat) (z : Nat → Int × Int × Int) (T : Int) (w : World) (hA : Rd3 w A0 n z) (hok : AllOk z n) (hT : T < 0) : Calls Try.prog 11 #[.slice A0 n c, .int .i64 T] w fun e w' => ∃ v rm, e = .returned (.agg #[v, .slice (some ⟨rm, 0, none⟩) n n, .int .i64 (st z n 0).q]) ∧ RowP w.heap.size v (st z n 0).xs w' ∧ w.heap.size ≤ rm ∧ rm < w'.heap.size ∧ (∀ i, i < n → w'.cell? ⟨rm, i, none⟩ = some (.int .i64 ((st z n 0).M i))) ∧ Below w.heap.size w w' := by
  have C1 := Lib.hid (fun W k => Right_yes A0 n c z W k hok)
  have HA0 := Lib.hid (rd3_below hA ((Below.refl w.heap.size w).alloc (Nat.le_refl _) (.cells #[.slice none 0 0, .slice none 0 0, .int .i64 0] 26)))
  have HO := Lib.hid hok
  have hn : n ≤ 16 := hok.2.2
  have info3 : (Try.prog.info? 3).map (fun i => (i.zero, i.size, i.bytes)) = some (some (.int .i64 0), 1, 8) := by kernel_rfl
  have hmk := run_make_row' (P := Try.prog) 24 3 (.int .i64 0) 8 Try.underlying24 info3 rfl .i64 .i64 n (by omega) (by omega)
  clear hA hok
  go_enter Try.func11, Try.ntmps11
  go_upto_region 3 with (first
    | (go_at_call 12; refine (C1.out _ HA0.out).mono ?_; clear C1; rintro e w1 ⟨rfl, hb⟩; have HB := Lib.hid hb; clear hb)
    | fail)
  go_cut [5] (fun v5 wx => ∃ pb rl rd rm, v5 = ptr pb ∧ Hid (PI (w.heap.size + 1) pb rl rd rm n (.slice A0 n c) (fun _ => 0) (fun _ => 0) (fun _ => 0) 0 (.slice none 0 0) [] wx) ∧ Hid (Below (w.heap.size + 1) (W0 w) wx))
  case first =>
    have HN := Lib.hid (pi_new w1 n)
    have HNB := Lib.hid (new_below4 w1)
    rw [w0_size] at HB
    have HSZ := Lib.hid HB.out.size
    go_region
    all_goals (go_wp2_with fail; go_meet)
    all_goals first
      | exact ⟨_, _, _, _, rfl, Lib.hid (pi_lower (HN.out 0 1 2 _ (by omega)) (by have := HSZ.out; rw [w0_size] at this; omega)), Lib.hid (HB.out.trans ((HNB.out _ _ _ _).mono (by have := HSZ.out; rw [w0_size] at this; omega)))⟩
      | exact ⟨_, _, _, _, rfl, Lib.hid (pi_lower (HN.out 0 2 1 _ (by omega)) (by have := HSZ.out; rw [w0_size] at this; omega)), Lib.hid (HB.out.trans ((HNB.out _ _ _ _).mono (by have := HSZ.out; rw [w0_size] at this; omega)))⟩
      | exact ⟨_, _, _, _, rfl, Lib.hid (pi_lower (HN.out 1 0 2 _ (by omega)) (by have := HSZ.out; rw [w0_size] at this; omega)), Lib.hid (HB.out.trans ((HNB.out _ _ _ _).mono (by have := HSZ.out; rw [w0_size] at this; omega)))⟩
      | exact ⟨_, _, _, _, rfl, Lib.hid (pi_lower (HN.out 1 2 0 _ (by omega)) (by have := HSZ.out; rw [w0_size] at this; omega)), Lib.hid (HB.out.trans ((HNB.out _ _ _ _).mono (by have := HSZ.out; rw [w0_size] at this; omega)))⟩
      | exact ⟨_, _, _, _, rfl, Lib.hid (pi_lower (HN.out 2 0 1 _ (by omega)) (by have := HSZ.out; rw [w0_size] at this; omega)), Lib.hid (HB.out.trans ((HNB.out _ _ _ _).mono (by have := HSZ.out; rw [w0_size] at this; omega)))⟩
      | exact ⟨_, _, _, _, rfl, Lib.hid (pi_lower (HN.out 2 1 0 _ (by omega)) (by have := HSZ.out; rw [w0_size] at this; omega)), Lib.hid (HB.out.trans ((HNB.out _ _ _ _).mono (by have := HSZ.out; rw [w0_size] at this; omega)))⟩
  case rest =>
    clear hmk
    obtain ⟨pb, rl, rd, rm, rfl, HP, HB2⟩ := hcut
    go_wp2_with fail
    go_loopw [27] (fun v27 W => ∃ (i : Nat), i ≤ 0 ∧ v27 = .int .i64 i ∧ Hid (∃ v, PI (w.heap.size + 1) pb rl rd rm n (.slice A0 n c) (st z n i).L (st z n i).D (st z n i).M (st z n i).q v (st z n i).xs W) ∧ Hid (Below (w.heap.size + 1) (W0 w) W)) (fun v27 _ => 1 - (intOf v27).toNat)
    case atStart => exact ⟨0, by omega, rfl, ⟨_, HP.out⟩, HB2.out⟩
    case round =>
      clear HP HB2
      obtain ⟨i, hi, rfl, HP, HB⟩ := hrel
      rename World => wo
      obtain rfl : i = 0 := by omega
      obtain ⟨v, hv⟩ := HP.out
      have p3 := hv.c3
      have p4 := hv.c4
      have p5 := hv.c5
      obtain ⟨⟨a0, z0⟩, ⟨a1, z1⟩, a2, z2⟩ := run_cells (w0_at HB.out)
      obtain ⟨qx, hqx⟩ : ∃ qx, (st z n 0).q = qx := ⟨_, rfl⟩
      rw [hqx] at p5
      have HQ := Lib.hid hqx
      have HV := Lib.hid hv
      clear hv hqx
      obtain ⟨A1, cap1, rfl, _⟩ := rowp_any HV.out.row
      generalize hln : (st z n 0).xs.length = ln at *
      have HLN := Lib.hid hln
      clear hln
      go_wp2
      refine bodyPost_ret (results_cell_row Try.results11 _ _ w.heap.size 26 _ (0, 0) _ rfl (run_set (w0_at HB.out) _ _ _) Try.underlying26 rfl (by kernel_rfl)) rfl ?_
      refine ⟨_, rm, by rw [HQ.out], ?_, ?_, ?_, ?_, below_set (below_set (below_set (w0_below HB.out) (by simp) _) (by simp) _) (by simp) _⟩
      · refine row_keep (row_keep (row_keep (rowp_lower HV.out.row (by omega)) ?_ _) ?_ _) ?_ _
        all_goals
          intro k hk
          have := (HV.out.row.1.lt k hk).1
          show k ≠ w.heap.size
          omega
      · have := HV.out.lo; omega
      · rw [size_set, size_set, size_set]; exact HV.out.hi.2.2.2
      · intro j hj
        have := HV.out.lo
        rw [cs_other (by first | (simp; done) | (simp; omega)), cs_other (by first | (simp; done) | (simp; omega)), cs_other (by first | (simp; done) | (simp; omega))]
        exact (HV.out.m j hj).1
end Go.Proofs.Ytdbaeigbejcobaa.Dl
