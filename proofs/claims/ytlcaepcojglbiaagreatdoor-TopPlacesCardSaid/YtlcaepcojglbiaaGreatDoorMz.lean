/- The users: their small functions: a part of the walk of the whole machine. For all states that the readings allow. -/
import Derived.BigRegion
import Derived.Test.YtlcaepcojglbiaaGreatDoorMy
import Derived.Test.YtlcaepcojglbiaaGreatDoorMr
namespace Go.Proofs.YtlcaepcojglbiaaGreatDoor.Tp
open Go.RowKit Go.Maps
set_option linter.unusedVariables false
set_option linter.unusedSimpArgs false
set_option maxRecDepth 100000 in
theorem size_at (n : Nat) (hn : (n : Int) < 2000000000) (W : World) : Calls Tryz.prog 112 #[.int .i64 (n : Nat)] W fun e W' => e = .returned (.int .u64 (n : Nat)) ∧ W' = W := by
  have h0 : ¬ (n : Int) < 0 := by omega
  have h1 : IntKind.u64.wrap (n : Int) = (n : Int) := by rw [IntKind.wrap_u64]; omega
  go_enter Tryz.func112, Tryz.ntmps112
  go_wp2
  go_ret
  exact ⟨rfl, rfl⟩
set_option maxRecDepth 100000 in
theorem mul64_at (W : World) : Calls Tryz.prog 111 #[.int .u64 1000000000, .int .u64 0] W fun e W' => e = .returned (.tuple #[.int .u64 0, .int .u64 0]) ∧ W' = W := by
  have b1 : bits .and .u64 1000000000 4294967295 = 1000000000 := by kernel_rfl
  have b2 : bits .and .u64 0 4294967295 = 0 := by kernel_rfl
  have w1 : IntKind.u64.wrap 0 = 0 := by kernel_rfl
  go_enter Tryz.func111, Tryz.ntmps111
  go_wp2
  exact bodyPost_ret (results_tmp2 rfl _ _ _) rfl ⟨by kernel_rfl, rfl⟩
set_option maxRecDepth 100000 in
theorem mul_at (W : World) : Calls Tryz.prog 86 #[.int .i64 1000000000, .int .i64 0] W fun e W' => e = .returned (.int .i64 0) ∧ W' = W := by
  have C := Lib.hid (clamp_at 1000000000 W)
  have hc : clampv 1000000000 = 1000000000 := by decide
  rw [hc] at C
  have C2 : Hid (Calls Tryz.prog 112 #[.int .i64 1000000000] W fun e W' => e = .returned (.int .u64 1000000000) ∧ W' = W) := Lib.hid (size_at 1000000000 (by omega) W)
  have C3 : Hid (Calls Tryz.prog 112 #[.int .i64 0] W fun e W' => e = .returned (.int .u64 0) ∧ W' = W) := Lib.hid (size_at 0 (by omega) W)
  have C4 := Lib.hid (mul64_at W)
  clear hc
  go_enter Tryz.func86, Tryz.ntmps86
  go_wp2_with (first
    | (go_at_call 63; refine (C.out).mono ?_; clear C; rintro e W ⟨rfl, rfl⟩)
    | (go_at_call 112; with_reducible refine (C2.out).mono ?_; clear C2; rintro e W ⟨rfl, rfl⟩)
    | (go_at_call 112; with_reducible refine (C3.out).mono ?_; clear C3; rintro e W ⟨rfl, rfl⟩)
    | (go_at_call 111; refine (C4.out).mono ?_; clear C4; rintro e W ⟨rfl, rfl⟩)
    | fail)
  go_ret
  exact ⟨rfl, rfl⟩
set_option maxRecDepth 100000 in
theorem right_at (W : World) : Calls Tryz.prog 85 #[.agg #[.int .i64 0, .int .i64 2]] W fun e W' => e = .returned (.bool true) ∧ Below W.heap.size W W' := by
  go_enter Tryz.func85, Tryz.ntmps85
  go_wp2
  go_ret
  exact ⟨rfl, (Below.refl _ _).alloc (Nat.le_refl _) _⟩
set_option maxRecDepth 100000 in
set_option maxHeartbeats 4000000 in
theorem stime_at (W : World) : Calls Tryz.prog 59 #[.agg #[.int .i64 0, .int .i64 2]] W fun e W' => e = .returned (.tuple #[.int .i64 2, .int .i64 0]) ∧ Below W.heap.size W W' := by
  have C1 := Lib.hid right_at
  have C2 := Lib.hid mul_at
  have C3 := Lib.hid (fun w => add_at 0 2 w)
  have ha : addv 0 2 = 2 := by decide
  rw [ha] at C3
  have HB := Lib.hid ((Below.refl W.heap.size W).alloc (Nat.le_refl _) (.cells #[.int .i64 0, .int .i64 2] 55))
  have HN := Lib.hid (heap_alloc_new W (.cells #[.int .i64 0, .int .i64 2] 55))
  clear ha
  go_enter Tryz.func59, Tryz.ntmps59
  go_wp2_with (first
    | (go_at_call 85; refine (C1.out _).mono ?_; clear C1; rintro e w1 ⟨rfl, hB⟩; have hn := (hB.block W.heap.size (by simp)).trans HN.out; obtain ⟨⟨y0, -⟩, y1, -⟩ := cells2 hn; have HB1 := Lib.hid (HB.out.trans (hB.mono HB.out.size)); clear hB hn)
    | fail)
  go_quiet ((first | (go_at_call 86; exact Calls.quiet_of_same (C2.out _)) | (go_at_call 60; exact Calls.quiet_of_same (C3.out _))))
  go_wp2_with fail
  refine bodyPost_ret (results_tmp2 rfl _ _ _) rfl ⟨rfl, ?_⟩
  exact ⟨HB1.out.os, HB1.out.tape, HB1.out.output, HB1.out.size, HB1.out.block⟩
set_option maxRecDepth 100000 in
set_option maxHeartbeats 4000000 in
theorem snew_at (W : World) : Calls Tryz.prog 31 #[] W fun e W' => e = .returned (ptr W.heap.size) ∧ W'.heap[W.heap.size]? = some (.cells Tryz.zeroCells122 122) ∧ Below W.heap.size W W' := by
  go_enter Tryz.func31, Tryz.ntmps31
  go_wp2
  go_ret
  exact ⟨rfl, heap_alloc_new W _, (Below.refl _ _).alloc (Nat.le_refl _) _⟩
set_option maxRecDepth 100000 in
set_option maxHeartbeats 4000000 in
theorem pnew_at (W : World) : Calls Tryz.prog 32 #[] W fun e W' => e = .returned (ptr W.heap.size) ∧ Below W.heap.size W W' := by
  go_enter Tryz.func32, Tryz.ntmps32
  go_wp2
  go_ret
  exact ⟨rfl, (Below.refl _ _).alloc (Nat.le_refl _) _⟩
set_option maxRecDepth 100000 in
set_option maxHeartbeats 4000000 in
theorem gnew_at (W : World) : Calls Tryz.prog 33 #[] W fun e W' => e = .returned (ptr W.heap.size) ∧ Below W.heap.size W W' := by
  go_enter Tryz.func33, Tryz.ntmps33
  go_wp2
  go_ret
  exact ⟨rfl, (Below.refl _ _).alloc (Nat.le_refl _) _⟩
/-! What tasks ask for: addresses; the relation. -/
structure UR (A : EA) (E : En) (sb zb : Nat) (z : Array Value) (W : World) : Prop where
  er : ER A E W
  s : ∃ cs, W.heap[sb]? = some (.cells cs 88) ∧ cs[0]? = some (ptr A.e) ∧ cs[1]? = some (.int .i64 1) ∧ cs[2]? = some (ptr zb)
  z : W.heap[zb]? = some (.cells z 122)
  ns : ¬ A.has E.n sb
  nz : ¬ A.has E.n zb
  ne : sb ≠ zb
section
variable {A : EA} {E E' : En} {sb zb : Nat} {z z' : Array Value} {W W' : World}
theorem ur_lt (h : UR A E sb zb z W) : sb < W.heap.size ∧ zb < W.heap.size := by
  obtain ⟨cs, hs, -⟩ := h.s
  exact ⟨(Array.getElem?_eq_some_iff.1 hs).1, (Array.getElem?_eq_some_iff.1 h.z).1⟩
theorem ur_cells (h : UR A E sb zb z W) : W.cell? ⟨sb, 0, none⟩ = some (ptr A.e) ∧ W.cell? ⟨sb, 1, none⟩ = some (.int .i64 1) ∧ W.cell? ⟨sb, 2, none⟩ = some (ptr zb) := by
  obtain ⟨cs, hs, h0, h1, h2⟩ := h.s
  exact ⟨(cell_of hs 0 _ h0).1, (cell_of hs 1 _ h1).1, (cell_of hs 2 _ h2).1⟩
/-- The engine has changed. -/
theorem ur_er (h : UR A E sb zb z W) (he : ER A E' W') (hn : E'.n = E.n) (g : GF (A.has E.n) W W') : UR A E' sb zb z W' := by
  obtain ⟨l1, l2⟩ := ur_lt h
  obtain ⟨cs, hs, hc⟩ := h.s
  exact ⟨he, ⟨cs, (g.block sb l1 h.ns).trans hs, hc⟩, (g.block zb l2 h.nz).trans h.z, by rw [hn]; exact h.ns, by rw [hn]; exact h.nz, h.ne⟩
theorem ur_below (h : UR A E sb zb z W) (g : Below W.heap.size W W') : UR A E sb zb z W' := ur_er h (er_below h.er g) rfl (gf_below g)
theorem ur_drew (h : UR A E sb zb z W) : UR A E sb zb z W.drew := ur_er h (er_drew h.er) rfl (gf_drew (gf_refl _ W))
/-- The sleeps have changed. -/
theorem ur_z (h : UR A E sb zb z W) (g : GF (fun x => x = zb) W W') (hz : W'.heap[zb]? = some (.cells z' 122)) : UR A E sb zb z' W' := by
  obtain ⟨l1, l2⟩ := ur_lt h
  obtain ⟨cs, hs, hc⟩ := h.s
  refine ⟨er_same h.er g.size fun x hx => g.block x (er_lt h.er x hx) fun e => h.nz (e ▸ hx), ⟨cs, (g.block sb l1 h.ne).trans hs, hc⟩, hz, h.ns, h.nz, h.ne⟩
structure TJ1 (K : Ck) (W : World) (i : Nat) (w : World) : Prop where
  b : Below W.heap.size W w
  t : w.heap[W.heap.size]? = some (.cells #[.int .i64 (if 0 < i then K.tm 0 else 0), .int .i64 (if 1 < i then K.tm 1 else 0), .int .i64 (if 2 < i then K.tm 2 else 0)] 27)
theorem tj1_step {K : Ck} {W wr w1 : World} {i : Nat} (h : TJ1 K W i wr) (hi : i < 3) (hB : Below wr.heap.size wr w1) : TJ1 K W (i + 1) (w1.setCell ⟨W.heap.size, i, none⟩ (.int .i64 (K.tm i))) := by
  have t1 := (hB.block _ (Array.getElem?_eq_some_iff.1 h.t).1).trans h.t
  refine ⟨below_set (h.b.trans (hB.mono h.b.size)) (Nat.le_refl _) _, ?_⟩
  refine (heap_setCell_same w1 W.heap.size i _ 27 (.int .i64 (K.tm i)) t1).trans ?_
  rcases (show i = 0 ∨ i = 1 ∨ i = 2 by omega) with rfl | rfl | rfl <;> simp
set_option maxRecDepth 100000 in
set_option maxHeartbeats 4000000 in
theorem utimes_at (W : World) (h : UR A E sb zb z W) (hok : E.K.ok) : Calls Tryz.prog 35 #[ptr sb] W fun e W' => e = .returned (offv E.K.tm) ∧ Below W.heap.size W W' := by
  have C1 := Lib.hid (fun k hk w (hB : Below W.heap.size W w) => enow_at (A := A) (E := E) k hk w (ur_below h hB).er hok)
  have E0 := Lib.hid (fun w (hB : Below W.heap.size W w) => (ur_cells (ur_below h hB)).1)
  have HB0 : Below W.heap.size W (W.alloc (.cells #[.int .i64 0, .int .i64 0, .int .i64 0] 27)) := (Below.refl W.heap.size W).alloc (Nat.le_refl _) _
  have HJ0 : Hid (TJ1 E.K W 0 (W.alloc (.cells #[.int .i64 0, .int .i64 0, .int .i64 0] 27))) := Lib.hid ⟨HB0, heap_alloc_new W _⟩
  have hsl := (ur_lt h).1
  clear h HB0
  go_enter Tryz.func35, Tryz.ntmps35
  go_wp2_with fail
  go_loopw [4] (fun s4 wr => ∃ i : Nat, i ≤ 3 ∧ s4 = .int .i64 i ∧ Hid (TJ1 E.K W i wr)) (fun s4 _ => 3 - (intOf s4).toNat)
  case atStart => exact ⟨0, by omega, rfl, HJ0⟩
  case round =>
    obtain ⟨i, hi, rfl, HJ⟩ := hrel
    clear HJ0
    rcases (show i = 0 ∨ i = 1 ∨ i = 2 ∨ i = 3 by omega) with rfl | rfl | rfl | rfl
    · have e0 := E0.out _ HJ.out.b
      go_wp2_with (first
        | (go_at_call 9; refine (C1.out 0 (by omega) _ HJ.out.b).mono ?_; clear C1; rintro e w1 ⟨rfl, hB⟩; have t1 := (hB.block _ (Array.getElem?_eq_some_iff.1 HJ.out.t).1).trans HJ.out.t; have HB := Lib.hid hB; obtain ⟨⟨a0, b0⟩, -⟩ := cells3 t1; clear hB t1)
        | fail)
      go_roundw
      case rel => exact ⟨1, by omega, rfl, Lib.hid (tj1_step HJ.out (by omega) HB.out)⟩
      case measure => simp [intOf]
    · have e0 := E0.out _ HJ.out.b
      go_wp2_with (first
        | (go_at_call 9; refine (C1.out 1 (by omega) _ HJ.out.b).mono ?_; clear C1; rintro e w1 ⟨rfl, hB⟩; have t1 := (hB.block _ (Array.getElem?_eq_some_iff.1 HJ.out.t).1).trans HJ.out.t; have HB := Lib.hid hB; obtain ⟨-, ⟨a0, b0⟩, -⟩ := cells3 t1; clear hB t1)
        | fail)
      go_roundw
      case rel => exact ⟨2, by omega, rfl, Lib.hid (tj1_step HJ.out (by omega) HB.out)⟩
      case measure => simp [intOf]
    · have e0 := E0.out _ HJ.out.b
      go_wp2_with (first
        | (go_at_call 9; refine (C1.out 2 (by omega) _ HJ.out.b).mono ?_; clear C1; rintro e w1 ⟨rfl, hB⟩; have t1 := (hB.block _ (Array.getElem?_eq_some_iff.1 HJ.out.t).1).trans HJ.out.t; have HB := Lib.hid hB; obtain ⟨-, -, a0, b0⟩ := cells3 t1; clear hB t1)
        | fail)
      go_roundw
      case rel => exact ⟨3, by omega, rfl, Lib.hid (tj1_step HJ.out (by omega) HB.out)⟩
      case measure => simp [intOf]
    · have ht : wr.heap[W.heap.size]? = some (.cells #[.int .i64 (E.K.tm 0), .int .i64 (E.K.tm 1), .int .i64 (E.K.tm 2)] 27) := HJ.out.t
      have HT := Lib.hid ht
      obtain ⟨⟨a0, b0⟩, ⟨a1, b1⟩, a2, b2⟩ := cells3 ht
      clear ht E0 C1
      go_wp2_with fail
      exact bodyPost_ret (results_cell_row Tryz.results35 _ _ W.heap.size 27 _ (0, 0) _ rfl (s3_same HT.out _ _ _) Tryz.underlying27 rfl (by kernel_rfl)) rfl ⟨rfl, s3_below HJ.out.b (Nat.le_refl _) _ _ _⟩
end
end Go.Proofs.YtlcaepcojglbiaaGreatDoor.Tp
namespace Go.Proofs.YtlcaepcojglbiaaGreatDoor.Tp
open Go.RowKit Go.Maps
set_option linter.unusedVariables false
set_option linter.unusedSimpArgs false
/-! Task 9's sleep, on the clock Boot, till 2. -/
structure Z9 (z : Array Value) (asl : Bool) : Prop where
  a : z[137]? = some (.bool asl)
  s : z.size = 160
structure L9 (z : Array Value) : Prop where
  t : z[36]? = some (.int .i64 9)
  c : z[37]? = some (.int .i64 2)
  u : z[38]? = some (.int .i64 2)
  r : z[39]? = some (.bool true)
set_option maxRecDepth 100000 in
set_option maxHeartbeats 4000000 in
theorem of9_at {zb : Nat} {z : Array Value} (W : World) (hz : W.heap[zb]? = some (.cells z 122)) (ha : z[137]? = some (.bool true)) (hl : L9 z) : Calls Tryz.prog 61 #[ptr zb, .int .i64 9] W fun e W' => e = .returned (.tuple #[.agg #[.int .i64 9, .int .i64 2, .int .i64 2, .bool true], .bool true]) ∧ Below W.heap.size W W' := by
  have hlt := (Array.getElem?_eq_some_iff.1 hz).1
  have HB := Lib.hid ((Below.refl W.heap.size W).alloc (Nat.le_refl _) (.cells #[.int .i64 0, .int .i64 0, .int .i64 0, .bool false] 91))
  have HN := Lib.hid (heap_alloc_new W (.cells #[.int .i64 0, .int .i64 0, .int .i64 0, .bool false] 91))
  have a0 := (cell_of hz 137 _ ha).1
  have b0 := (cell_of hz 36 _ hl.t).1
  have b1 := (cell_of hz 37 _ hl.c).1
  have b2 := (cell_of hz 38 _ hl.u).1
  have b3 := (cell_of hz 39 _ hl.r).1
  have hne : ¬ zb = W.heap.size := by omega
  clear hz ha hl
  go_enter Tryz.func61, Tryz.ntmps61
  go_wp2_with fail
  exact bodyPost_ret (results_cell_row_tmp Tryz.results61 _ _ W.heap.size 91 _ (0, 0) _ rfl (heap_alloc_new W _) Tryz.underlying91 rfl (by kernel_rfl)) rfl ⟨rfl, (Below.refl _ _).alloc (Nat.le_refl _) _⟩
set_option maxRecDepth 100000 in
set_option maxHeartbeats 4000000 in
theorem wake9_no {zb : Nat} {z : Array Value} {t0 t1 : Int} (W : World) (hz : W.heap[zb]? = some (.cells z 122)) (ha : z[137]? = some (.bool true)) (hl : L9 z) : Calls Tryz.prog 36 #[ptr zb, .int .i64 9, .agg #[.int .i64 t0, .int .i64 t1, .int .i64 0]] W fun e W' => e = .returned (.int .i64 8) ∧ Below W.heap.size W W' := by
  have hlt := (Array.getElem?_eq_some_iff.1 hz).1
  have HB := Lib.hid ((Below.refl W.heap.size W).alloc (Nat.le_refl _) (.cells #[.int .i64 t0, .int .i64 t1, .int .i64 0] 27))
  have HN := Lib.hid (heap_alloc_new W (.cells #[.int .i64 t0, .int .i64 t1, .int .i64 0] 27))
  have C1 := Lib.hid (fun w (hB : Below W.heap.size W w) => of9_at w ((hB.block zb hlt).trans hz) ha hl)
  have C2 := Lib.hid (fun w => never_no (t := 2) (by omega) w)
  have C3 := Lib.hid (fun w => clamp_at 0 w)
  rw [show clampv 0 = 0 by decide] at C3
  have HS : Hid (W.heap.size < (W.alloc (.cells #[.int .i64 t0, .int .i64 t1, .int .i64 0] 27)).heap.size) := Lib.hid (by simp)
  clear hz ha hl
  go_enter Tryz.func36, Tryz.ntmps36
  go_wp2_with (first
    | (go_at_call 61; refine (C1.out _ HB.out).mono ?_; clear C1; rintro e w1 ⟨rfl, hB⟩; have hn := (hB.block W.heap.size HS.out).trans HN.out; have HN1 := Lib.hid hn; have HB1 := Lib.hid (HB.out.trans (hB.mono HB.out.size)); have hs1 := hB.size; clear hB hn)
    | fail)
  have hn1 := heap_alloc_new w1 (.cells #[.int .i64 9, .int .i64 2, .int .i64 2, .bool true] 91)
  have HB2 := Lib.hid (HB1.out.alloc HB1.out.size (.cells #[.int .i64 9, .int .i64 2, .int .i64 2, .bool true] 91))
  have hlt1 := (Array.getElem?_eq_some_iff.1 HN1.out).1
  have hn0 := (Below.heap_alloc w1 (.cells #[.int .i64 9, .int .i64 2, .int .i64 2, .bool true] 91) W.heap.size hlt1).trans HN1.out
  obtain ⟨W2, hW2⟩ : ∃ W2, w1.alloc (.cells #[.int .i64 9, .int .i64 2, .int .i64 2, .bool true] 91) = W2 := ⟨_, rfl⟩
  rw [hW2] at hn1 hn0 HB2 ⊢
  obtain ⟨g, hg⟩ : ∃ g, w1.heap.size = g := ⟨_, rfl⟩
  rw [hg] at hn1 ⊢
  obtain ⟨-, ⟨y1, -⟩, ⟨y2, -⟩, -⟩ := cells4 hn1
  obtain ⟨-, -, x2, -⟩ := cells3 hn0
  clear hW2 hg hn0 hn1 hs1
  go_quiet ((first | (go_at_call 62; exact Calls.quiet_of_same (C2.out _)) | (go_at_call 63; exact Calls.quiet_of_same (C3.out _))))
  go_wp2_with fail
  go_ret
  exact ⟨rfl, ⟨HB2.out.os, HB2.out.tape, HB2.out.output, HB2.out.size, HB2.out.block⟩⟩
set_option maxRecDepth 100000 in
set_option maxHeartbeats 4000000 in
theorem wake9_yes {zb : Nat} {z : Array Value} {t0 t1 : Int} (W : World) (hz : W.heap[zb]? = some (.cells z 122)) (ha : z[137]? = some (.bool true)) (hl : L9 z) : Calls Tryz.prog 36 #[ptr zb, .int .i64 9, .agg #[.int .i64 t0, .int .i64 t1, .int .i64 2]] W fun e W' => e = .returned (.int .i64 0) ∧ W'.heap[zb]? = some (.cells (z.set! 137 (.bool false)) 122) ∧ GF (fun x => x = zb) W W' := by
  have hlt := (Array.getElem?_eq_some_iff.1 hz).1
  have HB := Lib.hid ((Below.refl W.heap.size W).alloc (Nat.le_refl _) (.cells #[.int .i64 t0, .int .i64 t1, .int .i64 2] 27))
  have HN := Lib.hid (heap_alloc_new W (.cells #[.int .i64 t0, .int .i64 t1, .int .i64 2] 27))
  have C1 := Lib.hid (fun w (hB : Below W.heap.size W w) => of9_at w ((hB.block zb hlt).trans hz) ha hl)
  have C2 := Lib.hid (fun w => never_no (t := 2) (by omega) w)
  have C3 := Lib.hid (fun w => clamp_at 2 w)
  rw [show clampv 2 = 2 by decide] at C3
  have HZ := Lib.hid (fun w (hB : Below W.heap.size W w) => (hB.block zb hlt).trans hz)
  have HA := Lib.hid ha
  have HS : Hid (W.heap.size < (W.alloc (.cells #[.int .i64 t0, .int .i64 t1, .int .i64 2] 27)).heap.size) := Lib.hid (by simp)
  clear hz ha hl
  go_enter Tryz.func36, Tryz.ntmps36
  go_wp2_with (first
    | (go_at_call 61; refine (C1.out _ HB.out).mono ?_; clear C1; rintro e w1 ⟨rfl, hB⟩; have hn := (hB.block W.heap.size HS.out).trans HN.out; have HN1 := Lib.hid hn; have HB1 := Lib.hid (HB.out.trans (hB.mono HB.out.size)); have hs1 := hB.size; clear hB hn)
    | fail)
  have hn1 := heap_alloc_new w1 (.cells #[.int .i64 9, .int .i64 2, .int .i64 2, .bool true] 91)
  have HB2 := Lib.hid (HB1.out.alloc HB1.out.size (.cells #[.int .i64 9, .int .i64 2, .int .i64 2, .bool true] 91))
  have hlt1 := (Array.getElem?_eq_some_iff.1 HN1.out).1
  have hn0 := (Below.heap_alloc w1 (.cells #[.int .i64 9, .int .i64 2, .int .i64 2, .bool true] 91) W.heap.size hlt1).trans HN1.out
  obtain ⟨W2, hW2⟩ : ∃ W2, w1.alloc (.cells #[.int .i64 9, .int .i64 2, .int .i64 2, .bool true] 91) = W2 := ⟨_, rfl⟩
  rw [hW2] at hn1 hn0 HB2 ⊢
  obtain ⟨g, hg⟩ : ∃ g, w1.heap.size = g := ⟨_, rfl⟩
  rw [hg] at hn1 ⊢
  obtain ⟨-, ⟨y1, -⟩, ⟨y2, -⟩, -⟩ := cells4 hn1
  obtain ⟨-, -, x2, -⟩ := cells3 hn0
  have hz2 := HZ.out _ HB2.out
  obtain ⟨q1, q2⟩ := cell_of hz2 137 _ HA.out
  have HZ2 := Lib.hid hz2
  clear hW2 hg hn0 hn1 hs1 hz2
  go_quiet ((first | (go_at_call 62; exact Calls.quiet_of_same (C2.out _)) | (go_at_call 63; exact Calls.quiet_of_same (C3.out _))))
  go_wp2_with fail
  go_ret
  exact ⟨rfl, heap_setCell_same W2 zb 137 _ 122 _ HZ2.out, gf_set (F := fun x => x = zb) (p := ⟨zb, 137, none⟩) (gf_drewN (gf_below HB2.out) nq) (.inl rfl) (.bool false)⟩
set_option maxRecDepth 100000 in
set_option maxHeartbeats 8000000 in
theorem sstart9_at {zb : Nat} {z : Array Value} {t0 t1 : Int} (W : World) (hz : W.heap[zb]? = some (.cells z 122)) (hs : z.size = 160) (ha : z[137]? = some (.bool false)) : Calls Tryz.prog 34 #[ptr zb, .int .i64 9, .int .i64 2, .agg #[.int .i64 0, .int .i64 2], .bool false, .agg #[.int .i64 t0, .int .i64 t1, .int .i64 0]] W fun e W' => e = .returned (.tuple #[.agg #[.int .i64 9, .int .i64 2, .int .i64 2, .bool true], .int .i64 0]) ∧ W'.heap[zb]? = some (.cells (((((z.set! 36 (.int .i64 9)).set! 37 (.int .i64 2)).set! 38 (.int .i64 2)).set! 39 (.bool true)).set! 137 (.bool true)) 122) ∧ GF (fun x => x = zb) W W' := by
  have hlt := (Array.getElem?_eq_some_iff.1 hz).1
  have C1 := Lib.hid (fun w => stime_at w)
  have C2 := Lib.hid (fun w => add_at 2 0 w)
  rw [show addv 2 0 = 2 by decide] at C2
  have HZ := Lib.hid hz
  obtain ⟨v0, hv0⟩ : ∃ v, z[36]? = some v := ⟨_, Array.getElem?_eq_getElem (by omega)⟩
  obtain ⟨v1, hv1⟩ : ∃ v, z[37]? = some v := ⟨_, Array.getElem?_eq_getElem (by omega)⟩
  obtain ⟨v2, hv2⟩ : ∃ v, z[38]? = some v := ⟨_, Array.getElem?_eq_getElem (by omega)⟩
  obtain ⟨v3, hv3⟩ : ∃ v, z[39]? = some v := ⟨_, Array.getElem?_eq_getElem (by omega)⟩
  have HV := Lib.hid (And.intro ha (And.intro hv0 (And.intro hv1 (And.intro hv2 hv3))))
  have HBb : Below W.heap.size W (((W.alloc (.cells #[.int .i64 0, .int .i64 2] 55)).alloc (.cells #[.int .i64 t0, .int .i64 t1, .int .i64 0] 27)).alloc (.cells #[.int .i64 0, .int .i64 0, .int .i64 0, .bool false] 91)) := (((Below.refl W.heap.size W).alloc (Nat.le_refl _) _).alloc (by simp) _).alloc (by simp; omega) _
  have hs3 : (((W.alloc (.cells #[.int .i64 0, .int .i64 2] 55)).alloc (.cells #[.int .i64 t0, .int .i64 t1, .int .i64 0] 27)).alloc (.cells #[.int .i64 0, .int .i64 0, .int .i64 0, .bool false] 91)).heap.size = W.heap.size + 3 := by simp
  have hn2 := (heap_alloc_new ((W.alloc (.cells #[.int .i64 0, .int .i64 2] 55)).alloc (.cells #[.int .i64 t0, .int .i64 t1, .int .i64 0] 27)) (.cells #[.int .i64 0, .int .i64 0, .int .i64 0, .bool false] 91))
  rw [show ((W.alloc (.cells #[.int .i64 0, .int .i64 2] 55)).alloc (.cells #[.int .i64 t0, .int .i64 t1, .int .i64 0] 27)).heap.size = W.heap.size + 2 by simp] at hn2
  have hn1' := heap_alloc_new (W.alloc (.cells #[.int .i64 0, .int .i64 2] 55)) (.cells #[.int .i64 t0, .int .i64 t1, .int .i64 0] 27)
  rw [show (W.alloc (.cells #[.int .i64 0, .int .i64 2] 55)).heap.size = W.heap.size + 1 by simp] at hn1'
  have hn1 := (Below.heap_alloc ((W.alloc (.cells #[.int .i64 0, .int .i64 2] 55)).alloc (.cells #[.int .i64 t0, .int .i64 t1, .int .i64 0] 27)) (.cells #[.int .i64 0, .int .i64 0, .int .i64 0, .bool false] 91) (W.heap.size + 1) (by simp)).trans hn1'
  clear hn1'
  have HBB := Lib.hid (And.intro HBb (And.intro hs3 (And.intro hn1 hn2)))
  clear hz ha hv0 hv1 hv2 hv3 HBb hs3 hn1 hn2
  go_enter Tryz.func34, Tryz.ntmps34
  go_wp2_with (first
    | (go_at_call 59; refine (C1.out _).mono ?_; clear C1; rintro e w1 ⟨rfl, hB⟩; have hs1 := hB.size; rw [HBB.out.2.1] at hs1; have HB1 := Lib.hid (HBB.out.1.trans (hB.mono HBB.out.1.size)); have hm1 := (Below.heap_alloc w1 (.cells #[.int .i64 9, .int .i64 2, .int .i64 2, .bool true] 91) (W.heap.size + 1) (by omega)).trans ((hB.block (W.heap.size + 1) (by rw [HBB.out.2.1]; omega)).trans HBB.out.2.2.1); have hm2 := (Below.heap_alloc w1 (.cells #[.int .i64 9, .int .i64 2, .int .i64 2, .bool true] 91) (W.heap.size + 1 + 1) (by omega)).trans ((hB.block (W.heap.size + 2) (by rw [HBB.out.2.1]; omega)).trans HBB.out.2.2.2); have hzz := (Below.heap_alloc w1 (.cells #[.int .i64 9, .int .i64 2, .int .i64 2, .bool true] 91) zb (by omega)).trans ((HB1.out.block zb hlt).trans HZ.out); have hx5 : ¬ zb = W.heap.size + 1 + 1 := (by omega); have hx6 : ¬ W.heap.size + 1 + 1 = zb := (by omega); obtain ⟨q0, q0f⟩ := cell_of hzz 137 _ HV.out.1; obtain ⟨p0, p0f⟩ := cell_of hzz 36 _ HV.out.2.1; obtain ⟨p1, p1f⟩ := cell_of hzz 37 _ HV.out.2.2.1; obtain ⟨p2, p2f⟩ := cell_of hzz 38 _ HV.out.2.2.2.1; obtain ⟨p3, p3f⟩ := cell_of hzz 39 _ HV.out.2.2.2.2; obtain ⟨-, -, m2, -⟩ := cells3 hm1; obtain ⟨⟨n0, n0f⟩, ⟨n1, n1f⟩, ⟨n2, n2f⟩, n3, n3f⟩ := cells4 hm2; have q1 := (cell_of ((HB1.out.block zb hlt).trans HZ.out) 137 _ HV.out.1).1; have HZ1 := Lib.hid hzz; have HM2 := Lib.hid hm2; clear hB hm1 hm2 hzz)
    | (go_at_call 60; refine (C2.out _).mono ?_; clear C2; rintro e w2 ⟨rfl, rfl⟩)
    | fail)
  have hn4 := heap_alloc_new w1 (.cells #[.int .i64 9, .int .i64 2, .int .i64 2, .bool true] 91)
  have HB4 := Lib.hid (HB1.out.alloc HB1.out.size (.cells #[.int .i64 9, .int .i64 2, .int .i64 2, .bool true] 91))
  have hs4 : (w1.alloc (.cells #[.int .i64 9, .int .i64 2, .int .i64 2, .bool true] 91)).heap.size = w1.heap.size + 1 := by simp
  obtain ⟨W4, hW4⟩ : ∃ W4, w1.alloc (.cells #[.int .i64 9, .int .i64 2, .int .i64 2, .bool true] 91) = W4 := ⟨_, rfl⟩
  rw [hW4] at hn4 HB4 hs4 q0 q0f p0 p0f p1 p1f p2 p2f p3 p3f m2 n0 n0f n1 n1f n2 n2f n3 n3f HZ1 HM2 ⊢
  obtain ⟨g, hg⟩ : ∃ g, w1.heap.size = g := ⟨_, rfl⟩
  obtain ⟨r, hr⟩ : ∃ r, W.heap.size + 1 + 1 = r := ⟨_, rfl⟩
  rw [hr] at hx5 hx6 n0 n0f n1 n1f n2 n2f n3 n3f HM2 ⊢
  rw [hg] at hn4 hs4 hs1 ⊢
  have hgz : ¬ g = zb := by omega
  have hzg : ¬ zb = g := by omega
  have hrg : ¬ r = g := by omega
  have hgr : ¬ g = r := by omega
  have HRB : Hid (W.heap.size ≤ r) := Lib.hid (by omega)
  obtain ⟨⟨c0, -⟩, ⟨c1, -⟩, ⟨c2, -⟩, c3, -⟩ := cells4 hn4
  clear hW4 hg hr hn4 hs4 hs1 m2 q1 HB1
  go_region
  have hoth : ∀ x, x ≠ zb → (((((W4.setCell ⟨zb, 36, none⟩ (.int .i64 9)).setCell ⟨zb, 37, none⟩ (.int .i64 2)).setCell ⟨zb, 38, none⟩ (.int .i64 2)).setCell ⟨zb, 39, none⟩ (.bool true)).setCell ⟨zb, 137, none⟩ (.bool true)).heap[x]? = W4.heap[x]? := fun x hx =>
    (Below.heap_setCell _ _ _ _ hx).trans ((Below.heap_setCell _ _ _ _ hx).trans ((Below.heap_setCell _ _ _ _ hx).trans ((Below.heap_setCell _ _ _ _ hx).trans (Below.heap_setCell _ _ _ _ hx))))
  have hzz : (((((W4.setCell ⟨zb, 36, none⟩ (.int .i64 9)).setCell ⟨zb, 37, none⟩ (.int .i64 2)).setCell ⟨zb, 38, none⟩ (.int .i64 2)).setCell ⟨zb, 39, none⟩ (.bool true)).setCell ⟨zb, 137, none⟩ (.bool true)).heap[zb]? = some (.cells (((((z.set! 36 (.int .i64 9)).set! 37 (.int .i64 2)).set! 38 (.int .i64 2)).set! 39 (.bool true)).set! 137 (.bool true)) 122) :=
    heap_setCell_same _ zb 137 _ 122 _ (heap_setCell_same _ zb 39 _ 122 _ (heap_setCell_same _ zb 38 _ 122 _ (heap_setCell_same _ zb 37 _ 122 _ (heap_setCell_same _ zb 36 _ 122 _ HZ1.out))))
  have hgf : GF (fun x => x = zb) W (((((W4.setCell ⟨zb, 36, none⟩ (.int .i64 9)).setCell ⟨zb, 37, none⟩ (.int .i64 2)).setCell ⟨zb, 38, none⟩ (.int .i64 2)).setCell ⟨zb, 39, none⟩ (.bool true)).setCell ⟨zb, 137, none⟩ (.bool true)) := by
    have g0 : GF (fun x => x = zb) W W4 := gf_below HB4.out
    exact gf_set (gf_set (gf_set (gf_set (gf_set g0 (.inl rfl) _) (.inl rfl) _) (.inl rfl) _) (.inl rfl) _) (.inl rfl) _
  have hm2 := (hoth r hx6).trans HM2.out
  have d0 := (World.cell?_of_block (a := ⟨g, 0, none⟩) (hoth g hgz)).trans c0
  have d1 := (World.cell?_of_block (a := ⟨g, 1, none⟩) (hoth g hgz)).trans c1
  have d2 := (World.cell?_of_block (a := ⟨g, 2, none⟩) (hoth g hgz)).trans c2
  have d3 := (World.cell?_of_block (a := ⟨g, 3, none⟩) (hoth g hgz)).trans c3
  obtain ⟨⟨n0', n0f'⟩, ⟨n1', n1f'⟩, ⟨n2', n2f'⟩, n3', n3f'⟩ := cells4 hm2
  have HM5 := Lib.hid hm2
  have HZ5 := Lib.hid hzz
  have HG5 := Lib.hid hgf
  obtain ⟨W5, hW5⟩ : ∃ W5, ((((W4.setCell ⟨zb, 36, none⟩ (.int .i64 9)).setCell ⟨zb, 37, none⟩ (.int .i64 2)).setCell ⟨zb, 38, none⟩ (.int .i64 2)).setCell ⟨zb, 39, none⟩ (.bool true)).setCell ⟨zb, 137, none⟩ (.bool true) = W5 := ⟨_, rfl⟩
  rw [hW5] at d0 d1 d2 d3 n0' n0f' n1' n1f' n2' n2f' n3' n3f' HM5 HZ5 HG5 ⊢
  clear hW5 hoth hzz hgf hm2 q0 q0f p0 p0f p1 p1f p2 p2f p3 p3f n0 n0f n1 n1f n2 n2f n3 n3f c0 c1 c2 c3
  go_wp2_with fail
  have hrz : ∀ (a b c d : Value), ((((W5.setCell ⟨r, 0, none⟩ a).setCell ⟨r, 1, none⟩ b).setCell ⟨r, 2, none⟩ c).setCell ⟨r, 3, none⟩ d).heap[zb]? = W5.heap[zb]? := fun a b c d =>
    (Below.heap_setCell _ _ _ _ hx5).trans ((Below.heap_setCell _ _ _ _ hx5).trans ((Below.heap_setCell _ _ _ _ hx5).trans (Below.heap_setCell _ _ _ _ hx5)))
  have hrr : ((((W5.setCell ⟨r, 0, none⟩ (.int .i64 9)).setCell ⟨r, 1, none⟩ (.int .i64 2)).setCell ⟨r, 2, none⟩ (.int .i64 2)).setCell ⟨r, 3, none⟩ (.bool true)).heap[r]? = some (.cells #[.int .i64 9, .int .i64 2, .int .i64 2, .bool true] 91) :=
    heap_setCell_same _ r 3 _ 91 _ (heap_setCell_same _ r 2 _ 91 _ (heap_setCell_same _ r 1 _ 91 _ (heap_setCell_same _ r 0 _ 91 _ HM5.out)))
  refine bodyPost_ret (results_cell_row_tmp Tryz.results34 _ _ r 91 _ (0, 0) _ rfl hrr Tryz.underlying91 rfl (by kernel_rfl)) rfl ⟨rfl, (hrz _ _ _ _).trans HZ5.out, ?_⟩
  exact gf_drew (gf_set (p := ⟨r, 3, none⟩) (gf_set (p := ⟨r, 2, none⟩) (gf_set (p := ⟨r, 1, none⟩) (gf_set (p := ⟨r, 0, none⟩) HG5.out (.inr HRB.out) _) (.inr HRB.out) _) (.inr HRB.out) _) (.inr HRB.out) _)
end Go.Proofs.YtlcaepcojglbiaaGreatDoor.Tp
namespace Go.Proofs.YtlcaepcojglbiaaGreatDoor.Tp
open Go.RowKit Go.Maps
set_option linter.unusedVariables false
set_option linter.unusedSimpArgs false
set_option maxHeartbeats 4000000 in
theorem of_any {b : Nat} (cap : Nat) (i : Nat) (hi : i < 16) (W : World) (h : W.cell? ⟨b, 0, none⟩ = some (.int .i64 (i : Nat))) : Calls Tryz.prog 18 #[.slice (some ⟨b, 0, none⟩) 1 cap] W fun e W' => e = .returned (.int .u32 ((2 ^ i : Nat) : Int)) ∧ W' = W := by
  have C := Lib.hid (bit_in i hi)
  have hp := pow16 hi
  have ha := u32_or 0 (2 ^ i) (by omega) (by omega)
  rw [Nat.zero_or] at ha
  obtain ⟨x, hx⟩ : ∃ x, 2 ^ i = x := ⟨_, rfl⟩
  rw [hx] at C ha ⊢
  replace ha : bits .or .u32 0 (x : Int) = (x : Int) := ha
  clear hx hp
  go_enter Tryz.func18, Tryz.ntmps18
  go_wp2_with fail
  go_loopw [3, 8] (fun s3 s8 wr => ∃ (k : Nat), k ≤ 1 ∧ s8 = .int .i64 k ∧ s3 = .int .u32 (if k = 0 then 0 else x : Nat) ∧ wr = W) (fun _ s8 _ => 1 - (intOf s8).toNat)
  case atStart => exact ⟨0, by omega, rfl, rfl, rfl⟩
  case round =>
    obtain ⟨k, hk, rfl, rfl, rfl⟩ := hrel
    rcases (show k = 0 ∨ k = 1 by omega) with rfl | rfl
    · go_wp2_with (first | (go_at_call 40; refine (C.out _).mono ?_; clear C; rintro e w1 ⟨rfl, rfl⟩) | fail)
      all_goals exact ⟨⟨1, by omega, by simp, rfl, by first | rfl | trivial⟩, by simp [intOf]⟩
    · go_wp2
      go_ret
      exact ⟨rfl, rfl⟩
def tm9 : Tm := ⟨9, 2, 2, 2, false⟩
section
variable {A : EA} {E : En} {M : GM} {sb zb : Nat} {z : Array Value}
/-- A step of the engine, as user takes it. -/
theorem udo_at (s : St) (W : World) (h : UR A E sb zb z W) (hE : EI E M) (hw : s.wf) (hg : E.K.gen < 1000000) : Calls Tryz.prog 7 #[ptr A.e, stv s] W fun e W' => ∃ p m c x o E' M', e = .returned (.tuple #[.slice p m c, .int .i64 x]) ∧ DoR E M s o x E' M' ∧ FT W.heap.size (.slice p m c) o W' ∧ UR A E' sb zb z W' ∧ EI E' M' ∧ GF (A.has E.n) W W' ∧ E'.n = E.n := by
  refine (edo_at s W h.er hE hw).mono ?_
  rintro e W' ⟨o, x, E', M', hd, ⟨v, rfl, hf⟩, her, hgf⟩
  obtain ⟨p, m, c, rfl⟩ := own_slice hf
  obtain ⟨h1, h2, -⟩ := dor_ei hE hw.t hg hd
  exact ⟨p, m, c, x, o, E', M', rfl, hd, hf, ur_er h her h2 hgf, h1, hgf, h2⟩
def sCancel : St := ⟨2, 0, 9, tm0⟩
def sStart : St := ⟨1, 0, 0, tm9⟩
theorem wf9 : tm9.wf := ⟨by unfold i64; decide, by unfold i64; decide, by unfold i64; decide, by unfold i64; decide⟩
theorem wf0 : tm0.wf := ⟨by unfold i64; decide, by unfold i64; decide, by unfold i64; decide, by unfold i64; decide⟩
theorem sCancel_wf : sCancel.wf := ⟨by unfold i64; decide, by unfold i64; decide, by unfold i64; decide, wf0⟩
theorem sStart_wf : sStart.wf := ⟨by unfold i64; decide, by unfold i64; decide, by unfold i64; decide, wf9⟩
def En.put9 (E : En) : En := (E.put 0 tm9).look 0
def Mput9 (M : GM) : GM := Mset M 9 (some (0, tm9))
set_option maxRecDepth 100000 in
set_option maxHeartbeats 4000000 in
theorem put9_at (W : World) (h : UR A E sb zb z W) (hE : EI E M) (hM : M 9 = none) (hg : E.K.gen < 1000000) (hon : onl E.on 16 = [0]) (hwn : E.wn < 64) : Calls Tryz.prog 37 #[ptr sb, .int .i64 9, .int .i64 2, .int .i64 2, .int .i64 0, .bool false] W fun e W' => e = .returned (.tuple #[]) ∧ UR A E.put9 sb zb z W' ∧ EI E.put9 (Mput9 M) ∧ GF (A.has E.n) W W' := by
  have ho0 : E.on 0 = true := (onl_mem.1 (by rw [hon]; simp : 0 ∈ onl E.on 16)).2
  have C1 : Hid (Calls Tryz.prog 7 #[ptr A.e, stv sCancel] W fun e W' => (∃ v, e = .returned v) ∧ UR A E sb zb z W' ∧ GF (A.has E.n) W W') := Lib.hid ((udo_at sCancel W h hE sCancel_wf hg).mono (by
    rintro e W' ⟨p, m, c, x, o, E', M', rfl, hd, hf, hu, he, hgf, -⟩
    refine ⟨⟨_, rfl⟩, ?_, hgf⟩
    cases hd with
    | cancel_no hk hn => exact hu
    | cancel_ok i t hk hn =>
      rw [show M sCancel.n = none from hM] at hn
      cases hn
    | start_ok i hk => exact absurd hk (by unfold sCancel; decide)
    | start_no x hk => exact hu
    | adv_no hk => exact hu
    | adv_ok hk => exact absurd hk (by unfold sCancel; decide)
    | of_no x hk => exact hu
    | irq i hk => exact absurd hk (by unfold sCancel; decide)
    | soft i hk => exact absurd hk (by unfold sCancel; decide)
    | kick i hk => exact absurd hk (by unfold sCancel; decide)
    | offl i d hk => exact absurd hk (by unfold sCancel; decide)
    | clk x K' hk =>
      rcases hk with ⟨hk, -⟩ | ⟨hk, -⟩ | ⟨hk, -⟩ <;> exact absurd hk (by unfold sCancel; decide)
    | bring_no x hk => exact hu
    | bring_ok i hk => exact absurd hk (by unfold sCancel; decide)
    | settle o E' M' hk => exact absurd hk (by unfold sCancel; decide)
    | other hk => exact hu))
  have C2 : Hid (∀ w, UR A E sb zb z w → Calls Tryz.prog 7 #[ptr A.e, stv sStart] w fun e W' => (∃ v, e = .returned v) ∧ UR A E.put9 sb zb z W' ∧ EI E.put9 (Mput9 M) ∧ GF (A.has E.n) w W') := Lib.hid fun w hw => (udo_at sStart w hw hE sStart_wf hg).mono (by
    rintro e W' ⟨p, m, c, x, o, E', M', rfl, hd, hf, hu, he, hgf, -⟩
    have hcpu : ∀ i : Nat, sStart.cpu = (i : Nat) → i = 0 := fun i hi => by
      have : (0 : Int) = (i : Int) := hi
      omega
    cases hd with
    | start_ok i hk hc =>
      obtain rfl := hcpu i hc
      exact ⟨⟨_, rfl⟩, hu, he, hgf⟩
    | start_no x hk hno =>
      exfalso
      rcases hno with h1 | h1 | h1 | h1
      · have : onI E.on 0 = true := by
          unfold onI
          rw [show ((0 : Int)).toNat = 0 from rfl, ho0]
          rfl
        rw [show sStart.cpu = 0 from rfl, this] at h1
        cases h1
      · exact absurd h1 (by decide)
      · rw [show M sStart.t.id = none from hM] at h1
        cases h1
      · omega
    | cancel_no hk hn => exact absurd hk (by unfold sStart; decide)
    | cancel_ok i t hk hn => exact absurd hk (by unfold sStart; decide)
    | adv_no hk => exact absurd hk (by unfold sStart; decide)
    | adv_ok hk => exact absurd hk (by unfold sStart; decide)
    | of_no x hk => rcases hk with hk | hk | hk | hk <;> exact absurd hk (by unfold sStart; decide)
    | irq i hk => exact absurd hk (by unfold sStart; decide)
    | soft i hk => exact absurd hk (by unfold sStart; decide)
    | kick i hk => exact absurd hk (by unfold sStart; decide)
    | offl i d hk => exact absurd hk (by unfold sStart; decide)
    | clk x K' hk =>
      rcases hk with ⟨hk, -⟩ | ⟨hk, -⟩ | ⟨hk, -⟩ <;> exact absurd hk (by unfold sStart; decide)
    | bring_no x hk => exact absurd hk (by unfold sStart; decide)
    | bring_ok i hk => exact absurd hk (by unfold sStart; decide)
    | settle o E' M' hk => exact absurd hk (by unfold sStart; decide)
    | other hk => exact absurd hk (by unfold sStart; decide))
  have C1' : Hid (Calls Tryz.prog 7 #[ptr A.e, .agg #[.int .i64 2, .int .i64 0, .int .i64 9, .int .i64 0, .int .i64 0, .int .i64 0, .int .i64 0, .bool false]] W fun e W' => (∃ v, e = .returned v) ∧ UR A E sb zb z W' ∧ GF (A.has E.n) W W') := C1
  have C2' : Hid (∀ w, UR A E sb zb z w → Calls Tryz.prog 7 #[ptr A.e, .agg #[.int .i64 1, .int .i64 0, .int .i64 0, .int .i64 9, .int .i64 2, .int .i64 2, .int .i64 2, .bool false]] w fun e W' => (∃ v, e = .returned v) ∧ UR A E.put9 sb zb z W' ∧ EI E.put9 (Mput9 M) ∧ GF (A.has E.n) w W') := C2
  have C3 := Lib.hid (fun w => never_no (t := 2) (by omega) w)
  have C4 : Hid (∀ w, UR A E sb zb z w → Calls Tryz.prog 64 #[ptr A.e] w fun e w' => ∃ gb cap, e = .returned (.slice (some ⟨gb, 0, none⟩) 1 cap) ∧ w'.cell? ⟨gb, 0, none⟩ = some (.int .i64 ((0 : Nat) : Int)) ∧ Below w.heap.size w w') := Lib.hid fun w hw => (eonline_at w hw.er).mono (by
    rintro e w' ⟨v, rfl, hI, hB⟩
    rw [hon] at hI
    obtain ⟨p, m, c, rfl⟩ := own_slice hI
    have hm : m = 1 := own_len hI
    subst hm
    obtain ⟨gb, rfl, -, -, hc⟩ := it_get (k := 0) (i := 0) hI rfl
    exact ⟨gb, c, rfl, hc, hB⟩)
  have C5 := Lib.hid (fun b cap w h => of_any (b := b) cap 0 (by omega) w h)
  have hmk := mk_with mk_zero (i := 0) (by omega)
  rw [Nat.zero_or] at hmk
  have C6 := Lib.hid (fun w => mhas_in hmk 0 (by omega) w)
  rw [show mwith (fun _ => false) 0 0 = true by decide] at C6
  have H := Lib.hid h
  obtain ⟨s0, -, -⟩ := ur_cells h
  have HS := Lib.hid (fun w (hw : UR A E sb zb z w) => (ur_cells hw).1)
  clear h hE hM hg hon hwn ho0 C1 C2 hmk
  go_enter Tryz.func37, Tryz.ntmps37
  go_wp2_with (first
    | (go_at_call 7; with_reducible refine (C1'.out).mono ?_; clear C1'; rintro e w1 ⟨⟨v, rfl⟩, hu, hgf⟩; have s1 := HS.out _ hu; have HU1 := Lib.hid hu; have HG1 := Lib.hid hgf; clear hu hgf)
    | (go_at_call 62; refine (C3.out _).mono ?_; clear C3; rintro e w1 ⟨rfl, rfl⟩)
    | (go_at_call 64; refine (C4.out _ HU1.out).mono ?_; clear C4; rintro e w2 ⟨gb, cap, rfl, hc, hB⟩; have HU2 := Lib.hid (ur_below HU1.out hB); have s2 := HS.out _ HU2.out; have HG2 := Lib.hid (gf_trans HG1.out (gf_below hB)); have HC := Lib.hid hc; clear hB hc)
    | (go_at_call 18; refine (C5.out _ _ _ HC.out).mono ?_; clear C5; rintro e w2 ⟨rfl, rfl⟩)
    | (go_at_call 55; refine (C6.out _).mono ?_; clear C6; rintro e w2 ⟨rfl, rfl⟩)
    | (go_at_call 7; with_reducible refine (C2'.out _ HU2.out).mono ?_; clear C2'; rintro e w3 ⟨⟨v2, rfl⟩, hu, he, hgf⟩; have HH := Lib.hid (And.intro hu (And.intro he (gf_trans HG2.out hgf))); clear hu he hgf)
    | fail)
  exact bodyPost_end (results_none rfl _ _ _) rfl ⟨rfl, HH.out⟩
end
end Go.Proofs.YtlcaepcojglbiaaGreatDoor.Tp
