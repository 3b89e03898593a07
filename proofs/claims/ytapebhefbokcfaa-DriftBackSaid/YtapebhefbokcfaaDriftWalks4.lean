import Derived.Test.YtapebhefbokcfaaDriftWalks3
namespace Go.Proofs.Ytapebhefbokcfaa.DWalk
open Go.RowKit Go.Proofs.Ytapebhefbokcfaa.DMath

def cl2 (n : Int) : Int := if 2199023255552 < n then 2199023255552 else if n < -2199023255552 then -2199023255552 else n
/-- What From answers: the least near time, within bounds, that isn't too early. -/
def Least (a f r t x : Int) : Prop := -4398046511104 ≤ x ∧ x ≤ 4398046511104 ∧ (∀ y, -4398046511104 ≤ y → y < x → F a f r y < t) ∧ (x < 4398046511104 → t ≤ F a f r x)
def FI (a f r t lo hi : Int) : Prop := (∀ y, -4398046511104 ≤ y → y < lo → F a f r y < t) ∧ (hi < 4398046511104 → t ≤ F a f r hi)
theorem fi_0 (a f r t : Int) : FI a f r t (-4398046511104) 4398046511104 := ⟨fun y h1 h2 => by omega, fun h => by omega⟩
theorem fi_low {a f r t lo hi k m : Int} (hR : Rt a f r) (h : FI a f r t lo hi) (hk : F a f r m = k) (hlt : k < t) : FI a f r t (m + 1) hi :=
  ⟨fun y _ h2 => by have := F_mono a f r hR.1 hR.2.1 (n := y) (m := m) (by omega); omega, h.2⟩
theorem fi_high {a f r t lo hi k m : Int} (h : FI a f r t lo hi) (hk : F a f r m = k) (hle : t ≤ k) : FI a f r t lo m := ⟨h.1, fun _ => by omega⟩
theorem fi_end {a f r t lo : Int} (h1 : -4398046511104 ≤ lo) (h2 : lo ≤ 4398046511104) (h : FI a f r t lo lo) : Least a f r t lo := ⟨h1, h2, h.1, h.2⟩
theorem far_le (a f r : Int) (h : Rt a f r) (w : World) (n : Int) (hn : -4398046511104 ≤ n) (hn' : n ≤ 4398046511104) : Calls Try.prog 40 #[.agg #[.int .i64 a, .int .i64 f, .int .i64 r], .int .i64 n] w fun e w' => ∃ k, F a f r n = k ∧ e = .returned (.int .i64 k) ∧ Below w.heap.size w w' :=
  (far_any a f r n w h (by omega) (by omega)).mono fun _ _ q => ⟨_, rfl, q⟩
def FromOut (a f r t : Int) (w : World) (e : Ending) (w' : World) : Prop := ∃ x, Least a f r t x ∧ e = .returned (.int .i64 x) ∧ Below w.heap.size w w'

set_option maxHeartbeats 1000000 in
theorem from_hi (a f r t : Int) (w : World) (h : Rt a f r) (ht : 2199023255552 < t) : Calls Try.prog 29 #[.agg #[.int .i64 a, .int .i64 f, .int .i64 r], .int .i64 t] w (FromOut a f r 2199023255552 w) := by
  have C1 := Lib.hid (fun w => right_yes a f r w h)
  have C2 := Lib.hid (far_le a f r h)
  have HR := Lib.hid h; clear h
  go_enter Try.func29, Try.ntmps29
  go_wp2_with (first
    | (go_at_call 26; (with_reducible (refine (C1.out _).mono ?_)); rintro e w1 ⟨rfl, hb1⟩; have HC := Lib.hid (bcell hb1); have HB := Lib.hid (below_box _ hb1); have HZ := Lib.hid (show w.heap.size < w1.heap.size by have := hb1.size; simp at this; omega); clear hb1)
    | fail)
  go_loopw [5, 6] (fun l u W => ∃ lo hi : Int, -4398046511104 ≤ lo ∧ lo ≤ hi ∧ hi ≤ 4398046511104 ∧ l = .int .i64 lo ∧ u = .int .i64 hi ∧ Hid (FI a f r 2199023255552 lo hi) ∧ Hid (Below w.heap.size w W) ∧ w.heap.size < W.heap.size ∧ W.cell? ⟨w.heap.size, 0, none⟩ = some (.int .i64 a) ∧ W.cell? ⟨w.heap.size, 1, none⟩ = some (.int .i64 f) ∧ W.cell? ⟨w.heap.size, 2, none⟩ = some (.int .i64 r)) (fun l u _ => (intOf u - intOf l).toNat)
  case atStart =>
    exact ⟨_, _, by omega, by omega, by omega, rfl, rfl, fi_0 a f r _, HB.out, HZ.out, (HC.out.1 _ 0 (by simp)).trans (by simp), (HC.out.1 _ 1 (by simp)).trans (by simp), (HC.out.1 _ 2 (by simp)).trans (by simp)⟩
  case round =>
    obtain ⟨lo, hi, h1, h2, h3, rfl, rfl, HI, HB2, hz, hc0, hc1, hc2⟩ := hrel
    by_cases hlt : lo < hi
    · go_wp2_with (first
        | (go_at_call 40; (with_reducible (refine (C2.out _ _ (by omega) (by omega)).mono ?_)); rintro e w2 ⟨k, hk, rfl, hb2⟩; have HK := Lib.hid hk; clear hk; have HB3 := Lib.hid (below_then HB2.out hb2); have hz2 : w.heap.size < w2.heap.size := (by have := hb2.size; omega); have hd0 := ((bcell hb2).1 _ 0 hz).trans hc0; have hd1 := ((bcell hb2).1 _ 1 hz).trans hc1; have hd2 := ((bcell hb2).1 _ 2 hz).trans hc2; clear hb2)
        | fail)
      · go_roundw
        case rel => exact ⟨_, _, h1, by omega, by omega, rfl, rfl, fi_high HI.out HK.out (by assumption), HB3.out, hz2, hd0, hd1, hd2⟩
        case measure => simp [intOf]; omega
      · go_roundw
        case rel => exact ⟨_, _, by omega, by omega, h3, rfl, rfl, fi_low HR.out HI.out HK.out (by omega), HB3.out, hz2, hd0, hd1, hd2⟩
        case measure => simp [intOf]; omega
    · obtain rfl : hi = lo := by omega
      go_wp2
      go_ret
      exact ⟨_, fi_end h1 h3 HI.out, rfl, HB2.out⟩

set_option maxHeartbeats 1000000 in
theorem from_lo (a f r t : Int) (w : World) (h : Rt a f r) (ht : t < -2199023255552) : Calls Try.prog 29 #[.agg #[.int .i64 a, .int .i64 f, .int .i64 r], .int .i64 t] w (FromOut a f r (-2199023255552) w) := by
  have C1 := Lib.hid (fun w => right_yes a f r w h)
  have C2 := Lib.hid (far_le a f r h)
  have HR := Lib.hid h; clear h
  go_enter Try.func29, Try.ntmps29
  go_wp2_with (first
    | (go_at_call 26; (with_reducible (refine (C1.out _).mono ?_)); rintro e w1 ⟨rfl, hb1⟩; have HC := Lib.hid (bcell hb1); have HB := Lib.hid (below_box _ hb1); have HZ := Lib.hid (show w.heap.size < w1.heap.size by have := hb1.size; simp at this; omega); clear hb1)
    | fail)
  go_loopw [5, 6] (fun l u W => ∃ lo hi : Int, -4398046511104 ≤ lo ∧ lo ≤ hi ∧ hi ≤ 4398046511104 ∧ l = .int .i64 lo ∧ u = .int .i64 hi ∧ Hid (FI a f r (-2199023255552) lo hi) ∧ Hid (Below w.heap.size w W) ∧ w.heap.size < W.heap.size ∧ W.cell? ⟨w.heap.size, 0, none⟩ = some (.int .i64 a) ∧ W.cell? ⟨w.heap.size, 1, none⟩ = some (.int .i64 f) ∧ W.cell? ⟨w.heap.size, 2, none⟩ = some (.int .i64 r)) (fun l u _ => (intOf u - intOf l).toNat)
  case atStart =>
    exact ⟨_, _, by omega, by omega, by omega, rfl, rfl, fi_0 a f r _, HB.out, HZ.out, (HC.out.1 _ 0 (by simp)).trans (by simp), (HC.out.1 _ 1 (by simp)).trans (by simp), (HC.out.1 _ 2 (by simp)).trans (by simp)⟩
  case round =>
    obtain ⟨lo, hi, h1, h2, h3, rfl, rfl, HI, HB2, hz, hc0, hc1, hc2⟩ := hrel
    by_cases hlt : lo < hi
    · go_wp2_with (first
        | (go_at_call 40; (with_reducible (refine (C2.out _ _ (by omega) (by omega)).mono ?_)); rintro e w2 ⟨k, hk, rfl, hb2⟩; have HK := Lib.hid hk; clear hk; have HB3 := Lib.hid (below_then HB2.out hb2); have hz2 : w.heap.size < w2.heap.size := (by have := hb2.size; omega); have hd0 := ((bcell hb2).1 _ 0 hz).trans hc0; have hd1 := ((bcell hb2).1 _ 1 hz).trans hc1; have hd2 := ((bcell hb2).1 _ 2 hz).trans hc2; clear hb2)
        | fail)
      · go_roundw
        case rel => exact ⟨_, _, h1, by omega, by omega, rfl, rfl, fi_high HI.out HK.out (by assumption), HB3.out, hz2, hd0, hd1, hd2⟩
        case measure => simp [intOf]; omega
      · go_roundw
        case rel => exact ⟨_, _, by omega, by omega, h3, rfl, rfl, fi_low HR.out HI.out HK.out (by omega), HB3.out, hz2, hd0, hd1, hd2⟩
        case measure => simp [intOf]; omega
    · obtain rfl : hi = lo := by omega
      go_wp2
      go_ret
      exact ⟨_, fi_end h1 h3 HI.out, rfl, HB2.out⟩

set_option maxHeartbeats 1000000 in
theorem from_mid (a f r t : Int) (w : World) (h : Rt a f r) (ht : -2199023255552 ≤ t) (ht2 : t ≤ 2199023255552) : Calls Try.prog 29 #[.agg #[.int .i64 a, .int .i64 f, .int .i64 r], .int .i64 t] w (FromOut a f r t w) := by
  have C1 := Lib.hid (fun w => right_yes a f r w h)
  have C2 := Lib.hid (far_le a f r h)
  have HR := Lib.hid h; clear h
  go_enter Try.func29, Try.ntmps29
  go_wp2_with (first
    | (go_at_call 26; (with_reducible (refine (C1.out _).mono ?_)); rintro e w1 ⟨rfl, hb1⟩; have HC := Lib.hid (bcell hb1); have HB := Lib.hid (below_box _ hb1); have HZ := Lib.hid (show w.heap.size < w1.heap.size by have := hb1.size; simp at this; omega); clear hb1)
    | fail)
  go_loopw [5, 6] (fun l u W => ∃ lo hi : Int, -4398046511104 ≤ lo ∧ lo ≤ hi ∧ hi ≤ 4398046511104 ∧ l = .int .i64 lo ∧ u = .int .i64 hi ∧ Hid (FI a f r t lo hi) ∧ Hid (Below w.heap.size w W) ∧ w.heap.size < W.heap.size ∧ W.cell? ⟨w.heap.size, 0, none⟩ = some (.int .i64 a) ∧ W.cell? ⟨w.heap.size, 1, none⟩ = some (.int .i64 f) ∧ W.cell? ⟨w.heap.size, 2, none⟩ = some (.int .i64 r)) (fun l u _ => (intOf u - intOf l).toNat)
  case atStart =>
    exact ⟨_, _, by omega, by omega, by omega, rfl, rfl, fi_0 a f r _, HB.out, HZ.out, (HC.out.1 _ 0 (by simp)).trans (by simp), (HC.out.1 _ 1 (by simp)).trans (by simp), (HC.out.1 _ 2 (by simp)).trans (by simp)⟩
  case round =>
    obtain ⟨lo, hi, h1, h2, h3, rfl, rfl, HI, HB2, hz, hc0, hc1, hc2⟩ := hrel
    by_cases hlt : lo < hi
    · go_wp2_with (first
        | (go_at_call 40; (with_reducible (refine (C2.out _ _ (by omega) (by omega)).mono ?_)); rintro e w2 ⟨k, hk, rfl, hb2⟩; have HK := Lib.hid hk; clear hk; have HB3 := Lib.hid (below_then HB2.out hb2); have hz2 : w.heap.size < w2.heap.size := (by have := hb2.size; omega); have hd0 := ((bcell hb2).1 _ 0 hz).trans hc0; have hd1 := ((bcell hb2).1 _ 1 hz).trans hc1; have hd2 := ((bcell hb2).1 _ 2 hz).trans hc2; clear hb2)
        | fail)
      · go_roundw
        case rel => exact ⟨_, _, h1, by omega, by omega, rfl, rfl, fi_high HI.out HK.out (by assumption), HB3.out, hz2, hd0, hd1, hd2⟩
        case measure => simp [intOf]; omega
      · go_roundw
        case rel => exact ⟨_, _, by omega, by omega, h3, rfl, rfl, fi_low HR.out HI.out HK.out (by omega), HB3.out, hz2, hd0, hd1, hd2⟩
        case measure => simp [intOf]; omega
    · obtain rfl : hi = lo := by omega
      go_wp2
      go_ret
      exact ⟨_, fi_end h1 h3 HI.out, rfl, HB2.out⟩

theorem from_yes (a f r t : Int) (w : World) (h : Rt a f r) : Calls Try.prog 29 #[.agg #[.int .i64 a, .int .i64 f, .int .i64 r], .int .i64 t] w (FromOut a f r (cl2 t) w) := by
  by_cases h1 : 2199023255552 < t
  · rw [show cl2 t = 2199023255552 by unfold cl2; rw [if_pos h1]]; exact from_hi a f r t w h h1
  · by_cases h2 : t < -2199023255552
    · rw [show cl2 t = -2199023255552 by unfold cl2; rw [if_neg h1, if_pos h2]]; exact from_lo a f r t w h h2
    · rw [show cl2 t = t by unfold cl2; rw [if_neg h1, if_neg h2]]; exact from_mid a f r t w h (by omega) (by omega)
set_option maxHeartbeats 400000 in
theorem from_no (a f r n : Int) (w : World) (h : ¬ Rt a f r) : Calls Try.prog 29 #[.agg #[.int .i64 a, .int .i64 f, .int .i64 r], .int .i64 n] w fun e w' => e = .returned (.int .i64 0) ∧ Below w.heap.size w w' := by
  have C1 := Lib.hid (fun w => right_no a f r w h)
  clear h
  go_enter Try.func29, Try.ntmps29
  go_wp2_with (go_at_call 26; (with_reducible (refine (C1.out _).mono ?_)); rintro e w1 ⟨rfl, hb1⟩; have HB := Lib.hid hb1; clear hb1)
  go_ret
  exact ⟨rfl, below_box _ HB.out⟩
set_option maxHeartbeats 400000 in
theorem gap_no (a f r n g : Int) (w : World) (h : ¬ Rt a f r) : Calls Try.prog 32 #[.agg #[.int .i64 a, .int .i64 f, .int .i64 r], .int .i64 n, .int .i64 g] w fun e w' => e = .returned (.int .i64 (cl g)) ∧ Below w.heap.size w w' := by
  obtain ⟨m, hm⟩ : ∃ m, m = cl g := ⟨_, rfl⟩
  have C1 := Lib.hid (fun w => to_no a f r n w h)
  rw [← hm]
  have HM := Lib.hid hm
  clear hm h
  go_enter Try.func32, Try.ntmps32
  go_wp2_with (go_at_call 28; (with_reducible (refine (C1.out _).mono ?_)); rintro e w1 ⟨rfl, hb1⟩; have HB := Lib.hid hb1; clear hb1)
  all_goals
    go_ret
    exact ⟨ret_int (by rw [HM.out]; unfold cl; (repeat' split) <;> omega), below_box _ HB.out⟩
end Go.Proofs.Ytapebhefbokcfaa.DWalk
