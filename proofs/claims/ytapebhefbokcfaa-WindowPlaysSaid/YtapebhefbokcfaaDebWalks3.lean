import Derived.Test.YtapebhefbokcfaaDebWalks2
namespace Go.Proofs.Ytapebhefbokcfaa.DebW
open Go.RowKit
set_option linter.unusedSimpArgs false
set_option linter.unusedVariables false
theorem pass_nil (w : World) (t : Int) : Calls Try.prog 14 #[.pointer none, .int .i64 t] w fun e w' => e = .returned (.tuple #[zb, .bool false]) ∧ Below w.heap.size w w' := by
  go_enter Try.func14, Try.ntmps14
  go_wp2
  exact bodyPost_ret (v := .tuple #[zb, .bool false]) (by simp [results, Try.results14, go_sem]) rfl ⟨rfl, (Below.refl _ _).alloc (Nat.le_refl _) _⟩
theorem poke_nil (w : World) (t : Int) : Calls Try.prog 15 #[.pointer none, .int .i64 t] w fun e w' => e = .returned (.tuple #[zb, .bool false]) ∧ Below w.heap.size w w' := by
  go_enter Try.func15, Try.ntmps15
  go_wp2_with (first | (go_at_call 14; refine (pass_nil _ _).mono ?_; rintro e w1 ⟨rfl, hb⟩; have HB := Lib.hid hb; have HR : RB w.heap.size w1 := (by have k := bcell hb; exact ⟨(k.1 _ 0 (by simp)).trans (by simp), (k.1 _ 1 (by simp)).trans (by simp), (k.1 _ 2 (by simp)).trans (by simp), (k.1 _ 3 (by simp)).trans (by simp), (k.2 _ 0 (by simp)).trans (by simp), (k.2 _ 1 (by simp)).trans (by simp), (k.2 _ 2 (by simp)).trans (by simp), (k.2 _ 3 (by simp)).trans (by simp), by have := hb.size; simp at this; omega⟩); clear hb; obtain ⟨r0, r1, r2, r3, y0, y1, y2, y3, hr⟩ := HR) | fail)
  refine bodyPost_ret (v := .tuple #[zb, .bool false]) (by simp [results, Try.results15, go_sem, r0, r1, r2, r3, hr]) rfl ⟨rfl, ?_⟩
  refine Below.alloc ?_ (by have := HB.out.size; simp at this ⊢; omega) _
  repeat (refine Below.setCell ?_ (by simp) _)
  exact ((Below.refl _ _).alloc (Nat.le_refl _) _).trans (HB.out.mono (by simp))

set_option maxHeartbeats 2000000 in
theorem poke_zero {b : Nat} {q m now F T P N F' T' x0 x1 x2 x3 : Int} {fl : Bool} (w : World) (t : Int) (h : FS b q m now F T P w) 
    (C0 : ∀ w, FS b q m now F T P w → Calls Try.prog 14 #[ptr b, .int .i64 t] w fun e w' => e = .returned (.tuple #[bu x0 x1 x2 x3, .bool fl]) ∧ FS b q m N F' T' 0 w' ∧ G b w w') :
    Calls Try.prog 15 #[ptr b, .int .i64 t] w fun e w' => e = .returned (.tuple #[bu x0 x1 x2 x3, .bool fl]) ∧ FS b q m N N N 1 w' ∧ G b w w' := by
  have C := Lib.hid C0
  have H := Lib.hid h
  clear C0
  obtain ⟨c0, c1, c2, c3, c4, c5, c6, z2, z3, z4, z5, z6, hz⟩ := h
  
  go_enter Try.func15, Try.ntmps15
  go_wp2_with (first | (go_at_call 14; refine (C.out _ ?_).mono ?_; (exact fs_alloc _ H.out); rintro e w1 ⟨rfl, hfs, hg⟩; have HG := Lib.hid (g_trans (b := b) (x := w) (by repeat (first | exact g_refl _ _ | refine g_alloc ?_ _ | refine g_set ?_ (.inl rfl) _)) hg); have HR := Lib.hid (rb_g (k := w.heap.size) hg (by omega) ⟨(by go_cell), (by go_cell), (by go_cell), (by go_cell), (by go_cell), (by go_cell), (by go_cell), (by go_cell), by simp⟩); have HF := Lib.hid hfs; clear hfs hg; obtain ⟨c0, c1, c2, c3, c4, c5, c6, z2, z3, z4, z5, z6, hz⟩ := HF.out; obtain ⟨r0, r1, r2, r3, y0, y1, y2, y3, hr⟩ := HR.out) | fail)
  have hz1 := HG.out.size
  refine bodyPost_ret (v := .tuple #[bu x0 x1 x2 x3, .bool fl]) (by simp [results, Try.results15, go_sem, r0, r1, r2, r3, hr]) rfl ⟨rfl, ⟨?_, ?_, ?_, ?_, ?_, ?_, ?_, ?_, ?_, ?_, ?_, ?_, ?_⟩, ?_⟩
  case refine_14 =>
    repeat (first | (with_reducible exact HG.out) | (with_reducible refine g_alloc ?_ _) | (with_reducible refine g_set ?_ (.inl rfl) _) | (with_reducible refine g_set ?_ (.inr (Nat.le_refl _)) _))
  all_goals first | go_cell | (go_simp; done) | (simp; omega)

set_option maxHeartbeats 2000000 in
theorem poke_more {b : Nat} {q m now F T P N F' T' P' x0 x1 x2 x3 : Int} {fl : Bool} (w : World) (t : Int) (h : FS b q m now F T P w) (hP : 0 < P') (hP2 : P' ≤ 1152921504606846976)
    (C0 : ∀ w, FS b q m now F T P w → Calls Try.prog 14 #[ptr b, .int .i64 t] w fun e w' => e = .returned (.tuple #[bu x0 x1 x2 x3, .bool fl]) ∧ FS b q m N F' T' P' w' ∧ G b w w') :
    Calls Try.prog 15 #[ptr b, .int .i64 t] w fun e w' => e = .returned (.tuple #[bu x0 x1 x2 x3, .bool fl]) ∧ FS b q m N F' N (P' + 1) w' ∧ G b w w' := by
  have C := Lib.hid C0
  have H := Lib.hid h
  clear C0
  obtain ⟨c0, c1, c2, c3, c4, c5, c6, z2, z3, z4, z5, z6, hz⟩ := h
  have hP0 : (P' == 0) = false := by rw [beq_eq_false_iff_ne]; omega
  go_enter Try.func15, Try.ntmps15
  go_wp2_with (first | (go_at_call 14; refine (C.out _ ?_).mono ?_; (exact fs_alloc _ H.out); rintro e w1 ⟨rfl, hfs, hg⟩; have HG := Lib.hid (g_trans (b := b) (x := w) (by repeat (first | exact g_refl _ _ | refine g_alloc ?_ _ | refine g_set ?_ (.inl rfl) _)) hg); have HR := Lib.hid (rb_g (k := w.heap.size) hg (by omega) ⟨(by go_cell), (by go_cell), (by go_cell), (by go_cell), (by go_cell), (by go_cell), (by go_cell), (by go_cell), by simp⟩); have HF := Lib.hid hfs; clear hfs hg; obtain ⟨c0, c1, c2, c3, c4, c5, c6, z2, z3, z4, z5, z6, hz⟩ := HF.out; obtain ⟨r0, r1, r2, r3, y0, y1, y2, y3, hr⟩ := HR.out) | fail)
  have hz1 := HG.out.size
  refine bodyPost_ret (v := .tuple #[bu x0 x1 x2 x3, .bool fl]) (by simp [results, Try.results15, go_sem, r0, r1, r2, r3, hr]) rfl ⟨rfl, ⟨?_, ?_, ?_, ?_, ?_, ?_, ?_, ?_, ?_, ?_, ?_, ?_, ?_⟩, ?_⟩
  case refine_14 =>
    repeat (first | (with_reducible exact HG.out) | (with_reducible refine g_alloc ?_ _) | (with_reducible refine g_set ?_ (.inl rfl) _) | (with_reducible refine g_set ?_ (.inr (Nat.le_refl _)) _))
  all_goals first | go_cell | (go_simp; done) | (simp; omega)

theorem poke_new {b : Nat} {q m now F T : Int} (w : World) (t : Int) (h : FS b q m now F T 0 w) (hnow : 0 ≤ now ∧ now ≤ 1152921504606846976) :
    Calls Try.prog 15 #[ptr b, .int .i64 t] w fun e w' => e = .returned (.tuple #[zb, .bool false]) ∧ FS b q m (nowAt now t) (nowAt now t) (nowAt now t) 1 w' ∧ G b w w' :=
  poke_zero w t h (fun w h => pass_none w t h hnow)
theorem poke_wait {b : Nat} {q m now F T P : Int} (w : World) (t : Int) (h : FS b q m now F T P w) (hb : Bd q m now F T P) (hP : 0 < P) (he : nowAt now t < endAt q m F T) :
    Calls Try.prog 15 #[ptr b, .int .i64 t] w fun e w' => e = .returned (.tuple #[zb, .bool false]) ∧ FS b q m (nowAt now t) F (nowAt now t) (P + 1) w' ∧ G b w w' :=
  poke_more w t h hP hb.2.2.2.2.2.2 (fun w h => pass_wait w t h hb hP he)
theorem poke_end {b : Nat} {q m now F T P : Int} (w : World) (t : Int) (h : FS b q m now F T P w) (hb : Bd q m now F T P) (hP : 0 < P) (he : endAt q m F T ≤ nowAt now t) :
    Calls Try.prog 15 #[ptr b, .int .i64 t] w fun e w' => e = .returned (.tuple #[bu F T P (endAt q m F T), .bool true]) ∧ FS b q m (nowAt now t) (nowAt now t) (nowAt now t) 1 w' ∧ G b w w' :=
  poke_zero w t h (fun w h => pass_end w t h hb hP he)
theorem flush_nil (w : World) : Calls Try.prog 12 #[.pointer none] w fun e w' => e = .returned (.tuple #[zb, .bool false]) ∧ Below w.heap.size w w' := by
  go_enter Try.func12, Try.ntmps12
  go_wp2_with (go_at_call 16; refine (count_nil _).mono ?_; rintro e w1 ⟨rfl, rfl⟩)
  exact bodyPost_ret (v := .tuple #[zb, .bool false]) (by simp [results, Try.results12, go_sem]) rfl ⟨rfl, (Below.refl _ _).alloc (Nat.le_refl _) _⟩
theorem flush_none {b : Nat} {q m now F T : Int} (w : World) (h : FS b q m now F T 0 w) : Calls Try.prog 12 #[ptr b] w fun e w' => e = .returned (.tuple #[zb, .bool false]) ∧ FS b q m now F T 0 w' ∧ G b w w' := by
  have H := Lib.hid h
  clear h
  go_enter Try.func12, Try.ntmps12
  go_wp2_with (go_at_call 16; refine (count_at (b := b) (P := 0) _ (fs_alloc _ H.out)).mono ?_; rintro e w1 ⟨rfl, rfl⟩)
  exact bodyPost_ret (v := .tuple #[zb, .bool false]) (by simp [results, Try.results12, go_sem]) rfl ⟨rfl, fs_alloc _ H.out, g_alloc (g_refl _ _) _⟩
set_option maxHeartbeats 1000000 in
theorem flush_some {b : Nat} {q m now F T P : Int} (w : World) (h : FS b q m now F T P w) (hP : 0 < P) : Calls Try.prog 12 #[ptr b] w fun e w' => e = .returned (.tuple #[bu F T P now, .bool true]) ∧ FS b q m now 0 0 0 w' ∧ G b w w' := by
  have H := Lib.hid h
  have hP0 : (P == 0) = false := by rw [beq_eq_false_iff_ne]; omega
  obtain ⟨c0, c1, c2, c3, c4, c5, c6, z2, z3, z4, z5, z6, hz⟩ := h
  go_enter Try.func12, Try.ntmps12
  go_wp2_with (first | (go_at_call 16; refine (count_at (b := b) (P := P) _ (fs_alloc _ H.out)).mono ?_; rintro e w1 ⟨rfl, rfl⟩) | (go_at_call 35; refine (end_at (b := b) (q := q) (m := m) (now := now) (F := F) (T := T) (P := P) _ _ (fs_alloc _ H.out)).mono ?_; rintro e w1 ⟨rfl, hfs, hg⟩; have HG := Lib.hid (g_trans (b := b) (x := w) (by repeat (first | exact g_refl _ _ | refine g_alloc ?_ _ | refine g_set ?_ (.inl rfl) _)) hg); have HR := Lib.hid (rb_g (k := w.heap.size) hg (by omega) ⟨(by go_cell), (by go_cell), (by go_cell), (by go_cell), (by go_cell), (by go_cell), (by go_cell), (by go_cell), by simp⟩); have HF := Lib.hid hfs; clear hfs hg; obtain ⟨r0, r1, r2, r3, y0, y1, y2, y3, hr⟩ := HR.out) | fail)
  refine bodyPost_ret (v := .tuple #[bu F T P now, .bool true]) (by simp [results, Try.results12, go_sem, r0, r1, r2, r3, hr]) rfl ⟨rfl, ?_, ?_⟩
  · repeat (refine fs_far ?_ (by omega) _)
    exact HF.out
  · repeat (refine g_set ?_ (.inr (Nat.le_refl _)) _)
    exact HG.out
/-- May these two make a filter? -/
def NewOk (q m : Int) : Prop := 1 ≤ q ∧ q ≤ 1099511627776 ∧ (m = 0 ∨ q ≤ m ∧ m ≤ 1125899906842624)
set_option maxHeartbeats 1000000 in
theorem new_ok (q m : Int) (w : World) (h : NewOk q m) : Calls Try.prog 11 #[.int .i64 q, .int .i64 m] w fun e w' => e = .returned (ptr w.heap.size) ∧ FS w.heap.size q m 0 0 0 0 w' ∧ Below w.heap.size w w' := by
  obtain ⟨h1, h2, h3⟩ := h
  rcases h3 with rfl | ⟨h3, h4⟩
  · go_enter Try.func11, Try.ntmps11
    go_wp2
    go_ret
    refine ⟨rfl, ⟨?_, ?_, ?_, ?_, ?_, ?_, ?_, ?_, ?_, ?_, ?_, ?_, ?_⟩, (Below.refl _ _).alloc (Nat.le_refl _) _⟩
    all_goals first | go_cell | (go_simp; done) | (simp; omega)
  · have h5 : (m != 0) = true := by rw [bne_iff_ne]; omega
    go_enter Try.func11, Try.ntmps11
    go_wp2
    go_ret
    refine ⟨rfl, ⟨?_, ?_, ?_, ?_, ?_, ?_, ?_, ?_, ?_, ?_, ?_, ?_, ?_⟩, (Below.refl _ _).alloc (Nat.le_refl _) _⟩
    all_goals first | go_cell | (go_simp; done) | (simp; omega)
set_option maxHeartbeats 1000000 in
theorem new_no (q m : Int) (w : World) (h : ¬ NewOk q m) : Calls Try.prog 11 #[.int .i64 q, .int .i64 m] w fun e w' => e = .returned (.pointer none) ∧ w = w' := by
  unfold NewOk at h
  by_cases h1 : q < 1
  · go_enter Try.func11, Try.ntmps11
    go_wp2
    go_ret
    exact ⟨rfl, rfl⟩
  · by_cases h2 : 1099511627776 < q
    · go_enter Try.func11, Try.ntmps11
      go_wp2
      go_ret
      exact ⟨rfl, rfl⟩
    · have h3 : (m != 0) = true := by rw [bne_iff_ne]; omega
      by_cases h4 : m < q
      · go_enter Try.func11, Try.ntmps11
        go_wp2
        go_ret
        exact ⟨rfl, rfl⟩
      · have h5 : 1125899906842624 < m := by omega
        clear h
        go_enter Try.func11, Try.ntmps11
        go_wp2
        go_ret
        exact ⟨rfl, rfl⟩
end Go.Proofs.Ytapebhefbokcfaa.DebW
