import Derived.Test.YtapebhefbokcfaaDebWalks
namespace Go.Proofs.Ytapebhefbokcfaa.DebW
open Go.RowKit
/-- A result's block, as it was made. -/
abbrev RB (k : Nat) (W : World) : Prop := W.cell? ⟨k, 0, none⟩ = some (.int .i64 0) ∧ W.cell? ⟨k, 1, none⟩ = some (.int .i64 0) ∧ W.cell? ⟨k, 2, none⟩ = some (.int .i64 0) ∧ W.cell? ⟨k, 3, none⟩ = some (.int .i64 0) ∧ W.frozen? ⟨k, 0, none⟩ = false ∧ W.frozen? ⟨k, 1, none⟩ = false ∧ W.frozen? ⟨k, 2, none⟩ = false ∧ W.frozen? ⟨k, 3, none⟩ = false ∧ k < W.heap.size
theorem rb_g {b k : Nat} {W W' : World} (hg : G b W W') (hk : k ≠ b) (h : RB k W) : RB k W' := by
  obtain ⟨r0, r1, r2, r3, y0, y1, y2, y3, hr⟩ := h
  exact ⟨(g_cell hg hr hk 0).trans r0, (g_cell hg hr hk 1).trans r1, (g_cell hg hr hk 2).trans r2, (g_cell hg hr hk 3).trans r3, (g_frozen hg hr hk 0).trans y0, (g_frozen hg hr hk 1).trans y1, (g_frozen hg hr hk 2).trans y2, (g_frozen hg hr hk 3).trans y3, Nat.lt_of_lt_of_le hr hg.size⟩
theorem fs_alloc {b : Nat} {q m now F T P : Int} {W : World} (o : Obj) (h : FS b q m now F T P W) : FS b q m now F T P (W.alloc o) :=
  fs_below ((Below.refl _ _).alloc (Nat.le_refl _) o) h
theorem fs_setnow {b : Nat} {q m now F T P x N : Int} {W : World} (h : FS b q m now F T P W) (hx : x = N) : FS b q m N F T P (W.setCell ⟨b, 2, none⟩ (.int .i64 x)) := by
  subst hx
  obtain ⟨c0, c1, c2, c3, c4, c5, c6, z2, z3, z4, z5, z6, hz⟩ := h
  refine ⟨?_, ?_, ?_, ?_, ?_, ?_, ?_, ?_, ?_, ?_, ?_, ?_, ?_⟩
  all_goals first | go_cell | (go_simp; done) | (simp; omega)
theorem fs_far {b k j : Nat} {q m now F T P : Int} {W : World} (h : FS b q m now F T P W) (hk : k ≠ b) (u : Value) : FS b q m now F T P (W.setCell ⟨k, j, none⟩ u) :=
  fs_other (b2 := k) (g_set (g_refl _ _) (.inl rfl) u) (fun e => hk e.symm) h
theorem fs_drewN {b : Nat} {q m now F T P : Int} {W : World} (n : Nat) (h : FS b q m now F T P W) : FS b q m now F T P (W.drewN n) := h
/-- Contracts that tell the filter anew. -/
theorem next_some' {b : Nat} {q m now F T P : Int} (w : World) (h : FS b q m now F T P w) (hb : Bd q m now F T P) (hP : 0 < P) : Calls Try.prog 13 #[ptr b] w fun e w' => e = .returned (.tuple #[.int .i64 (endAt q m F T), .bool true]) ∧ FS b q m now F T P w' ∧ G b w w' :=
  (next_some w h hb hP).mono fun _ _ k => ⟨k.1, fs_below k.2 h, g_below k.2⟩
theorem next_none' {b : Nat} {q m now F T : Int} (w : World) (h : FS b q m now F T 0 w) : Calls Try.prog 13 #[ptr b] w fun e w' => e = .returned (.tuple #[.int .i64 0, .bool false]) ∧ FS b q m now F T 0 w' ∧ G b w w' :=
  (next_none w h).mono fun _ _ k => ⟨k.1, k.2 ▸ h, k.2 ▸ g_refl _ _⟩
def nowAt (now t : Int) : Int := if now < t then (if 1152921504606846976 < t then 1152921504606846976 else t) else now
theorem nowAt_bd (now t : Int) (h : 0 ≤ now ∧ now ≤ 1152921504606846976) : 0 ≤ nowAt now t ∧ nowAt now t ≤ 1152921504606846976 := by unfold nowAt; (repeat' split) <;> omega
abbrev zb : Value := bu 0 0 0 0
set_option maxHeartbeats 1000000 in
theorem pass_none {b : Nat} {q m now F T : Int} (w : World) (t : Int) (h : FS b q m now F T 0 w) (hnow : 0 ≤ now ∧ now ≤ 1152921504606846976) :
    Calls Try.prog 14 #[ptr b, .int .i64 t] w fun e w' => e = .returned (.tuple #[zb, .bool false]) ∧ FS b q m (nowAt now t) F T 0 w' ∧ G b w w' := by
  obtain ⟨N, hN⟩ : ∃ N, nowAt now t = N := ⟨_, rfl⟩
  rw [hN]
  have HN := Lib.hid hN
  have H := Lib.hid h
  clear hN
  obtain ⟨c0, c1, c2, c3, c4, c5, c6, z2, z3, z4, z5, z6, hz⟩ := h
  obtain ⟨n1, n2⟩ := hnow
  go_enter Try.func14, Try.ntmps14
  go_wp2_with (first | (go_at_call 13; refine (next_none' (b := b) (q := q) (m := m) (now := N) (F := F) (T := T) _ ?_).mono ?_; (first | exact fs_alloc _ (fs_setnow H.out (by rw [← HN.out]; unfold nowAt; (repeat' split) <;> omega)) | exact fs_setnow (fs_alloc _ H.out) (by rw [← HN.out]; unfold nowAt; (repeat' split) <;> omega)); rintro e w1 ⟨rfl, hfs, hg⟩; have HG := Lib.hid (g_trans (b := b) (x := w) (by repeat (first | exact g_refl _ _ | refine g_alloc ?_ _ | refine g_set ?_ (.inl rfl) _)) hg); have HR := Lib.hid (rb_g (k := w.heap.size) hg (by omega) ⟨(by go_cell), (by go_cell), (by go_cell), (by go_cell), (by go_cell), (by go_cell), (by go_cell), (by go_cell), by simp⟩); have HF := Lib.hid hfs; clear hfs hg; obtain ⟨r0, r1, r2, r3, y0, y1, y2, y3, hr⟩ := HR.out) | fail)
  all_goals
    refine bodyPost_ret (v := .tuple #[zb, .bool false]) (by simp [results, Try.results14, go_sem, r0, r1, r2, r3]) rfl ⟨rfl, ?_, ?_⟩
    · repeat (refine fs_far ?_ (by omega) _)
      exact HF.out
    · repeat (refine g_set ?_ (.inr (Nat.le_refl _)) _)
      exact HG.out

theorem next_at {b : Nat} {q m now F T P en : Int} (w : World) (h : FS b q m now F T P w) (hb : Bd q m now F T P) (hP : 0 < P) (he : endAt q m F T = en) : Calls Try.prog 13 #[ptr b] w fun e w' => e = .returned (.tuple #[.int .i64 en, .bool true]) ∧ FS b q m now F T P w' ∧ G b w w' := he ▸ next_some' w h hb hP
set_option maxHeartbeats 1000000 in
theorem pass_wait {b : Nat} {q m now F T P : Int} (w : World) (t : Int) (h : FS b q m now F T P w) (hb : Bd q m now F T P) (hP : 0 < P) (he : nowAt now t < endAt q m F T) :
    Calls Try.prog 14 #[ptr b, .int .i64 t] w fun e w' => e = .returned (.tuple #[zb, .bool false]) ∧ FS b q m (nowAt now t) F T P w' ∧ G b w w' := by
  obtain ⟨N, hN⟩ : ∃ N, nowAt now t = N := ⟨_, rfl⟩
  obtain ⟨en, hen⟩ : ∃ en, endAt q m F T = en := ⟨_, rfl⟩
  have hNb := nowAt_bd now t hb.2.2.1
  rw [hN] at he hNb ⊢
  rw [hen] at he
  have HB := Lib.hid (show Bd q m N F T P from ⟨hb.1, hb.2.1, hNb, hb.2.2.2⟩)
  have HN := Lib.hid hN
  have HE := Lib.hid hen
  have H := Lib.hid h
  clear hN hen
  obtain ⟨c0, c1, c2, c3, c4, c5, c6, z2, z3, z4, z5, z6, hz⟩ := h
  obtain ⟨⟨b1, b2⟩, ⟨b3, b4⟩, ⟨b5, b6⟩, ⟨b7, b8⟩, ⟨b9, b10⟩, ⟨b11, b12⟩⟩ := hb
  go_enter Try.func14, Try.ntmps14
  go_wp2_with (first | (go_at_call 13; refine (next_at (b := b) (q := q) (m := m) (now := N) (F := F) (T := T) (P := P) (en := en) _ ?_ HB.out hP HE.out).mono ?_; (first | exact fs_alloc _ (fs_setnow H.out (by rw [← HN.out]; unfold nowAt; (repeat' split) <;> omega)) | exact fs_setnow (fs_alloc _ H.out) (by rw [← HN.out]; unfold nowAt; (repeat' split) <;> omega)); rintro e w1 ⟨rfl, hfs, hg⟩; have HG := Lib.hid (g_trans (b := b) (x := w) (by repeat (first | exact g_refl _ _ | refine g_alloc ?_ _ | refine g_set ?_ (.inl rfl) _)) hg); have HR := Lib.hid (rb_g (k := w.heap.size) hg (by omega) ⟨(by go_cell), (by go_cell), (by go_cell), (by go_cell), (by go_cell), (by go_cell), (by go_cell), (by go_cell), by simp⟩); have HF := Lib.hid hfs; clear hfs hg; obtain ⟨c0, c1, c2, c3, c4, c5, c6, z2, z3, z4, z5, z6, hz⟩ := HF.out; obtain ⟨r0, r1, r2, r3, y0, y1, y2, y3, hr⟩ := HR.out) | fail)
  all_goals
    refine bodyPost_ret (v := .tuple #[zb, .bool false]) (by simp [results, Try.results14, go_sem, r0, r1, r2, r3]) rfl ⟨rfl, ?_, ?_⟩
    · repeat (refine fs_far ?_ (by omega) _)
      exact HF.out
    · repeat (refine g_set ?_ (.inr (Nat.le_refl _)) _)
      exact HG.out
set_option maxHeartbeats 1000000 in
theorem pass_end {b : Nat} {q m now F T P : Int} (w : World) (t : Int) (h : FS b q m now F T P w) (hb : Bd q m now F T P) (hP : 0 < P) (he : endAt q m F T ≤ nowAt now t) :
    Calls Try.prog 14 #[ptr b, .int .i64 t] w fun e w' => e = .returned (.tuple #[bu F T P (endAt q m F T), .bool true]) ∧ FS b q m (nowAt now t) 0 0 0 w' ∧ G b w w' := by
  obtain ⟨N, hN⟩ : ∃ N, nowAt now t = N := ⟨_, rfl⟩
  obtain ⟨en, hen⟩ : ∃ en, endAt q m F T = en := ⟨_, rfl⟩
  have hNb := nowAt_bd now t hb.2.2.1
  rw [hN] at he hNb ⊢
  rw [hen] at he
  have HB := Lib.hid (show Bd q m N F T P from ⟨hb.1, hb.2.1, hNb, hb.2.2.2⟩)
  have HN := Lib.hid hN
  have HE := Lib.hid hen
  have H := Lib.hid h
  clear hN hen
  obtain ⟨c0, c1, c2, c3, c4, c5, c6, z2, z3, z4, z5, z6, hz⟩ := h
  obtain ⟨⟨b1, b2⟩, ⟨b3, b4⟩, ⟨b5, b6⟩, ⟨b7, b8⟩, ⟨b9, b10⟩, ⟨b11, b12⟩⟩ := hb
  rw [HE.out]
  go_enter Try.func14, Try.ntmps14
  go_wp2_with (first | (go_at_call 13; refine (next_at (b := b) (q := q) (m := m) (now := N) (F := F) (T := T) (P := P) (en := en) _ ?_ HB.out hP HE.out).mono ?_; (first | exact fs_alloc _ (fs_setnow H.out (by rw [← HN.out]; unfold nowAt; (repeat' split) <;> omega)) | exact fs_setnow (fs_alloc _ H.out) (by rw [← HN.out]; unfold nowAt; (repeat' split) <;> omega)); rintro e w1 ⟨rfl, hfs, hg⟩; have HG := Lib.hid (g_trans (b := b) (x := w) (by repeat (first | exact g_refl _ _ | refine g_alloc ?_ _ | refine g_set ?_ (.inl rfl) _)) hg); have HR := Lib.hid (rb_g (k := w.heap.size) hg (by omega) ⟨(by go_cell), (by go_cell), (by go_cell), (by go_cell), (by go_cell), (by go_cell), (by go_cell), (by go_cell), by simp⟩); have HF := Lib.hid hfs; clear hfs hg; obtain ⟨c0, c1, c2, c3, c4, c5, c6, z2, z3, z4, z5, z6, hz⟩ := HF.out; obtain ⟨r0, r1, r2, r3, y0, y1, y2, y3, hr⟩ := HR.out) | (go_at_call 35; refine (end_at (b := b) (q := q) (m := m) (now := N) (F := F) (T := T) (P := P) _ _ HF.out).mono ?_; rintro e w2 ⟨rfl, hfs, hg⟩; have HG2 := Lib.hid (g_trans HG.out hg); have HR2 := Lib.hid (rb_g hg (by omega) HR.out); clear HG HR; have HG := Lib.hid HG2.out; have HR := Lib.hid HR2.out; clear HG2 HR2; clear HF; have HF := Lib.hid hfs; clear hfs hg; obtain ⟨r0, r1, r2, r3, y0, y1, y2, y3, hr⟩ := HR.out) | fail)
  all_goals
    refine bodyPost_ret (v := .tuple #[bu F T P en, .bool true]) (by simp [results, Try.results14, go_sem, r0, r1, r2, r3]) rfl ⟨rfl, ?_, ?_⟩
    · repeat (refine fs_far ?_ (by omega) _)
      exact HF.out
    · repeat (refine g_set ?_ (.inr (Nat.le_refl _)) _)
      exact HG.out
end Go.Proofs.Ytapebhefbokcfaa.DebW
