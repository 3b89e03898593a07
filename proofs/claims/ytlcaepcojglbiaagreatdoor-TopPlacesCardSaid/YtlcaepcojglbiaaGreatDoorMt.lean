/- The engine: starts and steps: a part of the walk of the whole machine. For all states that the readings allow. -/
import Derived.Deep.RegionHeld3
import Derived.Deep.RegionLaw
import Derived.Test.YtlcaepcojglbiaaGreatDoorMs
namespace Go.Proofs.YtlcaepcojglbiaaGreatDoor.Tp
open Go.RowKit Go.Maps
set_option linter.unusedVariables false
set_option linter.unusedSimpArgs false
/-- A step. -/
structure St where
  kind : Int
  cpu : Int
  n : Int
  t : Tm
abbrev stv (s : St) : Value := .agg #[.int .i64 s.kind, .int .i64 s.cpu, .int .i64 s.n, .int .i64 s.t.id, .int .i64 s.t.clock, .int .i64 s.t.soft, .int .i64 s.t.hard, .bool s.t.lazy]
structure St.wf (s : St) : Prop where
  kind : i64 s.kind
  cpu : i64 s.cpu
  n : i64 s.n
  t : s.t.wf
theorem onE_iff {E : En} (h : ∀ i, E.on i = true → i < E.n) (hn : E.n ≤ 16) (i : Int) : onI E.on i = true ↔ ∃ k : Nat, i = k ∧ k < E.n ∧ E.on k = true := by
  unfold onI
  simp only [Bool.and_eq_true, decide_eq_true_eq]
  constructor
  · rintro ⟨⟨h1, h2⟩, h3⟩
    exact ⟨i.toNat, by omega, h _ h3, h3⟩
  · rintro ⟨k, rfl, h1, h2⟩
    refine ⟨⟨by omega, by omega⟩, ?_⟩
    rw [Int.toNat_natCast]
    exact h2
section
variable {A : EA} {E : En} {M : Int → Option (Nat × Tm)}
def badT (t : Tm) : Bool := decide (t.clock < 0) || decide (3 ≤ t.clock) || decide (t.hard < t.soft)
set_option maxRecDepth 100000 in
set_option maxHeartbeats 4000000 in
theorem estart_off (s : St) (W : World) (h : ER A E W) (hw : s.wf) (ho : onI E.on s.cpu = false) : Calls Tryz.prog 19 #[ptr A.e, stv s] W fun e W' => e = .returned (.int .i64 2) ∧ Below W.heap.size W W' := by
  obtain ⟨k, cpu, n, id, tc, ts, th, tl⟩ := s
  dsimp only at ho
  have C := Lib.hid (fun w (hB : Below W.heap.size W w) => at_no cpu w (er_below h hB) ho)
  have HB := Lib.hid ((Below.refl W.heap.size W).alloc (Nat.le_refl _) (.cells #[.int .i64 k, .int .i64 cpu, .int .i64 n, .int .i64 id, .int .i64 tc, .int .i64 ts, .int .i64 th, .bool tl] 33))
  clear h ho hw
  go_enter Tryz.func19, Tryz.ntmps19
  go_wp2_with (first
    | (go_at_call 41; refine (C.out _ HB.out).mono ?_; clear C; rintro e w1 ⟨rfl, rfl⟩)
    | fail)
  go_ret
  exact ⟨rfl, HB.out.alloc (by simp) _⟩
set_option maxRecDepth 100000 in
set_option maxHeartbeats 4000000 in
theorem estart_bad (i : Nat) (s : St) (W : World) (h : ER A E W) (hc : s.cpu = (i : Nat)) (hi : i < E.n) (ho : E.on i = true) (hb : badT s.t = true) : Calls Tryz.prog 19 #[ptr A.e, stv s] W fun e W' => e = .returned (.int .i64 2) ∧ Below W.heap.size W W' := by
  obtain ⟨k, cpu, n, id, tc, ts, th, tl⟩ := s
  dsimp only at hc hb
  subst hc
  have C := Lib.hid (fun w (hB : Below W.heap.size W w) => at_yes i w (er_below h hB) hi ho)
  have HB := Lib.hid ((Below.refl W.heap.size W).alloc (Nat.le_refl _) (.cells #[.int .i64 k, .int .i64 i, .int .i64 n, .int .i64 id, .int .i64 tc, .int .i64 ts, .int .i64 th, .bool tl] 33))
  have HT := Lib.hid (HB.out.alloc (by simp) (.cells #[.int .i64 id, .int .i64 tc, .int .i64 ts, .int .i64 th, .bool tl] 31))
  clear h ho
  unfold badT at hb
  simp only [Bool.or_eq_true, decide_eq_true_eq] at hb
  have h3 : tc < 0 ∨ (¬ tc < 0 ∧ 3 ≤ tc) ∨ (¬ tc < 0 ∧ ¬ 3 ≤ tc ∧ th < ts) := by omega
  clear hb
  rcases h3 with h3 | ⟨h3, h4⟩ | ⟨h3, h4, h5⟩
  all_goals
    go_enter Tryz.func19, Tryz.ntmps19
    go_wp2_with (first
      | (go_at_call 41; refine (C.out _ HB.out).mono ?_; clear C; rintro e w1 ⟨rfl, rfl⟩)
      | fail)
    go_ret
    exact ⟨rfl, HT.out⟩
theorem mv_run {t e : TypeId} {kk : TypeId} {ι α : Type} {kv : ι → Value} {vv : α → Value} {b n : Nat} {f : ι → Option α} {W : World} (h : MV kk kv vv b n f W) (K : Keyed Tryz.prog kk) (ht : Tryz.prog.underlying t = some (.map kk e)) {z : Value} (hz : (zeroValue e).run Tryz.prog W = .ok z W) (inj : ∀ i j, kv i = kv j → i = j) (c : Bool) (i : ι) {l : Lit} (hi : keyOf Tryz.prog kk (kv i) = some l) {r : Value} (hr : look z c vv (f i) = r) : (Instr.lookup t (.map (some b)) (kv i) c).run Tryz.prog W = .ok r W := by
  rw [← hr]
  exact mv_look h K ht hz inj c i hi
set_option maxRecDepth 100000 in
set_option maxHeartbeats 4000000 in
theorem estart_busy (i j : Nat) (s : St) (W : World) (h : ER A E W) (hc : s.cpu = (i : Nat)) (hi : i < E.n) (ho : E.on i = true) (hid : i64 s.t.id) (hb : badT s.t = false) (hwh : E.wh s.t.id = some j) : Calls Tryz.prog 19 #[ptr A.e, stv s] W fun e W' => e = .returned (.int .i64 9) ∧ Below W.heap.size W W' := by
  obtain ⟨k, cpu, n, id, tc, ts, th, tl⟩ := s
  dsimp only at hc hb hid hwh
  subst hc
  have C := Lib.hid (fun w (hB : Below W.heap.size W w) => at_yes i w (er_below h hB) hi ho)
  have HB := Lib.hid ((Below.refl W.heap.size W).alloc (Nat.le_refl _) (.cells #[.int .i64 k, .int .i64 i, .int .i64 n, .int .i64 id, .int .i64 tc, .int .i64 ts, .int .i64 th, .bool tl] 33))
  have HT := Lib.hid (HB.out.alloc (by simp) (.cells #[.int .i64 id, .int .i64 tc, .int .i64 ts, .int .i64 th, .bool tl] 31))
  have hnt := heap_alloc_new (W.alloc (.cells #[.int .i64 k, .int .i64 i, .int .i64 n, .int .i64 id, .int .i64 tc, .int .i64 ts, .int .i64 th, .bool tl] 33)) (.cells #[.int .i64 id, .int .i64 tc, .int .i64 ts, .int .i64 th, .bool tl] 31)
  rw [show (W.alloc (.cells #[.int .i64 k, .int .i64 i, .int .i64 n, .int .i64 id, .int .i64 tc, .int .i64 ts, .int .i64 th, .bool tl] 33)).heap.size = W.heap.size + 1 by simp] at hnt
  have HER := Lib.hid (er_drew (er_below h HT.out))
  have HK := Lib.hid (ki_key hid)
  have HRUN : Hid ((Instr.lookup 45 (.map (some A.mb)) (.int .i64 id) true).run Tryz.prog ((W.alloc (.cells #[.int .i64 k, .int .i64 i, .int .i64 n, .int .i64 id, .int .i64 tc, .int .i64 ts, .int .i64 th, .bool tl] 33)).alloc (.cells #[.int .i64 id, .int .i64 tc, .int .i64 ts, .int .i64 th, .bool tl] 31)).drew = .ok (.tuple #[.int .i64 j, .bool true]) ((W.alloc (.cells #[.int .i64 k, .int .i64 i, .int .i64 n, .int .i64 id, .int .i64 tc, .int .i64 ts, .int .i64 th, .bool tl] 33)).alloc (.cells #[.int .i64 id, .int .i64 tc, .int .i64 ts, .int .i64 th, .bool tl] 31)).drew) :=
    Lib.hid (mv_run HER.out.mv keyed3 Tryz.underlying45 (zero3 _) ki_inj true id HK.out (by rw [hwh]; rfl))
  unfold badT at hb
  simp only [Bool.or_eq_false_iff, decide_eq_false_iff_not] at hb
  obtain ⟨⟨h1, h2⟩, h3⟩ := hb
  obtain ⟨m, hm, -⟩ := (er_below h HT.out).eb
  obtain ⟨-, -, -, e3, -⟩ := cells4 hm
  clear h ho hid hwh hm
  go_enter Tryz.func19, Tryz.ntmps19
  go_wp2_with (first
    | (go_at_call 41; refine (C.out _ HB.out).mono ?_; clear C; rintro e w1 ⟨rfl, rfl⟩)
    | fail)
  obtain ⟨W2, hW2⟩ : ∃ W2, ((W.alloc (.cells #[.int .i64 k, .int .i64 i, .int .i64 n, .int .i64 id, .int .i64 tc, .int .i64 ts, .int .i64 th, .bool tl] 33)).alloc (.cells #[.int .i64 id, .int .i64 tc, .int .i64 ts, .int .i64 th, .bool tl] 31)) = W2 := ⟨_, rfl⟩
  rw [hW2] at e3 hnt HT HRUN ⊢
  obtain ⟨⟨y0, -⟩, -⟩ := cells5 hnt
  clear hW2 hnt
  go_still_tail 11, (by kernel_rfl)
  refine wpStill_look rfl 45 _ _ true rfl _ _ _ rfl rfl HRUN.out ?_
  repeat still_step
  refine wpStill_nil ?_
  change wpList _ _ _ _ _ W2.drew
  go_wp2
  go_ret
  exact ⟨rfl, below_drew HT.out⟩
end
end Go.Proofs.YtlcaepcojglbiaaGreatDoor.Tp
namespace Go.Proofs.YtlcaepcojglbiaaGreatDoor.Tp
open Go.RowKit Go.Maps
set_option linter.unusedVariables false
set_option linter.unusedSimpArgs false
section
variable {A : EA} {E : En} {M : Int → Option (Nat × Tm)}
set_option maxRecDepth 100000 in
set_option maxHeartbeats 4000000 in
theorem estart_full (i : Nat) (s : St) (W : World) (h : ER A E W) (hc : s.cpu = (i : Nat)) (hi : i < E.n) (ho : E.on i = true) (hid : i64 s.t.id) (hb : badT s.t = false) (hwh : E.wh s.t.id = none) (hn : 64 ≤ E.wn) : Calls Tryz.prog 19 #[ptr A.e, stv s] W fun e W' => e = .returned (.int .i64 3) ∧ Below W.heap.size W W' := by
  obtain ⟨k, cpu, n, id, tc, ts, th, tl⟩ := s
  dsimp only at hc hb hid hwh
  subst hc
  have C := Lib.hid (fun w (hB : Below W.heap.size W w) => at_yes i w (er_below h hB) hi ho)
  have HB := Lib.hid ((Below.refl W.heap.size W).alloc (Nat.le_refl _) (.cells #[.int .i64 k, .int .i64 i, .int .i64 n, .int .i64 id, .int .i64 tc, .int .i64 ts, .int .i64 th, .bool tl] 33))
  have HT := Lib.hid (HB.out.alloc (by simp) (.cells #[.int .i64 id, .int .i64 tc, .int .i64 ts, .int .i64 th, .bool tl] 31))
  have hnt := heap_alloc_new (W.alloc (.cells #[.int .i64 k, .int .i64 i, .int .i64 n, .int .i64 id, .int .i64 tc, .int .i64 ts, .int .i64 th, .bool tl] 33)) (.cells #[.int .i64 id, .int .i64 tc, .int .i64 ts, .int .i64 th, .bool tl] 31)
  rw [show (W.alloc (.cells #[.int .i64 k, .int .i64 i, .int .i64 n, .int .i64 id, .int .i64 tc, .int .i64 ts, .int .i64 th, .bool tl] 33)).heap.size = W.heap.size + 1 by simp] at hnt
  have HER := Lib.hid (er_drew (er_below h HT.out))
  have HK := Lib.hid (ki_key hid)
  have HRUN : Hid ((Instr.lookup 45 (.map (some A.mb)) (.int .i64 id) true).run Tryz.prog ((W.alloc (.cells #[.int .i64 k, .int .i64 i, .int .i64 n, .int .i64 id, .int .i64 tc, .int .i64 ts, .int .i64 th, .bool tl] 33)).alloc (.cells #[.int .i64 id, .int .i64 tc, .int .i64 ts, .int .i64 th, .bool tl] 31)).drew = .ok (.tuple #[.int .i64 0, .bool false]) ((W.alloc (.cells #[.int .i64 k, .int .i64 i, .int .i64 n, .int .i64 id, .int .i64 tc, .int .i64 ts, .int .i64 th, .bool tl] 33)).alloc (.cells #[.int .i64 id, .int .i64 tc, .int .i64 ts, .int .i64 th, .bool tl] 31)).drew) :=
    Lib.hid (mv_run HER.out.mv keyed3 Tryz.underlying45 (zero3 _) ki_inj true id HK.out (by rw [hwh]; rfl))
  unfold badT at hb
  simp only [Bool.or_eq_false_iff, decide_eq_false_iff_not] at hb
  obtain ⟨⟨h1, h2⟩, h3⟩ := hb
  obtain ⟨m, hm, -⟩ := (er_below h HT.out).eb
  obtain ⟨-, -, -, e3, -⟩ := cells4 hm
  have hn2 : (64 : Int) ≤ (E.wn : Int) := by omega
  clear h ho hid hwh hm hn
  go_enter Tryz.func19, Tryz.ntmps19
  go_wp2_with (first
    | (go_at_call 41; refine (C.out _ HB.out).mono ?_; clear C; rintro e w1 ⟨rfl, rfl⟩)
    | fail)
  obtain ⟨W2, hW2⟩ : ∃ W2, ((W.alloc (.cells #[.int .i64 k, .int .i64 i, .int .i64 n, .int .i64 id, .int .i64 tc, .int .i64 ts, .int .i64 th, .bool tl] 33)).alloc (.cells #[.int .i64 id, .int .i64 tc, .int .i64 ts, .int .i64 th, .bool tl] 31)) = W2 := ⟨_, rfl⟩
  rw [hW2] at e3 hnt HT HRUN HER ⊢
  obtain ⟨⟨y0, -⟩, -⟩ := cells5 hnt
  clear hW2 hnt
  go_still_tail 11, (by kernel_rfl)
  refine wpStill_look rfl 45 _ _ true rfl _ _ _ rfl rfl HRUN.out ?_
  repeat still_step
  refine wpStill_nil ?_
  change wpList _ _ _ _ _ W2.drew
  go_wp2_with (first | (at_len; refine wpList_len_mv _ rfl _ 45 rfl Tryz.underlying45 HER.out.mv rfl ?_) | fail)
  go_ret
  exact ⟨rfl, below_drew HT.out⟩
set_option maxRecDepth 100000 in
set_option maxHeartbeats 4000000 in
theorem estart_ok (i : Nat) (s : St) (W : World) (h : ER A E W) (hE : EI E M) (hc : s.cpu = (i : Nat)) (ho : E.on i = true) (hw : s.t.wf) (hb : badT s.t = false) (hM : M s.t.id = none) (hn : E.wn < 64) : Calls Tryz.prog 19 #[ptr A.e, stv s] W fun e W' => e = .returned (.int .i64 0) ∧ ER A ((E.put i s.t).look i) W' ∧ GF (A.has E.n) W W' := by
  obtain ⟨k, cpu, n, t⟩ := s
  dsimp only at hc hb hw hM ⊢
  subst hc
  have hi := hE.onn i ho
  have hwh : E.wh t.id = none := by rw [hE.wh, hM]; rfl
  have hb' := hb
  unfold badT at hb
  simp only [Bool.or_eq_false_iff, decide_eq_false_iff_not] at hb
  have hcl : 0 ≤ t.clock ∧ t.clock < 3 := by omega
  have hsh : t.soft ≤ t.hard := by omega
  have hs := sel_lt hcl
  have hno : bhas t.id (E.c i).b = false := bhas_no fun j hj => by
    cases e : hasId t.id ((E.c i).b j) with
    | false => rfl
    | true =>
      obtain ⟨u, hu, hue⟩ := hasId_iff.1 e
      have h1 := (ei_some hE hi hj hu).1
      rw [hue, hM] at h1
      cases h1
  have hlen : ((E.c i).b (sel t)).length < 64 := Nat.lt_of_le_of_lt (ei_len hE hi hs) hn
  have hEok := ei_put hE hi ho hw hcl hsh hM hn
  obtain ⟨E1, hE1⟩ : ∃ E1, E.setc i { E.c i with b := bset (E.c i).b (sel t) (qins t ((E.c i).b (sel t))) } = E1 := ⟨_, rfl⟩
  obtain ⟨E2, hE2⟩ : ∃ E2, E.put i t = E2 := ⟨_, rfl⟩
  have hE2g := hE2
  rw [hE2]
  clear hE2g
  have hn2 : E2.n = E.n := by rw [← hE2]; rfl
  have CB := Lib.hid (fun w (h' : ER A E w) => (bstart_at t w (h'.br i hi) hw hcl hsh hno hlen).mono (R' := fun e W' => e = .returned (.int .i64 0) ∧ ER A E1 W' ∧ GF ((A.ba i).q (sel t)).foot w W') fun e W' hh => ⟨hh.1, by rw [← hE1]; exact er_base h' hi (gf_mono hh.2.2 fun x hx => foot_has x ⟨_, hs, hx⟩) hh.2.1, hh.2.2⟩)
  have HM1 := Lib.hid (fun w w' (h' : ER A E1 w) (m : MV 3 ki wv A.mb (if (E.wh t.id).isSome then E.wn else E.wn + 1) (fun j => if j = t.id then some i else E.wh j) w') (g : G2 A.mb A.mb w w') => (show ER A E2 w' by
    have := er_map h' g m
    rw [← hE1] at this
    rw [← hE2]
    exact this))
  have hmv : ∀ w, ER A E1 w → MV 3 ki wv A.mb E.wn E.wh w := fun w h' => by
    have := h'.mv
    rw [← hE1] at this
    exact this
  have HMV := Lib.hid hmv
  have HD0 := Lib.hid (fun w (h' : ER A E1 w) => (show w.cell? ⟨A.cb i, 0, none⟩ = some (ptr (A.ba i).bb) ∧ w.cell? ⟨A.e, 3, none⟩ = some (.map (some A.mb)) by
    obtain ⟨m, hm, -⟩ := h'.eb
    obtain ⟨-, -, -, e3, -⟩ := cells4 hm
    obtain ⟨⟨c0, -⟩, -⟩ := cells4 (h'.cp i (by rw [← hE1]; exact hi))
    exact ⟨c0, e3⟩))
  have CL := Lib.hid (fun w (h' : ER A E2 w) => look_at (A := A) i w h' (by rw [← hE2]; exact hEok.ck) (by rw [hn2]; exact hi))
  have C := Lib.hid (fun w (hB : Below W.heap.size W w) => at_yes i w (er_below h hB) hi ho)
  have HQ : Hid (∀ x, ((A.ba i).q (sel t)).foot x → A.has E.n x) := Lib.hid fun x hx => has_ba hi (foot_has x ⟨_, hs, hx⟩)
  obtain ⟨id, tc, ts, th, tl⟩ := t
  dsimp only at hb hcl hsh
  have HB := Lib.hid ((Below.refl W.heap.size W).alloc (Nat.le_refl _) (.cells #[.int .i64 k, .int .i64 i, .int .i64 n, .int .i64 id, .int .i64 tc, .int .i64 ts, .int .i64 th, .bool tl] 33))
  have HT := Lib.hid (HB.out.alloc (by simp) (.cells #[.int .i64 id, .int .i64 tc, .int .i64 ts, .int .i64 th, .bool tl] 31))
  have hsz : (W.alloc (.cells #[.int .i64 k, .int .i64 i, .int .i64 n, .int .i64 id, .int .i64 tc, .int .i64 ts, .int .i64 th, .bool tl] 33)).heap.size = W.heap.size + 1 := by simp
  have hnt := heap_alloc_new (W.alloc (.cells #[.int .i64 k, .int .i64 i, .int .i64 n, .int .i64 id, .int .i64 tc, .int .i64 ts, .int .i64 th, .bool tl] 33)) (.cells #[.int .i64 id, .int .i64 tc, .int .i64 ts, .int .i64 th, .bool tl] 31)
  have hns := (Below.heap_alloc (W.alloc (.cells #[.int .i64 k, .int .i64 i, .int .i64 n, .int .i64 id, .int .i64 tc, .int .i64 ts, .int .i64 th, .bool tl] 33)) (.cells #[.int .i64 id, .int .i64 tc, .int .i64 ts, .int .i64 th, .bool tl] 31) W.heap.size (by simp)).trans (heap_alloc_new W _)
  rw [hsz] at hnt
  have HER := Lib.hid (er_drew (er_below h HT.out))
  have HK := Lib.hid (ki_key hw.id)
  have HRUN : Hid ((Instr.lookup 45 (.map (some A.mb)) (.int .i64 id) true).run Tryz.prog ((W.alloc (.cells #[.int .i64 k, .int .i64 i, .int .i64 n, .int .i64 id, .int .i64 tc, .int .i64 ts, .int .i64 th, .bool tl] 33)).alloc (.cells #[.int .i64 id, .int .i64 tc, .int .i64 ts, .int .i64 th, .bool tl] 31)).drew = .ok (.tuple #[.int .i64 0, .bool false]) ((W.alloc (.cells #[.int .i64 k, .int .i64 i, .int .i64 n, .int .i64 id, .int .i64 tc, .int .i64 ts, .int .i64 th, .bool tl] 33)).alloc (.cells #[.int .i64 id, .int .i64 tc, .int .i64 ts, .int .i64 th, .bool tl] 31)).drew) :=
    Lib.hid (mv_run HER.out.mv keyed3 Tryz.underlying45 (zero3 _) ki_inj true id HK.out (by rw [hwh]; rfl))
  obtain ⟨⟨h1, h2⟩, h3⟩ := hb
  obtain ⟨m, hm, -⟩ := (er_below h HT.out).eb
  obtain ⟨-, -, -, e3, -⟩ := cells4 hm
  obtain ⟨c0, -⟩ := cells4 ((er_below h HT.out).cp i hi)
  have hn3 : ¬ (64 : Int) ≤ (E.wn : Int) := by omega
  have HN64 := Lib.hid (show E.wn < 1000 by omega)
  have HL := Lib.hid (er_lt h)
  have HI := Lib.hid hi
  have hst : ((W.alloc (.cells #[.int .i64 k, .int .i64 i, .int .i64 n, .int .i64 id, .int .i64 tc, .int .i64 ts, .int .i64 th, .bool tl] 33)).alloc (.cells #[.int .i64 id, .int .i64 tc, .int .i64 ts, .int .i64 th, .bool tl] 31)).heap.size = W.heap.size + 2 := by simp
  clear h ho hwh hm hn hE hw hM hi hs hb' hno hlen hEok hE1 hE2 hn2 hmv hsz hcl hsh
  go_enter Tryz.func19, Tryz.ntmps19
  go_wp2_with (first
    | (go_at_call 41; refine (C.out _ HB.out).mono ?_; clear C; rintro e w1 ⟨rfl, rfl⟩)
    | fail)
  obtain ⟨W2, hW2⟩ : ∃ W2, ((W.alloc (.cells #[.int .i64 k, .int .i64 i, .int .i64 n, .int .i64 id, .int .i64 tc, .int .i64 ts, .int .i64 th, .bool tl] 33)).alloc (.cells #[.int .i64 id, .int .i64 tc, .int .i64 ts, .int .i64 th, .bool tl] 31)) = W2 := ⟨_, rfl⟩
  rw [hW2] at e3 hnt hns HT HRUN HER c0 hst ⊢
  obtain ⟨⟨y0, -⟩, ⟨y1, -⟩, ⟨y2, -⟩, ⟨y3, -⟩, y4, -⟩ := cells5 hnt
  have HNT := Lib.hid hnt
  have HNS := Lib.hid hns
  clear hW2 hnt hns
  go_still_tail 11, (by kernel_rfl)
  refine wpStill_look rfl 45 _ _ true rfl _ _ _ rfl rfl HRUN.out ?_
  repeat still_step
  refine wpStill_nil ?_
  change wpList _ _ _ _ _ W2.drew
  go_wp2_with (first | (at_len; refine wpList_len_mv _ rfl _ 45 rfl Tryz.underlying45 HER.out.mv rfl ?_) | fail)
  obtain ⟨g, hg⟩ : ∃ g, W.heap.size + 1 = g := ⟨_, rfl⟩
  rw [hg] at HNT y0 y1 y2 y3 y4 ⊢
  have HE2 : Hid (ER A E W2.drew.drew) := Lib.hid (er_drew HER.out)
  have hgl : g < W2.heap.size := by omega
  have hg0 : W.heap.size < W2.heap.size := by omega
  have HNH : Hid (¬ A.has E.n g ∧ ¬ A.has E.n W.heap.size) := Lib.hid ⟨fun e => by have := HL.out _ e; omega, fun e => by have := HL.out _ e; omega⟩
  have HCB : Hid (ER A E1 = ER A E1) := Lib.hid rfl
  have HG := Lib.hid hg
  clear hg hst h1 h2 h3 hn3
  go_region_held3 (fun w => w.cell? ⟨A.cb i, 0, none⟩ = some (ptr (A.ba i).bb) ∧ w.cell? ⟨g, 0, none⟩ = some (.int .i64 id) ∧ w.cell? ⟨g, 1, none⟩ = some (.int .i64 tc) ∧ w.cell? ⟨g, 2, none⟩ = some (.int .i64 ts) ∧ w.cell? ⟨g, 3, none⟩ = some (.int .i64 th) ∧ w.cell? ⟨g, 4, none⟩ = some (.bool tl)) (first | exact ⟨c0.1, y0, y1, y2, y3, y4⟩ | exact ⟨d0, x0, x1, x2, x3, x4⟩ | assumption | (go_keep; done)) (first
    | (go_simp; go_at_call 42; refine (CB.out _ HE2.out).mono ?_; clear CB; rintro e w3 ⟨rfl, hE3, hG3⟩; have hbg := (hG3.block g hgl (fun e => HNH.out.1 (HQ.out _ e))).trans HNT.out; have hbs := (hG3.block W.heap.size hg0 (fun e => HNH.out.2 (HQ.out _ e))).trans HNS.out; have HE3 := Lib.hid hE3; have HG3 := Lib.hid (gf_trans (gf_drew (gf_drew (gf_below HT.out))) (gf_mono hG3 HQ.out)); obtain ⟨d0, -⟩ := HD0.out _ hE3; obtain ⟨⟨x0, -⟩, ⟨x1, -⟩, ⟨x2, -⟩, ⟨x3, -⟩, x4, -⟩ := cells5 hbg; have s1 := (cell_of hbs 1 _ rfl).1; clear hbg hbs hE3 hG3)
    | fail)
  have e3' := (HD0.out _ HE3.out).2
  clear e3 y0 y1 y2 y3 y4 c0 d0 x1 x2 x3 x4
  go_wp2_with fail
  go_still_tail 8, (by kernel_rfl)
  change wpList _ _ _ _ _ w3.drew
  refine wpList_store_mv _ rfl _ _ _ 45 rfl keyed3 Tryz.underlying45 ki_inj (mv_same (HMV.out _ HE3.out) rfl) id i HK.out HN64.out rfl rfl rfl ?_
  intro w4 m4 g4
  have HE4 := Lib.hid (HM1.out _ _ (er_drew HE3.out) m4 g4)
  have HG4 := Lib.hid (gf_trans (gf_drew HG3.out) (gf_g2 (F := A.has E.n) g4 has_mb has_mb))
  clear m4 g4 e3' s1 x0
  dsimp only
  rw [put_none]
  go_wp2_with (first
    | (go_at_call 43; refine (CL.out _ HE4.out).mono ?_; clear CL; rintro e w5 ⟨rfl, hE, hG⟩; have HH := Lib.hid (And.intro hE (gf_trans HG4.out (gf_mono hG fun x e => (show A.has E.n x by rw [e]; exact has_db HI.out)))); clear hE hG)
    | fail)
  go_ret
  exact ⟨rfl, HH.out⟩
end
end Go.Proofs.YtlcaepcojglbiaaGreatDoor.Tp
namespace Go.Proofs.YtlcaepcojglbiaaGreatDoor.Tp
open Go.RowKit Go.Maps
set_option linter.unusedVariables false
set_option linter.unusedSimpArgs false
section
variable {A : EA} {E : En} {M : Int → Option (Nat × Tm)}
set_option maxRecDepth 100000 in
set_option maxHeartbeats 4000000 in
theorem ebring_out (i : Int) (W : World) (h : ER A E W) (hi : i < 0 ∨ (E.n : Int) ≤ i) : Calls Tryz.prog 28 #[ptr A.e, .int .i64 i] W fun e W' => e = .returned (.int .i64 2) ∧ W' = W := by
  obtain ⟨m, hm, hk⟩ := h.eb
  obtain ⟨-, ⟨e1, -⟩, -, -⟩ := cells4 hm
  have h16 := h.n16
  clear h hm hk
  by_cases h0 : i < 0
  · clear hi
    go_enter Tryz.func28, Tryz.ntmps28
    go_wp2_with fail
    go_ret
    exact ⟨rfl, rfl⟩
  · have h1 : (E.n : Int) ≤ i := by omega
    clear hi
    go_enter Tryz.func28, Tryz.ntmps28
    go_wp2_with fail
    go_ret
    exact ⟨rfl, rfl⟩
set_option maxRecDepth 100000 in
set_option maxHeartbeats 4000000 in
theorem ebring_on (i : Nat) (W : World) (h : ER A E W) (hi : i < E.n) (ho : E.on i = true) : Calls Tryz.prog 28 #[ptr A.e, .int .i64 (i : Nat)] W fun e W' => e = .returned (.int .i64 8) ∧ W' = W := by
  obtain ⟨m, hm, hk⟩ := h.eb
  obtain ⟨-, ⟨e1, -⟩, ⟨e2, -⟩, -⟩ := cells4 hm
  have h16 := h.n16
  have C := Lib.hid (mhas_in hk i (by omega) W)
  rw [ho] at C
  have hi2 : (i : Int) < (E.n : Int) := by omega
  clear h hm hk ho
  go_enter Tryz.func28, Tryz.ntmps28
  go_wp2_with (first | (go_at_call 55; refine (C.out).mono ?_; clear C; rintro e w1 ⟨rfl, rfl⟩) | fail)
  go_ret
  exact ⟨rfl, rfl⟩
def En.brings (E : En) (i : Nat) : En := { (E.setc i { E.c i with d := { (E.c i).d with off := false } }) with on := mwith E.on i }
set_option maxRecDepth 100000 in
set_option maxHeartbeats 4000000 in
theorem ebring_ok (i : Nat) (W : World) (h : ER A E W) (hi : i < E.n) (ho : E.on i = false) : Calls Tryz.prog 28 #[ptr A.e, .int .i64 (i : Nat)] W fun e W' => e = .returned (.int .i64 0) ∧ ER A (E.brings i) W' ∧ GF (A.has E.n) W W' := by
  have h16 := h.n16
  have HR := Lib.hid (fun w (h' : ER A E w) => er_road' E h' hi)
  have CO := Lib.hid (fun w (h' : ER A E w) => on_at w (h'.dr i hi))
  obtain ⟨E1, hE1⟩ : ∃ E1, E.setc i { E.c i with d := { (E.c i).d with off := false } } = E1 := ⟨_, rfl⟩
  have HD : Hid (∀ w w', ER A E w → DR (A.db i) { (E.c i).d with off := false } w' → G2 (A.db i) (A.db i) w w' → ER A E1 w') := Lib.hid fun w w' h' hd hg => by
    rw [← hE1]
    exact er_dev h' hi hg hd
  have hB : E.brings i = { E1 with on := mwith E.on i } := by rw [← hE1]; rfl
  have hon : E1.on = E.on := by rw [← hE1]; rfl
  have HM : Hid (∀ w, ER A E1 w → ∃ m : Nat, MK m E.on ∧ w.cell? ⟨A.e, 2, none⟩ = some (.int .u32 (m : Nat)) ∧ w.frozen? ⟨A.e, 2, none⟩ = false) := Lib.hid fun w h' => by
    obtain ⟨m, hm, hk⟩ := h'.eb
    rw [hon] at hk
    obtain ⟨-, -, e2, -⟩ := cells4 hm
    exact ⟨m, hk, e2⟩
  have HO : Hid (∀ (m : Nat) w, MK m E.on → ER A E1 w → ER A (E.brings i) (w.setCell ⟨A.e, 2, none⟩ (.int .u32 ((m ||| 2 ^ i : Nat) : Int)))) := Lib.hid fun m w hk h' => by
    rw [hB]
    exact er_on h' (mk_with hk (by omega))
  obtain ⟨m, hm, hk⟩ := h.eb
  obtain ⟨-, ⟨e1, -⟩, ⟨e2, -⟩, -⟩ := cells4 hm
  have C := Lib.hid (mhas_in hk i (by omega) W)
  rw [ho] at C
  have hi2 : (i : Int) < (E.n : Int) := by omega
  have H := Lib.hid h
  obtain ⟨-, r, c0, c1, -, -⟩ := HR.out _ h
  have HL := Lib.hid (er_lt h)
  have HI := Lib.hid hi
  have CF := Lib.hid (fun b w (hb : w.cell? ⟨b, 0, none⟩ = some (.int .i64 (i : Nat))) => of_at (b := b) i (by omega) w hb)
  have hp := pow16 (show i < 16 by omega)
  have HP := Lib.hid hp
  clear h hm hk ho c0 hE1 hB hon hp
  go_enter Tryz.func28, Tryz.ntmps28
  go_wp2_with (first
    | (go_at_call 55; refine (C.out).mono ?_; clear C; rintro e W ⟨rfl, rfl⟩)
    | (go_at_call 56; refine (CO.out _ H.out).mono ?_; clear CO; rintro e w1 ⟨rfl, hd, hg⟩; have HE1 := Lib.hid (HD.out _ _ H.out hd hg); have HG1 := Lib.hid (gf_g2 (F := A.has E.n) hg (has_db HI.out) (has_db HI.out)); clear hd hg)
    | fail)
  obtain ⟨m1, hk1, q2, z2⟩ := HM.out _ HE1.out
  have HK1 := Lib.hid hk1
  have HU : Hid (bits .or .u32 (m1 : Int) ((2 ^ i : Nat) : Int) = ((m1 ||| 2 ^ i : Nat) : Int)) := Lib.hid (u32_or m1 (2 ^ i) (by have := hk1.lt; omega) (by have := HP.out.2; omega))
  have hel : A.e < w1.heap.size := er_lt HE1.out _ has_e
  obtain ⟨P2, hP2⟩ : ∃ P2 : Int, ((2 ^ i : Nat) : Int) = P2 := ⟨_, rfl⟩
  rw [hP2] at HU CF
  have HUO := HU.out
  have hal := Below.heap_alloc w1 (.cells #[.int .i64 (i : Nat)] 3) A.e hel
  have q3 := (World.cell?_of_block (a := ⟨A.e, 2, none⟩) hal).trans q2
  have z3 := (World.frozen?_of_block (a := ⟨A.e, 2, none⟩) hal).trans z2
  clear hal hk1 hP2 e1 e2 r c1 hel
  go_region_law (first
    | (go_simp; go_at_call 18; refine (CF.out _ _ (by go_simp)).mono ?_; rintro e w2 ⟨rfl, rfl⟩)
    | fail)
  all_goals
    have HX : Hid (ER A (E.brings i) ((w1.alloc (.cells #[.int .i64 (i : Nat)] 3)).setCell ⟨A.e, 2, none⟩ (.int .u32 ((m1 ||| 2 ^ i : Nat) : Int))).drew ∧ GF (A.has E.n) W ((w1.alloc (.cells #[.int .i64 (i : Nat)] 3)).setCell ⟨A.e, 2, none⟩ (.int .u32 ((m1 ||| 2 ^ i : Nat) : Int))).drew) :=
      Lib.hid ⟨er_drew (HO.out m1 _ HK1.out (er_below HE1.out ((Below.refl _ _).alloc (Nat.le_refl _) _))), gf_drew (gf_set (p := ⟨A.e, 2, none⟩) (gf_alloc HG1.out _) (.inl has_e) _)⟩
    clear q2 q3 z2 z3 HUO
    go_wp2_with fail
    go_ret
    exact ⟨rfl, HX.out⟩
end
end Go.Proofs.YtlcaepcojglbiaaGreatDoor.Tp
namespace Go.Proofs.YtlcaepcojglbiaaGreatDoor.Tp
open Go.RowKit Go.Maps
set_option linter.unusedVariables false
set_option linter.unusedSimpArgs false
theorem it_get {base m c k : Nat} {p : Option Addr} {L : List Nat} {i : Nat} {w : World} (h : IT base (.slice p m c) L w) (hi : L[k]? = some i) : ∃ gb, p = some ⟨gb, 0, none⟩ ∧ base ≤ gb ∧ gb < w.heap.size ∧ w.cell? ⟨gb, k, none⟩ = some (.int .i64 (i : Nat)) := by
  rcases h.2 with ⟨h1, h2⟩ | ⟨gb, cap, cur, h1, hb, hg, hrest⟩
  · have hx := List.getElem?_eq_some_iff.1 hi
    obtain ⟨hx, -⟩ := hx
    omega
  · cases h1
    have hc := World.ownsRow.cells (g := gb) h rfl
    refine ⟨gb, rfl, hb, (Array.getElem?_eq_some_iff.1 hg).1, ?_⟩
    have := hc k (.int .i64 (i : Nat)) (by rw [List.getElem?_map, hi]; rfl)
    have e : (⟨gb, 0, none⟩ : Addr).add k = ⟨gb, k, none⟩ := by
      by_cases e0 : k = 0
      · rw [e0]; rfl
      · simp [Addr.add]
        omega
    rw [e] at this
    exact this
theorem it_same {base : Nat} {v : Value} {L : List Nat} {w w' : World} (h : IT base v L w) (hb : ∀ k, v.ownBlock = some k → w'.heap[k]? = w.heap[k]?) : IT base v L w' := by
  refine ⟨h.1, ?_⟩
  rcases h.2 with hn | ⟨g, cap, cur, rfl, hb1, hg, rest⟩
  · exact .inl hn
  · exact .inr ⟨g, cap, cur, rfl, hb1, (hb g rfl).trans hg, rest⟩
theorem it_lt {base : Nat} {v : Value} {L : List Nat} {w : World} (h : IT base v L w) : ∀ k, v.ownBlock = some k → base ≤ k ∧ k < w.heap.size := World.ownsRow.lt h
/-- .. where only blocks of the engine, and what is new, have changed. -/
theorem it_gf {F : Nat → Prop} {base : Nat} {v : Value} {L : List Nat} {w w' : World} (h : IT base v L w) (g : GF F w w') (hF : ∀ x, F x → x < base) : IT base v L w' :=
  it_same h fun k hk => by
    obtain ⟨h1, h2⟩ := it_lt h k hk
    exact g.block k h2 fun e => by have := hF k e; omega
def En.kicks (E : En) : List Nat → En
  | [] => E
  | i :: L => (E.setc i { E.c i with kicked := true }).kicks L
theorem kicks_snoc (i : Nat) : ∀ (L : List Nat) (E : En), E.kicks (L ++ [i]) = (E.kicks L).setc i { (E.kicks L).c i with kicked := true }
  | [], E => rfl
  | a :: L, E => kicks_snoc i L _
theorem kicks_same : ∀ (L : List Nat) (E : En), (E.kicks L).n = E.n ∧ (E.kicks L).K = E.K ∧ (E.kicks L).on = E.on ∧ (E.kicks L).wh = E.wh ∧ (E.kicks L).wn = E.wn
  | [], E => ⟨rfl, rfl, rfl, rfl, rfl⟩
  | i :: L, E => kicks_same L _
theorem ei_kicks {M : Int → Option (Nat × Tm)} : ∀ (L : List Nat) (E : En), EI E M → EI (E.kicks L) M
  | [], E, h => h
  | i :: L, E, h => ei_kicks L _ (ei_setc h rfl)
def En.stp (E : En) (K' : Ck) : En := if K'.gen = E.K.gen then E.ckt K' else (E.ckt K').kicks (onl E.on 16)
theorem onl_len (on : Nat → Bool) : ∀ n, (onl on n).length ≤ n := fun n => by
  unfold onl
  exact Nat.le_trans (List.length_filter_le _ _) (by rw [List.length_range]; exact Nat.le_refl _)
section
variable {A : EA} {E : En}
set_option maxRecDepth 100000 in
set_option maxHeartbeats 4000000 in
theorem estep_same {F : Nat} {bnd caps : Array Value} (x : Int) (K' : Ck) (W : World) (h : ER A E W) (hF : Enters F) (hcall : Calls Tryz.prog F (bnd ++ caps) W fun e w' => e = .returned (.int .i64 x) ∧ ER A (E.ckt K') w' ∧ GF (A.has E.n) W w') (hg : K'.gen = E.K.gen) :
    Calls Tryz.prog 23 #[ptr A.e, .func (.func F) bnd caps] W fun e W' => e = .returned (.int .i64 x) ∧ ER A (E.ckt K') W' ∧ GF (A.has E.n) W W' := by
  have HF := hF
  unfold Enters at HF
  have C1 := Lib.hid (cgen_at W h.ck)
  have C2 := Lib.hid (fun w (h' : ER A (E.ckt K') w) => cgen_at w h'.ck)
  have e2 : (E.ckt K').K.gen = E.K.gen := hg
  rw [e2] at C2
  have HE0 : Hid (∀ w, ER A (E.ckt K') w → w.cell? ⟨A.e, 0, none⟩ = some (ptr A.ck)) := Lib.hid fun w h' => by
    obtain ⟨m, hm, -⟩ := h'.eb
    exact (cell_of hm 0 _ rfl).1
  have CF := Lib.hid hcall
  obtain ⟨m, hm, -⟩ := h.eb
  obtain ⟨⟨e0, -⟩, -⟩ := cells4 hm
  clear h hm hF hcall hg e2
  go_enter Tryz.func23, Tryz.ntmps23
  go_wp2_with (first
    | (go_at_call 52; refine (C1.out).mono ?_; clear C1; rintro e W ⟨rfl, rfl⟩)
    | (go_at_call 52; refine (C2.out _ HE1.out).mono ?_; clear C2; rintro e w1 ⟨rfl, rfl⟩)
    | (with_reducible refine (CF.out).mono ?_; clear CF; rintro e w1 ⟨rfl, hE, hG⟩; have e0' := HE0.out _ hE; have HE1 := Lib.hid hE; have HG1 := Lib.hid hG; clear hE hG)
    | fail)
  go_ret
  exact ⟨rfl, HE1.out, HG1.out⟩
set_option maxRecDepth 100000 in
set_option maxHeartbeats 4000000 in
theorem estep_diff {F : Nat} {bnd caps : Array Value} (x : Int) (K' : Ck) (W : World) (h : ER A E W) (hon : ∀ i, E.on i = true → i < E.n) (hF : Enters F) (hcall : Calls Tryz.prog F (bnd ++ caps) W fun e w' => e = .returned (.int .i64 x) ∧ ER A (E.ckt K') w' ∧ GF (A.has E.n) W w') (hg : ¬ K'.gen = E.K.gen) :
    Calls Tryz.prog 23 #[ptr A.e, .func (.func F) bnd caps] W fun e W' => e = .returned (.int .i64 x) ∧ ER A ((E.ckt K').kicks (onl E.on 16)) W' ∧ GF (A.has E.n) W W' := by
  have HF := hF
  unfold Enters at HF
  obtain ⟨N, hN⟩ : ∃ N, E.n = N := ⟨_, rfl⟩
  obtain ⟨E1, hE1⟩ : ∃ E1, E.ckt K' = E1 := ⟨_, rfl⟩
  have hn1 : E1.n = N := by rw [← hE1]; exact hN
  have ho1 : E1.on = E.on := by rw [← hE1]; rfl
  obtain ⟨L, hL⟩ : ∃ L, onl E.on 16 = L := ⟨_, rfl⟩
  have hLn : ∀ i ∈ L, i < N := fun i hi => by rw [← hL] at hi; rw [← hN]; exact hon i (onl_mem.1 hi).2
  have hLl : L.length ≤ 16 := by rw [← hL]; exact onl_len _ _
  have C1 := Lib.hid (cgen_at W h.ck)
  have C2 := Lib.hid (fun w (h' : ER A E1 w) => cgen_at w h'.ck)
  have e2 : E1.K.gen = K'.gen := by rw [← hE1]; rfl
  rw [e2] at C2
  have HE0 : Hid (∀ w, ER A E1 w → ∃ m : Nat, MK m E.on ∧ w.cell? ⟨A.e, 0, none⟩ = some (ptr A.ck) ∧ w.cell? ⟨A.e, 2, none⟩ = some (.int .u32 (m : Nat))) := Lib.hid fun w h' => by
    obtain ⟨m, hm, hk⟩ := h'.eb
    rw [ho1] at hk
    exact ⟨m, hk, (cell_of hm 0 _ rfl).1, (cell_of hm 2 _ rfl).1⟩
  have C3 := Lib.hid (fun (m : Nat) (hk : MK m E.on) w => mlist_at hk w)
  rw [hL] at C3
  have HR : Hid (∀ k (i : Nat), L[k]? = some i → ∀ w, ER A (E1.kicks (L.take k)) w → i < N ∧ w.cell? ⟨A.e, 1, none⟩ = some (.slice (some ⟨A.lb, 0, none⟩) N A.cap) ∧ w.cell? ⟨A.lb, i, none⟩ = some (ptr (A.cb i)) ∧ (∃ v, w.cell? ⟨A.cb i, 3, none⟩ = some v) ∧ w.frozen? ⟨A.cb i, 3, none⟩ = false ∧ ER A (E1.kicks (L.take (k + 1))) (w.setCell ⟨A.cb i, 3, none⟩ (.bool true))) := Lib.hid fun k i hk w h' => by
    have hi := hLn i (List.mem_of_getElem? hk)
    have hin : i < (E1.kicks (L.take k)).n := by rw [(kicks_same _ E1).1, hn1]; exact hi
    obtain ⟨⟨m, -, -, f1, -, -⟩, r, ⟨-, -, -, c3⟩, z⟩ := er_road h' hin
    rw [(kicks_same _ E1).1, hn1] at f1
    refine ⟨hi, f1, r, ⟨_, c3⟩, z 3 (by omega), ?_⟩
    rw [List.take_add_one, hk]
    show ER A (E1.kicks (L.take k ++ [i])) _
    rw [kicks_snoc]
    exact er_kicked true h' hin
  have CF := Lib.hid hcall
  rw [hE1, hN] at CF
  rw [hE1, hL, hN]
  obtain ⟨m, hm, -⟩ := h.eb
  obtain ⟨⟨e0, -⟩, -⟩ := cells4 hm
  have hw16 := hLl
  have HA : Hid (∀ x, A.has N x → x < W.heap.size) := Lib.hid fun x hx => er_lt h x (by rw [hN]; exact hx)
  have h16 : N ≤ 16 := by rw [← hN]; exact h.n16
  have HCB : Hid (∀ i, i < N → A.has N (A.cb i)) := Lib.hid fun i hi => has_cb hi
  clear h hm hF hcall hon hLn hL hE1 hN hn1 ho1 e2 hLl
  go_enter Tryz.func23, Tryz.ntmps23
  go_wp2_with (first
    | (go_at_call 52; refine (C1.out).mono ?_; clear C1; rintro e W ⟨rfl, rfl⟩)
    | (go_at_call 52; refine (C2.out _ HE1.out).mono ?_; clear C2; rintro e w1 ⟨rfl, rfl⟩)
    | (go_at_call 53; refine (C3.out _ HMK.out _).mono ?_; clear C3; rintro e w2 ⟨v, rfl, hI, hB⟩; obtain ⟨pv, mv, cv, rfl⟩ := own_slice hI; have HI := Lib.hid hI; have HE2 := Lib.hid (er_below HE1.out hB); have HG2 := Lib.hid (gf_trans HG1.out (gf_below hB)); clear hI hB)
    | (with_reducible refine (CF.out).mono ?_; clear CF; rintro e w1 ⟨rfl, hE, hG⟩; obtain ⟨m1, hk1, e0', e2'⟩ := HE0.out _ hE; have HMK := Lib.hid hk1; have HE1 := Lib.hid hE; have HG1 := Lib.hid hG; clear hE hG hk1)
    | fail)
  have hml : (mv : Nat) = L.length := own_len HI.out
  subst hml
  have HJ0 : Hid (ER A (E1.kicks (L.take 0)) w2 ∧ GF (A.has N) W w2 ∧ IT w1.heap.size (.slice pv L.length cv) L w2) := Lib.hid ⟨HE2.out, HG2.out, HI.out⟩
  have HBS : Hid (∀ x, A.has N x → x < w1.heap.size) := Lib.hid fun x hx => Nat.lt_of_lt_of_le (HA.out x hx) HG1.out.size
  clear HE2 HG2 HI
  go_loopw [29] (fun s29 wr => ∃ k : Nat, k ≤ L.length ∧ s29 = .int .i64 k ∧ Hid (ER A (E1.kicks (L.take k)) wr ∧ GF (A.has N) W wr ∧ IT w1.heap.size (.slice pv L.length cv) L wr)) (fun s29 _ => L.length - (intOf s29).toNat)
  case atStart => exact ⟨0, by omega, rfl, HJ0⟩
  case round =>
    obtain ⟨k, hk, rfl, HJ⟩ := hrel
    clear HJ0 e0 e0' e2'
    by_cases hkn : k = L.length
    · subst hkn
      clear hk
      go_wp2_with fail
      go_ret
      have h1 := HJ.out.1
      rw [List.take_length] at h1
      exact ⟨rfl, h1, HJ.out.2.1⟩
    · obtain ⟨i, hki⟩ : ∃ i, L[k]? = some i := ⟨_, List.getElem?_eq_getElem (by omega)⟩
      obtain ⟨gb, rfl, hgb1, hgb2, x0⟩ := it_get HJ.out.2.2 hki
      obtain ⟨hi, f1, r, ⟨v3, c3⟩, z3, hEr⟩ := HR.out k i hki _ HJ.out.1
      have hi2 : (i : Int) < (N : Int) := by omega
      have hk2 : (k : Int) < (L.length : Int) := by omega
      have hk3 : k < L.length := by omega
      have HS : Hid (ER A (E1.kicks (L.take (k + 1))) (wr.setCell ⟨A.cb i, 3, none⟩ (.bool true)) ∧ GF (A.has N) W (wr.setCell ⟨A.cb i, 3, none⟩ (.bool true)) ∧ IT w1.heap.size (.slice (some ⟨gb, 0, none⟩) L.length cv) L (wr.setCell ⟨A.cb i, 3, none⟩ (.bool true))) :=
        Lib.hid ⟨hEr, gf_set HJ.out.2.1 (.inl (HCB.out i hi)) _, it_gf HJ.out.2.2 (gf_set (p := ⟨A.cb i, 3, none⟩) (gf_refl (A.has N) wr) (.inl (HCB.out i hi)) _) HBS.out⟩
      have HKI := Lib.hid hki
      clear hki hEr hkn hk
      go_wp2_with fail
      go_roundw
      case rel => exact ⟨k + 1, by omega, by go_num, HS⟩
      case measure => simp [intOf]; omega
theorem estep_at {F : Nat} {bnd caps : Array Value} (x : Int) (K' : Ck) (W : World) (h : ER A E W) (hon : ∀ i, E.on i = true → i < E.n) (hF : Enters F) (hcall : Calls Tryz.prog F (bnd ++ caps) W fun e w' => e = .returned (.int .i64 x) ∧ ER A (E.ckt K') w' ∧ GF (A.has E.n) W w') :
    Calls Tryz.prog 23 #[ptr A.e, .func (.func F) bnd caps] W fun e W' => e = .returned (.int .i64 x) ∧ ER A (E.stp K') W' ∧ GF (A.has E.n) W W' := by
  unfold En.stp
  by_cases hg : K'.gen = E.K.gen
  · rw [if_pos hg]
    exact estep_same x K' W h hF hcall hg
  · rw [if_neg hg]
    exact estep_diff x K' W h hon hF hcall hg
end
end Go.Proofs.YtlcaepcojglbiaaGreatDoor.Tp
