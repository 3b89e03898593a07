/- The engine: runs and new engines: a part of the walk of the whole machine. For all states that the readings allow. -/
import Derived.Deep.RegionLaw
import Derived.Carry
import Derived.Test.YtlcaepcojglbiaaGreatDoorMw
import Derived.Test.YtlcaepcojglbiaaGreatDoorMp
namespace Go.Proofs.YtlcaepcojglbiaaGreatDoor.Tp
open Go.RowKit Go.Maps
set_option linter.unusedVariables false
set_option linter.unusedSimpArgs false
inductive RunR : En → GM → List St → List Fd → En → GM → Prop
  | nil {E : En} {M : GM} : RunR E M [] [] E M
  | cons {E E1 E' : En} {M M1 M' : GM} {s : St} {Ls : List St} {l o : List Fd} {x : Int} : DoR E M s l x E1 M1 → RunR E1 M1 Ls o E' M' → RunR E M (s :: Ls) (l ++ o) E' M'
theorem settle_wn {E E' : En} {M M' : GM} {o : List Fd} (hs : Settle E M o E' M') : EI E M → o.length + E'.wn = E.wn := by
  induction hs with
  | done _ => intro _; simp
  | step ho _ ih =>
    intro h
    have h1 := one_wn h ho
    have h2 := ih (ei_one h ho)
    rw [List.length_append]
    omega
theorem dor_len {E E' : En} {M M' : GM} {s : St} {o : List Fd} {x : Int} (h : EI E M) (hd : DoR E M s o x E' M') : o.length ≤ 64 := by
  have hw := h.wn
  cases hd with
  | irq i hk hc ho hl =>
    rw [List.length_map]
    have := fired_wn h (i := i) false (h.onn i ho)
    omega
  | soft i hk hc ho hl =>
    rw [List.length_map]
    have := fired_wn h (i := i) true (h.onn i ho)
    omega
  | settle _ _ _ hk hs =>
    have := settle_wn hs h
    omega
  | _ => simp
/-- A row of steps. -/
structure SR (b : Nat) (Ls : List St) (W : World) : Prop where
  c : ∀ (k : Nat) s, Ls[k]? = some s → W.cell? ⟨b, k * 8, none⟩ = some (.int .i64 s.kind) ∧ W.cell? ⟨b, k * 8 + 1, none⟩ = some (.int .i64 s.cpu) ∧ W.cell? ⟨b, k * 8 + 2, none⟩ = some (.int .i64 s.n) ∧ W.cell? ⟨b, k * 8 + 3, none⟩ = some (.int .i64 s.t.id) ∧ W.cell? ⟨b, k * 8 + 4, none⟩ = some (.int .i64 s.t.clock) ∧ W.cell? ⟨b, k * 8 + 5, none⟩ = some (.int .i64 s.t.soft) ∧ W.cell? ⟨b, k * 8 + 6, none⟩ = some (.int .i64 s.t.hard) ∧ W.cell? ⟨b, k * 8 + 7, none⟩ = some (.bool s.t.lazy)
  lt : b < W.heap.size
theorem sr_block {b : Nat} {Ls : List St} {W W' : World} (h : SR b Ls W) (hs : W.heap.size ≤ W'.heap.size) (hb : W'.heap[b]? = W.heap[b]?) : SR b Ls W' := by
  have C : ∀ o, W'.cell? ⟨b, o, none⟩ = W.cell? ⟨b, o, none⟩ := fun o => World.cell?_of_block (a := ⟨b, o, none⟩) hb
  refine ⟨fun k s hk => ?_, Nat.lt_of_lt_of_le h.lt hs⟩
  obtain ⟨a0, a1, a2, a3, a4, a5, a6, a7⟩ := h.c k s hk
  exact ⟨(C _).trans a0, (C _).trans a1, (C _).trans a2, (C _).trans a3, (C _).trans a4, (C _).trans a5, (C _).trans a6, (C _).trans a7⟩
structure RJ (A : EA) (E : En) (M : GM) (W : World) (Ls : List St) (b k : Nat) (D : List Fd) (E1 : En) (M1 : GM) (v : Value) (w : World) : Prop where
  ei : EI E1 M1
  er : ER A E1 w
  gf : GF (A.has E.n) W w
  ft : FT W.heap.size v D w
  st : ∀ R o E' M', RunR E1 M1 R o E' M' → RunR E M (Ls.take k ++ R) (D ++ o) E' M'
  ln : D.length ≤ 64 * k
  n : E1.n = E.n
  g : E1.K.gen ≤ E.K.gen + k
  sr : SR b Ls w
def RunP (A : EA) (E : En) (M : GM) (Ls : List St) (W : World) (e : Ending) (W' : World) : Prop :=
  ∃ o E' M', RunR E M Ls o E' M' ∧ (∃ v, e = .returned v ∧ FT W.heap.size v o W') ∧ ER A E' W' ∧ GF (A.has E.n) W W' ∧ EI E' M' ∧ E'.n = E.n ∧ o.length ≤ 64 * Ls.length ∧ E'.K.gen ≤ E.K.gen + Ls.length
section
variable {A : EA} {E : En} {M : GM}
set_option maxRecDepth 100000 in
set_option maxHeartbeats 8000000 in
theorem erun_at {b cap : Nat} (Ls : List St) (W : World) (h : ER A E W) (hE : EI E M) (hsr : SR b Ls W) (hb : ¬ A.has E.n b) (hw : ∀ s ∈ Ls, s.wf) (hl : Ls.length ≤ 1000) (hg : E.K.gen ≤ 900000) : Calls Tryz.prog 10 #[ptr A.e, .slice (some ⟨b, 0, none⟩) Ls.length cap] W (RunP A E M Ls W) := by
  have HA : Hid (∀ x, A.has E.n x → x < W.heap.size) := Lib.hid fun x hx => er_lt h x hx
  have HBB : Hid (¬ A.has E.n b ∧ b < W.heap.size) := Lib.hid ⟨hb, hsr.lt⟩
  have HC : Hid (∀ k (s : St) D E1 M1 v w, Ls[k]? = some s → RJ A E M W Ls b k D E1 M1 v w → ∀ w1, Below w.heap.size w w1 → Calls Tryz.prog 7 #[ptr A.e, stv s] w1 fun e w' => ∃ (p1 : Option Addr) (m1 c1 : Nat) (x : Int) (l : List Fd) (E2 : En) (M2 : GM) (bx : Nat), e = .returned (.tuple #[.slice p1 m1 c1, .int .i64 x]) ∧ FT bx (.slice p1 m1 c1) l w' ∧ FT W.heap.size v D w' ∧ D.length + l.length ≤ 1000000 ∧ W.heap.size ≤ w'.heap.size ∧ (∀ v2 w2, w2.ownsRow W.heap.size 48 5 v2 (D.length + l.length) (fdcs D ++ fdcs l) → w'.grownBy w2 v.ownBlock → RJ A E M W Ls b (k + 1) (D ++ l) E2 M2 v2 w2)) := Lib.hid fun k s D E1 M1 v w hk hJ w1 hB => by
    have hsw := hw s (List.mem_of_getElem? hk)
    have hkl := (List.getElem?_eq_some_iff.1 hk).1
    have hgen : E1.K.gen < 1000000 := by have := hJ.g; omega
    refine (edo_at s w1 (er_below hJ.er hB) hJ.ei hsw).mono ?_
    rintro e w' ⟨l, x, E2, M2, hd, ⟨v1, rfl, hf1⟩, her, hgf⟩
    obtain ⟨p1, m1, c1, rfl⟩ := own_slice hf1
    obtain ⟨he2, hn2, hK2⟩ := dor_ei hJ.ei hsw.t hgen hd
    have hlen := dor_len hJ.ei hd
    have hln := hJ.ln
    rw [hJ.n] at hgf
    have hgw : GF (A.has E.n) w w' := gf_trans (gf_below hB) hgf
    have hHA : ∀ x, A.has E.n x → x < W.heap.size := HA.out
    have hfD : FT W.heap.size v D w' := ft_same hJ.ft fun k hk => by
      obtain ⟨h1, h2⟩ := ft_lt hJ.ft k hk
      exact hgw.block k h2 fun e => by have := hHA k e; omega
    have hsz := hgw.size
    have hsz2 := hJ.gf.size
    refine ⟨p1, m1, c1, x, l, E2, M2, w1.heap.size, rfl, hf1, hfD, by omega, by omega, fun v2 w2 hown hgr => ?_⟩
    have hgf2 : GF (A.has E.n) W w2 := gf_grown (gf_trans hJ.gf hgw) hgr fun k hk => .inr (ft_lt hfD k hk).1
    refine ⟨he2, grown_er hHA (hn2.trans hJ.n) her hfD hgr, hgf2, ?_, fun R o E' M' hR => ?_, by rw [List.length_append]; omega, hn2.trans hJ.n, ?_, sr_block hsr hgf2.size (hgf2.block b hsr.lt hb)⟩
    · unfold FT
      rw [fdcs_app, List.length_append]
      exact hown
    · rw [List.take_add_one, hk]
      show RunR E M (Ls.take k ++ [s] ++ R) _ _ _
      rw [List.append_assoc, List.append_assoc]
      exact hJ.st _ _ _ _ (.cons hd hR)
    · rw [hK2]
      have h1 := (ok_stp hJ.ei.ck hgen s).2.2
      have h2 := hJ.g
      omega
  have HJ0 : Hid (RJ A E M W Ls b 0 [] E M (.slice none 0 0) W) := Lib.hid ⟨hE, h, gf_refl _ _, ft_nil _ _, fun R o E' M' hR => hR, Nat.zero_le _, rfl, by omega, hsr⟩
  obtain ⟨P, hP⟩ : ∃ P, RunP A E M Ls W = P := ⟨_, rfl⟩
  have HP := Lib.hid hP
  rw [hP]
  clear h hE hsr hb hw hg hP
  go_enter Tryz.func10, Tryz.ntmps10
  go_wp2_with fail
  go_loopw [5, 12] (fun s5 s12 wr => ∃ (k : Nat) (D : List Fd) (E1 : En) (M1 : GM), k ≤ Ls.length ∧ s12 = .int .i64 k ∧ Hid (RJ A E M W Ls b k D E1 M1 s5 wr)) (fun _ s12 _ => Ls.length - (intOf s12).toNat)
  case atStart => exact ⟨0, [], E, M, by omega, rfl, HJ0⟩
  case round =>
    obtain ⟨k, D, E1, M1, hk, rfl, HJ⟩ := hrel
    clear HJ0
    by_cases hkn : k = Ls.length
    · subst hkn
      clear hk
      go_wp2_with fail
      show P (.returned u5) _
      rw [← HP.out]
      have h1 := HJ.out.st [] [] E1 M1 .nil
      rw [List.append_nil, List.append_nil, List.take_length] at h1
      exact ⟨D, E1, M1, h1, ⟨_, rfl, HJ.out.ft⟩, HJ.out.er, HJ.out.gf, HJ.out.ei, HJ.out.n, HJ.out.ln, HJ.out.g⟩
    · obtain ⟨s, hks⟩ : ∃ s, Ls[k]? = some s := ⟨_, List.getElem?_eq_getElem (by omega)⟩
      have C := Lib.hid (HC.out k s D E1 M1 _ wr hks HJ.out)
      obtain ⟨x0, x1, x2, x3, x4, x5, x6, x7⟩ := HJ.out.sr.c k s hks
      obtain ⟨kd, cpu, n, id, tc, ts, th, tl⟩ := s
      dsimp only at x0 x1 x2 x3 x4 x5 x6 x7
      have hk2 : (k : Int) < (Ls.length : Int) := by omega
      have hk3 : k < Ls.length := by omega
      have hL4 : (Ls.length : Int) ≤ 1000 := by omega
      have HB1 : Hid (Below wr.heap.size wr (wr.alloc (.cells #[.int .i64 kd, .int .i64 cpu, .int .i64 n, .int .i64 id, .int .i64 tc, .int .i64 ts, .int .i64 th, .bool tl] 33))) := Lib.hid ((Below.refl _ _).alloc (Nat.le_refl _) _)
      obtain ⟨pv, mv, cv, rfl⟩ := own_slice HJ.out.ft
      clear hks hkn hk HC
      go_wp2_with (first
        | (go_at_call 7; refine (C.out _ HB1.out).mono ?_; clear C; rintro e w1 ⟨p1, m1, c1, x, l, E2, M2, bx, rfl, hf1, hf, hln, hsz, hnx⟩; have HF1 := Lib.hid hf1; have HF := Lib.hid hf; have HLN := Lib.hid hln; have HSZ := Lib.hid hsz; have HNX := Lib.hid hnx; clear hf1 hln hf hsz hnx)
        | (at_builtin; refine wpList_app _ rfl _ _ 34 rfl Tryz.underlying34 info48z rfl (by omega) (by omega) ?_ ?_ HF.out HF1.out (fdcs_one l) HLN.out HSZ.out ?_; rfl; rfl; intro v2 w2 hown hgr hloc; have HN := Lib.hid (HNX.out v2 w2 hown hgr); obtain ⟨p2, m2, c2, rfl⟩ := own_slice hown; clear hown hgr hloc)
        | fail)
      go_roundw
      case rel => exact ⟨k + 1, D ++ l, E2, M2, by omega, by go_num, HN⟩
      case measure => simp [intOf]; omega
end
end Go.Proofs.YtlcaepcojglbiaaGreatDoor.Tp
namespace Go.Proofs.YtlcaepcojglbiaaGreatDoor.Tp
open Go.RowKit Go.Maps
set_option linter.unusedVariables false
set_option linter.unusedSimpArgs false
/-! An engine that is being made. -/
def Dv.new (l g : Int) : Dv := ⟨l, g, 0, false, false, false⟩
def EA.hs (A : EA) (k : Nat) (x : Nat) : Prop := x = A.e ∨ x = A.ck ∨ x = A.mb ∨ ∃ i, i < k ∧ (x = A.cb i ∨ x = A.db i ∨ (A.ba i).has x)
structure NE (g : Int) (A : EA) (k : Nat) (on : Nat → Bool) (v : Value) (W w : World) : Prop where
  hs : ∀ x, A.hs k x → W.heap.size ≤ x ∧ x < w.heap.size
  t0 : A.T 0 = 0
  te : A.T A.e = 1
  tck : A.T A.ck = 2
  tmb : A.T A.mb = 4
  tcb : ∀ i, i < k → A.T (A.cb i) = 10 + 3 * i
  tdb : ∀ i, i < k → A.T (A.db i) = 11 + 3 * i
  tba : ∀ i, i < k → ∀ x, (A.ba i).has x → A.T x = 12 + 3 * i
  eb : ∃ m, w.heap[A.e]? = some (.cells #[ptr A.ck, v, .int .u32 (m : Nat), .map (some A.mb)] 69) ∧ MK m on
  ck : CR A.ck Ck.zero w
  cp : ∀ i, i < k → w.heap[A.cb i]? = some (.cells #[ptr (A.ba i).bb, ptr (A.db i), .bool false, .bool false] 74)
  br : ∀ i, i < k → BR (A.ba i) (fun _ => []) w
  dr : ∀ i, i < k → DR (A.db i) (Dv.new 1 g) w
  mv : MV 3 ki wv A.mb 0 (fun _ => none) w
  row : w.ownsRow W.heap.size 70 1 v k ((List.range k).map fun i => ptr (A.cb i))
  nv : ∀ x, v.ownBlock = some x → ¬ A.hs k x
  bl : Below W.heap.size W w
  tab : TAB W
  o0 : W.heap[0]? = some A.o0
def EA.more (A : EA) (k cb db : Nat) (a : BA) (H : Nat) : EA :=
  { A with cb := fun j => if j = k then cb else A.cb j, db := fun j => if j = k then db else A.db j, ba := fun j => if j = k then a else A.ba j, T := fun x => if x < H then A.T x else if x = cb then 10 + 3 * k else if x = db then 11 + 3 * k else 12 + 3 * k }
section
variable {g : Int} {A : EA} {k : Nat} {on : Nat → Bool} {v v' : Value} {W w w1 w2 w5 w6 : World} {a : BA} {cb db : Nat}
theorem more_old (h : NE g A k on v W w) (j : Nat) (hj : j < k) : (A.more k cb db a w.heap.size).cb j = A.cb j ∧ (A.more k cb db a w.heap.size).db j = A.db j ∧ (A.more k cb db a w.heap.size).ba j = A.ba j := by
  have e : ¬ j = k := by omega
  exact ⟨if_neg e, if_neg e, if_neg e⟩
theorem more_new : (A.more k cb db a w.heap.size).cb k = cb ∧ (A.more k cb db a w.heap.size).db k = db ∧ (A.more k cb db a w.heap.size).ba k = a := ⟨if_pos rfl, if_pos rfl, if_pos rfl⟩
theorem more_T {x : Nat} (hx : x < w.heap.size) : (A.more k cb db a w.heap.size).T x = A.T x := if_pos hx
theorem tab_pos (h : TAB W) : 0 < W.heap.size := tab_lt h
/-- One processor more: what is in w6 is what was in w, but for the engine's block, and new blocks. -/
theorem ne_step (h : NE g A k on v W w) (hb : ∀ x, x < w.heap.size → x ≠ A.e → v.ownBlock ≠ some x → w6.heap[x]? = w.heap[x]?) (hs6 : w.heap.size ≤ w6.heap.size)
    (hbl : Below W.heap.size W w6)
    (ha : ∀ x, a.has x → w.heap.size ≤ x) (hcb : w.heap.size ≤ cb) (hdb : w.heap.size ≤ db) (n1 : cb ≠ db) (n2 : ¬ a.has cb) (n3 : ¬ a.has db)
    (hbr : BR a (fun _ => []) w6) (hdr : DR db (Dv.new 1 g) w6) (hcp : w6.heap[cb]? = some (.cells #[ptr a.bb, ptr db, .bool false, .bool false] 74))
    (heb : ∃ m, w6.heap[A.e]? = some (.cells #[ptr A.ck, v', .int .u32 (m : Nat), .map (some A.mb)] 69) ∧ MK m on)
    (hrow : w6.ownsRow W.heap.size 70 1 v' (k + 1) (((List.range k).map fun i => ptr (A.cb i)) ++ [ptr cb]))
    (hv : v'.ownBlock = v.ownBlock ∨ ∃ x, v'.ownBlock = some x ∧ w.heap.size ≤ x ∧ x ≠ cb ∧ x ≠ db ∧ ¬ a.has x) : NE g (A.more k cb db a w.heap.size) (k + 1) on v' W w6 := by
  have hA := h.hs
  have hold : ∀ x, A.hs k x → x ≠ A.e → w6.heap[x]? = w.heap[x]? := fun x hx he => hb x (hA x hx).2 he fun e => h.nv x e hx
  have tcb0 : ∀ i, i < k → A.hs k (A.cb i) := fun i hi => .inr (.inr (.inr ⟨i, hi, .inl rfl⟩))
  have tdb0 : ∀ i, i < k → A.hs k (A.db i) := fun i hi => .inr (.inr (.inr ⟨i, hi, .inr (.inl rfl)⟩))
  have tba0 : ∀ i, i < k → ∀ x, (A.ba i).has x → A.hs k x := fun i hi x hx => .inr (.inr (.inr ⟨i, hi, .inr (.inr hx)⟩))
  have hne : ∀ {x}, A.T x ≠ 1 → x ≠ A.e := fun hx e => hx (by rw [e]; exact h.te)
  have hlt := hA
  have tT : ∀ {x}, A.hs k x → (A.more k cb db a w.heap.size).T x = A.T x := fun hx => more_T (hA _ hx).2
  have hWw : W.heap.size ≤ w.heap.size := h.bl.size
  obtain ⟨e1, e2, e3⟩ := more_new (A := A) (k := k) (cb := cb) (db := db) (a := a) (w := w)
  refine ⟨?_, ?_, ?_, ?_, ?_, ?_, ?_, ?_, heb, ?_, ?_, ?_, ?_, ?_, ?_, ?_, hbl, h.tab, h.o0⟩
  · rintro x (rfl | rfl | rfl | ⟨i, hi, hx⟩)
    · exact ⟨(hA _ (.inl rfl)).1, Nat.lt_of_lt_of_le (hA _ (.inl rfl)).2 hs6⟩
    · exact ⟨(hA _ (.inr (.inl rfl))).1, Nat.lt_of_lt_of_le (hA _ (.inr (.inl rfl))).2 hs6⟩
    · exact ⟨(hA _ (.inr (.inr (.inl rfl)))).1, Nat.lt_of_lt_of_le (hA _ (.inr (.inr (.inl rfl)))).2 hs6⟩
    · by_cases e : i = k
      · subst e
        rw [e1, e2, e3] at hx
        rcases hx with rfl | rfl | hx
        · exact ⟨by omega, (Array.getElem?_eq_some_iff.1 hcp).1⟩
        · exact ⟨by omega, hdr.lt⟩
        · exact ⟨by have := ha x hx; omega, br_lt hbr x hx⟩
      · obtain ⟨f1, f2, f3⟩ := more_old (cb := cb) (db := db) (a := a) h i (by omega)
        rw [f1, f2, f3] at hx
        have := hA x (.inr (.inr (.inr ⟨i, by omega, hx⟩)))
        exact ⟨this.1, by omega⟩
  · rw [more_T (by have := tab_pos h.tab; omega)]; exact h.t0
  · exact (tT (.inl rfl)).trans h.te
  · exact (tT (.inr (.inl rfl))).trans h.tck
  · exact (tT (.inr (.inr (.inl rfl)))).trans h.tmb
  · intro i hi
    by_cases e : i = k
    · subst e
      rw [e1]
      show (if cb < w.heap.size then _ else if cb = cb then _ else _) = _
      rw [if_neg (by omega), if_pos rfl]
    · obtain ⟨f1, -⟩ := more_old (cb := cb) (db := db) (a := a) h i (by omega)
      rw [f1, tT (tcb0 i (by omega))]
      exact h.tcb i (by omega)
  · intro i hi
    by_cases e : i = k
    · subst e
      rw [e2]
      show (if db < w.heap.size then _ else if db = cb then _ else if db = db then _ else _) = _
      rw [if_neg (by omega), if_neg (fun e => n1 e.symm), if_pos rfl]
    · obtain ⟨-, f2, -⟩ := more_old (cb := cb) (db := db) (a := a) h i (by omega)
      rw [f2, tT (tdb0 i (by omega))]
      exact h.tdb i (by omega)
  · intro i hi x hx
    by_cases e : i = k
    · subst e
      rw [e3] at hx
      have := ha x hx
      show (if x < w.heap.size then _ else if x = cb then _ else if x = db then _ else _) = _
      rw [if_neg (by omega), if_neg (fun (e : x = cb) => n2 (e ▸ hx)), if_neg (fun (e : x = db) => n3 (e ▸ hx))]
    · obtain ⟨-, -, f3⟩ := more_old (cb := cb) (db := db) (a := a) h i (by omega)
      rw [f3] at hx
      rw [tT (tba0 i (by omega) x hx)]
      exact h.tba i (by omega) x hx
  · exact (hold _ (.inr (.inl rfl)) (hne (by rw [h.tck]; omega))).trans h.ck
  · intro i hi
    by_cases e : i = k
    · subst e
      rw [e1, e2, e3]
      exact hcp
    · obtain ⟨f1, f2, f3⟩ := more_old (cb := cb) (db := db) (a := a) h i (by omega)
      rw [f1, f2, f3]
      exact (hold _ (tcb0 i (by omega)) (hne (by rw [h.tcb i (by omega)]; omega))).trans (h.cp i (by omega))
  · intro i hi
    by_cases e : i = k
    · subst e
      rw [e3]
      exact hbr
    · obtain ⟨-, -, f3⟩ := more_old (cb := cb) (db := db) (a := a) h i (by omega)
      rw [f3]
      exact br_same (h.br i (by omega)) hs6 fun x hx => hold x (tba0 i (by omega) x hx) (hne (by rw [h.tba i (by omega) x hx]; omega))
  · intro i hi
    by_cases e : i = k
    · subst e
      rw [e2]
      exact hdr
    · obtain ⟨-, f2, -⟩ := more_old (cb := cb) (db := db) (a := a) h i (by omega)
      rw [f2]
      exact dr_same (h.dr i (by omega)) hs6 (hold _ (tdb0 i (by omega)) (hne (by rw [h.tdb i (by omega)]; omega)))
  · exact mv_same h.mv (hold A.mb (.inr (.inr (.inl rfl))) (hne (by rw [h.tmb]; omega)))
  · have : ((List.range (k + 1)).map fun i => ptr ((A.more k cb db a w.heap.size).cb i)) = ((List.range k).map fun i => ptr (A.cb i)) ++ [ptr cb] := by
      rw [List.range_succ, List.map_append]
      congr 1
      · refine List.map_congr_left fun i hi => ?_
        rw [(more_old (cb := cb) (db := db) (a := a) h i (List.mem_range.1 hi)).1]
      · simp [e1]
    rw [this]
    exact hrow
  · intro x hx hxs
    rcases hxs with rfl | rfl | rfl | ⟨i, hi, hxi⟩
    · rcases hv with e | ⟨y, e, hy, -⟩
      · exact h.nv _ (e ▸ hx) (.inl rfl)
      · rw [e] at hx
        obtain rfl := Option.some.inj hx
        have := (hA _ (.inl rfl)).2
        have hy : w.heap.size ≤ A.e := hy
        omega
    · rcases hv with e | ⟨y, e, hy, -⟩
      · exact h.nv _ (e ▸ hx) (.inr (.inl rfl))
      · rw [e] at hx
        obtain rfl := Option.some.inj hx
        have := (hA _ (.inr (.inl rfl))).2
        have hy : w.heap.size ≤ A.ck := hy
        omega
    · rcases hv with e | ⟨y, e, hy, -⟩
      · exact h.nv _ (e ▸ hx) (.inr (.inr (.inl rfl)))
      · rw [e] at hx
        obtain rfl := Option.some.inj hx
        have := (hA _ (.inr (.inr (.inl rfl)))).2
        have hy : w.heap.size ≤ A.mb := hy
        omega
    · by_cases ek : i = k
      · subst ek
        rw [e1, e2, e3] at hxi
        rcases hv with e | ⟨y, e, hy, m1, m2, m3⟩
        · rw [e] at hx
          have hlo : x < w.heap.size := (World.ownsRow.lt h.row x hx).2
          rcases hxi with rfl | rfl | hxi
          · omega
          · omega
          · have := ha x hxi; omega
        · rw [e] at hx
          obtain rfl := Option.some.inj hx
          rcases hxi with rfl | rfl | hxi
          · exact m1 rfl
          · exact m2 rfl
          · exact m3 hxi
      · obtain ⟨f1, f2, f3⟩ := more_old (cb := cb) (db := db) (a := a) h i (by omega)
        rw [f1, f2, f3] at hxi
        have hh : A.hs k x := .inr (.inr (.inr ⟨i, by omega, hxi⟩))
        rcases hv with e | ⟨y, e, hy, -⟩
        · exact h.nv _ (e ▸ hx) hh
        · rw [e] at hx
          obtain rfl := Option.some.inj hx
          have := (hA _ hh).2
          omega
/-- The mask has changed. -/
theorem ne_mask (h : NE g A k on v W w) {m' : Nat} {on' : Nat → Bool} (hm : MK m' on') (hs : w.heap.size ≤ w1.heap.size) (hb : ∀ x, x < w.heap.size → x ≠ A.e → w1.heap[x]? = w.heap[x]?) (hbl : Below W.heap.size W w1)
    (heb : w1.heap[A.e]? = some (.cells #[ptr A.ck, v, .int .u32 (m' : Nat), .map (some A.mb)] 69)) : NE g A k on' v W w1 := by
  have hA := h.hs
  have hne : ∀ {x}, A.T x ≠ 1 → x ≠ A.e := fun hx e => hx (by rw [e]; exact h.te)
  have hold : ∀ x, A.hs k x → A.T x ≠ 1 → w1.heap[x]? = w.heap[x]? := fun x hx he => hb x (hA x hx).2 (hne he)
  refine ⟨fun x hx => ⟨(hA x hx).1, Nat.lt_of_lt_of_le (hA x hx).2 hs⟩, h.t0, h.te, h.tck, h.tmb, h.tcb, h.tdb, h.tba, ⟨m', heb, hm⟩, ?_, ?_, ?_, ?_, ?_, ?_, h.nv, hbl, h.tab, h.o0⟩
  · exact (hold _ (.inr (.inl rfl)) (by rw [h.tck]; omega)).trans h.ck
  · intro i hi
    exact (hold _ (.inr (.inr (.inr ⟨i, hi, .inl rfl⟩))) (by rw [h.tcb i hi]; omega)).trans (h.cp i hi)
  · intro i hi
    exact br_same (h.br i hi) hs fun x hx => hold x (.inr (.inr (.inr ⟨i, hi, .inr (.inr hx)⟩))) (by rw [h.tba i hi x hx]; omega)
  · intro i hi
    exact dr_same (h.dr i hi) hs (hold _ (.inr (.inr (.inr ⟨i, hi, .inr (.inl rfl)⟩))) (by rw [h.tdb i hi]; omega))
  · exact mv_same h.mv (hold A.mb (.inr (.inr (.inl rfl))) (by rw [h.tmb]; omega))
  · refine ⟨h.row.1, ?_⟩
    rcases h.row.2 with e | ⟨gb, cap, cur, e, hb1, hg, rest⟩
    · exact .inl e
    · refine .inr ⟨gb, cap, cur, e, hb1, ?_, rest⟩
      rw [hb gb (Array.getElem?_eq_some_iff.1 hg).1 fun e2 => h.nv gb (by rw [e]; rfl) (.inl e2)]
      exact hg
/-! The engine that was made. -/
def Cp.new (g : Int) : Cp := ⟨fun _ => [], Dv.new 1 g, false, false⟩
def En.new (n : Nat) (g : Int) : En := ⟨Ck.zero, n, fun j => decide (j < n), fun _ => Cp.new g, fun _ => none, 0⟩
def EA.fin (A : EA) (lb cap : Nat) : EA := { A with lb := lb, cap := cap, T := fun x => if x = lb then 3 else A.T x }
theorem ne_fin {lb n cap : Nat} (h : NE g A n (fun j => decide (j < n)) (.slice (some ⟨lb, 0, none⟩) n cap) W w) (h1 : 1 ≤ n) (h16 : n ≤ 16) : ER (A.fin lb cap) (En.new n g) w := by
  have hnl : ∀ x, A.hs n x → x ≠ lb := fun x hx e => h.nv lb rfl (e ▸ hx)
  have hl0 : W.heap.size ≤ lb ∧ lb < w.heap.size := World.ownsRow.lt h.row lb rfl
  have hw0 := tab_pos h.tab
  have hT : ∀ x, A.hs n x → (A.fin lb cap).T x = A.T x := fun x hx => if_neg (hnl x hx)
  obtain ⟨m, hm, hk⟩ := h.eb
  refine ⟨⟨?_, ?_, ?_, if_pos rfl, ?_, ?_, ?_, ?_⟩, h1, h16, ?_, ⟨m, hm, hk⟩, h.ck, ?_, hl0.2, h.cp, h.br, h.dr, h.mv, ?_⟩
  · have : (A.fin lb cap).T 0 = A.T 0 := if_neg (by omega)
    rw [this]; exact h.t0
  · exact (hT _ (.inl rfl)).trans h.te
  · exact (hT _ (.inr (.inl rfl))).trans h.tck
  · exact (hT _ (.inr (.inr (.inl rfl)))).trans h.tmb
  · exact fun i hi => (hT _ (.inr (.inr (.inr ⟨i, hi, .inl rfl⟩)))).trans (h.tcb i hi)
  · exact fun i hi => (hT _ (.inr (.inr (.inr ⟨i, hi, .inr (.inl rfl)⟩)))).trans (h.tdb i hi)
  · exact fun i hi x hx => (hT _ (.inr (.inr (.inr ⟨i, hi, .inr (.inr hx)⟩)))).trans (h.tba i hi x hx)
  · rcases h.row.2 with ⟨e, -⟩ | ⟨gb, cap', cur, e, -, -, hc, -⟩
    · cases e
    · cases e
      exact hc
  · intro i hi
    have hi : i < n := hi
    have hc := World.ownsRow.cells (g := lb) h.row rfl i (ptr (A.cb i)) (by rw [List.getElem?_map, List.getElem?_range hi]; rfl)
    have e : (⟨lb, 0, none⟩ : Addr).add i = ⟨lb, i, none⟩ := by
      by_cases e0 : i = 0
      · rw [e0]; rfl
      · simp [Addr.add]
        omega
    rw [e] at hc
    exact hc
  · refine ⟨fun j hj => ?_, (h.bl.block 0 hw0).trans h.o0⟩
    have h0 := h.tab j hj
    exact (World.cell?_of_block (a := ⟨0, dbi j, none⟩) (h.bl.block 0 hw0)).trans h0
theorem ei_new (n : Nat) (h16 : n ≤ 16) (g : Int) : EI (En.new n g) (fun _ => none) := by
  refine ⟨ok_zero, fun i hi q hq t => ?_, fun id i t h => (by cases h), fun id => rfl, fun i hi q hq => List.nodup_nil, fun i hi q hq => List.Pairwise.nil, ⟨[], List.nodup_nil, rfl, fun id => ?_⟩, Nat.zero_le _, fun i hi => ?_⟩
  · constructor
    · intro h; cases h
    · rintro ⟨h, -⟩; cases h
  · constructor
    · intro h; cases h
    · intro h; cases h
  · have : decide (i < n) = true := hi
    exact of_decide_eq_true this
end
end Go.Proofs.YtlcaepcojglbiaaGreatDoor.Tp
namespace Go.Proofs.YtlcaepcojglbiaaGreatDoor.Tp
open Go.RowKit Go.Maps
set_option linter.unusedVariables false
set_option linter.unusedSimpArgs false
theorem info70z : (Tryz.prog.info? 70).map (fun i => (i.zero, i.size, i.bytes)) = some (some (.pointer none), 1, 8) := by kernel_rfl
theorem dnew_at (g : Int) (h1 : 1 ≤ g) (h2 : g ≤ 1099511627776) (W : World) : Calls Tryz.prog 15 #[.int .i64 1, .int .i64 g] W fun e W' => e = .returned (ptr W.heap.size) ∧ DR W.heap.size (Dv.new 1 g) W' ∧ Below W.heap.size W W' := by
  go_enter Tryz.func15, Tryz.ntmps15
  go_wp2
  go_ret
  have hn := heap_alloc_new W (.cells #[.int .i64 1, .int .i64 g, .int .i64 0, .bool false, .bool false, .bool false] 98)
  refine ⟨rfl, ⟨(cell_of hn 0 _ rfl).1, (cell_of hn 1 _ rfl).1, (cell_of hn 2 _ rfl).1, (cell_of hn 3 _ rfl).1, (cell_of hn 4 _ rfl).1, (cell_of hn 5 _ rfl).1, fun j => ?_, by simp⟩, (Below.refl _ _).alloc (Nat.le_refl _) _⟩
  unfold World.frozen?
  dsimp only
  rw [hn]
  simp
theorem ne_start {g : Int} {W w2 : World} {ck0 : Nat} (hT : TAB W) (hB : Below W.heap.size W w2) (hc : CR ck0 Ck.zero w2) (hck : W.heap.size ≤ ck0) : ∃ A : EA, A.e = w2.heap.size + 1 ∧ NE g A 0 (fun j => decide (j < 0)) (.slice none 0 0) W ((w2.alloc (.map #[] 0)).alloc (.cells #[ptr ck0, .slice none 0 0, .int .u32 0, .map (some w2.heap.size)] 69)) := by
  have hl := cr_lt hc
  have hs := hB.size
  obtain ⟨o0, ho0⟩ : ∃ o, W.heap[0]? = some o := ⟨_, Array.getElem?_eq_getElem (tab_pos hT)⟩
  have h0 := tab_pos hT
  have hB2 := hB.alloc hB.size (.map #[] 0)
  have hB3 := hB2.alloc hB2.size (.cells #[ptr ck0, .slice none 0 0, .int .u32 0, .map (some w2.heap.size)] 69)
  have m1 := mv_made 3 ki wv w2
  have hs1 : (w2.alloc (.map #[] 0)).heap.size = w2.heap.size + 1 := by simp
  have hs2 : ((w2.alloc (.map #[] 0)).alloc (.cells #[ptr ck0, .slice none 0 0, .int .u32 0, .map (some w2.heap.size)] 69)).heap.size = w2.heap.size + 2 := by simp
  have hn := heap_alloc_new (w2.alloc (.map #[] 0)) (.cells #[ptr ck0, .slice none 0 0, .int .u32 0, .map (some w2.heap.size)] 69)
  rw [hs1] at hn
  refine ⟨⟨w2.heap.size + 1, ck0, 0, 0, w2.heap.size, fun _ => 0, fun _ => 0, fun _ => ⟨0, fun _ => ⟨0, 0, 0, 0, 0⟩⟩, fun x => if x = w2.heap.size + 1 then 1 else if x = ck0 then 2 else if x = w2.heap.size then 4 else 0, o0⟩, rfl, ?_⟩
  refine ⟨?_, ?_, if_pos rfl, ?_, ?_, fun i hi => by omega, fun i hi => by omega, fun i hi => by omega, ⟨0, hn, ?_⟩, ?_, fun i hi => by omega, fun i hi => by omega, fun i hi => by omega, ?_, ?_, fun x hx => (by simp [Value.ownBlock] at hx), hB3, hT, ho0⟩
  · rintro x (e | e | e | ⟨i, hi, -⟩)
    · rw [hs2]; have e : x = w2.heap.size + 1 := e; omega
    · rw [hs2]; have e : x = ck0 := e; omega
    · rw [hs2]; have e : x = w2.heap.size := e; omega
    · omega
  · show (if 0 = w2.heap.size + 1 then 1 else if 0 = ck0 then 2 else if 0 = w2.heap.size then 4 else 0) = 0
    rw [if_neg (by omega), if_neg (by omega), if_neg (by omega)]
  · show (if ck0 = w2.heap.size + 1 then 1 else if ck0 = ck0 then 2 else if ck0 = w2.heap.size then 4 else 0) = 2
    rw [if_neg (by omega), if_pos rfl]
  · show (if w2.heap.size = w2.heap.size + 1 then 1 else if w2.heap.size = ck0 then 2 else if w2.heap.size = w2.heap.size then 4 else 0) = 4
    rw [if_neg (by omega), if_neg (by omega), if_pos rfl]
  · exact ⟨by omega, fun j _ => by rw [Nat.zero_testBit]; simp⟩
  · exact ((Below.heap_alloc (w2.alloc (.map #[] 0)) _ ck0 (by rw [hs1]; omega)).trans (Below.heap_alloc w2 _ ck0 hl)).trans hc
  · exact mv_same m1 (Below.heap_alloc (w2.alloc (.map #[] 0)) _ w2.heap.size (by rw [hs1]; omega))
  · exact World.ownsRow_nil _ _ _ _
theorem own_same {base e size n : Nat} {v : Value} {xs : List Value} {w w' : World} (h : w.ownsRow base e size v n xs) (hb : ∀ k, v.ownBlock = some k → w'.heap[k]? = w.heap[k]?) : w'.ownsRow base e size v n xs := by
  refine ⟨h.1, ?_⟩
  rcases h.2 with hn | ⟨g, cap, cur, rfl, hb1, hg, rest⟩
  · exact .inl hn
  · exact .inr ⟨g, cap, cur, rfl, hb1, (hb g rfl).trans hg, rest⟩
/-- Behind the calls of a round. -/
theorem nw_facts {g : Int} {A : EA} {k e0 : Nat} {on : Nat → Bool} {v : Value} {W wr w2 w3 : World} (h : NE g A k on v W wr) (he : A.e = e0) (hB2 : Below wr.drew.heap.size wr.drew w2) (hB3 : Below w2.heap.size w2 w3) (o1 o2 : Obj) :
    w3.frozen? ⟨e0, 1, none⟩ = false ∧ ((w3.alloc o1).alloc o2).ownsRow W.heap.size 70 1 v k ((List.range k).map fun i => ptr (A.cb i)) ∧ W.heap.size ≤ ((w3.alloc o1).alloc o2).heap.size ∧ (∀ w5, ((w3.alloc o1).alloc o2).grownBy w5 v.ownBlock → w5.heap[e0]? = w3.heap[e0]?) ∧ (∀ x, x < wr.heap.size → ((w3.alloc o1).alloc o2).heap[x]? = wr.heap[x]?) ∧ wr.heap.size ≤ w3.heap.size := by
  have s1 : wr.heap.size ≤ w2.heap.size := hB2.size
  have s2 := hB3.size
  have hall : ∀ x, x < wr.heap.size → w3.heap[x]? = wr.heap[x]? := fun x hx => (hB3.block x (by omega)).trans (hB2.block x hx)
  have hs : ((w3.alloc o1).alloc o2).heap.size = w3.heap.size + 2 := by simp
  have hal : ∀ x, x < w3.heap.size → ((w3.alloc o1).alloc o2).heap[x]? = w3.heap[x]? := fun x hx => (Below.heap_alloc (w3.alloc o1) o2 x (by simp; omega)).trans (Below.heap_alloc w3 o1 x hx)
  have hel := (h.hs A.e (.inl rfl)).2
  rw [he] at hel
  obtain ⟨m, hm, -⟩ := h.eb
  rw [he] at hm
  obtain ⟨-, ⟨-, z1⟩, -⟩ := cells4 hm
  refine ⟨(World.frozen?_of_block (a := ⟨e0, 1, none⟩) (hall e0 hel)).trans z1, own_same h.row fun x hx => ?_, by rw [hs]; have := h.bl.size; omega, fun w5 hg => ?_, fun x hx => (hal x (by omega)).trans (hall x hx), by omega⟩
  · have := (World.ownsRow.lt h.row x hx).2
    exact (hal x (by omega)).trans (hall x this)
  · refine (hg.block e0 (by rw [hs]; omega) fun e => h.nv e0 e.symm (.inl he.symm)).trans (hal e0 (by omega))
theorem nw_end {g : Int} {A : EA} {k e0 : Nat} {on : Nat → Bool} {v v5 : Value} {W wr w2 w3 w5 : World} {a : BA} (h : NE g A k on v W wr) (he : A.e = e0)
    (hbr : BR a (fun _ => []) w2) (hB2 : Below wr.drew.heap.size wr.drew w2) (hlo : ∀ i, a.has i → wr.drew.heap.size ≤ i) (hdr : DR w2.heap.size (Dv.new 1 g) w3) (hB3 : Below w2.heap.size w2 w3)
    (hold : ∀ x, x < wr.heap.size → ((w3.alloc (.cells #[ptr a.bb, ptr w2.heap.size, .bool false, .bool false] 74)).alloc (.cells #[ptr w3.heap.size] 70)).heap[x]? = wr.heap[x]?) (hsz : wr.heap.size ≤ w3.heap.size)
    (hown : w5.ownsRow W.heap.size 70 1 v5 (k + 1) (((List.range k).map fun i => ptr (A.cb i)) ++ [ptr w3.heap.size]))
    (hgr : ((w3.alloc (.cells #[ptr a.bb, ptr w2.heap.size, .bool false, .bool false] 74)).alloc (.cells #[ptr w3.heap.size] 70)).grownBy w5 v.ownBlock)
    (hloc : v5.ownBlock = v.ownBlock ∨ v5.ownBlock = some ((w3.alloc (.cells #[ptr a.bb, ptr w2.heap.size, .bool false, .bool false] 74)).alloc (.cells #[ptr w3.heap.size] 70)).heap.size) :
    NE g (A.more k w3.heap.size w2.heap.size a wr.heap.size) (k + 1) on v5 W (w5.setCell ⟨e0, 1, none⟩ v5) := by
  have s1 : wr.heap.size ≤ w2.heap.size := hB2.size
  have s2 := hB3.size
  have hdl := hdr.lt
  have hs4 : ((w3.alloc (.cells #[ptr a.bb, ptr w2.heap.size, .bool false, .bool false] 74)).alloc (.cells #[ptr w3.heap.size] 70)).heap.size = w3.heap.size + 2 := by simp
  have hs5 := hgr.size
  have hel := h.hs A.e (.inl rfl)
  rw [he] at hel
  have hvl : ∀ x, v.ownBlock = some x → W.heap.size ≤ x ∧ x < wr.heap.size := fun x hx => World.ownsRow.lt h.row x hx
  have hal : ∀ x, x < w3.heap.size → ((w3.alloc (.cells #[ptr a.bb, ptr w2.heap.size, .bool false, .bool false] 74)).alloc (.cells #[ptr w3.heap.size] 70)).heap[x]? = w3.heap[x]? := fun x hx => (Below.heap_alloc (w3.alloc _) _ x (by simp; omega)).trans (Below.heap_alloc w3 _ x hx)
  have hset : ∀ x, x ≠ e0 → (w5.setCell ⟨e0, 1, none⟩ v5).heap[x]? = w5.heap[x]? := fun x hx => Below.heap_setCell _ _ _ _ hx
  -- blocks from the size of wr on, below w3
  have hnew : ∀ x, wr.heap.size ≤ x → x < w3.heap.size → (w5.setCell ⟨e0, 1, none⟩ v5).heap[x]? = w3.heap[x]? := fun x h1 h2 => (hset x (by omega)).trans ((hgr.block x (by omega) fun e => by have := hvl x e.symm; omega).trans (hal x h2))
  have hv5 : v5.ownBlock ≠ some e0 := fun e => by
    rcases hloc with q | q
    · exact h.nv e0 (q ▸ e) (.inl he.symm)
    · rw [e, hs4] at q
      have := Option.some.inj q
      omega
  have hb0 : Below W.heap.size W ((w3.alloc (.cells #[ptr a.bb, ptr w2.heap.size, .bool false, .bool false] 74)).alloc (.cells #[ptr w3.heap.size] 70)) := by
    have b2 : Below W.heap.size W w2 := h.bl.trans ((show Below wr.heap.size wr w2 from ⟨hB2.os, hB2.tape, hB2.output, hB2.size, hB2.block⟩).mono h.bl.size)
    have b3 : Below W.heap.size W w3 := b2.trans (hB3.mono b2.size)
    have b4 := b3.alloc b3.size (.cells #[ptr a.bb, ptr w2.heap.size, .bool false, .bool false] 74)
    exact b4.alloc b4.size _
  obtain ⟨m, hm, hmk⟩ := h.eb
  rw [he] at hm
  have hm5 : w5.heap[e0]? = some (.cells #[ptr A.ck, v, .int .u32 (m : Nat), .map (some A.mb)] 69) := (hgr.block e0 (by omega) fun e => h.nv e0 e.symm (.inl he.symm)).trans ((hold e0 hel.2).trans hm)
  refine ne_step h (fun x hx hxe hv => ?_) (by rw [size_set]; omega) (below_set (below_grown hb0 (Nat.le_refl _) hgr fun x hx => (hvl x hx).1) (by exact hel.1) _) (fun x hx => hlo x hx) (by omega) (by omega) (by omega) (fun e => by have := br_lt hbr _ e; omega) (fun e => by have := br_lt hbr _ e; omega) ?_ ?_ ?_ ⟨m, ?_, hmk⟩ ?_ ?_
  · rw [he] at hxe
    exact (hset x hxe).trans ((hgr.block x (by omega) fun e => hv e.symm).trans (hold x hx))
  · exact br_same hbr (by rw [size_set]; omega) fun x hx => by
      have h1 := br_lt hbr x hx
      have h2 : wr.heap.size ≤ x := hlo x hx
      exact (hnew x h2 (by omega)).trans (hB3.block x h1)
  · exact dr_same hdr (by rw [size_set]; omega) (hnew w2.heap.size (by omega) hdl)
  · have h1 : ((w3.alloc (.cells #[ptr a.bb, ptr w2.heap.size, .bool false, .bool false] 74)).alloc (.cells #[ptr w3.heap.size] 70)).heap[w3.heap.size]? = some (.cells #[ptr a.bb, ptr w2.heap.size, .bool false, .bool false] 74) := (Below.heap_alloc (w3.alloc _) _ w3.heap.size (by simp)).trans (heap_alloc_new w3 _)
    exact (hset w3.heap.size (by omega)).trans ((hgr.block w3.heap.size (by omega) fun e => by have := hvl _ e.symm; omega).trans h1)
  · rw [he]
    exact heap_setCell_same w5 e0 1 _ 69 v5 hm5
  · exact own_same hown fun x hx => hset x fun e => hv5 (by rw [hx, e])
  · rcases hloc with q | q
    · exact .inl q
    · exact .inr ⟨_, q, by omega, by omega, by omega, fun e => by have := br_lt hbr _ e; omega⟩
set_option maxRecDepth 100000 in
set_option maxHeartbeats 8000000 in
theorem enew_at (n : Nat) (hn1 : 1 ≤ n) (hn16 : n ≤ 16) (g : Int) (hg1 : 1 ≤ g) (hg2 : g ≤ 1099511627776) (W : World) (hT : TAB W) : Calls Tryz.prog 6 #[.int .i64 (n : Nat), .int .i64 1, .int .i64 g] W fun e W' => ∃ A : EA, e = .returned (ptr A.e) ∧ ER A (En.new n g) W' ∧ Below W.heap.size W W' ∧ ∀ x, A.has n x → x = 0 ∨ W.heap.size ≤ x := by
  have C1 := Lib.hid (fun w => dnew_at g hg1 hg2 w)
  have C2 := Lib.hid (fun w => cnew_at w)
  have C3 := Lib.hid bnew_at
  have HTAB := Lib.hid hT
  have hmm := @run_makeMap Tryz.prog
  have HG := Lib.hid (And.intro hg1 hg2)
  clear hT hg1 hg2
  go_enter Tryz.func6, Tryz.ntmps6
  go_wp2_with (first
    | (go_at_call 15; refine (C1.out _).mono ?_; rintro e w1 ⟨rfl, -, hB⟩; have HB1 := Lib.hid hB; clear hB)
    | (go_at_call 16; refine (C2.out _).mono ?_; clear C2; rintro e w2 ⟨rfl, hc, hB⟩; have HC2 := Lib.hid hc; have HB2 := Lib.hid (HB1.out.trans (hB.mono HB1.out.size)); clear hc hB)
    | fail)
  obtain ⟨A0, hA0, hN0⟩ := ne_start (g := g) HTAB.out HB2.out HC2.out (by have := HB1.out.size; exact this)
  obtain ⟨e0, he0⟩ : ∃ e0, w2.heap.size + 1 = e0 := ⟨_, rfl⟩
  have HJ0 : Hid (A0.e = e0 ∧ NE g A0 0 (fun j => decide (j < 0)) (.slice none 0 0) W ((w2.alloc (.map #[] 0)).alloc (.cells #[ptr w1.heap.size, .slice none 0 0, .int .u32 0, .map (some w2.heap.size)] 69))) := Lib.hid ⟨by rw [hA0, he0], hN0⟩
  rw [he0]
  clear hA0 hN0 he0 HC2 HB1 HB2
  go_loopw [26] (fun s26 wr => ∃ (k : Nat) (A : EA) (v : Value), k ≤ n ∧ s26 = .int .i64 k ∧ Hid (A.e = e0 ∧ NE g A k (fun j => decide (j < k)) v W wr)) (fun s26 _ => n - (intOf s26).toNat)
  case atStart => exact ⟨0, A0, _, by omega, rfl, HJ0⟩
  case round =>
    obtain ⟨k, A, v, hk, rfl, HJ⟩ := hrel
    clear HJ0
    by_cases hkn : k = n
    · subst hkn
      clear hk
      go_wp2_with fail
      go_ret
      obtain ⟨he, hN⟩ := HJ.out
      rcases hN.row.2 with ⟨-, e⟩ | ⟨lb, cap, cur, rfl, -⟩
      · omega
      · refine ⟨A.fin lb cap, by rw [← he]; rfl, ne_fin hN hn1 hn16, hN.bl, ?_⟩
        have hl := (World.ownsRow.lt hN.row lb rfl).1
        rintro x (rfl | rfl | rfl | rfl | rfl | ⟨i, hi, hx⟩)
        · exact .inl rfl
        · exact .inr (hN.hs _ (.inl rfl)).1
        · exact .inr (hN.hs _ (.inr (.inl rfl))).1
        · exact .inr hl
        · exact .inr (hN.hs _ (.inr (.inr (.inl rfl)))).1
        · exact .inr (hN.hs _ (.inr (.inr (.inr ⟨i, hi, hx⟩)))).1
    · have hk2 : (k : Int) < (n : Int) := by omega
      have hk3 : k < n := by omega
      obtain ⟨pv, mv, cv, rfl⟩ := own_slice HJ.out.2.row
      obtain ⟨m, hm, hmk⟩ := HJ.out.2.eb
      rw [HJ.out.1] at hm
      have hel := (HJ.out.2.hs A.e (.inl rfl)).2
      rw [HJ.out.1] at hel
      have HM := Lib.hid hm
      have HMK := Lib.hid hmk
      obtain ⟨-, f1, -, -⟩ := cells4 hm
      obtain ⟨f1, -⟩ := f1
      have hWr := HJ.out.2.bl.size
      clear hm hmk hkn hk
      go_wp2_with fail
      go_region_law (first
        | (refine step_app rfl _ _ 65 rfl Tryz.underlying65 info70z rfl (by omega) (by omega) ?_ ?_ HO.out HO1.out (by simp [Value.oneCell']) HLE.out HBE.out ?_; rfl; rfl; intro v5 w5 hown hgr hloc; have hb5 := HBW.out w5 hgr; have g1 := (World.cell?_of_block (a := ⟨e0, 1, none⟩) hb5).trans f3; have z1 := (World.frozen?_of_block (a := ⟨e0, 1, none⟩) hb5).trans z3; obtain ⟨p5, m5, c5, rfl⟩ := own_slice hown; have HA := Lib.hid (And.intro hown (And.intro hgr (And.intro hloc hb5))); clear hown hgr hloc hb5)
        | (go_simp; go_at_call 17; refine (C3.out _).mono ?_; rintro e w2 ⟨a, rfl, hbr, hB, hlo⟩; have hb2 := hB.block e0 hel; have f2 := (World.cell?_of_block (a := ⟨e0, 1, none⟩) hb2).trans f1; have HBR := Lib.hid (And.intro hbr (And.intro hB hlo)); have hl2 : e0 < w2.heap.size := (Nat.lt_of_lt_of_le hel hB.size); clear hbr hlo hB hb2)
        | (go_simp; go_at_call 15; refine (C1.out _).mono ?_; rintro e w3 ⟨rfl, hdr, hB⟩; have hb3 := hB.block e0 hl2; have f3 := (World.cell?_of_block (a := ⟨e0, 1, none⟩) hb3).trans f2; have hl3 : e0 < w3.heap.size := (Nat.lt_of_lt_of_le hl2 hB.size); have hx3 : ¬ e0 = w3.heap.size := (by omega); have hx4 : ¬ e0 = w3.heap.size + 1 := (by omega); have HDR := Lib.hid (And.intro hdr hB); obtain ⟨z3, ho3, hbe, hbw, hold, hsz⟩ := nw_facts HJ.out.2 HJ.out.1 HBR.out.2.1 hB (.cells #[ptr a.bb, ptr w2.heap.size, .bool false, .bool false] 74) (.cells #[ptr w3.heap.size] 70); have HO := Lib.hid ho3; have HBE := Lib.hid hbe; have HBW := Lib.hid hbw; have HOLD := Lib.hid (And.intro hold hsz); have ho1 := own_new (w3.alloc (.cells #[ptr a.bb, ptr w2.heap.size, .bool false, .bool false] 74)) #[ptr w3.heap.size] 70 1 1 0 (Nat.zero_le _) rfl (by unfold maxLen; omega); rw [show (w3.alloc (.cells #[ptr a.bb, ptr w2.heap.size, .bool false, .bool false] 74)).heap.size = w3.heap.size + 1 by simp] at ho1; have HO1 := Lib.hid ho1; have HLE : Hid (k + 1 ≤ 1000000) := Lib.hid (by omega); clear ho3 hbe hbw hold hsz ho1; clear hdr hB hb3)
        | fail)
      all_goals
        have HN := Lib.hid (nw_end HJ.out.2 HJ.out.1 HBR.out.1 HBR.out.2.1 HBR.out.2.2 HDR.out.1 HDR.out.2 HOLD.out.1 HOLD.out.2 HA.out.1 HA.out.2.1 HA.out.2.2.1)
        have HAE := Lib.hid HJ.out.1
        clear f1 f2 f3 g1 z1 z3 HBR HDR HA HOLD HJ HM HMK HO HO1 HLE HBE HBW
        obtain ⟨A2, hA2⟩ : ∃ A2, A.more k w3.heap.size w2.heap.size a wr.heap.size = A2 := ⟨_, rfl⟩
        have hae2 : A2.e = e0 := by rw [← hA2]; exact HAE.out
        rw [hA2] at HN
        obtain ⟨w6, hw6⟩ : ∃ w6, w5.setCell ⟨e0, 1, none⟩ (.slice p5 m5 c5) = w6 := ⟨_, rfl⟩
        rw [hw6] at HN ⊢
        clear hA2 hw6 hl2 hl3 hx3 hx4 hel HAE
        obtain ⟨m1, hm1, hk1⟩ := HN.out.eb
        rw [hae2] at hm1
        have hel6 := (HN.out.hs A2.e (.inl rfl)).2
        rw [hae2] at hel6
        have hal := Below.heap_alloc w6 (.cells #[.int .i64 (k : Nat)] 3) e0 hel6
        have HX : Hid (NE g A2 (k + 1) (fun j => decide (j < k + 1)) (.slice p5 m5 c5) W ((w6.alloc (.cells #[.int .i64 (k : Nat)] 3)).setCell ⟨e0, 2, none⟩ (.int .u32 ((m1 ||| 2 ^ k : Nat) : Int))).drew) := by
          have hmk := mk_with hk1 (show k < 16 by omega)
          have hon : mwith (fun j => decide (j < k)) k = fun j => decide (j < k + 1) := funext fun j => by
            unfold mwith
            rw [Bool.eq_iff_iff]
            simp
            omega
          rw [hon] at hmk
          have hbl := HN.out.bl
          have hse : W.heap.size ≤ e0 := by have := (HN.out.hs A2.e (.inl rfl)).1; rw [hae2] at this; exact this
          refine Lib.hid (ne_mask HN.out hmk ?_ (fun x hx he => ?_) (below_drew (below_set (hbl.alloc hbl.size _) (by exact hse) _)) ?_)
          · show w6.heap.size ≤ ((w6.alloc _).setCell _ _).heap.size
            rw [size_set]
            simp
          · rw [hae2] at he
            exact (Below.heap_setCell _ _ _ _ he).trans (Below.heap_alloc w6 _ x hx)
          · rw [hae2]
            exact heap_setCell_same (w6.alloc _) e0 2 _ 69 _ (hal.trans hm1)
        obtain ⟨-, -, ⟨q2, z2⟩, -⟩ := cells4 hm1
        have q3 := (World.cell?_of_block (a := ⟨e0, 2, none⟩) hal).trans q2
        have z3 := (World.frozen?_of_block (a := ⟨e0, 2, none⟩) hal).trans z2
        have hp := pow16 (show k < 16 by omega)
        have hu := u32_or m1 (2 ^ k) (by have := hk1.lt; omega) (by omega)
        have CF := Lib.hid (fun b w (hb : w.cell? ⟨b, 0, none⟩ = some (.int .i64 (k : Nat))) => of_at (b := b) k (by omega) w hb)
        obtain ⟨P2, hP2⟩ : ∃ P2 : Int, ((2 ^ k : Nat) : Int) = P2 := ⟨_, rfl⟩
        rw [hP2] at hu CF
        clear hP2 hp hm1 hk1 hal hel6
        go_wp2_with fail
        go_region_law (first
          | (go_simp; go_at_call 18; refine (CF.out _ _ (by go_simp)).mono ?_; rintro e w7 ⟨rfl, rfl⟩)
          | fail)
        all_goals
          clear q2 q3 z2 z3 hu CF
          go_wp2_with fail
          go_roundw
          case rel => exact ⟨k + 1, A2, _, by omega, by go_num, Lib.hid ⟨hae2, HX.out⟩⟩
          case measure => simp [intOf]; omega
end Go.Proofs.YtlcaepcojglbiaaGreatDoor.Tp
