/- The engine: one act: a part of the walk of the whole machine. For all states that the readings allow. -/
import Derived.Deep.RegionHeld3
import Derived.Test.YtlcaepcojglbiaaGreatDoorMu
import Derived.Test.YtlcaepcojglbiaaGreatDoorMv
namespace Go.Proofs.YtlcaepcojglbiaaGreatDoor.Tp
open Go.RowKit Go.Maps
set_option linter.unusedVariables false
set_option linter.unusedSimpArgs false
/-- What a step does. -/
inductive DoR (E : En) (M : GM) (s : St) : List Fd → Int → En → GM → Prop
  | start_ok (i : Nat) : s.kind = 1 → s.cpu = (i : Nat) → E.on i = true → badT s.t = false → M s.t.id = none → E.wn < 64 → DoR E M s [] 0 ((E.put i s.t).look i) (Mset M s.t.id (some (i, s.t)))
  | start_no (x : Int) : s.kind = 1 → (onI E.on s.cpu = false ∨ badT s.t = true ∨ (M s.t.id).isSome = true ∨ 64 ≤ E.wn) → DoR E M s [] x E M
  | cancel_no : s.kind = 2 → M s.n = none → DoR E M s [] 7 E M
  | cancel_ok (i : Nat) (t : Tm) : s.kind = 2 → M s.n = some (i, t) → DoR E M s [] 0 (E.cancl i t) (Mset M s.n none)
  | adv_no : s.kind = 3 → E.K.bad s.n = true → DoR E M s [] 2 E M
  | adv_ok : s.kind = 3 → E.K.bad s.n = false → DoR E M s [] 0 ((E.ckt (E.K.adv s.n)).passes E.n) M
  | of_no (x : Int) : (s.kind = 4 ∨ s.kind = 5 ∨ s.kind = 6 ∨ s.kind = 10) → DoR E M s [] x E M
  | irq (i : Nat) : s.kind = 4 → s.cpu = (i : Nat) → E.on i = true → (E.c i).d.latched = true → DoR E M s ((E.exp i false).map (fd E.K i)) 0 (E.irq i) (Mfire E.K M i false)
  | soft (i : Nat) : s.kind = 5 → s.cpu = (i : Nat) → E.on i = true → (E.c i).raised = true → DoR E M s ((E.exp i true).map (fd E.K i)) 0 (E.soft i) (Mfire E.K M i true)
  | kick (i : Nat) : s.kind = 6 → s.cpu = (i : Nat) → E.on i = true → (E.c i).kicked = true → DoR E M s [] 0 (E.kick i) M
  | offl (i d : Nat) : s.kind = 10 → s.cpu = (i : Nat) → E.on i = true → nextOn (mwo E.on i) i = some d → DoR E M s [] 0 (E.offl i d) (Moff E M i d)
  | clk (x : Int) (K' : Ck) : (s.kind = 7 ∧ K' = E.K.set s.n ∨ s.kind = 8 ∧ K' = E.K.sus ∨ s.kind = 9 ∧ K' = E.K.res) → DoR E M s [] x (E.stp K') M
  | bring_no (x : Int) : s.kind = 11 → DoR E M s [] x E M
  | bring_ok (i : Nat) : s.kind = 11 → s.cpu = (i : Nat) → i < E.n → E.on i = false → DoR E M s [] 0 (E.brings i) M
  | settle (o : List Fd) (E' : En) (M' : GM) : s.kind = 12 → Settle E M o E' M' → DoR E M s o 0 E' M'
  | other : (s.kind < 1 ∨ 12 < s.kind) → DoR E M s [] 1 E M
/-- What a step does with the clocks. -/
def Ck.stp (K : Ck) (s : St) : Ck := if s.kind = 3 then K.adv s.n else if s.kind = 7 then K.set s.n else if s.kind = 8 then K.sus else if s.kind = 9 then K.res else K
section
variable {E : En} {M : GM}
theorem stp_K (K' : Ck) : (E.stp K').K = K' ∧ (E.stp K').n = E.n ∧ (E.stp K').on = E.on ∧ (E.stp K').wn = E.wn := by
  unfold En.stp
  split
  · exact ⟨rfl, rfl, rfl, rfl⟩
  · obtain ⟨h1, h2, h3, -, h5⟩ := kicks_same (onl E.on 16) (E.ckt K')
    exact ⟨h2, h1, h3, h5⟩
theorem look_same (E : En) (i : Nat) : (E.look i).n = E.n ∧ (E.look i).K = E.K := ⟨rfl, rfl⟩
theorem offs_same (E : En) (i : Nat) : (E.offs i).n = E.n ∧ (E.offs i).K = E.K := ⟨rfl, rfl⟩
theorem offl_same (E : En) (i d : Nat) : (E.offl i d).n = E.n ∧ (E.offl i d).K = E.K := by
  obtain ⟨h1, h2, -⟩ := moves_same i d (ball (E.c i).b 6) E
  exact ⟨(look_same ((E.gone0 i d).offs i) d).1.trans ((offs_same (E.gone0 i d) i).1.trans h1), (look_same ((E.gone0 i d).offs i) d).2.trans ((offs_same (E.gone0 i d) i).2.trans h2)⟩
theorem ok_stp {K : Ck} (h : K.ok) (hg : K.gen < 1000000) (s : St) : (K.stp s).ok ∧ K.gen ≤ (K.stp s).gen ∧ (K.stp s).gen ≤ K.gen + 1 := by
  unfold Ck.stp
  split
  · obtain ⟨h1, h2⟩ := ok_adv h s.n
    exact ⟨h1, by omega, by omega⟩
  · split
    · exact ok_set h hg s.n
    · split
      · obtain ⟨h1, h2⟩ := ok_sus h
        exact ⟨h1, by omega, by omega⟩
      · split
        · exact ok_res h hg
        · exact ⟨h, by omega, by omega⟩
theorem dor_ei {s : St} {o : List Fd} {x : Int} {E' : En} {M' : GM} (h : EI E M) (hw : s.t.wf) (hg : E.K.gen < 1000000) (hd : DoR E M s o x E' M') : EI E' M' ∧ E'.n = E.n ∧ E'.K = E.K.stp s := by
  have hno : s.kind ≠ 3 → s.kind ≠ 7 → s.kind ≠ 8 → s.kind ≠ 9 → E.K = E.K.stp s := fun h3 h7 h8 h9 => by
    unfold Ck.stp
    rw [if_neg h3, if_neg h7, if_neg h8, if_neg h9]
  cases hd with
  | start_ok i hk hc ho hb hM hn =>
    unfold badT at hb
    simp only [Bool.or_eq_false_iff, decide_eq_false_iff_not] at hb
    exact ⟨ei_look (ei_put h (h.onn i ho) ho hw ⟨by omega, by omega⟩ (by omega) hM hn) i, rfl, hno (by omega) (by omega) (by omega) (by omega)⟩
  | start_no x hk => exact ⟨h, rfl, hno (by omega) (by omega) (by omega) (by omega)⟩
  | cancel_no hk => exact ⟨h, rfl, hno (by omega) (by omega) (by omega) (by omega)⟩
  | cancel_ok i t hk hM =>
    have hid := (h.dom _ _ _ hM).1
    refine ⟨?_, rfl, hno (by omega) (by omega) (by omega) (by omega)⟩
    have := ei_cancl (i := i) (t := t) h (by rw [hid]; exact hM)
    rw [hid] at this
    exact this
  | adv_no hk hb =>
    refine ⟨h, rfl, ?_⟩
    unfold Ck.stp
    rw [if_pos hk]
    exact (if_pos hb).symm
  | adv_ok hk hb =>
    refine ⟨ei_passes (ei_ckt h (ok_adv h.ck s.n).1) _, (passes_same _ _).1, (passes_same _ _).2.1.trans ?_⟩
    unfold Ck.stp
    rw [if_pos hk]
    rfl
  | of_no x hk => exact ⟨h, rfl, hno (by omega) (by omega) (by omega) (by omega)⟩
  | irq i hk hc ho hl => exact ⟨ei_irq h (h.onn i ho), rfl, hno (by omega) (by omega) (by omega) (by omega)⟩
  | soft i hk hc ho hl => exact ⟨ei_soft h (h.onn i ho), rfl, hno (by omega) (by omega) (by omega) (by omega)⟩
  | kick i hk hc ho hl => exact ⟨ei_kick h i, rfl, hno (by omega) (by omega) (by omega) (by omega)⟩
  | offl i d hk hc ho hl => exact ⟨ei_offl h (h.onn i ho) hl, (offl_same E i d).1, (offl_same E i d).2.trans (hno (by omega) (by omega) (by omega) (by omega))⟩
  | clk x K' hk =>
    have hK : K' = E.K.stp s := by
      unfold Ck.stp
      rcases hk with ⟨hk, rfl⟩ | ⟨hk, rfl⟩ | ⟨hk, rfl⟩ <;> simp [hk]
    subst hK
    exact ⟨ei_stp h (ok_stp h.ck hg s).1, (stp_K _).2.1, (stp_K _).1⟩
  | bring_no x hk => exact ⟨h, rfl, hno (by omega) (by omega) (by omega) (by omega)⟩
  | bring_ok i hk hc hi ho => exact ⟨ei_brings h hi, rfl, hno (by omega) (by omega) (by omega) (by omega)⟩
  | settle _ _ _ hk hs =>
    obtain ⟨h1, h2, h3, -⟩ := settle_ei hs h
    exact ⟨h1, h3, h2.trans (hno (by omega) (by omega) (by omega) (by omega))⟩
  | other hk => exact ⟨h, rfl, hno (by omega) (by omega) (by omega) (by omega)⟩
end
/-- The answer with what fired. -/
def OutP (A : EA) (E : En) (M : GM) (s : St) (W : World) (e : Ending) (W' : World) : Prop :=
  ∃ o x E' M', DoR E M s o x E' M' ∧ (∃ v, e = .returned (.tuple #[v, .int .i64 x]) ∧ FT W.heap.size v o W') ∧ ER A E' W' ∧ GF (A.has E.n) W W'
/-- The answer alone. -/
def AnsP (A : EA) (E : En) (M : GM) (s : St) (W : World) (e : Ending) (W' : World) : Prop :=
  ∃ x E' M', DoR E M s [] x E' M' ∧ e = .returned (.int .i64 x) ∧ ER A E' W' ∧ GF (A.has E.n) W W'
section
variable {A : EA} {E : En} {M : GM} {s : St}
theorem onI_nat {on : Nat → Bool} {c : Int} (h : onI on c = true) : ∃ i : Nat, c = i ∧ on i = true := by
  unfold onI at h
  simp only [Bool.and_eq_true, decide_eq_true_eq] at h
  obtain ⟨⟨h1, -⟩, h3⟩ := h
  exact ⟨c.toNat, by omega, h3⟩
theorem irq_out {i : Nat} {w : World} (h : ER A E w) (hE : EI E M) (hk : s.kind = 4) (hc : s.cpu = (i : Nat)) (ho : E.on i = true) : Calls Tryz.prog 48 #[ptr A.e, .int .i64 (i : Nat)] w (OutP A E M s w) := by
  have hi := hE.onn i ho
  cases hl : (E.c i).d.latched with
  | true =>
    refine (irq_yes i w h hE.ck hi hl (fun q hq => Nat.le_trans (ei_len hE hi hq) hE.wn) (exp_wf hE hi)).mono ?_
    rintro e w' ⟨hv, h1, h2⟩
    exact ⟨_, 0, _, _, .irq i hk hc ho hl, hv, h1, h2⟩
  | false =>
    refine (irq_no i w h hi hl).mono ?_
    rintro e w' ⟨rfl, h1, h2⟩
    exact ⟨[], 8, _, _, .of_no 8 (.inl hk), ⟨_, rfl, ft_nil _ _⟩, h1, h2⟩
theorem soft_out {i : Nat} {w : World} (h : ER A E w) (hE : EI E M) (hk : s.kind = 5) (hc : s.cpu = (i : Nat)) (ho : E.on i = true) : Calls Tryz.prog 49 #[ptr A.e, .int .i64 (i : Nat)] w (OutP A E M s w) := by
  have hi := hE.onn i ho
  cases hl : (E.c i).raised with
  | true =>
    refine (softirq_yes i w h hE.ck hi hl (fun q hq => Nat.le_trans (ei_len hE hi hq) hE.wn) (exp_wf hE hi)).mono ?_
    rintro e w' ⟨hv, h1, h2⟩
    exact ⟨_, 0, _, _, .soft i hk hc ho hl, hv, h1, h2⟩
  | false =>
    refine (softirq_no i w h hi hl).mono ?_
    rintro e w' ⟨rfl, rfl⟩
    exact ⟨[], 8, _, _, .of_no 8 (.inr (.inl hk)), ⟨_, rfl, ft_nil _ _⟩, h, gf_refl _ _⟩
theorem kick_ans {i : Nat} {w : World} (h : ER A E w) (hE : EI E M) (hk : s.kind = 6) (hc : s.cpu = (i : Nat)) (ho : E.on i = true) : Calls Tryz.prog 50 #[ptr A.e, .int .i64 (i : Nat)] w (AnsP A E M s w) := by
  have hi := hE.onn i ho
  cases hl : (E.c i).kicked with
  | true =>
    refine (kick_yes i w h hE.ck hi hl).mono ?_
    rintro e w' ⟨rfl, h1, h2⟩
    exact ⟨0, _, _, .kick i hk hc ho hl, rfl, h1, h2⟩
  | false =>
    refine (kick_no i w h hi hl).mono ?_
    rintro e w' ⟨rfl, rfl⟩
    exact ⟨8, _, _, .of_no 8 (.inr (.inr (.inl hk))), rfl, h, gf_refl _ _⟩
theorem off_ans {i : Nat} {w : World} (h : ER A E w) (hE : EI E M) (hk : s.kind = 10) (hc : s.cpu = (i : Nat)) (ho : E.on i = true) : Calls Tryz.prog 51 #[ptr A.e, .int .i64 (i : Nat)] w (AnsP A E M s w) := by
  have hi := hE.onn i ho
  cases hl : nextOn (mwo E.on i) i with
  | some d =>
    refine (eoff_yes i d w h hE hi hl).mono ?_
    rintro e w' ⟨rfl, h1, h2⟩
    exact ⟨0, _, _, .offl i d hk hc ho hl, rfl, h1, h2⟩
  | none =>
    refine (eoff_no i w h hi hl).mono ?_
    rintro e w' ⟨rfl, rfl⟩
    exact ⟨8, _, _, .of_no 8 (.inr (.inr (.inr hk))), rfl, h, gf_refl _ _⟩
theorem start_ans {w : World} (h : ER A E w) (hE : EI E M) (hk : s.kind = 1) (hw : s.wf) : Calls Tryz.prog 19 #[ptr A.e, stv s] w (AnsP A E M s w) := by
  have hno : ∀ (x : Int), (onI E.on s.cpu = false ∨ badT s.t = true ∨ (M s.t.id).isSome = true ∨ 64 ≤ E.wn) → (Calls Tryz.prog 19 #[ptr A.e, stv s] w fun e W' => e = .returned (.int .i64 x) ∧ Below w.heap.size w W') → Calls Tryz.prog 19 #[ptr A.e, stv s] w (AnsP A E M s w) := fun x hx hC => by
    refine hC.mono ?_
    rintro e w' ⟨rfl, hB⟩
    exact ⟨x, _, _, .start_no x hk hx, rfl, er_below h hB, gf_below hB⟩
  cases ho : onI E.on s.cpu with
  | false => exact hno 2 (.inl ho) (estart_off s w h hw ho)
  | true =>
    obtain ⟨i, hc, hoi⟩ := onI_nat ho
    have hi := hE.onn i hoi
    cases hb : badT s.t with
    | true => exact hno 2 (.inr (.inl hb)) (estart_bad i s w h hc hi hoi hb)
    | false =>
      cases hM : M s.t.id with
      | some x =>
        obtain ⟨j, t⟩ := x
        exact hno 9 (.inr (.inr (.inl (by rw [hM]; rfl)))) (estart_busy i j s w h hc hi hoi hw.t.id hb (by rw [hE.wh, hM]; rfl))
      | none =>
        by_cases hn : 64 ≤ E.wn
        · exact hno 3 (.inr (.inr (.inr hn))) (estart_full i s w h hc hi hoi hw.t.id hb (by rw [hE.wh, hM]; rfl) hn)
        · refine (estart_ok i s w h hE hc hoi hw.t hb hM (by omega)).mono ?_
          rintro e w' ⟨rfl, h1, h2⟩
          exact ⟨0, _, _, .start_ok i hk hc hoi hb hM (by omega), rfl, h1, h2⟩
theorem cancel_ans {w : World} (h : ER A E w) (hE : EI E M) (hk : s.kind = 2) (hw : s.wf) : Calls Tryz.prog 20 #[ptr A.e, .int .i64 s.n] w (AnsP A E M s w) := by
  cases hM : M s.n with
  | none =>
    refine (ecancel_no s.n w h hw.n (by rw [hE.wh, hM]; rfl)).mono ?_
    rintro e w' ⟨rfl, rfl⟩
    exact ⟨7, _, _, .cancel_no hk hM, rfl, h, gf_refl _ _⟩
  | some x =>
    obtain ⟨i, t⟩ := x
    have hid := (hE.dom _ _ _ hM).1
    have C := ecancel_yes i t w h hE (by rw [hid]; exact hM)
    rw [hid] at C
    refine C.mono ?_
    rintro e w' ⟨rfl, h1, h2⟩
    exact ⟨0, _, _, .cancel_ok i t hk hM, rfl, h1, h2⟩
theorem adv_ans {w : World} (h : ER A E w) (hE : EI E M) (hk : s.kind = 3) (hw : s.wf) : Calls Tryz.prog 21 #[ptr A.e, .int .i64 s.n] w (AnsP A E M s w) := by
  cases hb : E.K.bad s.n with
  | true =>
    refine (eadv_no s.n w h hE.ck hw.n hb).mono ?_
    rintro e w' ⟨rfl, h1, h2⟩
    exact ⟨2, _, _, .adv_no hk hb, rfl, h1, h2⟩
  | false =>
    refine (eadv_yes s.n w h hE.ck hw.n hb).mono ?_
    rintro e w' ⟨rfl, h1, h2⟩
    exact ⟨0, _, _, .adv_ok hk hb, rfl, h1, h2⟩
theorem bring_ans {w : World} (h : ER A E w) (hE : EI E M) (hk : s.kind = 11) : Calls Tryz.prog 28 #[ptr A.e, .int .i64 s.cpu] w (AnsP A E M s w) := by
  by_cases hi : s.cpu < 0 ∨ (E.n : Int) ≤ s.cpu
  · refine (ebring_out s.cpu w h hi).mono ?_
    rintro e w' ⟨rfl, rfl⟩
    exact ⟨2, _, _, .bring_no 2 hk, rfl, h, gf_refl _ _⟩
  · obtain ⟨i, hc⟩ : ∃ i : Nat, s.cpu = i := ⟨s.cpu.toNat, by omega⟩
    have hin : i < E.n := by omega
    rw [hc]
    cases ho : E.on i with
    | true =>
      refine (ebring_on i w h hin ho).mono ?_
      rintro e w' ⟨rfl, rfl⟩
      exact ⟨8, _, _, .bring_no 8 hk, rfl, h, gf_refl _ _⟩
    | false =>
      refine (ebring_ok i w h hin ho).mono ?_
      rintro e w' ⟨rfl, h1, h2⟩
      exact ⟨0, _, _, .bring_ok i hk hc hin ho, rfl, h1, h2⟩
end
end Go.Proofs.YtlcaepcojglbiaaGreatDoor.Tp
namespace Go.Proofs.YtlcaepcojglbiaaGreatDoor.Tp
open Go.RowKit Go.Maps
set_option linter.unusedVariables false
set_option linter.unusedSimpArgs false
section
variable {A : EA} {E : En} {M : GM}
/-- An answer, seen from an earlier world. -/
theorem out_back {s : St} {W w : World} {e : Ending} {w' : World} (g : GF (A.has E.n) W w) (h : OutP A E M s w e w') : OutP A E M s W e w' := by
  obtain ⟨o, x, E', M', h1, ⟨v, h2, h3⟩, h4, h5⟩ := h
  exact ⟨o, x, E', M', h1, ⟨v, h2, ft_base h3 g.size⟩, h4, gf_trans g h5⟩
theorem ans_out {s : St} {W w : World} {x : Int} {w' : World} (g : GF (A.has E.n) W w) (h : AnsP A E M s w (.returned (.int .i64 x)) w') : OutP A E M s W (.returned (.tuple #[.slice none 0 0, .int .i64 x])) w' := by
  obtain ⟨x', E', M', h1, h2, h4, h5⟩ := h
  cases h2
  exact ⟨[], x, E', M', h1, ⟨_, rfl, ft_nil _ _⟩, h4, gf_trans g h5⟩
theorem out_split {s : St} {W : World} {e : Ending} {w' : World} (h : OutP A E M s W e w') : ∃ p m c x, e = .returned (.tuple #[.slice p m c, .int .i64 x]) ∧ OutP A E M s W (.returned (.tuple #[.slice p m c, .int .i64 x])) w' := by
  obtain ⟨o, x, E', M', h1, ⟨v, rfl, h3⟩, h4⟩ := h
  obtain ⟨p, m, c, rfl⟩ := own_slice h3
  exact ⟨p, m, c, x, rfl, o, x, E', M', h1, ⟨_, rfl, h3⟩, h4⟩
theorem ans_split {s : St} {W : World} {e : Ending} {w' : World} (h : AnsP A E M s W e w') : ∃ x, e = .returned (.int .i64 x) ∧ AnsP A E M s W (.returned (.int .i64 x)) w' := by
  obtain ⟨x, E', M', h1, rfl, h4⟩ := h
  exact ⟨x, rfl, x, E', M', h1, rfl, h4⟩
set_option maxRecDepth 100000 in
set_option maxHeartbeats 4000000 in
theorem eof_no (s : St) (W : World) (h : ER A E W) (hk : s.kind = 4 ∨ s.kind = 5 ∨ s.kind = 6 ∨ s.kind = 10) (ho : onI E.on s.cpu = false) : Calls Tryz.prog 22 #[ptr A.e, stv s] W (OutP A E M s W) := by
  have HO : Hid (∀ w, Below W.heap.size W w → OutP A E M s W (.returned (.tuple #[.slice none 0 0, .int .i64 2])) w) := Lib.hid fun w hB => ⟨[], 2, E, M, .of_no 2 hk, ⟨_, rfl, ft_nil _ _⟩, er_below h hB, gf_below hB⟩
  obtain ⟨P, hP⟩ : ∃ P, OutP A E M s W = P := ⟨_, rfl⟩
  rw [hP] at HO ⊢
  obtain ⟨k, cpu, n, id, tc, ts, th, tl⟩ := s
  dsimp only at ho
  have C := Lib.hid (fun w (hB : Below W.heap.size W w) => at_no cpu w (er_below h hB) ho)
  have HB := Lib.hid ((Below.refl W.heap.size W).alloc (Nat.le_refl _) (.cells #[.int .i64 k, .int .i64 cpu, .int .i64 n, .int .i64 id, .int .i64 tc, .int .i64 ts, .int .i64 th, .bool tl] 33))
  clear h ho hk hP
  go_enter Tryz.func22, Tryz.ntmps22
  go_wp2_with (first
    | (go_at_call 41; refine (C.out _ HB.out).mono ?_; clear C; rintro e w1 ⟨rfl, rfl⟩)
    | fail)
  exact HO.out _ HB.out
set_option maxRecDepth 100000 in
set_option maxHeartbeats 4000000 in
theorem eof_4 (i : Nat) (s : St) (W : World) (h : ER A E W) (hE : EI E M) (hk : s.kind = 4) (hc : s.cpu = (i : Nat)) (ho : E.on i = true) : Calls Tryz.prog 22 #[ptr A.e, stv s] W (OutP A E M s W) := by
  have CI : Hid (∀ w, Below W.heap.size W w → Calls Tryz.prog 48 #[ptr A.e, .int .i64 (i : Nat)] w (OutP A E M s W)) := Lib.hid fun w hB => (irq_out (er_below h hB) hE hk hc ho).mono fun e w' hp => out_back (gf_below hB) hp
  obtain ⟨P, hP⟩ : ∃ P, OutP A E M s W = P := ⟨_, rfl⟩
  have HP := Lib.hid hP
  rw [hP]
  obtain ⟨k, cpu, n, id, tc, ts, th, tl⟩ := s
  dsimp only at hc hk
  subst hc
  subst hk
  have C := Lib.hid (fun w (hB : Below W.heap.size W w) => at_yes i w (er_below h hB) (hE.onn i ho) ho)
  have HB := Lib.hid ((Below.refl W.heap.size W).alloc (Nat.le_refl _) (.cells #[.int .i64 4, .int .i64 i, .int .i64 n, .int .i64 id, .int .i64 tc, .int .i64 ts, .int .i64 th, .bool tl] 33))
  clear h hE ho hP
  go_enter Tryz.func22, Tryz.ntmps22
  go_wp2_with (first
    | (go_at_call 41; refine (C.out _ HB.out).mono ?_; clear C; rintro e w1 ⟨rfl, rfl⟩)
    | (go_at_call 48; refine (CI.out _ HB.out).mono ?_; clear CI; intro e w1 hp; obtain ⟨p, mm, c, x, rfl, hp2⟩ := out_split hp; have HO := Lib.hid hp2; clear hp hp2)
    | fail)
  show P (.returned (.tuple #[.slice p mm c, .int .i64 x])) _
  rw [← HP.out]
  exact HO.out
set_option maxRecDepth 100000 in
set_option maxHeartbeats 4000000 in
theorem eof_5 (i : Nat) (s : St) (W : World) (h : ER A E W) (hE : EI E M) (hk : s.kind = 5) (hc : s.cpu = (i : Nat)) (ho : E.on i = true) : Calls Tryz.prog 22 #[ptr A.e, stv s] W (OutP A E M s W) := by
  have CI : Hid (∀ w, Below W.heap.size W w → Calls Tryz.prog 49 #[ptr A.e, .int .i64 (i : Nat)] w (OutP A E M s W)) := Lib.hid fun w hB => (soft_out (er_below h hB) hE hk hc ho).mono fun e w' hp => out_back (gf_below hB) hp
  obtain ⟨P, hP⟩ : ∃ P, OutP A E M s W = P := ⟨_, rfl⟩
  have HP := Lib.hid hP
  rw [hP]
  obtain ⟨k, cpu, n, id, tc, ts, th, tl⟩ := s
  dsimp only at hc hk
  subst hc
  subst hk
  have C := Lib.hid (fun w (hB : Below W.heap.size W w) => at_yes i w (er_below h hB) (hE.onn i ho) ho)
  have HB := Lib.hid ((Below.refl W.heap.size W).alloc (Nat.le_refl _) (.cells #[.int .i64 5, .int .i64 i, .int .i64 n, .int .i64 id, .int .i64 tc, .int .i64 ts, .int .i64 th, .bool tl] 33))
  clear h hE ho hP
  go_enter Tryz.func22, Tryz.ntmps22
  go_wp2_with (first
    | (go_at_call 41; refine (C.out _ HB.out).mono ?_; clear C; rintro e w1 ⟨rfl, rfl⟩)
    | (go_at_call 49; refine (CI.out _ HB.out).mono ?_; clear CI; intro e w1 hp; obtain ⟨p, mm, c, x, rfl, hp2⟩ := out_split hp; have HO := Lib.hid hp2; clear hp hp2)
    | fail)
  show P (.returned (.tuple #[.slice p mm c, .int .i64 x])) _
  rw [← HP.out]
  exact HO.out
set_option maxRecDepth 100000 in
set_option maxHeartbeats 4000000 in
theorem eof_6 (i : Nat) (s : St) (W : World) (h : ER A E W) (hE : EI E M) (hk : s.kind = 6) (hc : s.cpu = (i : Nat)) (ho : E.on i = true) : Calls Tryz.prog 22 #[ptr A.e, stv s] W (OutP A E M s W) := by
  have CI : Hid (∀ w, Below W.heap.size W w → Calls Tryz.prog 50 #[ptr A.e, .int .i64 (i : Nat)] w fun e w' => ∃ x, e = .returned (.int .i64 x) ∧ OutP A E M s W (.returned (.tuple #[.slice none 0 0, .int .i64 x])) w') := Lib.hid fun w hB => (kick_ans (er_below h hB) hE hk hc ho).mono fun e w' hp => by
    obtain ⟨x, rfl, hp⟩ := ans_split hp
    exact ⟨x, rfl, ans_out (gf_below hB) hp⟩
  obtain ⟨P, hP⟩ : ∃ P, OutP A E M s W = P := ⟨_, rfl⟩
  have HP := Lib.hid hP
  rw [hP] at CI ⊢
  obtain ⟨k, cpu, n, id, tc, ts, th, tl⟩ := s
  dsimp only at hc hk
  subst hc
  subst hk
  have C := Lib.hid (fun w (hB : Below W.heap.size W w) => at_yes i w (er_below h hB) (hE.onn i ho) ho)
  have HB := Lib.hid ((Below.refl W.heap.size W).alloc (Nat.le_refl _) (.cells #[.int .i64 6, .int .i64 i, .int .i64 n, .int .i64 id, .int .i64 tc, .int .i64 ts, .int .i64 th, .bool tl] 33))
  clear h hE ho hP
  go_enter Tryz.func22, Tryz.ntmps22
  go_wp2_with (first
    | (go_at_call 41; refine (C.out _ HB.out).mono ?_; clear C; rintro e w1 ⟨rfl, rfl⟩)
    | (go_at_call 50; refine (CI.out _ HB.out).mono ?_; clear CI; rintro e w1 ⟨x, rfl, hp⟩; have HO := Lib.hid hp; clear hp)
    | fail)
  exact HO.out
set_option maxRecDepth 100000 in
set_option maxHeartbeats 4000000 in
theorem eof_10 (i : Nat) (s : St) (W : World) (h : ER A E W) (hE : EI E M) (hk : s.kind = 10) (hc : s.cpu = (i : Nat)) (ho : E.on i = true) : Calls Tryz.prog 22 #[ptr A.e, stv s] W (OutP A E M s W) := by
  have CI : Hid (∀ w, Below W.heap.size W w → Calls Tryz.prog 51 #[ptr A.e, .int .i64 (i : Nat)] w fun e w' => ∃ x, e = .returned (.int .i64 x) ∧ OutP A E M s W (.returned (.tuple #[.slice none 0 0, .int .i64 x])) w') := Lib.hid fun w hB => (off_ans (er_below h hB) hE hk hc ho).mono fun e w' hp => by
    obtain ⟨x, rfl, hp⟩ := ans_split hp
    exact ⟨x, rfl, ans_out (gf_below hB) hp⟩
  obtain ⟨P, hP⟩ : ∃ P, OutP A E M s W = P := ⟨_, rfl⟩
  have HP := Lib.hid hP
  rw [hP] at CI ⊢
  obtain ⟨k, cpu, n, id, tc, ts, th, tl⟩ := s
  dsimp only at hc hk
  subst hc
  subst hk
  have C := Lib.hid (fun w (hB : Below W.heap.size W w) => at_yes i w (er_below h hB) (hE.onn i ho) ho)
  have HB := Lib.hid ((Below.refl W.heap.size W).alloc (Nat.le_refl _) (.cells #[.int .i64 10, .int .i64 i, .int .i64 n, .int .i64 id, .int .i64 tc, .int .i64 ts, .int .i64 th, .bool tl] 33))
  clear h hE ho hP
  go_enter Tryz.func22, Tryz.ntmps22
  go_wp2_with (first
    | (go_at_call 41; refine (C.out _ HB.out).mono ?_; clear C; rintro e w1 ⟨rfl, rfl⟩)
    | (go_at_call 51; refine (CI.out _ HB.out).mono ?_; clear CI; rintro e w1 ⟨x, rfl, hp⟩; have HO := Lib.hid hp; clear hp)
    | fail)
  exact HO.out
theorem eof_at (s : St) (W : World) (h : ER A E W) (hE : EI E M) (hk : s.kind = 4 ∨ s.kind = 5 ∨ s.kind = 6 ∨ s.kind = 10) : Calls Tryz.prog 22 #[ptr A.e, stv s] W (OutP A E M s W) := by
  cases ho : onI E.on s.cpu with
  | false => exact eof_no s W h hk ho
  | true =>
    obtain ⟨i, hc, hoi⟩ := onI_nat ho
    rcases hk with hk | hk | hk | hk
    · exact eof_4 i s W h hE hk hc hoi
    · exact eof_5 i s W h hE hk hc hoi
    · exact eof_6 i s W h hE hk hc hoi
    · exact eof_10 i s W h hE hk hc hoi
end
end Go.Proofs.YtlcaepcojglbiaaGreatDoor.Tp
namespace Go.Proofs.YtlcaepcojglbiaaGreatDoor.Tp
open Go.RowKit Go.Maps
set_option linter.unusedVariables false
set_option linter.unusedSimpArgs false
theorem enters24 : Enters 24 := fun args w => by kernel_rfl
theorem enters26 : Enters 26 := fun args w => by kernel_rfl
theorem enters27 : Enters 27 := fun args w => by kernel_rfl
section
variable {A : EA} {E : En} {M : GM} {s : St}
set_option maxRecDepth 100000 in
set_option maxHeartbeats 4000000 in
theorem do1_at {b2 b3 : Nat} (n : Int) (w : World) (h : ER A E w) (hok : E.K.ok) (hb2 : w.cell? ⟨b2, 0, none⟩ = some (ptr A.e)) (hb3 : w.cell? ⟨b3, 2, none⟩ = some (.int .i64 n)) (l2 : b2 < w.heap.size) (l3 : b3 < w.heap.size) (n2 : ¬ b2 = A.ck) (n3 : ¬ b3 = A.ck) : Calls Tryz.prog 24 #[ptr b2, ptr b3] w fun e w' => e = .returned (.int .i64 (if Ck.bads n then 2 else 0)) ∧ ER A (E.ckt (E.K.set n)) w' ∧ GF (A.has E.n) w w' := by
  have H0 : Hid (ER A E w.drew) := Lib.hid (er_drew h)
  have C := Lib.hid (cset_at n w.drew H0.out.ck hok)
  have HF := Lib.hid (fun w' (hc : CR A.ck (E.K.set n) w') (g : GF (fun i => i = A.ck) w.drew w') => (show ER A (E.ckt (E.K.set n)) w' from er_ck H0.out g hc))
  obtain ⟨m, hm, -⟩ := h.eb
  obtain ⟨⟨e0, -⟩, -⟩ := cells4 hm
  have le := er_lt h A.e has_e
  have ne : ¬ A.e = A.ck := fun e => by
    have h1 := h.at'.e
    rw [e, h.at'.ck] at h1
    omega
  obtain ⟨r, hr⟩ : ∃ r : Int, (if Ck.bads n then 2 else 0) = r := ⟨_, rfl⟩
  rw [hr] at C ⊢
  clear h hok hm hr
  go_enter Tryz.func24, Tryz.ntmps24
  go_wp2_with fail
  go_region_held3 (fun w => w.cell? ⟨b2, 0, none⟩ = some (ptr A.e) ∧ w.cell? ⟨A.e, 0, none⟩ = some (ptr A.ck) ∧ w.cell? ⟨b3, 2, none⟩ = some (.int .i64 n)) (first | exact ⟨hb2, e0, hb3⟩ | exact ⟨f1, f2, f3⟩ | assumption | (go_keep; done)) (first
    | (go_simp; go_at_call 25; refine (C.out).mono ?_; clear C; rintro e w1 ⟨rfl, hc, hg⟩; have HH := Lib.hid (And.intro (HF.out _ hc hg) (gf_trans (gf_drew (gf_refl _ w)) (gf_mono hg fun x e => (show A.has E.n x by rw [e]; exact has_ck)))); have f1 := (World.cell?_of_block (a := ⟨b2, 0, none⟩) (hg.block b2 l2 n2)).trans hb2; have f2 := (World.cell?_of_block (a := ⟨A.e, 0, none⟩) (hg.block A.e le ne)).trans e0; have f3 := (World.cell?_of_block (a := ⟨b3, 2, none⟩) (hg.block b3 l3 n3)).trans hb3; clear hc hg)
    | fail)
  go_wp2_with fail
  go_ret
  exact ⟨rfl, HH.out⟩
theorem clk7_ans {b2 b3 : Nat} {w : World} (h : ER A E w) (hE : EI E M) (hk : s.kind = 7) (hb2 : w.cell? ⟨b2, 0, none⟩ = some (ptr A.e)) (hb3 : w.cell? ⟨b3, 2, none⟩ = some (.int .i64 s.n)) (l2 : b2 < w.heap.size) (l3 : b3 < w.heap.size) (n2 : ¬ b2 = A.ck) (n3 : ¬ b3 = A.ck) : Calls Tryz.prog 23 #[ptr A.e, .func (.func 24) #[] #[ptr b2, ptr b3]] w (AnsP A E M s w) := by
  refine (estep_at (bnd := #[]) (caps := #[ptr b2, ptr b3]) (if Ck.bads s.n then 2 else 0) (E.K.set s.n) w h hE.onn enters24 (do1_at s.n w h hE.ck hb2 hb3 l2 l3 n2 n3)).mono ?_
  rintro e w' ⟨rfl, h1, h2⟩
  exact ⟨_, _, _, .clk _ _ (.inl ⟨hk, rfl⟩), rfl, h1, h2⟩
theorem clk8_ans {w : World} (h : ER A E w) (hE : EI E M) (hk : s.kind = 8) : Calls Tryz.prog 23 #[ptr A.e, .func (.func 26) #[ptr A.ck] #[]] w (AnsP A E M s w) := by
  refine (estep_at (bnd := #[ptr A.ck]) (caps := #[]) (if E.K.asleep then 8 else 0) E.K.sus w h hE.onn enters26 ?_).mono ?_
  · refine (csus_at w h.ck).mono ?_
    rintro e w' ⟨rfl, hc, hg⟩
    exact ⟨rfl, er_ck h hg hc, gf_mono hg fun x e => (show A.has E.n x by rw [e]; exact has_ck)⟩
  · rintro e w' ⟨rfl, h1, h2⟩
    exact ⟨_, _, _, .clk _ _ (.inr (.inl ⟨hk, rfl⟩)), rfl, h1, h2⟩
theorem clk9_ans {w : World} (h : ER A E w) (hE : EI E M) (hk : s.kind = 9) : Calls Tryz.prog 23 #[ptr A.e, .func (.func 27) #[ptr A.ck] #[]] w (AnsP A E M s w) := by
  refine (estep_at (bnd := #[ptr A.ck]) (caps := #[]) (if E.K.asleep then 0 else 8) E.K.res w h hE.onn enters27 ?_).mono ?_
  · refine (cres_at w h.ck hE.ck).mono ?_
    rintro e w' ⟨rfl, hc, hg⟩
    exact ⟨rfl, er_ck h hg hc, gf_mono hg fun x e => (show A.has E.n x by rw [e]; exact has_ck)⟩
  · rintro e w' ⟨rfl, h1, h2⟩
    exact ⟨_, _, _, .clk _ _ (.inr (.inr ⟨hk, rfl⟩)), rfl, h1, h2⟩
end
end Go.Proofs.YtlcaepcojglbiaaGreatDoor.Tp
namespace Go.Proofs.YtlcaepcojglbiaaGreatDoor.Tp
open Go.RowKit Go.Maps
set_option linter.unusedVariables false
set_option linter.unusedSimpArgs false
section
variable {A : EA} {E : En} {M : GM}
theorem set_out {s : St} {w : World} (h : ER A E w) (hE : EI E M) (hk : s.kind = 12) : Calls Tryz.prog 29 #[ptr A.e] w fun e w' => ∃ p m c, e = .returned (.slice p m c) ∧ OutP A E M s w (.returned (.tuple #[.slice p m c, .int .i64 0])) w' := by
  refine (esettle_at w h hE).mono ?_
  rintro e w' ⟨o, E', M', h1, ⟨v, rfl, h3⟩, h4, h5⟩
  obtain ⟨p, m, c, rfl⟩ := own_slice h3
  exact ⟨p, m, c, rfl, o, 0, E', M', .settle o E' M' hk h1, ⟨_, rfl, h3⟩, h4, h5⟩
set_option maxRecDepth 100000 in
set_option maxHeartbeats 4000000 in
theorem edo_1 (s : St) (W : World) (h : ER A E W) (hE : EI E M) (hw : s.wf) (hk : s.kind = 1) : Calls Tryz.prog 7 #[ptr A.e, stv s] W (OutP A E M s W) := by
  have CI : Hid (∀ w, Below W.heap.size W w → Calls Tryz.prog 19 #[ptr A.e, stv s] w fun e w' => ∃ x, e = .returned (.int .i64 x) ∧ OutP A E M s W (.returned (.tuple #[.slice none 0 0, .int .i64 x])) w') := Lib.hid fun w hB => (start_ans (er_below h hB) hE hk hw).mono fun e w' hp => by
    obtain ⟨x, rfl, hp⟩ := ans_split hp
    exact ⟨x, rfl, ans_out (gf_below hB) hp⟩
  obtain ⟨P, hP⟩ : ∃ P, OutP A E M s W = P := ⟨_, rfl⟩
  have HP := Lib.hid hP
  rw [hP] at CI ⊢
  obtain ⟨k, cpu, n, id, tc, ts, th, tl⟩ := s
  dsimp only at hk
  subst hk
  have HB := Lib.hid (((Below.refl W.heap.size W).alloc (Nat.le_refl _) (.cells #[ptr A.e] 24)).alloc (by simp) (.cells #[.int .i64 1, .int .i64 cpu, .int .i64 n, .int .i64 id, .int .i64 tc, .int .i64 ts, .int .i64 th, .bool tl] 33))
  clear h hE hw hP
  go_enter Tryz.func7, Tryz.ntmps7
  go_wp2_with (first
    | (go_at_call 19; refine (CI.out _ HB.out).mono ?_; clear CI; rintro e w1 ⟨x, rfl, hp⟩; have HO := Lib.hid hp; clear hp)
    | fail)
  exact HO.out
set_option maxRecDepth 100000 in
set_option maxHeartbeats 4000000 in
theorem edo_2 (s : St) (W : World) (h : ER A E W) (hE : EI E M) (hw : s.wf) (hk : s.kind = 2) : Calls Tryz.prog 7 #[ptr A.e, stv s] W (OutP A E M s W) := by
  have CI : Hid (∀ w, Below W.heap.size W w → Calls Tryz.prog 20 #[ptr A.e, .int .i64 s.n] w fun e w' => ∃ x, e = .returned (.int .i64 x) ∧ OutP A E M s W (.returned (.tuple #[.slice none 0 0, .int .i64 x])) w') := Lib.hid fun w hB => (cancel_ans (er_below h hB) hE hk hw).mono fun e w' hp => by
    obtain ⟨x, rfl, hp⟩ := ans_split hp
    exact ⟨x, rfl, ans_out (gf_below hB) hp⟩
  obtain ⟨P, hP⟩ : ∃ P, OutP A E M s W = P := ⟨_, rfl⟩
  have HP := Lib.hid hP
  rw [hP] at CI ⊢
  obtain ⟨k, cpu, n, id, tc, ts, th, tl⟩ := s
  dsimp only at hk
  subst hk
  have HB := Lib.hid (((Below.refl W.heap.size W).alloc (Nat.le_refl _) (.cells #[ptr A.e] 24)).alloc (by simp) (.cells #[.int .i64 2, .int .i64 cpu, .int .i64 n, .int .i64 id, .int .i64 tc, .int .i64 ts, .int .i64 th, .bool tl] 33))
  clear h hE hw hP
  go_enter Tryz.func7, Tryz.ntmps7
  go_wp2_with (first
    | (go_at_call 20; refine (CI.out _ HB.out).mono ?_; clear CI; rintro e w1 ⟨x, rfl, hp⟩; have HO := Lib.hid hp; clear hp)
    | fail)
  exact HO.out
set_option maxRecDepth 100000 in
set_option maxHeartbeats 4000000 in
theorem edo_3 (s : St) (W : World) (h : ER A E W) (hE : EI E M) (hw : s.wf) (hk : s.kind = 3) : Calls Tryz.prog 7 #[ptr A.e, stv s] W (OutP A E M s W) := by
  have CI : Hid (∀ w, Below W.heap.size W w → Calls Tryz.prog 21 #[ptr A.e, .int .i64 s.n] w fun e w' => ∃ x, e = .returned (.int .i64 x) ∧ OutP A E M s W (.returned (.tuple #[.slice none 0 0, .int .i64 x])) w') := Lib.hid fun w hB => (adv_ans (er_below h hB) hE hk hw).mono fun e w' hp => by
    obtain ⟨x, rfl, hp⟩ := ans_split hp
    exact ⟨x, rfl, ans_out (gf_below hB) hp⟩
  obtain ⟨P, hP⟩ : ∃ P, OutP A E M s W = P := ⟨_, rfl⟩
  have HP := Lib.hid hP
  rw [hP] at CI ⊢
  obtain ⟨k, cpu, n, id, tc, ts, th, tl⟩ := s
  dsimp only at hk
  subst hk
  have HB := Lib.hid (((Below.refl W.heap.size W).alloc (Nat.le_refl _) (.cells #[ptr A.e] 24)).alloc (by simp) (.cells #[.int .i64 3, .int .i64 cpu, .int .i64 n, .int .i64 id, .int .i64 tc, .int .i64 ts, .int .i64 th, .bool tl] 33))
  clear h hE hw hP
  go_enter Tryz.func7, Tryz.ntmps7
  go_wp2_with (first
    | (go_at_call 21; refine (CI.out _ HB.out).mono ?_; clear CI; rintro e w1 ⟨x, rfl, hp⟩; have HO := Lib.hid hp; clear hp)
    | fail)
  exact HO.out
set_option maxRecDepth 100000 in
set_option maxHeartbeats 4000000 in
theorem edo_11 (s : St) (W : World) (h : ER A E W) (hE : EI E M) (hw : s.wf) (hk : s.kind = 11) : Calls Tryz.prog 7 #[ptr A.e, stv s] W (OutP A E M s W) := by
  have CI : Hid (∀ w, Below W.heap.size W w → Calls Tryz.prog 28 #[ptr A.e, .int .i64 s.cpu] w fun e w' => ∃ x, e = .returned (.int .i64 x) ∧ OutP A E M s W (.returned (.tuple #[.slice none 0 0, .int .i64 x])) w') := Lib.hid fun w hB => (bring_ans (er_below h hB) hE hk).mono fun e w' hp => by
    obtain ⟨x, rfl, hp⟩ := ans_split hp
    exact ⟨x, rfl, ans_out (gf_below hB) hp⟩
  obtain ⟨P, hP⟩ : ∃ P, OutP A E M s W = P := ⟨_, rfl⟩
  have HP := Lib.hid hP
  rw [hP] at CI ⊢
  obtain ⟨k, cpu, n, id, tc, ts, th, tl⟩ := s
  dsimp only at hk
  subst hk
  have HB := Lib.hid (((Below.refl W.heap.size W).alloc (Nat.le_refl _) (.cells #[ptr A.e] 24)).alloc (by simp) (.cells #[.int .i64 11, .int .i64 cpu, .int .i64 n, .int .i64 id, .int .i64 tc, .int .i64 ts, .int .i64 th, .bool tl] 33))
  clear h hE hw hP
  go_enter Tryz.func7, Tryz.ntmps7
  go_wp2_with (first
    | (go_at_call 28; refine (CI.out _ HB.out).mono ?_; clear CI; rintro e w1 ⟨x, rfl, hp⟩; have HO := Lib.hid hp; clear hp)
    | fail)
  exact HO.out
set_option maxRecDepth 100000 in
set_option maxHeartbeats 4000000 in
theorem edo_4 (s : St) (W : World) (h : ER A E W) (hE : EI E M) (hw : s.wf) (hk : s.kind = 4) : Calls Tryz.prog 7 #[ptr A.e, stv s] W (OutP A E M s W) := by
  have CI : Hid (∀ w, Below W.heap.size W w → Calls Tryz.prog 22 #[ptr A.e, stv s] w fun e w' => ∃ p m c x, e = .returned (.tuple #[.slice p m c, .int .i64 x]) ∧ OutP A E M s W (.returned (.tuple #[.slice p m c, .int .i64 x])) w') := Lib.hid fun w hB => (eof_at s w (er_below h hB) hE (.inl hk)).mono fun e w' hp => out_split (out_back (gf_below hB) hp)
  obtain ⟨P, hP⟩ : ∃ P, OutP A E M s W = P := ⟨_, rfl⟩
  have HP := Lib.hid hP
  rw [hP] at CI ⊢
  obtain ⟨k, cpu, n, id, tc, ts, th, tl⟩ := s
  dsimp only at hk
  subst hk
  have HB := Lib.hid (((Below.refl W.heap.size W).alloc (Nat.le_refl _) (.cells #[ptr A.e] 24)).alloc (by simp) (.cells #[.int .i64 4, .int .i64 cpu, .int .i64 n, .int .i64 id, .int .i64 tc, .int .i64 ts, .int .i64 th, .bool tl] 33))
  clear h hE hw hP
  go_enter Tryz.func7, Tryz.ntmps7
  go_wp2_with (first
    | (go_at_call 22; refine (CI.out _ HB.out).mono ?_; clear CI; rintro e w1 ⟨p, mm, c, x, rfl, hp⟩; have HO := Lib.hid hp; clear hp)
    | fail)
  exact HO.out
set_option maxRecDepth 100000 in
set_option maxHeartbeats 4000000 in
theorem edo_5 (s : St) (W : World) (h : ER A E W) (hE : EI E M) (hw : s.wf) (hk : s.kind = 5) : Calls Tryz.prog 7 #[ptr A.e, stv s] W (OutP A E M s W) := by
  have CI : Hid (∀ w, Below W.heap.size W w → Calls Tryz.prog 22 #[ptr A.e, stv s] w fun e w' => ∃ p m c x, e = .returned (.tuple #[.slice p m c, .int .i64 x]) ∧ OutP A E M s W (.returned (.tuple #[.slice p m c, .int .i64 x])) w') := Lib.hid fun w hB => (eof_at s w (er_below h hB) hE (.inr (.inl hk))).mono fun e w' hp => out_split (out_back (gf_below hB) hp)
  obtain ⟨P, hP⟩ : ∃ P, OutP A E M s W = P := ⟨_, rfl⟩
  have HP := Lib.hid hP
  rw [hP] at CI ⊢
  obtain ⟨k, cpu, n, id, tc, ts, th, tl⟩ := s
  dsimp only at hk
  subst hk
  have HB := Lib.hid (((Below.refl W.heap.size W).alloc (Nat.le_refl _) (.cells #[ptr A.e] 24)).alloc (by simp) (.cells #[.int .i64 5, .int .i64 cpu, .int .i64 n, .int .i64 id, .int .i64 tc, .int .i64 ts, .int .i64 th, .bool tl] 33))
  clear h hE hw hP
  go_enter Tryz.func7, Tryz.ntmps7
  go_wp2_with (first
    | (go_at_call 22; refine (CI.out _ HB.out).mono ?_; clear CI; rintro e w1 ⟨p, mm, c, x, rfl, hp⟩; have HO := Lib.hid hp; clear hp)
    | fail)
  exact HO.out
set_option maxRecDepth 100000 in
set_option maxHeartbeats 4000000 in
theorem edo_6 (s : St) (W : World) (h : ER A E W) (hE : EI E M) (hw : s.wf) (hk : s.kind = 6) : Calls Tryz.prog 7 #[ptr A.e, stv s] W (OutP A E M s W) := by
  have CI : Hid (∀ w, Below W.heap.size W w → Calls Tryz.prog 22 #[ptr A.e, stv s] w fun e w' => ∃ p m c x, e = .returned (.tuple #[.slice p m c, .int .i64 x]) ∧ OutP A E M s W (.returned (.tuple #[.slice p m c, .int .i64 x])) w') := Lib.hid fun w hB => (eof_at s w (er_below h hB) hE (.inr (.inr (.inl hk)))).mono fun e w' hp => out_split (out_back (gf_below hB) hp)
  obtain ⟨P, hP⟩ : ∃ P, OutP A E M s W = P := ⟨_, rfl⟩
  have HP := Lib.hid hP
  rw [hP] at CI ⊢
  obtain ⟨k, cpu, n, id, tc, ts, th, tl⟩ := s
  dsimp only at hk
  subst hk
  have HB := Lib.hid (((Below.refl W.heap.size W).alloc (Nat.le_refl _) (.cells #[ptr A.e] 24)).alloc (by simp) (.cells #[.int .i64 6, .int .i64 cpu, .int .i64 n, .int .i64 id, .int .i64 tc, .int .i64 ts, .int .i64 th, .bool tl] 33))
  clear h hE hw hP
  go_enter Tryz.func7, Tryz.ntmps7
  go_wp2_with (first
    | (go_at_call 22; refine (CI.out _ HB.out).mono ?_; clear CI; rintro e w1 ⟨p, mm, c, x, rfl, hp⟩; have HO := Lib.hid hp; clear hp)
    | fail)
  exact HO.out
set_option maxRecDepth 100000 in
set_option maxHeartbeats 4000000 in
theorem edo_10 (s : St) (W : World) (h : ER A E W) (hE : EI E M) (hw : s.wf) (hk : s.kind = 10) : Calls Tryz.prog 7 #[ptr A.e, stv s] W (OutP A E M s W) := by
  have CI : Hid (∀ w, Below W.heap.size W w → Calls Tryz.prog 22 #[ptr A.e, stv s] w fun e w' => ∃ p m c x, e = .returned (.tuple #[.slice p m c, .int .i64 x]) ∧ OutP A E M s W (.returned (.tuple #[.slice p m c, .int .i64 x])) w') := Lib.hid fun w hB => (eof_at s w (er_below h hB) hE (.inr (.inr (.inr hk)))).mono fun e w' hp => out_split (out_back (gf_below hB) hp)
  obtain ⟨P, hP⟩ : ∃ P, OutP A E M s W = P := ⟨_, rfl⟩
  have HP := Lib.hid hP
  rw [hP] at CI ⊢
  obtain ⟨k, cpu, n, id, tc, ts, th, tl⟩ := s
  dsimp only at hk
  subst hk
  have HB := Lib.hid (((Below.refl W.heap.size W).alloc (Nat.le_refl _) (.cells #[ptr A.e] 24)).alloc (by simp) (.cells #[.int .i64 10, .int .i64 cpu, .int .i64 n, .int .i64 id, .int .i64 tc, .int .i64 ts, .int .i64 th, .bool tl] 33))
  clear h hE hw hP
  go_enter Tryz.func7, Tryz.ntmps7
  go_wp2_with (first
    | (go_at_call 22; refine (CI.out _ HB.out).mono ?_; clear CI; rintro e w1 ⟨p, mm, c, x, rfl, hp⟩; have HO := Lib.hid hp; clear hp)
    | fail)
  exact HO.out
set_option maxRecDepth 100000 in
set_option maxHeartbeats 4000000 in
theorem edo_12 (s : St) (W : World) (h : ER A E W) (hE : EI E M) (hw : s.wf) (hk : s.kind = 12) : Calls Tryz.prog 7 #[ptr A.e, stv s] W (OutP A E M s W) := by
  have CI : Hid (∀ w, Below W.heap.size W w → Calls Tryz.prog 29 #[ptr A.e] w fun e w' => ∃ p m c, e = .returned (.slice p m c) ∧ OutP A E M s W (.returned (.tuple #[.slice p m c, .int .i64 0])) w') := Lib.hid fun w hB => (set_out (er_below h hB) hE hk).mono fun e w' ⟨p, m, c, h1, h2⟩ => ⟨p, m, c, h1, out_back (gf_below hB) h2⟩
  obtain ⟨P, hP⟩ : ∃ P, OutP A E M s W = P := ⟨_, rfl⟩
  have HP := Lib.hid hP
  rw [hP] at CI ⊢
  obtain ⟨k, cpu, n, id, tc, ts, th, tl⟩ := s
  dsimp only at hk
  subst hk
  have HB := Lib.hid (((Below.refl W.heap.size W).alloc (Nat.le_refl _) (.cells #[ptr A.e] 24)).alloc (by simp) (.cells #[.int .i64 12, .int .i64 cpu, .int .i64 n, .int .i64 id, .int .i64 tc, .int .i64 ts, .int .i64 th, .bool tl] 33))
  clear h hE hw hP
  go_enter Tryz.func7, Tryz.ntmps7
  go_wp2_with (first
    | (go_at_call 29; refine (CI.out _ HB.out).mono ?_; clear CI; rintro e w1 ⟨p, mm, c, rfl, hp⟩; have HO := Lib.hid hp; clear hp)
    | fail)
  exact HO.out
set_option maxRecDepth 100000 in
set_option maxHeartbeats 4000000 in
theorem edo_other (s : St) (W : World) (h : ER A E W) (hE : EI E M) (hw : s.wf) (hk : s.kind < 1 ∨ 12 < s.kind) : Calls Tryz.prog 7 #[ptr A.e, stv s] W (OutP A E M s W) := by
  have CI : Hid (∀ w, Below W.heap.size W w → OutP A E M s W (.returned (.tuple #[.slice none 0 0, .int .i64 1])) w) := Lib.hid fun w hB => ⟨[], 1, E, M, .other hk, ⟨_, rfl, ft_nil _ _⟩, er_below h hB, gf_below hB⟩
  obtain ⟨P, hP⟩ : ∃ P, OutP A E M s W = P := ⟨_, rfl⟩
  have HP := Lib.hid hP
  rw [hP] at CI ⊢
  obtain ⟨k, cpu, n, id, tc, ts, th, tl⟩ := s
  dsimp only at hk
  have HB := Lib.hid (((Below.refl W.heap.size W).alloc (Nat.le_refl _) (.cells #[ptr A.e] 24)).alloc (by simp) (.cells #[.int .i64 k, .int .i64 cpu, .int .i64 n, .int .i64 id, .int .i64 tc, .int .i64 ts, .int .i64 th, .bool tl] 33))
  have k1 : ¬ k = 1 := by omega
  have k2 : ¬ k = 2 := by omega
  have k3 : ¬ k = 3 := by omega
  have k4 : ¬ k = 4 := by omega
  have k5 : ¬ k = 5 := by omega
  have k6 : ¬ k = 6 := by omega
  have k7 : ¬ k = 7 := by omega
  have k8 : ¬ k = 8 := by omega
  have k9 : ¬ k = 9 := by omega
  have k10 : ¬ k = 10 := by omega
  have k11 : ¬ k = 11 := by omega
  have k12 : ¬ k = 12 := by omega
  clear hk
  clear h hE hw hP
  go_enter Tryz.func7, Tryz.ntmps7
  go_wp2_with (first
    | fail)
  exact CI.out _ HB.out
set_option maxRecDepth 100000 in
set_option maxHeartbeats 4000000 in
theorem edo_7 (s : St) (W : World) (h : ER A E W) (hE : EI E M) (hw : s.wf) (hk : s.kind = 7) : Calls Tryz.prog 7 #[ptr A.e, stv s] W (OutP A E M s W) := by
  have HZ := Lib.hid (er_lt h A.ck has_ck)
  have CI : Hid (∀ (b2 b3 : Nat) w, Below W.heap.size W w → w.cell? ⟨b2, 0, none⟩ = some (ptr A.e) → w.cell? ⟨b3, 2, none⟩ = some (.int .i64 s.n) → b2 < w.heap.size → b3 < w.heap.size → ¬ b2 = A.ck → ¬ b3 = A.ck → Calls Tryz.prog 23 #[ptr A.e, .func (.func 24) #[] #[ptr b2, ptr b3]] w fun e w' => ∃ x, e = .returned (.int .i64 x) ∧ OutP A E M s W (.returned (.tuple #[.slice none 0 0, .int .i64 x])) w') := Lib.hid fun b2 b3 w hB a1 a2 a3 a4 a5 a6 => (clk7_ans (er_below h hB) hE hk a1 a2 a3 a4 a5 a6).mono fun e w' hp => by
    obtain ⟨x, rfl, hp⟩ := ans_split hp
    exact ⟨x, rfl, ans_out (gf_below hB) hp⟩
  obtain ⟨P, hP⟩ : ∃ P, OutP A E M s W = P := ⟨_, rfl⟩
  have HP := Lib.hid hP
  rw [hP] at CI ⊢
  obtain ⟨k, cpu, n, id, tc, ts, th, tl⟩ := s
  dsimp only at hk
  subst hk
  have HB := Lib.hid (((Below.refl W.heap.size W).alloc (Nat.le_refl _) (.cells #[ptr A.e] 24)).alloc (by simp) (.cells #[.int .i64 7, .int .i64 cpu, .int .i64 n, .int .i64 id, .int .i64 tc, .int .i64 ts, .int .i64 th, .bool tl] 33))
  have h2 := (Below.heap_alloc (W.alloc (.cells #[ptr A.e] 24)) (.cells #[.int .i64 7, .int .i64 cpu, .int .i64 n, .int .i64 id, .int .i64 tc, .int .i64 ts, .int .i64 th, .bool tl] 33) W.heap.size (by simp)).trans (heap_alloc_new W (.cells #[ptr A.e] 24))
  have h3 := heap_alloc_new (W.alloc (.cells #[ptr A.e] 24)) (.cells #[.int .i64 7, .int .i64 cpu, .int .i64 n, .int .i64 id, .int .i64 tc, .int .i64 ts, .int .i64 th, .bool tl] 33)
  rw [show (W.alloc (.cells #[ptr A.e] 24)).heap.size = W.heap.size + 1 by simp] at h3
  have CC := Lib.hid (CI.out W.heap.size (W.heap.size + 1) _ HB.out (cell_of h2 0 _ rfl).1 (cell_of h3 2 _ rfl).1 (by simp; omega) (by simp) (fun e => by have := HZ.out; omega) (fun e => by have := HZ.out; omega))
  clear h2 h3
  clear h hE hw hP
  go_enter Tryz.func7, Tryz.ntmps7
  go_wp2_with (first
    | (go_at_call 23; refine (CC.out).mono ?_; clear CC; rintro e w1 ⟨x, rfl, hp⟩; have HO := Lib.hid hp; clear hp)
    | fail)
  exact HO.out
set_option maxRecDepth 100000 in
set_option maxHeartbeats 4000000 in
theorem edo_8 (s : St) (W : World) (h : ER A E W) (hE : EI E M) (hw : s.wf) (hk : s.kind = 8) : Calls Tryz.prog 7 #[ptr A.e, stv s] W (OutP A E M s W) := by
  have CI : Hid (∀ w, Below W.heap.size W w → Calls Tryz.prog 23 #[ptr A.e, .func (.func 26) #[ptr A.ck] #[]] w fun e w' => ∃ x, e = .returned (.int .i64 x) ∧ OutP A E M s W (.returned (.tuple #[.slice none 0 0, .int .i64 x])) w' ∧ (∀ b, b < w.heap.size → ¬ A.has E.n b → w'.heap[b]? = w.heap[b]?) ∧ w'.heap[A.e]? = w'.heap[A.e]? ∧ w'.cell? ⟨A.e, 0, none⟩ = some (ptr A.ck)) := Lib.hid fun w hB => (clk8_ans (er_below h hB) hE hk).mono fun e w' hp => by
    obtain ⟨x, rfl, hp⟩ := ans_split hp
    obtain ⟨x', E', M', -, -, her, hg⟩ := id hp
    obtain ⟨m, hm, -⟩ := her.eb
    exact ⟨x, rfl, ans_out (gf_below hB) hp, fun b hb hn => hg.block b hb hn, rfl, (cell_of hm 0 _ rfl).1⟩
  have HNH : Hid (¬ A.has E.n W.heap.size) := Lib.hid fun e => by have := er_lt h _ e; omega
  obtain ⟨P, hP⟩ : ∃ P, OutP A E M s W = P := ⟨_, rfl⟩
  have HP := Lib.hid hP
  rw [hP] at CI ⊢
  obtain ⟨k, cpu, n, id, tc, ts, th, tl⟩ := s
  dsimp only at hk
  subst hk
  have HB := Lib.hid (((Below.refl W.heap.size W).alloc (Nat.le_refl _) (.cells #[ptr A.e] 24)).alloc (by simp) (.cells #[.int .i64 8, .int .i64 cpu, .int .i64 n, .int .i64 id, .int .i64 tc, .int .i64 ts, .int .i64 th, .bool tl] 33))
  have h2 := (Below.heap_alloc (W.alloc (.cells #[ptr A.e] 24)) (.cells #[.int .i64 8, .int .i64 cpu, .int .i64 n, .int .i64 id, .int .i64 tc, .int .i64 ts, .int .i64 th, .bool tl] 33) W.heap.size (by simp)).trans (heap_alloc_new W (.cells #[ptr A.e] 24))
  obtain ⟨m, hm, -⟩ := (er_below h HB.out).eb
  have e0 := (cell_of hm 0 _ rfl).1
  have hs2 : W.heap.size < ((W.alloc (.cells #[ptr A.e] 24)).alloc (.cells #[.int .i64 8, .int .i64 cpu, .int .i64 n, .int .i64 id, .int .i64 tc, .int .i64 ts, .int .i64 th, .bool tl] 33)).heap.size := by simp; omega
  clear hm h hE hw hP
  go_enter Tryz.func7, Tryz.ntmps7
  go_wp2_with fail
  obtain ⟨W2, hW2⟩ : ∃ W2, ((W.alloc (.cells #[ptr A.e] 24)).alloc (.cells #[.int .i64 8, .int .i64 cpu, .int .i64 n, .int .i64 id, .int .i64 tc, .int .i64 ts, .int .i64 th, .bool tl] 33)) = W2 := ⟨_, rfl⟩
  rw [hW2] at h2 e0 HB hs2 ⊢
  obtain ⟨g, hg⟩ : ∃ g, W.heap.size = g := ⟨_, rfl⟩
  rw [hg] at h2 hs2 HNH ⊢
  have c2 := (cell_of h2 0 _ rfl).1
  have CC := Lib.hid (CI.out W2.drew (below_drew HB.out))
  have HN2 := Lib.hid h2
  clear hW2 hg h2 CI
  go_region_held3 (fun w => w.cell? ⟨g, 0, none⟩ = some (ptr A.e) ∧ w.cell? ⟨A.e, 0, none⟩ = some (ptr A.ck)) (first | exact ⟨c2, e0⟩ | exact ⟨f1, f2⟩ | assumption | (go_keep; done)) (first
    | (go_simp; go_at_call 23; refine (CC.out).mono ?_; clear CC; rintro e w1 ⟨x, rfl, hp, hbl, -, f2⟩; have f1 := (World.cell?_of_block (a := ⟨g, 0, none⟩) (hbl g hs2 HNH.out)).trans c2; have HO := Lib.hid hp; clear hp hbl)
    | fail)
  go_wp2_with fail
  exact HO.out
set_option maxRecDepth 100000 in
set_option maxHeartbeats 4000000 in
theorem edo_9 (s : St) (W : World) (h : ER A E W) (hE : EI E M) (hw : s.wf) (hk : s.kind = 9) : Calls Tryz.prog 7 #[ptr A.e, stv s] W (OutP A E M s W) := by
  have CI : Hid (∀ w, Below W.heap.size W w → Calls Tryz.prog 23 #[ptr A.e, .func (.func 27) #[ptr A.ck] #[]] w fun e w' => ∃ x, e = .returned (.int .i64 x) ∧ OutP A E M s W (.returned (.tuple #[.slice none 0 0, .int .i64 x])) w' ∧ (∀ b, b < w.heap.size → ¬ A.has E.n b → w'.heap[b]? = w.heap[b]?) ∧ w'.heap[A.e]? = w'.heap[A.e]? ∧ w'.cell? ⟨A.e, 0, none⟩ = some (ptr A.ck)) := Lib.hid fun w hB => (clk9_ans (er_below h hB) hE hk).mono fun e w' hp => by
    obtain ⟨x, rfl, hp⟩ := ans_split hp
    obtain ⟨x', E', M', -, -, her, hg⟩ := id hp
    obtain ⟨m, hm, -⟩ := her.eb
    exact ⟨x, rfl, ans_out (gf_below hB) hp, fun b hb hn => hg.block b hb hn, rfl, (cell_of hm 0 _ rfl).1⟩
  have HNH : Hid (¬ A.has E.n W.heap.size) := Lib.hid fun e => by have := er_lt h _ e; omega
  obtain ⟨P, hP⟩ : ∃ P, OutP A E M s W = P := ⟨_, rfl⟩
  have HP := Lib.hid hP
  rw [hP] at CI ⊢
  obtain ⟨k, cpu, n, id, tc, ts, th, tl⟩ := s
  dsimp only at hk
  subst hk
  have HB := Lib.hid (((Below.refl W.heap.size W).alloc (Nat.le_refl _) (.cells #[ptr A.e] 24)).alloc (by simp) (.cells #[.int .i64 9, .int .i64 cpu, .int .i64 n, .int .i64 id, .int .i64 tc, .int .i64 ts, .int .i64 th, .bool tl] 33))
  have h2 := (Below.heap_alloc (W.alloc (.cells #[ptr A.e] 24)) (.cells #[.int .i64 9, .int .i64 cpu, .int .i64 n, .int .i64 id, .int .i64 tc, .int .i64 ts, .int .i64 th, .bool tl] 33) W.heap.size (by simp)).trans (heap_alloc_new W (.cells #[ptr A.e] 24))
  obtain ⟨m, hm, -⟩ := (er_below h HB.out).eb
  have e0 := (cell_of hm 0 _ rfl).1
  have hs2 : W.heap.size < ((W.alloc (.cells #[ptr A.e] 24)).alloc (.cells #[.int .i64 9, .int .i64 cpu, .int .i64 n, .int .i64 id, .int .i64 tc, .int .i64 ts, .int .i64 th, .bool tl] 33)).heap.size := by simp; omega
  clear hm h hE hw hP
  go_enter Tryz.func7, Tryz.ntmps7
  go_wp2_with fail
  obtain ⟨W2, hW2⟩ : ∃ W2, ((W.alloc (.cells #[ptr A.e] 24)).alloc (.cells #[.int .i64 9, .int .i64 cpu, .int .i64 n, .int .i64 id, .int .i64 tc, .int .i64 ts, .int .i64 th, .bool tl] 33)) = W2 := ⟨_, rfl⟩
  rw [hW2] at h2 e0 HB hs2 ⊢
  obtain ⟨g, hg⟩ : ∃ g, W.heap.size = g := ⟨_, rfl⟩
  rw [hg] at h2 hs2 HNH ⊢
  have c2 := (cell_of h2 0 _ rfl).1
  have CC := Lib.hid (CI.out W2.drew (below_drew HB.out))
  have HN2 := Lib.hid h2
  clear hW2 hg h2 CI
  go_region_held3 (fun w => w.cell? ⟨g, 0, none⟩ = some (ptr A.e) ∧ w.cell? ⟨A.e, 0, none⟩ = some (ptr A.ck)) (first | exact ⟨c2, e0⟩ | exact ⟨f1, f2⟩ | assumption | (go_keep; done)) (first
    | (go_simp; go_at_call 23; refine (CC.out).mono ?_; clear CC; rintro e w1 ⟨x, rfl, hp, hbl, -, f2⟩; have f1 := (World.cell?_of_block (a := ⟨g, 0, none⟩) (hbl g hs2 HNH.out)).trans c2; have HO := Lib.hid hp; clear hp hbl)
    | fail)
  go_wp2_with fail
  exact HO.out
theorem edo_at (s : St) (W : World) (h : ER A E W) (hE : EI E M) (hw : s.wf) : Calls Tryz.prog 7 #[ptr A.e, stv s] W (OutP A E M s W) := by
  by_cases ho : s.kind < 1 ∨ 12 < s.kind
  · exact edo_other s W h hE hw ho
  · rcases (show s.kind = 1 ∨ s.kind = 2 ∨ s.kind = 3 ∨ s.kind = 4 ∨ s.kind = 5 ∨ s.kind = 6 ∨ s.kind = 7 ∨ s.kind = 8 ∨ s.kind = 9 ∨ s.kind = 10 ∨ s.kind = 11 ∨ s.kind = 12 by omega) with hk | hk | hk | hk | hk | hk | hk | hk | hk | hk | hk | hk
    · exact edo_1 s W h hE hw hk
    · exact edo_2 s W h hE hw hk
    · exact edo_3 s W h hE hw hk
    · exact edo_4 s W h hE hw hk
    · exact edo_5 s W h hE hw hk
    · exact edo_6 s W h hE hw hk
    · exact edo_7 s W h hE hw hk
    · exact edo_8 s W h hE hw hk
    · exact edo_9 s W h hE hw hk
    · exact edo_10 s W h hE hw hk
    · exact edo_11 s W h hE hw hk
    · exact edo_12 s W h hE hw hk
end
end Go.Proofs.YtlcaepcojglbiaaGreatDoor.Tp
