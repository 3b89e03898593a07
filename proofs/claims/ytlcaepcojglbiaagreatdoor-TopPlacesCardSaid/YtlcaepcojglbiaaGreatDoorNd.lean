/- The places, the plain law of the two machines: a part of the walk of the whole machine. For all states that the readings allow. -/
import Derived.Test.YtlcaepcojglbiaaGreatDoorMy
import Derived.Test.YtlcaepcojglbiaaGreatDoorMw
import Derived.Test.YtlcaepcojglbiaaGreatDoorNb
namespace Go.Proofs.YtlcaepcojglbiaaGreatDoor.Tp
open Go.RowKit
set_option linter.unusedVariables false
set_option linter.unusedSimpArgs false
/-! Places: the plain law. -/
/-- What always holds. -/
structure SI (E : En) (M : GM) : Prop where
  ei : EI E M
  tms : ∀ id i t, M id = some (i, t) → t.clock = 0 ∧ 0 ≤ t.soft ∧ t.soft ≤ 255
  aw : E.K.asleep = false ∧ E.K.o2 = 0
  dev : ∀ i, i < E.n → (E.c i).d.least = 1 ∧ (E.c i).d.great = 1000 ∧ (E.c i).kicked = false ∧ (E.on i = false → (E.c i).d.latched = false ∧ (E.c i).raised = false ∧ (E.c i).d.armed = false) ∧ (E.on i = true → (E.c i).d.off = false)
  m0 : 0 ≤ E.K.mono ∧ E.K.mono ≤ 1000
  n16 : E.n ≤ 16
/-- A timer's device is armed in time. -/
def AO (E : En) (i : Nat) (t : Tm) : Prop := (E.c i).d.armed = true ∧ (E.c i).d.at' ≤ max t.soft (E.K.mono + 1)
/-- Between ticks. -/
structure JI (E : En) (M : GM) : Prop where
  si : SI E M
  q : ∀ i, E.on i = true → (E.c i).d.latched = false ∧ (E.c i).raised = false
  ao : ∀ id i t, M id = some (i, t) → AO E i t
  late : ∀ id i t, M id = some (i, t) → E.K.mono = 0 ∨ E.K.mono < t.soft
/-- Within a tick. -/
structure QI (E : En) (M : GM) : Prop where
  si : SI E M
  m1 : 1 ≤ E.K.mono
  q : ∀ id i t, M id = some (i, t) → (E.c i).d.latched = false → ((E.c i).raised = false ∨ t.lazy = false) → AO E i t ∧ E.K.mono < t.soft
  late : ∀ id i t, M id = some (i, t) → E.K.mono = 1 ∨ E.K.mono ≤ t.soft
theorem bnx_step (b : Nat → List Tm) (s : Bool) (of : Nat → Int) (n : Nat) : bnx b s of (n + 1) = nx1 (b n) s (n % 2) (of (n / 2)) (bnx b s of n) := rfl
theorem nx1_acc (L : List Tm) (s : Bool) (k : Nat) (off acc : Int) (ha : -4611686018427387903 ≤ acc) : nx1 L s k off acc ≤ acc ∧ -4611686018427387903 ≤ nx1 L s k off acc := by
  unfold nx1
  cases L with
  | nil => exact ⟨Int.le_refl _, ha⟩
  | cons t L =>
    dsimp only
    split
    · unfold first2 clampv
      omega
    · exact ⟨Int.le_refl _, ha⟩
theorem bnx_lo (b : Nat → List Tm) (s : Bool) (of : Nat → Int) : ∀ n, -4611686018427387903 ≤ bnx b s of n
  | 0 => by show _ ≤ (4611686018427387903 : Int); omega
  | n + 1 => (nx1_acc _ _ _ _ _ (bnx_lo b s of n)).2
theorem bnx_down (b : Nat → List Tm) (s : Bool) (of : Nat → Int) (n : Nat) : ∀ m, bnx b s of (n + m) ≤ bnx b s of n
  | 0 => Int.le_refl _
  | m + 1 => Int.le_trans (nx1_acc _ _ _ _ _ (bnx_lo b s of (n + m))).1 (bnx_down b s of n m)
/-- The first of a sorted row is the least. -/
theorem nx1_le {L : List Tm} {t : Tm} {s : Bool} {k : Nat} {acc : Int} (hL : L.Pairwise slo) (ht : t ∈ L) (hk : s = true ∨ k = 0) (hb : ∀ u ∈ L, 0 ≤ u.soft ∧ u.soft ≤ 255) : nx1 L s k 0 acc ≤ t.soft := by
  cases L with
  | nil => cases ht
  | cons u L =>
    have hu : u.soft ≤ t.soft := by
      rcases List.mem_cons.1 ht with rfl | h
      · exact Int.le_refl _
      · have h1 := List.rel_of_pairwise_cons hL h
        have h2 := hb t ht
        have h3 := hb u (List.mem_cons_self ..)
        unfold slo clampv at h1
        omega
    have h3 := hb u (List.mem_cons_self ..)
    have : (s || k == 0) = true := by rcases hk with rfl | rfl <;> simp
    unfold nx1
    dsimp only
    rw [if_pos this]
    unfold first2 subv clampv
    split <;> omega
section
variable {E : En} {M : GM}
theorem nxt_le (h : SI E M) {i : Nat} {t : Tm} (hM : M t.id = some (i, t)) (hr : (E.c i).raised = false ∨ t.lazy = false) : E.nxt i ≤ t.soft ∧ -4611686018427387903 ≤ E.nxt i := by
  obtain ⟨hc, hs1, hs2⟩ := h.tms _ _ _ hM
  obtain ⟨-, hi, -, -, hcc, -⟩ := h.ei.dom _ _ _ hM
  have ho : E.K.o0 = 0 := h.ei.ck.z
  refine ⟨?_, bnx_lo _ _ _ _⟩
  have hq : sel t < 2 := by unfold sel; rw [hc]; split <;> simp
  have hmem := (h.ei.mem i hi (sel t) (by omega) t).2 ⟨hM, rfl⟩
  have hbd : ∀ u ∈ (E.c i).b (sel t), 0 ≤ u.soft ∧ u.soft ≤ 255 := fun u hu => (h.tms _ _ _ (ei_some h.ei hi (by omega) hu).1).2
  have hoff : E.K.off (sel t / 2) = 0 := by
    have : sel t / 2 = 0 := by omega
    rw [this]
    exact ho
  have hk : (!(E.c i).raised) = true ∨ sel t % 2 = 0 := by
    rcases hr with hr | hr
    · left; rw [hr]; rfl
    · right; rw [sel_mod, hr]; rfl
  have h1 := nx1_le (acc := bnx (E.c i).b (!(E.c i).raised) E.K.off (sel t)) (h.ei.srt i hi _ (by omega)) hmem hk hbd
  have h2 := bnx_down (E.c i).b (!(E.c i).raised) E.K.off (sel t + 1) (6 - (sel t + 1))
  rw [bnx_step, hoff] at h2
  have e : sel t + 1 + (6 - (sel t + 1)) = 6 := by omega
  rw [e] at h2
  unfold En.nxt
  omega
theorem look_ao (h : SI E M) {i : Nat} {t : Tm} (hoff : (E.c i).d.off = false) (hM : M t.id = some (i, t)) (hr : (E.c i).raised = false ∨ t.lazy = false) : AO (E.look i) i t := by
  obtain ⟨hn1, hn2⟩ := nxt_le h hM hr
  obtain ⟨hc, hs1, hs2⟩ := h.tms _ _ _ hM
  obtain ⟨-, hi, -⟩ := h.ei.dom _ _ _ hM
  obtain ⟨d1, d2, -⟩ := h.dev i hi
  have hm := h.m0
  have hw : (E.c i).d.when E.K.mono (E.nxt i) ≤ max t.soft (E.K.mono + 1) := by
    unfold Dv.when
    rw [d1, d2]
    unfold betw addv clampv
    split <;> omega
  unfold AO En.look
  rw [setc_self_c]
  dsimp only
  show _ ∧ _ ≤ max t.soft (E.K.mono + 1)
  unfold Dv.sooner
  split
  · rename_i hx
    rcases hx with hx | hx | ⟨hx1, hx2⟩
    · rw [hoff] at hx; cases hx
    · omega
    · exact ⟨hx1, Int.le_trans hx2 hw⟩
  · exact ⟨rfl, hw⟩
/-- A look leaves all but the arming. -/
theorem look_c (E : En) (i j : Nat) : ((E.look i).c j).d.least = (E.c j).d.least ∧ ((E.look i).c j).d.great = (E.c j).d.great ∧ ((E.look i).c j).kicked = (E.c j).kicked ∧ ((E.look i).c j).d.latched = (E.c j).d.latched ∧ ((E.look i).c j).raised = (E.c j).raised ∧ ((E.look i).c j).d.off = (E.c j).d.off ∧ ((E.look i).c j).b = (E.c j).b ∧ (j ≠ i → (E.look i).c j = E.c j) := by
  unfold En.look
  by_cases e : j = i
  · subst e
    rw [setc_self_c]
    unfold Dv.sooner
    dsimp only
    split <;> exact ⟨rfl, rfl, rfl, rfl, rfl, rfl, rfl, fun h => absurd rfl h⟩
  · rw [setc_ne _ _ e]
    exact ⟨rfl, rfl, rfl, rfl, rfl, rfl, rfl, fun _ => rfl⟩
theorem si_look (h : SI E M) (i : Nat) (ho : E.on i = true) : SI (E.look i) M := by
  refine ⟨ei_look h.ei i, h.tms, h.aw, fun j hj => ?_, h.m0, h.n16⟩
  obtain ⟨a1, a2, a3, a4, a5, a6, -, a8⟩ := look_c E i j
  rw [a1, a2, a3, a4, a5, a6]
  obtain ⟨b1, b2, b3, b4, b5⟩ := h.dev j hj
  refine ⟨b1, b2, b3, fun hf => ?_, b5⟩
  obtain ⟨c1, c2, c3⟩ := b4 hf
  refine ⟨c1, c2, ?_⟩
  rw [a8 fun e => by
    have hf' : E.on j = false := hf
    rw [e, ho] at hf'
    cases hf']
  exact c3
end
end Go.Proofs.YtlcaepcojglbiaaGreatDoor.Tp
namespace Go.Proofs.YtlcaepcojglbiaaGreatDoor.Tp
open Go.RowKit
set_option linter.unusedVariables false
set_option linter.unusedSimpArgs false
/-! Places: starts, processors that come and go. -/
section
variable {E : En} {M : GM}
/-- After a look at i all devices are armed in time, where that held of the others. -/
theorem look_all (h : SI E M) (i : Nat) (hi : i < E.n) (hoff : (E.c i).d.off = false) (hr : (E.c i).raised = false) (ho : ∀ id j t, M id = some (j, t) → j ≠ i → AO E j t) : ∀ id j t, M id = some (j, t) → AO (E.look i) j t := fun id j t hM => by
  obtain ⟨hid, hj, -⟩ := h.ei.dom _ _ _ hM
  by_cases e : j = i
  · subst e
    exact look_ao h hoff (by rw [hid]; exact hM) (.inl hr)
  · have := ho id j t hM e
    unfold AO at *
    rw [(look_c E i j).2.2.2.2.2.2.2 e]
    exact this
theorem ji_new (n : Nat) (h16 : n ≤ 16) : JI (En.new n 1000) (fun _ => none) := by
  refine ⟨⟨ei_new n h16 1000, fun id i t h => (by cases h), ⟨rfl, rfl⟩, fun i hi => ⟨rfl, rfl, rfl, fun _ => ⟨rfl, rfl, rfl⟩, fun _ => rfl⟩, by show (0 : Int) ≤ 0 ∧ (0 : Int) ≤ 1000; omega, h16⟩, fun i hi => ⟨rfl, rfl⟩, fun id i t h => (by cases h), fun id i t h => (by cases h)⟩
theorem put_c (E : En) (i : Nat) (t : Tm) (j : Nat) : ((E.put i t).c j).d = (E.c j).d ∧ ((E.put i t).c j).kicked = (E.c j).kicked ∧ ((E.put i t).c j).raised = (E.c j).raised := by
  show (if j = i then _ else E.c j : Cp).d = _ ∧ (if j = i then _ else E.c j : Cp).kicked = _ ∧ (if j = i then _ else E.c j : Cp).raised = _
  by_cases e : j = i
  · rw [if_pos e, e]; exact ⟨rfl, rfl, rfl⟩
  · rw [if_neg e]; exact ⟨rfl, rfl, rfl⟩
theorem take_c (E : En) (i : Nat) (t : Tm) (j : Nat) : ((E.take i t).c j).d = (E.c j).d ∧ ((E.take i t).c j).kicked = (E.c j).kicked ∧ ((E.take i t).c j).raised = (E.c j).raised := by
  show (if j = i then _ else E.c j : Cp).d = _ ∧ (if j = i then _ else E.c j : Cp).kicked = _ ∧ (if j = i then _ else E.c j : Cp).raised = _
  by_cases e : j = i
  · rw [if_pos e, e]; exact ⟨rfl, rfl, rfl⟩
  · rw [if_neg e]; exact ⟨rfl, rfl, rfl⟩
theorem moves_c (i d : Nat) (j : Nat) : ∀ (X : List Tm) (E : En), ((E.moves i d X).c j).d = (E.c j).d ∧ ((E.moves i d X).c j).kicked = (E.c j).kicked ∧ ((E.moves i d X).c j).raised = (E.c j).raised
  | [], E => ⟨rfl, rfl, rfl⟩
  | t :: X, E => by
    obtain ⟨a1, a2, a3⟩ := moves_c i d j X (E.move i d t)
    obtain ⟨b1, b2, b3⟩ := put_c (E.take i t) d t j
    obtain ⟨c1, c2, c3⟩ := take_c E i t j
    exact ⟨a1.trans (b1.trans c1), a2.trans (b2.trans c2), a3.trans (b3.trans c3)⟩
theorem ji_start (h : JI E M) (hm : E.K.mono = 0) {i : Nat} {t : Tm} (ho : E.on i = true) (hc : t.clock = 0) (hs : 0 ≤ t.soft ∧ t.soft ≤ 255) (hei : EI (E.put i t) (Mset M t.id (some (i, t)))) : JI ((E.put i t).look i) (Mset M t.id (some (i, t))) := by
  have hi := h.si.ei.onn i ho
  have hS : SI (E.put i t) (Mset M t.id (some (i, t))) := by
    refine ⟨hei, fun id j u hu => ?_, h.si.aw, fun j hj => ?_, h.si.m0, h.si.n16⟩
    · unfold Mset at hu
      split at hu
      · cases hu; exact ⟨hc, hs⟩
      · exact h.si.tms _ _ _ hu
    · obtain ⟨a1, a2, a3⟩ := put_c E i t j
      rw [a1, a2, a3]
      exact h.si.dev j hj
  obtain ⟨p1, p2, p3⟩ := put_c E i t i
  refine ⟨si_look hS i ho, fun j hj => ?_, look_all hS i hi (by rw [p1]; exact (h.si.dev i hi).2.2.2.2 ho) (by rw [p3]; exact (h.q i ho).2) fun id j u hu hne => ?_, fun id j u hu => .inl hm⟩
  · obtain ⟨-, -, -, a4, a5, -⟩ := look_c (E.put i t) i j
    obtain ⟨b1, -, b3⟩ := put_c E i t j
    rw [a4, a5, b1, b3]
    exact h.q j hj
  · unfold Mset at hu
    split at hu
    · cases hu; exact absurd rfl hne
    · have := h.ao _ _ _ hu
      unfold AO at *
      rw [(put_c E i t j).1]
      exact this
theorem ji_brings (h : JI E M) {i : Nat} (hi : i < E.n) (ho : E.on i = false) : JI (E.brings i) M := by
  have hc : ∀ j, ((E.brings i).c j).d.least = (E.c j).d.least ∧ ((E.brings i).c j).d.great = (E.c j).d.great ∧ ((E.brings i).c j).kicked = (E.c j).kicked ∧ ((E.brings i).c j).d.latched = (E.c j).d.latched ∧ ((E.brings i).c j).raised = (E.c j).raised ∧ ((E.brings i).c j).d.armed = (E.c j).d.armed ∧ ((E.brings i).c j).d.at' = (E.c j).d.at' ∧ ((E.brings i).c j).d.off = (if j = i then false else (E.c j).d.off) := fun j => by
    show (if j = i then _ else E.c j : Cp).d.least = _ ∧ (if j = i then _ else E.c j : Cp).d.great = _ ∧ (if j = i then _ else E.c j : Cp).kicked = _ ∧ (if j = i then _ else E.c j : Cp).d.latched = _ ∧ (if j = i then _ else E.c j : Cp).raised = _ ∧ (if j = i then _ else E.c j : Cp).d.armed = _ ∧ (if j = i then _ else E.c j : Cp).d.at' = _ ∧ (if j = i then _ else E.c j : Cp).d.off = _
    by_cases e : j = i
    · rw [if_pos e, if_pos e, e]; exact ⟨rfl, rfl, rfl, rfl, rfl, rfl, rfl, rfl⟩
    · rw [if_neg e, if_neg e]; exact ⟨rfl, rfl, rfl, rfl, rfl, rfl, rfl, rfl⟩
  have hon : ∀ j, (E.brings i).on j = (E.on j || decide (i = j)) := fun j => rfl
  refine ⟨⟨ei_brings h.si.ei hi, h.si.tms, h.si.aw, fun j hj => ?_, h.si.m0, h.si.n16⟩, fun j hj => ?_, fun id j t hM => ?_, h.late⟩
  · obtain ⟨a1, a2, a3, a4, a5, a6, -, a8⟩ := hc j
    obtain ⟨b1, b2, b3, b4, b5⟩ := h.si.dev j hj
    rw [a1, a2, a3, a4, a5, a6, a8, hon]
    refine ⟨b1, b2, b3, fun hj' => ?_, fun hj' => ?_⟩
    · simp only [Bool.or_eq_false_iff] at hj'
      exact b4 hj'.1
    · split
      · rfl
      · rename_i e
        simp [Ne.symm e] at hj'
        exact b5 hj'
  · obtain ⟨-, -, -, a4, a5, -⟩ := hc j
    rw [a4, a5]
    rw [hon] at hj
    by_cases e : j = i
    · subst e
      have := (h.si.dev j hi).2.2.2.1 ho
      exact ⟨this.1, this.2.1⟩
    · simp [Ne.symm e] at hj
      exact h.q j hj
  · obtain ⟨-, -, -, -, -, a6, a7, -⟩ := hc j
    have := h.ao _ _ _ hM
    unfold AO at *
    rw [a6, a7]
    exact this
theorem offs_c (E : En) (i j : Nat) : ((E.offs i).c j).d.least = (E.c j).d.least ∧ ((E.offs i).c j).d.great = (E.c j).d.great ∧ (j ≠ i → (E.offs i).c j = E.c j) ∧ (j = i → ((E.offs i).c j).d.latched = false ∧ ((E.offs i).c j).raised = false ∧ ((E.offs i).c j).kicked = false ∧ ((E.offs i).c j).d.armed = false) := by
  by_cases e : j = i
  · subst e
    have e1 : (E.offs j).c j = { (({ (({ E.c j with d := { (E.c j).d with off := true, armed := false, latched := false } }) : Cp) with raised := false }) : Cp) with kicked := false } := by
      show (((E.gone1 j).gone2 j).gone3 j).c j = _
      unfold En.gone3 En.gone2 En.gone1
      rw [setc_self_c, setc_self_c, setc_self_c]
    rw [e1]
    exact ⟨rfl, rfl, fun h => absurd rfl h, fun _ => ⟨rfl, rfl, rfl, rfl⟩⟩
  · have e1 : (E.offs i).c j = E.c j := by
      show (((E.gone1 i).gone2 i).gone3 i).c j = _
      unfold En.gone3 En.gone2 En.gone1
      rw [setc_ne _ _ e, setc_ne _ _ e, setc_ne _ _ e]
    rw [e1]
    exact ⟨rfl, rfl, fun _ => rfl, fun h => absurd h e⟩
theorem ji_offl (h : JI E M) {i d : Nat} (ho : E.on i = true) (hd : nextOn (mwo E.on i) i = some d) : JI (E.offl i d) (Moff E M i d) := by
  have hi := h.si.ei.onn i ho
  obtain ⟨-, hd2⟩ := nextOn_some hd
  have hd3 : E.on d = true ∧ i ≠ d := by
    unfold mwo at hd2
    simpa using hd2
  have hdn := h.si.ei.onn d hd3.1
  have hei := ei_offl h.si.ei hi hd
  obtain ⟨E2, hE2⟩ : ∃ E2, (E.gone0 i d).offs i = E2 := ⟨_, rfl⟩
  obtain ⟨s1, s2, s3⟩ := moves_same i d (ball (E.c i).b 6) E
  have hK : E2.K = E.K := by rw [← hE2]; exact s2
  have hon : ∀ j, E2.on j = (E.on j && !decide (i = j)) := fun j => by
    rw [← hE2]
    show mwo (E.gone0 i d).on i j = _
    have : (E.gone0 i d).on = E.on := s3
    rw [this]
    rfl
  have hofl : E.offl i d = E2.look d := by rw [← hE2]; rfl
  have hn : E2.n = E.n := by
    have := (offl_same E i d).1
    rw [hofl] at this
    exact this
  have hcl : ∀ j, (E2.c j).d.least = (E.c j).d.least ∧ (E2.c j).d.great = (E.c j).d.great ∧ (j = i → (E2.c j).d.latched = false ∧ (E2.c j).raised = false ∧ (E2.c j).kicked = false ∧ (E2.c j).d.armed = false) ∧ (j ≠ i → (E2.c j).d = (E.c j).d ∧ (E2.c j).kicked = (E.c j).kicked ∧ (E2.c j).raised = (E.c j).raised) := fun j => by
    obtain ⟨a1, a2, a3, a4⟩ := offs_c (E.gone0 i d) i j
    obtain ⟨m1, m2, m3⟩ := moves_c i d j (ball (E.c i).b 6) E
    rw [hE2] at a1 a2 a3 a4
    have mg : E.gone0 i d = E.moves i d (ball (E.c i).b 6) := rfl
    rw [mg] at a1 a2 a3
    refine ⟨a1.trans (congrArg Dv.least m1), a2.trans (congrArg Dv.great m1), a4, fun hj => ?_⟩
    rw [a3 hj]
    exact ⟨m1, m2, m3⟩
  -- what the moved table holds
  have hM : ∀ id j t, Moff E M i d id = some (j, t) → j ≠ i ∧ ∃ k, M id = some (k, t) ∧ (j = k ∨ j = d) := fun id j t hm => by
    rw [moff_fn h.si.ei hi] at hm
    cases hx : M id with
    | none => rw [hx] at hm; cases hm
    | some x =>
      rw [hx] at hm
      obtain ⟨k, u⟩ := x
      simp only [Option.map_some, Option.some.injEq] at hm
      split at hm
      · cases hm; exact ⟨Ne.symm hd3.2, k, rfl, .inr rfl⟩
      · rename_i e
        cases hm; exact ⟨e, _, rfl, .inl rfl⟩
  have hE : EI E2 (Moff E M i d) := by
    -- the look at d undone: it touches no queue
    rw [hofl] at hei
    refine ⟨by rw [hK]; exact h.si.ei.ck, fun j hj q hq t => ?_, fun id j t hm => ?_, hei.wh, fun j hj q hq => ?_, fun j hj q hq => ?_, hei.cnt, hei.wn, hei.onn⟩
    · rw [← (look_c E2 d j).2.2.2.2.2.2.1]; exact hei.mem j hj q hq t
    · exact hei.dom id j t hm
    · rw [← (look_c E2 d j).2.2.2.2.2.2.1]; exact hei.nd j hj q hq
    · rw [← (look_c E2 d j).2.2.2.2.2.2.1]; exact hei.srt j hj q hq
  have hS : SI E2 (Moff E M i d) := by
    refine ⟨hE, fun id j t hm => ?_, by rw [hK]; exact h.si.aw, fun j hj => ?_, by rw [hK]; exact h.si.m0, by rw [hn]; exact h.si.n16⟩
    · obtain ⟨-, k, hk, -⟩ := hM id j t hm
      exact h.si.tms _ _ _ hk
    · obtain ⟨b1, b2, b3, b4, b5⟩ := h.si.dev j (hn ▸ hj)
      obtain ⟨a1, a2, a3, a4⟩ := hcl j
      rw [a1, a2]
      by_cases e : j = i
      · obtain ⟨x1, x2, x3, x4⟩ := a3 e
        refine ⟨b1, b2, x3, fun _ => ⟨x1, x2, x4⟩, fun hj' => ?_⟩
        rw [hon, e] at hj'
        simp at hj'
      · obtain ⟨x1, x2, x3⟩ := a4 e
        rw [x1, x2, x3, hon]
        refine ⟨b1, b2, b3, fun hj' => b4 ?_, fun hj' => b5 ?_⟩
        · simpa [Ne.symm e] using hj'
        · simp [Ne.symm e] at hj'; exact hj'
  obtain ⟨x1, x2, x3⟩ := (hcl d).2.2.2 (Ne.symm hd3.2)
  rw [hofl]
  refine ⟨si_look hS d (by rw [hon]; simp [hd3.1, hd3.2]), fun j hj => ?_, look_all hS d (by rw [hn]; exact hdn) (by rw [x1]; exact (h.si.dev d hdn).2.2.2.2 hd3.1) (by rw [x3]; exact (h.q d hd3.1).2) fun id j t hm hne => ?_, fun id j t hm => ?_⟩
  · obtain ⟨-, -, -, a4, a5, -⟩ := look_c E2 d j
    rw [a4, a5]
    have hj2 : E2.on j = true := hj
    rw [hon] at hj2
    simp only [Bool.and_eq_true, Bool.not_eq_true', decide_eq_false_iff_not] at hj2
    obtain ⟨y1, y2, y3⟩ := (hcl j).2.2.2 (Ne.symm hj2.2)
    rw [y1, y3]
    exact h.q j hj2.1
  · obtain ⟨hji, k, hk, e⟩ := hM id j t hm
    rcases e with rfl | rfl
    · have := h.ao _ _ _ hk
      unfold AO at *
      rw [((hcl j).2.2.2 hji).1, hK]
      exact this
    · exact absurd rfl hne
  · obtain ⟨-, k, hk, -⟩ := hM id j t hm
    show E2.K.mono = 0 ∨ E2.K.mono < t.soft
    rw [hK]
    exact h.late _ _ _ hk
end
end Go.Proofs.YtlcaepcojglbiaaGreatDoor.Tp
namespace Go.Proofs.YtlcaepcojglbiaaGreatDoor.Tp
open Go.RowKit
set_option linter.unusedVariables false
set_option linter.unusedSimpArgs false
/-! Places: a tick. -/
/-- What fired is struck off, each within its time. -/
def Del (now : Int) : List Fd → (Int → Option Int) → (Int → Option Int) → Prop
  | [], S, S' => S = S'
  | f :: o, S, S' => ∃ s, S f.id = some s ∧ s ≤ now ∧ now ≤ max s 1 + 3 ∧ Del now o (fun j => if j = f.id then none else S j) S'
def sof (M : GM) : Int → Option Int := fun id => (M id).map fun x => x.2.soft
theorem del_app {now : Int} : ∀ (a b : List Fd) (S S1 S2 : Int → Option Int), Del now a S S1 → Del now b S1 S2 → Del now (a ++ b) S S2
  | [], b, S, S1, S2, h1, h2 => by cases h1; exact h2
  | f :: a, b, S, S1, S2, ⟨s, h1, h3, h4, h5⟩, h2 => ⟨s, h1, h3, h4, del_app a b _ S1 S2 h5 h2⟩
theorem del_fd {now : Int} (K : Ck) (i : Nat) : ∀ (X : List Tm) (S : Int → Option Int), (X.map Tm.id).Nodup → (∀ t ∈ X, S t.id = some t.soft ∧ t.soft ≤ now ∧ now ≤ max t.soft 1 + 3) → Del now (X.map (fd K i)) S (fun id => if id ∈ X.map Tm.id then none else S id)
  | [], S, _, _ => by
    show S = _
    funext id
    simp
  | t :: X, S, hn, h => by
    have h2 := List.nodup_cons.1 (show (t.id :: X.map Tm.id).Nodup from hn)
    obtain ⟨a1, a2, a3⟩ := h t (List.mem_cons_self ..)
    refine ⟨t.soft, a1, a2, a3, ?_⟩
    have ih := del_fd K i X (fun j => if j = (fd K i t).id then none else S j) h2.2 fun u hu => by
      obtain ⟨b1, b2, b3⟩ := h u (List.mem_cons_of_mem _ hu)
      have hne : u.id ≠ (fd K i t).id := fun e => h2.1 (by
        have e' : u.id = t.id := e
        rw [← e']
        exact List.mem_map_of_mem hu)
      exact ⟨by rw [if_neg hne]; exact b1, b2, b3⟩
    have e : (fun id => if id ∈ X.map Tm.id then none else (fun j => if j = (fd K i t).id then none else S j) id) = fun id => if id ∈ (t :: X).map Tm.id then none else S id := by
      funext id
      show (if id ∈ X.map Tm.id then none else if id = t.id then none else S id) = _
      by_cases e1 : id = t.id
      · simp [e1]
      · by_cases e2 : id ∈ X.map Tm.id
        · have e3 : id ∈ (t :: X).map Tm.id := List.mem_cons_of_mem _ e2
          rw [if_pos e2, if_pos e3]
        · have e3 : ¬ id ∈ (t :: X).map Tm.id := fun h => (List.mem_cons.1 h).elim e1 e2
          rw [if_neg e2, if_neg e1, if_neg e3]
    rw [e] at ih
    exact ih
section
variable {E : En} {M : GM}
theorem sof_fire (h : EI E M) {i : Nat} (hi : i < E.n) (s : Bool) : sof (Mfire E.K M i s) = fun id => if id ∈ (E.exp i s).map Tm.id then none else sof M id := by
  funext id
  unfold sof Mfire
  by_cases hx : id ∈ (E.exp i s).map Tm.id
  · rw [if_pos hx]
    obtain ⟨t, ht, rfl⟩ := List.mem_map.1 hx
    obtain ⟨h1, h2⟩ := (exp_mem h hi).1 ht
    rw [h1]
    simp [Option.filter, h2]
  · rw [if_neg hx]
    cases hM : M id with
    | none => rfl
    | some x =>
      obtain ⟨j, t⟩ := x
      have hid := (h.dom _ _ _ hM).1
      have hf : fires E.K i s j t = false := by
        cases hf : fires E.K i s j t with
        | false => rfl
        | true =>
          have hj : j = i := by
            unfold fires at hf
            simp only [Bool.and_eq_true, decide_eq_true_eq] at hf
            exact hf.1.1
          subst hj
          exact absurd (List.mem_map.2 ⟨t, (exp_mem h hi).2 ⟨by rw [hid]; exact hM, hf⟩, hid⟩) hx
      simp [Option.filter, hf]
theorem fire_some {K : Ck} {i : Nat} {s : Bool} {id : Int} {j : Nat} {t : Tm} (h : Mfire K M i s id = some (j, t)) : M id = some (j, t) ∧ fires K i s j t = false := by
  unfold Mfire at h
  rw [Option.filter_eq_some_iff] at h
  simpa using h
theorem tm0' (h : SI E M) : E.K.tm 0 = E.K.mono := by
  have ho : E.K.o0 = 0 := h.ei.ck.z
  show E.K.mono + E.K.o0 = _
  omega
theorem due_iff (h : SI E M) {t : Tm} (hs : 0 ≤ t.soft ∧ t.soft ≤ 255) : isDue t (E.K.tm 0) = true ↔ t.soft ≤ E.K.mono := by
  rw [tm0' h]
  have hm := h.m0
  unfold isDue clampv
  simp only [Bool.and_eq_true, Bool.not_eq_true', decide_eq_false_iff_not, decide_eq_true_eq]
  omega
theorem bdu_no {b : Nat → List Tm} {s : Bool} {of : Nat → Int} : ∀ n, bdu b s of n = false → ∀ q, q < n → due1 (b q) s (q % 2) (of (q / 2)) = false
  | 0, _, q, hq => by omega
  | n + 1, h, q, hq => by
    have h' : (bdu b s of n || due1 (b n) s (n % 2) (of (n / 2))) = false := h
    simp only [Bool.or_eq_false_iff] at h'
    by_cases e : q = n
    · subst e; exact h'.2
    · exact bdu_no n h'.1 q (by omega)
theorem due1_no {L : List Tm} {k : Nat} {x : Int} (hL : L.Pairwise slo) (h : due1 L true k x = false) (hk : k = 1) : ∀ t ∈ L, isDue t x = false := fun t ht => by
  subst hk
  cases L with
  | nil => cases ht
  | cons u L =>
    have hu : isDue u x = false := by simpa [due1] using h
    rcases List.mem_cons.1 ht with rfl | ht'
    · exact hu
    · cases hd : isDue t x with
      | false => rfl
      | true =>
        rw [due_mono (List.rel_of_pairwise_cons hL ht') hd] at hu
        cases hu
/-- A queue's firing: what fired was due; within its time. -/
theorem del_exp (h : QI E M) {i : Nat} (hi : i < E.n) (s : Bool) : Del E.K.mono ((E.exp i s).map (fd E.K i)) (sof M) (sof (Mfire E.K M i s)) := by
  rw [sof_fire h.si.ei hi s]
  refine del_fd E.K i (E.exp i s) (sof M) (exn_nd h.si.ei s hi 6 (by omega)) fun t ht => ?_
  obtain ⟨h1, h2⟩ := (exp_mem h.si.ei hi).1 ht
  obtain ⟨hc, hs⟩ := h.si.tms _ _ _ h1
  unfold fires at h2
  simp only [Bool.and_eq_true, decide_eq_true_eq, beq_iff_eq] at h2
  have h3 := h2.2
  rw [hc] at h3
  have h4 := (due_iff h.si hs).1 h3
  refine ⟨by unfold sof; rw [h1]; rfl, h4, ?_⟩
  rcases h.late _ _ _ h1 with h5 | h5 <;> omega
theorem irq_eq (E : En) (i : Nat) : E.irq i = (let E2 := (E.unlatch i).fired i false; (E2.raise i ((E2.c i).raised || bdu (E2.c i).b true E2.K.tm 6)).look i) := rfl
/-- What an interrupt leaves, ahead of the look. -/
theorem irq_pre (h : QI E M) {i : Nat} (ho : E.on i = true) : ∃ E3 : En, E.irq i = E3.look i ∧ SI E3 (Mfire E.K M i false) ∧ E3.K = E.K ∧ E3.on = E.on ∧ (∀ j, j ≠ i → E3.c j = E.c j) ∧ (E3.c i).d.latched = false ∧ (E3.c i).d.off = (E.c i).d.off ∧ (E3.c i).b = exb (E.c i).b false E.K.tm 6 ∧ (E3.c i).raised = ((E.c i).raised || bdu (exb (E.c i).b false E.K.tm 6) true E.K.tm 6) := by
  have hi := h.si.ei.onn i ho
  obtain ⟨E2, hE2⟩ : ∃ E2, (E.unlatch i).fired i false = E2 := ⟨_, rfl⟩
  have c2 : ∀ j, E2.c j = if j = i then { E.c i with d := { (E.c i).d with latched := false }, b := exb (E.c i).b false E.K.tm 6 } else E.c j := fun j => by
    rw [← hE2]
    show (if j = i then _ else (E.unlatch i).c j : Cp) = _
    by_cases e : j = i
    · subst e
      rw [if_pos rfl, if_pos rfl]
      unfold En.unlatch
      rw [setc_self_c]
      rfl
    · rw [if_neg e, if_neg e]
      exact setc_ne _ _ e
  have hK2 : E2.K = E.K := by rw [← hE2]; rfl
  have hi2 : E2.c i = { E.c i with d := { (E.c i).d with latched := false }, b := exb (E.c i).b false E.K.tm 6 } := by rw [c2, if_pos rfl]
  have hei2 : EI E2 (Mfire E.K M i false) := by rw [← hE2]; exact ei_fired (ei_unlatch h.si.ei i) hi false
  obtain ⟨r, hr⟩ : ∃ r, ((E2.c i).raised || bdu (E2.c i).b true E2.K.tm 6) = r := ⟨_, rfl⟩
  have hr' : r = ((E.c i).raised || bdu (exb (E.c i).b false E.K.tm 6) true E.K.tm 6) := by
    rw [← hr, hi2, hK2]
  have c3 : ∀ j, (E2.raise i r).c j = if j = i then { E.c i with d := { (E.c i).d with latched := false }, b := exb (E.c i).b false E.K.tm 6, raised := r } else E.c j := fun j => by
    unfold En.raise
    by_cases e : j = i
    · subst e
      rw [setc_self_c, if_pos rfl, hi2]
    · rw [setc_ne _ _ e, if_neg e, c2, if_neg e]
  have hon : (E2.raise i r).on = E.on := by rw [← hE2]; rfl
  have hn : (E2.raise i r).n = E.n := by rw [← hE2]; rfl
  have c3i := c3 i
  rw [if_pos rfl] at c3i
  refine ⟨E2.raise i r, ?_, ⟨ei_raise hei2 i r, fun id j t hm => h.si.tms _ _ _ (fire_some hm).1, ?_, fun j hj => ?_, ?_, by rw [hn]; exact h.si.n16⟩, hK2, hon, fun j hj => ?_, ?_, ?_, ?_, ?_⟩
  · rw [irq_eq]
    dsimp only
    rw [hE2, hr]
  · show E2.K.asleep = false ∧ E2.K.o2 = 0
    rw [hK2]; exact h.si.aw
  · rw [hn] at hj
    obtain ⟨b1, b2, b3, b4, b5⟩ := h.si.dev j hj
    rw [c3, hon]
    by_cases e : j = i
    · subst e
      rw [if_pos rfl]
      exact ⟨b1, b2, b3, fun hf => (by rw [ho] at hf; cases hf), b5⟩
    · rw [if_neg e]
      exact ⟨b1, b2, b3, b4, b5⟩
  · show 0 ≤ E2.K.mono ∧ E2.K.mono ≤ 1000
    rw [hK2]; exact h.si.m0
  · rw [c3, if_neg hj]
  · rw [c3i]
  · rw [c3i]
  · rw [c3i]
  · rw [c3i]; exact hr'
/-- What stays of lazy timers is not due where nothing is raised. -/
theorem lazy_no (h : QI E M) {i : Nat} (hi : i < E.n) {t : Tm} {id : Int} (hM : M id = some (i, t)) (hl : t.lazy = true) (hb : bdu (exb (E.c i).b false E.K.tm 6) true E.K.tm 6 = false) : E.K.mono < t.soft := by
  have hei := h.si.ei
  obtain ⟨hid, -, -, -, hc, -⟩ := hei.dom _ _ _ hM
  obtain ⟨hc0, hs⟩ := h.si.tms _ _ _ hM
  have h6 := sel_lt hc
  have hmem := (hei.mem i hi _ h6 t).2 ⟨by rw [hid]; exact hM, rfl⟩
  have hq2 : sel t % 2 = 1 := by rw [sel_mod, hl]; rfl
  have e1 : exb (E.c i).b false E.K.tm 6 (sel t) = (E.c i).b (sel t) := by
    show (if sel t < 6 then exr (E.c i).b false E.K.tm (sel t) else _) = _
    rw [if_pos h6, exr_eq (hei.srt i hi _ h6), if_neg]
    rw [hq2]
    unfold isel
    simp
  have h1 := bdu_no 6 hb (sel t) h6
  rw [e1] at h1
  have h2 := due1_no (hei.srt i hi _ h6) h1 hq2 t hmem
  rw [sel_div, hc0] at h2
  have h3 := mt (due_iff h.si hs).2 (by rw [show E.K.tm 0 = E.K.tm (Int.toNat 0) from rfl, h2]; simp)
  omega
theorem eager_no (h : SI E M) {i : Nat} {s : Bool} {t : Tm} {id : Int} (hM : M id = some (i, t)) (hf : fires E.K i s i t = false) (hl : t.lazy = s) : E.K.mono < t.soft := by
  obtain ⟨hc0, hs⟩ := h.tms _ _ _ hM
  unfold fires at hf
  rw [hl, hc0] at hf
  simp only [decide_true, Bool.true_and, beq_self_eq_true] at hf
  have h3 := mt (due_iff h hs).2 (by rw [show E.K.tm 0 = E.K.tm (Int.toNat 0) from rfl, hf]; simp)
  omega
theorem qi_irq (h : QI E M) {i : Nat} (ho : E.on i = true) : QI (E.irq i) (Mfire E.K M i false) := by
  have hi := h.si.ei.onn i ho
  obtain ⟨E3, hE3, hS, hK, hon, hne, hl, hof, hb, hr⟩ := irq_pre h ho
  rw [hE3]
  have hKl : (E3.look i).K = E.K := hK
  refine ⟨si_look hS i (by rw [hon]; exact ho), by rw [hKl]; exact h.m1, fun id j t hm hla hra => ?_, fun id j t hm => ?_⟩
  · obtain ⟨hM, hf⟩ := fire_some hm
    obtain ⟨-, -, -, a4, a5, -⟩ := look_c E3 i j
    rw [a4] at hla
    rw [a5] at hra
    rw [hKl]
    by_cases e : j = i
    · subst e
      refine ⟨look_ao hS (by rw [hof]; exact (h.si.dev j hi).2.2.2.2 ho) (by rw [(h.si.ei.dom _ _ _ hM).1]; exact hm) hra, ?_⟩
      cases hlz : t.lazy with
      | false => exact eager_no h.si hM hf hlz
      | true =>
        rcases hra with hra | hra
        · rw [hr] at hra
          simp only [Bool.or_eq_false_iff] at hra
          exact lazy_no h hi hM hlz hra.2
        · rw [hlz] at hra; cases hra
    · rw [hne j e] at hla hra
      obtain ⟨x1, x2⟩ := h.q _ _ _ hM hla hra
      refine ⟨?_, x2⟩
      unfold AO at *
      rw [(look_c E3 i j).2.2.2.2.2.2.2 e, hne j e, hKl]
      exact x1
  · rw [hKl]
    exact h.late _ _ _ (fire_some hm).1
theorem soft_pre (h : QI E M) {i : Nat} (ho : E.on i = true) : ∃ E3 : En, E.soft i = E3.look i ∧ SI E3 (Mfire E.K M i true) ∧ E3.K = E.K ∧ E3.on = E.on ∧ (∀ j, j ≠ i → E3.c j = E.c j) ∧ (E3.c i).d = (E.c i).d ∧ (E3.c i).raised = false := by
  have hi := h.si.ei.onn i ho
  obtain ⟨E2, hE2⟩ : ∃ E2, (E.setc i { E.c i with raised := false }).fired i true = E2 := ⟨_, rfl⟩
  have c2 : ∀ j, E2.c j = if j = i then { E.c i with raised := false, b := exb (E.c i).b true E.K.tm 6 } else E.c j := fun j => by
    rw [← hE2]
    show (if j = i then _ else (E.setc i { E.c i with raised := false }).c j : Cp) = _
    by_cases e : j = i
    · subst e
      rw [if_pos rfl, if_pos rfl]
      rw [setc_self_c]
      rfl
    · rw [if_neg e, if_neg e]
      exact setc_ne _ _ e
  have hK2 : E2.K = E.K := by rw [← hE2]; rfl
  have hei2 : EI E2 (Mfire E.K M i true) := by
    rw [← hE2]
    exact ei_fired (ei_setc (i := i) (c := { E.c i with raised := false }) h.si.ei rfl) hi true
  have hon : E2.on = E.on := by rw [← hE2]; rfl
  have hn : E2.n = E.n := by rw [← hE2]; rfl
  have c2i := c2 i
  rw [if_pos rfl] at c2i
  refine ⟨E2, ?_, ⟨hei2, fun id j t hm => h.si.tms _ _ _ (fire_some hm).1, by rw [hK2]; exact h.si.aw, fun j hj => ?_, by rw [hK2]; exact h.si.m0, by rw [hn]; exact h.si.n16⟩, hK2, hon, fun j hj => ?_, ?_, ?_⟩
  · rw [← hE2]; rfl
  · rw [hn] at hj
    obtain ⟨b1, b2, b3, b4, b5⟩ := h.si.dev j hj
    rw [c2, hon]
    by_cases e : j = i
    · subst e
      rw [if_pos rfl]
      exact ⟨b1, b2, b3, fun hf => (by rw [ho] at hf; cases hf), b5⟩
    · rw [if_neg e]
      exact ⟨b1, b2, b3, b4, b5⟩
  · rw [c2, if_neg hj]
  · rw [c2i]
  · rw [c2i]
theorem qi_soft (h : QI E M) {i : Nat} (ho : E.on i = true) (hla0 : (E.c i).d.latched = false) : QI (E.soft i) (Mfire E.K M i true) := by
  have hi := h.si.ei.onn i ho
  obtain ⟨E3, hE3, hS, hK, hon, hne, hd, hr⟩ := soft_pre h ho
  rw [hE3]
  have hKl : (E3.look i).K = E.K := hK
  refine ⟨si_look hS i (by rw [hon]; exact ho), by rw [hKl]; exact h.m1, fun id j t hm hla hra => ?_, fun id j t hm => ?_⟩
  · obtain ⟨hM, hf⟩ := fire_some hm
    obtain ⟨-, -, -, a4, a5, -⟩ := look_c E3 i j
    rw [a4] at hla
    rw [a5] at hra
    rw [hKl]
    by_cases e : j = i
    · subst e
      refine ⟨look_ao hS (by rw [hd]; exact (h.si.dev j hi).2.2.2.2 ho) (by rw [(h.si.ei.dom _ _ _ hM).1]; exact hm) (.inl hr), ?_⟩
      cases hlz : t.lazy with
      | false => exact (h.q _ _ _ hM hla0 (.inr hlz)).2
      | true => exact eager_no h.si hM hf hlz
    · rw [hne j e] at hla hra
      obtain ⟨x1, x2⟩ := h.q _ _ _ hM hla hra
      refine ⟨?_, x2⟩
      unfold AO at *
      rw [(look_c E3 i j).2.2.2.2.2.2.2 e, hne j e, hKl]
      exact x1
  · rw [hKl]
    exact h.late _ _ _ (fire_some hm).1
theorem find_no2 {on : Nat → Bool} {p : Nat → Bool} (h : (onl on 16).find? p = none) {i : Nat} (hi : i < 16) (ho : on i = true) : p i = false := by
  rw [List.find?_eq_none] at h
  have := h i (onl_mem.2 ⟨hi, ho⟩)
  simpa using this
theorem ji_done (h : QI E M) (hI : E.nextI = none) (hS : E.nextS = none) : JI E M := by
  have hq : ∀ i, E.on i = true → (E.c i).d.latched = false ∧ (E.c i).raised = false := fun i ho => by
    have hi : i < 16 := by have := h.si.ei.onn i ho; have := h.si.n16; omega
    exact ⟨find_no2 (p := fun i => (E.c i).d.latched) hI hi ho, find_no2 (p := fun i => (E.c i).raised) hS hi ho⟩
  have hx : ∀ id i t, M id = some (i, t) → AO E i t ∧ E.K.mono < t.soft := fun id i t hM => by
    have ho := (h.si.ei.dom _ _ _ hM).2.2.1
    exact h.q _ _ _ hM (hq i ho).1 (.inl (hq i ho).2)
  exact ⟨h.si, hq, fun id i t hM => (hx id i t hM).1, fun id i t hM => .inr (hx id i t hM).2⟩
theorem settle_q {o : List Fd} {E' : En} {M' : GM} (hs : Settle E M o E' M') : QI E M → JI E' M' ∧ Del E.K.mono o (sof M) (sof M') ∧ E'.K = E.K := by
  induction hs with
  | @done E M hone =>
    intro h
    unfold En.one at hone
    cases h1 : E.nextK with
    | some i => rw [h1] at hone; cases hone
    | none =>
      cases h2 : E.nextI with
      | some i => rw [h1, h2] at hone; cases hone
      | none =>
        cases h3 : E.nextS with
        | some i => rw [h1, h2, h3] at hone; cases hone
        | none => exact ⟨ji_done h h2 h3, rfl, rfl⟩
  | @step E E1 E' M M' l o hone _ ih =>
    intro h
    rcases one_cases hone with ⟨i, h1, rfl, rfl, h2⟩ | ⟨i, -, h1, rfl, rfl, h2⟩ | ⟨i, -, hI, h1, rfl, rfl, h2⟩
    · obtain ⟨a, b, c⟩ := find_on h1
      rw [(h.si.dev i (h.si.ei.onn i b)).2.2.1] at c
      cases c
    · obtain ⟨a, b, c⟩ := find_on h1
      rw [h2] at ih
      obtain ⟨i1, i2, i3⟩ := ih (qi_irq h b)
      exact ⟨i1, del_app _ _ _ _ _ (del_exp h (h.si.ei.onn i b) false) i2, i3⟩
    · obtain ⟨a, b, c⟩ := find_on h1
      rw [h2] at ih
      obtain ⟨i1, i2, i3⟩ := ih (qi_soft h b (find_no2 (p := fun i => (E.c i).d.latched) hI a b))
      exact ⟨i1, del_app _ _ _ _ _ (del_exp h (h.si.ei.onn i b) true) i2, i3⟩
theorem passes_c (E : En) (j : Nat) : ∀ k, (E.passes k).c j = if j < k then { E.c j with d := (E.c j).d.pass E.K.mono } else E.c j
  | 0 => by rw [if_neg (by omega)]; rfl
  | k + 1 => by
    have ih := passes_c E j k
    show ((E.passes k).pass k).c j = _
    unfold En.pass
    by_cases e : j = k
    · subst e
      rw [setc_self_c, if_pos (by omega), ih, if_neg (by omega), (passes_same E j).2.1]
    · rw [setc_ne _ _ e, ih]
      by_cases e2 : j < k
      · rw [if_pos e2, if_pos (by omega)]
      · rw [if_neg e2, if_neg (by omega)]
theorem pass_c (d : Dv) (now : Int) : (d.pass now).least = d.least ∧ (d.pass now).great = d.great ∧ (d.pass now).off = d.off := by
  unfold Dv.pass
  split <;> exact ⟨rfl, rfl, rfl⟩
theorem adv1 (h : SI E M) (hm : E.K.mono ≤ 999) : E.K.bad 1 = false ∧ (E.K.adv 1).mono = E.K.mono + 1 ∧ (E.K.adv 1).asleep = false ∧ (E.K.adv 1).o2 = 0 := by
  obtain ⟨h1, h2⟩ := h.aw
  have ht := h.ei.ck.t
  rw [h1, h2] at ht
  simp at ht
  have hb : E.K.bad 1 = false := by
    cases hb : E.K.bad 1 with
    | false => rfl
    | true =>
      have := (E.K.bad_iff 1).1 hb
      omega
  unfold Ck.adv
  rw [hb, h1]
  exact ⟨rfl, rfl, rfl, h2⟩
theorem pass_cases (d : Dv) (now : Int) (h : (d.pass now).latched = false) : d.pass now = d ∧ d.latched = false ∧ ¬ (d.armed = true ∧ d.at' ≤ clampv now) := by
  unfold Dv.pass at *
  split at h
  · cases h
  · rename_i hx
    rw [if_neg hx]
    exact ⟨rfl, h, hx⟩
theorem qi_adv (h : JI E M) (hm : E.K.mono ≤ 999) : QI ((E.ckt (E.K.adv 1)).passes E.n) M ∧ ((E.ckt (E.K.adv 1)).passes E.n).K.mono = E.K.mono + 1 := by
  obtain ⟨a1, a2, a3, a4⟩ := adv1 h.si hm
  have hok := (ok_adv h.si.ei.ck 1).1
  have hm0 := h.si.m0
  obtain ⟨K', hK'⟩ : ∃ K', E.K.adv 1 = K' := ⟨_, rfl⟩
  rw [hK'] at a2 a3 a4 hok ⊢
  obtain ⟨p1, p2, p3, p4, p5⟩ := passes_same (E.ckt K') E.n
  have hc : ∀ j, ((E.ckt K').passes E.n).c j = if j < E.n then { E.c j with d := (E.c j).d.pass K'.mono } else E.c j := fun j => passes_c (E.ckt K') j E.n
  have hKm : ((E.ckt K').passes E.n).K = K' := p2
  have hn : ((E.ckt K').passes E.n).n = E.n := p1
  have hon : ((E.ckt K').passes E.n).on = E.on := p3
  have hei := ei_passes (ei_ckt h.si.ei hok) E.n
  obtain ⟨E', hE'⟩ : ∃ E', (E.ckt K').passes E.n = E' := ⟨_, rfl⟩
  rw [hE'] at hc hKm hn hon hei ⊢
  refine ⟨⟨⟨hei, h.si.tms, by rw [hKm]; exact ⟨a3, a4⟩, fun j hj => ?_, by rw [hKm]; omega, by rw [hn]; exact h.si.n16⟩, by rw [hKm]; omega, fun id j t hM hla hra => ?_, fun id j t hM => ?_⟩, by rw [hKm]; exact a2⟩
  · rw [hn] at hj
    obtain ⟨b1, b2, b3, b4, b5⟩ := h.si.dev j hj
    obtain ⟨q1, q2, q3⟩ := pass_c (E.c j).d K'.mono
    rw [hc, if_pos hj, hon]
    dsimp only
    rw [q1, q2, q3]
    refine ⟨b1, b2, b3, fun hf => ?_, b5⟩
    obtain ⟨c1, c2, c3⟩ := b4 hf
    have hp : (E.c j).d.pass K'.mono = (E.c j).d := by
      unfold Dv.pass
      rw [if_neg fun e => by rw [c3] at e; cases e.1]
    rw [hp]
    exact ⟨c1, c2, c3⟩
  · obtain ⟨-, hj, hoj, -⟩ := h.si.ei.dom _ _ _ hM
    rw [hc, if_pos hj] at hla
    obtain ⟨r1, r2, r3⟩ := pass_cases _ _ hla
    obtain ⟨s1, s2⟩ := h.ao _ _ _ hM
    have hs := (h.si.tms _ _ _ hM).2
    have hgt : ¬ (E.c j).d.at' ≤ clampv K'.mono := fun e => r3 ⟨s1, e⟩
    unfold AO
    rw [hc, if_pos hj, hKm]
    dsimp only
    rw [r1]
    unfold clampv at hgt
    refine ⟨⟨s1, ?_⟩, ?_⟩ <;> omega
  · rw [hKm]
    have := h.late _ _ _ hM
    omega
end
end Go.Proofs.YtlcaepcojglbiaaGreatDoor.Tp
namespace Go.Proofs.YtlcaepcojglbiaaGreatDoor.Tp
open Go.RowKit
set_option linter.unusedVariables false
set_option linter.unusedSimpArgs false
/-! Places: what each act does. -/
structure PL (n : Nat) (m : Int) (E : En) (M : GM) : Prop where
  ji : JI E M
  nn : E.n = n
  mm : E.K.mono = m
  g : E.K.gen ≤ 2 * m
def stepAdv : St := ⟨3, 0, 1, tm0⟩
def stepSet : St := ⟨12, 0, 0, tm0⟩
section
variable {n : Nat} {m : Int} {E E' : En} {M M' : GM} {s : St} {l o : List Fd} {x : Int}
theorem pl_new (n : Nat) (h16 : n ≤ 16) : PL n 0 (En.new n 1000) (fun _ => none) := ⟨ji_new n h16, rfl, rfl, by show (0 : Int) ≤ 2 * 0; omega⟩
theorem pl_start {k : Nat} {c : Nat} (h : PL n 0 E M) (hon : ∀ j, E.on j = decide (j < n)) (hdom : ∀ id x, M id = some x → id < (k : Nat)) (hwn : E.wn ≤ k) (hk : k < 60) (hkd : s.kind = 1) (hc : s.cpu = (c : Nat)) (hcn : c < n) (hid : s.t.id = (k : Nat)) (hcl : s.t.clock = 0) (hs : 0 ≤ s.t.soft ∧ s.t.soft ≤ 255) (hh : s.t.hard = s.t.soft) (hw : s.t.wf) (hd : DoR E M s l x E' M') :
    x = 0 ∧ PL n 0 E' M' ∧ (∀ j, E'.on j = decide (j < n)) ∧ (∀ id x, M' id = some x → id < ((k + 1 : Nat) : Int)) ∧ E'.wn ≤ k + 1 ∧ sof M' = fun (j : Int) => if j = (k : Nat) then some s.t.soft else sof M j := by
  have hg := h.g
  have hei := dor_ei h.ji.si.ei hw (by omega) hd
  have h16 := h.ji.si.n16
  have hn := h.nn
  have hMk : M (k : Nat) = none := by
    cases hx : M (k : Nat) with
    | none => rfl
    | some x => have := hdom _ _ hx; omega
  cases hd with
  | start_ok i _ hc' ho hb hM hn' =>
    have e : (Mset M s.t.id (some (i, s.t))) = Mset M (k : Nat) (some (i, s.t)) := by rw [hid]
    have hput : EI (E.put i s.t) (Mset M s.t.id (some (i, s.t))) := by
      unfold badT at hb
      simp only [Bool.or_eq_false_iff, decide_eq_false_iff_not] at hb
      exact ei_put h.ji.si.ei (h.ji.si.ei.onn i ho) ho hw ⟨by omega, by omega⟩ (by omega) hM hn'
    refine ⟨rfl, ⟨ji_start h.ji h.mm ho hcl hs hput, h.nn, h.mm, h.g⟩, hon, fun id x hx => ?_, ?_, ?_⟩
    · unfold Mset at hx
      split at hx
      · omega
      · have := hdom _ _ hx; omega
    · show (if (E.wh s.t.id).isSome then E.wn else E.wn + 1) ≤ k + 1
      split <;> omega
    · funext j
      unfold sof Mset
      rw [hid]
      split <;> rfl
  | start_no _ _ hno =>
    exfalso
    rcases hno with h1 | h1 | h1 | h1
    · unfold onI at h1
      rw [hc] at h1
      simp [hon] at h1
      omega
    · unfold badT at h1
      simp [hcl, hh] at h1
    · rw [hid, hMk] at h1; cases h1
    · omega
  | cancel_no hk' => omega
  | cancel_ok i t hk' hM => omega
  | adv_no hk' hb => omega
  | adv_ok hk' hb => omega
  | of_no x hk' => omega
  | irq i hk' hc ho hl => omega
  | soft i hk' hc ho hl => omega
  | kick i hk' hc ho hl => omega
  | offl i d hk' hc ho hl => omega
  | clk x K' hk' => omega
  | bring_no x hk' => omega
  | bring_ok i hk' hc hi ho => omega
  | settle _ _ _ hk' hs => omega
  | other hk' => omega
theorem pl_hot (h : PL n m E M) (hkd : s.kind = 10 ∨ s.kind = 11) (hw : s.t.wf) (hd : DoR E M s l x E' M') : PL n m E' M' ∧ sof M' = sof M := by
  cases hd with
  | start_ok i hk' hc' ho hb hM hn' => omega
  | start_no _ hk' hno => omega
  | cancel_no hk' => omega
  | cancel_ok i t hk' hM => omega
  | adv_no hk' hb => omega
  | adv_ok hk' hb => omega
  | of_no x hk' => exact ⟨h, rfl⟩
  | irq i hk' hc ho hl => omega
  | soft i hk' hc ho hl => omega
  | kick i hk' hc ho hl => omega
  | offl i d hk' hc ho hl =>
    obtain ⟨s1, s2⟩ := offl_same E i d
    refine ⟨⟨ji_offl h.ji ho hl, s1.trans h.nn, by rw [s2]; exact h.mm, by rw [s2]; exact h.g⟩, ?_⟩
    funext id
    unfold sof
    rw [moff_fn h.ji.si.ei (h.ji.si.ei.onn i ho)]
    cases M id with
    | none => rfl
    | some x =>
      simp only [Option.map_some, Option.some.injEq]
      split <;> rfl
  | clk x K' hk' => omega
  | bring_no x hk' => exact ⟨h, rfl⟩
  | bring_ok i hk' hc hi ho => exact ⟨⟨ji_brings h.ji hi ho, h.nn, h.mm, h.g⟩, rfl⟩
  | settle _ _ _ hk' hs => omega
  | other hk' => omega
theorem pl_adv (h : PL n m E M) (hm : m ≤ 299) (hd : DoR E M stepAdv l x E' M') : l = [] ∧ M' = M ∧ QI E' M ∧ E'.K.mono = m + 1 ∧ E'.n = n ∧ E'.K.gen ≤ 2 * m := by
  have hkd : stepAdv.kind = 3 := rfl
  have hm' := h.mm
  generalize hs : stepAdv = s at hd hkd
  cases hd with
  | start_ok i hk' hc' ho hb hM hn' => omega
  | start_no _ hk' hno => omega
  | cancel_no hk' => omega
  | cancel_ok i t hk' hM => omega
  | adv_no hk' hb =>
    subst hs
    have := (adv1 h.ji.si (by omega)).1
    have hb' : E.K.bad 1 = true := hb
    rw [this] at hb'
    cases hb'
  | adv_ok hk' hb =>
    subst hs
    obtain ⟨q1, q2⟩ := qi_adv h.ji (by omega)
    obtain ⟨p1, p2, -⟩ := passes_same (E.ckt (E.K.adv 1)) E.n
    refine ⟨rfl, rfl, q1, q2.trans (by rw [hm']), p1.trans h.nn, ?_⟩
    show ((E.ckt (E.K.adv 1)).passes E.n).K.gen ≤ 2 * m
    rw [p2]
    have hg := h.g
    show (E.K.adv 1).gen ≤ 2 * m
    unfold Ck.adv
    split
    · exact hg
    · split <;> exact hg
  | of_no x hk' => omega
  | irq i hk' hc ho hl => omega
  | soft i hk' hc ho hl => omega
  | kick i hk' hc ho hl => omega
  | offl i d hk' hc ho hl => omega
  | clk x K' hk' => omega
  | bring_no x hk' => omega
  | bring_ok i hk' hc hi ho => omega
  | settle _ _ _ hk' hs => omega
  | other hk' => omega
theorem pl_set (hd : DoR E M stepSet l x E' M') : Settle E M l E' M' := by
  have hkd : stepSet.kind = 12 := rfl
  generalize hs : stepSet = s at hd hkd
  cases hd with
  | start_ok i hk' hc' ho hb hM hn' => omega
  | start_no _ hk' hno => omega
  | cancel_no hk' => omega
  | cancel_ok i t hk' hM => omega
  | adv_no hk' hb => omega
  | adv_ok hk' hb => omega
  | of_no x hk' => omega
  | irq i hk' hc ho hl => omega
  | soft i hk' hc ho hl => omega
  | kick i hk' hc ho hl => omega
  | offl i d hk' hc ho hl => omega
  | clk x K' hk' => omega
  | bring_no x hk' => omega
  | bring_ok i hk' hc hi ho => omega
  | settle _ _ _ hk' hs => exact hs
  | other hk' => omega
theorem pl_tick (h : PL n m E M) (hm : m ≤ 299) (hr : RunR E M [stepAdv, stepSet] o E' M') : PL n (m + 1) E' M' ∧ Del (m + 1) o (sof M) (sof M') := by
  cases hr with
  | cons hd hr =>
    obtain ⟨rfl, rfl, q1, q2, q3, q4⟩ := pl_adv h hm hd
    cases hr with
    | cons hd2 hr =>
      have hs := pl_set hd2
      cases hr
      obtain ⟨j1, j2, j3⟩ := settle_q hs q1
      obtain ⟨e1, e2, e3, e4⟩ := settle_ei hs q1.si.ei
      rw [List.nil_append, List.append_nil]
      refine ⟨⟨j1, e3.trans q3, by rw [j3]; exact q2, by rw [j3]; omega⟩, ?_⟩
      rw [← q2]
      exact j2
theorem pl_end (h : PL n m E M) (hm : 256 ≤ m) : (∀ id, M id = none) ∧ E.wn = 0 := by
  have hN : ∀ id, M id = none := fun id => by
    cases hM : M id with
    | none => rfl
    | some x =>
      obtain ⟨i, t⟩ := x
      have h1 := h.ji.late _ _ _ hM
      have h2 := (h.ji.si.tms _ _ _ hM).2
      have h3 := h.mm
      omega
  refine ⟨hN, ?_⟩
  obtain ⟨ids, -, hl, hi⟩ := h.ji.si.ei.cnt
  rw [← hl]
  cases ids with
  | nil => rfl
  | cons a ids =>
    have := (hi a).1 (List.mem_cons_self ..)
    rw [h.ji.si.ei.wh, hN] at this
    cases this
end
end Go.Proofs.YtlcaepcojglbiaaGreatDoor.Tp
namespace Go.Proofs.YtlcaepcojglbiaaGreatDoor.Tp
open Go.RowKit Go.Maps
set_option linter.unusedVariables false
set_option linter.unusedSimpArgs false
/-! Places: the contracts that the walk takes. -/
abbrev fm := Int → Option Int
structure XR (A : EA) (sb n : Nat) (W : World) (q : Nat) (E : En) (f : fm) (w : World) : Prop where
  er : ER A E w
  n : E.n = n
  mv : ∃ c, MV 3 ki ki sb c f w ∧ c ≤ q
  bl : Below W.heap.size W w
section
variable {A : EA} {sb n q : Nat} {W w w1 : World} {E : En} {M : GM} {f : fm}
theorem xr_below (h : XR A sb n W q E f w) (hB : Below w.heap.size w w1) : XR A sb n W q E f w1 := by
  obtain ⟨c, hc, hq⟩ := h.mv
  exact ⟨er_below h.er hB, h.n, ⟨c, mv_same hc (hB.block sb (mv_lt hc)), hq⟩, h.bl.trans (hB.mono h.bl.size)⟩
theorem xr_drew (h : XR A sb n W q E f w) (m : Nat) : XR A sb n W q E f (w.drewN m) := by
  obtain ⟨c, hc, hq⟩ := h.mv
  exact ⟨er_same h.er (Nat.le_refl _) fun _ _ => rfl, h.n, ⟨c, mv_same hc rfl, hq⟩, ⟨h.bl.os, h.bl.tape, h.bl.output, h.bl.size, h.bl.block⟩⟩
theorem xr_up {q' : Nat} (h : XR A sb n W q E f w) (hq : q ≤ q') : XR A sb n W q' E f w := by
  obtain ⟨c, hc, hq1⟩ := h.mv
  exact ⟨h.er, h.n, ⟨c, hc, by omega⟩, h.bl⟩
theorem xr_sb (h : XR A sb n W q E f w) : sb < w.heap.size := by
  obtain ⟨c, hc, -⟩ := h.mv
  exact mv_lt hc
/-- The engine's call: the rest stays. -/
theorem xr_gf {E' : En} (hb : TB A n sb W) (h : XR A sb n W q E f w) (her : ER A E' w1) (hn : E'.n = n) (hgf : GF (A.has E.n) w w1) : XR A sb n W q E' f w1 := by
  obtain ⟨c, hc, hq⟩ := h.mv
  rw [h.n] at hgf
  exact ⟨her, hn, ⟨c, mv_same hc (hgf.block sb (mv_lt hc) hb.np), hq⟩, gf_zero h.bl hgf hb.lo (er_zero h.er her)⟩
/-- The map's own acts. -/
theorem xr_map {c : Nat} {f' : fm} (hb : TB A n sb W) (h : XR A sb n W q E f w) (hc : MV 3 ki ki sb c f' w1) (hq : c ≤ q) (g : G2 sb sb w w1) : XR A sb n W q E f' w1 := by
  have hB : Below W.heap.size W w1 := by
    refine ⟨g.os.trans h.bl.os, g.tape.trans h.bl.tape, g.output.trans h.bl.output, Nat.le_trans h.bl.size g.size, fun x hx => ?_⟩
    have := hb.pw
    exact (g.block x (Nat.lt_of_lt_of_le hx h.bl.size) (by omega) (by omega)).trans (h.bl.block x hx)
  refine ⟨er_same h.er g.size fun x hx => g.block x (er_lt h.er x hx) (fun e => ?_) (fun e => ?_), h.n, ⟨c, hc, hq⟩, hB⟩
  · rw [e, h.n] at hx; exact hb.np hx
  · rw [e, h.n] at hx; exact hb.np hx
theorem mv_zero {c : Nat} {f : fm} (h : MV 3 ki ki sb c f w) (hf : ∀ i, f i = none) : c = 0 := by
  obtain ⟨es, clock, -, hs, -, h1, -⟩ := h.ex
  rw [← hs]
  rcases Nat.eq_zero_or_pos es.size with h0 | h0
  · exact h0
  · obtain ⟨i, v, hi, -⟩ := h1 es[0] (Array.getElem_mem_toList h0)
    rw [hf] at hi
    cases hi
/-- A start. -/
structure XS (A : EA) (sb n : Nat) (W : World) (k : Nat) (E : En) (M : GM) (f : fm) (w : World) : Prop where
  xr : XR A sb n W k E f w
  pl : PL n 0 E M
  on : ∀ j, E.on j = decide (j < n)
  dom : ∀ id x, M id = some x → id < (k : Nat)
  wn : E.wn ≤ k
theorem xs_below {k : Nat} (h : XS A sb n W k E M f w) (hB : Below w.heap.size w w1) : XS A sb n W k E M f w1 := ⟨xr_below h.xr hB, h.pl, h.on, h.dom, h.wn⟩
theorem xs_drew {k : Nat} (h : XS A sb n W k E M f w) (m : Nat) : XS A sb n W k E M f (w.drewN m) := ⟨xr_drew h.xr m, h.pl, h.on, h.dom, h.wn⟩
/-- .. between the engine's start and the map's. -/
structure XT (A : EA) (sb n : Nat) (W : World) (k : Nat) (so : Int) (E : En) (M : GM) (f : fm) (w : World) : Prop where
  xr : XR A sb n W k E f w
  pl : PL n 0 E M
  on : ∀ j, E.on j = decide (j < n)
  dom : ∀ id x, M id = some x → id < ((k + 1 : Nat) : Int)
  wn : E.wn ≤ k + 1
  so : sof M = fun (j : Int) => if j = (k : Nat) then some so else f j
theorem xs_do {k c : Nat} (hb : TB A n sb W) (h : XS A sb n W k E M (sof M) w) (hk : k < 60) (hcn : c < n) (so : Int) (hs : 0 ≤ so ∧ so ≤ 255) (lz : Bool) :
    Calls Tryz.prog 7 #[ptr A.e, .agg #[.int .i64 1, .int .i64 (c : Nat), .int .i64 0, .int .i64 (k : Nat), .int .i64 0, .int .i64 so, .int .i64 so, .bool lz]] w fun e w' => ∃ v E' M', e = .returned (.tuple #[v, .int .i64 0]) ∧ XT A sb n W k so E' M' (sof M) w' ∧ (∀ x, x < w.heap.size → ¬ A.has n x → w'.heap[x]? = w.heap[x]?) := by
  have hw : (⟨(k : Nat), 0, so, so, lz⟩ : Tm).wf := ⟨by unfold i64; dsimp only; omega, by unfold i64; dsimp only; omega, by unfold i64; dsimp only; omega, by unfold i64; dsimp only; omega⟩
  have h16 := h.pl.ji.si.n16
  have hn := h.pl.nn
  have hsw : (⟨1, (c : Nat), 0, ⟨(k : Nat), 0, so, so, lz⟩⟩ : St).wf := ⟨by unfold i64; dsimp only; omega, by unfold i64; dsimp only; omega, by unfold i64; dsimp only; omega, hw⟩
  refine (edo_at ⟨1, (c : Nat), 0, ⟨(k : Nat), 0, so, so, lz⟩⟩ w h.xr.er h.pl.ji.si.ei hsw).mono ?_
  rintro e w' ⟨o, x, E', M', hd, ⟨v, rfl, -⟩, her, hgf⟩
  obtain ⟨rfl, p1, p2, p3, p4, p5⟩ := pl_start (s := ⟨1, (c : Nat), 0, ⟨(k : Nat), 0, so, so, lz⟩⟩) h.pl h.on h.dom h.wn hk rfl rfl hcn rfl rfl hs rfl hw hd
  refine ⟨v, E', M', rfl, ⟨xr_gf hb h.xr her p1.nn hgf, p1, p2, p3, p4, p5⟩, fun x hx hnx => hgf.block x hx (by rw [h.xr.n]; exact hnx)⟩
theorem xt_map {k c : Nat} {so : Int} {f' : fm} (hb : TB A n sb W) (h : XT A sb n W k so E M f w) (hc : MV 3 ki ki sb c f' w1) (hq : c ≤ k + 1) (hf : f' = fun (j : Int) => if j = (k : Nat) then some so else f j) (g : G2 sb sb w w1) : XS A sb n W (k + 1) E M (sof M) w1 := by
  refine ⟨?_, h.pl, h.on, h.dom, h.wn⟩
  rw [h.so, ← hf]
  exact xr_map hb (xr_up h.xr (by omega)) hc hq g
/-- Between ticks. -/
structure XU (A : EA) (sb n : Nat) (W : World) (m : Int) (E : En) (M : GM) (w : World) : Prop where
  xr : XR A sb n W 60 E (sof M) w
  pl : PL n m E M
theorem xu_below {m : Int} (h : XU A sb n W m E M w) (hB : Below w.heap.size w w1) : XU A sb n W m E M w1 := ⟨xr_below h.xr hB, h.pl⟩
theorem xu_drew {m : Int} (h : XU A sb n W m E M w) (k : Nat) : XU A sb n W m E M (w.drewN k) := ⟨xr_drew h.xr k, h.pl⟩
theorem xu_of {k : Nat} (h : XS A sb n W k E M (sof M) w) (hk : k ≤ 60) : XU A sb n W 0 E M w := ⟨xr_up h.xr hk, h.pl⟩
/-- A processor comes or goes. -/
theorem xu_hot {m : Int} (hb : TB A n sb W) (h : XU A sb n W m E M w) (hm : m ≤ 300) (kd c : Int) (hkd : kd = 10 ∨ kd = 11) (hc : 0 ≤ c ∧ c ≤ 255) :
    Calls Tryz.prog 7 #[ptr A.e, .agg #[.int .i64 kd, .int .i64 c, .int .i64 0, .int .i64 0, .int .i64 0, .int .i64 0, .int .i64 0, .bool false]] w fun e w' => ∃ v E' M', e = .returned v ∧ XU A sb n W m E' M' w' := by
  have hsw : (⟨kd, c, 0, tm0⟩ : St).wf := ⟨by unfold i64; dsimp only; omega, by unfold i64; dsimp only; omega, by unfold i64; dsimp only; omega, wf0⟩
  refine (edo_at ⟨kd, c, 0, tm0⟩ w h.xr.er h.pl.ji.si.ei hsw).mono ?_
  rintro e w' ⟨o, x, E', M', hd, ⟨v, rfl, -⟩, her, hgf⟩
  obtain ⟨p1, p2⟩ := pl_hot (s := ⟨kd, c, 0, tm0⟩) h.pl hkd wf0 hd
  refine ⟨_, E', M', rfl, ⟨?_, p1⟩⟩
  rw [p2]
  exact xr_gf hb h.xr her p1.nn hgf
abbrev rowc2 : Array Value := #[.int .i64 3, .int .i64 0, .int .i64 1, .int .i64 0, .int .i64 0, .int .i64 0, .int .i64 0, .bool false, .int .i64 12, .int .i64 0, .int .i64 0, .int .i64 0, .int .i64 0, .int .i64 0, .int .i64 0, .bool false]
theorem row_sr2 {b : Nat} {W : World} (h : W.heap[b]? = some (.cells rowc2 33)) : SR b [stepAdv, stepSet] W := by
  refine ⟨fun k s hk => ?_, (Array.getElem?_eq_some_iff.1 h).1⟩
  rcases k with _ | _ | k
  · obtain rfl : stepAdv = s := by simpa using hk
    exact ⟨(cell_of h 0 _ rfl).1, (cell_of h 1 _ rfl).1, (cell_of h 2 _ rfl).1, (cell_of h 3 _ rfl).1, (cell_of h 4 _ rfl).1, (cell_of h 5 _ rfl).1, (cell_of h 6 _ rfl).1, (cell_of h 7 _ rfl).1⟩
  · obtain rfl : stepSet = s := by simpa using hk
    exact ⟨(cell_of h 8 _ rfl).1, (cell_of h 9 _ rfl).1, (cell_of h 10 _ rfl).1, (cell_of h 11 _ rfl).1, (cell_of h 12 _ rfl).1, (cell_of h 13 _ rfl).1, (cell_of h 14 _ rfl).1, (cell_of h 15 _ rfl).1⟩
  · simp at hk
theorem w_adv : stepAdv.wf := ⟨by unfold i64; decide, by unfold i64; decide, by unfold i64; decide, wf0⟩
theorem w_set : stepSet.wf := ⟨by unfold i64; decide, by unfold i64; decide, by unfold i64; decide, wf0⟩
/-- While what fired is looked at. -/
structure XF (A : EA) (sb n : Nat) (W : World) (m : Int) (fb : Nat) (v : Value) (o : List Fd) (k : Nat) (E : En) (M : GM) (w : World) : Prop where
  xr : ∃ f, XR A sb n W 60 E f w ∧ Del m (o.drop k) f (sof M)
  pl : PL n m E M
  ft : FT fb v o w
  fb : sb < fb
theorem xu_run {m : Int} (hb : TB A n sb W) (h : XU A sb n W m E M w) (hm : m ≤ 299) (cap : Nat) : Calls Tryz.prog 10 #[ptr A.e, .slice (some ⟨w.heap.size, 0, none⟩) 2 cap] (w.alloc (.cells rowc2 33)) fun e w' => ∃ p k c E' M' o, e = .returned (.slice p k c) ∧ k ≤ 128 ∧ o.length = k ∧ XF A sb n W (m + 1) (w.heap.size + 1) (.slice p k c) o 0 E' M' w' := by
  have hB := (Below.refl w.heap.size w).alloc (Nat.le_refl _) (.cells rowc2 33)
  have h1 := xu_below h hB
  have hg := h.pl.g
  have hsz : (w.alloc (.cells rowc2 33)).heap.size = w.heap.size + 1 := by simp
  refine (erun_at (b := w.heap.size) (cap := cap) [stepAdv, stepSet] (w.alloc (.cells rowc2 33)) h1.xr.er h1.pl.ji.si.ei (row_sr2 (heap_alloc_new w _)) (fun e => ?_) ?_ (by simp) (by omega)).mono ?_
  · have := er_lt h.xr.er _ e
    omega
  · intro s hs
    simp only [List.mem_cons, List.not_mem_nil, or_false] at hs
    rcases hs with rfl | rfl
    · exact w_adv
    · exact w_set
  · rintro e w' ⟨o, E', M', hR, ⟨v, rfl, hf⟩, her, hgf, -, hn, hl, -⟩
    obtain ⟨p1, p2⟩ := pl_tick h.pl hm hR
    obtain ⟨p, k, c, rfl⟩ := own_slice hf
    have hk := own_len hf
    refine ⟨p, k, c, E', M', o, rfl, by rw [hk]; simpa using hl, hk.symm, ⟨⟨sof M, xr_gf hb h1.xr her p1.nn hgf, p2⟩, p1, by rw [← hsz]; exact hf, by have := xr_sb h.xr; omega⟩⟩
section
variable {m : Int} {fb k : Nat} {v : Value} {o : List Fd}
theorem xf_below (h : XF A sb n W m fb v o k E M w) (hB : Below w.heap.size w w1) : XF A sb n W m fb v o k E M w1 := by
  obtain ⟨f, h1, h2⟩ := h.xr
  exact ⟨⟨f, xr_below h1 hB, h2⟩, h.pl, ft_below h.ft hB, h.fb⟩
theorem xf_drew (h : XF A sb n W m fb v o k E M w) (j : Nat) : XF A sb n W m fb v o k E M (w.drewN j) := by
  obtain ⟨f, h1, h2⟩ := h.xr
  exact ⟨⟨f, xr_drew h1 j, h2⟩, h.pl, ft_same h.ft fun _ _ => rfl, h.fb⟩
theorem xf_end (h : XF A sb n W m fb v o k E M w) (hk : k = o.length) : XU A sb n W m E M w := by
  obtain ⟨f, h1, h2⟩ := h.xr
  rw [hk, List.drop_length] at h2
  obtain rfl : f = sof M := h2
  exact ⟨h1, h.pl⟩
theorem fdcs_get {X : List Fd} {k : Nat} {t : Fd} (h : X[k]? = some t) (j : Nat) (hj : j < 5) : (fdcs X)[5 * k + j]? = (fdc t)[j]? := by
  induction X generalizing k with
  | nil => cases h
  | cons a X ih =>
    have e : fdcs (a :: X) = fdc a ++ fdcs X := by simp [fdcs]
    have hl : (fdc a).length = 5 := rfl
    rw [e]
    cases k with
    | zero =>
      obtain rfl : a = t := by simpa using h
      rw [List.getElem?_append_left (by omega)]
      simp
    | succ k =>
      rw [List.getElem?_append_right (by omega), hl, show 5 * (k + 1) + j - 5 = 5 * k + j by omega]
      exact ih (by simpa using h)
/-- The fired one at k. -/
theorem xf_at (h : XF A sb n W m fb v o k E M w) {p : Option Addr} {l c : Nat} (hv : v = .slice p l c) (hk : k < o.length) : ∃ gb x, p = some ⟨gb, 0, none⟩ ∧ o[k]? = some x ∧ w.cell? ⟨gb, k * 5, none⟩ = some (.int .i64 x.id) ∧ w.cell? ⟨gb, k * 5 + 1, none⟩ = some (.int .i64 x.clock) ∧ w.cell? ⟨gb, k * 5 + 2, none⟩ = some (.int .i64 x.cpu) ∧ w.cell? ⟨gb, k * 5 + 3, none⟩ = some (.int .i64 x.mono) ∧ w.cell? ⟨gb, k * 5 + 4, none⟩ = some (.int .i64 x.read) := by
  subst hv
  have hx : o[k]? = some o[k] := List.getElem?_eq_getElem hk
  have hg : ∀ j u, (fdc o[k])[j]? = some u → j < 5 → (fdcs o)[5 * k + j]? = some u := fun j u hj h5 => (fdcs_get hx j h5).trans hj
  rcases h.ft.2 with ⟨e1, e2⟩ | ⟨gb, cap, cur, e, hb, hgb, hrest⟩
  · have : (fdcs o).length = 0 := by
      have := e2
      omega
    omega
  · cases e
    have hc := World.ownsRow.cells (g := gb) h.ft rfl
    have hz : ∀ j u, (fdc o[k])[j]? = some u → j < 5 → w.cell? ⟨gb, k * 5 + j, none⟩ = some u := fun j u hj h5 => by
      have := hc (5 * k + j) u (hg j u hj h5)
      rw [Go.WideShapes.add_plain] at this
      rw [show k * 5 + j = 0 + (5 * k + j) by omega]
      exact this
    exact ⟨gb, o[k], rfl, hx, hz 0 _ rfl (by omega), hz 1 _ rfl (by omega), hz 2 _ rfl (by omega), hz 3 _ rfl (by omega), hz 4 _ rfl (by omega)⟩
/-- .. is in the map, in time. -/
theorem xf_map (h : XF A sb n W m fb v o k E M w) {x : Fd} (hx : o[k]? = some x) : ∃ f c s, MV 3 ki ki sb c f w ∧ (∃ l, keyOf Tryz.prog 3 (ki x.id) = some l) ∧ f x.id = some s ∧ s ≤ m ∧ m ≤ max s 1 + 3 ∧
    ∀ w1 c', MV 3 ki ki sb c' (fun j => if j = x.id then none else f j) w1 → c' ≤ c → G2 sb sb w w1 → TB A n sb W → XF A sb n W m fb v o (k + 1) E M w1 := by
  obtain ⟨f, h1, h2⟩ := h.xr
  have hk := (List.getElem?_eq_some_iff.1 hx).1
  rw [List.drop_eq_getElem_cons hk, (List.getElem?_eq_some_iff.1 hx).2] at h2
  obtain ⟨s, a1, a2, a3, a4⟩ := h2
  obtain ⟨c, hc, hq⟩ := h1.mv
  have hkey : ∃ l, keyOf Tryz.prog 3 (ki x.id) = some l := by
    obtain ⟨es, clock, -, -, -, k1, k2⟩ := hc.ex
    obtain ⟨y, hy, hyk, -⟩ := k2 _ _ a1
    obtain ⟨i', v', -, hk', -, l, hl⟩ := k1 y hy
    exact ⟨l, by rw [← hyk, hk']; exact hl⟩
  refine ⟨f, c, s, hc, hkey, a1, a2, a3, fun w1 c' hm hc' g hb => ⟨⟨_, xr_map hb h1 hm (by omega) g, a4⟩, h.pl, ft_same h.ft fun j hj => ?_, h.fb⟩⟩
  have hl := ft_lt h.ft j hj
  have := h.fb
  exact g.block j hl.2 (by omega) (by omega)
end
end
end Go.Proofs.YtlcaepcojglbiaaGreatDoor.Tp
