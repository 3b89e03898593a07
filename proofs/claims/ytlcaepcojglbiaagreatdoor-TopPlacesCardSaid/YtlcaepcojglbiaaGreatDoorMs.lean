/- The engine: what holds between its acts: a part of the walk of the whole machine. For all states that the readings allow. -/
import Derived.Test.YtlcaepcojglbiaaGreatDoorMr
namespace Go.Proofs.YtlcaepcojglbiaaGreatDoor.Tp
open Go.RowKit
set_option linter.unusedVariables false
set_option linter.unusedSimpArgs false
/-! What a state of the engine keeps, in plain words: a table M tells of each ID the processor and the timer. -/
def CW (wh : Int → Option Nat) (wn : Nat) : Prop := ∃ ids : List Int, ids.Nodup ∧ ids.length = wn ∧ ∀ id, id ∈ ids ↔ (wh id).isSome = true
def slo (s t : Tm) : Prop := clampv s.soft ≤ clampv t.soft
structure EI (E : En) (M : Int → Option (Nat × Tm)) : Prop where
  ck : E.K.ok
  mem : ∀ i, i < E.n → ∀ q, q < 6 → ∀ t, t ∈ (E.c i).b q ↔ (M t.id = some (i, t) ∧ sel t = q)
  dom : ∀ id i t, M id = some (i, t) → t.id = id ∧ i < E.n ∧ E.on i = true ∧ t.wf ∧ (0 ≤ t.clock ∧ t.clock < 3) ∧ t.soft ≤ t.hard
  wh : ∀ id, E.wh id = (M id).map Prod.fst
  nd : ∀ i, i < E.n → ∀ q, q < 6 → (((E.c i).b q).map Tm.id).Nodup
  srt : ∀ i, i < E.n → ∀ q, q < 6 → ((E.c i).b q).Pairwise slo
  cnt : CW E.wh E.wn
  wn : E.wn ≤ 64
  onn : ∀ i, E.on i = true → i < E.n
theorem nodup_len {α : Type} [DecidableEq α] : ∀ (l m : List α), l.Nodup → (∀ x ∈ l, x ∈ m) → l.length ≤ m.length
  | [], _, _, _ => Nat.zero_le _
  | a :: l, m, h, hs => by
    have h2 := List.nodup_cons.1 h
    have ih := nodup_len l (m.erase a) h2.2 fun x hx => (List.mem_erase_of_ne (fun (e : x = a) => h2.1 (e ▸ hx))).2 (hs x (List.mem_cons_of_mem _ hx))
    have hm := hs a (List.mem_cons_self ..)
    have hl := List.length_erase_of_mem hm
    have hp := List.length_pos_of_mem hm
    simp only [List.length_cons]
    omega
theorem sel_lt {t : Tm} (h : 0 ≤ t.clock ∧ t.clock < 3) : sel t < 6 := by
  unfold sel
  split <;> omega
theorem sel_mod (t : Tm) : sel t % 2 = if t.lazy = true then 1 else 0 := by
  unfold sel
  split <;> omega
theorem sel_div (t : Tm) : sel t / 2 = t.clock.toNat := by
  unfold sel
  split <;> omega
section
variable {E : En} {M : Int → Option (Nat × Tm)}
theorem ei_some (h : EI E M) {i q : Nat} {t : Tm} (hi : i < E.n) (hq : q < 6) (ht : t ∈ (E.c i).b q) : M t.id = some (i, t) ∧ sel t = q := (h.mem i hi q hq t).1 ht
theorem ei_len (h : EI E M) {i q : Nat} (hi : i < E.n) (hq : q < 6) : ((E.c i).b q).length ≤ E.wn := by
  obtain ⟨ids, h1, h2, h3⟩ := h.cnt
  have := nodup_len _ ids (h.nd i hi q hq) fun x hx => by
    obtain ⟨t, ht, rfl⟩ := List.mem_map.1 hx
    rw [h3, h.wh, (ei_some h hi hq ht).1]
    rfl
  rw [List.length_map] at this
  omega
theorem ei_setc (h : EI E M) {i : Nat} {c : Cp} (hb : c.b = (E.c i).b) : EI (E.setc i c) M := by
  have e : ∀ j, ((E.setc i c).c j).b = (E.c j).b := fun j => by
    show (if j = i then c else E.c j).b = _
    by_cases hj : j = i
    · rw [if_pos hj, hj]; exact hb
    · rw [if_neg hj]
  exact ⟨h.ck, fun j hj q hq t => by rw [e]; exact h.mem j hj q hq t, h.dom, h.wh, fun j hj q hq => by rw [e]; exact h.nd j hj q hq, fun j hj q hq => by rw [e]; exact h.srt j hj q hq, h.cnt, h.wn, h.onn⟩
theorem ei_look (h : EI E M) (i : Nat) : EI (E.look i) M := ei_setc h rfl
theorem ei_raise (h : EI E M) (i : Nat) (v : Bool) : EI (E.raise i v) M := ei_setc h rfl
theorem ei_unlatch (h : EI E M) (i : Nat) : EI (E.unlatch i) M := ei_setc h rfl
theorem ei_kick (h : EI E M) (i : Nat) : EI (E.kick i) M := ei_look (ei_setc (i := i) (c := { E.c i with kicked := false }) h rfl) i
theorem ei_wf (h : EI E M) {i q : Nat} {t : Tm} (hi : i < E.n) (hq : q < 6) (ht : t ∈ (E.c i).b q) : t.wf ∧ 0 ≤ t.clock ∧ t.clock < 3 := by
  obtain ⟨-, -, -, h1, ⟨h2, h3⟩, -⟩ := h.dom _ _ _ (ei_some h hi hq ht).1
  exact ⟨h1, h2, h3⟩
/-! What is taken off the head of a queue is what is due. -/
theorem tw_filter {p : Tm → Bool} : ∀ (L : List Tm), L.Pairwise (fun s t => p t = true → p s = true) → L.takeWhile p = L.filter p ∧ L.dropWhile p = L.filter (fun t => !p t)
  | [], _ => ⟨rfl, rfl⟩
  | a :: L, h => by
    have h2 := List.pairwise_cons.1 h
    have ih := tw_filter L h2.2
    cases hp : p a with
    | true => simp [List.takeWhile_cons, List.dropWhile_cons, List.filter_cons, hp, ih.1, ih.2]
    | false =>
      have hn : ∀ t ∈ L, p t = false := fun t ht => by
        cases e : p t with
        | false => rfl
        | true => have := h2.1 t ht e; rw [hp] at this; cases this
      have h1 : L.filter p = [] := List.filter_eq_nil_iff.2 fun t ht => by rw [hn t ht]; decide
      have h3 : L.filter (fun t => !p t) = L := List.filter_eq_self.2 fun t ht => by rw [hn t ht]; rfl
      simp [List.takeWhile_cons, List.dropWhile_cons, List.filter_cons, hp, h1, h3]
theorem due_mono {s t : Tm} {x : Int} (h : slo s t) (hd : isDue t x = true) : isDue s x = true := by
  unfold isDue at *
  unfold slo at h
  simp only [Bool.and_eq_true, Bool.not_eq_true', decide_eq_false_iff_not, decide_eq_true_eq] at *
  obtain ⟨h1, h2⟩ := hd
  unfold clampv at *
  omega
def isel (s : Bool) : Nat := if s = true then 1 else 0
theorem exq_eq {b : Nat → List Tm} {s : Bool} {of : Nat → Int} {q : Nat} (hs : (b q).Pairwise slo) : exq b s of q = if q % 2 = isel s then (b q).filter (fun t => isDue t (of (q / 2))) else [] := by
  unfold exq isel
  by_cases h : q % 2 = (if s = true then 1 else 0)
  · rw [if_pos h, if_pos h]
    exact (tw_filter _ (hs.imp fun h' hd => due_mono h' hd)).1
  · rw [if_neg h, if_neg h]
theorem exr_eq {b : Nat → List Tm} {s : Bool} {of : Nat → Int} {q : Nat} (hs : (b q).Pairwise slo) : exr b s of q = if q % 2 = isel s then (b q).filter (fun t => !isDue t (of (q / 2))) else b q := by
  unfold exr isel
  by_cases h : q % 2 = (if s = true then 1 else 0)
  · rw [if_pos h, if_pos h]
    exact (tw_filter _ (hs.imp fun h' hd => due_mono h' hd)).2
  · rw [if_neg h, if_neg h]
theorem exn_mem {b : Nat → List Tm} {s : Bool} {of : Nat → Int} {t : Tm} : ∀ n, t ∈ exn b s of n ↔ ∃ q, q < n ∧ t ∈ exq b s of q
  | 0 => by
    constructor
    · intro h; cases h
    · rintro ⟨q, h, -⟩; omega
  | n + 1 => by
    show t ∈ exn b s of n ++ exq b s of n ↔ _
    rw [List.mem_append, exn_mem n]
    constructor
    · rintro (⟨q, h1, h2⟩ | h)
      · exact ⟨q, by omega, h2⟩
      · exact ⟨n, by omega, h⟩
    · rintro ⟨q, h1, h2⟩
      by_cases e : q = n
      · exact .inr (e ▸ h2)
      · exact .inl ⟨q, by omega, h2⟩
/-- Is it taken by a call of fire? -/
def fires (K : Ck) (i : Nat) (s : Bool) (j : Nat) (t : Tm) : Bool := decide (j = i) && (t.lazy == s) && isDue t (K.tm t.clock.toNat)
def Mfire (K : Ck) (M : Int → Option (Nat × Tm)) (i : Nat) (s : Bool) : Int → Option (Nat × Tm) := fun id => (M id).filter fun x => !fires K i s x.1 x.2
theorem lazy_sel {t : Tm} {s : Bool} : (sel t % 2 = isel s) ↔ t.lazy = s := by
  rw [sel_mod]
  unfold isel
  cases t.lazy <;> cases s <;> simp
theorem exp_mem (h : EI E M) {i : Nat} {s : Bool} (hi : i < E.n) {t : Tm} : t ∈ E.exp i s ↔ M t.id = some (i, t) ∧ fires E.K i s i t = true := by
  unfold En.exp
  rw [exn_mem]
  constructor
  · rintro ⟨q, hq, ht⟩
    rw [exq_eq (h.srt i hi q hq)] at ht
    by_cases hs : q % 2 = isel s
    · rw [if_pos hs] at ht
      obtain ⟨h1, h2⟩ := List.mem_filter.1 ht
      obtain ⟨h3, rfl⟩ := ei_some h hi hq h1
      refine ⟨h3, ?_⟩
      unfold fires
      rw [← sel_div, h2, lazy_sel.1 hs]
      simp
    · rw [if_neg hs] at ht
      cases ht
  · rintro ⟨h1, h2⟩
    unfold fires at h2
    simp only [Bool.and_eq_true, decide_eq_true_eq, beq_iff_eq] at h2
    obtain ⟨⟨-, h2⟩, h3⟩ := h2
    obtain ⟨-, -, -, -, hc, -⟩ := h.dom _ _ _ h1
    refine ⟨sel t, sel_lt hc, ?_⟩
    rw [exq_eq (h.srt i hi _ (sel_lt hc)), if_pos (lazy_sel.2 h2)]
    exact List.mem_filter.2 ⟨(h.mem i hi _ (sel_lt hc) t).2 ⟨h1, rfl⟩, by rw [sel_div]; exact h3⟩
theorem exp_wf (h : EI E M) {i : Nat} {s : Bool} (hi : i < E.n) : ∀ t ∈ E.exp i s, t.wf ∧ 0 ≤ t.clock ∧ t.clock < 3 := fun t ht => by
  obtain ⟨-, -, -, h1, ⟨h2, h3⟩, -⟩ := h.dom _ _ _ ((exp_mem h hi).1 ht).1
  exact ⟨h1, h2, h3⟩
theorem cw_del {wh : Int → Option Nat} {wn : Nat} (h : CW wh wn) (x : Int) : CW (fun j => if j = x then none else wh j) (if (wh x).isSome then wn - 1 else wn) := by
  obtain ⟨ids, h1, h2, h3⟩ := h
  cases hx : (wh x).isSome with
  | true =>
    refine ⟨ids.erase x, h1.erase x, ?_, fun id => ?_⟩
    · rw [List.length_erase_of_mem ((h3 x).2 hx), h2]; rfl
    · rw [List.Nodup.mem_erase_iff h1, h3]
      by_cases e : id = x
      · simp [e]
      · simp [e]
  | false =>
    refine ⟨ids, h1, h2, fun id => ?_⟩
    rw [h3]
    by_cases e : id = x
    · simp [e, hx]
    · simp [e]
theorem cw_wdel : ∀ (X : List Tm) {wh : Int → Option Nat} {wn : Nat}, CW wh wn → CW (wdel wh wn X).1 (wdel wh wn X).2
  | [], _, _, h => h
  | t :: X, _, _, h => cw_wdel X (cw_del h t.id)
theorem wdel_le : ∀ (X : List Tm) (wh : Int → Option Nat) (wn : Nat), (wdel wh wn X).2 ≤ wn
  | [], _, _ => Nat.le_refl _
  | t :: X, wh, wn => by
    refine Nat.le_trans (wdel_le X _ _) ?_
    split <;> omega
theorem wdel_fn : ∀ (X : List Tm) (wh : Int → Option Nat) (wn : Nat) (id : Int), (wdel wh wn X).1 id = if (∃ t ∈ X, t.id = id) then none else wh id
  | [], wh, wn, id => by
    rw [if_neg (by rintro ⟨t, h, -⟩; cases h)]
    rfl
  | t :: X, wh, wn, id => by
    show (wdel _ _ X).1 id = _
    rw [wdel_fn X]
    by_cases h : ∃ t ∈ X, t.id = id
    · obtain ⟨u, h1, h2⟩ := h
      rw [if_pos ⟨u, h1, h2⟩, if_pos ⟨u, List.mem_cons_of_mem _ h1, h2⟩]
    · rw [if_neg h]
      by_cases e : id = t.id
      · rw [if_pos e, if_pos ⟨t, List.mem_cons_self .., e.symm⟩]
      · rw [if_neg e, if_neg]
        rintro ⟨u, h1, h2⟩
        rcases List.mem_cons.1 h1 with rfl | h1
        · exact e h2.symm
        · exact h ⟨u, h1, h2⟩
theorem mfire_some {K : Ck} {i : Nat} {s : Bool} {id : Int} {x : Nat × Tm} : Mfire K M i s id = some x ↔ M id = some x ∧ fires K i s x.1 x.2 = false := by
  unfold Mfire
  rw [Option.filter_eq_some_iff]
  simp
theorem ei_fired (h : EI E M) {i : Nat} (hi : i < E.n) (s : Bool) : EI (E.fired i s) (Mfire E.K M i s) := by
  have hc : ∀ j, ((E.fired i s).c j).b = if j = i then exb (E.c i).b s E.K.tm 6 else (E.c j).b := fun j => by
    show (if j = i then _ else E.c j).b = _
    by_cases e : j = i
    · rw [if_pos e, if_pos e]
    · rw [if_neg e, if_neg e]
  have hx : ∀ q, q < 6 → exb (E.c i).b s E.K.tm 6 q = if q % 2 = isel s then ((E.c i).b q).filter (fun t => !isDue t (E.K.tm (q / 2))) else (E.c i).b q := fun q hq => by
    unfold exb
    rw [if_pos hq]
    exact exr_eq (h.srt i hi q hq)
  have hsub : ∀ q, q < 6 → (exb (E.c i).b s E.K.tm 6 q).Sublist ((E.c i).b q) := fun q hq => by
    rw [hx q hq]
    split
    · exact List.filter_sublist
    · exact List.Sublist.refl _
  refine ⟨h.ck, fun j hj q hq t => ?_, fun id j t ht => h.dom id j t (mfire_some.1 ht).1, fun id => ?_, fun j hj q hq => ?_, fun j hj q hq => ?_, cw_wdel _ h.cnt, Nat.le_trans (wdel_le _ _ _) h.wn, h.onn⟩
  · rw [hc, mfire_some]
    by_cases e : j = i
    · subst e
      rw [if_pos rfl, hx q hq]
      have hm := h.mem j hj q hq t
      have hf : fires E.K j s j t = ((t.lazy == s) && isDue t (E.K.tm t.clock.toNat)) := by unfold fires; simp
      by_cases hs : q % 2 = isel s
      · rw [if_pos hs, List.mem_filter, hm]
        dsimp only
        rw [hf]
        constructor
        · rintro ⟨⟨h1, h2⟩, h3⟩
          subst h2
          rw [sel_div] at h3
          exact ⟨⟨h1, by simpa using fun _ => h3⟩, rfl⟩
        · rintro ⟨⟨h1, h2⟩, h3⟩
          subst h3
          have := lazy_sel.1 hs
          refine ⟨⟨h1, rfl⟩, ?_⟩
          rw [sel_div]
          simpa [this] using h2
      · rw [if_neg hs, hm]
        dsimp only
        rw [hf]
        constructor
        · rintro ⟨h1, h2⟩
          subst h2
          have : ¬ t.lazy = s := fun e => hs (lazy_sel.2 e)
          exact ⟨⟨h1, by simp [this]⟩, rfl⟩
        · rintro ⟨⟨h1, h2⟩, h3⟩
          exact ⟨h1, h3⟩
    · rw [if_neg e, h.mem j hj q hq t]
      have hf : fires E.K i s j t = false := by unfold fires; simp [e]
      dsimp only
      rw [hf]
      simp
  · show (wdel E.wh E.wn (E.exp i s)).1 id = _
    rw [wdel_fn]
    by_cases hx : ∃ t ∈ E.exp i s, t.id = id
    · rw [if_pos hx]
      obtain ⟨t, ht, rfl⟩ := hx
      obtain ⟨h1, h2⟩ := (exp_mem h hi).1 ht
      unfold Mfire
      rw [h1]
      simp [Option.filter, h2]
    · rw [if_neg hx, h.wh]
      cases hM : M id with
      | none => unfold Mfire; rw [hM]; rfl
      | some x =>
        obtain ⟨j, t⟩ := x
        have hd := (h.dom _ _ _ hM).1
        have hf : fires E.K i s j t = false := by
          cases e : fires E.K i s j t with
          | false => rfl
          | true =>
            have hj : j = i := by
              unfold fires at e
              simp only [Bool.and_eq_true, decide_eq_true_eq] at e
              exact e.1.1
            subst hj
            exact absurd ⟨t, (exp_mem h hi).2 ⟨by rw [hd]; exact hM, e⟩, hd⟩ hx
        rw [mfire_some.2 ⟨hM, hf⟩]
  · rw [hc]
    split
    · exact ((hsub q hq).map _).nodup (h.nd i hi q hq)
    · exact h.nd j hj q hq
  · rw [hc]
    split
    · exact (h.srt i hi q hq).sublist (hsub q hq)
    · exact h.srt j hj q hq
end
end Go.Proofs.YtlcaepcojglbiaaGreatDoor.Tp
namespace Go.Proofs.YtlcaepcojglbiaaGreatDoor.Tp
open Go.RowKit
set_option linter.unusedVariables false
set_option linter.unusedSimpArgs false
/-! Timers that come and go. -/
def En.take (E : En) (i : Nat) (t : Tm) : En := E.setc i { E.c i with b := bset (E.c i).b (sel t) (qdel t.id ((E.c i).b (sel t))) }
def En.cancl (E : En) (i : Nat) (t : Tm) : En := { E.take i t with wh := fun j => if j = t.id then none else E.wh j, wn := if (E.wh t.id).isSome then E.wn - 1 else E.wn }
def En.put (E : En) (i : Nat) (t : Tm) : En := { E.setc i { E.c i with b := bset (E.c i).b (sel t) (qins t ((E.c i).b (sel t))) } with wh := fun j => if j = t.id then some i else E.wh j, wn := if (E.wh t.id).isSome then E.wn else E.wn + 1 }
def En.move (E : En) (i dst : Nat) (t : Tm) : En := (E.take i t).put dst t
def Mset (M : Int → Option (Nat × Tm)) (id : Int) (x : Option (Nat × Tm)) : Int → Option (Nat × Tm) := fun j => if j = id then x else M j
theorem qins_mem {t u : Tm} {L : List Tm} : u ∈ qins t L ↔ u = t ∨ u ∈ L := by
  unfold qins
  rw [List.mem_append, List.mem_cons, List.mem_filter, List.mem_filter]
  cases h : decide (clampv u.soft ≤ clampv t.soft) <;> simp [h] <;> constructor <;> (rintro (h | h) <;> simp [h])
theorem qins_srt {t : Tm} {L : List Tm} (h : L.Pairwise slo) : (qins t L).Pairwise slo := by
  unfold qins
  rw [List.pairwise_append]
  refine ⟨h.sublist List.filter_sublist, List.pairwise_cons.2 ⟨fun u hu => ?_, h.sublist List.filter_sublist⟩, fun a ha u hu => ?_⟩
  · have := (List.mem_filter.1 hu).2
    simp at this
    unfold slo
    omega
  · have h1 := (List.mem_filter.1 ha).2
    simp at h1
    rcases List.mem_cons.1 hu with rfl | hu
    · exact h1
    · have h2 := (List.mem_filter.1 hu).2
      simp at h2
      unfold slo
      omega
theorem qins_nd {t : Tm} {L : List Tm} (h : (L.map Tm.id).Nodup) (hn : ∀ u ∈ L, u.id ≠ t.id) : ((qins t L).map Tm.id).Nodup := by
  rw [List.Nodup, List.pairwise_map] at *
  unfold qins
  rw [List.pairwise_append]
  refine ⟨h.sublist List.filter_sublist, List.pairwise_cons.2 ⟨fun u hu => (hn u (List.mem_filter.1 hu).1).symm, h.sublist List.filter_sublist⟩, fun a ha u hu => ?_⟩
  have ha' := (List.mem_filter.1 ha)
  rcases List.mem_cons.1 hu with rfl | hu
  · exact hn a ha'.1
  · have hu' := (List.mem_filter.1 hu)
    intro e
    have hau : a = u := by
      rcases Classical.em (a = u) with e2 | e2
      · exact e2
      · exfalso
        obtain ⟨i, hi, ei⟩ := List.getElem_of_mem ha'.1
        obtain ⟨j, hj, ej⟩ := List.getElem_of_mem hu'.1
        rw [List.pairwise_iff_getElem] at h
        rcases Nat.lt_trichotomy i j with g | g | g
        · exact h i j hi hj g (by rw [ei, ej]; exact e)
        · subst g; exact e2 (ei.symm.trans ej)
        · exact h j i hj hi g (by rw [ei, ej]; exact e.symm)
    subst hau
    have h1 := ha'.2
    have h2 := hu'.2
    rw [h1] at h2
    cases h2
section
variable {E : En} {M : Int → Option (Nat × Tm)}
theorem cw_put {wh : Int → Option Nat} {wn : Nat} (h : CW wh wn) (x : Int) (i : Nat) : CW (fun j => if j = x then some i else wh j) (if (wh x).isSome then wn else wn + 1) := by
  obtain ⟨ids, h1, h2, h3⟩ := h
  cases hx : (wh x).isSome with
  | true =>
    refine ⟨ids, h1, h2, fun id => ?_⟩
    rw [h3]
    by_cases e : id = x
    · simp [e, hx]
    · simp [e]
  | false =>
    refine ⟨x :: ids, List.nodup_cons.2 ⟨(fun e => by rw [h3, hx] at e; cases e), h1⟩, by simp [h2], fun id => ?_⟩
    rw [List.mem_cons, h3]
    by_cases e : id = x
    · simp [e]
    · simp [e]
theorem ei_put (h : EI E M) {i : Nat} {t : Tm} (hi : i < E.n) (ho : E.on i = true) (hw : t.wf) (hc : 0 ≤ t.clock ∧ t.clock < 3) (hsh : t.soft ≤ t.hard) (hM : M t.id = none) (hn : E.wn < 64) : EI (E.put i t) (Mset M t.id (some (i, t))) := by
  have hwn : E.wh t.id = none := by rw [h.wh, hM]; rfl
  have hb : ∀ j q, ((E.put i t).c j).b q = if j = i ∧ q = sel t then qins t ((E.c i).b q) else (E.c j).b q := fun j q => by
    show (if j = i then _ else E.c j).b q = _
    by_cases e : j = i
    · rw [if_pos e]
      show (if q = sel t then _ else _) = _
      by_cases e2 : q = sel t
      · rw [if_pos e2, if_pos ⟨e, e2⟩, e2]
      · rw [if_neg e2, if_neg (fun x => e2 x.2), e]
    · rw [if_neg e, if_neg (fun x => e x.1)]
  have hno : ∀ j, j < E.n → ∀ q, q < 6 → ∀ u ∈ (E.c j).b q, u.id ≠ t.id := fun j hj q hq u hu e => by
    have := (ei_some h hj hq hu).1
    rw [e, hM] at this
    cases this
  refine ⟨h.ck, fun j hj q hq u => ?_, fun id j u hu => ?_, fun id => ?_, fun j hj q hq => ?_, fun j hj q hq => ?_, cw_put h.cnt _ _, ?_, h.onn⟩
  · rw [hb]
    unfold Mset
    by_cases e : u.id = t.id
    · rw [if_pos e]
      by_cases e2 : j = i ∧ q = sel t
      · obtain ⟨rfl, rfl⟩ := e2
        rw [if_pos ⟨rfl, rfl⟩, qins_mem]
        constructor
        · rintro (rfl | h1)
          · exact ⟨rfl, rfl⟩
          · exact absurd e (hno _ hj _ hq u h1)
        · rintro ⟨h1, -⟩
          simp at h1
          exact .inl h1.symm
      · rw [if_neg e2]
        constructor
        · exact fun h1 => absurd e (hno j hj q hq u h1)
        · rintro ⟨h1, h2⟩
          simp at h1
          obtain ⟨rfl, rfl⟩ := h1
          exact absurd ⟨rfl, h2.symm⟩ e2
    · rw [if_neg e]
      by_cases e2 : j = i ∧ q = sel t
      · obtain ⟨rfl, rfl⟩ := e2
        rw [if_pos ⟨rfl, rfl⟩, qins_mem, ← h.mem _ hj _ hq]
        constructor
        · rintro (rfl | h1)
          · exact absurd rfl e
          · exact h1
        · exact .inr
      · rw [if_neg e2]
        exact h.mem j hj q hq u
  · unfold Mset at hu
    by_cases e : id = t.id
    · rw [if_pos e] at hu
      cases hu
      exact ⟨e.symm, hi, ho, hw, hc, hsh⟩
    · rw [if_neg e] at hu
      exact h.dom id j u hu
  · show (if id = t.id then some i else E.wh id) = _
    unfold Mset
    by_cases e : id = t.id
    · rw [if_pos e, if_pos e]; rfl
    · rw [if_neg e, if_neg e]; exact h.wh id
  · rw [hb]
    split
    · exact qins_nd (h.nd i hi q hq) (hno i hi q hq)
    · exact h.nd j hj q hq
  · rw [hb]
    split
    · exact qins_srt (h.srt i hi q hq)
    · exact h.srt j hj q hq
  · show (if (E.wh t.id).isSome then E.wn else E.wn + 1) ≤ 64
    rw [hwn]
    exact hn
theorem ei_cancl (h : EI E M) {i : Nat} {t : Tm} (hM : M t.id = some (i, t)) : EI (E.cancl i t) (Mset M t.id none) := by
  obtain ⟨-, hi, ho, hw, hc, hsh⟩ := h.dom _ _ _ hM
  have hb : ∀ j q, ((E.cancl i t).c j).b q = if j = i ∧ q = sel t then qdel t.id ((E.c i).b q) else (E.c j).b q := fun j q => by
    show (if j = i then _ else E.c j).b q = _
    by_cases e : j = i
    · rw [if_pos e]
      show (if q = sel t then _ else _) = _
      by_cases e2 : q = sel t
      · rw [if_pos e2, if_pos ⟨e, e2⟩, e2]
      · rw [if_neg e2, if_neg (fun x => e2 x.2), e]
    · rw [if_neg e, if_neg (fun x => e x.1)]
  refine ⟨h.ck, fun j hj q hq u => ?_, fun id j u hu => ?_, fun id => ?_, fun j hj q hq => ?_, fun j hj q hq => ?_, cw_del h.cnt _, ?_, h.onn⟩
  · rw [hb]
    unfold Mset
    by_cases e : u.id = t.id
    · rw [if_pos e]
      have hx : ¬ u ∈ (if j = i ∧ q = sel t then qdel t.id ((E.c i).b q) else (E.c j).b q) := by
        by_cases e2 : j = i ∧ q = sel t
        · rw [if_pos e2]
          unfold qdel
          rw [List.mem_filter]
          simp [e]
        · rw [if_neg e2]
          intro hu
          obtain ⟨h1, h2⟩ := ei_some h hj hq hu
          rw [e, hM] at h1
          cases h1
          exact e2 ⟨rfl, h2.symm⟩
      constructor
      · exact fun h1 => absurd h1 hx
      · rintro ⟨h1, -⟩; cases h1
    · rw [if_neg e, ← h.mem j hj q hq u]
      by_cases e2 : j = i ∧ q = sel t
      · obtain ⟨rfl, rfl⟩ := e2
        rw [if_pos ⟨rfl, rfl⟩]
        unfold qdel
        rw [List.mem_filter]
        simp [e]
      · rw [if_neg e2]
  · unfold Mset at hu
    by_cases e : id = t.id
    · rw [if_pos e] at hu; cases hu
    · rw [if_neg e] at hu
      exact h.dom id j u hu
  · show (if id = t.id then none else E.wh id) = _
    unfold Mset
    by_cases e : id = t.id
    · rw [if_pos e, if_pos e]; rfl
    · rw [if_neg e, if_neg e]; exact h.wh id
  · rw [hb]
    split
    · exact (List.filter_sublist.map _).nodup (h.nd i hi q hq)
    · exact h.nd j hj q hq
  · rw [hb]
    split
    · exact (h.srt i hi q hq).sublist List.filter_sublist
    · exact h.srt j hj q hq
  · have := h.wn
    show (if (E.wh t.id).isSome then E.wn - 1 else E.wn) ≤ 64
    split <;> omega
theorem cw_pos {wh : Int → Option Nat} {wn : Nat} (h : CW wh wn) {x : Int} (hx : (wh x).isSome = true) : 0 < wn := by
  obtain ⟨ids, h1, h2, h3⟩ := h
  have := List.length_pos_of_mem ((h3 x).2 hx)
  omega
theorem move_eq (h : EI E M) {i dst : Nat} {t : Tm} (hM : M t.id = some (i, t)) : E.move i dst t = (E.cancl i t).put dst t := by
  have hw : (E.wh t.id).isSome = true := by rw [h.wh, hM]; rfl
  have hp := cw_pos h.cnt hw
  unfold En.move En.put En.cancl
  have e1 : (fun j => if j = t.id then some dst else (if j = t.id then none else E.wh j)) = fun j => if j = t.id then some dst else E.wh j := funext fun j => by
    by_cases e : j = t.id
    · rw [if_pos e, if_pos e]
    · rw [if_neg e, if_neg e, if_neg e]
  have e2 : (E.take i t).wh = E.wh := rfl
  have e3 : (E.take i t).wn = E.wn := rfl
  rw [e2, e3, hw]
  dsimp only
  rw [e1]
  simp only [if_true, Option.isSome_none, Bool.false_eq_true, if_false]
  rw [Nat.sub_add_cancel hp]
  rfl
theorem ei_move (h : EI E M) {i dst : Nat} {t : Tm} (hM : M t.id = some (i, t)) (ht : dst < E.n) (ho : E.on dst = true) : EI (E.move i dst t) (Mset M t.id (some (dst, t))) := by
  obtain ⟨-, hi, -, hw, hc, hsh⟩ := h.dom _ _ _ hM
  have h1 := ei_cancl h hM
  have hwh : (E.wh t.id).isSome = true := by rw [h.wh, hM]; rfl
  have hp := cw_pos h.cnt hwh
  have h2 := ei_put h1 (i := dst) (t := t) ht ho hw hc hsh (if_pos rfl) (by
    show (if (E.wh t.id).isSome then E.wn - 1 else E.wn) < 64
    have := h.wn
    rw [hwh]
    simp
    omega)
  rw [move_eq h hM]
  have e : Mset (Mset M t.id none) t.id (some (dst, t)) = Mset M t.id (some (dst, t)) := funext fun j => by
    unfold Mset
    by_cases e : j = t.id
    · rw [if_pos e, if_pos e]
    · rw [if_neg e, if_neg e, if_neg e]
  rw [e] at h2
  exact h2
/-! All of a processor's. -/
def En.moves (E : En) (i dst : Nat) : List Tm → En
  | [] => E
  | t :: X => (E.move i dst t).moves i dst X
theorem moves_snoc (i dst : Nat) (t : Tm) : ∀ (X : List Tm) (E : En), E.moves i dst (X ++ [t]) = (E.moves i dst X).move i dst t
  | [], E => rfl
  | a :: X, E => moves_snoc i dst t X (E.move i dst a)
def Mmoves (M : Int → Option (Nat × Tm)) (dst : Nat) : List Tm → Int → Option (Nat × Tm)
  | [] => M
  | t :: X => Mmoves (Mset M t.id (some (dst, t))) dst X
theorem mmoves_fn (dst : Nat) (id : Int) : ∀ (X : List Tm) (M : Int → Option (Nat × Tm)), (X.map Tm.id).Nodup → (∀ t ∈ X, t.id = id → Mmoves M dst X id = some (dst, t)) ∧ ((∀ t ∈ X, t.id ≠ id) → Mmoves M dst X id = M id)
  | [], M, _ => ⟨fun _ h => (by cases h), fun _ => rfl⟩
  | a :: X, M, h => by
    have h2 := List.nodup_cons.1 (show (a.id :: X.map Tm.id).Nodup from h)
    have ih := mmoves_fn dst id X (Mset M a.id (some (dst, a))) h2.2
    have hX : a.id = id → ∀ u ∈ X, u.id ≠ id := fun e u hu e2 => h2.1 (by rw [e, ← e2]; exact List.mem_map_of_mem hu)
    refine ⟨fun t ht e => ?_, fun hn => ?_⟩
    · rcases List.mem_cons.1 ht with rfl | ht
      · show Mmoves _ dst X id = _
        rw [ih.2 (hX e)]
        exact if_pos e.symm
      · exact ih.1 t ht e
    · show Mmoves _ dst X id = _
      rw [ih.2 fun t ht => hn t (List.mem_cons_of_mem _ ht)]
      exact if_neg fun e => hn a (List.mem_cons_self ..) e.symm
theorem ei_moves {i dst : Nat} : ∀ (X : List Tm) (E : En) (M : Int → Option (Nat × Tm)), EI E M → (X.map Tm.id).Nodup → (∀ t ∈ X, M t.id = some (i, t)) → dst < E.n → E.on dst = true → EI (E.moves i dst X) (Mmoves M dst X)
  | [], E, M, h, _, _, _, _ => h
  | a :: X, E, M, h, hn, hM, ht, ho => by
    have h2 := List.nodup_cons.1 (show (a.id :: X.map Tm.id).Nodup from hn)
    refine ei_moves X _ _ (ei_move h (hM a (List.mem_cons_self ..)) ht ho) h2.2 (fun t hx => ?_) ht ho
    have hne : t.id ≠ a.id := fun e => h2.1 (e ▸ List.mem_map_of_mem hx)
    unfold Mset
    rw [if_neg hne]
    exact hM t (List.mem_cons_of_mem _ hx)
theorem ball_mem {b : Nat → List Tm} {t : Tm} : ∀ n, t ∈ ball b n ↔ ∃ q, q < n ∧ t ∈ b q
  | 0 => by
    constructor
    · intro h; cases h
    · rintro ⟨q, h, -⟩; omega
  | n + 1 => by
    show t ∈ ball b n ++ b n ↔ _
    rw [List.mem_append, ball_mem n]
    constructor
    · rintro (⟨q, h1, h2⟩ | h)
      · exact ⟨q, by omega, h2⟩
      · exact ⟨n, by omega, h⟩
    · rintro ⟨q, h1, h2⟩
      by_cases e : q = n
      · exact .inr (e ▸ h2)
      · exact .inl ⟨q, by omega, h2⟩
theorem ball_nd (h : EI E M) {i : Nat} (hi : i < E.n) : ∀ n, n ≤ 6 → ((ball (E.c i).b n).map Tm.id).Nodup
  | 0, _ => List.nodup_nil
  | n + 1, hn => by
    show ((ball (E.c i).b n ++ (E.c i).b n).map Tm.id).Nodup
    rw [List.map_append, List.nodup_append]
    refine ⟨ball_nd h hi n (by omega), h.nd i hi n (by omega), fun a ha b hb e => ?_⟩
    obtain ⟨t, ht, rfl⟩ := List.mem_map.1 ha
    obtain ⟨u, hu, rfl⟩ := List.mem_map.1 hb
    obtain ⟨q, hq, hq2⟩ := (ball_mem n).1 ht
    obtain ⟨h1, h2⟩ := ei_some h hi (by omega) hq2
    obtain ⟨h3, h4⟩ := ei_some h hi (by omega) hu
    rw [e, h3] at h1
    cases h1
    omega
theorem ball_some (h : EI E M) {i : Nat} (hi : i < E.n) {t : Tm} : t ∈ ball (E.c i).b 6 ↔ M t.id = some (i, t) := by
  rw [ball_mem]
  constructor
  · rintro ⟨q, hq, ht⟩
    exact (ei_some h hi hq ht).1
  · intro hM
    obtain ⟨-, -, -, -, hc, -⟩ := h.dom _ _ _ hM
    exact ⟨sel t, sel_lt hc, (h.mem i hi _ (sel_lt hc) t).2 ⟨hM, rfl⟩⟩
end
end Go.Proofs.YtlcaepcojglbiaaGreatDoor.Tp
namespace Go.Proofs.YtlcaepcojglbiaaGreatDoor.Tp
open Go.RowKit
set_option linter.unusedVariables false
set_option linter.unusedSimpArgs false
/-! What is done first; what is done till nothing is left. -/
abbrev GM := Int → Option (Nat × Tm)
def En.nextK (E : En) : Option Nat := (onl E.on 16).find? fun i => (E.c i).kicked
def En.nextI (E : En) : Option Nat := (onl E.on 16).find? fun i => (E.c i).d.latched
def En.nextS (E : En) : Option Nat := (onl E.on 16).find? fun i => (E.c i).raised
def En.one (E : En) : Option (List Fd × En) :=
  match E.nextK with
  | some i => some ([], E.kick i)
  | none => match E.nextI with
    | some i => some ((E.exp i false).map (fd E.K i), E.irq i)
    | none => match E.nextS with
      | some i => some ((E.exp i true).map (fd E.K i), E.soft i)
      | none => none
def En.Mone (E : En) (M : GM) : GM :=
  match E.nextK with
  | some i => M
  | none => match E.nextI with
    | some i => Mfire E.K M i false
    | none => match E.nextS with
      | some i => Mfire E.K M i true
      | none => M
inductive Settle : En → GM → List Fd → En → GM → Prop
  | done {E : En} {M : GM} : E.one = none → Settle E M [] E M
  | step {E E1 E' : En} {M M' : GM} {l o : List Fd} : E.one = some (l, E1) → Settle E1 (E.Mone M) o E' M' → Settle E M (l ++ o) E' M'
theorem onl_mem {on : Nat → Bool} {n i : Nat} : i ∈ onl on n ↔ i < n ∧ on i = true := by
  unfold onl
  rw [List.mem_filter, List.mem_range]
theorem find_on {on : Nat → Bool} {p : Nat → Bool} {i : Nat} (h : (onl on 16).find? p = some i) : i < 16 ∧ on i = true ∧ p i = true := by
  have h1 := List.mem_of_find?_eq_some h
  have h2 := List.find?_some h
  obtain ⟨h3, h4⟩ := onl_mem.1 h1
  exact ⟨h3, h4, h2⟩
theorem one_cases {E : En} {l : List Fd} {E1 : En} (h : E.one = some (l, E1)) :
    (∃ i, E.nextK = some i ∧ l = [] ∧ E1 = E.kick i ∧ ∀ M, E.Mone M = M) ∨
    (∃ i, E.nextK = none ∧ E.nextI = some i ∧ l = (E.exp i false).map (fd E.K i) ∧ E1 = E.irq i ∧ ∀ M, E.Mone M = Mfire E.K M i false) ∨
    (∃ i, E.nextK = none ∧ E.nextI = none ∧ E.nextS = some i ∧ l = (E.exp i true).map (fd E.K i) ∧ E1 = E.soft i ∧ ∀ M, E.Mone M = Mfire E.K M i true) := by
  unfold En.one at h
  unfold En.Mone
  cases h1 : E.nextK with
  | some i =>
    rw [h1] at h
    simp only [Option.some.injEq, Prod.mk.injEq] at h
    exact .inl ⟨i, rfl, h.1.symm, h.2.symm, fun _ => rfl⟩
  | none =>
    rw [h1] at h
    cases h2 : E.nextI with
    | some i =>
      rw [h2] at h
      simp only [Option.some.injEq, Prod.mk.injEq] at h
      exact .inr (.inl ⟨i, rfl, rfl, h.1.symm, h.2.symm, fun _ => rfl⟩)
    | none =>
      rw [h2] at h
      cases h3 : E.nextS with
      | some i =>
        rw [h3] at h
        simp only [Option.some.injEq, Prod.mk.injEq] at h
        exact .inr (.inr ⟨i, rfl, rfl, rfl, h.1.symm, h.2.symm, fun _ => rfl⟩)
      | none =>
        rw [h3] at h
        cases h
section
variable {E : En} {M : GM}
theorem ei_irq (h : EI E M) {i : Nat} (hi : i < E.n) : EI (E.irq i) (Mfire E.K M i false) :=
  ei_look (ei_raise (ei_fired (ei_unlatch h i) hi false) i _) i
theorem ei_soft (h : EI E M) {i : Nat} (hi : i < E.n) : EI (E.soft i) (Mfire E.K M i true) :=
  ei_look (ei_fired (ei_setc (i := i) (c := { E.c i with raised := false }) h rfl) hi true) i
theorem ei_one (h : EI E M) {l : List Fd} {E1 : En} (ho : E.one = some (l, E1)) : EI E1 (E.Mone M) := by
  rcases one_cases ho with ⟨i, h1, rfl, rfl, h2⟩ | ⟨i, -, h1, rfl, rfl, h2⟩ | ⟨i, -, -, h1, rfl, rfl, h2⟩
  · rw [h2]; exact ei_kick h i
  · rw [h2]; exact ei_irq h (h.onn i (find_on h1).2.1)
  · rw [h2]; exact ei_soft h (h.onn i (find_on h1).2.1)
theorem one_same {l : List Fd} {E1 : En} (ho : E.one = some (l, E1)) : E1.K = E.K ∧ E1.n = E.n ∧ E1.on = E.on := by
  rcases one_cases ho with ⟨i, h1, rfl, rfl, h2⟩ | ⟨i, -, h1, rfl, rfl, h2⟩ | ⟨i, -, -, h1, rfl, rfl, h2⟩ <;> exact ⟨rfl, rfl, rfl⟩
theorem settle_ei {o : List Fd} {E' : En} {M' : GM} (hs : Settle E M o E' M') : EI E M → EI E' M' ∧ E'.K = E.K ∧ E'.n = E.n ∧ E'.on = E.on := by
  induction hs with
  | done _ => exact fun h => ⟨h, rfl, rfl, rfl⟩
  | step ho _ ih =>
    intro h
    obtain ⟨h1, h2, h3, h4⟩ := ih (ei_one h ho)
    obtain ⟨k2, k3, k4⟩ := one_same ho
    exact ⟨h1, h2.trans k2, h3.trans k3, h4.trans k4⟩
/-! A measure. -/
def sm (f : Nat → Nat) : Nat → Nat
  | 0 => 0
  | n + 1 => sm f n + f n
theorem sm_le {f g : Nat → Nat} (h : ∀ j, g j ≤ f j) : ∀ n, sm g n ≤ sm f n
  | 0 => Nat.le_refl _
  | n + 1 => Nat.add_le_add (sm_le h n) (h n)
theorem sm_lt {f g : Nat → Nat} (h : ∀ j, g j ≤ f j) {i : Nat} (hi : g i < f i) : ∀ n, i < n → sm g n < sm f n
  | 0, h0 => by omega
  | n + 1, hn => by
    show sm g n + g n < sm f n + f n
    by_cases e : i = n
    · subst e
      have := sm_le h i
      omega
    · have := sm_lt h hi n (by omega)
      have := h n
      omega
def Cp.todo (c : Cp) : Nat := c.kicked.toNat + 2 * c.d.latched.toNat + c.raised.toNat
def En.mu (E : En) : Nat := sm (fun i => if E.on i then (E.c i).todo else 0) 16
theorem sooner_latched (d : Dv) (a b : Int) : (d.sooner a b).latched = d.latched := by
  unfold Dv.sooner
  split <;> rfl
theorem look_todo (E : En) (i j : Nat) : ((E.look i).c j).todo = (E.c j).todo := by
  show (if j = i then _ else E.c j : Cp).todo = _
  by_cases e : j = i
  · rw [if_pos e, e]
    unfold Cp.todo
    dsimp only
    rw [sooner_latched]
  · rw [if_neg e]
theorem mu_lt {E' : En} (hn : E'.on = E.on) {i : Nat} (hi : i < 16) (ho : E.on i = true) (h : ∀ j, j ≠ i → (E'.c j).todo = (E.c j).todo) (hl : (E'.c i).todo < (E.c i).todo) : E'.mu < E.mu := by
  unfold En.mu
  rw [hn]
  refine sm_lt (fun j => ?_) (i := i) ?_ 16 hi
  · by_cases e : j = i
    · subst e
      rw [ho]
      exact Nat.le_of_lt hl
    · rw [h j e]
      exact Nat.le_refl _
  · show (if E.on i = true then _ else _) < (if E.on i = true then _ else _)
    rw [ho]
    exact hl
theorem setc_self_c (E : En) (i : Nat) (c : Cp) : (E.setc i c).c i = c := if_pos rfl
theorem setc_ne (E : En) {i j : Nat} (c : Cp) (h : j ≠ i) : (E.setc i c).c j = E.c j := if_neg h
theorem kick_todo {i : Nat} (hk : (E.c i).kicked = true) : (∀ j, j ≠ i → ((E.kick i).c j).todo = (E.c j).todo) ∧ ((E.kick i).c i).todo < (E.c i).todo := by
  unfold En.kick
  refine ⟨fun j hj => ?_, ?_⟩
  · rw [look_todo, setc_ne _ _ hj]
  · rw [look_todo, setc_self_c]
    unfold Cp.todo
    dsimp only
    rw [hk]
    simp
theorem fired_todo (E : En) (i : Nat) (s : Bool) (j : Nat) : ((E.fired i s).c j).todo = (E.c j).todo := by
  show (if j = i then _ else E.c j : Cp).todo = _
  by_cases e : j = i
  · rw [if_pos e, e]; rfl
  · rw [if_neg e]
theorem irq_todo {i : Nat} (hk : (E.c i).d.latched = true) : (∀ j, j ≠ i → ((E.irq i).c j).todo = (E.c j).todo) ∧ ((E.irq i).c i).todo < (E.c i).todo := by
  unfold En.irq
  refine ⟨fun j hj => ?_, ?_⟩
  · dsimp only
    rw [look_todo]
    unfold En.raise
    rw [setc_ne _ _ hj, fired_todo]
    unfold En.unlatch
    rw [setc_ne _ _ hj]
  · dsimp only
    rw [look_todo]
    unfold En.raise
    rw [setc_self_c]
    have h1 : (((E.unlatch i).fired i false).c i).d.latched = false := by
      show (if i = i then _ else _ : Cp).d.latched = false
      rw [if_pos rfl]
      show ((E.unlatch i).c i).d.latched = false
      unfold En.unlatch
      rw [setc_self_c]
    have h2 : (((E.unlatch i).fired i false).c i).kicked = (E.c i).kicked := by
      show (if i = i then _ else _ : Cp).kicked = _
      rw [if_pos rfl]
      show ((E.unlatch i).c i).kicked = _
      unfold En.unlatch
      rw [setc_self_c]
    unfold Cp.todo
    dsimp only
    rw [h1, h2, hk]
    generalize ((((E.unlatch i).fired i false).c i).raised || bdu (((E.unlatch i).fired i false).c i).b true ((E.unlatch i).fired i false).K.tm 6) = x
    cases x <;> simp <;> omega
theorem soft_todo {i : Nat} (hk : (E.c i).raised = true) : (∀ j, j ≠ i → ((E.soft i).c j).todo = (E.c j).todo) ∧ ((E.soft i).c i).todo < (E.c i).todo := by
  unfold En.soft
  refine ⟨fun j hj => ?_, ?_⟩
  · rw [look_todo, fired_todo, setc_ne _ _ hj]
  · rw [look_todo, fired_todo, setc_self_c]
    unfold Cp.todo
    dsimp only
    rw [hk]
    simp
theorem one_mu {l : List Fd} {E1 : En} (ho : E.one = some (l, E1)) : E1.mu < E.mu := by
  obtain ⟨-, -, hon⟩ := one_same ho
  rcases one_cases ho with ⟨i, h1, rfl, rfl, h2⟩ | ⟨i, -, h1, rfl, rfl, h2⟩ | ⟨i, -, -, h1, rfl, rfl, h2⟩
  · obtain ⟨a, b, c⟩ := find_on h1
    exact mu_lt hon a b (kick_todo c).1 (kick_todo c).2
  · obtain ⟨a, b, c⟩ := find_on h1
    exact mu_lt hon a b (irq_todo c).1 (irq_todo c).2
  · obtain ⟨a, b, c⟩ := find_on h1
    exact mu_lt hon a b (soft_todo c).1 (soft_todo c).2
/-! How many fire at once. -/
theorem exp_len (h : EI E M) {i : Nat} (s : Bool) (hi : i < E.n) : (E.exp i s).length ≤ 384 :=
  exn_len s E.K.tm (fun q hq => Nat.le_trans (ei_len h hi hq) h.wn) 6 (by omega)
theorem wdel_len : ∀ (X : List Tm) (wh : Int → Option Nat) (wn : Nat), CW wh wn → (X.map Tm.id).Nodup → (∀ t ∈ X, (wh t.id).isSome = true) → (wdel wh wn X).2 + X.length = wn
  | [], wh, wn, _, _, _ => rfl
  | t :: X, wh, wn, hc, hn, hs => by
    have h2 := List.nodup_cons.1 (show (t.id :: X.map Tm.id).Nodup from hn)
    have h1 := hs t (List.mem_cons_self ..)
    have hp := cw_pos hc h1
    have ih := wdel_len X _ _ (cw_del hc t.id) h2.2 fun u hu => by
      rw [if_neg fun e => h2.1 (by rw [← e]; exact List.mem_map_of_mem hu)]
      exact hs u (List.mem_cons_of_mem _ hu)
    rw [h1] at ih
    simp only [if_true] at ih
    show (wdel _ (if (wh t.id).isSome then wn - 1 else wn) X).2 + (X.length + 1) = wn
    rw [h1]
    simp only [if_true]
    omega
theorem exn_nd (h : EI E M) {i : Nat} (s : Bool) (hi : i < E.n) : ∀ n, n ≤ 6 → ((exn (E.c i).b s E.K.tm n).map Tm.id).Nodup
  | 0, _ => List.nodup_nil
  | n + 1, hn => by
    show ((exn (E.c i).b s E.K.tm n ++ exq (E.c i).b s E.K.tm n).map Tm.id).Nodup
    have hsub : ∀ q, q < 6 → (exq (E.c i).b s E.K.tm q).Sublist ((E.c i).b q) := fun q hq => by
      rw [exq_eq (h.srt i hi q hq)]
      split
      · exact List.filter_sublist
      · exact List.nil_sublist _
    rw [List.map_append, List.nodup_append]
    refine ⟨exn_nd h s hi n (by omega), ((hsub n (by omega)).map _).nodup (h.nd i hi n (by omega)), fun a ha b hb e => ?_⟩
    obtain ⟨t, ht, rfl⟩ := List.mem_map.1 ha
    obtain ⟨u, hu, rfl⟩ := List.mem_map.1 hb
    obtain ⟨q, hq, hq2⟩ := (exn_mem n).1 ht
    obtain ⟨h1, h2⟩ := ei_some h hi (by omega) ((hsub q (by omega)).mem hq2)
    obtain ⟨h3, h4⟩ := ei_some h hi (by omega) ((hsub n (by omega)).mem hu)
    rw [e, h3] at h1
    cases h1
    omega
theorem fired_wn (h : EI E M) {i : Nat} (s : Bool) (hi : i < E.n) : (E.exp i s).length + (E.fired i s).wn = E.wn := by
  have := wdel_len (E.exp i s) E.wh E.wn h.cnt (exn_nd h s hi 6 (by omega)) fun t ht => by
    rw [h.wh, ((exp_mem h hi).1 ht).1]
    rfl
  show _ + (wdel E.wh E.wn (E.exp i s)).2 = _
  omega
theorem one_wn (h : EI E M) {l : List Fd} {E1 : En} (ho : E.one = some (l, E1)) : l.length + E1.wn = E.wn := by
  rcases one_cases ho with ⟨i, h1, rfl, rfl, h2⟩ | ⟨i, -, h1, rfl, rfl, h2⟩ | ⟨i, -, -, h1, rfl, rfl, h2⟩
  · show 0 + E.wn = E.wn
    omega
  · rw [List.length_map]
    have hi := h.onn i (find_on h1).2.1
    have := fired_wn (ei_unlatch h i) (i := i) false hi
    have he : (E.unlatch i).exp i false = E.exp i false := by
      unfold En.exp En.unlatch
      rw [setc_self_c]
      rfl
    rw [he] at this
    exact this
  · rw [List.length_map]
    have hi := h.onn i (find_on h1).2.1
    have := fired_wn (ei_setc (i := i) (c := { E.c i with raised := false }) h rfl) (i := i) true hi
    have he : (E.setc i { E.c i with raised := false }).exp i true = E.exp i true := by
      unfold En.exp
      rw [setc_self_c]
      rfl
    rw [he] at this
    exact this
end
end Go.Proofs.YtlcaepcojglbiaaGreatDoor.Tp
namespace Go.Proofs.YtlcaepcojglbiaaGreatDoor.Tp
open Go.RowKit
set_option linter.unusedVariables false
set_option linter.unusedSimpArgs false
def En.del (E : En) (id : Int) : En := { E with wh := fun j => if j = id then none else E.wh j, wn := if (E.wh id).isSome then E.wn - 1 else E.wn }
theorem has_mb {A : EA} {n : Nat} : A.has n A.mb := .inr (.inr (.inr (.inr (.inl rfl))))
theorem has_e {A : EA} {n : Nat} : A.has n A.e := .inr (.inl rfl)
theorem has_ck {A : EA} {n : Nat} : A.has n A.ck := .inr (.inr (.inl rfl))
section
variable {A : EA} {E : En} {M : Int → Option (Nat × Tm)}
set_option maxHeartbeats 4000000 in
theorem ecancel_no (id : Int) (W : World) (h : ER A E W) (hid : i64 id) (hn : E.wh id = none) : Calls Tryz.prog 20 #[ptr A.e, .int .i64 id] W fun e W' => e = .returned (.int .i64 7) ∧ W' = W := by
  have HV := Lib.hid h.mv
  have HK := Lib.hid (ki_key hid)
  have HL : Hid (look (.int .i64 0) true wv (E.wh id) = .tuple #[.int .i64 0, .bool false]) := by rw [hn]; exact Lib.hid rfl
  obtain ⟨m, hm, -⟩ := h.eb
  obtain ⟨-, -, -, e3, -⟩ := cells4 hm
  clear h hm hn hid
  go_enter Tryz.func20, Tryz.ntmps20
  go_wp2_with (first
    | (at_lookup; refine wpList_look_mv _ rfl _ _ 45 true rfl keyed3 Tryz.underlying45 (zero3 _) ki_inj HV.out id HK.out rfl rfl _ HL.out ?_)
    | fail)
  go_ret
  exact ⟨rfl, rfl⟩
theorem er_road' {A : EA} {W : World} (E : En) (h : ER A E W) {i : Nat} (hi : i < E.n) : W.cell? ⟨A.e, 1, none⟩ = some (.slice (some ⟨A.lb, 0, none⟩) E.n A.cap) ∧ W.cell? ⟨A.lb, i, none⟩ = some (ptr (A.cb i)) ∧
    (W.cell? ⟨A.cb i, 0, none⟩ = some (ptr (A.ba i).bb) ∧ W.cell? ⟨A.cb i, 1, none⟩ = some (ptr (A.db i)) ∧ W.cell? ⟨A.cb i, 2, none⟩ = some (.bool (E.c i).raised) ∧ W.cell? ⟨A.cb i, 3, none⟩ = some (.bool (E.c i).kicked)) := by
  obtain ⟨⟨m, -, -, e1, -, -⟩, r, c, -⟩ := er_road h hi
  exact ⟨e1, r, c⟩
set_option maxHeartbeats 4000000 in
theorem ecancel_yes (i : Nat) (t : Tm) (W : World) (h : ER A E W) (hE : EI E M) (hM : M t.id = some (i, t)) : Calls Tryz.prog 20 #[ptr A.e, .int .i64 t.id] W fun e W' => e = .returned (.int .i64 0) ∧ ER A (E.cancl i t) W' ∧ GF (A.has E.n) W W' := by
  obtain ⟨-, hi, -, hw, hc, -⟩ := hE.dom _ _ _ hM
  have hs := sel_lt hc
  have hwh : E.wh t.id = some i := by rw [hE.wh, hM]; rfl
  have ht := (hE.mem i hi _ hs t).2 ⟨hM, rfl⟩
  have hno : ∀ j, j < sel t → hasId t.id ((E.c i).b j) = false := fun j hj => by
    cases e : hasId t.id ((E.c i).b j) with
    | false => rfl
    | true =>
      obtain ⟨u, hu, hue⟩ := hasId_iff.1 e
      obtain ⟨h1, h2⟩ := ei_some hE hi (by omega) hu
      rw [hue, hM] at h1
      cases h1
      omega
  have HV := Lib.hid h.mv
  have HK := Lib.hid (ki_key hw.id)
  have HL : Hid (look (.int .i64 0) true wv (E.wh t.id) = .tuple #[.int .i64 i, .bool true]) := by rw [hwh]; exact Lib.hid rfl
  have HF := Lib.hid (fun w' m g => (show ER A (E.del t.id) w' from er_map (W' := w') h g m))
  have C := Lib.hid (fun w (h' : ER A (E.del t.id) w) => bcancel_yes t w (h'.br i hi) hw.id hs ht hno)
  have HB := Lib.hid (fun w w' (h' : ER A (E.del t.id) w) (hb : BR (A.ba i) (bset (E.c i).b (sel t) (qdel t.id ((E.c i).b (sel t)))) w') (g : GF ((A.ba i).q (sel t)).foot w w') => (show ER A (E.cancl i t) w' from er_base h' hi (gf_mono g fun x hx => foot_has x ⟨_, hs, hx⟩) hb))
  have HR := Lib.hid (fun w (h' : ER A (E.del t.id) w) => er_road' (E.del t.id) h' hi)
  obtain ⟨m, hm, -⟩ := h.eb
  obtain ⟨-, -, -, e3, -⟩ := cells4 hm
  have HI := Lib.hid hi
  have hi2 : (i : Int) < (E.n : Int) := by omega
  have HQ : Hid (∀ x, ((A.ba i).q (sel t)).foot x → A.has E.n x) := Lib.hid fun x hx => has_ba hi (foot_has x ⟨_, hs, hx⟩)
  have hnn : (E.del t.id).n = E.n := rfl
  rw [hnn] at HR
  clear h hm hE hM hw hc hwh ht hno hi hs hnn
  go_enter Tryz.func20, Tryz.ntmps20
  go_wp2_with (first
    | (at_lookup; refine wpList_look_mv _ rfl _ _ 45 true rfl keyed3 Tryz.underlying45 (zero3 _) ki_inj HV.out t.id HK.out rfl rfl _ HL.out ?_)
    | (at_delete; refine wpList_drop_mv _ rfl _ _ 45 3 rfl keyed3 Tryz.underlying45 ki_inj HV.out t.id HK.out rfl rfl ?_; intro w1 m1 g1; have HE1 := Lib.hid (HF.out _ m1 g1); obtain ⟨f1, r, c0, c1, c2, c3⟩ := HR.out _ HE1.out; have HG1 := Lib.hid (gf_g2 (F := A.has E.n) g1 has_mb has_mb); clear m1 g1)
    | (go_at_call 44; refine (C.out _ HE1.out).mono ?_; rintro e w2 ⟨rfl, hbr, hg⟩; have HH := Lib.hid (And.intro (HB.out _ _ HE1.out hbr hg) (gf_trans HG1.out (gf_mono hg HQ.out))); clear hbr hg)
    | fail)
  go_ret
  exact ⟨rfl, HH.out⟩
end
end Go.Proofs.YtlcaepcojglbiaaGreatDoor.Tp
namespace Go.Proofs.YtlcaepcojglbiaaGreatDoor.Tp
open Go.RowKit
set_option linter.unusedVariables false
set_option linter.unusedSimpArgs false
def En.ckt (E : En) (K' : Ck) : En := { E with K := K' }
def En.pass (E : En) (i : Nat) : En := E.setc i { E.c i with d := (E.c i).d.pass E.K.mono }
def En.passes (E : En) : Nat → En
  | 0 => E
  | k + 1 => (E.passes k).pass k
theorem passes_same (E : En) : ∀ k, (E.passes k).n = E.n ∧ (E.passes k).K = E.K ∧ (E.passes k).on = E.on ∧ (E.passes k).wh = E.wh ∧ (E.passes k).wn = E.wn
  | 0 => ⟨rfl, rfl, rfl, rfl, rfl⟩
  | k + 1 => passes_same E k
theorem ei_passes {E : En} {M : Int → Option (Nat × Tm)} (h : EI E M) : ∀ k, EI (E.passes k) M
  | 0 => h
  | k + 1 => ei_setc (ei_passes h k) rfl
section
variable {A : EA} {E : En}
set_option maxHeartbeats 4000000 in
theorem eadv_no (n : Int) (W : World) (h : ER A E W) (hok : E.K.ok) (hn : i64 n) (hb : E.K.bad n = true) : Calls Tryz.prog 21 #[ptr A.e, .int .i64 n] W fun e W' => e = .returned (.int .i64 2) ∧ ER A E W' ∧ GF (A.has E.n) W W' := by
  have C := Lib.hid (cadv_at n W h.ck hok hn)
  rw [hb] at C
  have hK : E.K.adv n = E.K := if_pos hb
  rw [hK] at C
  have HF := Lib.hid (fun w (hc : CR A.ck E.K w) (g : GF (fun i => i = A.ck) W w) => (show ER A E w from er_ck h g hc))
  obtain ⟨m, hm, -⟩ := h.eb
  obtain ⟨⟨e0, -⟩, -⟩ := cells4 hm
  clear h hm hok hn hb hK
  go_enter Tryz.func21, Tryz.ntmps21
  go_wp2_with (first
    | (go_at_call 45; refine (C.out).mono ?_; clear C; rintro e w1 ⟨rfl, hc, hg⟩; have HH := Lib.hid (And.intro (HF.out _ hc hg) (gf_mono hg fun x e => (show A.has E.n x by rw [e]; exact has_ck))); clear hc hg)
    | fail)
  go_ret
  exact ⟨rfl, HH.out⟩
set_option maxRecDepth 100000 in
set_option maxHeartbeats 4000000 in
theorem eadv_yes (n : Int) (W : World) (h : ER A E W) (hok : E.K.ok) (hn : i64 n) (hb : E.K.bad n = false) : Calls Tryz.prog 21 #[ptr A.e, .int .i64 n] W fun e W' => e = .returned (.int .i64 0) ∧ ER A ((E.ckt (E.K.adv n)).passes E.n) W' ∧ GF (A.has E.n) W W' := by
  have C := Lib.hid (cadv_at n W h.ck hok hn)
  rw [hb] at C
  have HF := Lib.hid (fun w (hc : CR A.ck (E.K.adv n) w) (g : GF (fun i => i = A.ck) W w) => (show ER A (E.ckt (E.K.adv n)) w from er_ck h g hc))
  have hok1 : (E.ckt (E.K.adv n)).K.ok := (ok_adv hok n).1
  obtain ⟨N, hN⟩ : ∃ N, E.n = N := ⟨_, rfl⟩
  obtain ⟨E1, hE1⟩ : ∃ E1, E.ckt (E.K.adv n) = E1 := ⟨_, rfl⟩
  have hn1 : E1.n = N := by rw [← hE1]; exact hN
  have h16 := h.n16
  rw [hE1] at HF hok1 ⊢
  have HP : Hid (∀ k, k < N → ∀ w, ER A (E1.passes k) w → Calls Tryz.prog 47 #[ptr A.e] w fun e W' => e = .returned (.int .i64 E1.K.mono) ∧ Below w.heap.size w W') := Lib.hid fun k hk w h => by
    have := emono_at w h (by rw [(passes_same E1 k).2.1]; exact hok1)
    rw [(passes_same E1 k).2.1] at this
    exact this
  have HQ : Hid (∀ k, k < N → ∀ w, ER A (E1.passes k) w → Calls Tryz.prog 46 #[ptr (A.db k), .int .i64 E1.K.mono] w fun e W' => (∃ v, e = .returned v) ∧ ER A (E1.passes (k + 1)) W' ∧ GF (A.has N) w W') := Lib.hid fun k hk w h => by
    have hkn : k < (E1.passes k).n := by rw [(passes_same E1 k).1, hn1]; exact hk
    refine (pass_at E1.K.mono w (h.dr k hkn)).mono ?_
    rintro e w' ⟨he, hd, hg⟩
    refine ⟨he, ?_, gf_g2 hg (has_db hk) (has_db hk)⟩
    have := er_dev h hkn hg hd
    rw [← (passes_same E1 k).2.1] at this
    exact this
  have HR : Hid (∀ k, k < N → ∀ w, ER A (E1.passes k) w → w.cell? ⟨A.e, 1, none⟩ = some (.slice (some ⟨A.lb, 0, none⟩) N A.cap) ∧ w.cell? ⟨A.lb, k, none⟩ = some (ptr (A.cb k)) ∧ w.cell? ⟨A.cb k, 1, none⟩ = some (ptr (A.db k))) := Lib.hid fun k hk w h => by
    have hkn : k < (E1.passes k).n := by rw [(passes_same E1 k).1, hn1]; exact hk
    obtain ⟨f1, r, c0, c1, -⟩ := er_road' _ h hkn
    rw [(passes_same E1 k).1, hn1] at f1
    exact ⟨f1, r, c1⟩
  have HR2 : Hid (∀ k, k < N → ∀ w, ER A (E1.passes (k + 1)) w → w.cell? ⟨A.cb k, 1, none⟩ = some (ptr (A.db k))) := Lib.hid fun k hk w h => by
    have hkn : k < (E1.passes (k + 1)).n := by rw [(passes_same E1 (k + 1)).1, hn1]; exact hk
    obtain ⟨f1, r, c0, c1, -⟩ := er_road' _ h hkn
    exact c1
  have HE1 : Hid (∀ w, ER A E1 w → w.cell? ⟨A.e, 1, none⟩ = some (.slice (some ⟨A.lb, 0, none⟩) N A.cap)) := Lib.hid fun w h => by
    obtain ⟨m, hm, -⟩ := h.eb
    have := (cell_of hm 1 _ rfl).1
    rw [hn1] at this
    exact this
  obtain ⟨m, hm, -⟩ := h.eb
  obtain ⟨⟨e0, -⟩, -⟩ := cells4 hm
  rw [hN] at h16 ⊢
  clear h hm hok hn hb hok1 hE1 hn1 hN
  go_enter Tryz.func21, Tryz.ntmps21
  go_wp2_with (first
    | (go_at_call 45; refine (C.out).mono ?_; clear C; rintro e w1 ⟨rfl, hc, hg⟩; have e1 := HE1.out _ (HF.out _ hc hg); have HH := Lib.hid (And.intro (HF.out _ hc hg) (gf_mono hg fun x e => (show A.has N x by rw [e]; exact has_ck))); clear hc hg)
    | fail)
  go_loopw [22] (fun s22 wr => ∃ k : Nat, k ≤ N ∧ s22 = .int .i64 k ∧ Hid (ER A (E1.passes k) wr ∧ GF (A.has N) W wr)) (fun s22 _ => N - (intOf s22).toNat)
  case atStart => exact ⟨0, by omega, rfl, HH⟩
  case round =>
    obtain ⟨k, hk, rfl, HJ⟩ := hrel
    clear HH e1 e0
    by_cases hkn : k = N
    · subst hkn
      clear hk
      go_wp2_with fail
      go_ret
      exact ⟨rfl, HJ.out⟩
    · have hk1 : k < N := by omega
      have hk2 : (k : Int) < (N : Int) := by omega
      obtain ⟨f1, r, c1⟩ := HR.out k hk1 _ HJ.out.1
      have HKN := Lib.hid hkn
      clear hkn hk
      go_wp2_with fail
      have HD := Lib.hid (er_drew HJ.out.1)
      have HCL := Lib.hid (And.intro hk1 hk2)
      go_region_held3 (fun w => w.cell? ⟨A.cb k, 1, none⟩ = some (ptr (A.db k))) (first | exact c1 | exact d1 | exact g1 | assumption | (go_keep; done)) (first
        | (go_simp; go_at_call 47; refine (HP.out k hk1 _ HD.out).mono ?_; rintro e w2 ⟨rfl, hB⟩; have HE2 := Lib.hid (er_below HD.out hB); have HG2 := Lib.hid (gf_trans (gf_drew HJ.out.2) (gf_below hB)); have d1 := (HR.out k hk1 _ HE2.out).2.2; clear hB)
        | (go_simp; go_at_call 46; refine (HQ.out k hk1 _ HE2.out).mono ?_; rintro e w3 ⟨⟨v, rfl⟩, hE3, hG3⟩; have HH3 := Lib.hid (And.intro hE3 (gf_trans HG2.out hG3)); have g1 : w3.cell? ⟨A.cb k, 1, none⟩ = some (ptr (A.db k)) := (HR2.out k hk1 _ HH3.out.1); clear hE3 hG3)
        | fail)
      go_wp2_with fail
      go_roundw
      case rel => exact ⟨k + 1, by omega, by go_num, HH3⟩
      case measure => simp [intOf]; omega
end
end Go.Proofs.YtlcaepcojglbiaaGreatDoor.Tp
