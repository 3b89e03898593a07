import Derived.Test.YtdbaeigbejcobaaDlEdf
namespace Go.Proofs.Ytdbaeigbejcobaa.Dl
set_option linter.unusedVariables false
set_option linter.unusedSimpArgs false
/-! A plain row of jobs: what is left, the deadline, the task. -/
abbrev Jb := Int × Int × Int
def jg (js : List Jb) (k : Nat) : Jb := js.getD k (0, 0, 0)
theorem jg_mem {js : List Jb} {k : Nat} (h : k < js.length) : jg js k ∈ js := by
  unfold jg
  rw [List.getD_eq_getElem?_getD, List.getElem?_eq_getElem h]
  exact List.getElem_mem h
theorem mem_jg {js : List Jb} {j : Jb} (h : j ∈ js) : ∃ k, k < js.length ∧ jg js k = j := by
  obtain ⟨k, hk, e⟩ := List.getElem_of_mem h
  refine ⟨k, hk, ?_⟩
  unfold jg
  rw [List.getD_eq_getElem?_getD, List.getElem?_eq_getElem hk]
  exact e
/-- What is kept of the first k jobs. -/
def kp (t : Int) (js : List Jb) (k : Nat) : List Jb := (js.take k).filter fun j => decide (t < j.2.1)
theorem take_jg {js : List Jb} {k : Nat} (h : k < js.length) : js.take (k + 1) = js.take k ++ [jg js k] := by
  unfold jg
  rw [List.take_add_one, List.getD_eq_getElem?_getD, List.getElem?_eq_getElem h]
  rfl
theorem kp_yes {t : Int} {js : List Jb} {k : Nat} (h : k < js.length) (hd : t < (jg js k).2.1) : kp t js (k + 1) = kp t js k ++ [jg js k] := by
  unfold kp
  rw [take_jg h, List.filter_append]
  simp [hd]
theorem kp_no {t : Int} {js : List Jb} {k : Nat} (h : k < js.length) (hd : ¬ t < (jg js k).2.1) : kp t js (k + 1) = kp t js k := by
  unfold kp
  rw [take_jg h, List.filter_append]
  simp [hd]
theorem kp_len (t : Int) (js : List Jb) (k : Nat) : (kp t js k).length ≤ js.length :=
  Nat.le_trans (List.length_filter_le _ _) (by rw [List.length_take]; omega)
/-- What is missed of the first k jobs. -/
def mX (t : Int) (js : List Jb) (X : Nat → Int) : Nat → Nat → Int
  | 0 => X
  | k + 1 => if (jg js k).2.1 ≤ t then upd (mX t js X k) (jg js k).2.2.toNat (mX t js X k (jg js k).2.2.toNat + 1) else mX t js X k
theorem mX_bd (t : Int) (js : List Jb) (X : Nat → Int) (k i : Nat) : X i ≤ mX t js X k i ∧ mX t js X k i ≤ X i + k := by
  induction k with
  | zero => unfold mX; omega
  | succ k ih =>
    unfold mX
    split
    · unfold upd; split
      · subst_vars; omega
      · omega
    · omega
/-- What comes of the first i tasks. -/
def ar (z : Nat → Int × Int × Int) (t : Int) (js : List Jb) : Nat → List Jb
  | 0 => js
  | i + 1 => if rel (z i) t then ar z t js i ++ [((z i).2.1, t + (z i).1, (i : Int))] else ar z t js i
theorem ar_len (z : Nat → Int × Int × Int) (t : Int) (js : List Jb) (i : Nat) : (ar z t js i).length ≤ js.length + i := by
  induction i with
  | zero => exact Nat.le_refl _
  | succ i ih => unfold ar; split <;> (first | (rw [List.length_append]; simp; omega) | omega)
/-- The best of the first k jobs. -/
def bs (js : List Jb) : Nat → Int
  | 0 => -1
  | k + 1 => if bs js k < 0 ∨ (jg js k).2.1 < (jg js (bs js k).toNat).2.1 ∨ ((jg js k).2.1 = (jg js (bs js k).toNat).2.1 ∧ (jg js k).2.2 < (jg js (bs js k).toNat).2.2) then (k : Int) else bs js k
theorem bs_bd (js : List Jb) (k : Nat) : -1 ≤ bs js k ∧ bs js k < k := by
  induction k with
  | zero => unfold bs; omega
  | succ k ih => unfold bs; split <;> omega
/-- The row behind what is done of number b. -/
def fin (js : List Jb) (b : Nat) : List Jb := if (jg js b).1 - 1 = 0 then js.take b ++ js.drop (b + 1) else js.set b ((jg js b).1 - 1, (jg js b).2)
/-- The row is what is left. -/
structure JI (z : Nat → Int × Int × Int) (n t : Nat) (js : List Jb) (s : St) : Prop where
  a : ∀ j ∈ js, ∃ i, i < n ∧ j = (s.L i, s.D i, (i : Int)) ∧ 0 < s.L i
  b : ∀ i, i < n → 0 < s.L i → (s.L i, s.D i, (i : Int)) ∈ js
  c : (js.map fun j => j.2.2).Nodup
  len : js.length ≤ 16 * t
/-- Deadlines are where the next jobs come. -/
def DI (z : Nat → Int × Int × Int) (n t : Nat) (s : St) : Prop := ∀ i, i < n → 0 ≤ s.L i ∧ (0 < s.L i → (t : Int) ≤ s.D i ∧ rel (z i) (s.D i) ∧ ∀ r : Nat, t ≤ r → (r : Int) < s.D i → ¬ rel (z i) r)
theorem di_rel {z : Nat → Int × Int × Int} {n t : Nat} {s : St} (h : DI z n t s) {i : Nat} (hi : i < n) (hp : 0 < s.L i) : s.D i ≤ t ↔ rel (z i) t := by
  obtain ⟨h1, h2, h3⟩ := (h i hi).2 hp
  constructor
  · intro hd
    have : s.D i = t := by omega
    rwa [this] at h2
  · intro hr
    rcases Int.lt_or_le (t : Int) (s.D i) with h4 | h4
    · exact absurd hr (h3 t (Nat.le_refl _) h4)
    · exact h4
theorem cl_at {z : Nat → Int × Int × Int} {t : Int} {L : Nat → Int} {n i : Nat} (hi : i < n) : cL z t L n i = if rel (z i) t then (z i).2.1 else L i := by unfold cL; simp [hi]
theorem cd_at {z : Nat → Int × Int × Int} {t : Int} {L : Nat → Int} {n i : Nat} (hi : i < n) : cD z t L n i = if rel (z i) t then t + (z i).1 else L i := by unfold cD; simp [hi]
theorem step_l (z : Nat → Int × Int × Int) (n : Nat) (t : Int) (s : St) (i : Nat) : (step z n t s).L i = if 0 ≤ pick z n t s ∧ (i : Int) = pick z n t s then cL z t s.L n i - 1 else cL z t s.L n i := by
  unfold step
  dsimp only
  by_cases h : pick z n t s < 0
  · rw [if_pos h, if_neg (by omega)]
  · rw [if_neg h]
    unfold upd
    by_cases e : i = (pick z n t s).toNat
    · rw [if_pos e, if_pos (by omega), ← e]
    · rw [if_neg e, if_neg (by omega)]
theorem di_step {z : Nat → Int × Int × Int} {n t : Nat} {s : St} (hz : ∀ i, i < n → TaskOk (z i)) (h : DI z n t s) : DI z n (t + 1) (step z n t s) := by
  intro i hi
  have hp := nx_pos (cL z t s.L n) (cD z t s.D n) n
  have hb := nx_bd (cL z t s.L n) (cD z t s.D n) n
  have hL := step_l z n t s i
  have hD : (step z n t s).D i = cD z t s.D n i := rfl
  have h0 := h i hi
  have hto := hz i hi
  have hl1 := cl_at (z := z) (t := (t : Int)) (L := s.L) hi
  have hnn : 0 ≤ cL z t s.L n i := by
    rw [hl1]
    have := hto.2.2.1
    split <;> omega
  have hge : 0 ≤ (step z n t s).L i := by
    rw [hL]
    split
    · rename_i e
      have e1 := e.1
      unfold pick at e1 e
      have := hp e1
      rw [show (nx (cL z t s.L n) (cD z t s.D n) n).toNat = i by omega] at this
      omega
    · exact hnn
  refine ⟨hge, fun hpos => ?_⟩
  have hpos1 : 0 < cL z t s.L n i := by
    rw [hL] at hpos
    split at hpos <;> omega
  rw [hD, cd_at hi]
  rw [hl1] at hpos1
  by_cases hr : rel (z i) t
  · rw [if_pos hr]
    have p1 := hto.1
    refine ⟨by omega, rel_per hto hr rfl, fun r hr1 hr2 => ?_⟩
    have := rel_next (s := r - t) hto hr (by omega) (by omega)
    rwa [show t + (r - t) = r by omega] at this
  · rw [if_neg hr] at hpos1 ⊢
    obtain ⟨k1, k2, k3⟩ := h0.2 hpos1
    have hne : ¬ s.D i ≤ t := fun k => hr ((di_rel h hi hpos1).1 k)
    exact ⟨by omega, k2, fun r hr1 hr2 => k3 r (by omega) hr2⟩
theorem di_0 (z : Nat → Int × Int × Int) (n : Nat) : DI z n 0 (st z n 0) := fun i hi => ⟨Int.le_refl _, fun h => absurd h (by simp [st])⟩
theorem di_all {z : Nat → Int × Int × Int} {n : Nat} (hz : ∀ i, i < n → TaskOk (z i)) (t : Nat) : DI z n t (st z n t) := by
  induction t with
  | zero => exact di_0 z n
  | succ t ih => exact di_step hz ih
theorem nodup_jg {js : List Jb} (hc : (js.map fun j => j.2.2).Nodup) {a b : Nat} (ha : a < js.length) (hb : b < js.length) (e : (jg js a).2.2 = (jg js b).2.2) : a = b := by
  have h1 := List.pairwise_iff_getElem.1 hc
  unfold jg at e
  rw [List.getD_eq_getElem?_getD, List.getD_eq_getElem?_getD, List.getElem?_eq_getElem ha, List.getElem?_eq_getElem hb] at e
  rcases Nat.lt_trichotomy a b with h | h | h
  · have := h1 a b (by simpa using ha) (by simpa using hb) h
    simp only [List.getElem_map] at this
    exact absurd e this
  · exact h
  · have := h1 b a (by simpa using hb) (by simpa using ha) h
    simp only [List.getElem_map] at this
    exact absurd e.symm this
/-! One tick, for the row. -/
/-- Each task counts once: what is missed. -/
theorem mX_at {t : Int} {js : List Jb} {X : Nat → Int} (hc : (js.map fun j => j.2.2).Nodup) (hn : ∀ j ∈ js, 0 ≤ j.2.2) (k : Nat) (hk : k ≤ js.length) (i : Nat) :
    mX t js X k i = if ∃ m, m < k ∧ (jg js m).2.2 = (i : Int) ∧ (jg js m).2.1 ≤ t then X i + 1 else X i := by
  have inj : ∀ a b, a < js.length → b < js.length → (jg js a).2.2 = (jg js b).2.2 → a = b := fun a b ha hb e => nodup_jg hc ha hb e
  induction k with
  | zero =>
    rw [if_neg]
    · rfl
    · rintro ⟨m, hm, _⟩; omega
  | succ k ih =>
    have ih := ih (by omega)
    have hkl : k < js.length := by omega
    have hj := hn _ (jg_mem hkl)
    unfold mX
    by_cases hd : (jg js k).2.1 ≤ t
    · rw [if_pos hd]
      unfold upd
      by_cases e : i = (jg js k).2.2.toNat
      · have e2 : (jg js k).2.2 = (i : Int) := by omega
        rw [if_pos e, ← e, ih, if_neg, if_pos]
        · exact ⟨k, by omega, e2, hd⟩
        · rintro ⟨m, hm, e3, _⟩
          have := inj m k (by omega) hkl (by rw [e3, e2])
          omega
      · rw [if_neg e, ih]
        have : (∃ m, m < k ∧ (jg js m).2.2 = (i : Int) ∧ (jg js m).2.1 ≤ t) ↔ (∃ m, m < k + 1 ∧ (jg js m).2.2 = (i : Int) ∧ (jg js m).2.1 ≤ t) := by
          constructor
          · rintro ⟨m, hm, r⟩; exact ⟨m, by omega, r⟩
          · rintro ⟨m, hm, r⟩
            rcases Nat.lt_or_ge m k with h1 | h1
            · exact ⟨m, h1, r⟩
            · obtain rfl : m = k := by omega
              exact absurd (by omega) e
        simp only [this]
    · rw [if_neg hd, ih]
      have : (∃ m, m < k ∧ (jg js m).2.2 = (i : Int) ∧ (jg js m).2.1 ≤ t) ↔ (∃ m, m < k + 1 ∧ (jg js m).2.2 = (i : Int) ∧ (jg js m).2.1 ≤ t) := by
        constructor
        · rintro ⟨m, hm, r⟩; exact ⟨m, by omega, r⟩
        · rintro ⟨m, hm, r⟩
          rcases Nat.lt_or_ge m k with h1 | h1
          · exact ⟨m, h1, r⟩
          · obtain rfl : m = k := by omega
            exact absurd r.2 hd
      simp only [this]
theorem ji_miss {z : Nat → Int × Int × Int} {n t : Nat} {js : List Jb} {s : St} {X : Nat → Int} (hd : DI z n t s) (h : JI z n t js s) (hX : ∀ i, i < n → X i = s.M i) (i : Nat) (hi : i < n) : mX t js X js.length i = cM z t s.L s.M n i := by
  rw [mX_at h.c (fun j hj => by obtain ⟨k, _, rfl, _⟩ := h.a j hj; show (0 : Int) ≤ (k : Int); omega) js.length (Nat.le_refl _) i, hX i hi]
  unfold cM
  have : (∃ m, m < js.length ∧ (jg js m).2.2 = (i : Int) ∧ (jg js m).2.1 ≤ (t : Int)) ↔ (i < n ∧ rel (z i) t ∧ 0 < s.L i) := by
    constructor
    · rintro ⟨m, hm, e, d⟩
      obtain ⟨k, hk, ej, hp⟩ := h.a _ (jg_mem hm)
      rw [ej] at e d
      have : k = i := by
        have h5 : (k : Int) = (i : Int) := e
        omega
      subst this
      exact ⟨hk, (di_rel hd hk hp).1 d, hp⟩
    · rintro ⟨_, hr, hp⟩
      obtain ⟨m, hm, e⟩ := mem_jg (h.b i hi hp)
      exact ⟨m, hm, by rw [e], by rw [e]; exact (di_rel hd hi hp).2 hr⟩
  simp only [this]
/-- What is in the row behind the coming. -/
structure JC (n : Nat) (js : List Jb) (L D : Nat → Int) : Prop where
  a : ∀ j ∈ js, ∃ i, i < n ∧ j = (L i, D i, (i : Int)) ∧ 0 < L i
  b : ∀ i, i < n → 0 < L i → (L i, D i, (i : Int)) ∈ js
  c : (js.map fun j => j.2.2).Nodup
theorem ar_mem {z : Nat → Int × Int × Int} {t : Int} {js : List Jb} {k : Nat} {j : Jb} : j ∈ ar z t js k ↔ j ∈ js ∨ ∃ i, i < k ∧ rel (z i) t ∧ j = ((z i).2.1, t + (z i).1, (i : Int)) := by
  induction k with
  | zero =>
    unfold ar
    constructor
    · exact .inl
    · rintro (h | ⟨i, hi, _⟩)
      · exact h
      · omega
  | succ k ih =>
    unfold ar
    by_cases hr : rel (z k) t
    · rw [if_pos hr, List.mem_append, ih, List.mem_singleton]
      constructor
      · rintro ((h | ⟨i, hi, r⟩) | rfl)
        · exact .inl h
        · exact .inr ⟨i, by omega, r⟩
        · exact .inr ⟨k, by omega, hr, rfl⟩
      · rintro (h | ⟨i, hi, r, e⟩)
        · exact .inl (.inl h)
        · rcases Nat.lt_or_ge i k with h1 | h1
          · exact .inl (.inr ⟨i, h1, r, e⟩)
          · obtain rfl : i = k := by omega
            exact .inr e
    · rw [if_neg hr, ih]
      constructor
      · rintro (h | ⟨i, hi, r⟩)
        · exact .inl h
        · exact .inr ⟨i, by omega, r⟩
      · rintro (h | ⟨i, hi, r, e⟩)
        · exact .inl h
        · rcases Nat.lt_or_ge i k with h1 | h1
          · exact .inr ⟨i, h1, r, e⟩
          · obtain rfl : i = k := by omega
            exact absurd r hr
theorem ar_nodup {z : Nat → Int × Int × Int} {t : Int} {js : List Jb} {k : Nat} (hc : (js.map fun j => j.2.2).Nodup) (hn : ∀ j ∈ js, ∀ i, i < k → rel (z i) t → j.2.2 ≠ (i : Int)) : ((ar z t js k).map fun j => j.2.2).Nodup := by
  induction k with
  | zero => exact hc
  | succ k ih =>
    have ih := ih fun j hj i hi => hn j hj i (by omega)
    unfold ar
    by_cases hr : rel (z k) t
    · rw [if_pos hr, List.map_append, List.nodup_append]
      refine ⟨ih, by simp, ?_⟩
      intro a ha b hb
      rw [List.mem_map] at ha
      obtain ⟨j, hj, rfl⟩ := ha
      simp only [List.map_cons, List.map_nil, List.mem_singleton] at hb
      subst hb
      rcases ar_mem.1 hj with h1 | ⟨i, hi, _, rfl⟩
      · exact hn j h1 k (by omega) hr
      · show (i : Int) ≠ (k : Int)
        omega
    · rw [if_neg hr]; exact ih
theorem ji_come {z : Nat → Int × Int × Int} {n t : Nat} {js : List Jb} {s : St} (hz : ∀ i, i < n → TaskOk (z i)) (hd : DI z n t s) (h : JI z n t js s) : JC n (ar z t (kp t js js.length) n) (cL z t s.L n) (cD z t s.D n) := by
  have hk : ∀ j, j ∈ kp t js js.length ↔ j ∈ js ∧ (t : Int) < j.2.1 := by
    intro j
    unfold kp
    rw [List.take_length, List.mem_filter, decide_eq_true_iff]
  refine ⟨fun j hj => ?_, fun i hi hp => ?_, ar_nodup ?_ ?_⟩
  · rcases ar_mem.1 hj with h1 | ⟨i, hi, hr, rfl⟩
    · obtain ⟨h2, h3⟩ := (hk j).1 h1
      obtain ⟨i, hi, rfl, hp⟩ := h.a j h2
      have hr : ¬ rel (z i) t := fun k => by have := (di_rel hd hi hp).2 k; have h3' : (t : Int) < s.D i := h3; omega
      refine ⟨i, hi, ?_, ?_⟩
      · rw [cl_at hi, cd_at hi, if_neg hr, if_neg hr]
      · rw [cl_at hi, if_neg hr]; exact hp
    · refine ⟨i, hi, ?_, ?_⟩
      · rw [cl_at hi, cd_at hi, if_pos hr, if_pos hr]
      · rw [cl_at hi, if_pos hr]; have := (hz i hi).2.2.1; omega
  · rw [ar_mem]
    by_cases hr : rel (z i) t
    · right
      refine ⟨i, hi, hr, ?_⟩
      rw [cl_at hi, cd_at hi, if_pos hr, if_pos hr]
    · left
      rw [cl_at hi, if_neg hr] at hp
      rw [cl_at hi, cd_at hi, if_neg hr, if_neg hr, hk]
      refine ⟨h.b i hi hp, ?_⟩
      show (t : Int) < s.D i
      rcases Int.lt_or_le (t : Int) (s.D i) with h1 | h1
      · exact h1
      · exact absurd ((di_rel hd hi hp).1 h1) hr
  · refine List.Sublist.nodup ?_ h.c
    unfold kp
    rw [List.take_length]
    exact List.Sublist.map _ List.filter_sublist
  · intro j hj i hi hr e
    obtain ⟨h2, h3⟩ := (hk j).1 hj
    obtain ⟨k, hk2, rfl, hp⟩ := h.a j h2
    have : k = i := by
        have h5 : (k : Int) = (i : Int) := e
        omega
    subst this
    have h4 := (di_rel hd hk2 hp).2 hr
    have h3' : (t : Int) < s.D k := h3
    omega
/-- The best of a row is the least by deadline, then by task. -/
theorem bs_least (js : List Jb) (k : Nat) : (bs js k < 0 → k = 0) ∧ (0 ≤ bs js k → ∀ m, m < k → (jg js (bs js k).toNat).2.1 < (jg js m).2.1 ∨ ((jg js (bs js k).toNat).2.1 = (jg js m).2.1 ∧ (jg js (bs js k).toNat).2.2 ≤ (jg js m).2.2)) := by
  induction k with
  | zero => exact ⟨fun _ => rfl, fun _ m hm => by omega⟩
  | succ k ih =>
    unfold bs
    by_cases h : bs js k < 0 ∨ (jg js k).2.1 < (jg js (bs js k).toNat).2.1 ∨ ((jg js k).2.1 = (jg js (bs js k).toNat).2.1 ∧ (jg js k).2.2 < (jg js (bs js k).toNat).2.2)
    · rw [if_pos h]
      refine ⟨fun h => by omega, fun _ m hm => ?_⟩
      simp only [Int.toNat_natCast]
      rcases Nat.lt_or_ge m k with h1 | h1
      · rcases Int.lt_or_le (bs js k) 0 with h2 | h2
        · have := ih.1 h2; omega
        · have := ih.2 h2 m h1
          omega
      · obtain rfl : m = k := by omega
        exact .inr ⟨rfl, Int.le_refl _⟩
    · rw [if_neg h]
      refine ⟨fun h => by omega, fun h2 m hm => ?_⟩
      rcases Nat.lt_or_ge m k with h1 | h1
      · exact ih.2 h2 m h1
      · obtain rfl : m = k := by omega
        omega
/-- The next task, the lowest of those that are due first. -/
theorem nx_first (L D : Nat → Int) (n : Nat) : 0 ≤ nx L D n → ∀ i, i < (nx L D n).toNat → 0 < L i → D (nx L D n).toNat < D i := by
  induction n with
  | zero => intro h; simp [nx] at h
  | succ n ih =>
    intro h i hi hp
    unfold nx at h hi ⊢
    by_cases c : 0 < L n ∧ (nx L D n < 0 ∨ D n < D (nx L D n).toNat)
    · rw [if_pos c] at h hi ⊢
      simp only [Int.toNat_natCast] at hi ⊢
      have hl := nx_least L D n
      rcases Int.lt_or_le (nx L D n) 0 with h1 | h1
      · exact absurd hp (hl.1 h1 i hi)
      · have := hl.2 h1 i hi hp
        rcases c.2 with c2 | c2 <;> omega
    · rw [if_neg c] at h hi ⊢
      exact ih h i hi hp
theorem best_is {n : Nat} {js : List Jb} {L D : Nat → Int} (h : JC n js L D) : (bs js js.length < 0 → nx L D n = -1) ∧ (0 ≤ bs js js.length → (jg js (bs js js.length).toNat).2.2 = nx L D n) := by
  have hb := bs_least js js.length
  have hbb := bs_bd js js.length
  have hn := nx_least L D n
  have hnb := nx_bd L D n
  have hnp := nx_pos L D n
  have hnf := nx_first L D n
  constructor
  · intro h1
    have hl := hb.1 h1
    rcases Int.lt_or_le (nx L D n) 0 with h2 | h2
    · omega
    · have := h.b (nx L D n).toNat (by omega) (hnp h2)
      rw [List.length_eq_zero_iff.1 hl] at this
      cases this
  · intro h1
    obtain ⟨i, hi, e, hp⟩ := h.a _ (jg_mem (js := js) (k := (bs js js.length).toNat) (by omega))
    have h2 : 0 ≤ nx L D n := by
      rcases Int.lt_or_le (nx L D n) 0 with h2 | h2
      · exact absurd hp (hn.1 h2 i hi)
      · exact h2
    have hx := hnp h2
    obtain ⟨m, hm, em⟩ := mem_jg (h.b (nx L D n).toNat (by omega) hx)
    have k1 := hb.2 h1 m hm
    rw [e, em] at k1
    rw [e]
    have k2 := hn.2 h2 i hi hp
    have k3 := hnf h2 i
    show (i : Int) = nx L D n
    have k1' : D i < D (nx L D n).toNat ∨ (D i = D (nx L D n).toNat ∧ (i : Int) ≤ ((nx L D n).toNat : Int)) := k1
    rcases Nat.lt_or_ge i (nx L D n).toNat with h3 | h3
    · have := k3 h3 hp
      omega
    · omega
theorem mem_rest {js : List Jb} {b : Nat} (hb : b < js.length) {j : Jb} : j ∈ js.take b ++ js.drop (b + 1) ↔ ∃ k, k < js.length ∧ k ≠ b ∧ jg js k = j := by
  rw [List.mem_append]
  constructor
  · rintro (h | h)
    · obtain ⟨k, hk, e⟩ := List.getElem_of_mem h
      rw [List.length_take] at hk
      refine ⟨k, by omega, by omega, ?_⟩
      rw [List.getElem_take] at e
      unfold jg
      rw [List.getD_eq_getElem?_getD, List.getElem?_eq_getElem (by omega)]
      exact e
    · obtain ⟨k, hk, e⟩ := List.getElem_of_mem h
      rw [List.length_drop] at hk
      refine ⟨b + 1 + k, by omega, by omega, ?_⟩
      rw [List.getElem_drop] at e
      unfold jg
      rw [List.getD_eq_getElem?_getD, List.getElem?_eq_getElem (by omega)]
      exact e
  · rintro ⟨k, hk, hne, e⟩
    unfold jg at e
    rw [List.getD_eq_getElem?_getD, List.getElem?_eq_getElem hk] at e
    rcases Nat.lt_or_ge k b with h1 | h1
    · left
      rw [List.mem_take_iff_getElem]
      exact ⟨k, by omega, e⟩
    · right
      rw [List.mem_drop_iff_getElem]
      exact ⟨k - (b + 1), by omega, by simpa [show k - (b + 1) + (b + 1) = k by omega, show b + 1 + (k - (b + 1)) = k by omega] using e⟩
theorem mem_set {js : List Jb} {b : Nat} (hb : b < js.length) {v j : Jb} : j ∈ js.set b v ↔ j = v ∨ ∃ k, k < js.length ∧ k ≠ b ∧ jg js k = j := by
  constructor
  · intro h
    obtain ⟨k, hk, e⟩ := List.getElem_of_mem h
    rw [List.length_set] at hk
    rw [List.getElem_set] at e
    by_cases c : b = k
    · rw [if_pos c] at e; exact .inl e.symm
    · rw [if_neg c] at e
      refine .inr ⟨k, hk, fun x => c x.symm, ?_⟩
      unfold jg
      rw [List.getD_eq_getElem?_getD, List.getElem?_eq_getElem hk]
      exact e
  · rintro (rfl | ⟨k, hk, hne, e⟩)
    · exact List.mem_set hb _
    · unfold jg at e
      rw [List.getD_eq_getElem?_getD, List.getElem?_eq_getElem hk] at e
      have : (js.set b v)[k]'(by rw [List.length_set]; exact hk) = j := by rw [List.getElem_set, if_neg (fun x => hne x.symm)]; exact e
      rw [← this]
      exact List.getElem_mem _
theorem fin_len (js : List Jb) (b : Nat) : (fin js b).length ≤ js.length := by
  unfold fin
  split
  · rw [List.length_append, List.length_take, List.length_drop]; omega
  · rw [List.length_set]; exact Nat.le_refl _
theorem fin_nodup {js : List Jb} {b : Nat} (hc : (js.map fun j => j.2.2).Nodup) (hb : b < js.length) : ((fin js b).map fun j => j.2.2).Nodup := by
  unfold fin
  split
  · refine List.Sublist.nodup (List.Sublist.map _ ?_) hc
    have h1 : (js.take b ++ js.drop (b + 1)).Sublist (js.take b ++ js.drop b) := List.Sublist.append (List.Sublist.refl _) (by rw [← List.drop_drop]; exact List.drop_sublist _ _)
    rwa [List.take_append_drop] at h1
  · have : (js.set b ((jg js b).1 - 1, (jg js b).2)).map (fun j => j.2.2) = js.map fun j => j.2.2 := by
      rw [List.map_set]
      apply List.ext_getElem?
      intro k
      rw [List.getElem?_set]
      split
      · rename_i e
        subst e
        unfold jg
        simp [List.getD_eq_getElem?_getD, List.getElem?_eq_getElem hb, hb]
      · rfl
    rw [this]; exact hc
/-- The row behind a tick. -/
def row1 (z : Nat → Int × Int × Int) (n : Nat) (t : Int) (js : List Jb) : List Jb :=
  if bs (ar z t (kp t js js.length) n) (ar z t (kp t js js.length) n).length < 0 then ar z t (kp t js js.length) n
  else fin (ar z t (kp t js js.length) n) (bs (ar z t (kp t js js.length) n) (ar z t (kp t js js.length) n).length).toNat
theorem ji_step {z : Nat → Int × Int × Int} {n t : Nat} {js : List Jb} {s : St} (hn : n ≤ 16) (hz : ∀ i, i < n → TaskOk (z i)) (hd : DI z n t s) (h : JI z n t js s) : JI z n (t + 1) (row1 z n t js) (step z n t s) := by
  have hc := ji_come hz hd h
  have hl : (ar z t (kp t js js.length) n).length ≤ 16 * (t + 1) := by
    have h1 := ar_len z t (kp t js js.length) n
    have h2 := kp_len t js js.length
    have h3 := h.len
    omega
  have hL := step_l z n t s
  have hD : ∀ i, (step z n t s).D i = cD z t s.D n i := fun _ => rfl
  unfold pick at hL
  unfold row1
  generalize ar z t (kp t js js.length) n = r at *
  generalize cL z t s.L n = L at *
  generalize cD z t s.D n = D at *
  obtain ⟨h1, h2⟩ := best_is hc
  have hbb := bs_bd r r.length
  generalize bs r r.length = b at *
  by_cases hb : b < 0
  · rw [if_pos hb]
    have e := h1 hb
    have hL2 : ∀ i, (step z n t s).L i = L i := fun i => by rw [hL, if_neg (by omega)]
    exact ⟨fun j hj => by
      obtain ⟨i, hi, e, hp⟩ := hc.a j hj
      exact ⟨i, hi, by rw [hL2, hD]; exact e, by rw [hL2]; exact hp⟩, fun i hi hp => by rw [hL2] at hp ⊢; rw [hD]; exact hc.b i hi hp, hc.c, hl⟩
  · rw [if_neg hb]
    have e := h2 (by omega)
    have hbl : b.toNat < r.length := by omega
    obtain ⟨x, hx, ex, hp⟩ := hc.a _ (jg_mem hbl)
    have ex2 : nx L D n = (x : Int) := by rw [← e, ex]
    have hL2 : ∀ i, (step z n t s).L i = if i = x then L i - 1 else L i := fun i => by
      rw [hL, ex2]
      by_cases c : i = x
      · rw [if_pos (by omega), if_pos c]
      · rw [if_neg (by omega), if_neg c]
    have other : ∀ k, k < r.length → k ≠ b.toNat → ∃ i, i < n ∧ i ≠ x ∧ jg r k = (L i, D i, (i : Int)) ∧ 0 < L i := by
      intro k hk hne
      obtain ⟨i, hi, ei, hpi⟩ := hc.a _ (jg_mem hk)
      refine ⟨i, hi, fun c => ?_, ei, hpi⟩
      subst c
      exact hne (nodup_jg hc.c hk hbl (by rw [ei, ex]))
    refine ⟨?_, ?_, fin_nodup hc.c hbl, Nat.le_trans (fin_len _ _) hl⟩
    · intro j hj
      have oth : (∃ k, k < r.length ∧ k ≠ b.toNat ∧ jg r k = j) → ∃ i, i < n ∧ j = ((step z n t s).L i, (step z n t s).D i, (i : Int)) ∧ 0 < (step z n t s).L i := by
        rintro ⟨k, hk, hne, ek⟩
        obtain ⟨i, hi, hix, ei, hpi⟩ := other k hk hne
        exact ⟨i, hi, by rw [hL2, if_neg hix, hD, ← ek, ei], by rw [hL2, if_neg hix]; exact hpi⟩
      unfold fin at hj
      split at hj
      · exact oth ((mem_rest hbl).1 hj)
      · rename_i hne
        rcases (mem_set hbl).1 hj with rfl | h3
        · rw [ex] at hne ⊢
          refine ⟨x, hx, by rw [hL2, if_pos rfl, hD], ?_⟩
          rw [hL2, if_pos rfl]
          have hne' : ¬ L x - 1 = 0 := hne
          omega
        · exact oth h3
    · intro i hi hpi
      rw [hL2] at hpi
      rw [hL2, hD]
      unfold fin
      by_cases c : i = x
      · subst c
        rw [if_pos rfl] at hpi ⊢
        rw [ex]
        rw [if_neg (show ¬ L i - 1 = 0 by omega)]
        exact (mem_set hbl).2 (.inl rfl)
      · rw [if_neg c] at hpi ⊢
        obtain ⟨k, hk, ek⟩ := mem_jg (hc.b i hi hpi)
        have hkb : k ≠ b.toNat := by
          rintro rfl
          rw [ex] at ek
          apply c
          have := congrArg (fun j : Jb => j.2.2) ek
          have h5 : (x : Int) = (i : Int) := this
          omega
        split
        · exact (mem_rest hbl).2 ⟨k, hk, hkb, ek⟩
        · exact (mem_set hbl).2 (.inr ⟨k, hk, hkb, ek⟩)
theorem ji_0 (z : Nat → Int × Int × Int) (n : Nat) : JI z n 0 [] (st z n 0) := ⟨fun j hj => by simp at hj, fun i hi h => absurd h (by simp [st]), by simp, by simp⟩
/-- The rows of all ticks. -/
def rowt (z : Nat → Int × Int × Int) (n : Nat) : Nat → List Jb
  | 0 => []
  | t + 1 => row1 z n t (rowt z n t)
theorem ji_all {z : Nat → Int × Int × Int} {n : Nat} (hn : n ≤ 16) (hz : ∀ i, i < n → TaskOk (z i)) (t : Nat) : JI z n t (rowt z n t) (st z n t) := by
  induction t with
  | zero => exact ji_0 z n
  | succ t ih => exact ji_step hn hz (di_all hz t) ih
/-- What is done in tick t. -/
theorem did_at (z : Nat → Int × Int × Int) (n t T : Nat) (hz : ∀ i, i < n → TaskOk (z i)) (h : t < T) : (st z n T).xs.getD t 0 = pick z n t (st z n t) := by
  induction T with
  | zero => omega
  | succ T ih =>
    have e : (st z n (T + 1)).xs = (st z n T).xs ++ [pick z n T (st z n T)] := rfl
    have hl := (sb_st hz T).x
    rw [e]
    rcases Nat.lt_or_ge t T with h1 | h1
    · rw [List.getD_eq_getElem?_getD, List.getElem?_append_left (by omega), ← List.getD_eq_getElem?_getD]
      exact ih h1
    · obtain rfl : t = T := by omega
      rw [List.getD_eq_getElem?_getD, List.getElem?_append_right (by omega), hl, Nat.sub_self]
      rfl
end Go.Proofs.Ytdbaeigbejcobaa.Dl
