import Derived.Test.YtdbaeigbejcobaaDlTick
namespace Go.Proofs.Ytdbaeigbejcobaa.Dl
set_option linter.unusedVariables false
set_option linter.unusedSimpArgs false
/-! Earliest deadline first: of tasks whose load is at most 1 no job is missed. -/
/-- A sum over the first tasks. -/
def sm (f : Nat → Int) : Nat → Int
  | 0 => 0
  | i + 1 => sm f i + f i
theorem sm_le {f g : Nat → Int} {n : Nat} (h : ∀ i, i < n → f i ≤ g i) : sm f n ≤ sm g n := by
  induction n with
  | zero => exact Int.le_refl _
  | succ n ih =>
    have h1 := ih fun i hi => h i (by omega)
    have h2 := h n (by omega)
    show sm f n + f n ≤ sm g n + g n
    omega
theorem sm_congr {f g : Nat → Int} {n : Nat} (h : ∀ i, i < n → f i = g i) : sm f n = sm g n := by
  have h1 := sm_le (f := f) (g := g) (n := n) fun i hi => by rw [h i hi]; exact Int.le_refl _
  have h2 := sm_le (f := g) (g := f) (n := n) fun i hi => by rw [h i hi]; exact Int.le_refl _
  omega
theorem sm_nonneg {f : Nat → Int} {n : Nat} (h : ∀ i, i < n → 0 ≤ f i) : 0 ≤ sm f n := by
  induction n with
  | zero => exact Int.le_refl _
  | succ n ih =>
    have h1 := ih fun i hi => h i (by omega)
    have h2 := h n (by omega)
    show 0 ≤ sm f n + f n
    omega
theorem sm_mul (f : Nat → Int) (k : Int) (n : Nat) : sm (fun i => f i * k) n = sm f n * k := by
  induction n with
  | zero => simp [sm]
  | succ n ih => show _ + _ = (_ + _) * k; rw [ih, Int.add_mul]
/-- Each is at most the sum. -/
theorem sm_one {f : Nat → Int} {n j : Nat} (hj : j < n) (h : ∀ i, i < n → 0 ≤ f i) : f j ≤ sm f n := by
  induction n with
  | zero => omega
  | succ n ih =>
    have h2 := h n (by omega)
    show f j ≤ sm f n + f n
    rcases Nat.lt_or_ge j n with h3 | h3
    · have := ih h3 fun i hi => h i (by omega)
      omega
    · obtain rfl : j = n := by omega
      have := sm_nonneg (f := f) (n := j) fun i hi => h i (by omega)
      omega
/-- One less at one place. -/
theorem sm_upd {f g : Nat → Int} {n j : Nat} (hj : j < n) (h : ∀ i, i < n → i ≠ j → f i = g i) (hf : f j = g j - 1) : sm f n = sm g n - 1 := by
  induction n with
  | zero => omega
  | succ n ih =>
    show sm f n + f n = sm g n + g n - 1
    rcases Nat.lt_or_ge j n with h3 | h3
    · have := ih h3 fun i hi => h i (by omega)
      have := h n (by omega) (by omega)
      omega
    · obtain rfl : j = n := by omega
      have := sm_congr (f := f) (g := g) (n := j) fun i hi => h i (by omega) (by omega)
      omega
/-- What the jobs cost that come from t on and are due within m ticks. -/
def rc (q : Int × Int × Int) : Nat → Nat → Int
  | _, 0 => 0
  | t, m + 1 => (if rel q t ∧ q.1 ≤ (m + 1 : Nat) then q.2.1 else 0) + rc q (t + 1) m
theorem rel_next {q : Int × Int × Int} {t s : Nat} (hq : TaskOk q) (h : rel q t) (hs : 0 < s) (hs2 : (s : Int) < q.1) : ¬ rel q ((t + s : Nat) : Int) := by
  unfold rel at *
  rintro ⟨h1, h2⟩
  have h3 := h.2
  have hp := hq.1
  have e : ((t + s : Nat) : Int) - q.2.2 = ((t : Int) - q.2.2) + s := by omega
  rw [e, Int.add_emod, h3, Int.zero_add, Int.emod_emod, Int.emod_eq_of_lt (by omega) hs2] at h2
  omega
theorem rel_per {q : Int × Int × Int} {t : Nat} {d : Int} (hq : TaskOk q) (h : rel q t) (hd : d = t + q.1) : rel q d := by
  unfold rel at *
  have hp := hq.1
  refine ⟨by omega, ?_⟩
  rw [hd, show (t : Int) + q.1 - q.2.2 = ((t : Int) - q.2.2) + q.1 by omega, Int.add_emod_right]
  exact h.2
/-- Where none comes, nothing counts. -/
theorem rc_skip {q : Int × Int × Int} (s : Nat) : ∀ (t m : Nat), s ≤ m → (∀ r, r < s → ¬ rel q ((t + r : Nat) : Int)) → rc q t m = rc q (t + s) (m - s) := by
  induction s with
  | zero => intro t m _ _; rfl
  | succ s ih =>
    intro t m hm h
    obtain ⟨m, rfl⟩ : ∃ k, m = k + 1 := ⟨m - 1, by omega⟩
    show (if rel q t ∧ _ then _ else _) + rc q (t + 1) m = _
    rw [if_neg fun k => h 0 (by omega) k.1, Int.zero_add, ih (t + 1) m (by omega) fun r hr => by
      have := h (r + 1) (by omega)
      rwa [show t + (r + 1) = t + 1 + r by omega] at this]
    rw [show t + 1 + s = t + (s + 1) by omega, show m - s = m + 1 - (s + 1) by omega]
theorem rc_bd {q : Int × Int × Int} (hq : TaskOk q) (m : Nat) : ∀ t, rc q t m ≤ (m : Int) / q.1 * q.2.1 := by
  have hp := hq.1
  have hc := hq.2.2.1
  induction m using Nat.strongRecOn with
  | ind m ih =>
    intro t
    cases m with
    | zero => simp [rc]
    | succ m =>
      have mono : (m : Int) / q.1 * q.2.1 ≤ ((m + 1 : Nat) : Int) / q.1 * q.2.1 := Int.mul_le_mul_of_nonneg_right (Int.ediv_le_ediv (by omega) (by omega)) (by omega)
      show (if rel q t ∧ q.1 ≤ (m + 1 : Nat) then q.2.1 else 0) + rc q (t + 1) m ≤ _
      by_cases h : rel q t ∧ q.1 ≤ (m + 1 : Nat)
      · rw [if_pos h]
        obtain ⟨s, hs⟩ : ∃ s : Nat, q.1 = s + 1 := ⟨(q.1 - 1).toNat, by omega⟩
        have e := rc_skip s (t + 1) m (by omega) fun r hr => by
          have := rel_next (s := r + 1) hq h.1 (by omega) (by omega)
          rwa [show t + (r + 1) = t + 1 + r by omega] at this
        have i1 := ih (m - s) (by omega) (t + 1 + s)
        rw [← e] at i1
        have e2 : ((m + 1 : Nat) : Int) / q.1 = ((m - s : Nat) : Int) / q.1 + 1 := by
          rw [show ((m + 1 : Nat) : Int) = ((m - s : Nat) : Int) + 1 * q.1 by omega, Int.add_mul_ediv_right _ _ (by omega)]
        rw [e2, Int.add_mul]
        omega
      · rw [if_neg h, Int.zero_add]
        exact Int.le_trans (ih m (by omega) (t + 1)) mono
/-- The load of all: what k ticks cost. -/
theorem cost_sm (P C : Nat → Int) (k : Int) (n : Nat) : cost P C k n = sm (fun i => k / P i * C i) n := by
  induction n with
  | zero => rfl
  | succ n ih => show _ + _ = _ + _; rw [ih]
theorem load_any {P C : Nat → Int} {n : Nat} {l : Int} (hl : 0 < l) (hP : ∀ i, i < n → 1 ≤ P i ∧ 0 ≤ C i ∧ P i ∣ l) (h : cost P C l n ≤ l) {x : Int} (hx : 0 ≤ x) : sm (fun i => x / P i * C i) n ≤ x := by
  have h1 : sm (fun i => x / P i * C i * l) n ≤ sm (fun i => l / P i * C i * x) n := by
    refine sm_le fun i hi => ?_
    obtain ⟨p1, c0, hd⟩ := hP i hi
    have e : l / P i * P i = l := Int.ediv_mul_cancel hd
    have q1 : x / P i * P i ≤ x := Int.ediv_mul_le x (by omega)
    have q2 : 0 ≤ l / P i := Int.ediv_nonneg (by omega) (by omega)
    have q3 : (x / P i * P i) * (l / P i * C i) ≤ x * (l / P i * C i) := Int.mul_le_mul_of_nonneg_right q1 (Int.mul_nonneg q2 c0)
    calc x / P i * C i * l = x / P i * C i * (l / P i * P i) := by rw [e]
      _ = (x / P i * P i) * (l / P i * C i) := by simp only [Int.mul_assoc, Int.mul_comm, Int.mul_left_comm]
      _ ≤ x * (l / P i * C i) := q3
      _ = l / P i * C i * x := Int.mul_comm _ _
  rw [sm_mul, sm_mul, ← cost_sm P C l n] at h1
  have h2 : cost P C l n * x ≤ l * x := Int.mul_le_mul_of_nonneg_right h hx
  have h3 : sm (fun i => x / P i * C i) n * l ≤ x * l := by rw [Int.mul_comm x l]; omega
  exact Int.le_of_mul_le_mul_right h3 hl
/-- What holds ahead of tick t. -/
structure EI (z : Nat → Int × Int × Int) (n t : Nat) (s : St) : Prop where
  m : ∀ i, i < n → s.M i = 0
  l : ∀ i, i < n → 0 ≤ s.L i
  w : ∀ x : Nat, sm (fun i => (if s.D i ≤ ((t + x : Nat) : Int) then s.L i else 0) + rc (z i) t x) n ≤ x
  d : ∀ i, i < n → 0 < s.L i → ∀ r : Nat, t ≤ r → (r : Int) < s.D i → ¬ rel (z i) r
/-- All that comes fits. -/
theorem rc_fits {z : Nat → Int × Int × Int} {n : Nat} (hz : ∀ i, i < n → TaskOk (z i)) (hl : ∀ x : Int, 0 ≤ x → sm (fun i => x / (z i).1 * (z i).2.1) n ≤ x) (t x : Nat) : sm (fun i => rc (z i) t x) n ≤ x :=
  Int.le_trans (sm_le fun i hi => rc_bd (hz i hi) x t) (hl x (by omega))
theorem ei_0 {z : Nat → Int × Int × Int} {n : Nat} (hz : ∀ i, i < n → TaskOk (z i)) (hl : ∀ x : Int, 0 ≤ x → sm (fun i => x / (z i).1 * (z i).2.1) n ≤ x) : EI z n 0 (st z n 0) := by
  refine ⟨fun i hi => rfl, fun i hi => Int.le_refl _, fun x => ?_, fun i hi h => absurd h (by simp [st])⟩
  have h := rc_fits hz hl 0 x
  have e : sm (fun i => (if (st z n 0).D i ≤ ((0 + x : Nat) : Int) then (st z n 0).L i else 0) + rc (z i) 0 x) n = sm (fun i => rc (z i) 0 x) n := sm_congr fun i hi => by simp [st]
  rw [e]; exact h
/-- The next one is due first. -/
theorem nx_least (L D : Nat → Int) (n : Nat) : (nx L D n < 0 → ∀ i, i < n → ¬ 0 < L i) ∧ (0 ≤ nx L D n → ∀ i, i < n → 0 < L i → D (nx L D n).toNat ≤ D i) := by
  induction n with
  | zero => exact ⟨fun _ i hi => by omega, fun _ i hi => by omega⟩
  | succ n ih =>
    unfold nx
    by_cases h : 0 < L n ∧ (nx L D n < 0 ∨ D n < D (nx L D n).toNat)
    · rw [if_pos h]
      refine ⟨fun k => by omega, fun _ i hi hp => ?_⟩
      simp only [Int.toNat_natCast]
      rcases Nat.lt_or_ge i n with h1 | h1
      · rcases h.2 with h2 | h2
        · exact absurd hp (ih.1 h2 i h1)
        · rcases Int.lt_or_le (nx L D n) 0 with h3 | h3
          · exact absurd hp (ih.1 h3 i h1)
          · have := ih.2 h3 i h1 hp; omega
      · obtain rfl : i = n := by omega
        exact Int.le_refl _
    · rw [if_neg h]
      refine ⟨fun k i hi => ?_, fun k i hi hp => ?_⟩
      · rcases Nat.lt_or_ge i n with h1 | h1
        · exact ih.1 k i h1
        · obtain rfl : i = n := by omega
          exact fun hp => h ⟨hp, .inl k⟩
      · rcases Nat.lt_or_ge i n with h1 | h1
        · exact ih.2 k i h1 hp
        · obtain rfl : i = n := by omega
          rcases Int.lt_or_le (D i) (D (nx L D i).toNat) with h2 | h2
          · exact absurd ⟨hp, .inr h2⟩ h
          · exact h2
theorem ei_step {z : Nat → Int × Int × Int} {n t : Nat} {s : St} (hz : ∀ i, i < n → TaskOk (z i)) (hl : ∀ x : Int, 0 ≤ x → sm (fun i => x / (z i).1 * (z i).2.1) n ≤ x) (h : EI z n t s) : EI z n (t + 1) (step z n t s) := by
  -- none that is due now is left
  have h0 : ∀ i, i < n → s.D i ≤ t → s.L i = 0 := by
    intro i hi hd
    have w0 := h.w 0
    have hn : ∀ j, j < n → 0 ≤ (if s.D j ≤ ((t + 0 : Nat) : Int) then s.L j else 0) + rc (z j) t 0 := by
      intro j hj
      have := h.l j hj
      have e : rc (z j) t 0 = 0 := rfl
      rw [e]
      split <;> omega
    have h1 := sm_one hi hn
    rw [if_pos (by simpa using hd)] at h1
    have h2 : rc (z i) t 0 = 0 := rfl
    have := h.l i hi
    omega
  have hr0 : ∀ i, i < n → rel (z i) t → s.L i = 0 := by
    intro i hi hr
    rcases Int.lt_or_le 0 (s.L i) with h1 | h1
    · rcases Int.lt_or_le (t : Int) (s.D i) with h2 | h2
      · exact absurd hr (h.d i hi h1 t (Nat.le_refl _) h2)
      · exact h0 i hi h2
    · have := h.l i hi; omega
  have hM : (step z n t s).M = cM z t s.L s.M n := rfl
  have hD : (step z n t s).D = cD z t s.D n := rfl
  have hL : (step z n t s).L = if nx (cL z t s.L n) (cD z t s.D n) n < 0 then cL z t s.L n else upd (cL z t s.L n) (nx (cL z t s.L n) (cD z t s.D n) n).toNat (cL z t s.L n (nx (cL z t s.L n) (cD z t s.D n) n).toNat - 1) := rfl
  have hl1 : ∀ i, i < n → cL z t s.L n i = if rel (z i) t then (z i).2.1 else s.L i := fun i hi => by unfold cL; simp [hi]
  have hd1 : ∀ i, i < n → cD z t s.D n i = if rel (z i) t then t + (z i).1 else s.D i := fun i hi => by unfold cD; simp [hi]
  have hlp : ∀ i, i < n → 0 ≤ cL z t s.L n i := by
    intro i hi
    rw [hl1 i hi]
    have := h.l i hi
    have := (hz i hi).2.2.1
    split <;> omega
  -- what is left and comes, behind the coming
  have hw1 : ∀ x : Nat, sm (fun i => (if cD z t s.D n i ≤ ((t + 1 + x : Nat) : Int) then cL z t s.L n i else 0) + rc (z i) (t + 1) x) n ≤ ((x + 1 : Nat) : Int) := by
    intro x
    refine Int.le_trans (Int.le_of_eq (sm_congr fun i hi => ?_)) (h.w (x + 1))
    have e : rc (z i) t (x + 1) = (if rel (z i) t ∧ (z i).1 ≤ (x + 1 : Nat) then (z i).2.1 else 0) + rc (z i) (t + 1) x := rfl
    rw [e, hl1 i hi, hd1 i hi]
    have a1 : ((t + 1 + x : Nat) : Int) = ((t + (x + 1) : Nat) : Int) := by omega
    rw [a1]
    by_cases hr : rel (z i) t
    · have := hr0 i hi hr
      rw [if_pos hr, if_pos hr, this]
      have hz0 : (if s.D i ≤ ((t + (x + 1) : Nat) : Int) then (0 : Int) else 0) = 0 := by split <;> rfl
      rw [hz0]
      by_cases hp : (z i).1 ≤ ((x + 1 : Nat) : Int)
      · have c1 : (t : Int) + (z i).1 ≤ ((t + (x + 1) : Nat) : Int) := by omega
        rw [if_pos c1, if_pos ⟨hr, hp⟩]; omega
      · have c1 : ¬ (t : Int) + (z i).1 ≤ ((t + (x + 1) : Nat) : Int) := by omega
        have c2 : ¬ (rel (z i) t ∧ (z i).1 ≤ ((x + 1 : Nat) : Int)) := fun k => hp k.2
        rw [if_neg c1, if_neg c2]; omega
    · have c2 : ¬ (rel (z i) t ∧ (z i).1 ≤ ((x + 1 : Nat) : Int)) := fun k => hr k.1
      rw [if_neg hr, if_neg hr, if_neg c2]; omega
  have hnl := nx_least (cL z t s.L n) (cD z t s.D n) n
  have hnb := nx_bd (cL z t s.L n) (cD z t s.D n) n
  have hnp := nx_pos (cL z t s.L n) (cD z t s.D n) n
  have hdd : ∀ i, i < n → 0 < cL z t s.L n i → ∀ r : Nat, t + 1 ≤ r → (r : Int) < cD z t s.D n i → ¬ rel (z i) r := by
    intro i hi hp r hr1 hr2
    rw [hd1 i hi] at hr2
    rw [hl1 i hi] at hp
    by_cases hr : rel (z i) t
    · rw [if_pos hr] at hr2
      have := rel_next (s := r - t) (hz i hi) hr (by omega) (by omega)
      rwa [show t + (r - t) = r by omega] at this
    · rw [if_neg hr] at hr2 hp
      exact h.d i hi hp r (by omega) hr2
  rw [show (EI z n (t + 1) (step z n t s)) = EI z n (t + 1) (step z n t s) from rfl]
  generalize hL1 : cL z t s.L n = L1 at *
  generalize hD1 : cD z t s.D n = D1 at *
  obtain ⟨b, hb⟩ : ∃ b, nx L1 D1 n = b := ⟨_, rfl⟩
  rw [hb] at hnl hnb hnp hL
  have hm : ∀ i, i < n → (step z n t s).M i = 0 := by
    intro i hi
    rw [hM]
    unfold cM
    rw [if_neg]
    · exact h.m i hi
    · rintro ⟨_, hr, hp⟩
      have := hr0 i hi hr
      omega
  by_cases hb0 : b < 0
  · rw [if_pos hb0] at hL
    have hz1 : ∀ i, i < n → L1 i = 0 := fun i hi => by
      have := hnl.1 hb0 i hi
      have := hlp i hi
      omega
    refine ⟨hm, fun i hi => by rw [hL]; exact hlp i hi, fun x => ?_, fun i hi hp => by rw [hL] at hp; rw [hD]; exact hdd i hi hp⟩
    rw [hL, hD]
    have e : sm (fun i => (if D1 i ≤ ((t + 1 + x : Nat) : Int) then L1 i else 0) + rc (z i) (t + 1) x) n = sm (fun i => rc (z i) (t + 1) x) n := sm_congr fun i hi => by rw [hz1 i hi]; split <;> omega
    rw [e]
    exact rc_fits hz hl (t + 1) x
  · rw [if_neg hb0] at hL
    have hbn : b.toNat < n := by omega
    have hbp := hnp (by omega)
    have hLi : ∀ i, (step z n t s).L i = if i = b.toNat then L1 b.toNat - 1 else L1 i := fun i => by rw [hL]; rfl
    refine ⟨hm, fun i hi => ?_, fun x => ?_, fun i hi hp => ?_⟩
    · rw [hLi]
      have := hlp i hi
      split <;> omega
    · rw [hD]
      by_cases hdx : D1 b.toNat ≤ ((t + 1 + x : Nat) : Int)
      · have h1 := hw1 x
        have h2 := sm_upd (n := n) (j := b.toNat) (f := fun i => (if D1 i ≤ ((t + 1 + x : Nat) : Int) then (step z n t s).L i else 0) + rc (z i) (t + 1) x) (g := fun i => (if D1 i ≤ ((t + 1 + x : Nat) : Int) then L1 i else 0) + rc (z i) (t + 1) x) hbn
          (fun i hi hne => by rw [hLi, if_neg hne]) (by rw [hLi, if_pos rfl, if_pos hdx, if_pos hdx]; omega)
        rw [h2]; omega
      · have e : sm (fun i => (if D1 i ≤ ((t + 1 + x : Nat) : Int) then (step z n t s).L i else 0) + rc (z i) (t + 1) x) n = sm (fun i => rc (z i) (t + 1) x) n := by
          refine sm_congr fun i hi => ?_
          by_cases hd : D1 i ≤ ((t + 1 + x : Nat) : Int)
          · have hne : i ≠ b.toNat := by rintro rfl; exact hdx hd
            have hzero : L1 i = 0 := by
              rcases Int.lt_or_le 0 (L1 i) with h1 | h1
              · have := hnl.2 (by omega) i hi h1; omega
              · have := hlp i hi; omega
            rw [hLi, if_neg hne, hzero, if_pos hd]; omega
          · rw [if_neg hd]; omega
        rw [e]
        exact rc_fits hz hl (t + 1) x
    · rw [hD]
      refine hdd i hi ?_
      rw [hLi] at hp
      by_cases e : i = b.toNat
      · rw [if_pos e] at hp; rw [e]; omega
      · rwa [if_neg e] at hp
theorem ei_all {z : Nat → Int × Int × Int} {n : Nat} (hz : ∀ i, i < n → TaskOk (z i)) (hl : ∀ x : Int, 0 ≤ x → sm (fun i => x / (z i).1 * (z i).2.1) n ≤ x) (t : Nat) : EI z n t (st z n t) := by
  induction t with
  | zero => exact ei_0 hz hl
  | succ t ih => exact ei_step hz hl ih
/-- Of tasks whose load is at most 1 none is missed. -/
theorem meets {z : Nat → Int × Int × Int} {n : Nat} (hz : ∀ i, i < n → TaskOk (z i)) (h : cost (fun i => (z i).1) (fun i => (z i).2.1) (lc (per z) n) n ≤ (lc (per z) n : Int)) (t i : Nat) (hi : i < n) : (st z n t).M i = 0 := by
  have hp : ∀ i, i < n → 0 < per z i := fun i hi => by have := (hz i hi).1; unfold per; omega
  have hl := lc_pos hp n (Nat.le_refl _)
  refine (ei_all hz (fun x hx => ?_) t).m i hi
  refine load_any (P := fun i => (z i).1) (C := fun i => (z i).2.1) (l := (lc (per z) n : Int)) (by omega) (fun i hi => ?_) h hx
  have h1 := hz i hi
  unfold TaskOk at h1
  refine ⟨h1.1, by show 0 ≤ (z i).2.1; omega, ?_⟩
  have h2 := lc_dvd (z := per z) n i hi
  have e : (z i).1 = (per z i : Nat) := by unfold per; omega
  show (z i).1 ∣ _
  rw [e]
  exact Int.natCast_dvd_natCast.2 h2
end Go.Proofs.Ytdbaeigbejcobaa.Dl
