import Derived.Test.YtdbaeigbejcobaaCalNth
import Derived.OpenShut
namespace Go.Proofs.Ytdbaeigbejcobaa.Cal
open Go.RowKit Go.Proofs.Ytdbaeigbejcobaa.PCalendarWork Go.Proofs.YtdbaeigbejcobaaW.PrintWords
set_option linter.unusedVariables false
set_option linter.unusedSimpArgs false
theorem idx_l0 (l : List Int) (v : Int) (hl : l.length ≤ 1000) (n : Nat) : ∀ (k j : Nat), j + n = l.length → n < k → ∃ r, slices_Index_int_int.l0 k l v (l.length : Int) (j : Int) = some r ∧ (0 ≤ r ↔ v ∈ l.drop j) := by
  induction n with
  | zero =>
    intro k j h1 h2
    obtain ⟨k, rfl⟩ : ∃ k', k = k' + 1 := ⟨k - 1, by omega⟩
    refine ⟨-1, ?_, ?_⟩
    · simp only [slices_Index_int_int.l0]; rw [if_neg (by omega)]
    · rw [List.drop_eq_nil_of_le (by omega)]; simp
  | succ n ih =>
    intro k j h1 h2
    obtain ⟨k, rfl⟩ : ∃ k', k = k' + 1 := ⟨k - 1, by omega⟩
    have hj : j < l.length := by omega
    have hd : l.drop j = l[j] :: l.drop (j + 1) := List.drop_eq_getElem_cons hj
    have hr : rd l (j : Int) = l[j] := by unfold rd; simp [hj]
    by_cases hv : v = l[j]
    · refine ⟨(j : Int), ?_, ?_⟩
      · simp only [slices_Index_int_int.l0]; rw [if_pos (by omega), if_pos (by omega), if_pos (by omega), hr, if_pos hv]
      · rw [hd, List.mem_cons]; exact ⟨fun _ => .inl hv, fun _ => by omega⟩
    · obtain ⟨r, hr1, hr2⟩ := ih k (j + 1) (by omega) (by omega)
      refine ⟨r, ?_, ?_⟩
      · simp only [slices_Index_int_int.l0]; rw [if_pos (by omega), if_pos (by omega), if_pos (by omega), hr, if_neg hv, w64 (by omega) (by omega)]
        exact_mod_cast hr1
      · rw [hr2, hd, List.mem_cons]; simp [hv]
theorem contains_f (l : List Int) (v : Int) (hl : l.length ≤ 1000) {k : Nat} (hk : l.length < k) : slices_Contains_int_int.f k l v = some (decide (v ∈ l)) := by
  obtain ⟨r, h1, h2⟩ := idx_l0 l v hl l.length k 0 (by omega) hk
  unfold slices_Contains_int_int.f slices_Index_int_int.f
  rw [show ((0 : Nat) : Int) = 0 from rfl] at h1
  rw [h1]
  simp only [Option.bind_some, List.drop_zero] at h2 ⊢
  congr 1
  exact decide_eq_decide.mpr h2
def wkB (l : List Int) (x : Int) : Bool := decide ((x + 3) % 7 < 5) && !decide (x ∈ l)
theorem work_f (l : List Int) (x : Int) (hl : l.length ≤ 1000) (h1 : -719162 ≤ x) (h2 : x ≤ 2932896) {k : Nat} (hk : l.length < k) : calendar_Work.f k x l = some (wkB l x) := by
  obtain ⟨M, d, _, _, _, _, hp⟩ := place_yes x h1 h2
  obtain ⟨k, rfl⟩ : ∃ k', k = k' + 1 := ⟨k - 1, by omega⟩
  unfold calendar_Work.f
  rw [hp]
  simp only [Option.bind_some]
  rw [if_pos trivial, wd_f x (by omega) (by omega)]
  simp only [Option.bind_some]
  unfold wkB
  by_cases h : (x + 3) % 7 < 5
  · rw [if_pos h, contains_f l x hl hk]; simp [h]
  · rw [if_neg h]; simp [h]
/-- How many work days there are, from a on, of n days. -/
def cnt (l : List Int) (a : Int) : Nat → Int
  | 0 => 0
  | n + 1 => cnt l a n + (if wkB l (a + n) = true then 1 else 0)
theorem cnt_bd (l : List Int) (a : Int) (n : Nat) : 0 ≤ cnt l a n ∧ cnt l a n ≤ n := by
  induction n with
  | zero => simp [cnt]
  | succ n ih => unfold cnt; split <;> omega
theorem cnt_mono (l : List Int) (a : Int) {n m : Nat} (h : n ≤ m) : cnt l a n ≤ cnt l a m := by
  induction m with
  | zero => obtain rfl : n = 0 := by omega
            exact Int.le_refl _
  | succ m ih =>
    by_cases e : n = m + 1
    · subst e; exact Int.le_refl _
    · have := ih (by omega); show _ ≤ cnt l a m + _; split <;> omega
theorem wdays_l0 (l : List Int) (a b : Int) (hl : l.length ≤ 1000) (h1 : -100000 ≤ a) (h2 : a ≤ 100000) (N : Nat) (hb : b = a + N) (hN : N ≤ 3000) (n : Nat) : ∀ (k i : Nat), i + n = N → 2 * n + 1100 < k → calendar_WorkDays.l0 k b l (cnt l a i) (a + i) (4000 - i) = some (cnt l a N) := by
  induction n with
  | zero =>
    intro k i h3 h4
    obtain rfl : i = N := by omega
    obtain ⟨k, rfl⟩ : ∃ k', k = k' + 1 := ⟨k - 1, by omega⟩
    obtain ⟨k, rfl⟩ : ∃ k', k = k' + 1 := ⟨k - 1, by omega⟩
    simp only [calendar_WorkDays.l0, calendar_WorkDays.j1]
    rw [if_neg (by omega)]; simp
  | succ n ih =>
    intro k i h3 h4
    obtain ⟨k, rfl⟩ : ∃ k', k = k' + 1 := ⟨k - 1, by omega⟩
    obtain ⟨k, rfl⟩ : ∃ k', k = k' + 1 := ⟨k - 1, by omega⟩
    have hc := cnt_bd l a i
    simp only [calendar_WorkDays.l0, calendar_WorkDays.j1]
    rw [if_pos (by omega), decide_eq_true (show (4000 : Int) - i > 0 by omega), if_pos rfl, work_f l (a + i) hl (by omega) (by omega) (by omega)]
    simp only [Option.bind_some]
    have hi := ih k (i + 1) (by omega) (by omega)
    rw [w64 (x := a + i + 1) (by omega) (by omega), w64 (x := (4000 : Int) - i - 1) (by omega) (by omega), w64 (x := cnt l a i + 1) (by omega) (by omega)]
    have e1 : a + ((i + 1 : Nat) : Int) = a + i + 1 := by omega
    have e2 : (4000 : Int) - ((i + 1 : Nat) : Int) = 4000 - i - 1 := by omega
    rw [e1, e2] at hi
    rw [show cnt l a (i + 1) = cnt l a i + (if wkB l (a + i) = true then 1 else 0) from rfl] at hi
    by_cases hw : wkB l (a + i) = true
    · rw [if_pos hw] at hi ⊢; exact hi
    · rw [if_neg hw] at hi ⊢; rw [Int.add_zero] at hi; exact hi
theorem wdays_f (l : List Int) (a b : Int) (hl : l.length ≤ 1000) (h1 : -100000 ≤ a) (h2 : a ≤ 100000) (N : Nat) (hb : b = a + N) (hN : N ≤ 3000) : calendar_WorkDays.f 9000 a b l = some (cnt l a N) := by
  have := wdays_l0 l a b hl h1 h2 N hb hN N 9000 0 (by omega) (by omega)
  unfold calendar_WorkDays.f
  simp only [cnt] at this
  rw [show a + ((0 : Nat) : Int) = a by omega] at this
  exact this
/-- r, ok is what AddWork answers, from i on. -/
def AwP (l : List Int) (d n : Int) (i : Nat) (r : Int) (ok : Bool) : Prop := ∀ j : Nat, i ≤ j → j < 4000 → cnt l (d + 1) j = n → (∀ j' : Nat, i ≤ j' → j' < j → cnt l (d + 1) j' < n) → r = d + j ∧ ok = true
theorem addw_l0 (l : List Int) (d n : Int) (hl : l.length ≤ 1000) (h1 : -100000 ≤ d) (h2 : d ≤ 100000) (hn : n ≤ 1000) (m : Nat) : ∀ (k i : Nat), i + m = 4000 → 2 * m + 1100 < k → cnt l (d + 1) i ≤ n → ∃ r ok, calendar_AddWork.l0 k (d + i) (n - cnt l (d + 1) i) l i = some (r, ok) ∧ AwP l d n i r ok := by
  induction m with
  | zero =>
    intro k i h3 h4 h5
    obtain ⟨k, rfl⟩ : ∃ k', k = k' + 1 := ⟨k - 1, by omega⟩
    refine ⟨0, false, ?_, fun j hj1 hj2 => by omega⟩
    simp only [calendar_AddWork.l0]
    rw [if_neg (by omega)]
  | succ m ih =>
    intro k i h3 h4 h5
    obtain ⟨k, rfl⟩ : ∃ k', k = k' + 1 := ⟨k - 1, by omega⟩
    have hc := cnt_bd l (d + 1) i
    simp only [calendar_AddWork.l0]
    rw [if_pos (by omega)]
    by_cases h0 : n - cnt l (d + 1) i = 0
    · refine ⟨d + i, true, by rw [if_pos h0], fun j hj1 hj2 hj3 hj4 => ?_⟩
      by_cases e : j = i
      · subst e; exact ⟨rfl, rfl⟩
      · have := hj4 i (Nat.le_refl _) (by omega); omega
    · rw [if_neg h0, w64 (x := d + i + 1) (by omega) (by omega), work_f l (d + i + 1) hl (by omega) (by omega) (by omega)]
      simp only [Option.bind_some]
      rw [w64 (x := (i : Int) + 1) (by omega) (by omega), w64 (x := n - cnt l (d + 1) i - 1) (by omega) (by omega)]
      have hs : cnt l (d + 1) (i + 1) = cnt l (d + 1) i + (if wkB l (d + i + 1) = true then 1 else 0) := by
        show cnt l (d + 1) i + (if wkB l (d + 1 + i) = true then 1 else 0) = _
        rw [show d + 1 + (i : Int) = d + i + 1 by omega]
      have hle : cnt l (d + 1) (i + 1) ≤ n := by rw [hs]; split <;> omega
      obtain ⟨r, ok, hr1, hr2⟩ := ih k (i + 1) (by omega) (by omega) hle
      have e1 : d + ((i + 1 : Nat) : Int) = d + i + 1 := by omega
      have e2 : ((i + 1 : Nat) : Int) = (i : Int) + 1 := by omega
      rw [e1, e2, hs] at hr1
      refine ⟨r, ok, ?_, fun j hj1 hj2 hj3 hj4 => hr2 j ?_ hj2 hj3 (fun j' q1 q2 => hj4 j' (by omega) q2)⟩
      · by_cases hw : wkB l (d + i + 1) = true
        · rw [if_pos hw] at hr1 ⊢; rw [show n - cnt l (d + 1) i - 1 = n - (cnt l (d + 1) i + 1) by omega]; exact hr1
        · rw [if_neg hw] at hr1 ⊢; rw [Int.add_zero] at hr1; exact hr1
      · by_cases e : j = i
        · subst e; omega
        · omega
theorem addw_f (l : List Int) (d n : Int) (hl : l.length ≤ 1000) (h1 : -100000 ≤ d) (h2 : d ≤ 100000) (h0 : 0 ≤ n) (hn : n ≤ 1000) : ∃ r ok, calendar_AddWork.f 9999 d n l = some (r, ok) ∧ AwP l d n 0 r ok := by
  obtain ⟨M, e, _, _, _, _, hp⟩ := place_yes d (by omega) (by omega)
  obtain ⟨r, ok, hr1, hr2⟩ := addw_l0 l d n hl h1 h2 hn 4000 9998 0 (by omega) (by omega) (by show (0:Int) ≤ n; exact h0)
  refine ⟨r, ok, ?_, hr2⟩
  unfold calendar_AddWork.f
  rw [hp]
  simp only [Option.bind_some]
  rw [if_pos trivial, if_neg (by omega), decide_eq_false (show ¬ n > 1000 by omega)]
  simp only [calendar_AddWork.j0]
  rw [if_neg (by decide)]
  simp only [cnt] at hr1
  rw [show d + ((0 : Nat) : Int) = d by omega, Int.sub_zero] at hr1
  exact hr1
theorem cnt_succ (l : List Int) (a : Int) (i : Nat) : cnt l a (i + 1) = cnt l a i + (if wkB l (a + i) = true then 1 else 0) := rfl
/-- The law's loop: the count. -/
def CI (l : List Int) (d q i count : Int) : Prop := count = cnt l d (min i.toNat q.toNat)
theorem ci_0 (l : List Int) (d q : Int) : CI l d q 0 0 := by unfold CI; simp [cnt]
theorem ci_hit {l : List Int} {d q i c : Int} (h : CI l d q i c) (hi : 0 ≤ i) (hw : wkB l (d + i) = true) (hq : i < q) : CI l d q (i + 1) (c + 1) := by
  unfold CI at *
  rw [show min (i + 1).toNat q.toNat = i.toNat + 1 by omega, cnt_succ, h, show min i.toNat q.toNat = i.toNat by omega, show d + (i.toNat : Int) = d + i by omega, if_pos hw]
theorem ci_free {l : List Int} {d q i c : Int} (h : CI l d q i c) (hi : 0 ≤ i) (hw : wkB l (d + i) = false) : CI l d q (i + 1) c := by
  unfold CI at *
  by_cases hq : i < q
  · rw [show min (i + 1).toNat q.toNat = i.toNat + 1 by omega, cnt_succ, h, show min i.toNat q.toNat = i.toNat by omega, show d + (i.toNat : Int) = d + i by omega, hw]; simp
  · rw [show min (i + 1).toNat q.toNat = min i.toNat q.toNat by omega, h]
theorem ci_past {l : List Int} {d q i c : Int} (h : CI l d q i c) (hi : 0 ≤ i) (hq : q ≤ i) : CI l d q (i + 1) c := by
  unfold CI at *
  rw [show min (i + 1).toNat q.toNat = min i.toNat q.toNat by omega, h]
/-- The law's loop: the n-th work day. -/
def SI (l : List Int) (d n i left at' : Int) (s : Bool) : Prop :=
  (s = true ∧ ∃ j : Nat, j < 700 ∧ at' = d + j ∧ cnt l (d + 1) j = n ∧ ∀ j' : Nat, j' < j → cnt l (d + 1) j' < n) ∨ (s = false ∧ 0 < left ∧ left = n - cnt l (d + 1) (i.toNat - 1))
theorem si_0 {l : List Int} {d n : Int} (hn : 0 ≤ n) : SI l d n 0 n d (decide (n = 0)) := by
  by_cases h : n = 0
  · exact .inl ⟨by simp [h], 0, by omega, by omega, by rw [h]; rfl, fun j' hj => by omega⟩
  · exact .inr ⟨by simp [h], by omega, by simp [cnt]⟩
theorem si_free {l : List Int} {d n i left at' : Int} {s : Bool} (h : SI l d n i left at' s) (hi : 0 ≤ i) (hw : wkB l (d + i) = false) : SI l d n (i + 1) left at' s := by
  rcases h with h | ⟨h1, h2, h3⟩
  · exact .inl h
  · refine .inr ⟨h1, h2, ?_⟩
    by_cases h0 : i = 0
    · subst h0; exact h3
    · rw [show (i + 1).toNat - 1 = (i.toNat - 1) + 1 by omega, cnt_succ, show d + 1 + ((i.toNat - 1 : Nat) : Int) = d + i by omega, hw]
      simp; exact h3
theorem si_first {l : List Int} {d n left at' : Int} {s : Bool} (h : SI l d n 0 left at' s) : SI l d n (0 + 1) left at' s := by
  rcases h with h | ⟨h1, h2, h3⟩
  · exact .inl h
  · exact .inr ⟨h1, h2, h3⟩
theorem si_done {l : List Int} {d n i left at' : Int} (h : SI l d n i left at' true) (i' : Int) : SI l d n i' left at' true := by
  rcases h with h | ⟨h1, h2, h3⟩
  · exact .inl h
  · cases h1
theorem si_pos {l : List Int} {d n i left at' : Int} (h : SI l d n i left at' false) : 0 < left ∧ left ≤ n := by
  rcases h with ⟨h, _⟩ | ⟨h1, h2, h3⟩
  · cases h
  · have := cnt_bd l (d + 1) (i.toNat - 1); omega
theorem si_dec {l : List Int} {d n i left at' : Int} (h : SI l d n i left at' false) (hi : 0 < i) (hw : wkB l (d + i) = true) (hl : ¬ left - 1 = 0) : SI l d n (i + 1) (left - 1) at' false := by
  rcases h with ⟨h, _⟩ | ⟨h1, h2, h3⟩
  · cases h
  · refine .inr ⟨rfl, by omega, ?_⟩
    rw [show (i + 1).toNat - 1 = (i.toNat - 1) + 1 by omega, cnt_succ, show d + 1 + ((i.toNat - 1 : Nat) : Int) = d + i by omega, if_pos hw]
    omega
theorem si_hit {l : List Int} {d n i left at' : Int} (h : SI l d n i left at' false) (hi : 0 < i) (hi2 : i < 700) (hw : wkB l (d + i) = true) (hl : left - 1 = 0) (x : Int) : SI l d n (i + 1) x (d + i) true := by
  rcases h with ⟨h, _⟩ | ⟨h1, h2, h3⟩
  · cases h
  · have hs : cnt l (d + 1) i.toNat = cnt l (d + 1) (i.toNat - 1) + 1 := by
      have e : i.toNat = (i.toNat - 1) + 1 := by omega
      rw [e, cnt_succ, show d + 1 + ((i.toNat - 1 : Nat) : Int) = d + i by omega, if_pos hw]
      simp
    refine .inl ⟨rfl, i.toNat, by omega, by omega, by omega, fun j' hj => ?_⟩
    have := cnt_mono l (d + 1) (n := j') (m := i.toNat - 1) (by omega)
    omega
theorem si_end {l : List Int} {d n i left at' r : Int} {ok : Bool} (h : SI l d n i left at' true) (ha : AwP l d n 0 r ok) : r = at' ∧ ok = true := by
  rcases h with ⟨_, j, h1, h2, h3, h4⟩ | ⟨h1, h2, h3⟩
  · have := ha j (by omega) (by omega) h3 (fun j' _ q => h4 j' q)
    exact ⟨by rw [h2]; exact this.1, this.2⟩
  · cases h1
theorem ci_end {l : List Int} {d q c : Int} (h : CI l d q 700 c) (hq : q < 600) : c = cnt l d q.toNat := by
  unfold CI at h; rw [h]; congr 1; omega
end Go.Proofs.Ytdbaeigbejcobaa.Cal
