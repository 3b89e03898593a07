/- The red and black trees: places, turns and colours: a part of the walk of the whole machine. For all states that the readings allow. -/
import Derived.ScopeJumps
import Derived.WalkMore
import Derived.Test.YtlcaepcojglbiaaGreatDoorMa
namespace Go.Proofs.YtlcaepcojglbiaaGreatDoor.Tp
set_option linter.unusedVariables false
set_option linter.unusedSimpArgs false
/-! Trees with places, and ways down into them. -/
inductive Sh where
  | e : Sh
  | n (c : Bool) (l : Sh) (x : Nat) (r : Sh) : Sh
def Sh.ps : Sh → List Nat
  | .e => []
  | .n _ l x r => l.ps ++ x :: r.ps
/-- A tree lies at a place, under another one. -/
def Rep (N : Nat → Nd) : Sh → Nat → Nat → Prop
  | .e, p, _ => p = 0
  | .n c l x r, p, u => p = x ∧ x ≠ 0 ∧ (N x).red = c ∧ (N x).u = u ∧ Rep N l (N x).l x ∧ Rep N r (N x).r x
/-- A way down: to which side, colour, place, and what hangs on the other side. -/
structure Fr where
  side : Bool
  c : Bool
  x : Nat
  s : Sh
abbrev Cx := List Fr
def Fr.plug (f : Fr) (t : Sh) : Sh := if f.side then .n f.c f.s f.x t else .n f.c t f.x f.s
def plug : Cx → Sh → Sh
  | [], t => t
  | f :: k, t => plug k (f.plug t)
def lps : Cx → List Nat
  | [] => []
  | f :: k => if f.side then lps k ++ (f.s.ps ++ [f.x]) else lps k
def rps : Cx → List Nat
  | [] => []
  | f :: k => if f.side then rps k else f.x :: (f.s.ps ++ rps k)
def RepC (N : Nat → Nd) (root : Nat) : Cx → Nat → Nat → Prop
  | [], p, u => root = p ∧ u = 0
  | f :: k, p, u => u = f.x ∧ f.x ≠ 0 ∧ (N f.x).red = f.c ∧ (if f.side then (N f.x).r = p ∧ Rep N f.s (N f.x).l f.x else (N f.x).l = p ∧ Rep N f.s (N f.x).r f.x) ∧ RepC N root k f.x (N f.x).u
theorem ps_plug (k : Cx) : ∀ t, (plug k t).ps = lps k ++ (t.ps ++ rps k) := by
  induction k with
  | nil => intro t; simp [plug, lps, rps]
  | cons f k ih =>
    intro t
    show (plug k (f.plug t)).ps = _
    rw [ih]
    obtain ⟨s, c, x, sh⟩ := f
    cases s <;> simp [Fr.plug, lps, rps, Sh.ps]
/-- Where a tree lies. -/
theorem rep_place {N : Nat → Nd} {t : Sh} {p u : Nat} (h : Rep N t p u) : p = 0 ∧ t = .e ∨ p ≠ 0 ∧ p ∈ t.ps ∧ (N p).u = u := by
  cases t with
  | e => exact .inl ⟨h, rfl⟩
  | n c l x r =>
    obtain ⟨rfl, h0, _, hu, _⟩ := h
    exact .inr ⟨h0, by simp [Sh.ps], hu⟩
theorem rep_nz {N : Nat → Nd} {t : Sh} {p u : Nat} (h : Rep N t p u) : ∀ j ∈ t.ps, j ≠ 0 := by
  induction t generalizing p u with
  | e => intro j hj; simp [Sh.ps] at hj
  | n c l x r ihl ihr =>
    obtain ⟨rfl, h0, _, _, hl, hr⟩ := h
    intro j hj
    simp only [Sh.ps, List.mem_append, List.mem_cons] at hj
    rcases hj with hj | rfl | hj
    · exact ihl hl j hj
    · exact h0
    · exact ihr hr j hj
/-- Where nothing has changed it lies as it did. -/
theorem rep_same {N N' : Nat → Nd} {t : Sh} {p u : Nat} (h : Rep N t p u) (hs : ∀ j ∈ t.ps, N' j = N j) : Rep N' t p u := by
  induction t generalizing p u with
  | e => exact h
  | n c l x r ihl ihr =>
    obtain ⟨hp, h0, hc, hu, hl, hr⟩ := h
    have hx : N' x = N x := hs x (by simp [Sh.ps])
    refine ⟨hp, h0, by rw [hx]; exact hc, by rw [hx]; exact hu, ?_, ?_⟩
    · rw [hx]; exact ihl hl fun j hj => hs j (by simp [Sh.ps, hj])
    · rw [hx]; exact ihr hr fun j hj => hs j (by simp [Sh.ps, hj])
/-- .. and under another place. -/
theorem rep_up {N N' : Nat → Nd} {t : Sh} {p u u' : Nat} (h : Rep N t p u) (hn : t.ps.Nodup) (hs : ∀ j ∈ t.ps, j ≠ p → N' j = N j) (hp : p ≠ 0 → N' p = { N p with u := u' }) : Rep N' t p u' := by
  cases t with
  | e => exact h
  | n c l x r =>
    obtain ⟨rfl, h0, hc, hu, hl, hr⟩ := h
    have e := hp h0
    simp only [Sh.ps] at hn
    rw [List.nodup_append] at hn
    obtain ⟨n1, n2, n3⟩ := hn
    rw [List.nodup_cons] at n2
    have hlx : ∀ j ∈ l.ps, j ≠ p := fun j hj => n3 j hj p (by simp)
    have hrx : ∀ j ∈ r.ps, j ≠ p := fun j hj e => n2.1 (e ▸ hj)
    refine ⟨rfl, h0, by rw [e]; exact hc, by rw [e], ?_, ?_⟩
    · rw [e]; exact rep_same hl fun j hj => hs j (by simp [Sh.ps, hj]) (hlx j hj)
    · rw [e]; exact rep_same hr fun j hj => hs j (by simp [Sh.ps, hj]) (hrx j hj)
theorem repc_same {N N' : Nat → Nd} {root : Nat} {k : Cx} {p u : Nat} (h : RepC N root k p u) (hs : ∀ j, j ∈ lps k ∨ j ∈ rps k → N' j = N j) : RepC N' root k p u := by
  induction k generalizing p u with
  | nil => exact h
  | cons f k ih =>
    obtain ⟨hu, h0, hc, hsd, hk⟩ := h
    have hx : N' f.x = N f.x := hs f.x (by by_cases e : f.side <;> simp [lps, rps, e])
    have hk' := ih hk fun j hj => hs j (by by_cases e : f.side <;> (simp [lps, rps, e]; rcases hj with hj | hj <;> simp [hj]))
    refine ⟨hu, h0, by rw [hx]; exact hc, ?_, by rw [hx]; exact hk'⟩
    rw [hx]
    by_cases e : f.side
    · rw [if_pos e] at hsd ⊢
      exact ⟨hsd.1, rep_same hsd.2 fun j hj => hs j (by simp [lps, e, hj])⟩
    · rw [if_neg e] at hsd ⊢
      exact ⟨hsd.1, rep_same hsd.2 fun j hj => hs j (by simp [rps, e, hj])⟩
/-- The place above is in the way, or there is none. -/
theorem repc_up {N : Nat → Nd} {root : Nat} {k : Cx} {p u : Nat} (h : RepC N root k p u) : (u = 0 ∧ k = [] ∧ root = p) ∨ (u ≠ 0 ∧ (u ∈ lps k ∨ u ∈ rps k)) := by
  cases k with
  | nil => exact .inl ⟨h.2, rfl, h.1⟩
  | cons f k =>
    obtain ⟨rfl, h0, _⟩ := h
    exact .inr ⟨h0, by by_cases e : f.side <;> simp [lps, rps, e]⟩
theorem repc_nz {N : Nat → Nd} {root : Nat} {k : Cx} {p u : Nat} (h : RepC N root k p u) : ∀ j, j ∈ lps k ∨ j ∈ rps k → j ≠ 0 := by
  induction k generalizing p u with
  | nil => intro j hj; simp [lps, rps] at hj
  | cons f k ih =>
    obtain ⟨_, h0, _, hsd, hk⟩ := h
    have ihk := ih hk
    intro j hj
    by_cases e : f.side
    · rw [if_pos e] at hsd
      have := rep_nz hsd.2
      simp [lps, rps, e] at hj
      rcases hj with (hj | hj | rfl) | hj
      · exact ihk j (.inl hj)
      · exact this j hj
      · exact h0
      · exact ihk j (.inr hj)
    · rw [if_neg e] at hsd
      have := rep_nz hsd.2
      simp [lps, rps, e] at hj
      rcases hj with hj | rfl | hj | hj
      · exact ihk j (.inl hj)
      · exact h0
      · exact this j hj
      · exact ihk j (.inr hj)
/-- Something else hangs where p did. -/
theorem repc_hang {S : TS} {k : Cx} {p u p' : Nat} (h : RepC S.N S.root k p u) (hn : (lps k ++ rps k).Nodup) (hp : p ≠ 0) (hpu : (S.N p).u = u) (hpk : ¬ (p ∈ lps k ∨ p ∈ rps k)) (hpk' : ¬ (p' ∈ lps k ∨ p' ∈ rps k)) :
    RepC (S.hang p p').N (S.hang p p').root k p' u := by
  cases k with
  | nil =>
    obtain ⟨h1, rfl⟩ := h
    unfold TS.hang
    rw [if_pos hpu]
    exact ⟨rfl, rfl⟩
  | cons f k =>
    obtain ⟨hu, h0, hc, hsd, hk⟩ := h
    have hu0 : ¬ u = 0 := by rw [hu]; exact h0
    subst hu
    have hx' : f.x ≠ p' := fun e => hpk' (by rw [← e]; by_cases e : f.side <;> simp [lps, rps, e])
    have hnk : (lps k ++ rps k).Nodup ∧ f.x ∉ f.s.ps ∧ (∀ j, j ∈ lps k ∨ j ∈ rps k → j ≠ f.x) ∧ (∀ j ∈ f.s.ps, j ≠ f.x) := by
      by_cases e : f.side
      · simp only [lps, rps, e, if_true] at hn
        simp [List.nodup_append] at hn
        obtain ⟨a1, ⟨a2, ⟨a3, a4⟩, a5⟩, a6⟩ := hn
        refine ⟨by rw [List.nodup_append]; exact ⟨a1, a4, fun j hj m hm => a6 j hj m (.inr (.inr hm))⟩, fun e => (a5 _ e).1 rfl, ?_, fun j hj e => (a5 j hj).1 e⟩
        rintro j (hj | hj) e
        · exact a6 j hj _ (.inr (.inl rfl)) e
        · exact a3 (e ▸ hj)
      · simp only [lps, rps, e, if_false] at hn
        simp [List.nodup_append] at hn
        obtain ⟨a1, ⟨⟨a2, a3⟩, a4, a5, a6⟩, a7⟩ := hn
        refine ⟨by rw [List.nodup_append]; exact ⟨a1, a5, fun j hj m hm => (a7 j hj).2 m (.inr hm)⟩, a2, ?_, fun j hj e => a2 (e ▸ hj)⟩
        rintro j (hj | hj) e
        · exact (a7 j hj).1 e
        · exact a3 (e ▸ hj)
    have key : ∀ N' : Nat → Nd, (∀ j, j ≠ f.x → j ≠ p' → N' j = S.N j) → N' f.x = (if f.side then { S.N f.x with r := p' } else { S.N f.x with l := p' }) → RepC N' S.root (f :: k) p' f.x := by
      intro N' ho hx
      have hk' : RepC N' S.root k f.x (S.N f.x).u := repc_same hk fun j hj => ho j (hnk.2.2.1 j hj) fun e => hpk' (by rw [← e]; by_cases e : f.side <;> (simp [lps, rps, e]; rcases hj with hj | hj <;> simp [hj]))
      have hs : ∀ j ∈ f.s.ps, N' j = S.N j := fun j hj => ho j (hnk.2.2.2 j hj) fun e => hpk' (by rw [← e]; by_cases e : f.side <;> simp [lps, rps, e, hj])
      by_cases e : f.side
      · rw [if_pos e] at hsd hx
        refine ⟨rfl, h0, by rw [hx]; exact hc, ?_, by rw [hx]; exact hk'⟩
        rw [if_pos e, hx]
        exact ⟨rfl, rep_same hsd.2 hs⟩
      · rw [if_neg e] at hsd hx
        refine ⟨rfl, h0, by rw [hx]; exact hc, ?_, by rw [hx]; exact hk'⟩
        rw [if_neg e, hx]
        exact ⟨rfl, rep_same hsd.2 hs⟩
    unfold TS.hang
    rw [hpu, if_neg hu0]
    by_cases e : f.side
    · have hl : ¬ (S.N f.x).l = p := by
        rw [if_pos e] at hsd
        rcases rep_place hsd.2 with ⟨h1, _⟩ | ⟨h1, h2, _⟩
        · rw [h1]; exact fun e => hp e.symm
        · intro e2
          rw [e2] at h2
          exact hpk (by simp [lps, rps, e, h2])
      rw [if_neg hl]
      refine key _ (fun j h1 h2 => ?_) ?_
      · show (if j = p' then _ else _) = _
        rw [if_neg h2]
        show (if j = f.x then _ else _) = _
        rw [if_neg h1]
      · show (if f.x = p' then _ else _) = _
        rw [if_neg hx', if_pos e]
        show (if f.x = f.x then _ else _) = _
        rw [if_pos rfl]
    · have hl : (S.N f.x).l = p := by
        rw [if_neg e] at hsd
        exact hsd.1
      rw [if_pos hl]
      refine key _ (fun j h1 h2 => ?_) ?_
      · show (if j = p' then _ else _) = _
        rw [if_neg h2]
        show (if j = f.x then _ else _) = _
        rw [if_neg h1]
      · show (if f.x = p' then _ else _) = _
        rw [if_neg hx', if_neg e]
        show (if f.x = f.x then _ else _) = _
        rw [if_pos rfl]
/-- Elsewhere hang changes nothing. -/
theorem hang_else {S : TS} {p p' j : Nat} (h1 : j ≠ p') (h2 : j ≠ (S.N p).u) : (S.hang p p').N j = S.N j := by
  unfold TS.hang
  show (if j = p' then _ else _) = _
  rw [if_neg h1]
  split
  · rfl
  · split
    · show (if j = _ then _ else _) = _
      rw [if_neg h2]
    · show (if j = _ then _ else _) = _
      rw [if_neg h2]
theorem hang_at' {S : TS} {p p' : Nat} (h2 : p' ≠ (S.N p).u) : (S.hang p p').N p' = { S.N p' with u := (S.N p).u } := by
  unfold TS.hang
  show (if p' = p' then _ else _) = _
  rw [if_pos rfl]
  split
  · rfl
  · split
    · show ({ (if p' = _ then _ else _ : Nd) with u := _ } : Nd) = _
      rw [if_neg h2]
    · show ({ (if p' = _ then _ else _ : Nd) with u := _ } : Nd) = _
      rw [if_neg h2]
end Go.Proofs.YtlcaepcojglbiaaGreatDoor.Tp
namespace Go.Proofs.YtlcaepcojglbiaaGreatDoor.Tp
set_option linter.unusedVariables false
set_option linter.unusedSimpArgs false
theorem nd2 {A B : List Nat} (h : (A ++ B).Nodup) : A.Nodup ∧ B.Nodup ∧ ∀ j, j ∈ A → j ∈ B → False := by
  rw [List.nodup_append] at h
  exact ⟨h.1, h.2.1, fun j h1 h2 => h.2.2 j h1 j h2 rfl⟩
theorem nd2' {A B : List Nat} (h1 : A.Nodup) (h2 : B.Nodup) (h3 : ∀ j, j ∈ A → j ∈ B → False) : (A ++ B).Nodup := by
  rw [List.nodup_append]
  exact ⟨h1, h2, fun j ha m hb e => h3 j ha (e ▸ hb)⟩
/-- What is apart in a way down and its tree. -/
theorem nd_cx {k : Cx} {t : List Nat} (h : (lps k ++ (t ++ rps k)).Nodup) : t.Nodup ∧ (lps k ++ rps k).Nodup ∧ ∀ j, j ∈ t → ¬ (j ∈ lps k ∨ j ∈ rps k) := by
  obtain ⟨h1, h2, h3⟩ := nd2 h
  obtain ⟨h4, h5, h6⟩ := nd2 h2
  exact ⟨h4, nd2' h1 h5 fun j a b => h3 j a (by simp [b]), fun j hj => by
    rintro (a | a)
    · exact h3 j a (by simp [hj])
    · exact h6 j hj a⟩
theorem nd_cx' {k : Cx} {t : List Nat} (h1 : t.Nodup) (h2 : (lps k ++ rps k).Nodup) (h3 : ∀ j, j ∈ t → ¬ (j ∈ lps k ∨ j ∈ rps k)) : (lps k ++ (t ++ rps k)).Nodup := by
  obtain ⟨a, b, c⟩ := nd2 h2
  exact nd2' a (nd2' h1 b fun j x y => h3 j x (.inr y)) fun j x y => by
    rcases List.mem_append.1 y with y | y
    · exact h3 j y (.inl x)
    · exact c j x y
/-- .. and in a node. -/
theorem nd_n {a b : List Nat} {x : Nat} (h : (a ++ x :: b).Nodup) : a.Nodup ∧ b.Nodup ∧ x ∉ a ∧ x ∉ b ∧ ∀ j, j ∈ a → j ∈ b → False := by
  obtain ⟨h1, h2, h3⟩ := nd2 h
  rw [List.nodup_cons] at h2
  exact ⟨h1, h2.2, fun e => h3 x e (by simp), h2.1, fun j p q => h3 j p (by simp [q])⟩
/-- A tree and its way down lie in a state. -/
structure Z (S : TS) (t : Sh) (k : Cx) (p u : Nat) : Prop where
  rt : Rep S.N t p u
  rk : RepC S.N S.root k p u
  nd : (lps k ++ (t.ps ++ rps k)).Nodup
theorem upd_at (S : TS) (i j : Nat) (f : Nd → Nd) : (S.upd i f).N j = if j = i then f (S.N j) else S.N j := rfl
theorem upd_ne {S : TS} {i j : Nat} {f : Nd → Nd} (h : j ≠ i) : (S.upd i f).N j = S.N j := by rw [upd_at, if_neg h]
theorem upd_eq {S : TS} {i : Nat} {f : Nd → Nd} : (S.upd i f).N i = f (S.N i) := by rw [upd_at, if_pos rfl]
theorem turn_r_zip {S : TS} {k : Cx} {c d : Bool} {a b r : Sh} {x y u : Nat} (h : Z S (.n c (.n d a y b) x r) k x u) : Z (S.turn x true) (.n d a y (.n c b x r)) k y u := by
  obtain ⟨ht, hk, hn⟩ := h
  obtain ⟨_, hx0, hxc, hxu, hY, hR⟩ := ht
  obtain ⟨hyx, hy0, hyd, hyu, hA, hB⟩ := hY
  obtain ⟨i, hi⟩ : ∃ i, (S.N y).r = i := ⟨_, rfl⟩
  have hiB := hB
  rw [hi] at hiB
  obtain ⟨n1, n2, n3⟩ := nd_cx hn
  simp only [Sh.ps] at n1
  have nn := nd_n n1
  have nm := nd_n nn.1
  have hyA := nm.2.2.1
  have hyB := nm.2.2.2.1
  have hAB := nm.2.2.2.2
  have hbn := nm.2.1
  have hxR := nn.2.2.2.1
  have hyR : y ∉ r.ps := fun e => nn.2.2.2.2 y (by simp) e
  have hBR : ∀ j, j ∈ b.ps → j ∈ r.ps → False := fun j p q => nn.2.2.2.2 j (by simp [p]) q
  have hxy : x ≠ y := fun e => nn.2.2.1 (by rw [e]; simp)
  have hxB : x ∉ b.ps := fun e => nn.2.2.1 (by simp [e])
  have hxA : x ∉ a.ps := fun e => nn.2.2.1 (by simp [e])
  have hiB2 : i ≠ 0 → i ∈ b.ps := fun h0 => by
    rcases rep_place hiB with ⟨e, _⟩ | ⟨_, e, _⟩
    · exact absurd e h0
    · exact e
  have hix : i ≠ x := fun e => hxB (e ▸ hiB2 (e ▸ hx0))
  have hiy : i ≠ y := fun e => hyB (e ▸ hiB2 (e ▸ hy0))
  have hiA : ∀ j, j ∈ a.ps → j ≠ i ∨ i = 0 := fun j hj => by
    by_cases e : i = 0
    · exact .inr e
    · exact .inl fun e2 => hAB i (e2 ▸ hj) (hiB2 e)
  have hzA := rep_nz hA
  have hzR := rep_nz hR
  have hiA' : ∀ j, j ∈ a.ps → j ≠ i := fun j hj e => by
    by_cases e0 : i = 0
    · exact hzA j hj (e.trans e0)
    · exact hAB i (e ▸ hj) (hiB2 e0)
  have hiR' : ∀ j, j ∈ r.ps → j ≠ i := fun j hj e => by
    by_cases e0 : i = 0
    · exact hzR j hj (e.trans e0)
    · exact hBR i (hiB2 e0) (e ▸ hj)
  have inT : ∀ j, j = x ∨ j = y ∨ j ∈ a.ps ∨ j ∈ b.ps ∨ j ∈ r.ps → ¬ (j ∈ lps k ∨ j ∈ rps k) := fun j hj => n3 j (by simp only [Sh.ps, List.mem_append, List.mem_cons]; rcases hj with e | e | e | e | e <;> simp [e])
  have hup := repc_up hk
  have uT : ∀ j, j = x ∨ j = y ∨ j ∈ a.ps ∨ j ∈ b.ps ∨ j ∈ r.ps → j ≠ 0 → j ≠ u := fun j hj h0 e => by
    rcases hup with ⟨e2, _⟩ | ⟨_, e2⟩
    · exact h0 (e.trans e2)
    · exact inT j hj (e ▸ e2)
  have hzB := rep_nz hB
  -- the steps
  obtain ⟨S2, hS2⟩ : ∃ S2, S.turn2 x true = S2 := ⟨_, rfl⟩
  have e1 : S.child x (!true) = y := hyx
  have e2 : S.child y true = i := hi
  have et : S.turn x true = ((S2.hang x y).setr y x).setu x y := by unfold TS.turn; rw [e1, hS2]; rfl
  have e3 : S2 = if i = 0 then S.setl x i else (S.setl x i).setu i x := by rw [← hS2]; unfold TS.turn2 TS.turn1; rw [e1, e2]; rfl
  have r2 : S2.root = S.root := by rw [e3]; split <;> rfl
  have f1 : ∀ j, j ≠ x → j ≠ i → S2.N j = S.N j := fun j h1 h2 => by
    rw [e3]; split
    · exact upd_ne h1
    · exact (upd_ne h2).trans (upd_ne h1)
  have f2 : S2.N x = { S.N x with l := i } := by
    rw [e3]; split
    · exact upd_eq
    · exact (upd_ne (Ne.symm hix)).trans upd_eq
  have f3 : i ≠ 0 → S2.N i = { S.N i with u := x } := fun h0 => by
    rw [e3, if_neg h0]
    refine upd_eq.trans ?_
    rw [show (S.setl x i).N i = S.N i from upd_ne hix]
  have k2 : RepC S2.N S2.root k x u := by
    rw [r2]
    refine repc_same hk fun j hj => f1 j (fun e => inT j (.inl e) hj) fun e => ?_
    by_cases h0 : i = 0
    · exact repc_nz hk j hj (e.trans h0)
    · exact inT j (.inr (.inr (.inr (.inl (e ▸ hiB2 h0))))) hj
  have u2 : (S2.N x).u = u := by rw [f2]; exact hxu
  have k3 := repc_hang k2 n2 hx0 u2 (inT x (.inl rfl)) (p' := y) (inT y (.inr (.inl rfl)))
  have g1 : ∀ j, j ≠ y → j ≠ u → (S2.hang x y).N j = S2.N j := fun j h1 h2 => hang_else h1 (by rw [u2]; exact h2)
  have g2 : (S2.hang x y).N y = { S2.N y with u := u } := by
    have := hang_at' (S := S2) (p := x) (p' := y) (by rw [u2]; exact uT y (.inr (.inl rfl)) hy0)
    rw [u2] at this; exact this
  have o1 : ∀ j, j ≠ x → j ≠ y → j ≠ i → j ≠ u → (S.turn x true).N j = S.N j := fun j h1 h2 h3 h4 => by
    rw [et]
    exact (upd_ne h1).trans ((upd_ne h2).trans ((g1 j h2 h4).trans (f1 j h1 h3)))
  have o2 : (S.turn x true).N y = { S.N y with r := x, u := u } := by
    rw [et]
    refine (upd_ne (Ne.symm hxy)).trans (upd_eq.trans ?_)
    rw [g2, f1 y (Ne.symm hxy) (Ne.symm hiy)]
  have o3 : (S.turn x true).N x = { S.N x with l := i, u := y } := by
    rw [et]
    refine upd_eq.trans ?_
    rw [show ((S2.hang x y).setr y x).N x = (S2.hang x y).N x from upd_ne hxy, g1 x hxy (uT x (.inl rfl) hx0), f2]
  have o4 : i ≠ 0 → (S.turn x true).N i = { S.N i with u := x } := fun h0 => by
    rw [et]
    refine (upd_ne hix).trans ((upd_ne hiy).trans ?_)
    rw [g1 i hiy (uT i (.inr (.inr (.inr (.inl (hiB2 h0))))) h0)]
    exact f3 h0
  have rA : Rep (S.turn x true).N a (S.N y).l y := rep_same hA fun j hj => o1 j (fun e => hxA (e ▸ hj)) (fun e => hyA (e ▸ hj)) (hiA' j hj) (uT j (.inr (.inr (.inl hj))) (hzA j hj))
  have rR : Rep (S.turn x true).N r (S.N x).r x := rep_same hR fun j hj => o1 j (fun e => hxR (e ▸ hj)) (fun e => hyR (e ▸ hj)) (hiR' j hj) (uT j (.inr (.inr (.inr (.inr hj)))) (hzR j hj))
  have rB : Rep (S.turn x true).N b i x := rep_up hiB hbn (fun j hj hne => o1 j (fun e => hxB (e ▸ hj)) (fun e => hyB (e ▸ hj)) hne (uT j (.inr (.inr (.inr (.inl hj)))) (hzB j hj))) o4
  have rX : Rep (S.turn x true).N (.n c b x r) x y := ⟨rfl, hx0, by rw [o3]; exact hxc, by rw [o3], by rw [o3]; exact rB, by rw [o3]; exact rR⟩
  refine ⟨⟨rfl, hy0, by rw [o2]; exact hyd, by rw [o2], by rw [o2]; exact rA, by rw [o2]; exact rX⟩, ?_, ?_⟩
  · have : (S.turn x true).root = (S2.hang x y).root := by rw [et]; rfl
    rw [this]
    refine repc_same k3 fun j hj => ?_
    rw [et]
    exact (upd_ne fun e => inT j (.inl e) hj).trans (upd_ne fun e => inT j (.inr (.inl e)) hj)
  · refine nd_cx' ?_ n2 fun j hj => n3 j ?_
    · have : ((.n d a y (.n c b x r)) : Sh).ps = ((.n c (.n d a y b) x r) : Sh).ps := by simp [Sh.ps]
      rw [this]; exact (nd_cx hn).1
    · have : ((.n d a y (.n c b x r)) : Sh).ps = ((.n c (.n d a y b) x r) : Sh).ps := by simp [Sh.ps]
      rw [← this]; exact hj
theorem turn_l_zip {S : TS} {k : Cx} {c d : Bool} {a b r : Sh} {x y u : Nat} (h : Z S (.n c r x (.n d b y a)) k x u) : Z (S.turn x false) (.n d (.n c r x b) y a) k y u := by
  obtain ⟨ht, hk, hn⟩ := h
  obtain ⟨_, hx0, hxc, hxu, hR, hY⟩ := ht
  obtain ⟨hyx, hy0, hyd, hyu, hB, hA⟩ := hY
  obtain ⟨i, hi⟩ : ∃ i, (S.N y).l = i := ⟨_, rfl⟩
  have hiB := hB
  rw [hi] at hiB
  obtain ⟨n1, n2, n3⟩ := nd_cx hn
  simp only [Sh.ps] at n1
  have nn := nd_n n1
  have nm := nd_n nn.2.1
  have hyA := nm.2.2.2.1
  have hyB := nm.2.2.1
  have hAB : ∀ j, j ∈ a.ps → j ∈ b.ps → False := fun j p q => nm.2.2.2.2 j q p
  have hbn := nm.1
  have hxR := nn.2.2.1
  have hyR : y ∉ r.ps := fun e => nn.2.2.2.2 y e (by simp)
  have hBR : ∀ j, j ∈ b.ps → j ∈ r.ps → False := fun j p q => nn.2.2.2.2 j q (by simp [p])
  have hxy : x ≠ y := fun e => nn.2.2.2.1 (by rw [e]; simp)
  have hxB : x ∉ b.ps := fun e => nn.2.2.2.1 (by simp [e])
  have hxA : x ∉ a.ps := fun e => nn.2.2.2.1 (by simp [e])
  have hiB2 : i ≠ 0 → i ∈ b.ps := fun h0 => by
    rcases rep_place hiB with ⟨e, _⟩ | ⟨_, e, _⟩
    · exact absurd e h0
    · exact e
  have hix : i ≠ x := fun e => hxB (e ▸ hiB2 (e ▸ hx0))
  have hiy : i ≠ y := fun e => hyB (e ▸ hiB2 (e ▸ hy0))
  have hiA : ∀ j, j ∈ a.ps → j ≠ i ∨ i = 0 := fun j hj => by
    by_cases e : i = 0
    · exact .inr e
    · exact .inl fun e2 => hAB i (e2 ▸ hj) (hiB2 e)
  have hzA := rep_nz hA
  have hzR := rep_nz hR
  have hiA' : ∀ j, j ∈ a.ps → j ≠ i := fun j hj e => by
    by_cases e0 : i = 0
    · exact hzA j hj (e.trans e0)
    · exact hAB i (e ▸ hj) (hiB2 e0)
  have hiR' : ∀ j, j ∈ r.ps → j ≠ i := fun j hj e => by
    by_cases e0 : i = 0
    · exact hzR j hj (e.trans e0)
    · exact hBR i (hiB2 e0) (e ▸ hj)
  have inT : ∀ j, j = x ∨ j = y ∨ j ∈ a.ps ∨ j ∈ b.ps ∨ j ∈ r.ps → ¬ (j ∈ lps k ∨ j ∈ rps k) := fun j hj => n3 j (by simp only [Sh.ps, List.mem_append, List.mem_cons]; rcases hj with e | e | e | e | e <;> simp [e])
  have hup := repc_up hk
  have uT : ∀ j, j = x ∨ j = y ∨ j ∈ a.ps ∨ j ∈ b.ps ∨ j ∈ r.ps → j ≠ 0 → j ≠ u := fun j hj h0 e => by
    rcases hup with ⟨e2, _⟩ | ⟨_, e2⟩
    · exact h0 (e.trans e2)
    · exact inT j hj (e ▸ e2)
  have hzB := rep_nz hB
  -- the steps
  obtain ⟨S2, hS2⟩ : ∃ S2, S.turn2 x false = S2 := ⟨_, rfl⟩
  have e1 : S.child x (!false) = y := hyx
  have e2 : S.child y false = i := hi
  have et : S.turn x false = ((S2.hang x y).setl y x).setu x y := by unfold TS.turn; rw [e1, hS2]; rfl
  have e3 : S2 = if i = 0 then S.setr x i else (S.setr x i).setu i x := by rw [← hS2]; unfold TS.turn2 TS.turn1; rw [e1, e2]; rfl
  have r2 : S2.root = S.root := by rw [e3]; split <;> rfl
  have f1 : ∀ j, j ≠ x → j ≠ i → S2.N j = S.N j := fun j h1 h2 => by
    rw [e3]; split
    · exact upd_ne h1
    · exact (upd_ne h2).trans (upd_ne h1)
  have f2 : S2.N x = { S.N x with r := i } := by
    rw [e3]; split
    · exact upd_eq
    · exact (upd_ne (Ne.symm hix)).trans upd_eq
  have f3 : i ≠ 0 → S2.N i = { S.N i with u := x } := fun h0 => by
    rw [e3, if_neg h0]
    refine upd_eq.trans ?_
    rw [show (S.setr x i).N i = S.N i from upd_ne hix]
  have k2 : RepC S2.N S2.root k x u := by
    rw [r2]
    refine repc_same hk fun j hj => f1 j (fun e => inT j (.inl e) hj) fun e => ?_
    by_cases h0 : i = 0
    · exact repc_nz hk j hj (e.trans h0)
    · exact inT j (.inr (.inr (.inr (.inl (e ▸ hiB2 h0))))) hj
  have u2 : (S2.N x).u = u := by rw [f2]; exact hxu
  have k3 := repc_hang k2 n2 hx0 u2 (inT x (.inl rfl)) (p' := y) (inT y (.inr (.inl rfl)))
  have g1 : ∀ j, j ≠ y → j ≠ u → (S2.hang x y).N j = S2.N j := fun j h1 h2 => hang_else h1 (by rw [u2]; exact h2)
  have g2 : (S2.hang x y).N y = { S2.N y with u := u } := by
    have := hang_at' (S := S2) (p := x) (p' := y) (by rw [u2]; exact uT y (.inr (.inl rfl)) hy0)
    rw [u2] at this; exact this
  have o1 : ∀ j, j ≠ x → j ≠ y → j ≠ i → j ≠ u → (S.turn x false).N j = S.N j := fun j h1 h2 h3 h4 => by
    rw [et]
    exact (upd_ne h1).trans ((upd_ne h2).trans ((g1 j h2 h4).trans (f1 j h1 h3)))
  have o2 : (S.turn x false).N y = { S.N y with l := x, u := u } := by
    rw [et]
    refine (upd_ne (Ne.symm hxy)).trans (upd_eq.trans ?_)
    rw [g2, f1 y (Ne.symm hxy) (Ne.symm hiy)]
  have o3 : (S.turn x false).N x = { S.N x with r := i, u := y } := by
    rw [et]
    refine upd_eq.trans ?_
    rw [show ((S2.hang x y).setl y x).N x = (S2.hang x y).N x from upd_ne hxy, g1 x hxy (uT x (.inl rfl) hx0), f2]
  have o4 : i ≠ 0 → (S.turn x false).N i = { S.N i with u := x } := fun h0 => by
    rw [et]
    refine (upd_ne hix).trans ((upd_ne hiy).trans ?_)
    rw [g1 i hiy (uT i (.inr (.inr (.inr (.inl (hiB2 h0))))) h0)]
    exact f3 h0
  have rA : Rep (S.turn x false).N a (S.N y).r y := rep_same hA fun j hj => o1 j (fun e => hxA (e ▸ hj)) (fun e => hyA (e ▸ hj)) (hiA' j hj) (uT j (.inr (.inr (.inl hj))) (hzA j hj))
  have rR : Rep (S.turn x false).N r (S.N x).l x := rep_same hR fun j hj => o1 j (fun e => hxR (e ▸ hj)) (fun e => hyR (e ▸ hj)) (hiR' j hj) (uT j (.inr (.inr (.inr (.inr hj)))) (hzR j hj))
  have rB : Rep (S.turn x false).N b i x := rep_up hiB hbn (fun j hj hne => o1 j (fun e => hxB (e ▸ hj)) (fun e => hyB (e ▸ hj)) hne (uT j (.inr (.inr (.inr (.inl hj)))) (hzB j hj))) o4
  have rX : Rep (S.turn x false).N (.n c r x b) x y := ⟨rfl, hx0, by rw [o3]; exact hxc, by rw [o3], by rw [o3]; exact rR, by rw [o3]; exact rB⟩
  refine ⟨⟨rfl, hy0, by rw [o2]; exact hyd, by rw [o2], by rw [o2]; exact rX, by rw [o2]; exact rA⟩, ?_, ?_⟩
  · have : (S.turn x false).root = (S2.hang x y).root := by rw [et]; rfl
    rw [this]
    refine repc_same k3 fun j hj => ?_
    rw [et]
    exact (upd_ne fun e => inT j (.inl e) hj).trans (upd_ne fun e => inT j (.inr (.inl e)) hj)
  · refine nd_cx' ?_ n2 fun j hj => n3 j ?_
    · have : ((.n d (.n c r x b) y a) : Sh).ps = ((.n c r x (.n d b y a)) : Sh).ps := by simp [Sh.ps]
      rw [this]; exact (nd_cx hn).1
    · have : ((.n d (.n c r x b) y a) : Sh).ps = ((.n c r x (.n d b y a)) : Sh).ps := by simp [Sh.ps]
      rw [← this]; exact hj
end Go.Proofs.YtlcaepcojglbiaaGreatDoor.Tp
namespace Go.Proofs.YtlcaepcojglbiaaGreatDoor.Tp
set_option linter.unusedVariables false
set_option linter.unusedSimpArgs false
def Sh.red : Sh → Bool
  | .e => false
  | .n c _ _ _ => c
def RBt : Sh → Nat → Prop
  | .e, h => h = 0
  | .n true l _ r, h => RBt l h ∧ RBt r h ∧ l.red = false ∧ r.red = false
  | .n false l _ r, h => ∃ h', h = h' + 1 ∧ RBt l h' ∧ RBt r h'
def cred : Cx → Bool
  | [] => false
  | f :: _ => f.c
def RBc : Cx → Nat → Prop
  | [], _ => True
  | ⟨_, true, _, s⟩ :: k, h => RBt s h ∧ s.red = false ∧ k ≠ [] ∧ cred k = false ∧ RBc k h
  | ⟨_, false, _, s⟩ :: k, h => RBt s h ∧ RBc k (h + 1)
theorem plug_rb (k : Cx) : ∀ (t : Sh) (h : Nat), RBc k h → RBt t h → (cred k = true → t.red = false) → ∃ h', RBt (plug k t) h' ∧ (k ≠ [] → (plug k t).red = false) := by
  induction k with
  | nil => exact fun t h _ ht _ => ⟨h, ht, fun e => absurd rfl e⟩
  | cons f k ih =>
    obtain ⟨side, c, x, s⟩ := f
    intro t h hc ht hr
    cases c with
    | true =>
      obtain ⟨h1, h2, h3, h4, h5⟩ := hc
      have hr := hr rfl
      obtain ⟨h', k1, k2⟩ := ih (Fr.plug ⟨side, true, x, s⟩ t) h h5 (by cases side <;> simp [Fr.plug, RBt, *]) (fun e => by rw [h4] at e; cases e)
      exact ⟨h', k1, fun _ => k2 h3⟩
    | false =>
      obtain ⟨h1, h2⟩ := hc
      obtain ⟨h', k1, k2⟩ := ih (Fr.plug ⟨side, false, x, s⟩ t) (h + 1) h2 (by cases side <;> exact ⟨h, rfl, by assumption, by assumption⟩) (fun _ => by cases side <;> rfl)
      refine ⟨h', k1, fun _ => ?_⟩
      cases k with
      | nil => cases side <;> rfl
      | cons g k => exact k2 (by simp)
/-- Down into a tree. -/
theorem rb_down {f : Fr} {t : Sh} {h : Nat} {k : Cx} (hp : RBt (f.plug t) h) (hk : RBc k h) (hr : cred k = true → (f.plug t).red = false) (hn : k = [] → f.c = false) : ∃ h', RBt t h' ∧ RBc (f :: k) h' ∧ (cred (f :: k) = true → t.red = false) := by
  obtain ⟨side, c, x, s⟩ := f
  cases c with
  | true =>
    have hk0 : k ≠ [] := fun e => by have := hn e; simp at this
    have hc : cred k = false := by
      cases e : cred k with
      | false => rfl
      | true => have := hr e; cases side <;> simp [Fr.plug, Sh.red] at this
    cases side
    · obtain ⟨a1, a2, a3, a4⟩ := hp
      exact ⟨h, a1, ⟨a2, a4, hk0, hc, hk⟩, fun _ => a3⟩
    · obtain ⟨a1, a2, a3, a4⟩ := hp
      exact ⟨h, a2, ⟨a1, a3, hk0, hc, hk⟩, fun _ => a4⟩
  | false =>
    cases side
    · obtain ⟨h', rfl, a1, a2⟩ := hp
      exact ⟨h', a1, ⟨a2, hk⟩, fun e => by cases e⟩
    · obtain ⟨h', rfl, a1, a2⟩ := hp
      exact ⟨h', a2, ⟨a1, hk⟩, fun e => by cases e⟩
/-- Down and up. -/
theorem z_down {S : TS} {f : Fr} {t : Sh} {k : Cx} {p u : Nat} (h : Z S (f.plug t) k p u) : p = f.x ∧ f.x ≠ 0 ∧ (S.N f.x).red = f.c ∧ (S.N f.x).u = u ∧ Z S t (f :: k) (if f.side then (S.N f.x).r else (S.N f.x).l) f.x := by
  obtain ⟨ht, hk, hn⟩ := h
  obtain ⟨side, c, x, s⟩ := f
  cases side
  · obtain ⟨rfl, h0, hc, hu, hl, hr⟩ := ht
    refine ⟨rfl, h0, hc, hu, hl, ⟨rfl, h0, hc, ⟨rfl, hr⟩, by show RepC S.N S.root k p (S.N p).u; rw [hu]; exact hk⟩, ?_⟩
    simpa [Fr.plug, Sh.ps, lps, rps] using hn
  · obtain ⟨rfl, h0, hc, hu, hl, hr⟩ := ht
    refine ⟨rfl, h0, hc, hu, hr, ⟨rfl, h0, hc, ⟨rfl, hl⟩, by show RepC S.N S.root k p (S.N p).u; rw [hu]; exact hk⟩, ?_⟩
    simpa [Fr.plug, Sh.ps, lps, rps] using hn
theorem z_up {S : TS} {f : Fr} {t : Sh} {k : Cx} {p u : Nat} (h : Z S t (f :: k) p u) : u = f.x ∧ f.x ≠ 0 ∧ (S.N f.x).red = f.c ∧ p = (if f.side then (S.N f.x).r else (S.N f.x).l) ∧ Rep S.N f.s (if f.side then (S.N f.x).l else (S.N f.x).r) f.x ∧ Z S (f.plug t) k f.x (S.N f.x).u := by
  obtain ⟨ht, hk, hn⟩ := h
  obtain ⟨side, c, x, s⟩ := f
  cases side
  · obtain ⟨rfl, h0, hc, ⟨e, hs⟩, hk⟩ := hk
    refine ⟨rfl, h0, hc, e.symm, hs, ⟨rfl, h0, hc, rfl, by rw [show (S.N u).l = p from e]; exact ht, hs⟩, hk, ?_⟩
    simpa [Fr.plug, Sh.ps, lps, rps] using hn
  · obtain ⟨rfl, h0, hc, ⟨e, hs⟩, hk⟩ := hk
    refine ⟨rfl, h0, hc, e.symm, hs, ⟨rfl, h0, hc, rfl, hs, by rw [show (S.N u).r = p from e]; exact ht⟩, hk, ?_⟩
    simpa [Fr.plug, Sh.ps, lps, rps] using hn
theorem z_plug {S : TS} (k : Cx) : ∀ {t : Sh} {p u : Nat}, Z S t k p u → Rep S.N (plug k t) S.root 0 := by
  induction k with
  | nil =>
    intro t p u h
    obtain ⟨rfl, rfl⟩ := h.rk
    exact h.rt
  | cons f k ih =>
    intro t p u h
    exact ih (z_up h).2.2.2.2.2
/-- A colour alone has changed. -/
theorem col_ne {S : TS} {i j : Nat} {v : Bool} (h : j ≠ i) : (S.setc i v).N j = S.N j := upd_ne h
theorem col_eq {S : TS} {i : Nat} {v : Bool} : (S.setc i v).N i = { S.N i with red := v } := upd_eq
theorem z_ctx_in {k : Cx} {f : Fr} : f.x ∈ lps (f :: k) ∨ f.x ∈ rps (f :: k) := by
  by_cases e : f.side <;> simp [lps, rps, e]
/-- The frame's own colour. -/
theorem z_col_f {S : TS} {t : Sh} {f : Fr} {k : Cx} {p u : Nat} (h : Z S t (f :: k) p u) (v : Bool) : Z (S.setc f.x v) t ({ f with c := v } :: k) p u := by
  obtain ⟨ht, hk, hn⟩ := h
  obtain ⟨n1, n2, n3⟩ := nd_cx hn
  obtain ⟨hu, h0, hc, hsd, hk⟩ := hk
  have hne : ∀ j ∈ t.ps, j ≠ f.x := fun j hj e => n3 j hj (e ▸ z_ctx_in)
  have n2' : (∀ j, j ∈ lps k ∨ j ∈ rps k → j ≠ f.x) ∧ ∀ j ∈ f.s.ps, j ≠ f.x := by
    by_cases e : f.side
    · simp only [lps, rps, e, if_true] at n2
      simp [List.nodup_append] at n2
      obtain ⟨a1, ⟨a2, ⟨a3, a4⟩, a5⟩, a6⟩ := n2
      refine ⟨?_, fun j hj e => (a5 j hj).1 e⟩
      rintro j (hj | hj) e
      · exact a6 j hj _ (.inr (.inl rfl)) e
      · exact a3 (e ▸ hj)
    · simp only [lps, rps, e, if_false] at n2
      simp [List.nodup_append] at n2
      obtain ⟨a1, ⟨⟨a2, a3⟩, a4, a5, a6⟩, a7⟩ := n2
      refine ⟨?_, fun j hj e => a2 (e ▸ hj)⟩
      rintro j (hj | hj) e
      · exact (a7 j hj).1 e
      · exact a3 (e ▸ hj)
  refine ⟨rep_same ht fun j hj => col_ne (hne j hj), ⟨hu, h0, by show ((S.setc f.x v).N f.x).red = v; rw [col_eq], ?_, ?_⟩, hn⟩
  · show if f.side then ((S.setc f.x v).N f.x).r = p ∧ Rep (S.setc f.x v).N f.s ((S.setc f.x v).N f.x).l f.x else ((S.setc f.x v).N f.x).l = p ∧ Rep (S.setc f.x v).N f.s ((S.setc f.x v).N f.x).r f.x
    rw [col_eq]
    by_cases e : f.side
    · rw [if_pos e] at hsd ⊢
      exact ⟨hsd.1, rep_same hsd.2 fun j hj => col_ne (n2'.2 j hj)⟩
    · rw [if_neg e] at hsd ⊢
      exact ⟨hsd.1, rep_same hsd.2 fun j hj => col_ne (n2'.2 j hj)⟩
  · show RepC (S.setc f.x v).N S.root k f.x ((S.setc f.x v).N f.x).u
    rw [col_eq]
    exact repc_same hk fun j hj => col_ne (n2'.1 j hj)
/-- The colour of the tree's own root. -/
theorem z_col_t {S : TS} {c : Bool} {l r : Sh} {x : Nat} {k : Cx} {p u : Nat} (h : Z S (.n c l x r) k p u) (v : Bool) : Z (S.setc x v) (.n v l x r) k p u := by
  obtain ⟨ht, hk, hn⟩ := h
  obtain ⟨n1, n2, n3⟩ := nd_cx hn
  obtain ⟨hp, h0, hc, hu, hl, hr⟩ := ht
  simp only [Sh.ps] at n1 n3
  have nn := nd_n n1
  refine ⟨⟨hp, h0, by rw [col_eq], by rw [col_eq]; exact hu, ?_, ?_⟩, repc_same hk fun j hj => col_ne fun e => n3 x (by simp) (e ▸ hj), hn⟩
  · rw [col_eq]; exact rep_same hl fun j hj => col_ne fun e => nn.2.2.1 (e ▸ hj)
  · rw [col_eq]; exact rep_same hr fun j hj => col_ne fun e => nn.2.2.2.1 (e ▸ hj)
/-- The colour of what hangs on the other side. -/
theorem z_col_s {S : TS} {t : Sh} {side c d : Bool} {l r : Sh} {x y : Nat} {k : Cx} {p u : Nat} (h : Z S t (⟨side, c, x, .n d l y r⟩ :: k) p u) (v : Bool) : Z (S.setc y v) t (⟨side, c, x, .n v l y r⟩ :: k) p u := by
  have hz := (z_up h).2.2.2.2.2
  -- down to the other side, coloured, up again
  cases side
  · have h1 := (z_down (f := ⟨true, c, x, t⟩) (t := .n d l y r) hz).2.2.2.2
    have h2 := (z_up (z_col_t h1 v)).2.2.2.2.2
    have h3 := (z_down (f := ⟨false, c, x, .n v l y r⟩) (t := t) h2)
    have e1 := (z_up h).2.2.2.1
    have hne : x ≠ y := by
      obtain ⟨n1, n2, n3⟩ := nd_cx h1.nd
      intro e
      exact n3 y (by simp [Sh.ps]) (e ▸ z_ctx_in (f := ⟨true, c, x, t⟩))
    have e2 : (S.setc y v).N x = S.N x := col_ne hne
    rw [e2] at h3
    obtain ⟨_, _, _, _, h3⟩ := h3
    have e3 := (z_up h).1
    rw [e1, e3]
    exact h3
  · have h1 := (z_down (f := ⟨false, c, x, t⟩) (t := .n d l y r) hz).2.2.2.2
    have h2 := (z_up (z_col_t h1 v)).2.2.2.2.2
    have h3 := (z_down (f := ⟨true, c, x, .n v l y r⟩) (t := t) h2)
    have e1 := (z_up h).2.2.2.1
    have hne : x ≠ y := by
      obtain ⟨n1, n2, n3⟩ := nd_cx h1.nd
      intro e
      exact n3 y (by simp [Sh.ps]) (e ▸ z_ctx_in (f := ⟨false, c, x, t⟩))
    have e2 : (S.setc y v).N x = S.N x := col_ne hne
    rw [e2] at h3
    obtain ⟨_, _, _, _, h3⟩ := h3
    have e3 := (z_up h).1
    rw [e1, e3]
    exact h3
end Go.Proofs.YtlcaepcojglbiaaGreatDoor.Tp
namespace Go.Proofs.YtlcaepcojglbiaaGreatDoor.Tp
set_option linter.unusedVariables false
set_option linter.unusedSimpArgs false
def Nd.key (d : Nd) : Int × Int × Bool × Int := (d.t, d.q, d.taken, d.turn)
theorem key_upd {S : TS} {i j : Nat} {f : Nd → Nd} (hf : ∀ d, (f d).key = d.key) : ((S.upd i f).N j).key = (S.N j).key := by
  rw [upd_at]
  split
  · exact hf _
  · rfl
theorem key_setl {S : TS} {i v j : Nat} : ((S.setl i v).N j).key = (S.N j).key := key_upd (S := S) (f := fun d => { d with l := v }) fun _ => rfl
theorem key_setr {S : TS} {i v j : Nat} : ((S.setr i v).N j).key = (S.N j).key := key_upd (S := S) (f := fun d => { d with r := v }) fun _ => rfl
theorem key_setu {S : TS} {i v j : Nat} : ((S.setu i v).N j).key = (S.N j).key := key_upd (S := S) (f := fun d => { d with u := v }) fun _ => rfl
theorem key_setc {S : TS} {i j : Nat} {v : Bool} : ((S.setc i v).N j).key = (S.N j).key := key_upd (S := S) (f := fun d => { d with red := v }) fun _ => rfl
theorem key_setch {S : TS} {i v j : Nat} {b : Bool} : ((S.setch i b v).N j).key = (S.N j).key := by
  cases b
  · exact key_setl
  · exact key_setr
theorem ne_setl {S : TS} {i v j : Nat} (h : j ≠ i) : (S.setl i v).N j = S.N j := upd_ne (S := S) (f := fun d => { d with l := v }) h
theorem ne_setr {S : TS} {i v j : Nat} (h : j ≠ i) : (S.setr i v).N j = S.N j := upd_ne (S := S) (f := fun d => { d with r := v }) h
theorem ne_setu {S : TS} {i v j : Nat} (h : j ≠ i) : (S.setu i v).N j = S.N j := upd_ne (S := S) (f := fun d => { d with u := v }) h
theorem key_hang {S : TS} {p p' j : Nat} : ((S.hang p p').N j).key = (S.N j).key := by
  unfold TS.hang
  refine key_setu.trans ?_
  split
  · rfl
  · split
    · exact key_setl
    · exact key_setr
theorem key_turn {S : TS} {x j : Nat} {b : Bool} : ((S.turn x b).N j).key = (S.N j).key := by
  unfold TS.turn
  refine key_setu.trans (key_setch.trans (key_hang.trans ?_))
  unfold TS.turn2
  split
  · exact key_setch
  · exact key_setu.trans key_setch
theorem zero_setch {S : TS} {i v : Nat} {b : Bool} (h : i ≠ 0) : (S.setch i b v).N 0 = S.N 0 := by
  cases b
  · exact ne_setl (Ne.symm h)
  · exact ne_setr (Ne.symm h)
theorem zero_turn {S : TS} {x : Nat} {b : Bool} (hx : x ≠ 0) (hy : S.child x (!b) ≠ 0) : (S.turn x b).N 0 = S.N 0 := by
  unfold TS.turn
  refine (ne_setu (Ne.symm hx)).trans ((zero_setch hy).trans ?_)
  have h2 : (S.turn2 x b).N 0 = S.N 0 := by
    unfold TS.turn2
    split
    · exact zero_setch hx
    · rename_i h
      exact (ne_setu (Ne.symm h)).trans (zero_setch hx)
  rw [← h2]
  unfold TS.hang
  refine (ne_setu (Ne.symm hy)).trans ?_
  split
  · rfl
  · rename_i h
    split
    · exact ne_setl (Ne.symm h)
    · exact ne_setr (Ne.symm h)
theorem ok_turn {S : TS} (hk : S.ok) (x : Nat) (b : Bool) (hx : x < S.len) : (S.turn x b).ok ∧ (S.turn x b).len = S.len := by
  have hy := ok_child hk x (!b) hx
  have hi := ok_child hk _ b hy
  have h1 : (S.turn1 x b).ok ∧ (S.turn1 x b).len = S.len := ⟨ok_setch hk _ _ _ hi, by unfold TS.turn1 TS.setch; split <;> rfl⟩
  have h2 : (S.turn2 x b).ok ∧ (S.turn2 x b).len = S.len := by
    unfold TS.turn2
    split
    · exact h1
    · exact ⟨ok_setu h1.1 _ _ (by rw [h1.2]; exact hx), h1.2⟩
  have h3 := ok_hang h2.1 x (S.child x !b) (by rw [h2.2]; exact hx) (by rw [h2.2]; exact hy)
  have h4 : ((S.turn2 x b).hang x (S.child x !b)).len = S.len := h3.2.trans h2.2
  have h5 : (((S.turn2 x b).hang x (S.child x !b)).setch (S.child x !b) b x).len = S.len := by
    unfold TS.setch; split <;> exact h4
  exact ⟨ok_setu (ok_setch h3.1 _ _ _ (by rw [h4]; exact hx)) _ _ (by rw [h5]; exact hy), h5⟩
theorem hang_nf {S : TS} {p p' : Nat} : (S.hang p p').n = S.n ∧ (S.hang p p').free = S.free := by
  unfold TS.hang
  split
  · exact ⟨rfl, rfl⟩
  · split <;> exact ⟨rfl, rfl⟩
theorem turn_nf {S : TS} {x : Nat} {b : Bool} : (S.turn x b).n = S.n ∧ (S.turn x b).free = S.free := by
  have h2 : (S.turn2 x b).n = S.n ∧ (S.turn2 x b).free = S.free := by
    unfold TS.turn2 TS.turn1
    split <;> cases b <;> exact ⟨rfl, rfl⟩
  have h3 := hang_nf (S := S.turn2 x b) (p := x) (p' := S.child x !b)
  unfold TS.turn
  cases b <;> exact ⟨h3.1.trans h2.1, h3.2.trans h2.2⟩
/-! What a tree reaches. -/
def Cl (C : Nat → Prop) (S : TS) : Prop := C 0 ∧ C S.root ∧ ∀ i, C i → C (S.N i).l ∧ C (S.N i).r ∧ C (S.N i).u
def Rh (S : TS) (i : Nat) : Prop := ∀ C : Nat → Prop, Cl C S → C i
theorem rh_root {S : TS} : Rh S S.root := fun _ h => h.2.1
theorem rh_0 {S : TS} : Rh S 0 := fun _ h => h.1
def CF (C : Nat → Prop) (S S' : TS) : Prop := Cl C S' ∧ ∀ j, ¬ C j → S'.N j = S.N j
theorem cf_refl {C : Nat → Prop} {S : TS} (h : Cl C S) : CF C S S := ⟨h, fun _ _ => rfl⟩
theorem cf_upd {C : Nat → Prop} {S0 S : TS} (h : CF C S0 S) {i : Nat} {f : Nd → Nd} (hi : C i) (hf : C (f (S.N i)).l ∧ C (f (S.N i)).r ∧ C (f (S.N i)).u) : CF C S0 (S.upd i f) := by
  refine ⟨⟨h.1.1, h.1.2.1, fun j hj => ?_⟩, fun j hj => (upd_ne fun e => hj (by rw [e]; exact hi)).trans (h.2 j hj)⟩
  rw [upd_at]
  split
  · rename_i e; subst e; exact hf
  · exact h.1.2.2 j hj
theorem cf_setl {C : Nat → Prop} {S0 S : TS} (h : CF C S0 S) {i v : Nat} (hi : C i) (hv : C v) : CF C S0 (S.setl i v) := cf_upd h hi ⟨hv, (h.1.2.2 i hi).2.1, (h.1.2.2 i hi).2.2⟩
theorem cf_setr {C : Nat → Prop} {S0 S : TS} (h : CF C S0 S) {i v : Nat} (hi : C i) (hv : C v) : CF C S0 (S.setr i v) := cf_upd h hi ⟨(h.1.2.2 i hi).1, hv, (h.1.2.2 i hi).2.2⟩
theorem cf_setu {C : Nat → Prop} {S0 S : TS} (h : CF C S0 S) {i v : Nat} (hi : C i) (hv : C v) : CF C S0 (S.setu i v) := cf_upd h hi ⟨(h.1.2.2 i hi).1, (h.1.2.2 i hi).2.1, hv⟩
theorem cf_setc {C : Nat → Prop} {S0 S : TS} (h : CF C S0 S) {i : Nat} {v : Bool} (hi : C i) : CF C S0 (S.setc i v) := cf_upd h hi (h.1.2.2 i hi)
theorem cf_setch {C : Nat → Prop} {S0 S : TS} (h : CF C S0 S) {i v : Nat} {b : Bool} (hi : C i) (hv : C v) : CF C S0 (S.setch i b v) := by
  cases b
  · exact cf_setl h hi hv
  · exact cf_setr h hi hv
theorem cf_child {C : Nat → Prop} {S0 S : TS} (h : CF C S0 S) {i : Nat} {b : Bool} (hi : C i) : C (S.child i b) := by
  cases b
  · exact (h.1.2.2 i hi).1
  · exact (h.1.2.2 i hi).2.1
theorem cf_hang {C : Nat → Prop} {S0 S : TS} (h : CF C S0 S) {p p' : Nat} (hp : C p) (hp' : C p') : CF C S0 (S.hang p p') := by
  have hu := (h.1.2.2 p hp).2.2
  unfold TS.hang
  refine cf_setu ?_ hp' hu
  split
  · exact ⟨⟨h.1.1, hp', h.1.2.2⟩, h.2⟩
  · split
    · exact cf_setl h hu hp'
    · exact cf_setr h hu hp'
theorem cf_turn {C : Nat → Prop} {S0 S : TS} (h : CF C S0 S) {x : Nat} {b : Bool} (hx : C x) : CF C S0 (S.turn x b) := by
  have hy : C (S.child x !b) := cf_child h hx
  have hi : C (S.child (S.child x !b) b) := cf_child h hy
  have h1 : CF C S0 (S.turn1 x b) := cf_setch h hx hi
  have h2 : CF C S0 (S.turn2 x b) := by
    unfold TS.turn2
    split
    · exact h1
    · exact cf_setu h1 hi hx
  unfold TS.turn
  exact cf_setu (cf_setch (cf_hang h2 hx hy) hy hx) hx hy
theorem rh_setc {S : TS} {i j : Nat} {v : Bool} (h : Rh S j) : Rh (S.setc i v) j := fun C hC => h C ⟨hC.1, hC.2.1, fun a ha => by
  have := hC.2.2 a ha
  rw [show (S.setc i v).N a = if a = i then { S.N a with red := v } else S.N a from upd_at _ _ _ _] at this
  split at this <;> exact this⟩
theorem rep_rh {S : TS} {C : Nat → Prop} (hC : Cl C S) {t : Sh} {p u : Nat} (h : Rep S.N t p u) (hp : C p) : ∀ j ∈ t.ps, C j := by
  induction t generalizing p u with
  | e => intro j hj; simp [Sh.ps] at hj
  | n c l x r ihl ihr =>
    obtain ⟨rfl, h0, _, _, hl, hr⟩ := h
    have h1 := hC.2.2 p hp
    intro j hj
    simp only [Sh.ps, List.mem_append, List.mem_cons] at hj
    rcases hj with hj | rfl | hj
    · exact ihl hl h1.1 j hj
    · exact hp
    · exact ihr hr h1.2.1 j hj
theorem z_rh {S : TS} {t : Sh} {k : Cx} {p u : Nat} (h : Z S t k p u) {j : Nat} (hj : j ∈ lps k ∨ j ∈ t.ps ∨ j ∈ rps k) : Rh S j := fun C hC => rep_rh hC (z_plug k h) hC.2.1 j (by rw [ps_plug]; simp; exact hj)
/-- Links and colours alone have changed, and those of the tree alone. -/
structure KS (S0 S : TS) : Prop where
  ok : S.ok
  len : S.len = S0.len
  n : S.n = S0.n
  free : S.free = S0.free
  key : ∀ j, (S.N j).key = (S0.N j).key
  fr : ∀ C : Nat → Prop, Cl C S0 → CF C S0 S
theorem ks_refl {S : TS} (h : S.ok) : KS S S := ⟨h, rfl, rfl, rfl, fun _ => rfl, fun _ hC => cf_refl hC⟩
theorem ks_setc {S0 S : TS} (h : KS S0 S) (i : Nat) (v : Bool) (hi : Rh S i) : KS S0 (S.setc i v) := ⟨ok_setc h.ok i v, h.len, h.n, h.free, fun j => key_setc.trans (h.key j), fun C hC => cf_setc (h.fr C hC) (hi C (h.fr C hC).1)⟩
theorem ks_turn {S0 S : TS} (h : KS S0 S) (x : Nat) (b : Bool) (hx : x < S0.len) (hi : Rh S x) : KS S0 (S.turn x b) := by
  have h1 := ok_turn h.ok x b (by rw [h.len]; exact hx)
  have h2 := turn_nf (S := S) (x := x) (b := b)
  exact ⟨h1.1, h1.2.trans h.len, h2.1.trans h.n, h2.2.trans h.free, fun j => key_turn.trans (h.key j), fun C hC => cf_turn (h.fr C hC) (hi C (h.fr C hC).1)⟩
/-- At the head of mend: a red node may hang on a red one. -/
structure MI (S0 S : TS) (PS : List Nat) (l r : Sh) (x u : Nat) (k : Cx) (h : Nat) : Prop where
  z : Z S (.n true l x r) k x u
  rb : RBt l h ∧ RBt r h ∧ l.red = false ∧ r.red = false
  c : RBc k h
  ks : KS S0 S
  o : S.N 0 = S0.N 0
  ord : lps k ++ ((Sh.n true l x r).ps ++ rps k) = PS
/-- A tree in order. -/
structure WT (S : TS) (PS : List Nat) : Prop where
  rb : ∃ w h, Rep S.N w S.root 0 ∧ RBt w h ∧ w.red = false ∧ w.ps = PS
  nd : PS.Nodup
theorem rep_red {N : Nat → Nd} {t : Sh} {p u : Nat} (h : Rep N t p u) (h0 : (N 0).red = false) : (N p).red = t.red := by
  cases t with
  | e => obtain rfl : p = 0 := h; exact h0
  | n c l x r => obtain ⟨rfl, _, hc, _⟩ := h; exact hc
theorem setc_id {S : TS} {i : Nat} {v : Bool} (h : (S.N i).red = v) : (S.setc i v).N = S.N := by
  funext j
  by_cases e : j = i
  · subst e
    rw [col_eq]
    cases hS : S.N j
    rw [hS] at h
    simp only at h
    rw [h]
  · exact col_ne e
/-- The end of mend. -/
theorem mend_done {S0 S : TS} {PS : List Nat} {l r : Sh} {x u : Nat} {k : Cx} {h : Nat} (m : MI S0 S PS l r x u k h) (hc : cred k = false) (h0 : (S0.N 0).red = false) : KS S0 (S.setc S.root false) ∧ WT (S.setc S.root false) PS ∧ (S.setc S.root false).N 0 = S0.N 0 := by
  have hn : PS.Nodup := by rw [← m.ord]; exact m.z.nd
  cases k with
  | nil =>
    obtain ⟨e, rfl⟩ := m.z.rk
    have hz := z_col_t m.z false
    refine ⟨ks_setc m.ks _ _ rh_root, ⟨⟨.n false l x r, h + 1, ?_, ⟨h, rfl, m.rb.1, m.rb.2.1⟩, rfl, ?_⟩, hn⟩, ?_⟩
    · rw [e]; have := hz.rt; show Rep (S.setc x false).N _ S.root 0; rw [e]; exact this
    · rw [← m.ord]; simp [lps, rps, Sh.ps]
    · rw [e]; exact (col_ne (Ne.symm m.z.rt.2.1)).trans m.o
  | cons f k =>
    obtain ⟨h', w1, w2⟩ := plug_rb (f :: k) (.n true l x r) h m.c ⟨m.rb.1, m.rb.2.1, m.rb.2.2.1, m.rb.2.2.2⟩ (fun e => by rw [hc] at e; cases e)
    have hp := z_plug _ m.z
    have hr := w2 (by simp)
    have hN := setc_id (S := S) (i := S.root) (v := false) (by rw [rep_red hp (by rw [m.o]; exact h0)]; exact hr)
    refine ⟨ks_setc m.ks _ _ rh_root, ⟨⟨plug (f :: k) (.n true l x r), h', ?_, w1, hr, ?_⟩, hn⟩, by rw [hN]; exact m.o⟩
    · rw [hN]; exact hp
    · rw [ps_plug, m.ord]
/-- A red uncle. -/
theorem mend_uncle {S0 S : TS} {PS : List Nat} {l r ul ur : Sh} {x u ux : Nat} {fs gs : Bool} {fx gx : Nat} {s : Sh} {k : Cx} {h : Nat} (m : MI S0 S PS l r x u (⟨fs, true, fx, s⟩ :: ⟨gs, false, gx, .n true ul ux ur⟩ :: k) h) :
    ∃ l' r', MI S0 (((S.setc fx false).setc ux false).setc gx true) PS l' r' gx (S.N gx).u k (h + 1) := by
  obtain ⟨hz, hrb, ⟨c1, c2, _, _, c3, c4⟩, hks, ho, hord⟩ := m
  have z1 := z_col_f hz false
  obtain ⟨_, f0, _, _, _, z2⟩ := z_up z1
  have z3 := z_col_s z2 false
  obtain ⟨_, g0, _, _, _, z4⟩ := z_up z3
  have hux : ux ≠ 0 := (z_up z2).2.2.2.2.1.2.1
  have eu : (((S.setc fx false).setc ux false).N gx).u = (S.N gx).u := by
    rw [show ((S.setc fx false).setc ux false).N gx = if gx = ux then { (S.setc fx false).N gx with red := false } else (S.setc fx false).N gx from upd_at _ _ _ _, show (S.setc fx false).N gx = if gx = fx then { S.N gx with red := false } else S.N gx from upd_at _ _ _ _]
    split <;> split <;> rfl
  have rf : Rh S fx := z_rh hz (by cases fs <;> cases gs <;> simp [lps, rps, Sh.ps])
  have ru : Rh S ux := z_rh hz (by cases fs <;> cases gs <;> simp [lps, rps, Sh.ps])
  have rg : Rh S gx := z_rh hz (by cases fs <;> cases gs <;> simp [lps, rps, Sh.ps])
  have hk' : KS S0 (((S.setc fx false).setc ux false).setc gx true) := ks_setc (ks_setc (ks_setc hks _ _ rf) _ _ (rh_setc ru)) _ _ (rh_setc (rh_setc rg))
  have ho' : (((S.setc fx false).setc ux false).setc gx true).N 0 = S0.N 0 := (col_ne (Ne.symm g0)).trans ((col_ne (Ne.symm hux)).trans ((col_ne (Ne.symm f0)).trans ho))
  have hp : RBt (Fr.plug ⟨fs, false, fx, s⟩ (.n true l x r)) (h + 1) ∧ (Fr.plug ⟨fs, false, fx, s⟩ (.n true l x r)).red = false := by
    cases fs
    · exact ⟨⟨h, rfl, ⟨hrb.1, hrb.2.1, hrb.2.2.1, hrb.2.2.2⟩, c1⟩, rfl⟩
    · exact ⟨⟨h, rfl, c1, ⟨hrb.1, hrb.2.1, hrb.2.2.1, hrb.2.2.2⟩⟩, rfl⟩
  have hu : RBt (.n false ul ux ur) (h + 1) := ⟨h, rfl, c3.1, c3.2.1⟩
  have hps : ∀ v : Bool, (Fr.plug ⟨fs, v, fx, s⟩ (.n true l x r)).ps = (if fs then s.ps ++ fx :: (Sh.n true l x r).ps else (Sh.n true l x r).ps ++ fx :: s.ps) := by intro v; cases fs <;> rfl
  cases gs
  · refine ⟨_, _, ⟨by rw [← eu]; exact z_col_t z4 true, ⟨hp.1, hu, hp.2, rfl⟩, c4, hk', ho', ?_⟩⟩
    rw [← hord]
    cases fs <;> simp [lps, rps, Sh.ps, Fr.plug]
  · refine ⟨_, _, ⟨by rw [← eu]; exact z_col_t z4 true, ⟨hu, hp.1, rfl, hp.2⟩, c4, hk', ho', ?_⟩⟩
    rw [← hord]
    cases fs <;> simp [lps, rps, Sh.ps, Fr.plug]
end Go.Proofs.YtlcaepcojglbiaaGreatDoor.Tp
namespace Go.Proofs.YtlcaepcojglbiaaGreatDoor.Tp
set_option linter.unusedVariables false
set_option linter.unusedSimpArgs false
theorem rep_lt {S : TS} (hk : S.ok) {t : Sh} {p u : Nat} (h : Rep S.N t p u) (hp : p < S.len) : ∀ j ∈ t.ps, j < S.len := by
  induction t generalizing p u with
  | e => intro j hj; simp [Sh.ps] at hj
  | n c l x r ihl ihr =>
    obtain ⟨rfl, h0, _, _, hl, hr⟩ := h
    have h1 := hk.2 p hp
    intro j hj
    simp only [Sh.ps, List.mem_append, List.mem_cons] at hj
    rcases hj with hj | rfl | hj
    · exact ihl hl h1.1 j hj
    · exact hp
    · exact ihr hr h1.2.1 j hj
theorem z_lt {S : TS} (hk : S.ok) {t : Sh} {k : Cx} {p u : Nat} (h : Z S t k p u) : (∀ j, j ∈ lps k ∨ j ∈ t.ps ∨ j ∈ rps k → j < S.len) ∧ p < S.len ∧ u < S.len := by
  have h1 := rep_lt hk (z_plug k h) hk.1
  have h0 : 0 < S.len := Nat.lt_of_le_of_lt (Nat.zero_le _) hk.1
  have h2 : ∀ j, j ∈ lps k ∨ j ∈ t.ps ∨ j ∈ rps k → j < S.len := fun j hj => h1 j (by rw [ps_plug]; simp; exact hj)
  refine ⟨h2, ?_, ?_⟩
  · rcases rep_place h.rt with ⟨rfl, _⟩ | ⟨_, h3, _⟩
    · exact h0
    · exact h2 p (.inr (.inl h3))
  · rcases repc_up h.rk with ⟨rfl, _⟩ | ⟨_, h3⟩
    · exact h0
    · exact h2 u (by rcases h3 with h3 | h3 <;> simp [h3])
theorem mend_inner {S0 S : TS} {PS : List Nat} {l r us : Sh} {x u : Nat} {gs : Bool} {fx gx : Nat} {s : Sh} {k : Cx} {h : Nat} (m : MI S0 S PS l r x u (⟨!gs, true, fx, s⟩ :: ⟨gs, false, gx, us⟩ :: k) h) :
    ∃ l' r' s', MI S0 (S.turn fx gs) PS l' r' fx x (⟨gs, true, x, s'⟩ :: ⟨gs, false, gx, us⟩ :: k) h := by
  obtain ⟨hz, hrb, ⟨c1, c2, c3, c4, c5⟩, hks, ho, hord⟩ := m
  obtain ⟨_, f0, fc, fp, _, z2⟩ := z_up hz
  have hx0 : x ≠ 0 := hz.rt.2.1
  have hfl : fx < S0.len := by
    rw [← hks.len]; exact (z_lt hks.ok hz).1 fx (by rcases (z_ctx_in (k := ⟨gs, false, gx, us⟩ :: k) (f := ⟨!gs, true, fx, s⟩)) with e | e <;> simp at e <;> simp [e])
  have rf : Rh S fx := z_rh hz (by cases gs <;> simp [lps, rps, Sh.ps])
  have hk' := ks_turn hks fx gs hfl rf
  have hch : S.child fx (!gs) = x := by
    have := fp
    cases gs <;> exact this.symm
  have ho' : (S.turn fx gs).N 0 = S0.N 0 := (zero_turn f0 (by rw [hch]; exact hx0)).trans ho
  cases gs
  · have z3 := turn_l_zip (c := true) (d := true) (r := s) (x := fx) (b := l) (y := x) (a := r) z2
    have z4 := (z_down (f := ⟨false, true, x, r⟩) (t := .n true s fx l) z3).2.2.2.2
    have e4 : (if (⟨false, true, x, r⟩ : Fr).side then ((S.turn fx false).N x).r else ((S.turn fx false).N x).l) = fx := z4.rt.1
    rw [e4] at z4
    refine ⟨s, l, r, ⟨z4, ⟨c1, hrb.1, c2, hrb.2.2.1⟩, ⟨hrb.2.1, hrb.2.2.2, c3, c4, c5⟩, hk', ho', ?_⟩⟩
    rw [← hord]
    simp [lps, rps, Sh.ps]
  · have z3 := turn_r_zip (c := true) (d := true) (r := s) (x := fx) (b := r) (y := x) (a := l) z2
    have z4 := (z_down (f := ⟨true, true, x, l⟩) (t := .n true r fx s) z3).2.2.2.2
    have e4 : (if (⟨true, true, x, l⟩ : Fr).side then ((S.turn fx true).N x).r else ((S.turn fx true).N x).l) = fx := z4.rt.1
    rw [e4] at z4
    refine ⟨r, s, l, ⟨z4, ⟨hrb.2.1, c1, hrb.2.2.2, c2⟩, ⟨hrb.1, hrb.2.2.1, c3, c4, c5⟩, hk', ho', ?_⟩⟩
    rw [← hord]
    simp [lps, rps, Sh.ps]
theorem mend_outer {S0 S : TS} {PS : List Nat} {l r us : Sh} {x u : Nat} {gs : Bool} {fx gx : Nat} {s : Sh} {k : Cx} {h : Nat} (m : MI S0 S PS l r x u (⟨gs, true, fx, s⟩ :: ⟨gs, false, gx, us⟩ :: k) h) (hus : us.red = false) :
    ∃ s', MI S0 (((S.setc fx false).setc gx true).turn gx !gs) PS l r x fx (⟨gs, false, fx, s'⟩ :: k) h := by
  obtain ⟨hz, hrb, ⟨c1, c2, c3, c4, c5⟩, hks, ho, hord⟩ := m
  have z1 := z_col_f hz false
  obtain ⟨_, f0, _, fp, _, z2⟩ := z_up z1
  have z3 := z_col_f z2 true
  obtain ⟨_, g0, _, gp, _, z4⟩ := z_up z3
  have hgl : gx < S0.len := by
    rw [← hks.len]; exact (z_lt hks.ok hz).1 gx (by cases gs <;> simp [lps, rps])
  have rf : Rh S fx := z_rh hz (by cases gs <;> simp [lps, rps, Sh.ps])
  have rg : Rh S gx := z_rh hz (by cases gs <;> simp [lps, rps, Sh.ps])
  have hk' := ks_turn (ks_setc (ks_setc hks fx false rf) gx true (rh_setc rg)) gx (!gs) hgl (rh_setc (rh_setc rg))
  have ho1 : ((S.setc fx false).setc gx true).N 0 = S0.N 0 := (col_ne (Ne.symm g0)).trans ((col_ne (Ne.symm f0)).trans ho)
  have hch : ((S.setc fx false).setc gx true).child gx (!!gs) = fx := by
    have := gp
    cases gs <;> exact this.symm
  have ho' : (((S.setc fx false).setc gx true).turn gx !gs).N 0 = S0.N 0 := (zero_turn g0 (by rw [hch]; exact f0)).trans ho1
  cases gs
  · have z5 := turn_r_zip (c := true) (d := false) (a := .n true l x r) (y := fx) (b := s) (x := gx) (r := us) z4
    have z6 := (z_down (f := ⟨false, false, fx, .n true s gx us⟩) (t := .n true l x r) z5).2.2.2.2
    have e6 : (if (⟨false, false, fx, .n true s gx us⟩ : Fr).side then ((((S.setc fx false).setc gx true).turn gx true).N fx).r else ((((S.setc fx false).setc gx true).turn gx true).N fx).l) = x := z6.rt.1
    rw [e6] at z6
    refine ⟨.n true s gx us, ⟨z6, hrb, ⟨⟨c1, c5.1, c2, hus⟩, c5.2⟩, hk', ho', ?_⟩⟩
    rw [← hord]
    simp [lps, rps, Sh.ps]
  · have z5 := turn_l_zip (c := true) (d := false) (a := .n true l x r) (y := fx) (b := s) (x := gx) (r := us) z4
    have z6 := (z_down (f := ⟨true, false, fx, .n true us gx s⟩) (t := .n true l x r) z5).2.2.2.2
    have e6 : (if (⟨true, false, fx, .n true us gx s⟩ : Fr).side then ((((S.setc fx false).setc gx true).turn gx false).N fx).r else ((((S.setc fx false).setc gx true).turn gx false).N fx).l) = x := z6.rt.1
    rw [e6] at z6
    refine ⟨.n true us gx s, ⟨z6, hrb, ⟨⟨c5.1, c1, hus, c2⟩, c5.2⟩, hk', ho', ?_⟩⟩
    rw [← hord]
    simp [lps, rps, Sh.ps]
end Go.Proofs.YtlcaepcojglbiaaGreatDoor.Tp
namespace Go.Proofs.YtlcaepcojglbiaaGreatDoor.Tp
set_option linter.unusedVariables false
set_option linter.unusedSimpArgs false
/-- One black too few: a red root is to be painted. -/
def RBx : Sh → Nat → Prop
  | .e, h => h = 0
  | .n true l _ r, h => RBt l h ∧ RBt r h
  | .n false l x r, h => RBt (.n false l x r) h
theorem rbx_black {t : Sh} {h : Nat} (hx : RBx t h) (hr : t.red = false) : RBt t h := by
  match t, hr with
  | .e, _ => exact hx
  | .n false l x r, _ => exact hx
structure FI (S0 S : TS) (PS : List Nat) (t : Sh) (x u : Nat) (k : Cx) (h : Nat) : Prop where
  z : Z S t k x u
  e : t = .e → (S.N 0).u = u
  rb : RBx t h
  c : RBc k (h + 1)
  ks : KS S0 S
  o : S.N 0 = S0.N 0
  ord : lps k ++ (t.ps ++ rps k) = PS
def FI.mu (t : Sh) (k : Cx) : Nat := if t.red = true ∨ k = [] then 0 else if cred k = true then 1 else 2 + k.length
theorem plug_root {S : TS} {k : Cx} {t : Sh} {x u : Nat} (h : Z S t k x u) (hk : k ≠ []) : S.root ≠ x ∧ S.root ≠ 0 := by
  induction k generalizing t x u with
  | nil => exact absurd rfl hk
  | cons f k ih =>
    obtain ⟨e, f0, _, hp, _, z⟩ := z_up h
    cases k with
    | nil =>
      obtain ⟨hr, _⟩ := z.rk
      rw [hr]
      refine ⟨fun e2 => ?_, f0⟩
      rcases rep_place h.rt with ⟨h1, _⟩ | ⟨_, h1, _⟩
      · exact f0 (e2.trans h1)
      · exact (nd_cx h.nd).2.2 x h1 (e2 ▸ z_ctx_in)
    | cons g k =>
      obtain ⟨h1, h2⟩ := ih z (by simp)
      refine ⟨fun e2 => ?_, h2⟩
      have hz := z_plug _ z
      -- the root is no place of the tree below
      rcases rep_place h.rt with ⟨h3, _⟩ | ⟨h3, h4, _⟩
      · exact h2 (e2.trans h3)
      · have n := nd_cx z.nd
        have : x ∈ (f.plug t).ps := by
          obtain ⟨side, c, y, s⟩ := f
          cases side <;> simp [Fr.plug, Sh.ps, h4]
        have hroot : S.root ∈ lps (g :: k) ∨ S.root ∈ rps (g :: k) ∨ S.root = f.x := by
          have key : ∀ (k : Cx) (p u : Nat), RepC S.N S.root k p u → k ≠ [] → S.root ∈ lps k ∨ S.root ∈ rps k := by
            intro k
            induction k with
            | nil => intro _ _ _ h; exact absurd rfl h
            | cons a k ih =>
              intro p u hc _
              obtain ⟨_, _, _, _, hk⟩ := hc
              cases k with
              | nil => rw [hk.1]; exact z_ctx_in
              | cons b k =>
                rcases ih a.x _ hk (by simp) with h | h
                · left; by_cases e : a.side <;> simp [lps, e] <;> simp [lps] at h <;> simp [h]
                · right; by_cases e : a.side <;> simp [rps, e] <;> simp [rps] at h <;> simp [h]
          rcases key _ _ _ z.rk (by simp) with h | h
          · exact .inl h
          · exact .inr (.inl h)
        rcases hroot with h5 | h5 | h5
        · exact n.2.2 x this (.inl (e2 ▸ h5))
        · exact n.2.2 x this (.inr (e2 ▸ h5))
        · exact h1 h5
/-- The end of fill. -/
theorem fill_done {S0 S : TS} {PS : List Nat} {t : Sh} {x u : Nat} {k : Cx} {h : Nat} (m : FI S0 S PS t x u k h) (hc : t.red = true ∨ k = []) (h0 : (S0.N 0).red = false) : KS S0 (S.setc x false) ∧ WT (S.setc x false) PS ∧ (S.setc x false).N 0 = S0.N 0 := by
  have hn : PS.Nodup := by rw [← m.ord]; exact m.z.nd
  match t, m with
  | .e, m =>
    have hk : k = [] := hc.elim (fun h => by simp [Sh.red] at h) id
    subst hk
    obtain rfl : x = 0 := m.z.rt
    have hN := setc_id (S := S) (i := 0) (v := false) (by rw [m.o]; exact h0)
    refine ⟨ks_setc m.ks _ _ rh_0, ⟨⟨.e, 0, ?_, rfl, rfl, ?_⟩, hn⟩, by rw [hN]; exact m.o⟩
    · rw [hN]; exact m.z.rk.1
    · rw [← m.ord]; rfl
  | .n c l y r, m =>
    obtain rfl : x = y := m.z.rt.1
    have hz := z_col_t m.z false
    have hx0 : x ≠ 0 := m.z.rt.2.1
    have hb : ∃ h', RBt (.n false l x r) h' ∧ (k = [] ∨ h' = h + 1) := by
      cases c with
      | true => exact ⟨h + 1, ⟨h, rfl, m.rb.1, m.rb.2⟩, .inr rfl⟩
      | false => exact ⟨h, m.rb, .inl (hc.elim (fun h => by simp [Sh.red] at h) id)⟩
    obtain ⟨h', hb1, hb2⟩ := hb
    have hcc : RBc k h' := by
      rcases hb2 with rfl | rfl
      · trivial
      · exact m.c
    obtain ⟨h2, w1, w2⟩ := plug_rb k (.n false l x r) h' hcc hb1 (fun _ => rfl)
    refine ⟨ks_setc m.ks _ _ (z_rh m.z (by simp [Sh.ps])), ⟨⟨plug k (.n false l x r), h2, z_plug _ hz, w1, ?_, ?_⟩, hn⟩, (col_ne (Ne.symm hx0)).trans m.o⟩
    · cases k with
      | nil => rfl
      | cons f k => exact w2 (by simp)
    · rw [ps_plug, ← m.ord]; rfl
/-- The other side of one that lacks a black is no empty one. -/
theorem fill_sib {s : Sh} {h : Nat} (hs : RBt s (h + 1)) : ∃ c l w r, s = .n c l w r := by
  cases s with
  | e => simp [RBt] at hs
  | n c l w r => exact ⟨c, l, w, r, rfl⟩
end Go.Proofs.YtlcaepcojglbiaaGreatDoor.Tp
namespace Go.Proofs.YtlcaepcojglbiaaGreatDoor.Tp
set_option linter.unusedVariables false
set_option linter.unusedSimpArgs false
theorem z_frame_lt {S : TS} {S0 : TS} (hks : KS S0 S) {t : Sh} {f : Fr} {k : Cx} {p u : Nat} (hz : Z S t (f :: k) p u) : f.x < S0.len ∧ ∀ j ∈ f.s.ps, j < S0.len := by
  have h1 := (z_lt hks.ok hz).1
  rw [hks.len] at h1
  exact ⟨h1 f.x (by rcases z_ctx_in (f := f) (k := k) with e | e <;> simp [e]), fun j hj => h1 j (by by_cases e : f.side <;> simp [lps, rps, e, hj])⟩
/-- A red one on the other side. -/
theorem fill_red {S0 S : TS} {PS : List Nat} {t wl wr : Sh} {x u w : Nat} {fs fc : Bool} {fx : Nat} {k : Cx} {h : Nat} (m : FI S0 S PS t x u (⟨fs, fc, fx, .n true wl w wr⟩ :: k) h) :
    ∃ s' f', FI S0 (((S.setc w false).setc fx true).turn fx fs) PS t x fx (⟨fs, true, fx, s'⟩ :: f' :: k) h := by
  obtain ⟨hz, he, hrb, hc, hks, ho, hord⟩ := m
  have hfc : fc = false := by
    cases fc with
    | false => rfl
    | true => have := hc.2.1; simp [Sh.red] at this
  subst hfc
  obtain ⟨⟨w1, w2, w3, w4⟩, hc2⟩ := hc
  have z1 := z_col_s hz false
  have z2 := z_col_f z1 true
  obtain ⟨eu, f0, _, fp, fsb, z3⟩ := z_up z2
  have eu : u = fx := eu
  have f0 : fx ≠ 0 := f0
  have hw0 : w ≠ 0 := fsb.2.1
  obtain ⟨hfl, _⟩ := z_frame_lt hks hz
  have rw' : Rh S w := z_rh hz (by cases fs <;> simp [lps, rps, Sh.ps])
  have rf : Rh S fx := z_rh hz (by cases fs <;> simp [lps, rps, Sh.ps])
  have hk' := ks_turn (ks_setc (ks_setc hks w false rw') fx true (rh_setc rf)) fx fs hfl (rh_setc (rh_setc rf))
  have ho1 : ((S.setc w false).setc fx true).N 0 = S0.N 0 := (col_ne (Ne.symm f0)).trans ((col_ne (Ne.symm hw0)).trans ho)
  have hch : ((S.setc w false).setc fx true).child fx (!fs) = w := by
    have := fsb.1
    cases fs <;> exact this
  have ho' : (((S.setc w false).setc fx true).turn fx fs).N 0 = S0.N 0 := (zero_turn f0 (by rw [hch]; exact hw0)).trans ho1
  have he' : t = .e → ((((S.setc w false).setc fx true).turn fx fs).N 0).u = fx := fun e => by rw [ho', ← ho, he e, eu]
  cases fs
  · have z4 := turn_l_zip (c := true) (d := false) (r := t) (x := fx) (b := wl) (y := w) (a := wr) z3
    have z5 := (z_down (f := ⟨false, false, w, wr⟩) (t := .n true t fx wl) z4).2.2.2.2
    have e5 : (if (⟨false, false, w, wr⟩ : Fr).side then ((((S.setc w false).setc fx true).turn fx false).N w).r else ((((S.setc w false).setc fx true).turn fx false).N w).l) = fx := z5.rt.1
    rw [e5] at z5
    obtain ⟨_, _, _, _, z6⟩ := z_down (f := ⟨false, true, fx, wl⟩) (t := t) z5
    have e6 : (if (⟨false, true, fx, wl⟩ : Fr).side then ((((S.setc w false).setc fx true).turn fx false).N fx).r else ((((S.setc w false).setc fx true).turn fx false).N fx).l) = x := by
      rcases rep_place hz.rt with ⟨h1, h2⟩ | ⟨h1, h2, _⟩
      · have := z6.rt; rw [h2] at this; rw [h1]; exact this
      · cases t with
        | e => simp [Sh.ps] at h2
        | n c l y r => exact z6.rt.1.trans hz.rt.1.symm
    rw [e6] at z6
    refine ⟨wl, ⟨false, false, w, wr⟩, ⟨z6, he', hrb, ⟨w1, w3, by simp, rfl, w2, hc2⟩, hk', ho', ?_⟩⟩
    rw [← hord]
    simp [lps, rps, Sh.ps]
  · have z4 := turn_r_zip (c := true) (d := false) (r := t) (x := fx) (b := wr) (y := w) (a := wl) z3
    have z5 := (z_down (f := ⟨true, false, w, wl⟩) (t := .n true wr fx t) z4).2.2.2.2
    have e5 : (if (⟨true, false, w, wl⟩ : Fr).side then ((((S.setc w false).setc fx true).turn fx true).N w).r else ((((S.setc w false).setc fx true).turn fx true).N w).l) = fx := z5.rt.1
    rw [e5] at z5
    obtain ⟨_, _, _, _, z6⟩ := z_down (f := ⟨true, true, fx, wr⟩) (t := t) z5
    have e6 : (if (⟨true, true, fx, wr⟩ : Fr).side then ((((S.setc w false).setc fx true).turn fx true).N fx).r else ((((S.setc w false).setc fx true).turn fx true).N fx).l) = x := by
      rcases rep_place hz.rt with ⟨h1, h2⟩ | ⟨h1, h2, _⟩
      · have := z6.rt; rw [h2] at this; rw [h1]; exact this
      · cases t with
        | e => simp [Sh.ps] at h2
        | n c l y r => exact z6.rt.1.trans hz.rt.1.symm
    rw [e6] at z6
    refine ⟨wr, ⟨true, false, w, wl⟩, ⟨z6, he', hrb, ⟨w2, w4, by simp, rfl, w1, hc2⟩, hk', ho', ?_⟩⟩
    rw [← hord]
    simp [lps, rps, Sh.ps]
/-- Black ones below it. -/
theorem fill_both {S0 S : TS} {PS : List Nat} {t wl wr : Sh} {x u w : Nat} {fs fc : Bool} {fx : Nat} {k : Cx} {h : Nat} (m : FI S0 S PS t x u (⟨fs, fc, fx, .n false wl w wr⟩ :: k) h) (ht : t.red = false) (hl : wl.red = false) (hr : wr.red = false) :
    ∃ t' h', FI S0 (S.setc w true) PS t' fx ((S.N fx).u) k h' ∧ FI.mu t' k < FI.mu t (⟨fs, fc, fx, .n false wl w wr⟩ :: k) := by
  obtain ⟨hz, he, hrb, hc, hks, ho, hord⟩ := m
  have z1 := z_col_s hz true
  obtain ⟨eu, f0, _, fp, fsb, z3⟩ := z_up z1
  have f0 : fx ≠ 0 := f0
  have hw0 : w ≠ 0 := fsb.2.1
  have hwf : fx ≠ w := by
    obtain ⟨n1, n2, n3⟩ := nd_cx (z_up hz).2.2.2.2.2.nd
    cases fs
    · exact fun e => (nd_n n1).2.2.2.1 (by simp [Sh.ps, e])
    · exact fun e => (nd_n n1).2.2.1 (by simp [Sh.ps, e])
  have hu : ((S.setc w true).N fx).u = (S.N fx).u := by rw [col_ne hwf]
  have hk' := ks_setc hks w true (z_rh hz (by cases fs <;> simp [lps, rps, Sh.ps]))
  have ho' : (S.setc w true).N 0 = S0.N 0 := (col_ne (Ne.symm hw0)).trans ho
  have hb := rbx_black hrb ht
  have hB : RBt (.n true wl w wr) h := by
    have : RBt (.n false wl w wr) (h + 1) := by cases fc <;> exact hc.1
    obtain ⟨h', e, a1, a2⟩ := this
    obtain rfl : h = h' := by omega
    exact ⟨a1, a2, hl, hr⟩
  refine ⟨Fr.plug ⟨fs, fc, fx, .n true wl w wr⟩ t, if fc then h else h + 1, ⟨by rw [← hu]; exact z3, fun e => by cases fs <;> simp [Fr.plug] at e, ?_, ?_, hk', ho', ?_⟩, ?_⟩
  · cases fc <;> cases fs
    · exact ⟨h, rfl, hb, hB⟩
    · exact ⟨h, rfl, hB, hb⟩
    · exact ⟨hb, hB⟩
    · exact ⟨hB, hb⟩
  · cases fc
    · exact hc.2
    · exact hc.2.2.2.2
  · rw [← hord]
    cases fs <;> simp [lps, rps, Sh.ps, Fr.plug]
  · have hm : FI.mu t (⟨fs, fc, fx, .n false wl w wr⟩ :: k) = if fc = true then 1 else 2 + (k.length + 1) := by
      unfold FI.mu
      rw [if_neg (by rw [ht]; simp)]
      rfl
    rw [hm]
    cases fc
    · simp only [Bool.false_eq_true, if_false]
      unfold FI.mu
      split
      · omega
      · split <;> omega
    · rw [if_pos rfl]
      unfold FI.mu
      rw [if_pos (.inl (by cases fs <;> rfl))]
      omega
/-- The far one is black, the near one red. -/
theorem fill_near {S0 S : TS} {PS : List Nat} {t a b fr : Sh} {x u w nr : Nat} {fs fc : Bool} {fx : Nat} {k : Cx} {h : Nat} (m : FI S0 S PS t x u (⟨fs, fc, fx, if fs then .n false fr w (.n true a nr b) else .n false (.n true a nr b) w fr⟩ :: k) h) (hfr : fr.red = false) :
    ∃ na fl fb, FI S0 (((S.setc nr false).setc w true).turn w !fs) PS t x u (⟨fs, fc, fx, if fs then .n false (.n true fl w fb) nr na else .n false na nr (.n true fl w fb)⟩ :: k) h := by
  obtain ⟨hz, he, hrb, hc, hks, ho, hord⟩ := m
  have hx : ∀ S' (s' : Sh), Z S' t (⟨fs, fc, fx, s'⟩ :: k) ((if fs then (S'.N fx).r else (S'.N fx).l)) fx → (if fs then (S'.N fx).r else (S'.N fx).l) = x := by
    intro S' s' z
    rcases rep_place hz.rt with ⟨h1, h2⟩ | ⟨h1, h2, _⟩
    · have := z.rt; rw [h2] at this; rw [h1]; exact this
    · cases t with
      | e => simp [Sh.ps] at h2
      | n c l y r => exact z.rt.1.trans hz.rt.1.symm
  obtain ⟨hfl, hsl⟩ := z_frame_lt hks hz
  have hwl : w < S0.len := hsl w (by cases fs <;> simp [Sh.ps])
  have rn : Rh S nr := z_rh hz (by cases fs <;> simp [lps, rps, Sh.ps])
  have rw' : Rh S w := z_rh hz (by cases fs <;> simp [lps, rps, Sh.ps])
  have hk' := ks_turn (ks_setc (ks_setc hks nr false rn) w true (rh_setc rw')) w (!fs) hwl (rh_setc (rh_setc rw'))
  have eu : u = fx := (z_up hz).1
  cases fs
  · have z0 := (z_up hz).2.2.2.2.2
    -- go down to the other side
    have z1 := (z_down (f := ⟨true, fc, fx, t⟩) (t := .n false (.n true a nr b) w fr) z0).2.2.2.2
    have e1 : (if (⟨true, fc, fx, t⟩ : Fr).side then (S.N fx).r else (S.N fx).l) = w := z1.rt.1
    rw [e1] at z1
    have z2 := (z_down (f := ⟨false, false, w, fr⟩) (t := .n true a nr b) z1).2.2.2.2
    have z3 := z_col_t z2 false
    have z4 := z_col_f z3 true
    obtain ⟨_, w0, _, gp, _, z5⟩ := z_up z4
    have w0 : w ≠ 0 := w0
    have nr0 : nr ≠ 0 := z3.rt.2.1
    have z6 := turn_r_zip (c := true) (d := false) (a := a) (y := nr) (b := b) (x := w) (r := fr) z5
    have ho1 : ((S.setc nr false).setc w true).N 0 = S0.N 0 := (col_ne (Ne.symm w0)).trans ((col_ne (Ne.symm nr0)).trans ho)
    have hch : ((S.setc nr false).setc w true).child w (!!false) = nr := gp.symm.trans z3.rt.1
    have ho' : (((S.setc nr false).setc w true).turn w true).N 0 = S0.N 0 := (zero_turn w0 (by rw [show (!true) = (!!false) from rfl, hch]; exact nr0)).trans ho1
    obtain ⟨_, _, _, _, _, z7⟩ := z_up z6
    have z8 := (z_down (f := ⟨false, fc, fx, .n false a nr (.n true b w fr)⟩) (t := t) z7).2.2.2.2
    have e8 := hx _ _ z8
    refine ⟨a, b, fr, ⟨?_, fun e => ?_, hrb, ?_, hk', ho', ?_⟩⟩
    · rw [eu, ← e8]; exact z8
    · show ((((S.setc nr false).setc w true).turn w true).N 0).u = u
      rw [ho', ← ho]; exact he e
    · have h1 : RBt (.n false (.n true a nr b) w fr) (h + 1) := by cases fc <;> exact hc.1
      obtain ⟨h', e, ⟨a1, a2, a3, a4⟩, a5⟩ := h1
      obtain rfl : h = h' := by omega
      cases fc
      · exact ⟨⟨h, rfl, a1, a2, a5, a4, hfr⟩, hc.2⟩
      · exact ⟨⟨h, rfl, a1, a2, a5, a4, hfr⟩, rfl, hc.2.2⟩
    · rw [← hord]
      simp [lps, rps, Sh.ps]
  · have z0 := (z_up hz).2.2.2.2.2
    have z1 := (z_down (f := ⟨false, fc, fx, t⟩) (t := .n false fr w (.n true a nr b)) z0).2.2.2.2
    have e1 : (if (⟨false, fc, fx, t⟩ : Fr).side then (S.N fx).r else (S.N fx).l) = w := z1.rt.1
    rw [e1] at z1
    have z2 := (z_down (f := ⟨true, false, w, fr⟩) (t := .n true a nr b) z1).2.2.2.2
    have z3 := z_col_t z2 false
    have z4 := z_col_f z3 true
    obtain ⟨_, w0, _, gp, _, z5⟩ := z_up z4
    have w0 : w ≠ 0 := w0
    have nr0 : nr ≠ 0 := z3.rt.2.1
    have z6 := turn_l_zip (c := true) (d := false) (a := b) (y := nr) (b := a) (x := w) (r := fr) z5
    have ho1 : ((S.setc nr false).setc w true).N 0 = S0.N 0 := (col_ne (Ne.symm w0)).trans ((col_ne (Ne.symm nr0)).trans ho)
    have hch : ((S.setc nr false).setc w true).child w (!!true) = nr := gp.symm.trans z3.rt.1
    have ho' : (((S.setc nr false).setc w true).turn w false).N 0 = S0.N 0 := (zero_turn w0 (by rw [show (!false) = (!!true) from rfl, hch]; exact nr0)).trans ho1
    obtain ⟨_, _, _, _, _, z7⟩ := z_up z6
    have z8 := (z_down (f := ⟨true, fc, fx, .n false (.n true fr w a) nr b⟩) (t := t) z7).2.2.2.2
    have e8 := hx _ _ z8
    refine ⟨b, fr, a, ⟨?_, fun e => ?_, hrb, ?_, hk', ho', ?_⟩⟩
    · rw [eu, ← e8]; exact z8
    · show ((((S.setc nr false).setc w true).turn w false).N 0).u = u
      rw [ho', ← ho]; exact he e
    · have h1 : RBt (.n false fr w (.n true a nr b)) (h + 1) := by cases fc <;> exact hc.1
      obtain ⟨h', e, a5, ⟨a1, a2, a3, a4⟩⟩ := h1
      obtain rfl : h = h' := by omega
      cases fc
      · exact ⟨⟨h, rfl, ⟨a5, a1, hfr, a3⟩, a2⟩, hc.2⟩
      · exact ⟨⟨h, rfl, ⟨a5, a1, hfr, a3⟩, a2⟩, rfl, hc.2.2⟩
    · rw [← hord]
      simp [lps, rps, Sh.ps]
end Go.Proofs.YtlcaepcojglbiaaGreatDoor.Tp
namespace Go.Proofs.YtlcaepcojglbiaaGreatDoor.Tp
set_option linter.unusedVariables false
set_option linter.unusedSimpArgs false
theorem rbx_of {t : Sh} {h : Nat} (ht : RBt t h) : RBx t h := by
  match t with
  | .e => exact ht
  | .n true l x r => exact ⟨ht.1, ht.2.1⟩
  | .n false l x r => exact ht
/-- The far one is red: the end. -/
theorem fill_far {S0 S : TS} {PS : List Nat} {t na fa fb : Sh} {x u w far : Nat} {fs fc : Bool} {fx : Nat} {k : Cx} {h : Nat} (m : FI S0 S PS t x u (⟨fs, fc, fx, if fs then .n false (.n true fa far fb) w na else .n false na w (.n true fa far fb)⟩ :: k) h) (ht : t.red = false) :
    ∃ T h', FI S0 ((((S.setc w fc).setc fx false).setc far false).turn fx fs) PS T ((((S.setc w fc).setc fx false).setc far false).turn fx fs).root 0 [] h' := by
  obtain ⟨hz, he, hrb, hc, hks, ho, hord⟩ := m
  obtain ⟨hfl, hsl⟩ := z_frame_lt hks hz
  have rw' : Rh S w := z_rh hz (by cases fs <;> simp [lps, rps, Sh.ps])
  have rf : Rh S fx := z_rh hz (by cases fs <;> simp [lps, rps, Sh.ps])
  have ra : Rh S far := z_rh hz (by cases fs <;> simp [lps, rps, Sh.ps])
  have hk' := ks_turn (ks_setc (ks_setc (ks_setc hks w fc rw') fx false (rh_setc rf)) far false (rh_setc (rh_setc ra))) fx fs hfl (rh_setc (rh_setc (rh_setc rf)))
  have hb := rbx_black hrb ht
  have fin : ∀ T0 : Sh, ∀ p : Nat, ∀ v : Nat, Z ((((S.setc w fc).setc fx false).setc far false).turn fx fs) T0 k p v → (∃ h2, RBt T0 h2 ∧ RBc k h2 ∧ (cred k = true → T0.red = false) ∧ T0 ≠ .e) → lps k ++ (T0.ps ++ rps k) = PS → ((((S.setc w fc).setc fx false).setc far false).turn fx fs).N 0 = S0.N 0 → ∃ T h', FI S0 ((((S.setc w fc).setc fx false).setc far false).turn fx fs) PS T ((((S.setc w fc).setc fx false).setc far false).turn fx fs).root 0 [] h' := by
    rintro T0 p v hz ⟨h2, r1, r2, r3, r4⟩ hps ho'
    obtain ⟨h3, q1, _⟩ := plug_rb k T0 h2 r2 r1 r3
    have hp := z_plug k hz
    refine ⟨plug k T0, h3, ⟨hp, ⟨rfl, rfl⟩, ?_⟩, fun e => ?_, rbx_of q1, trivial, hk', ho', ?_⟩
    · simp only [lps, rps, List.nil_append, List.append_nil]
      rw [ps_plug]; exact hz.nd
    · have h5 := ps_plug k T0
      rw [e] at h5
      have h6 : T0.ps ≠ [] := by
        cases T0 with
        | e => exact absurd rfl r4
        | n c l x r => simp [Sh.ps]
      simp [Sh.ps] at h5
      exact absurd h5.2.1 h6
    · simp only [lps, rps, List.nil_append, List.append_nil]
      rw [ps_plug]; exact hps
  cases fs
  · have z1 := z_col_s (side := false) (c := fc) (l := na) (r := .n true fa far fb) (y := w) (d := false) hz fc
    have z2 := z_col_f z1 false
    obtain ⟨_, f0, _, _, fsb, z3⟩ := z_up z2
    have f0 : fx ≠ 0 := f0
    have hw0 : w ≠ 0 := fsb.2.1
    have z4 := (z_down (f := ⟨true, false, fx, t⟩) (t := .n fc na w (.n true fa far fb)) z3).2.2.2.2
    have z5 := (z_down (f := ⟨true, fc, w, na⟩) (t := .n true fa far fb) z4).2.2.2.2
    have z6 := z_col_t z5 false
    have far0 : far ≠ 0 := z6.rt.2.1
    obtain ⟨_, _, _, _, _, z7⟩ := z_up z6
    obtain ⟨_, _, _, gp, _, z8⟩ := z_up z7
    have z9 := turn_l_zip (c := false) (d := fc) (r := t) (x := fx) (b := na) (y := w) (a := .n false fa far fb) z8
    have ho1 : (((S.setc w fc).setc fx false).setc far false).N 0 = S0.N 0 := (col_ne (Ne.symm far0)).trans ((col_ne (Ne.symm f0)).trans ((col_ne (Ne.symm hw0)).trans ho))
    have hch : (((S.setc w fc).setc fx false).setc far false).child fx (!false) = w := gp.symm.trans z7.rt.1
    refine fin _ _ _ z9 ?_ (by rw [← hord]; simp [lps, rps, Sh.ps]) ((zero_turn f0 (by rw [hch]; exact hw0)).trans ho1)
    have h1 : RBt (.n false na w (.n true fa far fb)) (h + 1) := by cases fc <;> exact hc.1
    obtain ⟨h', e, a1, a2, a3, _, _⟩ := h1
    obtain rfl : h = h' := by omega
    cases fc
    · exact ⟨h + 1 + 1, ⟨h + 1, rfl, ⟨h, rfl, hb, a1⟩, ⟨h, rfl, a2, a3⟩⟩, hc.2, fun _ => rfl, by simp⟩
    · exact ⟨h + 1, ⟨⟨h, rfl, hb, a1⟩, ⟨h, rfl, a2, a3⟩, rfl, rfl⟩, hc.2.2.2.2, (fun e => by rw [hc.2.2.2.1] at e; cases e), by simp⟩
  · have z1 := z_col_s (side := true) (c := fc) (l := .n true fa far fb) (r := na) (y := w) (d := false) hz fc
    have z2 := z_col_f z1 false
    obtain ⟨_, f0, _, _, fsb, z3⟩ := z_up z2
    have f0 : fx ≠ 0 := f0
    have hw0 : w ≠ 0 := fsb.2.1
    have z4 := (z_down (f := ⟨false, false, fx, t⟩) (t := .n fc (.n true fa far fb) w na) z3).2.2.2.2
    have z5 := (z_down (f := ⟨false, fc, w, na⟩) (t := .n true fa far fb) z4).2.2.2.2
    have z6 := z_col_t z5 false
    have far0 : far ≠ 0 := z6.rt.2.1
    obtain ⟨_, _, _, _, _, z7⟩ := z_up z6
    obtain ⟨_, _, _, gp, _, z8⟩ := z_up z7
    have z9 := turn_r_zip (c := false) (d := fc) (r := t) (x := fx) (b := na) (y := w) (a := .n false fa far fb) z8
    have ho1 : (((S.setc w fc).setc fx false).setc far false).N 0 = S0.N 0 := (col_ne (Ne.symm far0)).trans ((col_ne (Ne.symm f0)).trans ((col_ne (Ne.symm hw0)).trans ho))
    have hch : (((S.setc w fc).setc fx false).setc far false).child fx (!true) = w := gp.symm.trans z7.rt.1
    refine fin _ _ _ z9 ?_ (by rw [← hord]; simp [lps, rps, Sh.ps]) ((zero_turn f0 (by rw [hch]; exact hw0)).trans ho1)
    have h1 : RBt (.n false (.n true fa far fb) w na) (h + 1) := by cases fc <;> exact hc.1
    obtain ⟨h', e, ⟨a2, a3, _, _⟩, a1⟩ := h1
    obtain rfl : h = h' := by omega
    cases fc
    · exact ⟨h + 1 + 1, ⟨h + 1, rfl, ⟨h, rfl, a2, a3⟩, ⟨h, rfl, a1, hb⟩⟩, hc.2, fun _ => rfl, by simp⟩
    · exact ⟨h + 1, ⟨⟨h, rfl, a2, a3⟩, ⟨h, rfl, a1, hb⟩, rfl, rfl⟩, hc.2.2.2.2, (fun e => by rw [hc.2.2.2.1] at e; cases e), by simp⟩
end Go.Proofs.YtlcaepcojglbiaaGreatDoor.Tp
namespace Go.Proofs.YtlcaepcojglbiaaGreatDoor.Tp
open Go.RowKit
set_option linter.unusedVariables false
set_option linter.unusedSimpArgs false
theorem least_of (p : Nat → Prop) : ∀ n, p n → ∃ m, p m ∧ ∀ j, p j → m ≤ j := by
  intro n
  induction n using Nat.strongRecOn with
  | ind n ih =>
    intro hn
    by_cases h : ∃ j, j < n ∧ p j
    · obtain ⟨j, hj, hp⟩ := h
      exact ih j hj hp
    · exact ⟨n, hn, fun j hj => by
        rcases Nat.lt_or_ge j n with h1 | h1
        · exact absurd ⟨j, h1, hj⟩ h
        · exact h1⟩
open Classical in
noncomputable def leastOf (p : Nat → Prop) : Nat := if h : ∃ n, p n then Classical.choose (least_of p h.choose h.choose_spec) else 0
theorem leastOf_spec {p : Nat → Prop} {n : Nat} (h : p n) : p (leastOf p) ∧ leastOf p ≤ n := by
  have he : ∃ n, p n := ⟨n, h⟩
  unfold leastOf
  rw [dif_pos he]
  have := Classical.choose_spec (least_of p he.choose he.choose_spec)
  exact ⟨this.1, this.2 n h⟩
/-- A body that begins with its label, and jumps back to it: what holds at each jump, over a ghost; a measure of the ghost. -/
theorem wp_goto {γ : Type} {P : Program} {a : Act} {w : World} {Q : Exit → Act → World → Prop} {body : Code} (l : Nat) (J : γ → Act → World → Prop) (μ : γ → Nat) (hf : findLabel ((Code.label l).seq body) l = some (Code.seq .skip body)) (g : γ) (h0 : J g a w)
    (pass : ∀ g a w, J g a w → body.wp P (Exit.jump l (fun a' w' => ∃ g', J g' a' w' ∧ μ g' < μ g) Q) a w) : (Code.scope ((Code.label l).seq body)).wp P Q a w := by
  refine wp_scope_jumps l (fun a w => ∃ g, J g a w) (fun a w => leastOf fun n => ∃ g, J g a w ∧ μ g = n) hf ?_ ?_
  · refine wp_seq (wp_label ?_)
    refine wp_mono (pass g a w h0) ?_
    intro e a1 w1 hq
    cases e with
    | goto l' => obtain ⟨rfl, g', hJ, _⟩ := hq; exact ⟨rfl, g', hJ⟩
    | normal => exact hq
    | exit id => exact hq
    | ret => exact hq
    | panic c => exact hq
    | outgrown => exact hq
  · rintro a1 w1 ⟨g1, hg1⟩
    obtain ⟨⟨g2, hg2, hm⟩, _⟩ := leastOf_spec (p := fun n => ∃ g, J g a1 w1 ∧ μ g = n) ⟨g1, hg1, rfl⟩
    refine wp_seq (wp_skip ?_)
    refine wp_mono (pass g2 a1 w1 hg2) ?_
    intro e a2 w2 hq
    cases e with
    | goto l' =>
      obtain ⟨rfl, g', hJ, hlt⟩ := hq
      refine ⟨rfl, ⟨g', hJ⟩, ?_⟩
      have := (leastOf_spec (p := fun n => ∃ g, J g a2 w2 ∧ μ g = n) ⟨g', hJ, rfl⟩).2
      omega
    | normal => exact hq
    | exit id => exact hq
    | ret => exact hq
    | panic c => exact hq
    | outgrown => exact hq
/-- Down to the left, as far as it goes. -/
def Sh.low : Sh → Nat
  | .e => 0
  | .n _ .e x _ => x
  | .n _ (.n c l y r) _ _ => (Sh.n c l y r).low
theorem most_0 {tp nb : Nat} {S : TS} (W : World) (h : TR tp nb S W) : Calls Tryz.prog 135 #[ptr tp, .int .i64 0] W fun e W' => e = .returned (.int .i64 0) ∧ W' = W := by
  go_enter Tryz.func135, Tryz.ntmps135
  go_wp2
  go_step3
  go_wp2
  go_step3
  go_wp2
  rw [Exit.noGoto_ret]
  go_ret
  exact ⟨rfl, rfl⟩
set_option maxRecDepth 100000 in
set_option maxHeartbeats 4000000 in
theorem most_at {tp nb : Nat} {S : TS} (W : World) (h : TR tp nb S W) (hk : S.ok) (t : Sh) (x u : Nat) (ht : Rep S.N t x u) (hte : t ≠ .e) (hx : x < S.len) : Calls Tryz.prog 135 #[ptr tp, .int .i64 x] W fun e W' => e = .returned (.int .i64 t.low) ∧ W' = W := by
  have HT := Lib.hid h
  have HK := Lib.hid hk
  obtain ⟨lo, hlo⟩ : ∃ lo, t.low = lo := ⟨_, rfl⟩
  rw [hlo]
  have c0 := h.c0
  have hl := h.ln
  clear h hk
  go_enter Tryz.func135, Tryz.ntmps135
  go_wp2
  refine wp_goto 0 (fun (g : Sh × Nat × Nat) a w => (w = W ∧ Rep S.N g.1 g.2.1 g.2.2 ∧ g.1 ≠ .e ∧ g.2.1 < S.len ∧ g.1.low = lo) ∧ ∃ u2 u3 u5 u6 u7 u8 u9 u10 u11 u12 u13 u14 u15 u16 u17 u18 u19 u20 u21 u22 u23 u24 u25 u26, a = { tmps := #[ptr tp, .int .i64 g.2.1, u2, u3, .int .i64 0, u5, u6, u7, u8, u9, u10, u11, u12, u13, u14, u15, u16, u17, u18, u19, u20, u21, u22, u23, u24, u25, u26], defers := [] }) (fun g => g.1.ps.length) rfl (t, x, u) ⟨⟨rfl, ht, hte, hx, hlo⟩, _, _, _, _, _, _, _, _, _, _, _, _, _, _, _, _, _, _, _, _, _, _, _, _, rfl⟩ ?_
  rintro ⟨t, x, u⟩ a w ⟨⟨rfl, ht, hte, hx, hlo⟩, u2, u3, u5, u6, u7, u8, u9, u10, u11, u12, u13, u14, u15, u16, u17, u18, u19, u20, u21, u22, u23, u24, u25, u26, rfl⟩
  dsimp only at ht hte hx hlo ⊢
  cases t with
  | e => exact absurd rfl hte
  | n c l y r =>
    obtain ⟨rfl, h0, _, _, hll, _⟩ := ht
    obtain ⟨⟨_, _, xl, _⟩, _⟩ := tr_node HT.out hx
    have h00 : ¬ (x : Int) = 0 := by omega
    have hxl := (HK.out.2 x hx).1
    cases l with
    | e =>
      have e0 : (S.N x).l = 0 := hll
      rw [e0] at xl
      have HLO := Lib.hid (show x = lo from hlo)
      clear hlo hll e0 hte hxl
      go_wp2
      simp only [Exit.jump]
      go_ret
      exact ⟨show Ending.returned (.int .i64 (x : Int)) = _ from by rw [HLO.out], rfl⟩
    | n c2 l2 y2 r2 =>
      have hll' := hll
      obtain ⟨e0, h1, _⟩ := hll
      obtain ⟨i, hi⟩ : ∃ i, (S.N x).l = i := ⟨_, rfl⟩
      rw [hi] at xl hxl e0 hll'
      have hi0 : ¬ i = 0 := by rw [e0]; exact h1
      have hi00 : ¬ (i : Int) = 0 := by omega
      have hb1 : ((x : Int) != 0) = true := by simpa using h00
      have hb2 : ((i : Int) != 0) = true := by simpa using hi00
      have HJ := Lib.hid (And.intro hll' hlo)
      clear hlo hll' e0 hte hi
      go_wp2
      go_step3
      refine ⟨rfl, (.n c2 l2 y2 r2, i, x), ⟨⟨rfl, HJ.out.1, by simp, hxl, HJ.out.2⟩, _, _, _, _, _, _, _, _, _, _, _, _, _, _, _, _, _, _, _, _, _, _, _, _, rfl⟩, ?_⟩
      show (Sh.n c2 l2 y2 r2).ps.length < (Sh.n c (Sh.n c2 l2 y2 r2) x r).ps.length
      simp only [Sh.ps, List.length_append, List.length_cons]
      omega
end Go.Proofs.YtlcaepcojglbiaaGreatDoor.Tp
