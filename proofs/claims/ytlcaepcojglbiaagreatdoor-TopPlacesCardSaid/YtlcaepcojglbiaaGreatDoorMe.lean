/- The red and black trees: what a taking out leaves: a part of the walk of the whole machine. For all states that the readings allow. -/
import Derived.Test.YtlcaepcojglbiaaGreatDoorMc
import Derived.Test.YtlcaepcojglbiaaGreatDoorMd
namespace Go.Proofs.YtlcaepcojglbiaaGreatDoor.Tp
set_option linter.unusedVariables false
set_option linter.unusedSimpArgs false
/-! Trees as a whole: places in order, and free ones. -/
def chain (N : Nat → Nd) : Nat → List Nat → Prop
  | p, [] => p = 0
  | p, x :: l => p = x ∧ x ≠ 0 ∧ chain N (N x).l l
theorem chain_same {N N' : Nat → Nd} {l : List Nat} : ∀ {p : Nat}, chain N p l → (∀ j ∈ l, (N' j).l = (N j).l) → chain N' p l := by
  induction l with
  | nil => exact fun h _ => h
  | cons x l ih =>
    intro p h hs
    refine ⟨h.1, h.2.1, ?_⟩
    rw [hs x (by simp)]
    exact ih h.2.2 fun j hj => hs j (by simp [hj])
structure TI (S : TS) (ps fs : List Nat) : Prop where
  ok : S.ok
  wt : WT S ps
  z0 : S.N 0 = nd0
  fc : chain S.N S.free fs
  nd : (ps ++ fs).Nodup
  bd : ∀ j ∈ ps ++ fs, 1 ≤ j ∧ j < S.len
  cnt : S.len = 1 + ps.length + fs.length
  n : S.n = ps.length
  tk : ∀ j ∈ ps, (S.N j).taken = true ∧ (S.N j).q = 0
  sp : ∀ j, S.len ≤ j → S.N j = nd0
  so : ps.Pairwise fun a b => (S.N a).t ≤ (S.N b).t
  tu : ∀ j, -9223372036854775808 ≤ (S.N j).turn ∧ (S.N j).turn ≤ 9223372036854775807
  mx : S.len ≤ 65
theorem low_head : ∀ t : Sh, t.low = t.ps.headD 0
  | .e => rfl
  | .n _ .e x _ => rfl
  | .n _ (.n c l y r) x r2 => by
    have h := low_head (.n c l y r)
    show (Sh.n c l y r).low = ((Sh.n c l y r).ps ++ x :: r2.ps).headD 0
    rw [h]
    have : (Sh.n c l y r).ps ≠ [] := by simp [Sh.ps]
    cases hp : (Sh.n c l y r).ps with
    | nil => exact absurd hp this
    | cons a b => rfl
theorem ordv_0 {a b : Int} (h : ordv a 0 b 0 = ordv a 0 b 0) : (0 ≤ ordv a 0 b 0 ↔ b ≤ a) := by
  unfold ordv orv cmpv
  by_cases h1 : a < b
  · simp [h1]
  · by_cases h2 : b < a
    · simp [h1, h2]; omega
    · simp [h1, h2]; omega
/-! Down to where a key goes. -/
structure LI (S : TS) (T : Int) (ps : List Nat) (t : Sh) (k : Cx) (y u h : Nat) : Prop where
  z : Z S t k y u
  rb : RBt t h
  c : RBc k h
  cr : cred k = true → t.red = false
  bl : k = [] → t.red = false
  lo : ∀ a ∈ lps k, (S.N a).t ≤ T
  hi : ∀ b ∈ rps k, T < (S.N b).t
  ord : lps k ++ (t.ps ++ rps k) = ps
theorem li_start {S : TS} {ps : List Nat} (T : Int) (h : WT S ps) : ∃ t h', LI S T ps t [] S.root 0 h' := by
  obtain ⟨⟨w, h', hw, hb, hr, hp⟩, hn⟩ := h
  exact ⟨w, h', ⟨hw, ⟨rfl, rfl⟩, by simpa [lps, rps, hp] using hn⟩, hb, trivial, fun e => (by simp [cred] at e), fun _ => hr, by simp [lps], by simp [rps], by simp [lps, rps, hp]⟩
theorem pw_mid {S : TS} {A B : List Nat} {y : Nat} (h : (A ++ y :: B).Pairwise fun a b => (S.N a).t ≤ (S.N b).t) : (∀ a ∈ A, (S.N a).t ≤ (S.N y).t) ∧ ∀ b ∈ B, (S.N y).t ≤ (S.N b).t := by
  rw [List.pairwise_append] at h
  exact ⟨fun a ha => h.2.2 a ha y (by simp), (List.pairwise_cons.1 h.2.1).1⟩
theorem li_down {S : TS} {T : Int} {ps : List Nat} {c : Bool} {l r : Sh} {x : Nat} {k : Cx} {y u h : Nat} (H : LI S T ps (.n c l x r) k y u h) (hs : ps.Pairwise fun a b => (S.N a).t ≤ (S.N b).t) :
    y = x ∧ x ≠ 0 ∧ (∃ h', (S.N x).t ≤ T → LI S T ps r (⟨true, c, x, l⟩ :: k) (S.N x).r x h') ∧ (∃ h', ¬ (S.N x).t ≤ T → LI S T ps l (⟨false, c, x, r⟩ :: k) (S.N x).l x h') := by
  obtain ⟨hz, hrb, hc, hcr, hbl, hlo, hhi, hord⟩ := H
  have hs1 := hs
  rw [← hord] at hs1
  refine ⟨hz.rt.1, hz.rt.2.1, ?_, ?_⟩
  · obtain ⟨_, _, _, _, z1⟩ := z_down (f := ⟨true, c, x, l⟩) (t := r) hz
    obtain ⟨h', r1, r2, r3⟩ := rb_down (f := ⟨true, c, x, l⟩) (t := r) hrb hc hcr (fun e => hbl e)
    have e1 : lps k ++ ((Sh.n c l x r).ps ++ rps k) = (lps k ++ l.ps) ++ x :: (r.ps ++ rps k) := by simp [Sh.ps]
    rw [e1] at hs1
    refine ⟨h', fun hT => ⟨z1, r1, r2, r3, fun e => by simp at e, ?_, hhi, ?_⟩⟩
    · intro a ha
      simp only [lps, if_true, List.mem_append, List.mem_singleton] at ha
      have h2 := (pw_mid hs1).1
      rcases ha with ha | ha | rfl
      · exact hlo a ha
      · exact Int.le_trans (h2 a (by simp [ha])) hT
      · exact hT
    · rw [← hord]; simp [lps, rps, Sh.ps]
  · obtain ⟨_, _, _, _, z1⟩ := z_down (f := ⟨false, c, x, r⟩) (t := l) hz
    obtain ⟨h', r1, r2, r3⟩ := rb_down (f := ⟨false, c, x, r⟩) (t := l) hrb hc hcr (fun e => hbl e)
    have e1 : lps k ++ ((Sh.n c l x r).ps ++ rps k) = (lps k ++ l.ps) ++ x :: (r.ps ++ rps k) := by simp [Sh.ps]
    rw [e1] at hs1
    refine ⟨h', fun hT => ⟨z1, r1, r2, r3, fun e => by simp at e, hlo, ?_, ?_⟩⟩
    · intro a ha
      simp only [rps, Bool.false_eq_true, if_false, List.mem_cons, List.mem_append] at ha
      have h2 := (pw_mid hs1).2
      rcases ha with rfl | ha | ha
      · omega
      · have := h2 a (by simp [ha]); omega
      · exact hhi a ha
    · rw [← hord]; simp [lps, rps, Sh.ps]
/-- A new place hangs where nobody did. -/
def TS.put (S : TS) (x u : Nat) (d : Bool) : TS := if u = 0 then { S.setu x u with root := x } else (S.setu x u).setch u d x
def dir : Cx → Bool
  | [] => false
  | f :: _ => f.side
theorem z_put {S : TS} {k : Cx} {u x : Nat} (h : Z S .e k 0 u) (hx0 : x ≠ 0) (hx : ¬ (x ∈ lps k ∨ x ∈ rps k)) (hl : (S.N x).l = 0) (hr : (S.N x).r = 0) (hc : (S.N x).red = true) : Z (S.put x u (dir k)) (.n true .e x .e) k x u := by
  obtain ⟨ht, hk, hn⟩ := h
  have hnd : (lps k ++ ((Sh.n true .e x .e).ps ++ rps k)).Nodup := by
    obtain ⟨n1, n2, n3⟩ := nd_cx hn
    exact nd_cx' (by simp [Sh.ps]) n2 (by simpa [Sh.ps] using hx)
  cases k with
  | nil =>
    obtain ⟨h1, rfl⟩ := hk
    unfold TS.put
    rw [if_pos rfl]
    refine ⟨⟨rfl, hx0, ?_, ?_, ?_, ?_⟩, ⟨rfl, rfl⟩, hnd⟩
    · show ((S.setu x 0).N x).red = true
      rw [show (S.setu x 0).N x = { S.N x with u := 0 } from upd_eq]; exact hc
    · show ((S.setu x 0).N x).u = 0
      rw [show (S.setu x 0).N x = { S.N x with u := 0 } from upd_eq]
    · show ((S.setu x 0).N x).l = 0
      rw [show (S.setu x 0).N x = { S.N x with u := 0 } from upd_eq]; exact hl
    · show ((S.setu x 0).N x).r = 0
      rw [show (S.setu x 0).N x = { S.N x with u := 0 } from upd_eq]; exact hr
  | cons f k =>
    obtain ⟨hu, h0, hfc, hsd, hk⟩ := hk
    subst hu
    have hxf : x ≠ f.x := fun e => hx (e ▸ z_ctx_in)
    have ho : ∀ j, j ≠ x → j ≠ f.x → (S.put x f.x (dir (f :: k))).N j = S.N j := by
      intro j h1 h2
      unfold TS.put
      rw [if_neg h0]
      unfold TS.setch
      split
      · exact (ne_setr h2).trans (ne_setu h1)
      · exact (ne_setl h2).trans (ne_setu h1)
    have hX : (S.put x f.x (dir (f :: k))).N x = { S.N x with u := f.x } := by
      unfold TS.put
      rw [if_neg h0]
      unfold TS.setch
      split
      · exact (ne_setr hxf).trans upd_eq
      · exact (ne_setl hxf).trans upd_eq
    have hF : (S.put x f.x (dir (f :: k))).N f.x = if f.side then { S.N f.x with r := x } else { S.N f.x with l := x } := by
      unfold TS.put
      rw [if_neg h0]
      have e1 : (S.setu x f.x).N f.x = S.N f.x := ne_setu (Ne.symm hxf)
      unfold TS.setch
      show (if f.side = true then _ else _ : TS).N f.x = _
      by_cases e : f.side
      · rw [if_pos e, if_pos e, ← e1]; exact upd_eq
      · rw [if_neg e, if_neg e, ← e1]; exact upd_eq
    have hroot : (S.put x f.x (dir (f :: k))).root = S.root := by
      unfold TS.put
      rw [if_neg h0]
      unfold TS.setch
      split <;> rfl
    obtain ⟨n1, n2, n3⟩ := nd_cx hnd
    have hne2 : (∀ j, j ∈ lps k ∨ j ∈ rps k → j ≠ f.x) ∧ ∀ j ∈ f.s.ps, j ≠ f.x := by
      by_cases e : f.side
      · simp only [lps, rps, e, if_true] at n2
        simp [List.nodup_append] at n2
        obtain ⟨a1, ⟨a2, ⟨a3, a4⟩, a5⟩, a6⟩ := n2
        refine ⟨?_, fun j hj e => (a5 j hj).1 e⟩
        rintro j (hj | hj) e
        · exact a6 j hj _ (.inr (.inl rfl)) e
        · exact a3 (e ▸ hj)
      · simp only [lps, rps, e, if_false] at n2
        simp [List.nodup_append] at n2
        obtain ⟨a1, ⟨⟨a2, a3⟩, a4, a5, a6⟩, a7⟩ := n2
        refine ⟨?_, fun j hj e => a2 (e ▸ hj)⟩
        rintro j (hj | hj) e
        · exact (a7 j hj).1 e
        · exact a3 (e ▸ hj)
    have hin : ∀ j, j ∈ lps k ∨ j ∈ rps k → j ≠ x := fun j hj e => hx (by rw [← e]; by_cases e : f.side <;> (simp [lps, rps, e]; rcases hj with hj | hj <;> simp [hj]))
    have hins : ∀ j ∈ f.s.ps, j ≠ x := fun j hj e => hx (by rw [← e]; by_cases e : f.side <;> simp [lps, rps, e, hj])
    refine ⟨⟨rfl, hx0, by rw [hX]; exact hc, by rw [hX], by rw [hX]; exact hl, by rw [hX]; exact hr⟩, ⟨rfl, h0, ?_, ?_, ?_⟩, hnd⟩
    · rw [hF]; split <;> exact hfc
    · by_cases e : f.side
      · rw [if_pos e, hF, if_pos e]
        rw [if_pos e] at hsd
        exact ⟨rfl, rep_same hsd.2 fun j hj => ho j (hins j hj) (hne2.2 j hj)⟩
      · rw [if_neg e, hF, if_neg e]
        rw [if_neg e] at hsd
        exact ⟨rfl, rep_same hsd.2 fun j hj => ho j (hins j hj) (hne2.2 j hj)⟩
    · rw [hroot]
      have e1 : ((S.put x f.x (dir (f :: k))).N f.x).u = (S.N f.x).u := by rw [hF]; split <;> rfl
      rw [e1]
      exact repc_same hk fun j hj => ho j (hin j hj) (hne2.1 j hj)
theorem key_put {S : TS} {x u j : Nat} {d : Bool} : ((S.put x u d).N j).key = (S.N j).key := by
  unfold TS.put
  split
  · exact key_setu
  · exact key_setch.trans key_setu
theorem put_same {S : TS} {x u : Nat} {d : Bool} : (S.put x u d).len = S.len ∧ (S.put x u d).n = S.n ∧ (S.put x u d).free = S.free := by
  unfold TS.put TS.setch
  split
  · exact ⟨rfl, rfl, rfl⟩
  · split <;> exact ⟨rfl, rfl, rfl⟩
theorem ok_put {S : TS} (hk : S.ok) {x u : Nat} {d : Bool} (hx : x < S.len) (hu : u < S.len) : (S.put x u d).ok := by
  have h1 := ok_setu hk x u hu
  unfold TS.put
  split
  · exact ok_root h1 x hx
  · exact ok_setch h1 u d x hx
theorem zero_put {S : TS} {x u : Nat} {d : Bool} (hx : x ≠ 0) : (S.put x u d).N 0 = S.N 0 := by
  unfold TS.put
  split
  · exact ne_setu (Ne.symm hx)
  · rename_i h
    exact (zero_setch h).trans (ne_setu (Ne.symm hx))
theorem mi_put {S : TS} {T : Int} {ps : List Nat} {k : Cx} {u x h : Nat} (H : LI S T ps .e k 0 u h) (hk : S.ok) (hx0 : x ≠ 0) (hxl : x < S.len) (hx : x ∉ ps) (hl : (S.N x).l = 0) (hr : (S.N x).r = 0) (hc : (S.N x).red = true) :
    MI (S.put x u (dir k)) (S.put x u (dir k)) (lps k ++ x :: rps k) .e .e x u k 0 ∧ (S.put x u (dir k)).N 0 = S.N 0 ∧ u < S.len := by
  have hul := (z_lt hk H.z).2.2
  have hz := z_put H.z hx0 (by
    rw [← H.ord] at hx
    simpa [Sh.ps] using hx) hl hr hc
  obtain rfl : h = 0 := H.rb
  exact ⟨⟨hz, ⟨rfl, rfl, rfl, rfl⟩, H.c, ks_refl (ok_put hk hxl hul), rfl, by simp [Sh.ps]⟩, zero_put hx0, hul⟩
/-! A new key: the place, the node, the whole. -/
def nnd (T : Int) (tu : Int) : Nd := ⟨T, 0, 0, 0, 0, true, true, tu⟩
/-- What place leaves. -/
structure PI (S S0 : TS) (x : Nat) (ps fs' : List Nat) : Prop where
  N : S0.N = S.N
  root : S0.root = S.root
  n : S0.n = S.n
  x0 : x ≠ 0
  xl : x < S0.len
  xp : x ∉ ps
  xf : x ∉ fs'
  ok : S0.ok
  fc : chain S0.N S0.free fs'
  nd : (ps ++ fs').Nodup
  bd : ∀ j ∈ ps ++ fs', 1 ≤ j ∧ j < S0.len
  cnt : S0.len = 2 + ps.length + fs'.length
  sp : ∀ j, S0.len ≤ j → S0.N j = nd0
  mx : S0.len ≤ 65
theorem pi_free {S : TS} {ps fs : List Nat} {x : Nat} (h : TI S ps (x :: fs)) : PI S { S with free := (S.N S.free).l } S.free ps fs ∧ S.free = x := by
  obtain ⟨rfl, h0, hc⟩ := h.fc
  have hn := nd_n h.nd
  have hb := h.bd S.free (by simp)
  exact ⟨⟨rfl, rfl, rfl, h0, hb.2, hn.2.2.1, hn.2.2.2.1, h.ok, hc, nd2' hn.1 hn.2.1 hn.2.2.2.2, fun j hj => h.bd j (by simp at hj ⊢; rcases hj with hj | hj <;> simp [hj]), by have := h.cnt; simp at this; show S.len = _; omega, h.sp, h.mx⟩, rfl⟩
theorem pi_new {S : TS} {ps : List Nat} (h : TI S ps []) (hl : ps.length < 64) : PI S { S with len := S.len + 1 } S.len ps [] ∧ S.free = 0 ∧ S.len < 65 ∧ S.N S.len = nd0 := by
  have hc := h.cnt
  simp at hc
  have hnd := h.nd
  have h0 := h.sp S.len (Nat.le_refl _)
  refine ⟨⟨rfl, rfl, rfl, by omega, Nat.lt_succ_self _, fun e => ?_, by simp, ⟨Nat.lt_succ_of_lt h.ok.1, fun i hi => ?_⟩, h.fc, hnd, fun j hj => ?_, by simp; omega, fun j hj => h.sp j (Nat.le_of_succ_le hj), by show S.len + 1 ≤ 65; omega⟩, h.fc, by omega, h0⟩
  · exact absurd (h.bd S.len (by simp; exact e)).2 (Nat.lt_irrefl _)
  · by_cases e : i < S.len
    · have := h.ok.2 i e
      exact ⟨by show (S.N i).l < S.len + 1; omega, by show (S.N i).r < S.len + 1; omega, by show (S.N i).u < S.len + 1; omega⟩
    · obtain rfl : i = S.len := by have : i < S.len + 1 := hi; omega
      show (S.N S.len).l < S.len + 1 ∧ (S.N S.len).r < S.len + 1 ∧ (S.N S.len).u < S.len + 1
      rw [h0]
      simp [nd0]
  · have := h.bd j hj
    exact ⟨this.1, by show j < S.len + 1; omega⟩
/-- The new node. -/
def TS.born (S0 : TS) (x : Nat) (T tu : Int) : TS := { S0.setn x (nnd T tu) with n := S0.n + 1 }
theorem born_at {S0 : TS} {x : Nat} {T tu : Int} : (S0.born x T tu).N x = nnd T tu := by
  show (if x = x then _ else _) = _
  rw [if_pos rfl]
theorem born_ne {S0 : TS} {x j : Nat} {T tu : Int} (h : j ≠ x) : (S0.born x T tu).N j = S0.N j := by
  show (if j = x then _ else _) = _
  rw [if_neg h]
theorem ok_born {S0 : TS} (hk : S0.ok) (x : Nat) (T tu : Int) : (S0.born x T tu).ok := by
  refine ⟨hk.1, fun i hi => ?_⟩
  have h0 : 0 < S0.len := Nat.lt_of_le_of_lt (Nat.zero_le _) hk.1
  by_cases e : i = x
  · subst e; rw [born_at]; exact ⟨h0, h0, h0⟩
  · rw [born_ne e]; exact hk.2 i hi
theorem wt_born {S S0 : TS} {x : Nat} {ps fs fs' : List Nat} {T tu : Int} (h : TI S ps fs) (hp : PI S S0 x ps fs') : WT (S0.born x T tu) ps := by
  obtain ⟨⟨w, h', hw, hb, hr, hps⟩, hn⟩ := h.wt
  refine ⟨⟨w, h', ?_, hb, hr, hps⟩, hn⟩
  show Rep _ w S0.root 0
  rw [hp.root]
  exact rep_same hw fun j hj => by
    have nj : j ≠ x := fun e => hp.xp (by rw [← hps, ← e]; exact hj)
    rw [born_ne nj, hp.N]
theorem so_born {S S0 : TS} {x : Nat} {ps fs fs' : List Nat} {T tu : Int} (h : TI S ps fs) (hp : PI S S0 x ps fs') : ps.Pairwise fun a b => ((S0.born x T tu).N a).t ≤ ((S0.born x T tu).N b).t := by
  refine h.so.imp_of_mem fun {a b} ha hb hab => ?_
  have na : a ≠ x := fun e => hp.xp (e ▸ ha)
  have nb : b ≠ x := fun e => hp.xp (e ▸ hb)
  rw [born_ne na, born_ne nb, hp.N]
  exact hab
theorem rep_links {N : Nat → Nd} {t : Sh} {p u : Nat} (h : Rep N t p u) : ∀ i ∈ t.ps, ((N i).l = 0 ∨ (N i).l ∈ t.ps) ∧ ((N i).r = 0 ∨ (N i).r ∈ t.ps) ∧ ((N i).u = u ∨ (N i).u ∈ t.ps) := by
  induction t generalizing p u with
  | e => intro i hi; simp [Sh.ps] at hi
  | n c l x r ihl ihr =>
    obtain ⟨rfl, h0, _, hu, hl, hr⟩ := h
    intro i hi
    simp only [Sh.ps, List.mem_append, List.mem_cons] at hi ⊢
    rcases hi with hi | rfl | hi
    · obtain ⟨a, b, c⟩ := ihl hl i hi
      exact ⟨a.imp id .inl, b.imp id .inl, .inr (c.elim (fun e => .inr (.inl e)) .inl)⟩
    · refine ⟨?_, ?_, .inl hu⟩
      · rcases rep_place hl with ⟨e, _⟩ | ⟨_, e, _⟩
        · exact .inl e
        · exact .inr (.inl e)
      · rcases rep_place hr with ⟨e, _⟩ | ⟨_, e, _⟩
        · exact .inl e
        · exact .inr (.inr (.inr e))
    · obtain ⟨a, b, c⟩ := ihr hr i hi
      exact ⟨a.imp id fun e => .inr (.inr e), b.imp id fun e => .inr (.inr e), .inr (c.elim (fun e => .inr (.inl e)) fun e => .inr (.inr e))⟩
/-- A tree's places, and nobody's, are closed. -/
theorem wt_cl {S : TS} {ps : List Nat} (h : WT S ps) (h0 : S.N 0 = nd0) {C : Nat → Prop} (c0 : C 0) (cp : ∀ j ∈ ps, C j) : C S.root ∧ (∀ i, i = 0 ∨ i ∈ ps → C (S.N i).l ∧ C (S.N i).r ∧ C (S.N i).u) := by
  obtain ⟨⟨w, h', hw, hb, hr, hps⟩, hn⟩ := h
  subst hps
  have hz : ∀ j, j = 0 ∨ j ∈ w.ps → C j := fun j hj => hj.elim (fun e => e ▸ c0) (cp j)
  refine ⟨?_, fun i hi => ?_⟩
  · rcases rep_place hw with ⟨e, _⟩ | ⟨_, e, _⟩
    · rw [e]; exact c0
    · exact cp _ e
  · rcases hi with rfl | hi
    · rw [h0]; exact ⟨c0, c0, c0⟩
    · obtain ⟨a, b, c⟩ := rep_links hw i hi
      exact ⟨hz _ a, hz _ b, hz _ c⟩
theorem cf_put {C : Nat → Prop} {S0 S : TS} (h : CF C S0 S) {x u : Nat} {d : Bool} (hx : C x) (hu : C u) : CF C S0 (S.put x u d) := by
  have h1 := cf_setu h hx hu
  unfold TS.put
  split
  · exact ⟨⟨h1.1.1, hx, h1.1.2.2⟩, h1.2⟩
  · exact cf_setch h1 hu hx
/-- The whole again. -/
theorem ti_put {S S0 S' : TS} {x u : Nat} {ps fs fs' A B : List Nat} {T tu : Int} {d : Bool} (h : TI S ps fs) (hp : PI S S0 x ps fs') (htu : -9223372036854775808 ≤ tu ∧ tu ≤ 9223372036854775807) (hAB : A ++ B = ps)
    (hlo : ∀ a ∈ A, ((S0.born x T tu).N a).t ≤ T) (hhi : ∀ b ∈ B, T < ((S0.born x T tu).N b).t) (hu : u = 0 ∨ u ∈ ps)
    (ks : KS ((S0.born x T tu).put x u d) S') (wt : WT S' (A ++ x :: B)) (h0 : S'.N 0 = (S0.born x T tu).N 0) :
    TI S' (A ++ x :: B) fs' ∧ (S'.N x).t = T ∧ (S'.N x).turn = tu ∧ ∀ j, j ≠ x → (S'.N j).key = (S.N j).key := by
  obtain ⟨e1, e2, e3⟩ := put_same (S := S0.born x T tu) (x := x) (u := u) (d := d)
  have hk : ∀ j, (S'.N j).key = ((S0.born x T tu).N j).key := fun j => (ks.key j).trans key_put
  have hx : (S'.N x).key = (T, 0, true, tu) := by rw [hk, born_at]; rfl
  have hne : ∀ j, j ≠ x → (S'.N j).key = (S.N j).key := fun j hj => by rw [hk, born_ne hj, hp.N]
  have kt : ∀ {a b : Nd}, a.key = b.key → a.t = b.t ∧ a.q = b.q ∧ a.taken = b.taken ∧ a.turn = b.turn := fun {a b} e => by
    simp only [Nd.key, Prod.mk.injEq] at e; exact e
  have hx4 : (S'.N x).t = T ∧ (S'.N x).q = 0 ∧ (S'.N x).taken = true ∧ (S'.N x).turn = tu := by
    simp only [Nd.key, Prod.mk.injEq] at hx; exact hx
  have hlen : S'.len = S0.len := ks.len.trans e1
  have hm : ∀ j, j ∈ A ++ x :: B ↔ j = x ∨ j ∈ ps := fun j => by rw [← hAB]; simp; constructor <;> rintro (h | h | h) <;> simp [h]
  -- what lies outside the tree has not changed
  have hfr : ∀ j, j ≠ 0 → j ∉ A ++ x :: B → S'.N j = S.N j := by
    intro j hj0 hj
    rw [hm] at hj
    have hjx : j ≠ x := fun e => hj (.inl e)
    obtain ⟨C, hC⟩ : ∃ C : Nat → Prop, C = fun j => j = 0 ∨ j = x ∨ j ∈ ps := ⟨_, rfl⟩
    have c0 : C 0 := by rw [hC]; exact .inl rfl
    have cx : C x := by rw [hC]; exact .inr (.inl rfl)
    have cp : ∀ j ∈ ps, C j := fun j hj => by rw [hC]; exact .inr (.inr hj)
    have hw := wt_cl h.wt h.z0 c0 cp
    have hcl : Cl C (S0.born x T tu) := by
      refine ⟨c0, by show C S0.root; rw [hp.root]; exact hw.1, fun i hi => ?_⟩
      by_cases e : i = x
      · rw [e, born_at]; exact ⟨c0, c0, c0⟩
      · rw [born_ne e, hp.N]
        refine hw.2 i ?_
        rw [hC] at hi
        rcases hi with hi | hi | hi
        · exact .inl hi
        · exact absurd hi e
        · exact .inr hi
    have c1 := cf_put (d := d) (cf_refl hcl) cx (show C u from hu.elim (fun e => e ▸ c0) (cp u))
    have c2 := ks.fr C c1.1
    have hnC : ¬ C j := by
      rw [hC]
      rintro (e | e | e)
      · exact hj0 e
      · exact hjx e
      · exact hj (.inr e)
    rw [c2.2 j hnC, c1.2 j hnC, born_ne hjx, hp.N]
  have hz0 : x ≠ 0 := hp.x0
  refine ⟨⟨ks.ok, wt, by rw [h0, born_ne (Ne.symm hz0), hp.N]; exact h.z0, ?_, ?_, ?_, ?_, ?_, ?_, ?_, ?_, ?_, by rw [hlen]; exact hp.mx⟩, hx4.1, hx4.2.2.2, hne⟩
  · rw [ks.free, e3]
    show chain S'.N S0.free fs'
    refine chain_same hp.fc fun j hj => ?_
    have hjp : j ∉ A ++ x :: B := by
      rw [hm]
      rintro (rfl | e)
      · exact hp.xf hj
      · exact (nd2 hp.nd).2.2 j e hj
    rw [hfr j (by have := (hp.bd j (by simp [hj])).1; omega) hjp, hp.N]
  · refine nd2' wt.nd (nd2 hp.nd).2.1 fun j h1 h2 => ?_
    rw [hm] at h1
    rcases h1 with rfl | h1
    · exact hp.xf h2
    · exact (nd2 hp.nd).2.2 j h1 h2
  · intro j hj
    rw [hlen]
    rw [List.mem_append, hm] at hj
    rcases hj with (rfl | hj) | hj
    · exact ⟨by omega, hp.xl⟩
    · exact hp.bd j (by simp [hj])
    · exact hp.bd j (by simp [hj])
  · rw [hlen, hp.cnt, ← hAB]; simp; omega
  · rw [ks.n, e2]
    show S0.n + 1 = _
    rw [hp.n, h.n, ← hAB]; simp; omega
  · intro j hj
    rw [hm] at hj
    rcases hj with rfl | hj
    · exact ⟨hx4.2.2.1, hx4.2.1⟩
    · have := kt (hne j fun e => hp.xp (e ▸ hj))
      have h2 := h.tk j hj
      exact ⟨this.2.2.1.trans h2.1, this.2.1.trans h2.2⟩
  · intro j hj
    rw [hlen] at hj
    have h2 := hp.xl
    have hj0 : j ≠ 0 := by omega
    rw [hfr j hj0 (by
      rw [hm]
      rintro (rfl | e)
      · omega
      · have := (hp.bd j (by simp [e])).2; omega), ← hp.N]
    exact hp.sp j hj
  · have hs := h.so
    rw [← hAB, List.pairwise_append] at hs
    have tS : ∀ j ∈ ps, (S'.N j).t = (S.N j).t := fun j hj => (kt (hne j fun e => hp.xp (e ▸ hj))).1
    have tB : ∀ j ∈ ps, ((S0.born x T tu).N j).t = (S.N j).t := fun j hj => by
      have nj : j ≠ x := fun e => hp.xp (e ▸ hj)
      rw [born_ne nj, hp.N]
    have iA : ∀ j ∈ A, j ∈ ps := fun j hj => by rw [← hAB]; simp [hj]
    have iB : ∀ j ∈ B, j ∈ ps := fun j hj => by rw [← hAB]; simp [hj]
    rw [List.pairwise_append, List.pairwise_cons]
    refine ⟨hs.1.imp_of_mem fun {a b} ha hb e => by rw [tS a (iA a ha), tS b (iA b hb)]; exact e, ⟨fun b hb => ?_, hs.2.1.imp_of_mem fun {a b} ha hb e => by rw [tS a (iB a ha), tS b (iB b hb)]; exact e⟩, fun a ha b hb => ?_⟩
    · have := hhi b hb
      rw [tB b (iB b hb)] at this
      rw [hx4.1, tS b (iB b hb)]; omega
    · have := hlo a ha
      rw [tB a (iA a ha)] at this
      rcases List.mem_cons.1 hb with rfl | hb
      · rw [hx4.1, tS a (iA a ha)]; exact this
      · rw [tS a (iA a ha), tS b (iB b hb)]; exact hs.2.2 a ha b hb
  · intro j
    by_cases e : j = x
    · subst e; rw [hx4.2.2.2]; exact htu
    · rw [(kt (hne j e)).2.2.2]; exact h.tu j
end Go.Proofs.YtlcaepcojglbiaaGreatDoor.Tp
namespace Go.Proofs.YtlcaepcojglbiaaGreatDoor.Tp
set_option linter.unusedVariables false
set_option linter.unusedSimpArgs false
/-! A place goes out of the tree. -/
structure NI (S : TS) (ps : List Nat) (t : Sh) (k : Cx) (y u h : Nat) : Prop where
  z : Z S t k y u
  rb : RBt t h
  c : RBc k h
  cr : cred k = true → t.red = false
  bl : k = [] → t.red = false
  ord : lps k ++ (t.ps ++ rps k) = ps
theorem ni_start {S : TS} {ps : List Nat} (h : WT S ps) : ∃ t h', NI S ps t [] S.root 0 h' := by
  obtain ⟨⟨w, h', hw, hb, hr, hp⟩, hn⟩ := h
  exact ⟨w, h', ⟨hw, ⟨rfl, rfl⟩, by simpa [lps, rps, hp] using hn⟩, hb, trivial, fun e => (by simp [cred] at e), fun _ => hr, by simp [lps, rps, hp]⟩
theorem ni_down {S : TS} {ps : List Nat} {f : Fr} {t : Sh} {k : Cx} {y u h : Nat} (H : NI S ps (f.plug t) k y u h) : ∃ y' h', NI S ps t (f :: k) y' f.x h' := by
  obtain ⟨hz, hrb, hc, hcr, hbl, hord⟩ := H
  obtain ⟨_, _, _, _, z1⟩ := z_down hz
  obtain ⟨h', r1, r2, r3⟩ := rb_down (f := f) (t := t) hrb hc hcr (fun e => by have := hbl e; obtain ⟨s, c, x, sh⟩ := f; cases s <;> simpa [Fr.plug, Sh.red] using this)
  refine ⟨_, h', z1, r1, r2, r3, fun e => by simp at e, ?_⟩
  rw [← hord]
  obtain ⟨s, c, x, sh⟩ := f
  cases s <;> simp [lps, rps, Sh.ps, Fr.plug]
theorem ni_find {S : TS} {ps : List Nat} {t : Sh} : ∀ {k : Cx} {y u h z : Nat}, NI S ps t k y u h → z ∈ t.ps → ∃ c l r k' u' h', NI S ps (.n c l z r) k' z u' h' := by
  induction t with
  | e => intro k y u h z _ hz; simp [Sh.ps] at hz
  | n c l x r ihl ihr =>
    intro k y u h z H hz
    simp only [Sh.ps, List.mem_append, List.mem_cons] at hz
    rcases hz with hz | rfl | hz
    · obtain ⟨y', h', H'⟩ := ni_down (f := ⟨false, c, x, r⟩) (t := l) H
      exact ihl H' hz
    · have := H.z.rt.1
      subst this
      exact ⟨c, l, r, k, u, h, H⟩
    · obtain ⟨y', h', H'⟩ := ni_down (f := ⟨true, c, x, l⟩) (t := r) H
      exact ihr H' hz
/-- Down to the left. -/
theorem ni_low {S : TS} {ps : List Nat} {t : Sh} : ∀ {k : Cx} {y u h : Nat}, NI S ps t k y u h → t ≠ .e → ∃ c r k2 u' h', NI S ps (.n c .e t.low r) (k2 ++ k) t.low u' h' ∧ (∀ f ∈ k2, f.side = false) ∧ t = plug k2 (.n c .e t.low r) := by
  induction t with
  | e => intro k y u h _ hz; exact absurd rfl hz
  | n c l x r ihl ihr =>
    intro k y u h H _
    cases l with
    | e =>
      have := H.z.rt.1
      subst this
      exact ⟨c, r, [], u, h, H, by simp, rfl⟩
    | n c2 l2 x2 r2 =>
      obtain ⟨y', h', H'⟩ := ni_down (f := ⟨false, c, x, r⟩) (t := .n c2 l2 x2 r2) H
      obtain ⟨c3, r3, k3, u3, h3, H3, hs, e3⟩ := ihl H' (by simp)
      refine ⟨c3, r3, k3 ++ [⟨false, c, x, r⟩], u3, h3, by rw [List.append_assoc]; exact H3, ?_, ?_⟩
      · intro f hf
        rcases List.mem_append.1 hf with hf | hf
        · exact hs f hf
        · simp at hf; rw [hf]
      · show Sh.n c (.n c2 l2 x2 r2) x r = plug (k3 ++ [⟨false, c, x, r⟩]) (.n c3 .e (Sh.n c2 l2 x2 r2).low r3)
        have pa : ∀ (k : Cx) (k' : Cx) (t : Sh), plug (k ++ k') t = plug k' (plug k t) := by
          intro k
          induction k with
          | nil => intro _ _; rfl
          | cons f k ih => intro k' t; exact ih k' _
        rw [pa, ← e3]
        rfl
/-- One that has one child at most: it comes up. -/
theorem z_cut {S : TS} {c : Bool} {l r t : Sh} {k : Cx} {z u x : Nat} (h : Z S (.n c l z r) k z u) (ht : (l = .e ∧ t = r ∧ x = (S.N z).r) ∨ (r = .e ∧ t = l ∧ x = (S.N z).l)) :
    Z (S.hang z x) t k x u ∧ (t = .e → ((S.hang z x).N 0).u = u) := by
  obtain ⟨hrt, hk, hn⟩ := h
  obtain ⟨_, hz0, hc, hu, hl, hr⟩ := hrt
  obtain ⟨n1, n2, n3⟩ := nd_cx hn
  have nn := nd_n n1
  have htx : Rep S.N t x z ∧ t.ps.Nodup ∧ z ∉ t.ps ∧ (∀ j ∈ t.ps, j ∈ (Sh.n c l z r).ps) := by
    rcases ht with ⟨_, rfl, rfl⟩ | ⟨_, rfl, rfl⟩
    · exact ⟨hr, nn.2.1, nn.2.2.2.1, fun j hj => by simp [Sh.ps, hj]⟩
    · exact ⟨hl, nn.1, nn.2.2.1, fun j hj => by simp [Sh.ps, hj]⟩
  obtain ⟨t1, t2, t3, t4⟩ := htx
  have hzk := n3 z (by simp [Sh.ps])
  have hx : x = 0 ∨ x ∈ t.ps := by
    rcases rep_place t1 with ⟨e, _⟩ | ⟨_, e, _⟩
    · exact .inl e
    · exact .inr e
  have hxk : ¬ (x ∈ lps k ∨ x ∈ rps k) := by
    rcases hx with rfl | hx
    · exact fun e => repc_nz hk 0 e rfl
    · exact n3 x (t4 x hx)
  have hxu : x ≠ 0 → x ≠ (S.N z).u := by
    intro h0 e
    rw [hu] at e
    rcases repc_up hk with ⟨e1, _⟩ | ⟨_, e1⟩
    · exact h0 (e.trans e1)
    · exact hxk (e ▸ e1)
  have hup : x = 0 → (S.N z).u = 0 ∨ x ≠ (S.N z).u := fun h0 => by by_cases e : (S.N z).u = 0; exact .inl e; exact .inr fun e2 => e (e2 ▸ h0)
  have r1 := repc_hang (p' := x) hk n2 hz0 hu hzk hxk
  refine ⟨⟨?_, r1, ?_⟩, ?_⟩
  · refine rep_up t1 t2 (fun j hj hjx => hang_else hjx ?_) (fun h0 => ?_)
    · intro e
      rw [hu] at e
      rcases repc_up hk with ⟨e1, _⟩ | ⟨_, e1⟩
      · exact rep_nz t1 j hj (e.trans e1)
      · exact n3 j (t4 j hj) (e ▸ e1)
    · rw [hang_at' (hxu h0), hu]
  · refine nd_cx' t2 n2 fun j hj => n3 j (t4 j hj)
  · intro he
    have hx0 : x = 0 := by
      rcases hx with e | e
      · exact e
      · rw [he] at e; simp [Sh.ps] at e
    subst hx0
    unfold TS.hang
    show (if 0 = 0 then _ else _ : Nd).u = u
    rw [if_pos rfl]
    exact hu
theorem hang_red {S : TS} {p p' j : Nat} : ((S.hang p p').N j).red = (S.N j).red := by
  have hl : ∀ (S : TS) (i v j : Nat), ((S.setl i v).N j).red = (S.N j).red := fun S i v j => by
    show (if j = i then _ else _ : Nd).red = _; split <;> rfl
  have hr : ∀ (S : TS) (i v j : Nat), ((S.setr i v).N j).red = (S.N j).red := fun S i v j => by
    show (if j = i then _ else _ : Nd).red = _; split <;> rfl
  have hu : ∀ (S : TS) (i v j : Nat), ((S.setu i v).N j).red = (S.N j).red := fun S i v j => by
    show (if j = i then _ else _ : Nd).red = _; split <;> rfl
  unfold TS.hang
  rw [hu]
  split
  · rfl
  · split
    · exact hl _ _ _ _
    · exact hr _ _ _ _
/-! One comes in the place of another one. -/
def TS.heir (S : TS) (z y : Nat) : TS := ((S.setl y (S.N z).l).setr y (S.N z).r).setc y (S.N z).red
def TS.kid (S : TS) (p y : Nat) : TS := if p = 0 then S else S.setu p y
def TS.swap (S : TS) (z y : Nat) : TS := ((((S.hang z y).heir z y).kid ((S.hang z y).N z).l y).kid ((S.hang z y).N z).r y)
theorem heir_at {S : TS} {z y : Nat} : (S.heir z y).N y = { S.N y with l := (S.N z).l, r := (S.N z).r, red := (S.N z).red } := by
  show (if y = y then ({ (if y = y then ({ (if y = y then _ else _ : Nd) with r := _ } : Nd) else _ : Nd) with red := _ } : Nd) else _) = _
  rw [if_pos rfl, if_pos rfl, if_pos rfl]
theorem heir_ne {S : TS} {z y j : Nat} (h : j ≠ y) : (S.heir z y).N j = S.N j := by
  show (if j = y then _ else (if j = y then _ else (if j = y then _ else _))) = _
  rw [if_neg h, if_neg h, if_neg h]
theorem kid_at {S : TS} {p y : Nat} (h : p ≠ 0) : (S.kid p y).N p = { S.N p with u := y } := by
  unfold TS.kid
  rw [if_neg h]
  exact upd_eq
theorem kid_ne {S : TS} {p y j : Nat} (h : j ≠ p) : (S.kid p y).N j = S.N j := by
  unfold TS.kid
  split
  · rfl
  · exact ne_setu h
theorem kid_root {S : TS} {p y : Nat} : (S.kid p y).root = S.root := by
  unfold TS.kid
  split <;> rfl
theorem z_swap {S : TS} {c : Bool} {l r : Sh} {k : Cx} {z u y : Nat} (h : Z S (.n c l z r) k z u) (hy0 : y ≠ 0) (hy : y ∉ lps k ∧ y ∉ rps k ∧ y ∉ l.ps ∧ y ∉ r.ps ∧ y ≠ z) : Z (S.swap z y) (.n c l y r) k y u := by
  obtain ⟨hrt, hk, hn⟩ := h
  obtain ⟨_, hz0, hc, hu, hl, hr⟩ := hrt
  obtain ⟨n1, n2, n3⟩ := nd_cx hn
  have nn := nd_n n1
  have hzk := n3 z (by simp [Sh.ps])
  have hyk : ¬ (y ∈ lps k ∨ y ∈ rps k) := by rintro (e | e); exact hy.1 e; exact hy.2.1 e
  have hyu : y ≠ (S.N z).u := by
    intro e
    rw [hu] at e
    rcases repc_up hk with ⟨e1, _⟩ | ⟨_, e1⟩
    · exact hy0 (e.trans e1)
    · exact hyk (e ▸ e1)
  have hzu : z ≠ (S.N z).u := by
    intro e
    rw [hu] at e
    rcases repc_up hk with ⟨e1, _⟩ | ⟨_, e1⟩
    · exact hz0 (e.trans e1)
    · exact hzk (e ▸ e1)
  have r1 := repc_hang (p' := y) hk n2 hz0 hu hzk hyk
  have eZ : (S.hang z y).N z = S.N z := hang_else (Ne.symm hy.2.2.2.2) hzu
  have eY : (S.hang z y).N y = { S.N y with u := u } := by rw [hang_at' hyu, hu]
  have hsub : ∀ j, j ∈ l.ps ∨ j ∈ r.ps → (S.hang z y).N j = S.N j := by
    intro j hj
    refine hang_else (fun e => ?_) (fun e => ?_)
    · rw [e] at hj; rcases hj with hj | hj; exact hy.2.2.1 hj; exact hy.2.2.2.1 hj
    · rw [hu] at e
      have hjt : j ∈ (Sh.n c l z r).ps := by simp [Sh.ps]; rcases hj with hj | hj <;> simp [hj]
      rcases repc_up hk with ⟨e1, _⟩ | ⟨_, e1⟩
      · rcases hj with hj | hj
        · exact rep_nz hl j hj (e.trans e1)
        · exact rep_nz hr j hj (e.trans e1)
      · exact n3 j hjt (e ▸ e1)
  obtain ⟨S1, hS1⟩ : ∃ S1, S.hang z y = S1 := ⟨_, rfl⟩
  have eS : S.swap z y = ((S1.heir z y).kid (S.N z).l y).kid (S.N z).r y := by
    unfold TS.swap; rw [eZ, hS1]
  rw [hS1] at r1 eZ eY hsub
  obtain ⟨p, hp⟩ : ∃ p, (S.N z).l = p := ⟨_, rfl⟩
  obtain ⟨q, hq⟩ : ∃ q, (S.N z).r = q := ⟨_, rfl⟩
  rw [hp] at hl eS
  rw [hq] at hr eS
  rw [eS]
  have hpl : p = 0 ∨ p ∈ l.ps := by
    rcases rep_place hl with ⟨e, _⟩ | ⟨_, e, _⟩
    · exact .inl e
    · exact .inr e
  have hqr : q = 0 ∨ q ∈ r.ps := by
    rcases rep_place hr with ⟨e, _⟩ | ⟨_, e, _⟩
    · exact .inl e
    · exact .inr e
  have hyp : y ≠ p := by rcases hpl with e | e; exact fun e2 => hy0 (e2.trans e); exact fun e2 => hy.2.2.1 (e2 ▸ e)
  have hyq : y ≠ q := by rcases hqr with e | e; exact fun e2 => hy0 (e2.trans e); exact fun e2 => hy.2.2.2.1 (e2 ▸ e)
  have eY2 : ((((S1.heir z y).kid p y).kid q y).N y) = { S.N y with u := u, l := p, r := q, red := c } := by
    rw [kid_ne hyq, kid_ne hyp, heir_at, eZ, eY, hp, hq, hc]
  have hnl : ∀ j ∈ l.ps, j ≠ p → (((S1.heir z y).kid p y).kid q y).N j = S.N j := by
    intro j hj hjp
    have h1 : j ≠ q := by rcases hqr with e | e; exact fun e2 => rep_nz hl j hj (e2.trans e); exact fun e2 => nn.2.2.2.2 j hj (e2 ▸ e)
    have hjy : j ≠ y := fun e => hy.2.2.1 (e ▸ hj)
    rw [kid_ne h1, kid_ne hjp, heir_ne hjy, hsub j (.inl hj)]
  have hnr : ∀ j ∈ r.ps, j ≠ q → (((S1.heir z y).kid p y).kid q y).N j = S.N j := by
    intro j hj hjq
    have h1 : j ≠ p := by rcases hpl with e | e; exact fun e2 => rep_nz hr j hj (e2.trans e); exact fun e2 => nn.2.2.2.2 j (e2 ▸ e) hj
    have hjy : j ≠ y := fun e => hy.2.2.2.1 (e ▸ hj)
    rw [kid_ne hjq, kid_ne h1, heir_ne hjy, hsub j (.inr hj)]
  refine ⟨⟨rfl, hy0, by rw [eY2], by rw [eY2], ?_, ?_⟩, ?_, ?_⟩
  · rw [eY2]
    refine rep_up hl nn.1 hnl fun h0 => ?_
    have hpm : p ∈ l.ps := hpl.resolve_left h0
    have h1 : p ≠ q := by rcases hqr with e | e; exact fun e2 => h0 (e2.trans e); exact fun e2 => nn.2.2.2.2 p hpm (e2 ▸ e)
    rw [kid_ne h1, kid_at h0, heir_ne (Ne.symm hyp), hsub p (.inl hpm)]
  · rw [eY2]
    refine rep_up hr nn.2.1 hnr fun h0 => ?_
    have hqm : q ∈ r.ps := hqr.resolve_left h0
    have h1 : q ≠ p := by rcases hpl with e | e; exact fun e2 => h0 (e2.trans e); exact fun e2 => nn.2.2.2.2 q (e2 ▸ e) hqm
    rw [kid_at h0, kid_ne h1, heir_ne (Ne.symm hyq), hsub q (.inr hqm)]
  · rw [kid_root, kid_root]
    show RepC _ S1.root k y u
    refine repc_same r1 fun j hj => ?_
    have h1 : j ≠ q := by rcases hqr with e | e; exact fun e2 => repc_nz hk j hj (e2.trans e); exact fun e2 => n3 q (by simp [Sh.ps, e]) (e2 ▸ hj)
    have h2 : j ≠ p := by rcases hpl with e | e; exact fun e2 => repc_nz hk j hj (e2.trans e); exact fun e2 => n3 p (by simp [Sh.ps, e]) (e2 ▸ hj)
    have hjy : j ≠ y := fun e => hyk (e ▸ hj)
    rw [kid_ne h1, kid_ne h2, heir_ne hjy]
  · refine nd_cx' ?_ n2 ?_
    · simp only [Sh.ps]
      refine nd2' nn.1 (List.nodup_cons.2 ⟨hy.2.2.2.1, nn.2.1⟩) fun j a b => ?_
      rcases List.mem_cons.1 b with rfl | b
      · exact hy.2.2.1 a
      · exact nn.2.2.2.2 j a b
    · intro j hj
      simp only [Sh.ps, List.mem_append, List.mem_cons] at hj
      rcases hj with hj | rfl | hj
      · exact n3 j (by simp [Sh.ps, hj])
      · exact hyk
      · exact n3 j (by simp [Sh.ps, hj])
theorem z_ups {S : TS} (k2 : Cx) : ∀ {t : Sh} {k : Cx} {p u : Nat}, Z S t (k2 ++ k) p u → ∃ p' u', Z S (plug k2 t) k p' u' := by
  induction k2 with
  | nil => exact fun h => ⟨_, _, h⟩
  | cons f k2 ih => exact fun h => ih (z_up h).2.2.2.2.2
theorem z_downs {S : TS} (k2 : Cx) : ∀ {t : Sh} {k : Cx} {p u : Nat}, Z S (plug k2 t) k p u → ∃ p' u', Z S t (k2 ++ k) p' u' := by
  induction k2 with
  | nil => exact fun h => ⟨_, _, h⟩
  | cons f k2 ih =>
    intro t k p u h
    obtain ⟨p', u', h'⟩ := ih (t := f.plug t) h
    exact ⟨_, _, (z_down h').2.2.2.2⟩
/-- Where a tree lies hangs on the tree alone. -/
theorem rep_det {N N' : Nat → Nd} {t : Sh} {p u p' u' : Nat} (h : Rep N t p u) (h' : Rep N' t p' u') : p = p' := by
  cases t with
  | e => exact h.trans h'.symm
  | n c l x r => exact h.1.trans h'.1.symm
/-- The up of nobody is nobody's matter. -/
theorem z_up0 {S : TS} {t : Sh} {k : Cx} {p u : Nat} (h : Z S t k p u) : Z (S.setu p u) t k p u ∧ (t = .e → ((S.setu p u).N 0).u = u) := by
  rcases rep_place h.rt with ⟨e1, e2⟩ | ⟨e1, e2, e3⟩
  · subst e1
    refine ⟨⟨rep_same h.rt fun j hj => ne_setu (rep_nz h.rt j hj), repc_same h.rk fun j hj => ne_setu (repc_nz h.rk j hj), h.nd⟩, fun _ => ?_⟩
    show (if 0 = 0 then _ else _ : Nd).u = u
    rw [if_pos rfl]
  · have hN : (S.setu p u).N = S.N := by
      funext j
      by_cases e : j = p
      · subst e
        show (if j = j then _ else _) = _
        rw [if_pos rfl, ← e3]
      · exact ne_setu e
    refine ⟨⟨by rw [hN]; exact h.rt, by rw [hN]; exact h.rk, h.nd⟩, fun he => ?_⟩
    rw [he] at e2
    simp [Sh.ps] at e2
/-- What the cut leaves as it was. -/
structure CK (S S4 : TS) (ps : List Nat) : Prop where
  ok : S4.ok
  len : S4.len = S.len
  n : S4.n = S.n
  free : S4.free = S.free
  key : ∀ j, (S4.N j).key = (S.N j).key
  fr : ∀ C : Nat → Prop, Cl C S → (∀ j ∈ ps, C j) → CF C S S4
  red0 : (S4.N 0).red = (S.N 0).red
theorem ck_hang {S : TS} {ps : List Nat} (hk : S.ok) {z x : Nat} (hz : z ∈ ps) (hzl : z < S.len) (hx : x = (S.N z).l ∨ x = (S.N z).r) : CK S (S.hang z x) ps := by
  have hxl : x < S.len := by
    have := hk.2 z hzl
    rcases hx with rfl | rfl
    · exact this.1
    · exact this.2.1
  have h1 := ok_hang hk z x hzl hxl
  have h2 := hang_nf (S := S) (p := z) (p' := x)
  refine ⟨h1.1, h1.2, h2.1, h2.2, fun j => key_hang, fun C hC hp => cf_hang (cf_refl hC) (hp z hz) ?_, hang_red⟩
  have := hC.2.2 z (hp z hz)
  rcases hx with rfl | rfl
  · exact this.1
  · exact this.2.1
theorem rbc_re {k2 : Cx} : ∀ {s c : Bool} {z y : Nat} {l : Sh} {k : Cx} {h : Nat}, RBc (k2 ++ ⟨s, c, z, l⟩ :: k) h → RBc (k2 ++ ⟨s, c, y, l⟩ :: k) h := by
  induction k2 with
  | nil =>
    intro s c z y l k h H
    cases c <;> exact H
  | cons f k2 ih =>
    obtain ⟨fs, fc, fx, sh⟩ := f
    intro s c z y l k h H
    cases fc with
    | true =>
      obtain ⟨h1, h2, h3, h4, h5⟩ := H
      refine ⟨h1, h2, by simp, ?_, ih h5⟩
      cases k2 with
      | nil => exact h4
      | cons g k2 => exact h4
    | false => exact ⟨H.1, ih H.2⟩
theorem rb_e {t : Sh} (h : RBt t 0) (hr : t.red = false) : t = .e := by
  match t, hr with
  | .e, _ => rfl
  | .n false l x r, _ => obtain ⟨h', e, _⟩ := h; omega
theorem wt_of {S : TS} {PS : List Nat} {t : Sh} {k : Cx} {x u h : Nat} (hz : Z S t k x u) (hb : RBt t h) (hc : RBc k h) (hr : cred k = true → t.red = false) (hl : k = [] → t.red = false) (ho : lps k ++ (t.ps ++ rps k) = PS) : WT S PS := by
  obtain ⟨h', w1, w2⟩ := plug_rb k t h hc hb hr
  refine ⟨⟨plug k t, h', z_plug k hz, w1, ?_, by rw [ps_plug, ho]⟩, by rw [← ho]; exact hz.nd⟩
  cases k with
  | nil => exact hl rfl
  | cons f k => exact w2 (by simp)
/-- One child at most. -/
theorem cut_one {S : TS} {ps A B : List Nat} {c : Bool} {l r t : Sh} {k : Cx} {z u h x : Nat} (hk : S.ok) (H : NI S ps (.n c l z r) k z u h) (ht : (l = .e ∧ t = r ∧ x = (S.N z).r) ∨ (r = .e ∧ t = l ∧ x = (S.N z).l)) (hA : ps = A ++ z :: B) :
    CK S (S.hang z x) ps ∧ (c = false → ∃ h', FI (S.hang z x) (S.hang z x) (A ++ B) t x u k h') ∧ (c = true → WT (S.hang z x) (A ++ B)) := by
  have hzp : z ∈ ps := by rw [hA]; simp
  have hzl : z < S.len := (z_lt hk H.z).2.1
  have hck : CK S (S.hang z x) ps := ck_hang hk hzp hzl (by rcases ht with ⟨_, _, e⟩ | ⟨_, _, e⟩; exact .inr e; exact .inl e)
  obtain ⟨hz, he⟩ := z_cut H.z ht
  have hn := H.z.nd
  have hord : lps k ++ (t.ps ++ rps k) = A ++ B := by
    have e1 : (lps k ++ l.ps) ++ z :: (r.ps ++ rps k) = A ++ z :: B := by rw [← hA, ← H.ord]; simp [Sh.ps]
    have e2 : (lps k ++ l.ps) ++ (r.ps ++ rps k) = A ++ B := by
      have hnd : (A ++ z :: B).Nodup := by rw [← hA, ← H.ord]; exact hn
      have k1 : ∀ {L R : List Nat}, (L ++ z :: R).Nodup → (L ++ z :: R).filter (fun j => j != z) = L ++ R := by
        intro L R hLR
        have hh := nd_n hLR
        rw [List.filter_append, List.filter_cons, List.filter_eq_self.2 (fun j hj => by simp; rintro rfl; exact hh.2.2.1 hj), List.filter_eq_self.2 (fun j hj => by simp; rintro rfl; exact hh.2.2.2.1 hj)]
        simp
      rw [← k1 hnd, ← e1]
      exact (k1 (by rw [e1]; exact hnd)).symm
    rw [← e2]
    rcases ht with ⟨rfl, rfl, _⟩ | ⟨rfl, rfl, _⟩ <;> simp [Sh.ps]
  refine ⟨hck, ?_, ?_⟩
  · rintro rfl
    obtain ⟨h', rfl, b1, b2⟩ := H.rb
    have hbt : RBt t h' := by rcases ht with ⟨_, rfl, _⟩ | ⟨_, rfl, _⟩; exact b2; exact b1
    exact ⟨h', hz, he, rbx_of hbt, H.c, ks_refl hck.ok, rfl, hord⟩
  · rintro rfl
    obtain ⟨b1, b2, b3, b4⟩ := H.rb
    have hh : h = 0 := by rcases ht with ⟨rfl, _⟩ | ⟨rfl, _⟩; exact b1; exact b2
    subst hh
    have hte : t = .e := by rcases ht with ⟨_, rfl, _⟩ | ⟨_, rfl, _⟩; exact rb_e b2 b4; exact rb_e b1 b3
    subst hte
    exact wt_of hz rfl H.c (fun _ => rfl) (fun _ => rfl) hord
theorem ck_swap {S S1 : TS} {ps : List Nat} (h : CK S S1 ps) {z y : Nat} (hz : z ∈ ps) (hy : y ∈ ps) (hzl : z < S.len) (hyl : y < S.len) (hy0 : y ≠ 0) : CK S (S1.swap z y) ps := by
  have hO : ∀ (T : TS) (p : Nat), T.ok → T.len = S.len → (T.kid p y).ok ∧ (T.kid p y).len = S.len ∧ (T.kid p y).n = T.n ∧ (T.kid p y).free = T.free ∧ (∀ j, ((T.kid p y).N j).key = (T.N j).key) ∧ ∀ j, ((T.kid p y).N j).red = (T.N j).red := by
    intro T p hT hl
    unfold TS.kid
    split
    · exact ⟨hT, hl, rfl, rfl, fun _ => rfl, fun _ => rfl⟩
    · exact ⟨ok_setu hT p y (by rw [hl]; exact hyl), hl, rfl, rfl, fun _ => key_setu, fun j => by show (if j = p then _ else _ : Nd).red = _; split <;> rfl⟩
  have h1 := ok_hang h.ok z y (by rw [h.len]; exact hzl) (by rw [h.len]; exact hyl)
  have h2 := hang_nf (S := S1) (p := z) (p' := y)
  have hzz := h1.1.2 z (by rw [h1.2, h.len]; exact hzl)
  have h3 : ((S1.hang z y).heir z y).ok := ok_setc (ok_setr (ok_setl h1.1 y _ hzz.1) y _ hzz.2.1) y _
  have h4 := hO ((S1.hang z y).heir z y) ((S1.hang z y).N z).l h3 (h1.2.trans h.len)
  have h5 := hO (((S1.hang z y).heir z y).kid ((S1.hang z y).N z).l y) ((S1.hang z y).N z).r h4.1 h4.2.1
  refine ⟨h5.1, h5.2.1, h5.2.2.1.trans (h4.2.2.1.trans (h2.1.trans h.n)), h5.2.2.2.1.trans (h4.2.2.2.1.trans (h2.2.trans h.free)), fun j => (h5.2.2.2.2.1 j).trans ((h4.2.2.2.2.1 j).trans (((key_setc.trans (key_setr.trans key_setl)).trans (key_hang (S := S1) (p := z) (p' := y) (j := j))).trans (h.key j))), fun C hC hp => ?_, ?_⟩
  · have c1 := h.fr C hC hp
    have c2 := cf_hang c1 (hp z hz) (hp y hy)
    have cz := c2.1.2.2 z (hp z hz)
    have c3 : CF C S ((S1.hang z y).heir z y) := cf_setc (cf_setr (cf_setl c2 (hp y hy) cz.1) (hp y hy) cz.2.1) (hp y hy)
    have ck : ∀ {T : TS} {p : Nat}, CF C S T → C p → CF C S (T.kid p y) := by
      intro T p hT hP
      unfold TS.kid
      split
      · exact hT
      · exact cf_setu hT hP (hp y hy)
    exact ck (ck c3 cz.1) cz.2.1
  · have e1 : (((S1.hang z y).heir z y).N 0) = (S1.hang z y).N 0 := heir_ne (Ne.symm hy0)
    show ((((((S1.hang z y).heir z y).kid ((S1.hang z y).N z).l y).kid ((S1.hang z y).N z).r y).N 0).red) = _
    rw [h5.2.2.2.2.2, h4.2.2.2.2.2, e1, hang_red]
    exact h.red0
theorem ck_setu {S S1 : TS} {ps : List Nat} (h : CK S S1 ps) {x a : Nat} (hx : ∀ C : Nat → Prop, Cl C S → (∀ j ∈ ps, C j) → C x) (ha : a ∈ ps) (hal : a < S.len) : CK S (S1.setu x a) ps :=
  ⟨ok_setu h.ok x a (by rw [h.len]; exact hal), h.len, h.n, h.free, fun j => key_setu.trans (h.key j), fun C hC hp => cf_setu (h.fr C hC hp) (hx C hC hp) (hp a ha), by
    refine Eq.trans ?_ h.red0
    show (if 0 = x then _ else _ : Nd).red = _
    split <;> rfl⟩
theorem cx_ps (k2 : Cx) : ∀ (f : Fr) (k : Cx) (L : List Nat), (∀ g ∈ k2, g.side = false) → lps (k2 ++ f :: k) = lps (f :: k) ∧ rps (k2 ++ f :: k) = rps k2 ++ rps (f :: k) := by
  induction k2 with
  | nil => intro f k L _; exact ⟨rfl, rfl⟩
  | cons g k2 ih =>
    intro f k L h
    have hg := h g (by simp)
    obtain ⟨i1, i2⟩ := ih f k L fun a ha => h a (by simp [ha])
    refine ⟨?_, ?_⟩
    · show (if g.side then _ else lps (k2 ++ f :: k)) = _
      rw [hg]; exact i1
    · show (if g.side then _ else g.x :: (g.s.ps ++ rps (k2 ++ f :: k))) = (if g.side then rps k2 else g.x :: (g.s.ps ++ rps k2)) ++ rps (f :: k)
      rw [hg, i2]; simp
/-- Two children: the next one comes in its place. -/
theorem cut_two {S : TS} {ps A B : List Nat} {c cy : Bool} {l r r2 : Sh} {k k2 : Cx} {z y u u2 h h2 x : Nat} (hk : S.ok) (H : NI S ps (.n c l z r) k z u h) (H2 : NI S ps (.n cy .e y r2) (k2 ++ ⟨true, c, z, l⟩ :: k) y u2 h2) (hs : ∀ f ∈ k2, f.side = false) (hr : r = plug k2 (.n cy .e y r2)) (hx : x = (S.N y).r) (hA : ps = A ++ z :: B) :
    (((S.hang y x).N x).u = u2 ∧ u2 < S.len ∧ x < S.len ∧ y < S.len ∧ y ≠ 0 ∧ z ≠ y) ∧
    CK S (((S.hang y x).swap z y).setu x (if u2 = z then y else u2)) ps ∧ (cy = false → ∃ h' k', FI (((S.hang y x).swap z y).setu x (if u2 = z then y else u2)) (((S.hang y x).swap z y).setu x (if u2 = z then y else u2)) (A ++ B) r2 x (if u2 = z then y else u2) k' h') ∧ (cy = true → WT (((S.hang y x).swap z y).setu x (if u2 = z then y else u2)) (A ++ B)) := by
  have hzp : z ∈ ps := by rw [hA]; simp
  have hzl : z < S.len := (z_lt hk H.z).2.1
  have hyl : y < S.len := (z_lt hk H2.z).2.1
  have hul : u2 < S.len := (z_lt hk H2.z).2.2
  have hxl : x < S.len := by rw [hx]; exact (hk.2 y hyl).2.1
  have hyp : y ∈ ps := by rw [← H2.ord]; simp [Sh.ps]
  have hy0 : y ≠ 0 := H2.z.rt.2.1
  obtain ⟨hz1, he1⟩ := z_cut (t := r2) (x := x) H2.z (.inl ⟨rfl, rfl, hx⟩)
  have ck1 : CK S (S.hang y x) ps := ck_hang hk hyp hyl (.inr hx)
  obtain ⟨n1, n2, n3⟩ := nd_cx H2.z.nd
  have hyK := n3 y (by simp [Sh.ps])
  obtain ⟨e1, e2⟩ := cx_ps k2 ⟨true, c, z, l⟩ k [] hs
  rw [e1, e2] at hyK n2 n3
  simp [lps, rps] at hyK
  -- up to the old place
  obtain ⟨p', u', hz2⟩ := z_ups (k := ⟨true, c, z, l⟩ :: k) k2 hz1
  obtain ⟨_, _, _, _, _, hz3⟩ := z_up hz2
  have hsubs : (plug k2 r2).ps = r2.ps ++ rps k2 := by
    have := (cx_ps k2 ⟨true, c, z, l⟩ k [] hs).1
    rw [ps_plug]
    have hl2 : ∀ (k2 : Cx), (∀ f ∈ k2, f.side = false) → lps k2 = [] := by
      intro k2
      induction k2 with
      | nil => intro _; rfl
      | cons f k2 ih =>
        intro h
        show (if f.side then _ else lps k2) = []
        rw [h f (by simp)]
        exact ih fun a ha => h a (by simp [ha])
    rw [hl2 k2 hs]; rfl
  have n1y := nd_n (x := y) (a := []) (b := r2.ps) n1
  have hz4 := z_swap (S := S.hang y x) (y := y) hz3 hy0 ⟨fun e => hyK.1.1 (by simp [e]), fun e => hyK.2.2 e, fun e => hyK.1.2.1 e, by
    rw [hsubs]
    intro e
    rcases List.mem_append.1 e with e | e
    · exact n1y.2.2.2.1 e
    · exact hyK.2.1 e, hyK.1.2.2⟩
  have hz5 := (z_down (f := ⟨true, c, y, l⟩) (t := plug k2 r2) hz4).2.2.2.2
  obtain ⟨x', u'', hz6⟩ := z_downs k2 hz5
  have ex : x' = x := rep_det hz6.rt hz1.rt
  rw [ex] at hz6
  have hu2 : u2 ≠ 0 ∧ u'' = if u2 = z then y else u2 := by
    cases k2 with
    | nil =>
      have a1 := hz1.rk.1
      have a2 := hz6.rk.1
      have a1 : u2 = z := a1
      have a2 : u'' = y := a2
      rw [if_pos a1]
      exact ⟨by rw [a1]; exact H.z.rt.2.1, a2⟩
    | cons f k2 =>
      have a1 : u2 = f.x := hz1.rk.1
      have a2 : u'' = f.x := hz6.rk.1
      have hfz : f.x ≠ z := by
        have hf := hs f (by simp)
        intro e
        have hm : f.x ∈ rps (f :: k2) := by simp [rps, hf]
        have hm2 : z ∈ lps (⟨true, c, z, l⟩ :: k) := by simp [lps]
        exact (nd2 n2).2.2 z hm2 (by rw [← e]; simp [hm])
      rw [a1, if_neg hfz]
      exact ⟨hz1.rk.2.1, a2⟩
  obtain ⟨hu0, hu3⟩ := hu2
  rw [← hu3]
  obtain ⟨hz7, he7⟩ := z_up0 hz6
  have hu2p : u2 ∈ ps := by
    rcases repc_up H2.z.rk with ⟨e, _⟩ | ⟨_, e⟩
    · exact absurd e hu0
    · rw [← H2.ord]; rcases e with e | e <;> simp [e]
  have hup : u'' ∈ ps ∧ u'' < S.len := by
    rw [hu3]
    split
    · exact ⟨hyp, hyl⟩
    · exact ⟨hu2p, hul⟩
  have ck3 := ck_setu (x := x) (ck_swap ck1 hzp hyp hzl hyl hy0) (fun C hC hp => by rw [hx]; exact (hC.2.2 y (hp y hyp)).2.1) hup.1 hup.2
  have hord : lps (k2 ++ ⟨true, c, y, l⟩ :: k) ++ (r2.ps ++ rps (k2 ++ ⟨true, c, y, l⟩ :: k)) = A ++ B := by
    obtain ⟨f1, f2⟩ := cx_ps k2 ⟨true, c, y, l⟩ k [] hs
    rw [f1, f2]
    have g1 : (lps k ++ l.ps) ++ z :: (y :: (r2.ps ++ (rps k2 ++ rps k))) = A ++ z :: B := by
      rw [← hA, ← H2.ord, e1, e2]; simp [lps, rps, Sh.ps]
    have hnd : (A ++ z :: B).Nodup := by rw [← hA, ← H.ord]; exact H.z.nd
    have k1 : ∀ {L R : List Nat}, (L ++ z :: R).Nodup → (L ++ z :: R).filter (fun j => j != z) = L ++ R := by
      intro L R hLR
      have hh := nd_n hLR
      rw [List.filter_append, List.filter_cons, List.filter_eq_self.2 (fun j hj => by simp; rintro rfl; exact hh.2.2.1 hj), List.filter_eq_self.2 (fun j hj => by simp; rintro rfl; exact hh.2.2.2.1 hj)]
      simp
    rw [← k1 hnd, ← g1, k1 (by rw [g1]; exact hnd)]
    simp [lps, rps]
  have hux : ((S.hang y x).N x).u = u2 := by
    rcases rep_place hz1.rt with ⟨a, b⟩ | ⟨_, _, a⟩
    · rw [a]; rw [a] at he1; exact he1 b
    · exact a
  refine ⟨⟨hux, hul, hxl, hyl, hy0, Ne.symm hyK.1.2.2⟩, ck3, ?_, ?_⟩
  · rintro rfl
    obtain ⟨h', rfl, b1, b2⟩ := H2.rb
    exact ⟨h', k2 ++ ⟨true, c, y, l⟩ :: k, hz7, he7, rbx_of b2, rbc_re H2.c, ks_refl ck3.ok, rfl, hord⟩
  · rintro rfl
    obtain ⟨b1, b2, b3, b4⟩ := H2.rb
    obtain rfl : h2 = 0 := b1
    obtain rfl := rb_e b2 b4
    exact wt_of hz7 rfl (rbc_re H2.c) (fun _ => rfl) (fun _ => rfl) hord
end Go.Proofs.YtlcaepcojglbiaaGreatDoor.Tp
