/- The queue: its reading: a part of the walk of the whole machine. For all states that the readings allow. -/
import Derived.Test.YtlcaepcojglbiaaGreatDoorMg
import Derived.Test.YtlcaepcojglbiaaGreatDoorMh
namespace Go.Proofs.YtlcaepcojglbiaaGreatDoor.Tp
open Go.RowKit
set_option linter.unusedVariables false
set_option linter.unusedSimpArgs false
/-! Worlds in which only some blocks, and what is new, have changed. -/
structure GF (F : Nat → Prop) (W W' : World) : Prop where
  os : W'.os = W.os
  tape : W'.tape = W.tape
  output : W'.output = W.output
  size : W.heap.size ≤ W'.heap.size
  block : ∀ i, i < W.heap.size → ¬ F i → W'.heap[i]? = W.heap[i]?
theorem gf_refl (F : Nat → Prop) (w : World) : GF F w w := ⟨rfl, rfl, rfl, Nat.le_refl _, fun _ _ _ => rfl⟩
theorem gf_trans {F : Nat → Prop} {x y z : World} (h : GF F x y) (k : GF F y z) : GF F x z :=
  ⟨k.os.trans h.os, k.tape.trans h.tape, k.output.trans h.output, Nat.le_trans h.size k.size, fun i hi h1 => (k.block i (Nat.lt_of_lt_of_le hi h.size) h1).trans (h.block i hi h1)⟩
theorem gf_mono {F G : Nat → Prop} {x y : World} (h : GF F x y) (hs : ∀ i, F i → G i) : GF G x y := ⟨h.os, h.tape, h.output, h.size, fun i hi h1 => h.block i hi fun e => h1 (hs i e)⟩
theorem gf_g2 {F : Nat → Prop} {b r : Nat} {x y : World} (h : G2 b r x y) (hb : F b) (hr : F r) : GF F x y := ⟨h.os, h.tape, h.output, h.size, fun i hi h1 => h.block i hi (fun e => h1 (e ▸ hb)) fun e => h1 (e ▸ hr)⟩
theorem gf_below {F : Nat → Prop} {x y : World} (h : Below x.heap.size x y) : GF F x y := ⟨h.os, h.tape, h.output, h.size, fun i hi _ => h.block i hi⟩
theorem gf_drewN {F : Nat → Prop} {x y : World} (h : GF F x y) (n : Nat) : GF F x (y.drewN n) := ⟨h.os, h.tape, h.output, h.size, h.block⟩
theorem gf_drew {F : Nat → Prop} {x y : World} (h : GF F x y) : GF F x y.drew := ⟨h.os, h.tape, h.output, h.size, h.block⟩
theorem gf_alloc {F : Nat → Prop} {x y : World} (h : GF F x y) (o : Obj) : GF F x (y.alloc o) :=
  ⟨h.os, h.tape, h.output, Nat.le_trans h.size (by simp), fun i hi h1 => (Below.heap_alloc y o i (Nat.lt_of_lt_of_le hi h.size)).trans (h.block i hi h1)⟩
theorem gf_set {F : Nat → Prop} {x y : World} (h : GF F x y) {p : Addr} (hp : F p.block ∨ x.heap.size ≤ p.block) (u : Value) : GF F x (y.setCell p u) :=
  ⟨h.os, h.tape, h.output, by simpa [World.setCell] using h.size, fun i hi h1 => (Below.heap_setCell y p u i (by
    rintro rfl
    rcases hp with hp | hp
    · exact h1 hp
    · omega)).trans (h.block i hi h1)⟩
/-- Nothing but what is new. -/
theorem below_gf {x y : World} (h : GF (fun _ => False) x y) : Below x.heap.size x y := ⟨h.os, h.tape, h.output, h.size, fun i hi => h.block i hi id⟩
/-! Timers, and queues of them. -/
structure Tm where
  id : Int
  clock : Int
  soft : Int
  hard : Int
  lazy : Bool
deriving DecidableEq
def i64 (x : Int) : Prop := -9223372036854775808 ≤ x ∧ x ≤ 9223372036854775807
structure Tm.wf (t : Tm) : Prop where
  id : i64 t.id
  clock : i64 t.clock
  soft : i64 t.soft
  hard : i64 t.hard
def tmc (t : Tm) : List Value := [.int .i64 t.id, .int .i64 t.clock, .int .i64 t.soft, .int .i64 t.hard, .bool t.lazy]
abbrev tmv (t : Tm) : Value := .agg #[.int .i64 t.id, .int .i64 t.clock, .int .i64 t.soft, .int .i64 t.hard, .bool t.lazy]
def tm0 : Tm := ⟨0, 0, 0, 0, false⟩
/-- An entry: a timer, its place, its turn. -/
structure Ent where
  t : Tm
  p : Int
  u : Int
abbrev entv (e : Ent) : Value := .agg #[.int .i64 e.t.id, .int .i64 e.t.clock, .int .i64 e.t.soft, .int .i64 e.t.hard, .bool e.t.lazy, .int .i64 e.p, .int .i64 e.u]
structure QA where
  q : Nat
  tp : Nat
  nb : Nat
  mb : Nat
  ms : Nat
def QA.foot (a : QA) (i : Nat) : Prop := i = a.tp ∨ i = a.nb ∨ i = a.mb ∨ i = a.ms
def QA.has (a : QA) (i : Nat) : Prop := i = a.q ∨ a.foot i
/-- What lies behind a queue. -/
structure QX (a : QA) (L : List Tm) (S : TS) (ps fs : List Nat) (m : Nat → Tm) (f1 : Int → Option Ent) (f2 : Int × Int → Option Int) (W : World) : Prop where
  tr : TR a.tp a.nb S W
  ti : TI S ps fs
  l : L = ps.map m
  key : ∀ p ∈ ps, (S.N p).t = clampv (m p).soft
  wf : ∀ p ∈ ps, (m p).wf
  v1 : MV 3 ki entv a.mb ps.length f1 W
  v2 : MV 171 kh ki a.ms ps.length f2 W
  g1 : ∀ id e, f1 id = some e ↔ ∃ p ∈ ps, e = ⟨m p, p, (S.N p).turn⟩ ∧ (m p).id = id
  g2 : ∀ h id, f2 h = some id ↔ ∃ p ∈ ps, h = ((p : Int), (S.N p).turn) ∧ (m p).id = id
  nd : (ps.map fun p => (m p).id).Nodup
structure QR (a : QA) (L : List Tm) (W : World) : Prop where
  c0 : W.cell? ⟨a.q, 0, none⟩ = some (ptr a.tp)
  c1 : W.cell? ⟨a.q, 1, none⟩ = some (.map (some a.mb))
  c2 : W.cell? ⟨a.q, 2, none⟩ = some (.map (some a.ms))
  lt : a.q < W.heap.size
  nq : ¬ a.foot a.q
  nt : a.mb ≠ a.tp ∧ a.mb ≠ a.nb ∧ a.ms ≠ a.tp ∧ a.ms ≠ a.nb ∧ a.mb ≠ a.ms
  x : ∃ S ps fs m f1 f2, QX a L S ps fs m f1 f2 W
theorem qx_same {a : QA} {L : List Tm} {S : TS} {ps fs : List Nat} {m : Nat → Tm} {f1 : Int → Option Ent} {f2 : Int × Int → Option Int} {W W' : World} (h : QX a L S ps fs m f1 f2 W) (hs : W.heap.size ≤ W'.heap.size) (hb : ∀ i, a.foot i → W'.heap[i]? = W.heap[i]?) : QX a L S ps fs m f1 f2 W' :=
  ⟨tr_same h.tr hs (hb _ (.inl rfl)) (hb _ (.inr (.inl rfl))), h.ti, h.l, h.key, h.wf, mv_same h.v1 (hb _ (.inr (.inr (.inl rfl)))), mv_same h.v2 (hb _ (.inr (.inr (.inr rfl)))), h.g1, h.g2, h.nd⟩
theorem qr_same {a : QA} {L : List Tm} {W W' : World} (h : QR a L W) (hs : W.heap.size ≤ W'.heap.size) (hb : ∀ i, a.has i → W'.heap[i]? = W.heap[i]?) : QR a L W' := by
  obtain ⟨S, ps, fs, m, f1, f2, hx⟩ := h.x
  have C : ∀ o, W'.cell? ⟨a.q, o, none⟩ = W.cell? ⟨a.q, o, none⟩ := fun o => World.cell?_of_block (a := ⟨a.q, o, none⟩) (hb _ (.inl rfl))
  exact ⟨(C 0).trans h.c0, (C 1).trans h.c1, (C 2).trans h.c2, Nat.lt_of_lt_of_le h.lt hs, h.nq, h.nt, S, ps, fs, m, f1, f2, qx_same hx hs fun i hi => hb i (.inr hi)⟩
theorem qr_lt {a : QA} {L : List Tm} {W : World} (h : QR a L W) : ∀ i, a.has i → i < W.heap.size := by
  obtain ⟨S, ps, fs, m, f1, f2, hx⟩ := h.x
  rintro i (rfl | rfl | rfl | rfl | rfl)
  · exact h.lt
  · exact hx.tr.lt.1
  · exact hx.tr.lt.2
  · exact mv_lt hx.v1
  · exact mv_lt hx.v2
theorem qr_gf {a : QA} {L : List Tm} {F : Nat → Prop} {W W' : World} (h : QR a L W) (g : GF F W W') (hd : ∀ i, a.has i → ¬ F i) : QR a L W' :=
  qr_same h g.size fun i hi => g.block i (qr_lt h i hi) (hd i hi)
theorem qr_below {a : QA} {L : List Tm} {W W' : World} (h : QR a L W) (g : Below W.heap.size W W') : QR a L W' :=
  qr_same h g.size fun i hi => g.block i (qr_lt h i hi)
end Go.Proofs.YtlcaepcojglbiaaGreatDoor.Tp
namespace Go.Proofs.YtlcaepcojglbiaaGreatDoor.Tp
open Go.RowKit
set_option linter.unusedVariables false
set_option linter.unusedSimpArgs false
/-! What a queue does, over lists. -/
def hasId (id : Int) (L : List Tm) : Bool := L.any fun t => t.id == id
def qins (t : Tm) (L : List Tm) : List Tm := L.filter (fun x => decide (clampv x.soft ≤ clampv t.soft)) ++ t :: L.filter (fun x => !decide (clampv x.soft ≤ clampv t.soft))
def qdel (id : Int) (L : List Tm) : List Tm := L.filter fun t => !(t.id == id)
theorem hasId_iff {id : Int} {L : List Tm} : hasId id L = true ↔ ∃ t ∈ L, t.id = id := by simp [hasId]
theorem hasId_no {id : Int} {L : List Tm} (h : hasId id L = false) : ∀ t ∈ L, t.id ≠ id := by
  intro t ht e
  have : hasId id L = true := hasId_iff.2 ⟨t, ht, e⟩
  rw [h] at this; cases this
section
variable {a : QA} {L : List Tm} {S : TS} {ps fs : List Nat} {m : Nat → Tm} {f1 : Int → Option Ent} {f2 : Int × Int → Option Int} {W W' : World}
theorem qx_f1 (h : QX a L S ps fs m f1 f2 W) (id : Int) : (f1 id = none ∧ hasId id L = false) ∨ ∃ p ∈ ps, (m p).id = id ∧ f1 id = some ⟨m p, p, (S.N p).turn⟩ ∧ hasId id L = true := by
  cases hf : f1 id with
  | none =>
    refine .inl ⟨rfl, ?_⟩
    cases hh : hasId id L with
    | false => rfl
    | true =>
      obtain ⟨t, ht, e⟩ := hasId_iff.1 hh
      rw [h.l] at ht
      obtain ⟨p, hp, rfl⟩ := List.mem_map.1 ht
      have := (h.g1 id ⟨m p, p, (S.N p).turn⟩).2 ⟨p, hp, rfl, e⟩
      rw [hf] at this; cases this
  | some e =>
    obtain ⟨p, hp, rfl, hid⟩ := (h.g1 id e).1 hf
    refine .inr ⟨p, hp, hid, rfl, ?_⟩
    rw [hasId_iff, h.l]
    exact ⟨m p, List.mem_map.2 ⟨p, hp, rfl⟩, hid⟩
theorem qx_f2 (h : QX a L S ps fs m f1 f2 W) {p : Nat} (hp : p ∈ ps) : f2 ((p : Int), (S.N p).turn) = some (m p).id := (h.g2 _ _).2 ⟨p, hp, rfl, rfl⟩
theorem qx_f2n (h : QX a L S ps fs m f1 f2 W) {x : Nat} {u : Int} (hx : x ∉ ps) : f2 ((x : Int), u) = none := by
  cases hf : f2 ((x : Int), u) with
  | none => rfl
  | some id =>
    obtain ⟨p, hp, e, _⟩ := (h.g2 _ _).1 hf
    simp at e
    have := e.1
    exact absurd (by rw [show x = p by omega]; exact hp) hx
theorem qx_inj (h : QX a L S ps fs m f1 f2 W) {p q : Nat} (hp : p ∈ ps) (hq : q ∈ ps) (e : (m p).id = (m q).id) : p = q := by
  have h1 := (h.g1 (m p).id _).2 ⟨p, hp, rfl, rfl⟩
  have h2 := (h.g1 (m p).id _).2 ⟨q, hq, rfl, e.symm⟩
  rw [h1] at h2
  simp at h2
  omega
theorem kt {a b : Nd} (e : a.key = b.key) : a.t = b.t ∧ a.q = b.q ∧ a.taken = b.taken ∧ a.turn = b.turn := by
  simp only [Nd.key, Prod.mk.injEq] at e; exact e
theorem qx_add (h : QX a L S ps fs m f1 f2 W) (t : Tm) (hw : t.wf) (hid : hasId t.id L = false) {x : Nat} {S' : TS} {A B fs' : List Nat} (hAB : A ++ B = ps) (hlo : ∀ p ∈ A, (S.N p).t ≤ clampv t.soft) (hhi : ∀ p ∈ B, clampv t.soft < (S.N p).t)
    (ti' : TI S' (A ++ x :: B) fs') (hxT : (S'.N x).t = clampv t.soft) (hx : x ∉ ps) (hk : ∀ j, j ≠ x → (S'.N j).key = (S.N j).key) (tr' : TR a.tp a.nb S' W')
    (v1' : MV 3 ki entv a.mb (if (f1 t.id).isSome then ps.length else ps.length + 1) (fun j => if j = t.id then some ⟨t, x, (S'.N x).turn⟩ else f1 j) W')
    (v2' : MV 171 kh ki a.ms (if (f2 ((x : Int), (S'.N x).turn)).isSome then ps.length else ps.length + 1) (fun j => if j = ((x : Int), (S'.N x).turn) then some t.id else f2 j) W') :
    QX a (qins t L) S' (A ++ x :: B) fs' (fun p => if p = x then t else m p) (fun j => if j = t.id then some ⟨t, x, (S'.N x).turn⟩ else f1 j) (fun j => if j = ((x : Int), (S'.N x).turn) then some t.id else f2 j) W' := by
  have hf1 : f1 t.id = none := by
    rcases qx_f1 h t.id with ⟨e, _⟩ | ⟨_, _, _, _, e⟩
    · exact e
    · rw [hid] at e; cases e
  have hf2 := qx_f2n h (u := (S'.N x).turn) hx
  rw [hf1] at v1'
  rw [hf2] at v2'
  have hm : ∀ p ∈ ps, p ≠ x := fun p hp e => hx (e ▸ hp)
  have hA : ∀ p ∈ A, p ∈ ps := fun p hp => by rw [← hAB]; simp [hp]
  have hB : ∀ p ∈ B, p ∈ ps := fun p hp => by rw [← hAB]; simp [hp]
  have hmem : ∀ p, p ∈ A ++ x :: B ↔ p = x ∨ p ∈ ps := fun p => by rw [← hAB]; simp; constructor <;> rintro (e | e | e) <;> simp [e]
  have hlen : (A ++ x :: B).length = ps.length + 1 := by rw [← hAB]; simp; omega
  have hmA : ∀ L : List Nat, (∀ p ∈ L, p ∈ ps) → L.map (fun p => if p = x then t else m p) = L.map m := fun L hL => List.map_congr_left fun p hp => by rw [if_neg (hm p (hL p hp))]
  refine ⟨tr', ti', ?_, ?_, ?_, ?_, ?_, ?_, ?_, ?_⟩
  · unfold qins
    rw [h.l, ← hAB]
    simp only [List.map_append, List.map_cons, List.filter_append, if_pos]
    rw [hmA A hA, hmA B hB]
    have f1 : (A.map m).filter (fun x => decide (clampv x.soft ≤ clampv t.soft)) = A.map m := List.filter_eq_self.2 fun y hy => by
      obtain ⟨p, hp, rfl⟩ := List.mem_map.1 hy
      have := hlo p hp
      rw [h.key p (hA p hp)] at this
      simpa using this
    have f2 : (B.map m).filter (fun x => decide (clampv x.soft ≤ clampv t.soft)) = [] := List.filter_eq_nil_iff.2 fun y hy => by
      obtain ⟨p, hp, rfl⟩ := List.mem_map.1 hy
      have := hhi p hp
      rw [h.key p (hB p hp)] at this
      simp; omega
    have f3 : (A.map m).filter (fun x => !decide (clampv x.soft ≤ clampv t.soft)) = [] := List.filter_eq_nil_iff.2 fun y hy => by
      obtain ⟨p, hp, rfl⟩ := List.mem_map.1 hy
      have := hlo p hp
      rw [h.key p (hA p hp)] at this
      simp; omega
    have f4 : (B.map m).filter (fun x => !decide (clampv x.soft ≤ clampv t.soft)) = B.map m := List.filter_eq_self.2 fun y hy => by
      obtain ⟨p, hp, rfl⟩ := List.mem_map.1 hy
      have := hhi p hp
      rw [h.key p (hB p hp)] at this
      simp; omega
    rw [f1, f2, f3, f4]
    simp
  · intro p hp
    rcases (hmem p).1 hp with rfl | hp
    · rw [if_pos rfl]; exact hxT
    · rw [if_neg (hm p hp), (kt (hk p (hm p hp))).1]; exact h.key p hp
  · intro p hp
    rcases (hmem p).1 hp with rfl | hp
    · rw [if_pos rfl]; exact hw
    · rw [if_neg (hm p hp)]; exact h.wf p hp
  · rw [hlen]; exact v1'
  · rw [hlen]; exact v2'
  · intro id e
    by_cases hi : id = t.id
    · subst hi
      rw [if_pos rfl]
      constructor
      · intro q; cases q
        exact ⟨x, by simp, by rw [if_pos rfl], by rw [if_pos rfl]⟩
      · rintro ⟨p, hp, rfl, hpi⟩
        rcases (hmem p).1 hp with rfl | hp
        · rw [if_pos rfl]
        · rw [if_neg (hm p hp)] at hpi
          exact absurd hpi (hasId_no hid (m p) (by rw [h.l]; exact List.mem_map.2 ⟨p, hp, rfl⟩))
    · rw [if_neg hi, h.g1]
      constructor
      · rintro ⟨p, hp, rfl, hpi⟩
        exact ⟨p, (hmem p).2 (.inr hp), by rw [if_neg (hm p hp), (kt (hk p (hm p hp))).2.2.2], by rw [if_neg (hm p hp)]; exact hpi⟩
      · rintro ⟨p, hp, rfl, hpi⟩
        rcases (hmem p).1 hp with rfl | hp
        · rw [if_pos rfl] at hpi; exact absurd hpi.symm hi
        · rw [if_neg (hm p hp)] at hpi ⊢
          exact ⟨p, hp, by rw [(kt (hk p (hm p hp))).2.2.2], hpi⟩
  · intro q id
    by_cases hi : q = ((x : Int), (S'.N x).turn)
    · rw [if_pos hi]
      constructor
      · intro e; cases e
        exact ⟨x, by simp, hi, by rw [if_pos rfl]⟩
      · rintro ⟨p, hp, e, hpi⟩
        have hpx : p = x := by rw [hi] at e; simp at e; omega
        subst hpx
        rw [if_pos rfl] at hpi
        rw [hpi]
    · rw [if_neg hi, h.g2]
      constructor
      · rintro ⟨p, hp, e, hpi⟩
        exact ⟨p, (hmem p).2 (.inr hp), by rw [e, (kt (hk p (hm p hp))).2.2.2], by rw [if_neg (hm p hp)]; exact hpi⟩
      · rintro ⟨p, hp, e, hpi⟩
        rcases (hmem p).1 hp with rfl | hp
        · exact absurd e hi
        · rw [if_neg (hm p hp)] at hpi
          exact ⟨p, hp, by rw [e, (kt (hk p (hm p hp))).2.2.2], hpi⟩
  · have hn := h.nd
    rw [← hAB] at hn
    have hg : ∀ L : List Nat, (∀ p ∈ L, p ∈ ps) → L.map (fun p => (if p = x then t else m p).id) = L.map (fun p => (m p).id) := fun L hL => List.map_congr_left fun p hp => by rw [if_neg (hm p (hL p hp))]
    rw [List.map_append, List.map_cons, if_pos rfl, hg A hA, hg B hB]
    rw [List.map_append] at hn
    have hn2 := List.nodup_append.1 hn
    have hno : ∀ p ∈ ps, (m p).id ≠ t.id := fun p hp => hasId_no hid (m p) (by rw [h.l]; exact List.mem_map.2 ⟨p, hp, rfl⟩)
    refine List.nodup_append.2 ⟨hn2.1, List.nodup_cons.2 ⟨fun e => ?_, hn2.2.1⟩, fun y hy z hz e => ?_⟩
    · obtain ⟨p, hp, e⟩ := List.mem_map.1 e
      exact hno p (hB p hp) e
    · rcases List.mem_cons.1 hz with rfl | hz
      · obtain ⟨p, hp, e2⟩ := List.mem_map.1 hy
        exact hno p (hA p hp) (e2.trans e)
      · exact hn2.2.2 y hy z hz e
theorem qx_split (h : QX a L S ps fs m f1 f2 W) {A B : List Nat} {z : Nat} (hA : ps = A ++ z :: B) : qdel (m z).id L = (A ++ B).map m := by
  have hz : z ∈ ps := by rw [hA]; simp
  have hnd := (nd2 h.ti.nd).1
  rw [hA] at hnd
  have n1 := nd_n hnd
  unfold qdel
  rw [h.l, hA, List.map_append, List.map_cons, List.filter_append, List.filter_cons]
  have e1 : ∀ L : List Nat, (∀ p ∈ L, p ∈ ps ∧ p ≠ z) → (L.map m).filter (fun t => !(t.id == (m z).id)) = L.map m := fun L hL => List.filter_eq_self.2 fun y hy => by
    obtain ⟨p, hp, rfl⟩ := List.mem_map.1 hy
    have := hL p hp
    simp
    exact fun e => this.2 (qx_inj h this.1 hz e)
  rw [e1 A fun p hp => ⟨by rw [hA]; simp [hp], fun e => n1.2.2.1 (e ▸ hp)⟩, e1 B fun p hp => ⟨by rw [hA]; simp [hp], fun e => n1.2.2.2.1 (e ▸ hp)⟩]
  simp
theorem qx_del (h : QX a L S ps fs m f1 f2 W) {A B fs' : List Nat} {z : Nat} {S' : TS} (hA : ps = A ++ z :: B) (ti' : TI S' (A ++ B) fs') (hk : ∀ j ∈ A ++ B, (S'.N j).key = (S.N j).key) (tr' : TR a.tp a.nb S' W')
    (v1' : MV 3 ki entv a.mb (if (f1 (m z).id).isSome then ps.length - 1 else ps.length) (fun j => if j = (m z).id then none else f1 j) W')
    (v2' : MV 171 kh ki a.ms (if (f2 ((z : Int), (S.N z).turn)).isSome then ps.length - 1 else ps.length) (fun j => if j = ((z : Int), (S.N z).turn) then none else f2 j) W') :
    QX a (qdel (m z).id L) S' (A ++ B) fs' m (fun j => if j = (m z).id then none else f1 j) (fun j => if j = ((z : Int), (S.N z).turn) then none else f2 j) W' := by
  have hz : z ∈ ps := by rw [hA]; simp
  have hf1 : f1 (m z).id = some ⟨m z, z, (S.N z).turn⟩ := (h.g1 _ _).2 ⟨z, hz, rfl, rfl⟩
  rw [hf1] at v1'
  rw [qx_f2 h hz] at v2'
  have hlen : (A ++ B).length = ps.length - 1 := by rw [hA]; simp
  have hnd := (nd2 h.ti.nd).1
  rw [hA] at hnd
  have n1 := nd_n hnd
  have hm : ∀ p ∈ A ++ B, p ∈ ps ∧ p ≠ z := fun p hp => by
    rw [hA]
    rcases List.mem_append.1 hp with hp | hp
    · exact ⟨by simp [hp], fun e => n1.2.2.1 (e ▸ hp)⟩
    · exact ⟨by simp [hp], fun e => n1.2.2.2.1 (e ▸ hp)⟩
  have hback : ∀ p ∈ ps, p ≠ z → p ∈ A ++ B := fun p hp hne => by
    rw [hA] at hp; simp at hp ⊢
    rcases hp with hp | hp | hp
    · exact .inl hp
    · exact absurd hp hne
    · exact .inr hp
  refine ⟨tr', ti', qx_split h hA, ?_, ?_, ?_, ?_, ?_, ?_, ?_⟩
  · intro p hp
    rw [(kt (hk p hp)).1]; exact h.key p (hm p hp).1
  · exact fun p hp => h.wf p (hm p hp).1
  · rw [hlen]; exact v1'
  · rw [hlen]; exact v2'
  · intro id e
    by_cases hi : id = (m z).id
    · subst hi
      rw [if_pos rfl]
      refine ⟨fun q => (by cases q), ?_⟩
      rintro ⟨p, hp, _, hpi⟩
      exact absurd (qx_inj h (hm p hp).1 hz hpi) (hm p hp).2
    · rw [if_neg hi, h.g1]
      constructor
      · rintro ⟨p, hp, rfl, hpi⟩
        have hpz : p ≠ z := fun e => hi (by rw [← hpi, e])
        have hp' := hback p hp hpz
        exact ⟨p, hp', by rw [(kt (hk p hp')).2.2.2], hpi⟩
      · rintro ⟨p, hp, rfl, hpi⟩
        exact ⟨p, (hm p hp).1, by rw [(kt (hk p hp)).2.2.2], hpi⟩
  · intro q id
    by_cases hi : q = ((z : Int), (S.N z).turn)
    · rw [if_pos hi]
      refine ⟨fun q => (by cases q), ?_⟩
      rintro ⟨p, hp, e, _⟩
      rw [hi] at e
      simp at e
      exact absurd (show p = z by omega) (hm p hp).2
    · rw [if_neg hi, h.g2]
      constructor
      · rintro ⟨p, hp, e, hpi⟩
        have hpz : p ≠ z := fun e2 => hi (by rw [e, e2])
        have hp' := hback p hp hpz
        exact ⟨p, hp', by rw [e, (kt (hk p hp')).2.2.2], hpi⟩
      · rintro ⟨p, hp, e, hpi⟩
        exact ⟨p, (hm p hp).1, by rw [e, (kt (hk p hp)).2.2.2], hpi⟩
  · have hn := h.nd
    rw [hA] at hn
    exact hn.sublist (by simp)
end
end Go.Proofs.YtlcaepcojglbiaaGreatDoor.Tp
namespace Go.Proofs.YtlcaepcojglbiaaGreatDoor.Tp
open Go.RowKit
set_option linter.unusedVariables false
set_option linter.unusedSimpArgs false
theorem zero177 (w : World) : (zeroValue 177).run Tryz.prog w = .ok (entv ⟨tm0, 0, 0⟩) w := by kernel_rfl
theorem zero3 (w : World) : (zeroValue 3).run Tryz.prog w = .ok (.int .i64 0) w := by kernel_rfl
set_option maxRecDepth 100000 in
set_option maxHeartbeats 4000000 in
theorem qhas_at {a : QA} {L : List Tm} (id : Int) (W : World) (h : QR a L W) (hid : i64 id) : Calls Tryz.prog 95 #[ptr a.q, .int .i64 id] W fun e W' => e = .returned (.bool (hasId id L)) ∧ Below W.heap.size W W' := by
  obtain ⟨S, ps, fs, m, f1, f2, hx⟩ := h.x
  have HLK : Hid (∃ e : Ent, look (entv ⟨tm0, 0, 0⟩) true entv (f1 id) = .tuple #[entv e, .bool (hasId id L)]) := by
    rcases qx_f1 hx id with ⟨e1, e2⟩ | ⟨p, hp, _, e1, e2⟩
    · rw [e1, e2]; exact Lib.hid ⟨_, rfl⟩
    · rw [e1, e2]; exact Lib.hid ⟨_, rfl⟩
  have HV := Lib.hid hx.v1
  have HK := Lib.hid (ki_key hid)
  have c1 := h.c1
  obtain ⟨hb, hhb⟩ : ∃ hb, hasId id L = hb := ⟨_, rfl⟩
  rw [hhb] at HLK ⊢
  obtain ⟨⟨⟨i0, k0, s0, h0, l0⟩, p0, u0⟩, hl⟩ := HLK.out
  have HL := Lib.hid hl
  clear h hx hl hhb HLK hid
  go_enter Tryz.func95, Tryz.ntmps95
  go_wp2_with (first
    | (at_lookup; refine wpList_look_mv _ rfl _ _ 144 true rfl keyed3 Tryz.underlying144 (zero177 _) ki_inj HV.out id HK.out rfl rfl _ HL.out ?_)
    | fail)
  go_ret
  exact ⟨rfl, (Below.refl W.heap.size W).alloc (Nat.le_refl _) _⟩
end Go.Proofs.YtlcaepcojglbiaaGreatDoor.Tp
namespace Go.Proofs.YtlcaepcojglbiaaGreatDoor.Tp
open Go.RowKit
set_option linter.unusedVariables false
set_option linter.unusedSimpArgs false
theorem set5 {W : World} {g t : Nat} {x0 x1 x2 x3 x4 : Value} (h : W.heap[g]? = some (.cells #[x0, x1, x2, x3, x4] t)) (a b c d e : Value) : (((((W.setCell ⟨g, 0, none⟩ a).setCell ⟨g, 1, none⟩ b).setCell ⟨g, 2, none⟩ c).setCell ⟨g, 3, none⟩ d).setCell ⟨g, 4, none⟩ e).heap[g]? = some (.cells #[a, b, c, d, e] t) :=
  heap_setCell_same _ g 4 _ _ e (heap_setCell_same _ g 3 _ _ d (heap_setCell_same _ g 2 _ _ c (heap_setCell_same _ g 1 _ _ b (heap_setCell_same _ g 0 _ _ a h))))
theorem cells5 {W : World} {g t : Nat} {x0 x1 x2 x3 x4 : Value} (h : W.heap[g]? = some (.cells #[x0, x1, x2, x3, x4] t)) : (W.cell? ⟨g, 0, none⟩ = some x0 ∧ W.frozen? ⟨g, 0, none⟩ = false) ∧ (W.cell? ⟨g, 1, none⟩ = some x1 ∧ W.frozen? ⟨g, 1, none⟩ = false) ∧ (W.cell? ⟨g, 2, none⟩ = some x2 ∧ W.frozen? ⟨g, 2, none⟩ = false) ∧ (W.cell? ⟨g, 3, none⟩ = some x3 ∧ W.frozen? ⟨g, 3, none⟩ = false) ∧ (W.cell? ⟨g, 4, none⟩ = some x4 ∧ W.frozen? ⟨g, 4, none⟩ = false) :=
  ⟨cell_of h 0 _ rfl, cell_of h 1 _ rfl, cell_of h 2 _ rfl, cell_of h 3 _ rfl, cell_of h 4 _ rfl⟩
theorem cells2 {W : World} {g t : Nat} {x0 x1 : Value} (h : W.heap[g]? = some (.cells #[x0, x1] t)) : (W.cell? ⟨g, 0, none⟩ = some x0 ∧ W.frozen? ⟨g, 0, none⟩ = false) ∧ (W.cell? ⟨g, 1, none⟩ = some x1 ∧ W.frozen? ⟨g, 1, none⟩ = false) :=
  ⟨cell_of h 0 _ rfl, cell_of h 1 _ rfl⟩
theorem below_set5 {B : Nat} {w W : World} (h : Below B w W) {g : Nat} (hg : B ≤ g) (a b c d e : Value) : Below B w (((((W.setCell ⟨g, 0, none⟩ a).setCell ⟨g, 1, none⟩ b).setCell ⟨g, 2, none⟩ c).setCell ⟨g, 3, none⟩ d).setCell ⟨g, 4, none⟩ e) :=
  below_set (below_set (below_set (below_set (below_set h hg a) hg b) hg c) hg d) hg e
/-- In a still region: a look-up in a map. -/
theorem wpStill_look {P : Program} {ops : Array Oper} {w : World} {Q : Act → Prop} {a : Act} {o : Oper} {rest : List Oper} (hgd : o.guard = none) (t : TypeId) (m x : Operand) (c : Bool) (ho : o.op = .lookup t m x c)
    (vm vx v : Value) (hm : a.eval m = vm) (hx : a.eval x = vx) (hl : (Instr.lookup t vm vx c).run P w = .ok v w)
    (h : wpStill P ops w Q rest (a.put o.dst v)) : wpStill P ops w Q (o :: rest) a := by
  have hw : Region.wanted o (yielded ops a.tmps) = true := by unfold Region.wanted; rw [hgd]
  unfold wpStill
  rw [if_pos hw]
  unfold Oper.still
  have hr : (execOp a.eval o).run P w = .ok (.value v) w := by
    unfold execOp
    simp only [ho, hm, hx, Sem.run_bind, hl, Sem.run_pure, Result.andThen_ok]
  rw [hr]
  exact ⟨rfl, h⟩
theorem wpStill_field {P : Program} {ops : Array Oper} {w : World} {Q : Act → Prop} {a : Act} {o : Oper} {rest : List Oper} (hgd : o.guard = none) (t : TypeId) (x : Operand) (n : Nat) (ho : o.op = .field t x n)
    (vx v : Value) (hx : a.eval x = vx) (hl : (Instr.field t vx n).run P w = .ok v w)
    (h : wpStill P ops w Q rest (a.put o.dst v)) : wpStill P ops w Q (o :: rest) a := by
  have hw : Region.wanted o (yielded ops a.tmps) = true := by unfold Region.wanted; rw [hgd]
  unfold wpStill
  rw [if_pos hw]
  unfold Oper.still
  have hr : (execOp a.eval o).run P w = .ok (.value v) w := by
    unfold execOp
    simp only [ho, hx, Sem.run_bind, hl, Sem.run_pure, Result.andThen_ok]
  rw [hr]
  exact ⟨rfl, h⟩
theorem run_field177 (c0 c1 c2 c3 c4 c5 c6 : Value) (w : World) : (Instr.field 177 (.agg #[c0, c1, c2, c3, c4, c5, c6]) 0).run Tryz.prog w = .ok (.agg #[c0, c1, c2, c3, c4]) w := by
  simp [Instr.field, run_underlying Tryz.underlying177, part, asAgg, Tryz.isAgg31, Tryz.sizeOf31, Result.andThen]
end Go.Proofs.YtlcaepcojglbiaaGreatDoor.Tp
