/- The engine: its reading, its looks and its firing: a part of the walk of the whole machine. For all states that the readings allow. -/
import Derived.Test.YtlcaepcojglbiaaGreatDoorMn
import Derived.Test.YtlcaepcojglbiaaGreatDoorMo
import Derived.Test.YtlcaepcojglbiaaGreatDoorMq
import Derived.Test.YtlcaepcojglbiaaGreatDoorMp
import Derived.Test.YtlcaepcojglbiaaGreatDoorMh
import Derived.Test.YtlcaepcojglbiaaGreatDoorMm
namespace Go.Proofs.YtlcaepcojglbiaaGreatDoor.Tp
open Go.RowKit
set_option linter.unusedVariables false
set_option linter.unusedSimpArgs false
/-! The engine: addresses, the mirror, the relation. -/
structure EA where
  e : Nat
  ck : Nat
  lb : Nat
  cap : Nat
  mb : Nat
  cb : Nat → Nat
  db : Nat → Nat
  ba : Nat → BA
  T : Nat → Nat
  o0 : Obj
structure Cp where
  b : Nat → List Tm
  d : Dv
  raised : Bool
  kicked : Bool
structure En where
  K : Ck
  n : Nat
  on : Nat → Bool
  c : Nat → Cp
  wh : Int → Option Nat
  wn : Nat
def EA.has (A : EA) (n : Nat) (x : Nat) : Prop := x = 0 ∨ x = A.e ∨ x = A.ck ∨ x = A.lb ∨ x = A.mb ∨ ∃ i, i < n ∧ (x = A.cb i ∨ x = A.db i ∨ (A.ba i).has x)
/-- Each block has a tag. -/
structure AT (A : EA) (n : Nat) : Prop where
  t0 : A.T 0 = 0
  e : A.T A.e = 1
  ck : A.T A.ck = 2
  lb : A.T A.lb = 3
  mb : A.T A.mb = 4
  cb : ∀ i, i < n → A.T (A.cb i) = 10 + 3 * i
  db : ∀ i, i < n → A.T (A.db i) = 11 + 3 * i
  ba : ∀ i, i < n → ∀ x, (A.ba i).has x → A.T x = 12 + 3 * i
abbrev wv (i : Nat) : Value := .int .i64 (i : Int)
abbrev EA.cells (A : EA) (n m : Nat) : Array Value := #[ptr A.ck, .slice (some ⟨A.lb, 0, none⟩) n A.cap, .int .u32 (m : Nat), .map (some A.mb)]
abbrev EA.cpc (A : EA) (i : Nat) (c : Cp) : Array Value := #[ptr (A.ba i).bb, ptr (A.db i), .bool c.raised, .bool c.kicked]
/-- The library's table lies in block 0, which stays as it is. -/
def ATAB (A : EA) (W : World) : Prop := TAB W ∧ W.heap[0]? = some A.o0
structure ER (A : EA) (E : En) (W : World) : Prop where
  at' : AT A E.n
  n1 : 1 ≤ E.n
  n16 : E.n ≤ 16
  cap : E.n ≤ A.cap
  eb : ∃ m, W.heap[A.e]? = some (.cells (A.cells E.n m) 69) ∧ MK m E.on
  ck : CR A.ck E.K W
  row : ∀ i, i < E.n → W.cell? ⟨A.lb, i, none⟩ = some (ptr (A.cb i))
  lbl : A.lb < W.heap.size
  cp : ∀ i, i < E.n → W.heap[A.cb i]? = some (.cells (A.cpc i (E.c i)) 74)
  br : ∀ i, i < E.n → BR (A.ba i) (E.c i).b W
  dr : ∀ i, i < E.n → DR (A.db i) (E.c i).d W
  mv : MV 3 ki wv A.mb E.wn E.wh W
  tab' : ATAB A W
theorem ER.tab {A : EA} {E : En} {W : World} (h : ER A E W) : TAB W := h.tab'.1
/-- What stays where only blocks of one tag change. -/
structure EK (A : EA) (E : En) (t : Nat) (W : World) : Prop where
  eb : t ≠ 1 → ∃ m, W.heap[A.e]? = some (.cells (A.cells E.n m) 69) ∧ MK m E.on
  ck : t ≠ 2 → CR A.ck E.K W
  row : t ≠ 3 → ∀ i, i < E.n → W.cell? ⟨A.lb, i, none⟩ = some (ptr (A.cb i))
  lbl : A.lb < W.heap.size
  mv : t ≠ 4 → MV 3 ki wv A.mb E.wn E.wh W
  tab : t ≠ 0 → ATAB A W
  cp : ∀ i, i < E.n → t ≠ 10 + 3 * i → W.heap[A.cb i]? = some (.cells (A.cpc i (E.c i)) 74)
  dr : ∀ i, i < E.n → t ≠ 11 + 3 * i → DR (A.db i) (E.c i).d W
  br : ∀ i, i < E.n → t ≠ 12 + 3 * i → BR (A.ba i) (E.c i).b W
section
variable {A : EA} {E : En} {W W' : World}
theorem tab_lt (h : TAB W) : 0 < W.heap.size := by
  have := h 0 (by omega)
  rcases Nat.eq_zero_or_pos W.heap.size with e | e
  · exfalso
    have hn : W.heap[0]? = none := Array.getElem?_eq_none (by omega)
    unfold World.cell? at this
    dsimp only at this
    rw [hn] at this
    cases this
  · exact e
theorem er_lt (h : ER A E W) : ∀ x, A.has E.n x → x < W.heap.size := by
  rintro x (rfl | rfl | rfl | rfl | rfl | ⟨i, hi, rfl | rfl | hx⟩)
  · exact tab_lt h.tab
  · obtain ⟨m, hm, -⟩ := h.eb
    exact (Array.getElem?_eq_some_iff.1 hm).1
  · exact cr_lt h.ck
  · exact h.lbl
  · exact mv_lt h.mv
  · exact (Array.getElem?_eq_some_iff.1 (h.cp i hi)).1
  · exact (h.dr i hi).lt
  · exact br_lt (h.br i hi) x hx
theorem er_keep {t : Nat} (h : ER A E W) (hs : W.heap.size ≤ W'.heap.size) (hb : ∀ x, A.has E.n x → A.T x ≠ t → W'.heap[x]? = W.heap[x]?) : EK A E t W' := by
  have T := h.at'
  refine ⟨fun ht => ?_, fun ht => ?_, fun ht i hi => ?_, Nat.lt_of_lt_of_le h.lbl hs, fun ht => ?_, fun ht => ?_, fun i hi ht => ?_, fun i hi ht => ?_, fun i hi ht => ?_⟩
  · obtain ⟨m, hm, h2⟩ := h.eb
    exact ⟨m, (hb _ (.inr (.inl rfl)) (by rw [T.e]; omega)).trans hm, h2⟩
  · exact (hb _ (.inr (.inr (.inl rfl))) (by rw [T.ck]; omega)).trans h.ck
  · exact (World.cell?_of_block (a := ⟨A.lb, i, none⟩) (hb _ (.inr (.inr (.inr (.inl rfl)))) (by rw [T.lb]; omega))).trans (h.row i hi)
  · exact mv_same h.mv (hb _ (.inr (.inr (.inr (.inr (.inl rfl))))) (by rw [T.mb]; omega))
  · exact ⟨fun k hk => (World.cell?_of_block (a := ⟨0, dbi k, none⟩) (hb _ (.inl rfl) (by rw [T.t0]; omega))).trans (h.tab k hk), (hb _ (.inl rfl) (by rw [T.t0]; omega)).trans h.tab'.2⟩
  · exact (hb _ (.inr (.inr (.inr (.inr (.inr ⟨i, hi, .inl rfl⟩))))) (by rw [T.cb i hi]; omega)).trans (h.cp i hi)
  · exact dr_same (h.dr i hi) hs (hb _ (.inr (.inr (.inr (.inr (.inr ⟨i, hi, .inr (.inl rfl)⟩))))) (by rw [T.db i hi]; omega))
  · exact br_same (h.br i hi) hs fun x hx => hb _ (.inr (.inr (.inr (.inr (.inr ⟨i, hi, .inr (.inr hx)⟩))))) (by rw [T.ba i hi x hx]; omega)
theorem er_same (h : ER A E W) (hs : W.heap.size ≤ W'.heap.size) (hb : ∀ x, A.has E.n x → W'.heap[x]? = W.heap[x]?) : ER A E W' := by
  have k := er_keep (t := 5) h hs fun x hx _ => hb x hx
  exact ⟨h.at', h.n1, h.n16, h.cap, k.eb (by omega), k.ck (by omega), k.row (by omega), k.lbl, fun i hi => k.cp i hi (by omega), fun i hi => k.br i hi (by omega), fun i hi => k.dr i hi (by omega), k.mv (by omega), k.tab (by omega)⟩
/-- Block 0 is as it was. -/
theorem er_zero {E' : En} (h : ER A E W) (h' : ER A E' W') : W'.heap[0]? = W.heap[0]? := h'.tab'.2.trans h.tab'.2.symm
theorem er_below (h : ER A E W) (g : Below W.heap.size W W') : ER A E W' := er_same h g.size fun x hx => g.block x (er_lt h x hx)
theorem er_drew (h : ER A E W) : ER A E W.drew := er_same h (Nat.le_refl _) fun _ _ => rfl
def En.setc (E : En) (i : Nat) (c : Cp) : En := { E with c := fun j => if j = i then c else E.c j }
theorem er_cpu {c : Cp} {i t : Nat} (h : ER A E W) (hi : i < E.n) (hs : W.heap.size ≤ W'.heap.size) (ht : t = 10 + 3 * i ∨ t = 11 + 3 * i ∨ t = 12 + 3 * i) (hb : ∀ x, A.has E.n x → A.T x ≠ t → W'.heap[x]? = W.heap[x]?)
    (hc : W'.heap[A.cb i]? = some (.cells (A.cpc i c) 74)) (hbr : BR (A.ba i) c.b W') (hdr : DR (A.db i) c.d W') : ER A (E.setc i c) W' := by
  have k := er_keep h hs hb
  refine ⟨h.at', h.n1, h.n16, h.cap, k.eb (by omega), k.ck (by omega), k.row (by omega), k.lbl, fun j hj => ?_, fun j hj => ?_, fun j hj => ?_, k.mv (by omega), k.tab (by omega)⟩
  · show W'.heap[A.cb j]? = some (.cells (A.cpc j (if j = i then c else E.c j)) 74)
    by_cases e : j = i
    · rw [if_pos e, e]; exact hc
    · rw [if_neg e]; exact k.cp j hj (by omega)
  · show BR (A.ba j) (if j = i then c else E.c j).b W'
    by_cases e : j = i
    · rw [if_pos e, e]; exact hbr
    · rw [if_neg e]; exact k.br j hj (by omega)
  · show DR (A.db j) (if j = i then c else E.c j).d W'
    by_cases e : j = i
    · rw [if_pos e, e]; exact hdr
    · rw [if_neg e]; exact k.dr j hj (by omega)
/-- A base has changed. -/
theorem er_base {b' : Nat → List Tm} {i : Nat} (h : ER A E W) (hi : i < E.n) (g : GF (A.ba i).has W W') (hbr : BR (A.ba i) b' W') : ER A (E.setc i { E.c i with b := b' }) W' := by
  have hb : ∀ x, A.has E.n x → A.T x ≠ 12 + 3 * i → W'.heap[x]? = W.heap[x]? := fun x hx ht => g.block x (er_lt h x hx) fun e => ht (h.at'.ba i hi x e)
  have k := er_keep h g.size hb
  exact er_cpu h hi g.size (.inr (.inr rfl)) hb (k.cp i hi (by omega)) hbr (k.dr i hi (by omega))
/-- A device has changed. -/
theorem er_dev {d' : Dv} {i : Nat} (h : ER A E W) (hi : i < E.n) (g : G2 (A.db i) (A.db i) W W') (hdr : DR (A.db i) d' W') : ER A (E.setc i { E.c i with d := d' }) W' := by
  have hb : ∀ x, A.has E.n x → A.T x ≠ 11 + 3 * i → W'.heap[x]? = W.heap[x]? := fun x hx ht => g.block x (er_lt h x hx) (fun e => ht (by rw [e]; exact h.at'.db i hi)) (fun e => ht (by rw [e]; exact h.at'.db i hi))
  have k := er_keep h g.size hb
  exact er_cpu h hi g.size (.inr (.inl rfl)) hb (k.cp i hi (by omega)) (k.br i hi (by omega)) hdr
theorem er_set {i o : Nat} {v : Value} (h : ER A E W) (hi : i < E.n) : ∀ x, A.has E.n x → A.T x ≠ 10 + 3 * i → (W.setCell ⟨A.cb i, o, none⟩ v).heap[x]? = W.heap[x]? :=
  fun x hx ht => Below.heap_setCell _ _ _ _ fun e => ht (by rw [e]; exact h.at'.cb i hi)
theorem er_raised {i : Nat} (v : Bool) (h : ER A E W) (hi : i < E.n) : ER A (E.setc i { E.c i with raised := v }) (W.setCell ⟨A.cb i, 2, none⟩ (.bool v)) := by
  have hs : W.heap.size ≤ (W.setCell ⟨A.cb i, 2, none⟩ (.bool v)).heap.size := by rw [size_set]; exact Nat.le_refl _
  have k := er_keep h hs (er_set h hi)
  exact er_cpu h hi hs (.inl rfl) (er_set h hi) (heap_setCell_same W (A.cb i) 2 _ 74 (.bool v) (h.cp i hi)) (k.br i hi (by omega)) (k.dr i hi (by omega))
theorem er_kicked {i : Nat} (v : Bool) (h : ER A E W) (hi : i < E.n) : ER A (E.setc i { E.c i with kicked := v }) (W.setCell ⟨A.cb i, 3, none⟩ (.bool v)) := by
  have hs : W.heap.size ≤ (W.setCell ⟨A.cb i, 3, none⟩ (.bool v)).heap.size := by rw [size_set]; exact Nat.le_refl _
  have k := er_keep h hs (er_set h hi)
  exact er_cpu h hi hs (.inl rfl) (er_set h hi) (heap_setCell_same W (A.cb i) 3 _ 74 (.bool v) (h.cp i hi)) (k.br i hi (by omega)) (k.dr i hi (by omega))
/-- The clock has changed. -/
theorem er_ck {K' : Ck} (h : ER A E W) (g : GF (fun x => x = A.ck) W W') (hk : CR A.ck K' W') : ER A { E with K := K' } W' := by
  have hb : ∀ x, A.has E.n x → A.T x ≠ 2 → W'.heap[x]? = W.heap[x]? := fun x hx ht => g.block x (er_lt h x hx) fun e => ht (by rw [e]; exact h.at'.ck)
  have k := er_keep h g.size hb
  exact ⟨h.at', h.n1, h.n16, h.cap, k.eb (by omega), hk, k.row (by omega), k.lbl, fun i hi => k.cp i hi (by omega), fun i hi => k.br i hi (by omega), fun i hi => k.dr i hi (by omega), k.mv (by omega), k.tab (by omega)⟩
/-- The map has changed. -/
theorem er_map {f' : Int → Option Nat} {n' : Nat} (h : ER A E W) (g : G2 A.mb A.mb W W') (hm : MV 3 ki wv A.mb n' f' W') : ER A { E with wh := f', wn := n' } W' := by
  have hb : ∀ x, A.has E.n x → A.T x ≠ 4 → W'.heap[x]? = W.heap[x]? := fun x hx ht => g.block x (er_lt h x hx) (fun e => ht (by rw [e]; exact h.at'.mb)) (fun e => ht (by rw [e]; exact h.at'.mb))
  have k := er_keep h g.size hb
  exact ⟨h.at', h.n1, h.n16, h.cap, k.eb (by omega), k.ck (by omega), k.row (by omega), k.lbl, fun i hi => k.cp i hi (by omega), fun i hi => k.br i hi (by omega), fun i hi => k.dr i hi (by omega), hm, k.tab (by omega)⟩
/-- Who is online has changed. -/
theorem er_on {m' : Nat} {on' : Nat → Bool} (h : ER A E W) (hm : MK m' on') : ER A { E with on := on' } (W.setCell ⟨A.e, 2, none⟩ (.int .u32 (m' : Nat))) := by
  have hs : W.heap.size ≤ (W.setCell ⟨A.e, 2, none⟩ (.int .u32 (m' : Nat))).heap.size := by rw [size_set]; exact Nat.le_refl _
  have hb : ∀ x, A.has E.n x → A.T x ≠ 1 → (W.setCell ⟨A.e, 2, none⟩ (.int .u32 (m' : Nat))).heap[x]? = W.heap[x]? := fun x hx ht => Below.heap_setCell _ _ _ _ fun e => ht (by rw [e]; exact h.at'.e)
  have k := er_keep h hs hb
  obtain ⟨m, hm0, -⟩ := h.eb
  exact ⟨h.at', h.n1, h.n16, h.cap, ⟨m', heap_setCell_same W A.e 2 _ 69 (.int .u32 (m' : Nat)) hm0, hm⟩, k.ck (by omega), k.row (by omega), k.lbl, fun i hi => k.cp i hi (by omega), fun i hi => k.br i hi (by omega), fun i hi => k.dr i hi (by omega), k.mv (by omega), k.tab (by omega)⟩
end
end Go.Proofs.YtlcaepcojglbiaaGreatDoor.Tp
namespace Go.Proofs.YtlcaepcojglbiaaGreatDoor.Tp
open Go.RowKit
set_option linter.unusedVariables false
set_option linter.unusedSimpArgs false
theorem cells4 {w : World} {g ty : Nat} {x0 x1 x2 x3 : Value} (h : w.heap[g]? = some (.cells #[x0, x1, x2, x3] ty)) : (w.cell? ⟨g, 0, none⟩ = some x0 ∧ w.frozen? ⟨g, 0, none⟩ = false) ∧ (w.cell? ⟨g, 1, none⟩ = some x1 ∧ w.frozen? ⟨g, 1, none⟩ = false) ∧ (w.cell? ⟨g, 2, none⟩ = some x2 ∧ w.frozen? ⟨g, 2, none⟩ = false) ∧ w.cell? ⟨g, 3, none⟩ = some x3 ∧ w.frozen? ⟨g, 3, none⟩ = false :=
  ⟨cell_of h 0 _ rfl, cell_of h 1 _ rfl, cell_of h 2 _ rfl, cell_of h 3 _ rfl⟩
/-- Results: two structs that lie in blocks. -/
theorem results_cell_cell_row {P : Program} {fn : Func} {p q : Tmp} {ty ty2 : TypeId} (h : fn.results = #[.cell p ty, .cell q ty2]) (tmps : Array Value) (w : World) (g g2 : Nat) (t t2 : TypeId) (cs cs2 : Array Value) (d d2 : TypeDesc)
    (hp : tmps.getD p undef = .pointer (some ⟨g, 0, none⟩)) (hg : w.heap[g]? = some (.cells cs t))
    (hu : P.underlying ty = some d) (hd : (match d with | .struct _ | .array _ _ => true | _ => false) = true) (hi : (P.info? ty).map (·.size) = some cs.size)
    (hp2 : tmps.getD q undef = .pointer (some ⟨g2, 0, none⟩)) (hg2 : w.heap[g2]? = some (.cells cs2 t2))
    (hu2 : P.underlying ty2 = some d2) (hd2 : (match d2 with | .struct _ | .array _ _ => true | _ => false) = true) (hi2 : (P.info? ty2).map (·.size) = some cs2.size) :
    (results fn tmps).run P w = .ok (.tuple #[.agg cs, .agg cs2]) w := by
  have e1 := run_loadVar_row w g t ty cs (0, 0) d hg hu hd hi
  have e2 := run_loadVar_row w g2 t2 ty2 cs2 (0, 0) d2 hg2 hu2 hd2 hi2
  simp only [results, h]
  have hp' : tmps[p]?.getD undef = .pointer (some ⟨g, 0, none⟩) := by simpa using hp
  have hq' : tmps[q]?.getD undef = .pointer (some ⟨g2, 0, none⟩) := by simpa using hp2
  simp [Sem.run_bind, Result.andThen, hp', hq', asAddr, e1, e2]
abbrev s3 (W : World) (g : Nat) (a b c : Value) : World := ((W.setCell ⟨g, 0, none⟩ a).setCell ⟨g, 1, none⟩ b).setCell ⟨g, 2, none⟩ c
theorem s3_same {W : World} {g t : Nat} {x0 x1 x2 : Value} (h : W.heap[g]? = some (.cells #[x0, x1, x2] t)) (a b c : Value) : (s3 W g a b c).heap[g]? = some (.cells #[a, b, c] t) :=
  heap_setCell_same _ g 2 _ _ c (heap_setCell_same _ g 1 _ _ b (heap_setCell_same _ g 0 _ _ a h))
theorem s3_other {W : World} {g i : Nat} (h : i ≠ g) (a b c : Value) : (s3 W g a b c).heap[i]? = W.heap[i]? :=
  (Below.heap_setCell _ _ _ _ (by exact h)).trans ((Below.heap_setCell _ _ _ _ (by exact h)).trans (Below.heap_setCell _ _ _ _ (by exact h)))
theorem s3_below {B : Nat} {w W : World} (h : Below B w W) {g : Nat} (hg : B ≤ g) (a b c : Value) : Below B w (s3 W g a b c) := below_set (below_set (below_set h (by exact hg) a) (by exact hg) b) (by exact hg) c
theorem drew_heap (w : World) : w.drew.heap = w.heap := rfl
section
variable {A : EA} {E : En}
set_option maxHeartbeats 4000000 in
theorem emono_at (W : World) (h : ER A E W) (hok : E.K.ok) : Calls Tryz.prog 47 #[ptr A.e] W fun e W' => e = .returned (.int .i64 E.K.mono) ∧ Below W.heap.size W W' := by
  have C := Lib.hid (cnow_at 0 (by omega) W h.ck hok)
  rw [show E.K.mono + E.K.off 0 = E.K.mono by show E.K.mono + E.K.o0 = _; rw [hok.z]; omega] at C
  obtain ⟨m, hm, -⟩ := h.eb
  obtain ⟨⟨e0, -⟩, -⟩ := cells4 hm
  clear h hok hm
  go_enter Tryz.func47, Tryz.ntmps47
  go_wp2_with (first | (go_at_call 30; refine (C.out).mono ?_; clear C; rintro e w1 ⟨rfl, hB⟩; have HB := Lib.hid hB; clear hB) | fail)
  go_ret
  exact ⟨rfl, HB.out⟩
def onE (E : En) (i : Int) : Bool := onI E.on i && decide (i.toNat < E.n)
set_option maxHeartbeats 4000000 in
theorem at_no (i : Int) (W : World) (h : ER A E W) (ho : onI E.on i = false) : Calls Tryz.prog 41 #[ptr A.e, .int .i64 i] W fun e W' => e = .returned (.pointer none) ∧ W' = W := by
  obtain ⟨m, hm, hk⟩ := h.eb
  have C := Lib.hid (mhas_at hk i)
  rw [ho] at C
  obtain ⟨⟨e0, -⟩, ⟨e1, -⟩, ⟨e2, -⟩, -⟩ := cells4 hm
  clear h hm hk ho
  go_enter Tryz.func41, Tryz.ntmps41
  go_wp2_with (first | (go_at_call 55; refine (C.out _).mono ?_; clear C; rintro e w1 ⟨rfl, rfl⟩) | fail)
  go_ret
  exact ⟨rfl, rfl⟩
set_option maxHeartbeats 4000000 in
theorem at_yes (i : Nat) (W : World) (h : ER A E W) (hi : i < E.n) (ho : E.on i = true) : Calls Tryz.prog 41 #[ptr A.e, .int .i64 (i : Nat)] W fun e W' => e = .returned (ptr (A.cb i)) ∧ W' = W := by
  have h16 := h.n16
  obtain ⟨m, hm, hk⟩ := h.eb
  have C := Lib.hid (mhas_in hk i (by omega))
  rw [ho] at C
  have r := h.row i hi
  have hi2 : (i : Int) < (E.n : Int) := by omega
  obtain ⟨⟨e0, -⟩, ⟨e1, -⟩, ⟨e2, -⟩, -⟩ := cells4 hm
  clear h hm hk ho
  go_enter Tryz.func41, Tryz.ntmps41
  go_wp2_with (first | (go_at_call 55; refine (C.out _).mono ?_; clear C; rintro e w1 ⟨rfl, rfl⟩) | fail)
  go_ret
  exact ⟨rfl, rfl⟩
def Ck.tm (K : Ck) (k : Nat) : Int := K.mono + K.off k
structure TJ (K : Ck) (W : World) (i : Nat) (w : World) : Prop where
  b : Below W.heap.size W w
  t : w.heap[W.heap.size]? = some (.cells #[.int .i64 (if 0 < i then K.tm 0 else 0), .int .i64 (if 1 < i then K.tm 1 else 0), .int .i64 (if 2 < i then K.tm 2 else 0)] 27)
  o : w.heap[W.heap.size + 1]? = some (.cells #[.int .i64 (if 0 < i then K.off 0 else 0), .int .i64 (if 1 < i then K.off 1 else 0), .int .i64 (if 2 < i then K.off 2 else 0)] 27)
theorem tj_step {K : Ck} {W wr w1 : World} {i : Nat} (h : TJ K W i wr) (hi : i < 3) (hB : Below wr.heap.size wr w1) : TJ K W (i + 1) ((w1.setCell ⟨W.heap.size, i, none⟩ (.int .i64 (K.tm i))).setCell ⟨W.heap.size + 1, i, none⟩ (.int .i64 (K.off i))) := by
  have t1 := (hB.block _ (Array.getElem?_eq_some_iff.1 h.t).1).trans h.t
  have o1 := (hB.block _ (Array.getElem?_eq_some_iff.1 h.o).1).trans h.o
  refine ⟨below_set (below_set (h.b.trans (hB.mono h.b.size)) (Nat.le_refl _) _) (by show W.heap.size ≤ W.heap.size + 1; omega) _, ?_, ?_⟩
  · refine (Below.heap_setCell _ _ _ _ (show W.heap.size ≠ W.heap.size + 1 by omega)).trans ((heap_setCell_same w1 W.heap.size i _ 27 (.int .i64 (K.tm i)) t1).trans ?_)
    rcases (show i = 0 ∨ i = 1 ∨ i = 2 by omega) with rfl | rfl | rfl <;> simp
  · refine (heap_setCell_same _ (W.heap.size + 1) i _ 27 (.int .i64 (K.off i)) ((Below.heap_setCell _ _ _ _ (show W.heap.size + 1 ≠ W.heap.size by omega)).trans o1)).trans ?_
    rcases (show i = 0 ∨ i = 1 ∨ i = 2 by omega) with rfl | rfl | rfl <;> simp
set_option maxRecDepth 100000 in
set_option maxHeartbeats 4000000 in
theorem times_at (W : World) (h : ER A E W) (hok : E.K.ok) : Calls Tryz.prog 73 #[ptr A.e] W fun e W' => e = .returned (.tuple #[offv E.K.tm, offv E.K.off]) ∧ Below W.heap.size W W' := by
  have C1 := Lib.hid (fun k hk w (hB : Below W.heap.size W w) => (show Calls Tryz.prog 30 #[ptr A.ck, .int .i64 (k : Nat)] w fun e W' => e = .returned (.tuple #[.int .i64 (E.K.tm k), .bool true]) ∧ Below w.heap.size w W' from cnow_at (c := A.ck) (K := E.K) k hk w (er_below h hB).ck hok))
  have C2 := Lib.hid (fun k hk w (hB : Below W.heap.size W w) => coff_at (c := A.ck) (K := E.K) k hk w (er_below h hB).ck)
  have E0 := Lib.hid (fun w (hB : Below W.heap.size W w) => (show w.cell? ⟨A.e, 0, none⟩ = some (ptr A.ck) by
    obtain ⟨m, hm, -⟩ := (er_below h hB).eb
    exact (cell_of hm 0 _ rfl).1))
  have HE := er_lt h A.e (.inr (.inl rfl))
  have HB0 : Below W.heap.size W ((W.alloc (.cells #[.int .i64 0, .int .i64 0, .int .i64 0] 27)).alloc (.cells #[.int .i64 0, .int .i64 0, .int .i64 0] 27)) := ((Below.refl W.heap.size W).alloc (Nat.le_refl _) _).alloc (by simp) _
  have hn2 := heap_alloc_new (W.alloc (.cells #[.int .i64 0, .int .i64 0, .int .i64 0] 27)) (.cells #[.int .i64 0, .int .i64 0, .int .i64 0] 27)
  rw [show (W.alloc (.cells #[.int .i64 0, .int .i64 0, .int .i64 0] 27)).heap.size = W.heap.size + 1 by simp] at hn2
  have hn1 := (Below.heap_alloc (W.alloc (.cells #[.int .i64 0, .int .i64 0, .int .i64 0] 27)) (.cells #[.int .i64 0, .int .i64 0, .int .i64 0] 27) W.heap.size (by simp)).trans (heap_alloc_new W _)
  have HJ0 : Hid (TJ E.K W 0 ((W.alloc (.cells #[.int .i64 0, .int .i64 0, .int .i64 0] 27)).alloc (.cells #[.int .i64 0, .int .i64 0, .int .i64 0] 27))) := Lib.hid ⟨HB0, hn1, hn2⟩
  clear h HB0 hn1 hn2
  go_enter Tryz.func73, Tryz.ntmps73
  go_wp2_with fail
  go_loopw [5] (fun s5 wr => ∃ i : Nat, i ≤ 3 ∧ s5 = .int .i64 i ∧ Hid (TJ E.K W i wr)) (fun s5 _ => 3 - (intOf s5).toNat)
  case atStart => exact ⟨0, by omega, rfl, HJ0⟩
  case round =>
    obtain ⟨i, hi, rfl, HJ⟩ := hrel
    clear HJ0
    rcases (show i = 0 ∨ i = 1 ∨ i = 2 ∨ i = 3 by omega) with rfl | rfl | rfl | rfl
    · have e0 := E0.out _ HJ.out.b
      go_wp2_with (first
        | (go_at_call 30; refine (C1.out 0 (by omega) _ HJ.out.b).mono ?_; clear C1; rintro e w1 ⟨rfl, hB⟩; have hB1 := HJ.out.b.trans (hB.mono HJ.out.b.size); have t1 := (hB.block _ (Array.getElem?_eq_some_iff.1 HJ.out.t).1).trans HJ.out.t; have o1 := (hB.block _ (Array.getElem?_eq_some_iff.1 HJ.out.o).1).trans HJ.out.o; clear e0; have e0 := E0.out _ hB1; have HB1 := Lib.hid hB1; have HB := Lib.hid hB; obtain ⟨⟨a0, b0⟩, -⟩ := cells3 t1; obtain ⟨⟨c0, d0⟩, -⟩ := cells3 o1; clear hB hB1 t1 o1)
        | (go_at_call 97; refine (C2.out 0 (by omega) _ (below_set HB1.out (Nat.le_refl _) _)).mono ?_; clear C2; rintro e w2 ⟨rfl, rfl⟩)
        | fail)
      exact ⟨⟨1, by omega, rfl, Lib.hid (tj_step HJ.out (by omega) HB.out)⟩, by simp [intOf]⟩
    · have e0 := E0.out _ HJ.out.b
      go_wp2_with (first
        | (go_at_call 30; refine (C1.out 1 (by omega) _ HJ.out.b).mono ?_; clear C1; rintro e w1 ⟨rfl, hB⟩; have hB1 := HJ.out.b.trans (hB.mono HJ.out.b.size); have t1 := (hB.block _ (Array.getElem?_eq_some_iff.1 HJ.out.t).1).trans HJ.out.t; have o1 := (hB.block _ (Array.getElem?_eq_some_iff.1 HJ.out.o).1).trans HJ.out.o; clear e0; have e0 := E0.out _ hB1; have HB1 := Lib.hid hB1; have HB := Lib.hid hB; obtain ⟨-, ⟨a0, b0⟩, -⟩ := cells3 t1; obtain ⟨-, ⟨c0, d0⟩, -⟩ := cells3 o1; clear hB hB1 t1 o1)
        | (go_at_call 97; refine (C2.out 1 (by omega) _ (below_set HB1.out (Nat.le_refl _) _)).mono ?_; clear C2; rintro e w2 ⟨rfl, rfl⟩)
        | fail)
      exact ⟨⟨2, by omega, rfl, Lib.hid (tj_step HJ.out (by omega) HB.out)⟩, by simp [intOf]⟩
    · have e0 := E0.out _ HJ.out.b
      go_wp2_with (first
        | (go_at_call 30; refine (C1.out 2 (by omega) _ HJ.out.b).mono ?_; clear C1; rintro e w1 ⟨rfl, hB⟩; have hB1 := HJ.out.b.trans (hB.mono HJ.out.b.size); have t1 := (hB.block _ (Array.getElem?_eq_some_iff.1 HJ.out.t).1).trans HJ.out.t; have o1 := (hB.block _ (Array.getElem?_eq_some_iff.1 HJ.out.o).1).trans HJ.out.o; clear e0; have e0 := E0.out _ hB1; have HB1 := Lib.hid hB1; have HB := Lib.hid hB; obtain ⟨-, -, a0, b0⟩ := cells3 t1; obtain ⟨-, -, c0, d0⟩ := cells3 o1; clear hB hB1 t1 o1)
        | (go_at_call 97; refine (C2.out 2 (by omega) _ (below_set HB1.out (Nat.le_refl _) _)).mono ?_; clear C2; rintro e w2 ⟨rfl, rfl⟩)
        | fail)
      exact ⟨⟨3, by omega, rfl, Lib.hid (tj_step HJ.out (by omega) HB.out)⟩, by simp [intOf]⟩
    · have HT := Lib.hid HJ.out.t
      have HO := Lib.hid HJ.out.o
      have ht : wr.heap[W.heap.size]? = some (.cells #[.int .i64 (E.K.tm 0), .int .i64 (E.K.tm 1), .int .i64 (E.K.tm 2)] 27) := HJ.out.t
      have ho : wr.heap[W.heap.size + 1]? = some (.cells #[.int .i64 (E.K.off 0), .int .i64 (E.K.off 1), .int .i64 (E.K.off 2)] 27) := HJ.out.o
      have H2 := Lib.hid (And.intro ht ho)
      obtain ⟨⟨a0, b0⟩, ⟨a1, b1⟩, a2, b2⟩ := cells3 ht
      obtain ⟨⟨c0, d0⟩, ⟨c1, d1⟩, c2, d2⟩ := cells3 ho
      clear ht ho E0 C1 C2
      go_wp2_with fail
      go_region
      have hb := s3_below (s3_below HJ.out.b (g := W.heap.size) (Nat.le_refl _) (.int .i64 (E.K.tm 0)) (.int .i64 (E.K.tm 1)) (.int .i64 (E.K.tm 2))) (g := W.heap.size + 1) (by omega) (.int .i64 (E.K.off 0)) (.int .i64 (E.K.off 1)) (.int .i64 (E.K.off 2))
      have h1 := (s3_other (W := s3 wr W.heap.size (.int .i64 (E.K.tm 0)) (.int .i64 (E.K.tm 1)) (.int .i64 (E.K.tm 2))) (show W.heap.size ≠ W.heap.size + 1 by omega) (.int .i64 (E.K.off 0)) (.int .i64 (E.K.off 1)) (.int .i64 (E.K.off 2))).trans (s3_same H2.out.1 (.int .i64 (E.K.tm 0)) (.int .i64 (E.K.tm 1)) (.int .i64 (E.K.tm 2)))
      have h2 := s3_same ((s3_other (W := wr) (show W.heap.size + 1 ≠ W.heap.size by omega) (.int .i64 (E.K.tm 0)) (.int .i64 (E.K.tm 1)) (.int .i64 (E.K.tm 2))).trans H2.out.2) (.int .i64 (E.K.off 0)) (.int .i64 (E.K.off 1)) (.int .i64 (E.K.off 2))
      simp only [Exit.then]
      rename_i aa
      refine aa _ _ (wp_ret ?_)
      refine bodyPost_ret (results_cell_cell_row Tryz.results73 _ _ W.heap.size (W.heap.size + 1) 27 27 #[.int .i64 (E.K.tm 0), .int .i64 (E.K.tm 1), .int .i64 (E.K.tm 2)] #[.int .i64 (E.K.off 0), .int .i64 (E.K.off 1), .int .i64 (E.K.off 2)] _ _ ?_ ?_ Tryz.underlying27 rfl ?_ ?_ ?_ Tryz.underlying27 rfl ?_) ?_ ⟨?_, ?_⟩
      · rfl
      · rw [drew_heap]; exact h1
      · kernel_rfl
      · rfl
      · rw [drew_heap]; exact h2
      · kernel_rfl
      · rfl
      · rfl
      · exact below_drew hb
end
end Go.Proofs.YtlcaepcojglbiaaGreatDoor.Tp
namespace Go.Proofs.YtlcaepcojglbiaaGreatDoor.Tp
open Go.RowKit
set_option linter.unusedVariables false
set_option linter.unusedSimpArgs false
theorem below_trans' {x y z : World} (h : Below x.heap.size x y) (k : Below y.drew.heap.size y.drew z) : Below x.heap.size x z := h.trans ((show Below y.heap.size y z from ⟨k.os, k.tape, k.output, k.size, k.block⟩).mono h.size)
def En.nxt (E : En) (i : Nat) : Int := bnx (E.c i).b (!(E.c i).raised) E.K.off 6
def En.look (E : En) (i : Nat) : En := E.setc i { E.c i with d := (E.c i).d.sooner E.K.mono (E.nxt i) }
set_option maxRecDepth 100000 in
set_option maxHeartbeats 4000000 in
theorem look_at {A : EA} {E : En} (i : Nat) (W : World) (h : ER A E W) (hok : E.K.ok) (hi : i < E.n) : Calls Tryz.prog 43 #[ptr A.e, ptr (A.cb i)] W fun e W' => e = .returned (.tuple #[]) ∧ ER A (E.look i) W' ∧ GF (fun x => x = A.db i) W W' := by
  have C1 := Lib.hid (times_at W h hok)
  have C2 := Lib.hid (fun w (h : ER A E w) => emono_at w h hok)
  have C3 := Lib.hid (fun w (h : ER A E w) => bnext_at (!(E.c i).raised) E.K.off w (h.br i hi))
  have C4 := Lib.hid (fun w (h : ER A E w) => sooner_at E.K.mono (E.nxt i) w (h.dr i hi))
  have H := Lib.hid h
  have HF := Lib.hid (fun w w' (h : ER A E w) (hd : DR (A.db i) ((E.c i).d.sooner E.K.mono (E.nxt i)) w') (g : G2 (A.db i) (A.db i) w w') => (show ER A (E.look i) w' from er_dev h hi g hd))
  have HC := Lib.hid (fun w (h : ER A E w) => cells4 (h.cp i hi))
  have HL := er_lt h (A.cb i) (.inr (.inr (.inr (.inr (.inr ⟨i, hi, .inl rfl⟩)))))
  have HD := er_lt h (A.db i) (.inr (.inr (.inr (.inr (.inr ⟨i, hi, .inr (.inl rfl)⟩)))))
  have hcd : ¬ A.cb i = A.db i := fun e => by
    have h1 := h.at'.cb i hi
    have h2 := h.at'.db i hi
    rw [e] at h1
    omega
  unfold En.nxt at C4 HF
  obtain ⟨nx, hnx⟩ : ∃ nx, bnx (E.c i).b (!(E.c i).raised) E.K.off 6 = nx := ⟨_, rfl⟩
  rw [hnx] at C3 C4 HF
  clear h hnx
  go_enter Tryz.func43, Tryz.ntmps43
  go_wp2_with (first
    | (go_at_call 73; refine (C1.out).mono ?_; clear C1; rintro e w1 ⟨rfl, hB⟩; have H1 := Lib.hid (And.intro (er_below H.out hB) hB); clear hB)
    | fail)
  have hb2 : Below W.heap.size W ((w1.alloc (.cells #[.int .i64 (E.K.tm 0), .int .i64 (E.K.tm 1), .int .i64 (E.K.tm 2)] 27)).alloc (.cells #[.int .i64 (E.K.off 0), .int .i64 (E.K.off 1), .int .i64 (E.K.off 2)] 27)) := (H1.out.2.alloc H1.out.2.size _).alloc (by have := H1.out.2.size; simp; omega) _
  have hn2 := heap_alloc_new (w1.alloc (.cells #[.int .i64 (E.K.tm 0), .int .i64 (E.K.tm 1), .int .i64 (E.K.tm 2)] 27)) (.cells #[.int .i64 (E.K.off 0), .int .i64 (E.K.off 1), .int .i64 (E.K.off 2)] 27)
  rw [show (w1.alloc (.cells #[.int .i64 (E.K.tm 0), .int .i64 (E.K.tm 1), .int .i64 (E.K.tm 2)] 27)).heap.size = w1.heap.size + 1 by simp] at hn2
  have hs2 : ((w1.alloc (.cells #[.int .i64 (E.K.tm 0), .int .i64 (E.K.tm 1), .int .i64 (E.K.tm 2)] 27)).alloc (.cells #[.int .i64 (E.K.off 0), .int .i64 (E.K.off 1), .int .i64 (E.K.off 2)] 27)).heap.size = w1.heap.size + 2 := by simp
  have hs1 := H1.out.2.size
  obtain ⟨W2, hW2⟩ : ∃ W2, (w1.alloc (.cells #[.int .i64 (E.K.tm 0), .int .i64 (E.K.tm 1), .int .i64 (E.K.tm 2)] 27)).alloc (.cells #[.int .i64 (E.K.off 0), .int .i64 (E.K.off 1), .int .i64 (E.K.off 2)] 27) = W2 := ⟨_, rfl⟩
  rw [hW2] at hb2 hn2 hs2 ⊢
  obtain ⟨g, hg⟩ : ∃ g, w1.heap.size + 1 = g := ⟨_, rfl⟩
  rw [hg] at hn2 ⊢
  have HB2 := Lib.hid hb2
  have HE2 : Hid (ER A E W2.drew) := Lib.hid (er_drew (er_below H.out hb2))
  have HN2 := Lib.hid hn2
  have hgl : g < W2.heap.size := by omega
  have hge : W.heap.size ≤ g := by omega
  have hgd : ¬ g = A.db i := by omega
  have hgd' : ¬ A.db i = g := by omega
  obtain ⟨⟨c0, -⟩, ⟨c1, -⟩, ⟨c2, -⟩, -⟩ := HC.out _ (er_below H.out hb2)
  obtain ⟨⟨o0, -⟩, ⟨o1, -⟩, o2, -⟩ := cells3 hn2
  clear hW2 hg hb2 hn2 hs2 hs1 H1
  go_region_held3 (fun w => w.cell? ⟨A.cb i, 0, none⟩ = some (ptr (A.ba i).bb) ∧ w.cell? ⟨A.cb i, 1, none⟩ = some (ptr (A.db i)) ∧ w.cell? ⟨A.cb i, 2, none⟩ = some (.bool (E.c i).raised) ∧ w.cell? ⟨g, 0, none⟩ = some (.int .i64 (E.K.off 0)) ∧ w.cell? ⟨g, 1, none⟩ = some (.int .i64 (E.K.off 1)) ∧ w.cell? ⟨g, 2, none⟩ = some (.int .i64 (E.K.off 2))) (first | exact ⟨c0, c1, c2, o0, o1, o2⟩ | exact ⟨f0, f1, f2, p0, p1, p2⟩ | exact ⟨d0, d1, d2, q0, q1, q2⟩ | exact ⟨x0, x1, x2, y0, y1, y2⟩ | assumption | (go_keep; done)) (first
    | (go_simp; go_at_call 47; refine (C2.out _ HE2.out).mono ?_; clear C2; rintro e w3 ⟨rfl, hB⟩; have HE3 := Lib.hid (er_below HE2.out hB); have hn3 := (hB.block g hgl).trans HN2.out; have HN3 := Lib.hid hn3; have HB3 := Lib.hid (below_trans' HB2.out hB); obtain ⟨⟨f0, -⟩, ⟨f1, -⟩, ⟨f2, -⟩, -⟩ := HC.out _ HE3.out; obtain ⟨⟨p0, -⟩, ⟨p1, -⟩, p2, -⟩ := cells3 hn3; have hgl3 : g < w3.heap.size := (Nat.lt_of_lt_of_le hgl hB.size); clear hn3 hB)
    | (go_simp; go_at_call 75; refine (C3.out _ HE3.out).mono ?_; clear C3; rintro e w4 ⟨rfl, hB⟩; have HE4 := Lib.hid (er_below HE3.out hB); have hn4 := (hB.block g hgl3).trans HN3.out; have HN4 := Lib.hid hn4; have HB4 := Lib.hid (HB3.out.trans (hB.mono HB3.out.size)); obtain ⟨⟨d0, -⟩, ⟨d1, -⟩, ⟨d2, -⟩, -⟩ := HC.out _ HE4.out; obtain ⟨⟨q0, -⟩, ⟨q1, -⟩, q2, -⟩ := cells3 hn4; have hgl4 : g < w4.heap.size := (Nat.lt_of_lt_of_le hgl3 hB.size); clear hn4 hB)
    | (go_simp; go_at_call 74; refine (C4.out _ HE4.out).mono ?_; clear C4; rintro e w5 ⟨⟨v5, rfl⟩, hd5, hg5⟩; have HE5 := Lib.hid (HF.out _ _ HE4.out hd5 hg5); have hl5 : A.cb i < w4.heap.size := (Nat.lt_of_lt_of_le HL HB4.out.size); have hcx := hg5.block (A.cb i) hl5 hcd hcd; have hgx := hg5.block g hgl4 hgd hgd; have x0 := (World.cell?_of_block (a := ⟨A.cb i, 0, none⟩) hcx).trans d0; have x1 := (World.cell?_of_block (a := ⟨A.cb i, 1, none⟩) hcx).trans d1; have x2 := (World.cell?_of_block (a := ⟨A.cb i, 2, none⟩) hcx).trans d2; have y0 := (World.cell?_of_block (a := ⟨g, 0, none⟩) hgx).trans q0; have y1 := (World.cell?_of_block (a := ⟨g, 1, none⟩) hgx).trans q1; have y2 := (World.cell?_of_block (a := ⟨g, 2, none⟩) hgx).trans q2; have HG5 := Lib.hid (gf_of_below (F := fun x => x = A.db i) HB4.out (show GF (fun x => x = A.db i) w4 w5 from ⟨hg5.os, hg5.tape, hg5.output, hg5.size, fun x hx hn => hg5.block x hx hn hn⟩) fun x _ e => e); clear hd5 hg5 hcx hgx)
    | fail)
  exact bodyPost_end (results_none rfl _ _ _) rfl ⟨rfl, HE5.out, HG5.out⟩
end Go.Proofs.YtlcaepcojglbiaaGreatDoor.Tp
namespace Go.Proofs.YtlcaepcojglbiaaGreatDoor.Tp
open Go.RowKit
set_option linter.unusedVariables false
set_option linter.unusedSimpArgs false
theorem has_db {A : EA} {n i : Nat} (hi : i < n) : A.has n (A.db i) := .inr (.inr (.inr (.inr (.inr ⟨i, hi, .inr (.inl rfl)⟩))))
theorem has_cb {A : EA} {n i : Nat} (hi : i < n) : A.has n (A.cb i) := .inr (.inr (.inr (.inr (.inr ⟨i, hi, .inl rfl⟩))))
theorem has_ba {A : EA} {n i x : Nat} (hi : i < n) (hx : (A.ba i).has x) : A.has n x := .inr (.inr (.inr (.inr (.inr ⟨i, hi, .inr (.inr hx)⟩))))
def En.kick (E : En) (i : Nat) : En := (E.setc i { E.c i with kicked := false }).look i
/-- What a cpu's road needs: the cells of the engine, the row, the cpu. -/
theorem er_road {A : EA} {E : En} {W : World} (h : ER A E W) {i : Nat} (hi : i < E.n) : (∃ m : Nat, MK m E.on ∧ (W.cell? ⟨A.e, 0, none⟩ = some (ptr A.ck)) ∧ W.cell? ⟨A.e, 1, none⟩ = some (.slice (some ⟨A.lb, 0, none⟩) E.n A.cap) ∧ W.cell? ⟨A.e, 2, none⟩ = some (.int .u32 (m : Nat)) ∧ W.cell? ⟨A.e, 3, none⟩ = some (.map (some A.mb))) ∧ W.cell? ⟨A.lb, i, none⟩ = some (ptr (A.cb i)) ∧
    (W.cell? ⟨A.cb i, 0, none⟩ = some (ptr (A.ba i).bb) ∧ W.cell? ⟨A.cb i, 1, none⟩ = some (ptr (A.db i)) ∧ W.cell? ⟨A.cb i, 2, none⟩ = some (.bool (E.c i).raised) ∧ W.cell? ⟨A.cb i, 3, none⟩ = some (.bool (E.c i).kicked)) ∧ ∀ j, j < 4 → W.frozen? ⟨A.cb i, j, none⟩ = false := by
  obtain ⟨m, hm, hk⟩ := h.eb
  obtain ⟨⟨e0, -⟩, ⟨e1, -⟩, ⟨e2, -⟩, e3, -⟩ := cells4 hm
  obtain ⟨⟨c0, f0⟩, ⟨c1, f1⟩, ⟨c2, f2⟩, c3, f3⟩ := cells4 (h.cp i hi)
  refine ⟨⟨m, hk, e0, e1, e2, e3⟩, h.row i hi, ⟨c0, c1, c2, c3⟩, fun j hj => ?_⟩
  rcases (show j = 0 ∨ j = 1 ∨ j = 2 ∨ j = 3 by omega) with rfl | rfl | rfl | rfl
  · exact f0
  · exact f1
  · exact f2
  · exact f3
set_option maxHeartbeats 4000000 in
theorem kick_no {A : EA} {E : En} (i : Nat) (W : World) (h : ER A E W) (hi : i < E.n) (hk : (E.c i).kicked = false) : Calls Tryz.prog 50 #[ptr A.e, .int .i64 (i : Nat)] W fun e W' => e = .returned (.int .i64 8) ∧ W' = W := by
  obtain ⟨⟨m, -, e0, e1, e2, e3⟩, r, ⟨c0, c1, c2, c3⟩, -⟩ := er_road h hi
  rw [hk] at c3
  have hi2 : (i : Int) < (E.n : Int) := by omega
  clear h hk
  go_enter Tryz.func50, Tryz.ntmps50
  go_wp2
  go_ret
  exact ⟨rfl, rfl⟩
set_option maxHeartbeats 4000000 in
theorem kick_yes {A : EA} {E : En} (i : Nat) (W : World) (h : ER A E W) (hok : E.K.ok) (hi : i < E.n) (hk : (E.c i).kicked = true) : Calls Tryz.prog 50 #[ptr A.e, .int .i64 (i : Nat)] W fun e W' => e = .returned (.int .i64 0) ∧ ER A (E.kick i) W' ∧ GF (A.has E.n) W W' := by
  obtain ⟨⟨m, -, e0, e1, e2, e3⟩, r, ⟨c0, c1, c2, c3⟩, z⟩ := er_road h hi
  rw [hk] at c3
  have z3 := z 3 (by omega)
  have hi2 : (i : Int) < (E.n : Int) := by omega
  have C := Lib.hid (look_at (E := E.setc i { E.c i with kicked := false }) i _ (er_kicked false h hi) hok hi)
  have HG : Hid (GF (A.has E.n) W (W.setCell ⟨A.cb i, 3, none⟩ (.bool false))) := Lib.hid (gf_set (gf_refl _ _) (.inl (has_cb hi)) _)
  have HI := Lib.hid hi
  clear h hk z hok
  go_enter Tryz.func50, Tryz.ntmps50
  go_wp2_with (first | (go_at_call 43; refine (C.out).mono ?_; clear C; rintro e w1 ⟨rfl, hE, hG⟩; have HH := Lib.hid (And.intro hE (gf_trans HG.out (gf_mono hG fun x e => (show A.has E.n x by rw [e]; exact has_db HI.out)))); clear hE hG) | fail)
  go_ret
  exact ⟨rfl, HH.out⟩
end Go.Proofs.YtlcaepcojglbiaaGreatDoor.Tp
namespace Go.Proofs.YtlcaepcojglbiaaGreatDoor.Tp
open Go.RowKit
set_option linter.unusedVariables false
set_option linter.unusedSimpArgs false
/-- A timer that fired. -/
structure Fd where
  id : Int
  clock : Int
  cpu : Int
  mono : Int
  read : Int
def fdc (f : Fd) : List Value := [.int .i64 f.id, .int .i64 f.clock, .int .i64 f.cpu, .int .i64 f.mono, .int .i64 f.read]
def fdcs (L : List Fd) : List Value := L.flatMap fdc
theorem fdcs_one (L : List Fd) : ∀ u ∈ fdcs L, u.oneCell' = true := by
  intro u hu
  obtain ⟨t, _, ht⟩ := List.mem_flatMap.1 hu
  simp only [fdc, List.mem_cons, List.not_mem_nil, or_false] at ht
  rcases ht with rfl | rfl | rfl | rfl | rfl <;> rfl
def FT (base : Nat) (v : Value) (L : List Fd) (w : World) : Prop := w.ownsRow base 48 5 v L.length (fdcs L)
theorem ft_nil (base : Nat) (w : World) : FT base (.slice none 0 0) [] w := World.ownsRow_nil w base 48 5
theorem ft_same {base : Nat} {v : Value} {L : List Fd} {w w' : World} (h : FT base v L w) (hb : ∀ k, v.ownBlock = some k → w'.heap[k]? = w.heap[k]?) : FT base v L w' := by
  refine ⟨h.1, ?_⟩
  rcases h.2 with hn | ⟨g, cap, cur, rfl, hb1, hg, rest⟩
  · exact .inl hn
  · exact .inr ⟨g, cap, cur, rfl, hb1, (hb g rfl).trans hg, rest⟩
theorem ft_lt {base : Nat} {v : Value} {L : List Fd} {w : World} (h : FT base v L w) : ∀ k, v.ownBlock = some k → base ≤ k ∧ k < w.heap.size := World.ownsRow.lt h
theorem ft_below {base : Nat} {v : Value} {L : List Fd} {w w' : World} (h : FT base v L w) (hb : Below w.heap.size w w') : FT base v L w' := ft_same h fun k hk => hb.block k (ft_lt h k hk).2
def fd (K : Ck) (i : Nat) (t : Tm) : Fd := ⟨t.id, t.clock, i, K.tm 0, K.tm t.clock.toNat⟩
def wdel (wh : Int → Option Nat) (wn : Nat) : List Tm → (Int → Option Nat) × Nat
  | [] => (wh, wn)
  | t :: X => wdel (fun j => if j = t.id then none else wh j) (if (wh t.id).isSome then wn - 1 else wn) X
def En.exp (E : En) (i : Nat) (lazy : Bool) : List Tm := exn (E.c i).b lazy E.K.tm 6
def En.fired (E : En) (i : Nat) (lazy : Bool) : En := { E.setc i { E.c i with b := exb (E.c i).b lazy E.K.tm 6 } with wh := (wdel E.wh E.wn (E.exp i lazy)).1, wn := (wdel E.wh E.wn (E.exp i lazy)).2 }
theorem foot_has {a : BA} : ∀ x, a.foot x → a.has x := fun x ⟨n, hn, hx⟩ => .inr ⟨n, hn, .inr hx⟩
theorem own_len {w : World} {base e size n m c : Nat} {p : Option Addr} {xs : List Value} (h : w.ownsRow base e size (.slice p m c) n xs) : m = n := by
  rcases h.2 with ⟨h1, h2⟩ | ⟨g, cap, cur, h1, _⟩
  · cases h1; exact h2.symm
  · cases h1; rfl
theorem tmcs_get {X : List Tm} {k : Nat} {t : Tm} (h : X[k]? = some t) (j : Nat) (hj : j < 5) : (tmcs X)[5 * k + j]? = (tmc t)[j]? := by
  induction X generalizing k with
  | nil => cases h
  | cons a X ih =>
    have e : tmcs (a :: X) = tmc a ++ tmcs X := by simp [tmcs]
    have hl : (tmc a).length = 5 := rfl
    rw [e]
    cases k with
    | zero =>
      obtain rfl : a = t := by simpa using h
      rw [List.getElem?_append_left (by omega)]
      simp
    | succ k =>
      rw [List.getElem?_append_right (by omega), hl, show 5 * (k + 1) + j - 5 = 5 * k + j by omega]
      exact ih (by simpa using h)
/-- The k-th of a row of timers. -/
theorem ot_get {base m c k : Nat} {p : Option Addr} {X : List Tm} {t : Tm} {w : World} (h : OT base (.slice p m c) X w) (ht : X[k]? = some t) : m = X.length ∧ ∃ gb, p = some ⟨gb, 0, none⟩ ∧ base ≤ gb ∧ gb < w.heap.size ∧ w.cell? ⟨gb, k * 5, none⟩ = some (.int .i64 t.id) ∧ w.cell? ⟨gb, k * 5 + 1, none⟩ = some (.int .i64 t.clock) ∧ w.cell? ⟨gb, k * 5 + 2, none⟩ = some (.int .i64 t.soft) ∧ w.cell? ⟨gb, k * 5 + 3, none⟩ = some (.int .i64 t.hard) ∧ w.cell? ⟨gb, k * 5 + 4, none⟩ = some (.bool t.lazy) := by
  refine ⟨own_len h, ?_⟩
  rcases h.2 with ⟨h1, h2⟩ | ⟨gb, cap, cur, h1, hb, hg, hrest⟩
  · have hx := List.getElem?_eq_some_iff.1 ht
    obtain ⟨hx, -⟩ := hx
    omega
  · cases h1
    have hc := World.ownsRow.cells (g := gb) h rfl
    refine ⟨gb, rfl, hb, (Array.getElem?_eq_some_iff.1 hg).1, ?_⟩
    have f : ∀ j v, j < 5 → (tmc t)[j]? = some v → w.cell? ⟨gb, k * 5 + j, none⟩ = some v := fun j v hj hv => by
      have := hc (5 * k + j) v ((tmcs_get ht j hj).trans hv)
      have e : (⟨gb, 0, none⟩ : Addr).add (5 * k + j) = ⟨gb, 5 * k + j, none⟩ := by
        by_cases e0 : 5 * k + j = 0
        · rw [e0]; rfl
        · simp [Addr.add]
          omega
      rw [e, Nat.mul_comm] at this
      exact this
    exact ⟨f 0 _ (by omega) rfl, f 1 _ (by omega) rfl, f 2 _ (by omega) rfl, f 3 _ (by omega) rfl, f 4 _ (by omega) rfl⟩
theorem wdel_snoc (X : List Tm) (t : Tm) : ∀ (wh : Int → Option Nat) (wn : Nat), wdel wh wn (X ++ [t]) = (fun j => if j = t.id then none else (wdel wh wn X).1 j, if ((wdel wh wn X).1 t.id).isSome then (wdel wh wn X).2 - 1 else (wdel wh wn X).2) := by
  induction X with
  | nil => intro wh wn; rfl
  | cons a X ih => intro wh wn; exact ih _ _
/-- The mirror within fire: the first k are out. -/
def En.fk (E : En) (i : Nat) (lazy : Bool) (k : Nat) : En := { E.setc i { E.c i with b := exb (E.c i).b lazy E.K.tm 6 } with wh := (wdel E.wh E.wn ((E.exp i lazy).take k)).1, wn := (wdel E.wh E.wn ((E.exp i lazy).take k)).2 }
structure FiJ (A : EA) (E : En) (i : Nat) (lazy : Bool) (W : World) (g : Nat) (v : Value) (k : Nat) (vo : Value) (w : World) : Prop where
  ot : OT W.heap.size v (E.exp i lazy) w
  ft : FT W.heap.size vo (((E.exp i lazy).take k).map (fd E.K i)) w
  er : ER A (E.fk i lazy k) w
  gc : w.heap[g]? = some (.cells #[.int .i64 (E.K.tm 0), .int .i64 (E.K.tm 1), .int .i64 (E.K.tm 2)] 27)
  ng : W.heap.size ≤ g ∧ v.ownBlock ≠ some g ∧ vo.ownBlock ≠ some g
  nv : ∀ x, v.ownBlock = some x → vo.ownBlock ≠ some x
  gf : GF (A.has E.n) W w
set_option maxRecDepth 100000 in
set_option maxHeartbeats 4000000 in
theorem fire_at {A : EA} {E : En} (i : Nat) (lazy : Bool) (W : World) (h : ER A E W) (hok : E.K.ok) (hi : i < E.n) (hlen : ∀ q, q < 6 → ((E.c i).b q).length ≤ 64) (hx : ∀ t ∈ E.exp i lazy, t.wf ∧ 0 ≤ t.clock ∧ t.clock < 3) :
    Calls Tryz.prog 80 #[ptr A.e, .int .i64 (i : Nat), .bool lazy] W fun e W' => (∃ v, e = .returned v ∧ FT W.heap.size v ((E.exp i lazy).map (fd E.K i)) W') ∧ ER A (E.fired i lazy) W' ∧ GF (A.has E.n) W W' := by
  have C1 := Lib.hid (times_at W h hok)
  have C3 := Lib.hid (fun w (h : ER A E w) => bexpire_at lazy E.K.tm w (h.br i hi) hlen)
  have H := Lib.hid h
  have HF := Lib.hid (fun w w' (h : ER A E w) (hd : BR (A.ba i) (exb (E.c i).b lazy E.K.tm 6) w') (g : GF (A.ba i).foot w w') => er_base h hi (gf_mono g foot_has) hd)
  have HR := Lib.hid (fun w E' (h : ER A E' w) (hi : i < E'.n) => er_road h hi)
  have HX := Lib.hid hx
  have HI := Lib.hid hi
  have hi2 : (i : Int) < (E.n : Int) := by omega
  have HL := Lib.hid (er_lt h)
  clear h
  go_enter Tryz.func80, Tryz.ntmps80
  go_wp2_with (first
    | (go_at_call 73; refine (C1.out).mono ?_; clear C1; rintro e w1 ⟨rfl, hB⟩; have H1 := Lib.hid (And.intro (er_below H.out hB) hB); clear hB)
    | fail)
  have hb2 : Below W.heap.size W ((w1.alloc (.cells #[.int .i64 (E.K.tm 0), .int .i64 (E.K.tm 1), .int .i64 (E.K.tm 2)] 27)).alloc (.cells #[.int .i64 (E.K.off 0), .int .i64 (E.K.off 1), .int .i64 (E.K.off 2)] 27)) := (H1.out.2.alloc H1.out.2.size _).alloc (by have := H1.out.2.size; simp; omega) _
  have hn2 := (Below.heap_alloc (w1.alloc (.cells #[.int .i64 (E.K.tm 0), .int .i64 (E.K.tm 1), .int .i64 (E.K.tm 2)] 27)) (.cells #[.int .i64 (E.K.off 0), .int .i64 (E.K.off 1), .int .i64 (E.K.off 2)] 27) w1.heap.size (by simp)).trans (heap_alloc_new w1 (.cells #[.int .i64 (E.K.tm 0), .int .i64 (E.K.tm 1), .int .i64 (E.K.tm 2)] 27))
  have hs2 : ((w1.alloc (.cells #[.int .i64 (E.K.tm 0), .int .i64 (E.K.tm 1), .int .i64 (E.K.tm 2)] 27)).alloc (.cells #[.int .i64 (E.K.off 0), .int .i64 (E.K.off 1), .int .i64 (E.K.off 2)] 27)).heap.size = w1.heap.size + 2 := by simp
  have hs1 := H1.out.2.size
  obtain ⟨W2, hW2⟩ : ∃ W2, (w1.alloc (.cells #[.int .i64 (E.K.tm 0), .int .i64 (E.K.tm 1), .int .i64 (E.K.tm 2)] 27)).alloc (.cells #[.int .i64 (E.K.off 0), .int .i64 (E.K.off 1), .int .i64 (E.K.off 2)] 27) = W2 := ⟨_, rfl⟩
  rw [hW2] at hb2 hn2 hs2 ⊢
  have HB2 := Lib.hid hb2
  have HE2 : Hid (ER A E W2.drew) := Lib.hid (er_drew (er_below H.out hb2))
  have HN2 := Lib.hid hn2
  obtain ⟨g, hg⟩ : ∃ g, w1.heap.size = g := ⟨_, rfl⟩
  rw [hg] at hn2 HN2 hs1 hs2 ⊢
  have hgl : g < W2.heap.size := by omega
  obtain ⟨⟨m, -, e0, e1, e2, e3⟩, r, ⟨c0, c1, c2, c3⟩, -⟩ := HR.out _ E (er_below H.out hb2) HI.out
  obtain ⟨⟨o0, -⟩, ⟨o1, -⟩, o2, -⟩ := cells3 hn2
  clear hW2 hg hb2 hn2 H1
  go_region_held3 (fun w => w.cell? ⟨A.e, 1, none⟩ = some (.slice (some ⟨A.lb, 0, none⟩) E.n A.cap) ∧ w.cell? ⟨A.lb, i, none⟩ = some (ptr (A.cb i)) ∧ w.cell? ⟨A.cb i, 0, none⟩ = some (ptr (A.ba i).bb) ∧ w.cell? ⟨g, 0, none⟩ = some (.int .i64 (E.K.tm 0)) ∧ w.cell? ⟨g, 1, none⟩ = some (.int .i64 (E.K.tm 1)) ∧ w.cell? ⟨g, 2, none⟩ = some (.int .i64 (E.K.tm 2))) (first | exact ⟨e1, r, c0, o0, o1, o2⟩ | exact ⟨f1, f2, f3, p0, p1, p2⟩ | assumption | (go_keep; done)) (first
    | (go_simp; go_at_call 106; refine (C3.out _ HE2.out).mono ?_; clear C3; rintro e w3 ⟨v, rfl, hot, hbr, hgf⟩; have HE3 := Lib.hid (HF.out _ _ HE2.out hbr hgf); have hn3 := (hgf.block g hgl (fun e => by have := HL.out g (has_ba HI.out (foot_has g e)); omega)).trans HN2.out; obtain ⟨pv, mv, cv, rfl⟩ := own_slice hot; have HN3 := Lib.hid hn3; have HOT := Lib.hid (And.intro hot hgf); obtain ⟨⟨-, -, -, f1, -, -⟩, f2, ⟨f3, -, -, -⟩, -⟩ := HR.out _ _ HE3.out HI.out; obtain ⟨⟨p0, -⟩, ⟨p1, -⟩, p2, -⟩ := cells3 hn3; clear hn3 hot hbr hgf)
    | fail)
  have hml := own_len HOT.out.1
  have HJ0 : Hid (FiJ A E i lazy W g (.slice pv mv cv) 0 (.slice none 0 0) w3) := by
    have hg2 : GF (A.has E.n) W w3 := gf_trans (gf_drew (gf_below HB2.out)) (gf_mono HOT.out.2 fun x hx => has_ba HI.out (foot_has x hx))
    have hsz : W.heap.size ≤ W2.drew.heap.size := HB2.out.size
    have hlt : ∀ k, (Value.slice pv mv cv).ownBlock = some k → W2.heap.size ≤ k := fun k hk => (ot_lt HOT.out.1 k hk).1
    refine Lib.hid ⟨?_, ft_nil _ _, HE3.out, HN3.out, ⟨by omega, fun e => by have := hlt g e; omega, by simp [Value.ownBlock]⟩, fun x hx => by simp [Value.ownBlock], hg2⟩
    have ho := HOT.out.1
    exact ⟨ho.1, by
      rcases ho.2 with h1 | ⟨gb, cap, cur, h1, hb, hrest⟩
      · exact .inl h1
      · exact .inr ⟨gb, cap, cur, h1, Nat.le_trans hsz hb, hrest⟩⟩
  have hmx : (mv : Nat) = (E.exp i lazy).length := hml
  have HMX := Lib.hid hmx
  have HBD : Hid (mv ≤ 384) := Lib.hid (by
    have := exn_len lazy E.K.tm (fun q hq => hlen q hq) 6 (by omega)
    rw [hmx]
    exact this)
  clear hml hmx HE2 HB2 HN3 HOT HN2 HE3 f1 f2 f3 p0 p1 p2
  go_wp2_with fail
  go_loopg [7, 11, 31] mv (fun n s7 s11 s31 wr => ∃ k : Nat, k + n = mv ∧ s31 = .int .i64 k ∧ Hid (FiJ A E i lazy W g (.slice pv mv cv) k s7 wr))
  case atStart => exact ⟨0, by omega, rfl, HJ0⟩
  case round =>
    obtain ⟨k, hk, rfl, HJ⟩ := hrel
    clear HJ0
    by_cases hkm : k = mv
    · subst hkm
      clear hk
      go_wp2_with fail
      go_ret
      have e : (E.exp i lazy).take k = E.exp i lazy := List.take_of_length_le (by rw [HMX.out]; exact Nat.le_refl _)
      have h1 := HJ.out.ft
      have h2 := HJ.out.er
      unfold En.fk at h2
      rw [e] at h1 h2
      exact ⟨⟨u7, rfl, h1⟩, h2, HJ.out.gf⟩
    · obtain ⟨t, ht⟩ : ∃ t, (E.exp i lazy)[k]? = some t := ⟨_, List.getElem?_eq_getElem (by rw [← HMX.out]; omega)⟩
      obtain ⟨-, gb, rfl, hgb1, hgb2, x0, x1, x2, x3, x4⟩ := ot_get HJ.out.ot ht
      obtain ⟨hwf, hc0, hc3⟩ := HX.out t (List.mem_of_getElem? ht)
      have HT := Lib.hid ht
      obtain ⟨id, tc, ts, th, tl⟩ := t
      dsimp only at hc0 hc3 x0 x1 x2 x3 x4
      obtain ⟨c, rfl⟩ : ∃ c : Nat, tc = c := ⟨tc.toNat, by omega⟩
      have HWF := Lib.hid hwf
      have hkm2 : (k : Int) < (mv : Int) := by omega
      have hkm3 : k < mv := by omega
      have hw1 : IntKind.i64.wrap ((k : Int) + 1) = (k : Int) + 1 := iw (by omega) (by have := HBD.out; omega)
      have HKM := Lib.hid hkm
      have HK := Lib.hid hk
      clear ht hwf hkm hk hc0
      go_wp2_with fail
      have hnt := heap_alloc_new wr (.cells #[.int .i64 id, .int .i64 c, .int .i64 ts, .int .i64 th, .bool tl] 31)
      have hst : (wr.alloc (.cells #[.int .i64 id, .int .i64 c, .int .i64 ts, .int .i64 th, .bool tl] 31)).heap.size = wr.heap.size + 1 := by simp
      have HER : Hid (ER A (E.fk i lazy k) (wr.alloc (.cells #[.int .i64 id, .int .i64 c, .int .i64 ts, .int .i64 th, .bool tl] 31))) := Lib.hid (er_below HJ.out.er ((Below.refl _ _).alloc (Nat.le_refl _) _))
      have HGW := Lib.hid (heap_alloc_new wr (.cells #[.int .i64 id, .int .i64 c, .int .i64 ts, .int .i64 th, .bool tl] 31))
      obtain ⟨⟨m', -, g0, g1, g2, g3⟩, -, -, -⟩ := HR.out _ _ HER.out HI.out
      have HALL : Hid (∀ x, x < wr.heap.size → (wr.alloc (.cells #[.int .i64 id, .int .i64 c, .int .i64 ts, .int .i64 th, .bool tl] 31)).heap[x]? = wr.heap[x]?) := Lib.hid fun x hx => Below.heap_alloc wr (.cells #[.int .i64 id, .int .i64 c, .int .i64 ts, .int .i64 th, .bool tl] 31) x hx
      have HID := Lib.hid (ki_key HWF.out.id)
      have HOS : Hid (GF (A.has E.n) W (wr.alloc (.cells #[.int .i64 id, .int .i64 c, .int .i64 ts, .int .i64 th, .bool tl] 31))) := Lib.hid (gf_alloc HJ.out.gf _)
      obtain ⟨⟨y0, -⟩, ⟨y1, -⟩, ⟨y2, -⟩, ⟨y3, -⟩, y4, -⟩ := cells5 hnt
      obtain ⟨W4, hW4⟩ : ∃ W4, wr.alloc (.cells #[.int .i64 id, .int .i64 c, .int .i64 ts, .int .i64 th, .bool tl] 31) = W4 := ⟨_, rfl⟩
      rw [hW4] at HOS HER HALL HGW hst g0 g1 g2 g3 y0 y1 y2 y3 y4 ⊢
      obtain ⟨h5, hh5⟩ : ∃ h5, wr.heap.size = h5 := ⟨_, rfl⟩
      rw [hh5] at hst HGW HALL hgb2 y0 y1 y2 y3 y4 ⊢
      have HH5 := Lib.hid hh5
      clear hnt hW4 hh5 x0 x1 x2 x3 x4
      go_still_tail 6, (by kernel_rfl)
      repeat still_step
      try refine wpStill_nil ?_
      change wpList _ _ _ _ _ W4.drew
      refine wpList_drop_mv _ rfl _ _ 45 3 rfl keyed3 Tryz.underlying45 ki_inj (mv_same HER.out.mv rfl) id HID.out rfl rfl ?_
      intro w5 m5 g5
      have hfk : E.fk i lazy (k + 1) = { E.fk i lazy k with wh := fun j => if j = id then none else (E.fk i lazy k).wh j, wn := if ((E.fk i lazy k).wh id).isSome then (E.fk i lazy k).wn - 1 else (E.fk i lazy k).wn } := by
        unfold En.fk
        dsimp only
        rw [List.take_add_one, HT.out]
        show En.mk _ _ _ _ (wdel E.wh E.wn (List.take k (E.exp i lazy) ++ [_])).1 (wdel E.wh E.wn (List.take k (E.exp i lazy) ++ [_])).2 = _
        rw [wdel_snoc]
      have HER5 : Hid (ER A (E.fk i lazy (k + 1)) w5) := Lib.hid (by rw [hfk]; exact er_map (er_drew HER.out) g5 m5)
      have hmb := HL.out A.mb (.inr (.inr (.inr (.inr (.inl rfl)))))
      have h4s : W4.drew.heap.size = h5 + 1 := hst
      have hWh : W.heap.size ≤ h5 := by have := HJ.out.gf.size; have := HH5.out; omega
      have HB5 : Hid (∀ x, W.heap.size ≤ x → x < h5 → w5.heap[x]? = wr.heap[x]?) := Lib.hid fun x hx1 hx2 => (g5.block x (by omega) (by omega) (by omega)).trans (HALL.out x hx2)
      have hn5 := (g5.block h5 (by omega) (by omega) (by omega)).trans HGW.out
      have hgh : g < h5 := by have := (Array.getElem?_eq_some_iff.1 HJ.out.gc).1; have := HH5.out; omega
      have hng := HJ.out.ng.1
      have hg5 := (HB5.out g hng hgh).trans HJ.out.gc
      have h5s : h5 + 1 ≤ w5.heap.size := by have := g5.size; omega
      have HG5 := Lib.hid (show GF (A.has E.n) W w5 from gf_trans (gf_drew HOS.out) (gf_g2 g5 (.inr (.inr (.inr (.inr (.inl rfl))))) (.inr (.inr (.inr (.inr (.inl rfl)))))))
      clear y0 y1 y2 y3 y4 g0 g1 g2 g3 m5 g5 hfk h4s
      obtain ⟨⟨y0, -⟩, ⟨y1, -⟩, -⟩ := cells5 hn5
      have oc : w5.cell? ⟨g, c, none⟩ = some (.int .i64 (E.K.tm c)) := by
        obtain ⟨⟨o0, -⟩, ⟨o1, -⟩, o2, -⟩ := cells3 hg5
        rcases (show c = 0 ∨ c = 1 ∨ c = 2 by omega) with rfl | rfl | rfl
        · exact o0
        · exact o1
        · exact o2
      obtain ⟨⟨o0, -⟩, -⟩ := cells3 hg5
      have HG5c := Lib.hid hg5
      have HFT : Hid (FT W.heap.size u7 (((E.exp i lazy).take k).map (fd E.K i)) (w5.drew.alloc (.cells #[.int .i64 id, .int .i64 c, .int .i64 i, .int .i64 (E.K.tm 0), .int .i64 (E.K.tm c)] 48))) := Lib.hid (World.ownsRow.alloc (ft_same (w' := w5.drew) HJ.out.ft fun x hx => HB5.out x (ft_lt HJ.out.ft x hx).1 (by have := (ft_lt HJ.out.ft x hx).2; have := HH5.out; omega)) _)
      have HNW := Lib.hid (own_new w5.drew #[.int .i64 id, .int .i64 c, .int .i64 i, .int .i64 (E.K.tm 0), .int .i64 (E.K.tm c)] 48 5 1 0 (Nat.zero_le _) rfl (by unfold maxLen; omega))
      have HLE : Hid ((((E.exp i lazy).take k).map (fd E.K i)).length + 1 ≤ 1000000) := Lib.hid (by
        rw [List.length_map, List.length_take]
        have := HBD.out
        omega)
      have HBE : Hid (W.heap.size ≤ (w5.drew.alloc (.cells #[.int .i64 id, .int .i64 c, .int .i64 i, .int .i64 (E.K.tm 0), .int .i64 (E.K.tm c)] 48)).heap.size) := Lib.hid (by simp; show W.heap.size ≤ w5.heap.size + 1; omega)
      have HBW : Hid (∀ w6 : World, (w5.drew.alloc (.cells #[.int .i64 id, .int .i64 c, .int .i64 i, .int .i64 (E.K.tm 0), .int .i64 (E.K.tm c)] 48)).grownBy w6 u7.ownBlock → w6.heap[h5]? = w5.heap[h5]? ∧ w6.heap[g]? = w5.heap[g]?) := Lib.hid fun w6 hgr => by
        have hs : (w5.drew.alloc (.cells #[.int .i64 id, .int .i64 c, .int .i64 i, .int .i64 (E.K.tm 0), .int .i64 (E.K.tm c)] 48)).heap.size = w5.heap.size + 1 := by simp
        have hu : ∀ x, u7.ownBlock = some x → x < h5 := fun x hx => by have := (ft_lt HJ.out.ft x hx).2; have := HH5.out; omega
        exact ⟨(hgr.block h5 (by omega) (fun e => by have := hu h5 e.symm; omega)).trans (Below.heap_alloc w5.drew _ h5 (show h5 < w5.heap.size by omega)), (hgr.block g (by omega) (fun e => HJ.out.ng.2.2 e.symm)).trans (Below.heap_alloc w5.drew _ g (show g < w5.heap.size by omega))⟩
      clear hn5 hg5
      dsimp only [Act.put]
      go_wp2_with fail
      go_region_held3 (fun w => w.cell? ⟨h5, 0, none⟩ = some (.int .i64 id) ∧ w.cell? ⟨h5, 1, none⟩ = some (.int .i64 c) ∧ w.cell? ⟨g, 0, none⟩ = some (.int .i64 (E.K.tm 0)) ∧ w.cell? ⟨g, c, none⟩ = some (.int .i64 (E.K.tm c))) (first | exact ⟨y0, y1, o0, oc⟩ | exact ⟨z0, z1, z2, z3⟩ | assumption | (go_keep; done)) (first
        | (refine step_app rfl _ _ 34 rfl Tryz.underlying34 info48z rfl (by omega) (by omega) ?_ ?_ HFT.out HNW.out (fdcs_one [⟨id, c, i, E.K.tm 0, E.K.tm c⟩]) HLE.out HBE.out ?_; rfl; rfl; intro v2 w6 hown hgrow hloc; obtain ⟨p2, m2, c2, rfl⟩ := own_slice hown; have hbw := HBW.out w6 hgrow; have z0 := (World.cell?_of_block (a := ⟨h5, 0, none⟩) hbw.1).trans y0; have z1 := (World.cell?_of_block (a := ⟨h5, 1, none⟩) hbw.1).trans y1; have z2 := (World.cell?_of_block (a := ⟨g, 0, none⟩) hbw.2).trans o0; have z3 := (World.cell?_of_block (a := ⟨g, c, none⟩) hbw.2).trans oc; have HH := Lib.hid (And.intro hown (And.intro hgrow hloc)); clear hown hgrow hloc hbw)
        | fail)
      have HJ6 : Hid (FiJ A E i lazy W g (.slice (some ⟨gb, 0, none⟩) mv cv) (k + 1) (.slice p2 m2 c2) w6) := by
        have hgr := HH.out.2.1
        have hs : (w5.alloc (.cells #[.int .i64 id, .int .i64 c, .int .i64 i, .int .i64 (E.K.tm 0), .int .i64 (E.K.tm c)] 48)).drew.heap.size = w5.heap.size + 1 := by
          show (w5.alloc (.cells #[.int .i64 id, .int .i64 c, .int .i64 i, .int .i64 (E.K.tm 0), .int .i64 (E.K.tm c)] 48)).heap.size = _
          simp
        have hs' : (w5.drew.alloc (.cells #[.int .i64 id, .int .i64 c, .int .i64 i, .int .i64 (E.K.tm 0), .int .i64 (E.K.tm c)] 48)).heap.size = w5.heap.size + 1 := hs
        have hu : ∀ x, u7.ownBlock = some x → W.heap.size ≤ x ∧ x < h5 := fun x hx => by have := ft_lt HJ.out.ft x hx; have := HH5.out; omega
        have hb : ∀ x, x < w5.heap.size → u7.ownBlock ≠ some x → w6.heap[x]? = w5.heap[x]? := fun x hx hn => (hgr.block x (by omega) (fun e => hn e.symm)).trans (Below.heap_alloc w5.drew _ x (show x < w5.heap.size from hx))
        have hlo : ∀ x, x < h5 → u7.ownBlock ≠ some x → (Value.slice p2 m2 c2).ownBlock ≠ some x := fun x hx hn e => by
          rcases HH.out.2.2 with q | q
          · exact hn (q ▸ e)
          · rw [e] at q
            have := Option.some.inj q
            omega
        have hgbv : (Value.slice (some ⟨gb, 0, none⟩) mv cv).ownBlock = some gb := rfl
        refine Lib.hid ⟨?_, ?_, ?_, ?_, ⟨HJ.out.ng.1, HJ.out.ng.2.1, hlo g hgh HJ.out.ng.2.2⟩, ?_, ?_⟩
        · refine ot_same HJ.out.ot fun x hx => ?_
          rw [hgbv] at hx
          obtain rfl := Option.some.inj hx
          exact (hb gb (by omega) (HJ.out.nv gb hgbv)).trans (HB5.out gb hgb1 hgb2)
        · have e1 : (E.exp i lazy).take (k + 1) = (E.exp i lazy).take k ++ [⟨id, c, ts, th, tl⟩] := by rw [List.take_add_one, HT.out]; rfl
          unfold FT
          rw [e1, List.map_append, List.length_append]
          have e2 : fdcs (((E.exp i lazy).take k).map (fd E.K i) ++ [⟨id, c, ts, th, tl⟩].map (fd E.K i)) = fdcs (((E.exp i lazy).take k).map (fd E.K i)) ++ [.int .i64 id, .int .i64 c, .int .i64 i, .int .i64 (E.K.tm 0), .int .i64 (E.K.tm c)] := by simp [fdcs, fdc, fd]
          rw [e2]
          exact HH.out.1
        · refine er_same HER5.out (by have := hgr.size; omega) fun x hx => ?_
          have hxl := HL.out x hx
          exact hb x (by omega) fun e => by have := (hu x e).1; omega
        · exact (hb g (by omega) HJ.out.ng.2.2).trans HG5c.out
        · intro x hx
          rw [hgbv] at hx
          obtain rfl := Option.some.inj hx
          exact hlo gb hgb2 (HJ.out.nv gb hgbv)
        · exact gf_grown (gf_alloc (gf_drew HG5.out) _) hgr fun x hx => .inr (hu x hx).1
      clear HH z0 z1 z2 z3 y0 y1 o0 oc HFT HNW HLE HBE HBW HG5 HG5c HB5 HER5 HER HOS HALL HGW
      go_wp2_with fail
      go_roundg (gk - 1)
      case measure =>
        have h1 := HK.out
        have h2 := HKM.out
        omega
      case rel =>
        have h1 := HK.out
        have h2 := HKM.out
        exact ⟨k + 1, by omega, by simp, HJ6⟩
end Go.Proofs.YtlcaepcojglbiaaGreatDoor.Tp
namespace Go.Proofs.YtlcaepcojglbiaaGreatDoor.Tp
open Go.RowKit
set_option linter.unusedVariables false
set_option linter.unusedSimpArgs false
def En.unlatch (E : En) (i : Nat) : En := E.setc i { E.c i with d := { (E.c i).d with latched := false } }
def En.raise (E : En) (i : Nat) (b : Bool) : En := E.setc i { E.c i with raised := b }
def En.irq (E : En) (i : Nat) : En :=
  let E2 := (E.unlatch i).fired i false
  (E2.raise i ((E2.c i).raised || bdu (E2.c i).b true E2.K.tm 6)).look i
theorem setc_self (E : En) (i : Nat) : E.setc i (E.c i) = E := by
  unfold En.setc
  have : (fun j => if j = i then E.c i else E.c j) = E.c := funext fun j => by
    by_cases e : j = i
    · rw [if_pos e, e]
    · rw [if_neg e]
  rw [this]
theorem unlatch_no {c : Cp} (h : c.d.latched = false) : ({ c with d := { c.d with latched := false } } : Cp) = c := by
  obtain ⟨b, ⟨d1, d2, d3, d4, d5, d6⟩, q, r⟩ := c
  dsimp only at h
  subst h
  rfl
set_option maxHeartbeats 4000000 in
theorem irq_no {A : EA} {E : En} (i : Nat) (W : World) (h : ER A E W) (hi : i < E.n) (hk : (E.c i).d.latched = false) : Calls Tryz.prog 48 #[ptr A.e, .int .i64 (i : Nat)] W fun e W' => e = .returned (.tuple #[.slice none 0 0, .int .i64 8]) ∧ ER A E W' ∧ GF (A.has E.n) W W' := by
  obtain ⟨⟨m, -, e0, e1, e2, e3⟩, r, ⟨c0, c1, c2, c3⟩, -⟩ := er_road h hi
  have C := Lib.hid (take_at W (h.dr i hi))
  rw [hk] at C
  have HF : Hid (∀ w', DR (A.db i) { (E.c i).d with latched := false } w' → G2 (A.db i) (A.db i) W w' → ER A E w') := Lib.hid fun w' hd g => by
    have hh := er_dev h hi g hd
    rw [unlatch_no hk, setc_self] at hh
    exact hh
  have HI := Lib.hid hi
  have hi2 : (i : Int) < (E.n : Int) := by omega
  clear h hk
  go_enter Tryz.func48, Tryz.ntmps48
  go_wp2_with (first
    | (go_at_call 79; refine (C.out).mono ?_; clear C; rintro e w1 ⟨rfl, hd, hg⟩; have HH := Lib.hid (And.intro (HF.out _ hd hg) (gf_g2 (F := A.has E.n) hg (has_db HI.out) (has_db HI.out))); clear hd hg)
    | fail)
  exact bodyPost_ret (results_tmp2 rfl _ _ _) rfl ⟨rfl, HH.out⟩
end Go.Proofs.YtlcaepcojglbiaaGreatDoor.Tp
namespace Go.Proofs.YtlcaepcojglbiaaGreatDoor.Tp
open Go.RowKit
set_option linter.unusedVariables false
set_option linter.unusedSimpArgs false
def En.soft (E : En) (i : Nat) : En := ((E.setc i { E.c i with raised := false }).fired i true).look i
set_option maxHeartbeats 4000000 in
theorem softirq_no {A : EA} {E : En} (i : Nat) (W : World) (h : ER A E W) (hi : i < E.n) (hk : (E.c i).raised = false) : Calls Tryz.prog 49 #[ptr A.e, .int .i64 (i : Nat)] W fun e W' => e = .returned (.tuple #[.slice none 0 0, .int .i64 8]) ∧ W' = W := by
  obtain ⟨⟨m, -, e0, e1, e2, e3⟩, r, ⟨c0, c1, c2, c3⟩, -⟩ := er_road h hi
  rw [hk] at c2
  have hi2 : (i : Int) < (E.n : Int) := by omega
  clear h hk
  go_enter Tryz.func49, Tryz.ntmps49
  go_wp2
  exact bodyPost_ret (results_tmp2 rfl _ _ _) rfl ⟨rfl, rfl⟩
set_option maxHeartbeats 4000000 in
theorem softirq_yes {A : EA} {E : En} (i : Nat) (W : World) (h : ER A E W) (hok : E.K.ok) (hi : i < E.n) (hk : (E.c i).raised = true) (hlen : ∀ q, q < 6 → ((E.c i).b q).length ≤ 64) (hx : ∀ t ∈ E.exp i true, t.wf ∧ 0 ≤ t.clock ∧ t.clock < 3) :
    Calls Tryz.prog 49 #[ptr A.e, .int .i64 (i : Nat)] W fun e W' => (∃ v, e = .returned (.tuple #[v, .int .i64 0]) ∧ FT W.heap.size v ((E.exp i true).map (fd E.K i)) W') ∧ ER A (E.soft i) W' ∧ GF (A.has E.n) W W' := by
  obtain ⟨⟨m, -, e0, e1, e2, e3⟩, r, ⟨c0, c1, c2, c3⟩, z⟩ := er_road h hi
  rw [hk] at c2
  have z3 := z 2 (by omega)
  have hi2 : (i : Int) < (E.n : Int) := by omega
  have hb : (E.setc i { E.c i with raised := false }).c i = { E.c i with raised := false } := if_pos rfl
  have he : (E.setc i { E.c i with raised := false }).exp i true = E.exp i true := by unfold En.exp; rw [hb]; rfl
  have C1 := Lib.hid (fire_at (E := E.setc i { E.c i with raised := false }) i true _ (er_raised false h hi) hok hi (by rw [hb]; exact hlen) (by rw [he]; exact hx))
  rw [he] at C1
  have C2 := Lib.hid (fun w h => look_at (A := A) (E := (E.setc i { E.c i with raised := false }).fired i true) i w h hok hi)
  have HG : Hid (GF (A.has E.n) W (W.setCell ⟨A.cb i, 2, none⟩ (.bool false))) := Lib.hid (gf_set (gf_refl _ _) (.inl (has_cb hi)) _)
  have HI := Lib.hid hi
  have HL := Lib.hid (er_lt h)
  have hsz : (W.setCell ⟨A.cb i, 2, none⟩ (.bool false)).heap.size = W.heap.size := size_set _ _ _
  have HSZ := Lib.hid hsz
  clear h hk z hok hlen hx hb he hsz
  go_enter Tryz.func49, Tryz.ntmps49
  go_wp2_with (first
    | (go_at_call 80; refine (C1.out).mono ?_; clear C1; rintro e w1 ⟨⟨v, rfl, hft⟩, hE, hG⟩; have HE := Lib.hid hE; have HFT := Lib.hid hft; have HG1 := Lib.hid (gf_trans HG.out hG); clear hft hE hG)
    | (go_at_call 43; refine (C2.out _ HE.out).mono ?_; clear C2; rintro e w2 ⟨rfl, hE, hG⟩; have HH := Lib.hid (And.intro hE hG); clear hE hG)
    | fail)
  refine bodyPost_ret (results_tmp2 rfl _ _ _) rfl ⟨⟨v, rfl, ?_⟩, HH.out.1, gf_trans HG1.out (gf_mono HH.out.2 fun x e => (show A.has E.n x by rw [e]; exact has_db HI.out))⟩
  have hf := HFT.out
  rw [HSZ.out] at hf
  refine ft_same hf fun x hx => HH.out.2.block x (ft_lt hf x hx).2 fun e => ?_
  have h1 := HL.out x (by rw [e]; exact has_db HI.out)
  have h2 := (ft_lt hf x hx).1
  omega
end Go.Proofs.YtlcaepcojglbiaaGreatDoor.Tp
namespace Go.Proofs.YtlcaepcojglbiaaGreatDoor.Tp
open Go.RowKit
set_option linter.unusedVariables false
set_option linter.unusedSimpArgs false
section
variable {A : EA} {E : En}
set_option maxHeartbeats 4000000 in
theorem enow_at (k : Nat) (hk : k < 3) (W : World) (h : ER A E W) (hok : E.K.ok) : Calls Tryz.prog 9 #[ptr A.e, .int .i64 (k : Nat)] W fun e W' => e = .returned (.tuple #[.int .i64 (E.K.tm k), .bool true]) ∧ Below W.heap.size W W' := by
  have C : Hid (Calls Tryz.prog 30 #[ptr A.ck, .int .i64 (k : Nat)] W fun e W' => e = .returned (.tuple #[.int .i64 (E.K.tm k), .bool true]) ∧ Below W.heap.size W W') := Lib.hid (cnow_at (c := A.ck) (K := E.K) k hk W h.ck hok)
  obtain ⟨m, hm, -⟩ := h.eb
  obtain ⟨⟨e0, -⟩, -⟩ := cells4 hm
  clear h hok hm hk
  go_enter Tryz.func9, Tryz.ntmps9
  go_wp2_with (first | (go_at_call 30; refine (C.out).mono ?_; clear C; rintro e w1 ⟨rfl, hB⟩; have HB := Lib.hid hB; clear hB) | fail)
  exact bodyPost_ret (results_tmp2 rfl _ _ _) rfl ⟨rfl, HB.out⟩
set_option maxHeartbeats 4000000 in
theorem elen_at (W : World) (h : ER A E W) : Calls Tryz.prog 11 #[ptr A.e] W fun e W' => e = .returned (.int .i64 (E.wn : Nat)) ∧ W' = W := by
  have HV := Lib.hid h.mv
  obtain ⟨m, hm, -⟩ := h.eb
  obtain ⟨-, -, -, e3, -⟩ := cells4 hm
  clear h hm
  go_enter Tryz.func11, Tryz.ntmps11
  go_wp2_with (first | (at_len; refine wpList_len_mv _ rfl _ 45 rfl Tryz.underlying45 HV.out rfl ?_) | fail)
  go_ret
  exact ⟨rfl, rfl⟩
set_option maxHeartbeats 4000000 in
theorem eonline_at (W : World) (h : ER A E W) : Calls Tryz.prog 64 #[ptr A.e] W fun e W' => ∃ v, e = .returned v ∧ IT W.heap.size v (onl E.on 16) W' ∧ Below W.heap.size W W' := by
  obtain ⟨m, hm, hk⟩ := h.eb
  have C := Lib.hid (mlist_at hk W)
  obtain ⟨-, -, ⟨e2, -⟩, -⟩ := cells4 hm
  clear h hm hk
  go_enter Tryz.func64, Tryz.ntmps64
  go_wp2_with (first | (go_at_call 53; refine (C.out).mono ?_; clear C; rintro e w1 ⟨v, rfl, hI, hB⟩; have HH := Lib.hid (And.intro hI hB); clear hI hB) | fail)
  go_ret
  exact ⟨_, rfl, HH.out⟩
end
end Go.Proofs.YtlcaepcojglbiaaGreatDoor.Tp
