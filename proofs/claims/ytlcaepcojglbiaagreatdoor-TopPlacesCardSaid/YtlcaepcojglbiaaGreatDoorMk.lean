/- The queue: its first and the appends: a part of the walk of the whole machine. For all states that the readings allow. -/
import Derived.Maps.AppendAt
import Derived.Deep.AppendSrc
import Derived.Deep.Upon
import Derived.Test.YtlcaepcojglbiaaGreatDoorMi
namespace Go.Proofs.YtlcaepcojglbiaaGreatDoor.Tp
open Go.RowKit
set_option linter.unusedVariables false
set_option linter.unusedSimpArgs false
/-- What First tells. -/
def fsv : List Tm → Value
  | [] => .tuple #[tmv tm0, .bool false]
  | t :: _ => .tuple #[tmv t, .bool true]
set_option maxRecDepth 100000 in
set_option maxHeartbeats 4000000 in
theorem qfirst_at {a : QA} {L : List Tm} (W : World) (h : QR a L W) : Calls Tryz.prog 102 #[ptr a.q] W fun e W' => e = .returned (fsv L) ∧ Below W.heap.size W W' := by
  obtain ⟨S, ps, fs, m, f1, f2, hx⟩ := h.x
  have HX := Lib.hid (qx_same hx (W' := W.alloc (.cells #[.int .i64 0, .int .i64 0, .int .i64 0, .int .i64 0, .bool false] 31)) (by simp) fun i hi => Below.heap_alloc W _ i (qr_lt h i (.inr hi)))
  have C1 := Lib.hid (tfirst_at _ HX.out.tr HX.out.ti)
  have HN := Lib.hid (heap_alloc_new W (.cells #[.int .i64 0, .int .i64 0, .int .i64 0, .int .i64 0, .bool false] 31))
  have HB := Lib.hid ((Below.refl W.heap.size W).alloc (Nat.le_refl _) (.cells #[.int .i64 0, .int .i64 0, .int .i64 0, .int .i64 0, .bool false] 31))
  have c0 := h.c0
  have c1 := h.c1
  have c2 := h.c2
  have hq := h.lt
  have hqn : ¬ a.q = W.heap.size := by omega
  cases ps with
  | nil =>
    obtain rfl : L = [] := hx.l
    clear h hx HX
    rw [show hnd (([] : List Nat).headD 0) (S.N (([] : List Nat).headD 0)).turn = .tuple #[.agg #[.int .i64 0, .int .i64 0], .bool false] from if_pos rfl] at C1
    go_enter Tryz.func102, Tryz.ntmps102
    go_wp2_with (first
      | (go_at_call 123; refine (C1.out).mono ?_; clear C1; rintro e w1 ⟨rfl, hB⟩; have hn := (hB.block W.heap.size (by simp)).trans HN.out; have HN1 := Lib.hid hn; obtain ⟨⟨k0, z0⟩, ⟨k1, z1⟩, ⟨k2, z2⟩, ⟨k3, z3⟩, k4, z4⟩ := cells5 hn; have hs1 := (Array.getElem?_eq_some_iff.1 hn).1; have hne : ¬ W.heap.size = w1.heap.size := (by omega); have HB1 := Lib.hid (HB.out.trans (hB.mono HB.out.size)); clear hn hB)
      | fail)
    exact bodyPost_ret (results_cell_row_tmp Tryz.results102 _ _ W.heap.size 31 _ (0, 0) _ rfl ((Below.heap_alloc _ _ _ (by simp only [size_set]; exact hs1)).trans (set5 HN1.out _ _ _ _ _)) Tryz.underlying31 rfl (by kernel_rfl)) rfl ⟨rfl, (below_set5 HB1.out (Nat.le_refl _) _ _ _ _ _).alloc (by have := HB1.out.size; simp only [size_set]; omega) _⟩
  | cons p ps =>
    obtain rfl : L = m p :: ps.map m := hx.l
    have hp0 : p ≠ 0 := by have := (hx.ti.bd p (by simp)).1; omega
    have hp65 : p < 65 := by have := (hx.ti.bd p (by simp)).2; have := hx.ti.mx; omega
    rw [show hnd ((p :: ps).headD 0) (S.N ((p :: ps).headD 0)).turn = .tuple #[.agg #[.int .i64 p, .int .i64 (S.N p).turn], .bool true] from if_neg hp0] at C1
    have hw := hx.wf p (by simp)
    have htu := hx.ti.tu p
    obtain ⟨lk, hlk⟩ := kh_key (p := ((p : Int), (S.N p).turn)) (by omega) (by exact htu)
    have hf2 := qx_f2 hx (p := p) (by simp)
    have hf1 : f1 (m p).id = some ⟨m p, p, (S.N p).turn⟩ := (hx.g1 _ _).2 ⟨p, by simp, rfl, rfl⟩
    have HRUN : Hid (∀ w, MV 3 ki entv a.mb (p :: ps).length f1 w → MV 171 kh ki a.ms (p :: ps).length f2 w →
        (Instr.lookup 145 (.map (some a.ms)) (.agg #[.int .i64 p, .int .i64 (S.N p).turn]) false).run Tryz.prog w = .ok (.int .i64 (m p).id) w ∧
        (Instr.lookup 144 (.map (some a.mb)) (.int .i64 (m p).id) false).run Tryz.prog w = .ok (entv ⟨m p, p, (S.N p).turn⟩) w) := Lib.hid fun w v1 v2 => by
      have r2 := mv_look v2 keyed171 Tryz.underlying145 (zero3 w) kh_inj false ((p : Int), (S.N p).turn) hlk
      rw [hf2] at r2
      have r1 := mv_look v1 keyed3 Tryz.underlying144 (zero177 w) ki_inj false (m p).id (ki_key hw.id)
      rw [hf1] at r1
      exact ⟨r2, r1⟩
    have HQB := Lib.hid (fun w (hB : Below (W.alloc (.cells #[.int .i64 0, .int .i64 0, .int .i64 0, .int .i64 0, .bool false] 31)).heap.size (W.alloc (.cells #[.int .i64 0, .int .i64 0, .int .i64 0, .int .i64 0, .bool false] 31)) w) =>
      And.intro (mv_same HX.out.v1 (hB.block a.mb (mv_lt HX.out.v1))) (mv_same HX.out.v2 (hB.block a.ms (mv_lt HX.out.v2))))
    obtain ⟨tu, htu'⟩ : ∃ tu, (S.N p).turn = tu := ⟨_, rfl⟩
    obtain ⟨t, ht⟩ : ∃ t, m p = t := ⟨_, rfl⟩
    rw [htu'] at C1 HRUN
    rw [ht] at HRUN ⊢
    obtain ⟨ti, tc, ts, th, tl⟩ := t
    clear h hx HX hw htu hlk hf2 hf1 htu' ht
    go_enter Tryz.func102, Tryz.ntmps102
    go_wp2_with (first
      | (go_at_call 123; refine (C1.out).mono ?_; clear C1; rintro e w1 ⟨rfl, hB⟩; have hn := (hB.block W.heap.size (by simp)).trans HN.out; have HN1 := Lib.hid hn; obtain ⟨⟨k0, z0⟩, ⟨k1, z1⟩, ⟨k2, z2⟩, ⟨k3, z3⟩, k4, z4⟩ := cells5 hn; have hs1 := (Array.getElem?_eq_some_iff.1 hn).1; have hne : ¬ W.heap.size = w1.heap.size := (by omega); have HB1 := Lib.hid (HB.out.trans (hB.mono HB.out.size)); have HMV := Lib.hid (HQB.out w1 hB); have d0 := (World.cell?_of_block (a := ⟨a.q, 0, none⟩) (HB1.out.block a.q hq)).trans c0; have d1 := (World.cell?_of_block (a := ⟨a.q, 1, none⟩) (HB1.out.block a.q hq)).trans c1; have d2 := (World.cell?_of_block (a := ⟨a.q, 2, none⟩) (HB1.out.block a.q hq)).trans c2; clear hn hB)
      | fail)
    have hq1 : a.q < w1.heap.size := by have := HB1.out.size; omega
    have hn2 := heap_alloc_new w1 (.cells #[.int .i64 p, .int .i64 tu] 171)
    have hn1 := (Below.heap_alloc w1 (.cells #[.int .i64 p, .int .i64 tu] 171) W.heap.size hs1).trans HN1.out
    have HE := Lib.hid (HRUN.out (w1.alloc (.cells #[.int .i64 p, .int .i64 tu] 171)).drew (mv_same HMV.out.1 (Below.heap_alloc w1 _ _ (mv_lt HMV.out.1))) (mv_same HMV.out.2 (Below.heap_alloc w1 _ _ (mv_lt HMV.out.2))))
    have e1 := (World.cell?_of_block (a := ⟨a.q, 1, none⟩) (Below.heap_alloc w1 (.cells #[.int .i64 p, .int .i64 tu] 171) a.q hq1)).trans d1
    have e2 := (World.cell?_of_block (a := ⟨a.q, 2, none⟩) (Below.heap_alloc w1 (.cells #[.int .i64 p, .int .i64 tu] 171) a.q hq1)).trans d2
    have HB2 := Lib.hid (HB1.out.alloc HB1.out.size (.cells #[.int .i64 p, .int .i64 tu] 171))
    obtain ⟨g, hg⟩ : ∃ g, w1.heap.size = g := ⟨_, rfl⟩
    rw [hg] at hn2 hne
    obtain ⟨w2, hw2⟩ : ∃ w2, w1.alloc (.cells #[.int .i64 p, .int .i64 tu] 171) = w2 := ⟨_, rfl⟩
    rw [hw2] at hn2 hn1 HE e1 e2 HB2 ⊢
    rw [hg]
    have HN2 := Lib.hid hn1
    clear k0 z0 k1 z1 k2 z2 k3 z3 k4 z4 d0 d1 d2 hw2 HMV HB1 HN1 hq1 hg hs1 c0 c1 c2 HB HN HQB HRUN
    obtain ⟨⟨j0, y0⟩, j1, y1⟩ := cells2 hn2
    obtain ⟨r2, r1⟩ := HE.out
    have hdr : w2.drew = { heap := w2.heap, tape := w2.tape, drawn := w2.drawn + 1, os := w2.os, output := w2.output } := rfl
    rw [hdr] at r1 r2
    clear hn2 hn1 hdr
    go_still_tail 12, (by kernel_rfl)
    refine wpStill_look rfl 145 _ _ false rfl _ _ _ rfl rfl r2 ?_
    refine wpStill_look rfl 144 _ _ false rfl _ _ (.agg #[.int .i64 ti, .int .i64 tc, .int .i64 ts, .int .i64 th, .bool tl, .int .i64 p, .int .i64 tu]) rfl rfl r1 ?_
    refine wpStill_field rfl 177 _ 0 rfl _ _ rfl (run_field177 _ _ _ _ _ _ _ _) ?_
    refine wpStill_nil ?_
    change wpList _ _ _ _ _ w2.drew
    obtain ⟨⟨k0, z0⟩, ⟨k1, z1⟩, ⟨k2, z2⟩, ⟨k3, z3⟩, k4, z4⟩ := cells5 HN2.out
    clear r1 r2 e1 e2 HE j0 j1 y0 y1
    go_wp2
    exact bodyPost_ret (results_cell_row_tmp Tryz.results102 _ _ W.heap.size 31 _ (0, 0) _ rfl (set5 (W := w2.drew) HN2.out _ _ _ _ _) Tryz.underlying31 rfl (by kernel_rfl)) rfl ⟨rfl, below_set5 (below_drew HB2.out) (Nat.le_refl _) _ _ _ _ _⟩
end Go.Proofs.YtlcaepcojglbiaaGreatDoor.Tp
namespace Go.Proofs.YtlcaepcojglbiaaGreatDoor.Tp
open Go.RowKit
set_option linter.unusedVariables false
set_option linter.unusedSimpArgs false
/-! append, of whatever lies in a row. -/
theorem run_app {P : Program} (w : World) {t e ty : TypeId} {z : Value} {size bytes : Nat} (ht : P.underlying t = some (.slice e)) (hinfo : (P.info? e).map (fun i => (i.zero, i.size, i.bytes)) = some (some z, size, bytes)) (hzs : z.cells.size = size) (hsz : 0 < size) (hby : bytes ≤ 100)
    {base bx n m : Nat} {v vx : Value} {xs news : List Value} (hown : w.ownsRow base e size v n xs) (hownx : w.ownsRow bx e size vx m news) (h1 : ∀ u ∈ news, u.oneCell' = true) (hnm : n + m ≤ 1000000) (hbase : base ≤ w.heap.size) :
    ∃ v' w', (Builtin.append_ #[t, t] ty #[v, vx]).run P w = .ok v' w' ∧ w'.ownsRow base e size v' (n + m) (xs ++ news) ∧ w.grownBy w' v.ownBlock ∧ (v'.ownBlock = v.ownBlock ∨ v'.ownBlock = some w.heap.size) := by
  obtain ⟨i, hi, hz⟩ := Option.map_eq_some_iff.1 hinfo
  simp only [Prod.mk.injEq] at hz
  rcases hownx.2 with ⟨rfl, rfl⟩ | ⟨g, cap, cur, rfl, hbg, hg, hnc, hcm, hcs, htake⟩
  · have hn : news = [] := List.eq_nil_of_length_eq_zero (by simpa using hownx.1)
    subst hn
    have hsrc : Src P i.size t (.slice none 0 0) 0 [] w := Src.ofNil w ht 0
    rcases hown.2 with ⟨rfl, rfl⟩ | ⟨g, cap, cur, rfl, hbg, hg, hnc, hcm, hcs, htake⟩
    · exact ⟨_, w, run_append_nothing w t t ty e i ht hi none 0 0 (Nat.le_refl _) _ hsrc, by simpa using hown, ⟨rfl, rfl, rfl, Nat.le_refl _, fun _ _ _ => rfl⟩, .inl rfl⟩
    · exact ⟨_, w, run_append_nothing w t t ty e i ht hi _ _ _ hnc _ hsrc, by simpa using hown, ⟨rfl, rfl, rfl, Nat.le_refl _, fun _ _ _ => rfl⟩, .inl rfl⟩
  · obtain ⟨v', w', hr, a1, a2, _, a4⟩ := run_append_own_at (P := P) w base t ty e i z size bytes ht hi hz.1 hz.2.1 hz.2.2 hzs hsz v n xs hown ⟨g, 0, none⟩ m cap news hownx.1 (hownx.cells (g := g) rfl) h1 (by unfold maxLen; omega) (Nat.le_trans (Nat.mul_le_mul hnm hby) (by omega)) hbase
    exact ⟨v', w', hr, a1, a2, a4⟩
theorem wpList_app {P : Program} (w : World) {ops : Array Oper} {rest : List Oper} {o : Oper} {a : Act} {Q : Exit → Act → World → Prop} (hgd : o.guard = none) (s x : Operand) (t : TypeId)
    (ho : o.op = .call { callee := .builtin .append, args := #[s, x], argTypes := #[t, t] }) {e : TypeId} {z : Value} {size bytes : Nat} (ht : P.underlying t = some (.slice e)) (hinfo : (P.info? e).map (fun i => (i.zero, i.size, i.bytes)) = some (some z, size, bytes)) (hzs : z.cells.size = size) (hsz : 0 < size) (hby : bytes ≤ 100)
    {base bx n m : Nat} {v vx : Value} {xs news : List Value} (hs : a.eval s = v) (hx : a.eval x = vx) (hown : w.ownsRow base e size v n xs) (hownx : w.ownsRow bx e size vx m news) (h1 : ∀ u ∈ news, u.oneCell' = true) (hnm : n + m ≤ 1000000) (hbase : base ≤ w.heap.size)
    (h : ∀ v' w', w'.ownsRow base e size v' (n + m) (xs ++ news) → w.grownBy w' v.ownBlock → (v'.ownBlock = v.ownBlock ∨ v'.ownBlock = some w.heap.size) → wpList P ops Q rest (a.put o.dst v') w') : wpList P ops Q (o :: rest) a w := by
  refine wpList_plain hgd fun K hK => ?_
  obtain ⟨v', w', hr, h2, h3, h4⟩ := run_app w (ty := o.type) ht hinfo hzs hsz hby hown hownx h1 hnm hbase
  unfold Oper.wp execOp
  simp only [ho, resolve, invoke, builtin, Sem.run_bind, Sem.run_pure, Result.andThen_ok, List.map_toArray, List.map_cons, List.map_nil, hs, hx, hr]
  exact hK _ _ (h v' w' h2 h3 h4)
/-- .. in a region that draws its order. -/
theorem step_app {P : Program} {w : World} {ops : Array Oper} {o : Oper} {a : Act} {K : Act → World → Prop} {Q : Exit → Act → World → Prop} {E : Prop} (hgd : o.guard = none) (s x : Operand) (t : TypeId)
    (ho : o.op = .call { callee := .builtin .append, args := #[s, x], argTypes := #[t, t] }) {e : TypeId} {z : Value} {size bytes : Nat} (ht : P.underlying t = some (.slice e)) (hinfo : (P.info? e).map (fun i => (i.zero, i.size, i.bytes)) = some (some z, size, bytes)) (hzs : z.cells.size = size) (hsz : 0 < size) (hby : bytes ≤ 100)
    {base bx n m : Nat} {v vx : Value} {xs news : List Value} (hs : a.eval s = v) (hx : a.eval x = vx) (hown : w.ownsRow base e size v n xs) (hownx : w.ownsRow bx e size vx m news) (h1 : ∀ u ∈ news, u.oneCell' = true) (hnm : n + m ≤ 1000000) (hbase : base ≤ w.heap.size)
    (h : ∀ v' w', w'.ownsRow base e size v' (n + m) (xs ++ news) → w.grownBy w' v.ownBlock → (v'.ownBlock = v.ownBlock ∨ v'.ownBlock = some w.heap.size) → K (a.put o.dst v') w') :
    if Region.wanted o (yielded ops a.tmps) = true then Oper.wp P o a w K Q else E := by
  have hw : Region.wanted o (yielded ops a.tmps) = true := by simp [Region.wanted, hgd]
  rw [if_pos hw]
  obtain ⟨v', w', hr, h2, h3, h4⟩ := run_app w (ty := o.type) ht hinfo hzs hsz hby hown hownx h1 hnm hbase
  unfold Oper.wp execOp
  simp only [ho, resolve, invoke, builtin, Sem.run_bind, Sem.run_pure, Result.andThen_ok, List.map_toArray, List.map_cons, List.map_nil, hs, hx, hr]
  exact h v' w' h2 h3 h4
theorem gf_grown {F : Nat → Prop} {x y z : World} (h : GF F x y) {row : Option Nat} (g : y.grownBy z row) (hr : ∀ k, row = some k → F k ∨ x.heap.size ≤ k) : GF F x z :=
  ⟨g.os.trans h.os, g.tape.trans h.tape, g.output.trans h.output, Nat.le_trans h.size g.size, fun i hi h1 => (g.block i (Nat.lt_of_lt_of_le hi h.size) (fun e => by
    rcases hr i e.symm with q | q
    · exact h1 q
    · omega)).trans (h.block i hi h1)⟩
theorem below_grown {B : Nat} {w y z : World} (h : Below B w y) (hB : B ≤ w.heap.size) {row : Option Nat} (g : y.grownBy z row) (hr : ∀ k, row = some k → B ≤ k) : Below B w z :=
  ⟨g.os.trans h.os, g.tape.trans h.tape, g.output.trans h.output, Nat.le_trans h.size g.size, fun i hi => (g.block i (by
    have := h.size
    omega) (fun e => by have := hr i e.symm; omega)).trans (h.block i hi)⟩
/-- A row that was laid whole. -/
theorem own_new (W : World) (cs : Array Value) (e : TypeId) (size n base : Nat) (hb : base ≤ W.heap.size) (hs : cs.size = n * size) (hn : n ≤ maxLen) : (W.alloc (.cells cs e)).ownsRow base e size (.slice (some ⟨W.heap.size, 0, none⟩) n n) n cs.toList :=
  ⟨by simpa using hs, .inr ⟨W.heap.size, n, cs, rfl, hb, heap_alloc_new W _, Nat.le_refl _, hn, hs, by rw [← hs]; exact List.take_of_length_le (by simp)⟩⟩
theorem info31z : (Tryz.prog.info? 31).map (fun i => (i.zero, i.size, i.bytes)) = some (some (tmv tm0), 5, 40) := by kernel_rfl
theorem info48z : (Tryz.prog.info? 48).map (fun i => (i.zero, i.size, i.bytes)) = some (some (.agg #[.int .i64 0, .int .i64 0, .int .i64 0, .int .i64 0, .int .i64 0]), 5, 40) := by kernel_rfl
theorem info3z : (Tryz.prog.info? 3).map (fun i => (i.zero, i.size, i.bytes)) = some (some (.int .i64 0), 1, 8) := by kernel_rfl
def tmcs (L : List Tm) : List Value := L.flatMap tmc
theorem tmcs_one (L : List Tm) : ∀ u ∈ tmcs L, u.oneCell' = true := by
  intro u hu
  obtain ⟨t, _, ht⟩ := List.mem_flatMap.1 hu
  simp only [tmc, List.mem_cons, List.not_mem_nil, or_false] at ht
  rcases ht with rfl | rfl | rfl | rfl | rfl <;> rfl
/-- A row of timers. -/
def OT (base : Nat) (v : Value) (L : List Tm) (w : World) : Prop := w.ownsRow base 31 5 v L.length (tmcs L)
theorem ot_nil (base : Nat) (w : World) : OT base (.slice none 0 0) [] w := World.ownsRow_nil w base 31 5
theorem ot_same {base : Nat} {v : Value} {L : List Tm} {w w' : World} (h : OT base v L w) (hb : ∀ k, v.ownBlock = some k → w'.heap[k]? = w.heap[k]?) : OT base v L w' := by
  refine ⟨h.1, ?_⟩
  rcases h.2 with hn | ⟨g, cap, cur, rfl, hb1, hg, rest⟩
  · exact .inl hn
  · exact .inr ⟨g, cap, cur, rfl, hb1, (hb g rfl).trans hg, rest⟩
theorem ot_lt {base : Nat} {v : Value} {L : List Tm} {w : World} (h : OT base v L w) : ∀ k, v.ownBlock = some k → base ≤ k ∧ k < w.heap.size := World.ownsRow.lt h
theorem ot_below {base : Nat} {v : Value} {L : List Tm} {w w' : World} (h : OT base v L w) (hb : Below w.heap.size w w') : OT base v L w' := ot_same h fun k hk => hb.block k (ot_lt h k hk).2
end Go.Proofs.YtlcaepcojglbiaaGreatDoor.Tp
