/- The red and black trees: handles and order: a part of the walk of the whole machine. For all states that the readings allow. -/
import Derived.ArgAppend
import Derived.Deep.AppendLies
import Derived.StillTailTactics
import Derived.Deep.MidRow
import Derived.Deep.Upon
import Derived.Test.YtlcaepcojglbiaaGreatDoorMb
namespace Go.Proofs.YtlcaepcojglbiaaGreatDoor.Tp
open Go.RowKit
set_option linter.unusedVariables false
set_option linter.unusedSimpArgs false
def cmpv (a b : Int) : Int := if a < b then -1 else if b < a then 1 else 0
theorem nan_at (a : Int) (W : World) : Calls Tryz.prog 141 #[.int .i64 a] W fun e W' => e = .returned (.bool false) ∧ W' = W := by
  go_enter Tryz.func141, Tryz.ntmps141
  go_wp2
  go_ret
  exact ⟨by simp, rfl⟩
set_option maxRecDepth 100000 in
set_option maxHeartbeats 4000000 in
theorem cmp_at (a b : Int) (W : World) : Calls Tryz.prog 133 #[.int .i64 a, .int .i64 b] W fun e W' => e = .returned (.int .i64 (cmpv a b)) ∧ W' = W := by
  have C := Lib.hid nan_at
  unfold cmpv
  rcases Int.lt_trichotomy a b with h | h | h
  · rw [if_pos h]
    go_enter Tryz.func133, Tryz.ntmps133
    go_wp2_with (first | (go_at_call 141; refine (C.out _ _).mono ?_; rintro e w1 ⟨rfl, rfl⟩) | fail)
    go_ret
    exact ⟨rfl, rfl⟩
  · subst h
    rw [if_neg (by omega), if_neg (by omega)]
    go_enter Tryz.func133, Tryz.ntmps133
    go_wp2_with (first | (go_at_call 141; refine (C.out _ _).mono ?_; rintro e w1 ⟨rfl, rfl⟩) | fail)
    go_ret
    exact ⟨rfl, rfl⟩
  · rw [if_neg (by omega), if_pos h]
    go_enter Tryz.func133, Tryz.ntmps133
    go_wp2_with (first | (go_at_call 141; refine (C.out _ _).mono ?_; rintro e w1 ⟨rfl, rfl⟩) | fail)
    go_ret
    exact ⟨rfl, rfl⟩
set_option maxRecDepth 100000 in
set_option maxHeartbeats 4000000 in
theorem or_at (b : Nat) (x y : Int) (W : World) (h0 : W.cell? ⟨b, 0, none⟩ = some (.int .i64 x)) (h1 : W.cell? ⟨b, 1, none⟩ = some (.int .i64 y)) : Calls Tryz.prog 132 #[.slice (some ⟨b, 0, none⟩) 2 2] W fun e W' => e = .returned (.int .i64 (if x = 0 then y else x)) ∧ W' = W := by
  go_enter Tryz.func132, Tryz.ntmps132
  go_wp2_with fail
  go_loopw [8] (fun v8 w => ∃ (i : Nat), i ≤ 2 ∧ v8 = .int .i64 i ∧ (0 < i → x = 0) ∧ (1 < i → y = 0) ∧ w = W) (fun v8 _ => 2 - (intOf v8).toNat)
  case atStart => exact ⟨0, by omega, rfl, by omega, by omega, rfl⟩
  case round =>
    obtain ⟨i, hi, rfl, hx, hy, rfl⟩ := hrel
    rcases (show i = 0 ∨ i = 1 ∨ i = 2 by omega) with rfl | rfl | rfl
    · by_cases e : x = 0
      · subst e
        go_wp2
        exact ⟨⟨1, by omega, by simp, by simp, by simp, by first | rfl | trivial⟩, by simp [intOf]⟩
      · have hb : (x != 0) = true := by simpa using e
        go_wp2
        go_ret
        exact ⟨by first | rfl | (simp [*]; done), rfl⟩
    · obtain rfl := hx (by omega)
      by_cases e : y = 0
      · subst e
        go_wp2
        exact ⟨⟨2, by omega, by simp, by simp, by simp, by first | rfl | trivial⟩, by simp [intOf]⟩
      · have hb : (y != 0) = true := by simpa using e
        go_wp2
        go_ret
        exact ⟨by first | rfl | (simp [*]; done), rfl⟩
    · obtain rfl := hx (by omega)
      obtain rfl := hy (by omega)
      go_wp2
      go_ret
      exact ⟨by first | rfl | (simp [*]; done), rfl⟩
def orv (x y : Int) : Int := if x = 0 then y else x
def ordv (a b c d : Int) : Int := orv (cmpv a c) (cmpv b d)
theorem or_at' (b : Nat) (x y : Int) (W : World) (h0 : W.cell? ⟨b, 0, none⟩ = some (.int .i64 x)) (h1 : W.cell? ⟨b, 1, none⟩ = some (.int .i64 y)) : Calls Tryz.prog 132 #[.slice (some ⟨b, 0, none⟩) 2 2] W fun e W' => e = .returned (.int .i64 (orv x y)) ∧ W' = W := or_at b x y W h0 h1
theorem cell_new (w : World) (cs : Array Value) (t : TypeId) (i : Nat) (v : Value) (h : cs[i]? = some v) : (w.alloc (.cells cs t)).cell? ⟨w.heap.size, i, none⟩ = some v := by
  have hn := heap_alloc_new w (.cells cs t)
  simp only [World.cell?, hn]
  exact h
set_option maxRecDepth 100000 in
set_option maxHeartbeats 4000000 in
theorem order_at (a b c d : Int) (W : World) : Calls Tryz.prog 118 #[.agg #[.int .i64 a, .int .i64 b], .agg #[.int .i64 c, .int .i64 d]] W fun e W' => e = .returned (.int .i64 (ordv a b c d)) ∧ Below W.heap.size W W' := by
  have C := Lib.hid cmp_at
  have C2 := Lib.hid (fun (W : World) (x y : Int) => or_at' W.heap.size x y (W.alloc (.cells #[.int .i64 x, .int .i64 y] 3)).drew (cell_new W _ 3 0 _ rfl) (cell_new W _ 3 1 _ rfl))
  go_enter Tryz.func118, Tryz.ntmps118
  go_wp2_with fail
  have k1 : ((W.alloc (.cells #[.int .i64 a, .int .i64 b] 175)).alloc (.cells #[.int .i64 c, .int .i64 d] 175)).cell? ⟨W.heap.size, 0, none⟩ = some (.int .i64 a) := (World.cell?_of_block (a := ⟨W.heap.size, 0, none⟩) (Below.heap_alloc _ _ _ (by simp))).trans (cell_new W _ 175 0 _ rfl)
  have k2 : ((W.alloc (.cells #[.int .i64 a, .int .i64 b] 175)).alloc (.cells #[.int .i64 c, .int .i64 d] 175)).cell? ⟨W.heap.size, 1, none⟩ = some (.int .i64 b) := (World.cell?_of_block (a := ⟨W.heap.size, 1, none⟩) (Below.heap_alloc _ _ _ (by simp))).trans (cell_new W _ 175 1 _ rfl)
  have k3 : ((W.alloc (.cells #[.int .i64 a, .int .i64 b] 175)).alloc (.cells #[.int .i64 c, .int .i64 d] 175)).cell? ⟨W.heap.size + 1, 0, none⟩ = some (.int .i64 c) := by
    have h := cell_new (W.alloc (.cells #[.int .i64 a, .int .i64 b] 175)) #[.int .i64 c, .int .i64 d] 175 0 _ rfl
    rw [show (W.alloc (.cells #[.int .i64 a, .int .i64 b] 175)).heap.size = W.heap.size + 1 by simp] at h
    exact h
  have k4 : ((W.alloc (.cells #[.int .i64 a, .int .i64 b] 175)).alloc (.cells #[.int .i64 c, .int .i64 d] 175)).cell? ⟨W.heap.size + 1, 1, none⟩ = some (.int .i64 d) := by
    have h := cell_new (W.alloc (.cells #[.int .i64 a, .int .i64 b] 175)) #[.int .i64 c, .int .i64 d] 175 1 _ rfl
    rw [show (W.alloc (.cells #[.int .i64 a, .int .i64 b] 175)).heap.size = W.heap.size + 1 by simp] at h
    exact h
  have hB : Below W.heap.size W ((W.alloc (.cells #[.int .i64 a, .int .i64 b] 175)).alloc (.cells #[.int .i64 c, .int .i64 d] 175)) := ⟨rfl, rfl, rfl, by simp; omega, fun k hk => (Below.heap_alloc _ _ k (by simp; omega)).trans (Below.heap_alloc W _ k hk)⟩
  have HB := Lib.hid hB
  clear hB
  generalize (W.alloc (.cells #[.int .i64 a, .int .i64 b] 175)).alloc (.cells #[.int .i64 c, .int .i64 d] 175) = W2 at *
  go_region_held3 (fun w => w.cell? ⟨W.heap.size, 0, none⟩ = some (.int .i64 a) ∧ w.cell? ⟨W.heap.size, 1, none⟩ = some (.int .i64 b) ∧ w.cell? ⟨W.heap.size + 1, 0, none⟩ = some (.int .i64 c) ∧ w.cell? ⟨W.heap.size + 1, 1, none⟩ = some (.int .i64 d)) (first | exact ⟨k1, k2, k3, k4⟩ | assumption | (go_keep; done)) (first | (go_simp; go_at_call 133; refine (C.out _ _ _).mono ?_; rintro e w4 ⟨rfl, rfl⟩) | (go_simp; go_at_call 132; refine (C2.out _ _ _).mono ?_; rintro e w5 ⟨rfl, rfl⟩) | fail)
  all_goals
    go_wp2
    go_ret
    refine ⟨rfl, ?_⟩
    have h := (HB.out.alloc HB.out.size (.cells #[.int .i64 (cmpv a c), .int .i64 (cmpv b d)] 3))
    exact ⟨h.os, h.tape, h.output, h.size, h.block⟩
end Go.Proofs.YtlcaepcojglbiaaGreatDoor.Tp
namespace Go.Proofs.YtlcaepcojglbiaaGreatDoor.Tp
open Go.RowKit
set_option linter.unusedVariables false
set_option linter.unusedSimpArgs false
theorem below_drew {B : Nat} {w W : World} (h : Below B w W) : Below B w W.drew := ⟨h.os, h.tape, h.output, h.size, h.block⟩
theorem below_set {base : Nat} {w W : World} (h : Below base w W) {p : Addr} (hp : base ≤ p.block) (x : Value) : Below base w (W.setCell p x) :=
  ⟨h.os, h.tape, h.output, by rw [size_set]; exact h.size, fun i hi => (Below.heap_setCell W p x i (by omega)).trans (h.block i hi)⟩
/-- Results: a struct that lies in a block, and one more. -/
theorem results_cell_row_tmp {P : Program} {fn : Func} {p u : Tmp} {ty : TypeId} (h : fn.results = #[.cell p ty, .tmp u]) (tmps : Array Value) (w : World) (g : Nat) (t : TypeId) (cs : Array Value) (fr : Nat × Nat) (d : TypeDesc)
    (hp : tmps.getD p undef = .pointer (some ⟨g, 0, none⟩)) (hg : w.heap[g]? = some (.cells cs t fr))
    (hu : P.underlying ty = some d) (hd : (match d with | .struct _ | .array _ _ => true | _ => false) = true) (hi : (P.info? ty).map (·.size) = some cs.size) :
    (results fn tmps).run P w = .ok (.tuple #[.agg cs, tmps.getD u undef]) w := by
  rw [results_cell_tmp h]
  rw [hp]
  simp [asAddr, run_loadVar_row w g t ty cs fr d hg hu hd hi, Result.andThen]
theorem cell_of {W : World} {b t : Nat} {c : Array Value} (h : W.heap[b]? = some (.cells c t)) (i : Nat) (v : Value) (hv : c[i]? = some v) : W.cell? ⟨b, i, none⟩ = some v ∧ W.frozen? ⟨b, i, none⟩ = false := by
  constructor
  · simp [World.cell?, h, hv]
  · simp [World.frozen?, h]
theorem set2 {W : World} {g t : Nat} {x0 x1 : Value} (h : W.heap[g]? = some (.cells #[x0, x1] t)) (a b : Value) : ((W.setCell ⟨g, 0, none⟩ a).setCell ⟨g, 1, none⟩ b).heap[g]? = some (.cells #[a, b] t) :=
  heap_setCell_same _ g 1 _ _ b (heap_setCell_same _ g 0 _ _ a h)
/-- What handle tells of a place. -/
def hnd (x : Nat) (turn : Int) : Value := if x = 0 then .tuple #[.agg #[.int .i64 0, .int .i64 0], .bool false] else .tuple #[.agg #[.int .i64 x, .int .i64 turn], .bool true]
set_option maxRecDepth 100000 in
set_option maxHeartbeats 4000000 in
theorem handle_at {tp nb : Nat} {S : TS} (x : Nat) (W : World) (h : TR tp nb S W) (hx : x < S.len) : Calls Tryz.prog 120 #[ptr tp, .int .i64 x] W fun e W' => e = .returned (hnd x (S.N x).turn) ∧ Below W.heap.size W W' := by
  obtain ⟨-, -, -, -, xt⟩ := tr_node h hx
  have c0 := h.c0
  have hl := h.ln
  have hlt := h.lt
  have hne : ¬ tp = W.heap.size := by omega
  clear h
  have hn := heap_alloc_new W (.cells #[.int .i64 0, .int .i64 0] 171)
  obtain ⟨⟨k0, z0⟩, k1, z1⟩ := And.intro (cell_of hn 0 _ rfl) (cell_of hn 1 _ rfl)
  have HB := Lib.hid ((Below.refl W.heap.size W).alloc (Nat.le_refl _) (.cells #[.int .i64 0, .int .i64 0] 171))
  have HN := Lib.hid hn
  clear hn
  unfold hnd
  by_cases h0 : x = 0
  · subst h0
    rw [if_pos rfl]
    clear xt
    go_enter Tryz.func120, Tryz.ntmps120
    go_wp2
    exact bodyPost_ret (results_cell_row_tmp Tryz.results120 _ _ W.heap.size 171 _ (0, 0) _ rfl (heap_alloc_new W _) Tryz.underlying171 rfl (by kernel_rfl)) rfl ⟨rfl, (Below.refl W.heap.size W).alloc (Nat.le_refl _) _⟩
  · rw [if_neg h0]
    have h00 : ¬ (x : Int) = 0 := by omega
    have hb : ((x : Int) == 0) = false := by simpa using h00
    obtain ⟨tn, htn⟩ : ∃ tn, (S.N x).turn = tn := ⟨_, rfl⟩
    rw [htn] at xt ⊢
    clear htn
    go_enter Tryz.func120, Tryz.ntmps120
    go_wp2
    exact bodyPost_ret (results_cell_row_tmp Tryz.results120 _ _ W.heap.size 171 _ (0, 0) _ rfl (heap_alloc_new W _) Tryz.underlying171 rfl (by kernel_rfl)) rfl ⟨rfl, (Below.refl W.heap.size W).alloc (Nat.le_refl _) _⟩
theorem low_mem : ∀ t : Sh, t.low = 0 ∨ t.low ∈ t.ps
  | .e => .inl rfl
  | .n _ .e x _ => .inr (by simp [Sh.low, Sh.ps])
  | .n _ (.n c l y r) x r2 => by
    have h := low_mem (.n c l y r)
    show (Sh.n c l y r).low = 0 ∨ (Sh.n c l y r).low ∈ (Sh.n c l y r).ps ++ x :: r2.ps
    rcases h with h | h
    · exact .inl h
    · exact .inr (List.mem_append.2 (.inl h))
theorem rep_lt' {S : TS} (hk : S.ok) {t : Sh} {p u : Nat} (h : Rep S.N t p u) (hp : p < S.len) : ∀ j ∈ t.ps, j < S.len := by
  induction t generalizing p u with
  | e => intro j hj; simp [Sh.ps] at hj
  | n c l x r ihl ihr =>
    obtain ⟨rfl, h0, _, _, hl, hr⟩ := h
    have h1 := hk.2 p hp
    intro j hj
    simp only [Sh.ps, List.mem_append, List.mem_cons] at hj
    rcases hj with hj | rfl | hj
    · exact ihl hl h1.1 j hj
    · exact hp
    · exact ihr hr h1.2.1 j hj
theorem tr_below {tp nb : Nat} {S : TS} {W W' : World} (h : TR tp nb S W) (hb : Below W.heap.size W W') : TR tp nb S W' := tr_same h hb.size (hb.block tp h.lt.1) (hb.block nb h.lt.2)
theorem rep_root {S : TS} (hk : S.ok) {t : Sh} (ht : Rep S.N t S.root 0) : t.low < S.len := by
  have hl : 0 < S.len := Nat.lt_of_le_of_lt (Nat.zero_le _) hk.1
  have h1 := rep_lt' hk ht hk.1
  have : t.low = 0 ∨ t.low ∈ t.ps := low_mem t
  rcases this with h | h
  · rw [h]; exact hl
  · exact h1 _ h
set_option maxRecDepth 100000 in
set_option maxHeartbeats 4000000 in
theorem first_at {tp nb : Nat} {S : TS} (W : World) (h : TR tp nb S W) (hk : S.ok) (t : Sh) (ht : Rep S.N t S.root 0) : Calls Tryz.prog 123 #[ptr tp] W fun e W' => e = .returned (hnd t.low (S.N t.low).turn) ∧ Below W.heap.size W W' := by
  have hlo := rep_root hk ht
  have hT1 := tr_alloc h (.cells #[.int .i64 0, .int .i64 0] 171)
  have C1 : Hid (Calls Tryz.prog 135 #[ptr tp, .int .i64 S.root] (W.alloc (.cells #[.int .i64 0, .int .i64 0] 171)) fun e W' => e = .returned (.int .i64 t.low) ∧ W' = W.alloc (.cells #[.int .i64 0, .int .i64 0] 171)) := by
    by_cases e : t = .e
    · subst e
      have hr : S.root = 0 := ht
      rw [hr]
      exact Lib.hid (most_0 _ hT1)
    · exact Lib.hid (most_at _ hT1 hk t S.root 0 ht e hk.1)
  obtain ⟨lo, hlo'⟩ : ∃ lo, t.low = lo := ⟨_, rfl⟩
  obtain ⟨rt, hrt⟩ : ∃ rt, S.root = rt := ⟨_, rfl⟩
  have c1 := h.c1
  rw [hlo'] at hlo C1 ⊢
  rw [hrt] at C1 c1
  have hlt := h.lt
  have C2 := Lib.hid (handle_at lo _ hT1 hlo)
  have HB := Lib.hid ((Below.refl W.heap.size W).alloc (Nat.le_refl _) (.cells #[.int .i64 0, .int .i64 0] 171))
  have HN := Lib.hid (heap_alloc_new W (.cells #[.int .i64 0, .int .i64 0] 171))
  obtain ⟨tn, htn⟩ : ∃ tn, (S.N lo).turn = tn := ⟨_, rfl⟩
  rw [htn] at C2 ⊢
  unfold hnd at C2 ⊢
  clear h hk ht hT1 hlo' hrt htn
  by_cases h0 : lo = 0
  · rw [if_pos h0] at C2 ⊢
    subst h0
    go_enter Tryz.func123, Tryz.ntmps123
    go_wp2_with (first
      | (go_at_call 135; refine (C1.out).mono ?_; clear C1; rintro e w1 ⟨rfl, rfl⟩)
      | (go_at_call 120; refine (C2.out).mono ?_; clear C2; rintro e w2 ⟨rfl, hb⟩; have hn2 := (hb.block W.heap.size (by simp)).trans HN.out; have HN2 := Lib.hid hn2; obtain ⟨⟨k0, z0⟩, k1, z1⟩ := And.intro (cell_of hn2 0 _ rfl) (cell_of hn2 1 _ rfl); have HB2 := Lib.hid (HB.out.trans (hb.mono HB.out.size)); clear hb hn2)
      | fail)
    exact bodyPost_ret (results_cell_row_tmp Tryz.results123 _ _ W.heap.size 171 _ (0, 0) _ rfl (set2 HN2.out _ _) Tryz.underlying171 rfl (by kernel_rfl)) rfl ⟨rfl, below_set (below_set HB2.out (by simp) _) (by simp) _⟩
  · rw [if_neg h0] at C2 ⊢
    go_enter Tryz.func123, Tryz.ntmps123
    go_wp2_with (first
      | (go_at_call 135; refine (C1.out).mono ?_; clear C1; rintro e w1 ⟨rfl, rfl⟩)
      | (go_at_call 120; refine (C2.out).mono ?_; clear C2; rintro e w2 ⟨rfl, hb⟩; have hn2 := (hb.block W.heap.size (by simp)).trans HN.out; have HN2 := Lib.hid hn2; obtain ⟨⟨k0, z0⟩, k1, z1⟩ := And.intro (cell_of hn2 0 _ rfl) (cell_of hn2 1 _ rfl); have HB2 := Lib.hid (HB.out.trans (hb.mono HB.out.size)); clear hb hn2)
      | fail)
    exact bodyPost_ret (results_cell_row_tmp Tryz.results123 _ _ W.heap.size 171 _ (0, 0) _ rfl (set2 HN2.out _ _) Tryz.underlying171 rfl (by kernel_rfl)) rfl ⟨rfl, below_set (below_set HB2.out (by simp) _) (by simp) _⟩
end Go.Proofs.YtlcaepcojglbiaaGreatDoor.Tp
namespace Go.Proofs.YtlcaepcojglbiaaGreatDoor.Tp
open Go.RowKit
set_option linter.unusedVariables false
set_option linter.unusedSimpArgs false
/-- An append that is known to run. -/
theorem wpList_app_run {P : Program} {w : World} {ops : Array Oper} {rest : List Oper} {o : Oper} {a : Act} {Q : Exit → Act → World → Prop} (hgd : o.guard = none) (s x : Operand) (t : TypeId)
    (ho : o.op = .call { callee := .builtin .append, args := #[s, x], argTypes := #[t, t] }) (vs vx v : Value) (w' : World) (hs : a.eval s = vs) (hx : a.eval x = vx) (hr : (Builtin.append_ #[t, t] o.type #[vs, vx]).run P w = .ok v w')
    (h : wpList P ops Q rest (a.put o.dst v) w') : wpList P ops Q (o :: rest) a w := by
  refine wpList_plain hgd fun K hK => ?_
  unfold Oper.wp execOp
  simp only [ho, resolve, invoke, builtin, Sem.run_bind, Sem.run_pure, Result.andThen_ok, List.map_toArray, List.map_cons, List.map_nil, hs, hx, hr]
  exact hK _ _ h
/-- A cell that is stored as it was. -/
theorem tr_again {tp nb : Nat} {S : TS} {W : World} (h : TR tp nb S W) (i k : Nat) (v : Value) (hk : k < 8) (hv : (S.N i).cell k = v) : TR tp nb S (W.setCell ⟨nb, i * 8 + k, none⟩ v) := by
  have h1 := tr_upd h i k (fun d => d) v hk hv (fun _ _ _ => rfl)
  have e : S.upd i (fun d => d) = S := by
    unfold TS.upd
    have : (fun j => if j = i then S.N j else S.N j) = S.N := by funext j; split <;> rfl
    rw [this]
  rwa [e] at h1
theorem tr_len {tp nb : Nat} {S : TS} {W : World} (h : TR tp nb S W) (v : Nat) (hv : 1 ≤ v ∧ v ≤ 65) : TR tp nb { S with len := v } (W.setCell ⟨tp, 0, none⟩ (.slice (some ⟨nb, 0, none⟩) v 65)) := by
  have hne := h.ne
  have C : ∀ o, o ≠ 0 → (W.setCell ⟨tp, 0, none⟩ (.slice (some ⟨nb, 0, none⟩) v 65)).cell? ⟨tp, o, none⟩ = W.cell? ⟨tp, o, none⟩ := fun o ho => cs_other (by first | (simp; done) | (simp; omega))
  exact ⟨cs_same h.c0, (C 1 (by omega)).trans h.c1, (C 2 (by omega)).trans h.c2, (C 3 (by omega)).trans h.c3, (C 4 (by omega)).trans h.c4, fun j => by rw [World.frozen?_setCell]; exact h.zt j,
    fun i hi k hk => by rw [cs_other (by first | (simp; done) | (simp; omega))]; exact h.cn i hi k hk, fun j => by rw [World.frozen?_setCell]; exact h.zn j, h.ne, by rw [size_set]; exact h.lt, hv⟩
theorem g2_below {b r : Nat} {x y : World} (h : Below x.heap.size x y) : G2 b r x y := ⟨h.os, h.tape, h.output, h.size, fun i hi _ _ => h.block i hi⟩
def zc : List Value := [.int .i64 0, .int .i64 0, .int .i64 0, .int .i64 0, .int .i64 0, .bool false, .bool false, .int .i64 0]
theorem tr_zero {tp nb : Nat} {S : TS} {W : World} (h : TR tp nb S W) (i : Nat) (hz : S.N i = nd0) : TR tp nb S (W.setCells nb (0 + i * 8) zc) ∧ G2 tp nb W (W.setCells nb (0 + i * 8) zc) := by
  rw [Nat.zero_add]
  have e : ∀ k v, nd0.cell k = v → (S.N i).cell k = v := fun k v hv => by rw [hz]; exact hv
  have t0 := tr_again h i 0 (.int .i64 0) (by omega) (e 0 _ rfl)
  have t1 := tr_again t0 i 1 (.int .i64 0) (by omega) (e 1 _ rfl)
  have t2 := tr_again t1 i 2 (.int .i64 0) (by omega) (e 2 _ rfl)
  have t3 := tr_again t2 i 3 (.int .i64 0) (by omega) (e 3 _ rfl)
  have t4 := tr_again t3 i 4 (.int .i64 0) (by omega) (e 4 _ rfl)
  have t5 := tr_again t4 i 5 (.bool false) (by omega) (e 5 _ rfl)
  have t6 := tr_again t5 i 6 (.bool false) (by omega) (e 6 _ rfl)
  have t7 := tr_again t6 i 7 (.int .i64 0) (by omega) (e 7 _ rfl)
  exact ⟨t7, g2_n (g2_n (g2_n (g2_n (g2_n (g2_n (g2_n (g2_n (g2_refl _ _ _) _ _) _ _) _ _) _ _) _ _) _ _) _ _) _ _⟩
theorem info193 : ∃ i, Tryz.prog.info? 193 = some i ∧ i.size = 8 := by
  have h : (Tryz.prog.info? 193).map (·.size) = some 8 := by kernel_rfl
  obtain ⟨i, h1, h2⟩ := Option.map_eq_some_iff.1 h
  exact ⟨i, h1, h2⟩
theorem run_place {tp nb : Nat} {S : TS} {W : World} (h : TR tp nb S W) (ty : TypeId) (b : Nat) (hb : b ≠ nb) (hn : W.heap[b]? = some (.cells zc.toArray 193)) (hl : S.len < 65) :
    (Builtin.append_ #[167, 167] ty #[.slice (some ⟨nb, 0, none⟩) S.len 65, .slice (some ⟨b, 0, none⟩) 1 1]).run Tryz.prog W = .ok (.slice (some ⟨nb, 0, none⟩) (S.len + 1) 65) (W.setCells nb (0 + S.len * 8) zc) := by
  obtain ⟨i, hi, hs⟩ := info193
  have := run_append_room_cells (P := Tryz.prog) W 167 ty 193 i Tryz.underlying167 hi nb 0 S.len 65 ⟨b, 0, none⟩ 1 1 zc (by rw [hs]; rfl) (World.news_of_block hn) (by simp [zc, Value.oneCell']) (by omega)
    (fun j hj => by
      rw [hs, Nat.zero_add]
      have hj8 : j < 8 := hj
      rw [h.cn S.len hl j hj8]; rfl)
    (fun j _ => h.zn _)
  rw [hs] at this
  exact this
set_option maxRecDepth 100000 in
set_option maxHeartbeats 4000000 in
theorem place_free {tp nb : Nat} {S : TS} (W : World) (h : TR tp nb S W) (hf : S.free ≠ 0) (hfl : S.free < S.len) : Calls Tryz.prog 116 #[ptr tp] W fun e W' => e = .returned (.int .i64 S.free) ∧ TR tp nb { S with free := (S.N S.free).l } W' ∧ G2 tp nb W W' := by
  have hT := Lib.hid (tr_free h (S.N S.free).l)
  obtain ⟨⟨-, -, fl, -⟩, -⟩ := tr_node h hfl
  have c0 := h.c0
  have c3 := h.c3
  have z3 := h.zt 3
  have hl := h.ln
  obtain ⟨f, hff⟩ : ∃ f, S.free = f := ⟨_, rfl⟩
  rw [hff] at hf hfl fl c3 hT ⊢
  obtain ⟨g, hg⟩ : ∃ g, (S.N f).l = g := ⟨_, rfl⟩
  rw [hg] at fl hT
  have HG := Lib.hid hg
  have h0 : ¬ (f : Int) = 0 := by omega
  have hb : ((f : Int) != 0) = true := by simpa using h0
  clear h hff hg
  go_enter Tryz.func116, Tryz.ntmps116
  go_wp2
  go_ret
  exact ⟨rfl, by rw [HG.out]; exact hT.out, g2_t (g2_refl _ _ _) _ _⟩
set_option maxRecDepth 100000 in
set_option maxHeartbeats 4000000 in
theorem place_new {tp nb : Nat} {S : TS} (W : World) (h : TR tp nb S W) (hf : S.free = 0) (hl : S.len < 65) (hz : S.N S.len = nd0) : Calls Tryz.prog 116 #[ptr tp] W fun e W' => e = .returned (.int .i64 S.len) ∧ TR tp nb { S with len := S.len + 1 } W' ∧ G2 tp nb W W' := by
  have c0 := h.c0
  have c3 := h.c3
  have c4 := h.c4
  have hln := h.ln
  rw [hf] at c3
  have HT := Lib.hid h
  have HZ := Lib.hid hz
  have hlt := h.lt
  have hnn : ¬ (64 : Int) < (S.len : Int) := by omega
  have hnd : decide ((64 : Int) < (S.len : Int)) = false := decide_eq_false hnn
  clear h hf hz
  go_enter Tryz.func116, Tryz.ntmps116
  go_wp2_with fail
  go_quiet (fail)
  have HT1 := Lib.hid (tr_alloc (tr_drewN HT.out nq) (.cells zc.toArray 193))
  have HR := Lib.hid (fun ty => run_place HT1.out ty W.heap.size (by omega) (heap_alloc_new (W.drewN nq) _) hl)
  have HZ1 := Lib.hid (tr_zero HT1.out S.len HZ.out)
  have HG1 := Lib.hid (g2_trans (g2_alloc (g2_drewN (g2_refl tp nb W) nq) (.cells zc.toArray 193)) HZ1.out.2)
  obtain ⟨w5, hw5⟩ : ∃ w5, ((W.drewN nq).alloc (.cells zc.toArray 193)).setCells nb (0 + S.len * 8) zc = w5 := ⟨_, rfl⟩
  rw [hw5] at HR HZ1 HG1
  have c5 := HZ1.out.1.c0
  have z5 := HZ1.out.1.zt 0
  have HE := Lib.hid (tr_len HZ1.out.1 (S.len + 1) (by omega))
  clear hw5 HT1
  go_wp2_with (first
    | (at_builtin; refine wpList_app_run rfl _ _ 167 rfl _ _ _ w5 rfl rfl (HR.out _) ?_)
    | fail)
  go_ret
  exact ⟨ret_int (by first | rfl | (simp; done) | omega), HE.out, g2_t HG1.out _ _⟩
end Go.Proofs.YtlcaepcojglbiaaGreatDoor.Tp
namespace Go.Proofs.YtlcaepcojglbiaaGreatDoor.Tp
open Go.RowKit
set_option linter.unusedVariables false
set_option linter.unusedSimpArgs false
theorem below_drewN {B : Nat} {w W : World} (h : Below B w W) (n : Nat) : Below B w (W.drewN n) := ⟨h.os, h.tape, h.output, h.size, h.block⟩
set_option maxRecDepth 100000 in
set_option maxHeartbeats 4000000 in
theorem is_at {tp nb : Nat} {S : TS} (x : Nat) (W : World) (h : TR tp nb S W) (hx : x < S.len) (h0 : x ≠ 0) (ht : (S.N x).taken = true) : Calls Tryz.prog 124 #[ptr tp, .agg #[.int .i64 x, .int .i64 (S.N x).turn]] W fun e W' => e = .returned (.bool true) ∧ Below W.heap.size W W' := by
  obtain ⟨-, -, -, xk, xt⟩ := tr_node h hx
  rw [ht] at xk
  have c0 := h.c0
  have hl := h.ln
  have hlt := h.lt
  have hne : ¬ tp = W.heap.size := by omega
  have hne2 : ¬ nb = W.heap.size := by omega
  obtain ⟨tn, htn⟩ : ∃ tn, (S.N x).turn = tn := ⟨_, rfl⟩
  rw [htn] at xt ⊢
  have hp : decide (0 < x) = true := decide_eq_true (by omega)
  have hxl : decide (x < S.len) = true := decide_eq_true hx
  clear h htn
  go_enter Tryz.func124, Tryz.ntmps124
  go_wp2_with fail
  have hn := heap_alloc_new W (.cells #[.int .i64 x, .int .i64 tn] 171)
  obtain ⟨⟨k0, z0⟩, k1, z1⟩ := And.intro (cell_of hn 0 _ rfl) (cell_of hn 1 _ rfl)
  have m0 : (W.alloc (.cells #[.int .i64 x, .int .i64 tn] 171)).cell? ⟨tp, 0, none⟩ = some (.slice (some ⟨nb, 0, none⟩) S.len 65) := (World.cell?_of_block (a := ⟨tp, 0, none⟩) (Below.heap_alloc _ _ _ hlt.1)).trans c0
  have m1 : (W.alloc (.cells #[.int .i64 x, .int .i64 tn] 171)).cell? ⟨nb, x * 8 + 6, none⟩ = some (.bool true) := (World.cell?_of_block (a := ⟨nb, x * 8 + 6, none⟩) (Below.heap_alloc _ _ _ hlt.2)).trans xk
  have m2 : (W.alloc (.cells #[.int .i64 x, .int .i64 tn] 171)).cell? ⟨nb, x * 8 + 7, none⟩ = some (.int .i64 tn) := (World.cell?_of_block (a := ⟨nb, x * 8 + 7, none⟩) (Below.heap_alloc _ _ _ hlt.2)).trans xt
  clear hn
  go_quiet (fail)
  go_wp2
  go_ret
  exact ⟨by first | rfl | (simp; done), below_drewN ((Below.refl W.heap.size W).alloc (Nat.le_refl _) _) nq⟩
end Go.Proofs.YtlcaepcojglbiaaGreatDoor.Tp
namespace Go.Proofs.YtlcaepcojglbiaaGreatDoor.Tp
open Go.RowKit
set_option linter.unusedVariables false
set_option linter.unusedSimpArgs false
/-! A node is stored, or loaded, whole. -/
def dl (d : Nd) : List Value := [.int .i64 d.t, .int .i64 d.q, .int .i64 d.l, .int .i64 d.r, .int .i64 d.u, .bool d.red, .bool d.taken, .int .i64 d.turn]
theorem dl_cell (d : Nd) (k : Nat) (hk : k < 8) : (dl d)[k]? = some (d.cell k) := by
  rcases (show k = 0 ∨ k = 1 ∨ k = 2 ∨ k = 3 ∨ k = 4 ∨ k = 5 ∨ k = 6 ∨ k = 7 by omega) with rfl | rfl | rfl | rfl | rfl | rfl | rfl | rfl <;> rfl
theorem tr_there {tp nb : Nat} {S : TS} {W : World} (h : TR tp nb S W) {x : Nat} (hx : x < 65) : W.there nb (x * 8) 8 := fun j hj => ⟨by rw [h.cn x hx j hj]; rfl, h.zn _⟩
theorem tr_range {tp nb : Nat} {S : TS} {W : World} (h : TR tp nb S W) {x : Nat} (hx : x < 65) : W.rangeAt nb (x * 8) (dl (S.N x)) := fun j v hv => by
  have hj : j < 8 := (List.getElem?_eq_some_iff.1 hv).1
  rw [dl_cell _ _ hj] at hv
  cases hv
  exact h.cn x hx j hj
theorem tr_key {tp nb : Nat} {S : TS} {W : World} (h : TR tp nb S W) {x : Nat} (hx : x < 65) : W.rangeAt nb (x * 8) [.int .i64 (S.N x).t, .int .i64 (S.N x).q] := fun j v hv => by
  have hj : j < 2 := (List.getElem?_eq_some_iff.1 hv).1
  rcases (show j = 0 ∨ j = 1 by omega) with rfl | rfl
  · cases hv; exact h.cn x hx 0 (by omega)
  · cases hv; exact h.cn x hx 1 (by omega)
theorem g2_setCells {b r : Nat} {x y : World} (h : G2 b r x y) (o : Nat) (vs : List Value) : G2 b r x (y.setCells r o vs) := by
  induction vs generalizing y o with
  | nil => exact h
  | cons v vs ih => exact ih (g2_n h o v) (o + 1)
theorem size_setCells (b : Nat) (vs : List Value) : ∀ (o : Nat) (w : World), (w.setCells b o vs).heap.size = w.heap.size := by
  induction vs with
  | nil => intro o w; rfl
  | cons v vs ih => intro o w; exact (ih (o + 1) _).trans (size_set _ _ _)
theorem tr_setn {tp nb : Nat} {S : TS} {W : World} (h : TR tp nb S W) {x : Nat} (hx : x < 65) (d : Nd) : TR tp nb (S.setn x d) (W.setCells nb (x * 8) (dl d)) := by
  have hne := h.ne
  have C : ∀ o, (W.setCells nb (x * 8) (dl d)).cell? ⟨tp, o, none⟩ = W.cell? ⟨tp, o, none⟩ := fun o => World.cell?_setCells_out nb _ _ _ _ fun e _ => absurd e hne
  have F : ∀ b o, (W.setCells nb (x * 8) (dl d)).frozen? ⟨b, o, none⟩ = W.frozen? ⟨b, o, none⟩ := fun b o => World.frozen?_setCells _ _ _ _ _
  refine ⟨(C 0).trans h.c0, (C 1).trans h.c1, (C 2).trans h.c2, (C 3).trans h.c3, (C 4).trans h.c4, fun j => (F _ _).trans (h.zt j), fun i hi k hk => ?_, fun j => (F _ _).trans (h.zn j), h.ne, by rw [size_setCells]; exact h.lt, h.ln⟩
  show _ = some ((if i = x then d else S.N i).cell k)
  by_cases e : i = x
  · subst e
    rw [if_pos rfl]
    have hl : k < (dl d).length := hk
    have := World.cell?_setCells_in nb (dl d) (i * 8) W (fun j hj => (tr_there h hi j hj).1) k hl
    rw [this]
    have h2 := dl_cell d k hk
    rw [List.getElem?_eq_getElem hl] at h2
    exact h2
  · rw [if_neg e, World.cell?_setCells_out nb _ _ _ _ fun _ _ => ?_]
    · exact h.cn i hi k hk
    · show i * 8 + k < x * 8 ∨ x * 8 + 8 ≤ i * 8 + k
      omega
theorem info193s : (Tryz.prog.info? 193).map (·.size) = some 8 := by kernel_rfl
theorem info175s : (Tryz.prog.info? 175).map (·.size) = some 2 := by kernel_rfl
/-- In a still region: a load of a struct that lies in the midst of a block. -/
theorem wpStill_load_mid {P : Program} {ops : Array Oper} {w : World} {Q : Act → Prop} {a : Act} {o : Oper} {rest : List Oper} (hgd : o.guard = none) (ty : TypeId) (x : Operand) (ho : o.op = .load ty x)
    (b of : Nat) (hx : a.eval x = .pointer (some ⟨b, of, none⟩)) (cs : List Value) (d : TypeDesc) (hc : w.rangeAt b of cs)
    (hu : P.underlying ty = some d) (hd : d.isRow = true) (hi : (P.info? ty).map (·.size) = some cs.length)
    (h : wpStill P ops w Q rest (a.put o.dst (.agg cs.toArray))) : wpStill P ops w Q (o :: rest) a := by
  have hw : Region.wanted o (yielded ops a.tmps) = true := by unfold Region.wanted; rw [hgd]
  unfold wpStill
  rw [if_pos hw]
  unfold Oper.still
  have hr : (execOp a.eval o).run P w = .ok (.value (.agg cs.toArray)) w := by
    unfold execOp
    simp only [ho, hx, Instr.loadAt, Instr.sureAddr, Sem.run_bind, Sem.run_pure, Result.andThen_ok, run_loadVar_mid w b of ty cs d hc hu hd hi]
  rw [hr]
  exact ⟨rfl, h⟩
end Go.Proofs.YtlcaepcojglbiaaGreatDoor.Tp
