/- The engine: interrupts and settling: a part of the walk of the whole machine. For all states that the readings allow. -/
import Derived.Deep.RegionLaw
import Derived.Test.YtlcaepcojglbiaaGreatDoorMr
import Derived.Test.YtlcaepcojglbiaaGreatDoorMt
import Derived.Test.YtlcaepcojglbiaaGreatDoorMg
namespace Go.Proofs.YtlcaepcojglbiaaGreatDoor.Tp
open Go.RowKit
set_option linter.unusedVariables false
set_option linter.unusedSimpArgs false
theorem ft_base {b b' : Nat} {v : Value} {L : List Fd} {w : World} (h : FT b v L w) (hb : b' ≤ b) : FT b' v L w :=
  ⟨h.1, by
    rcases h.2 with h1 | ⟨gb, cap, cur, h1, hb1, hrest⟩
    · exact .inl h1
    · exact .inr ⟨gb, cap, cur, h1, Nat.le_trans hb hb1, hrest⟩⟩
theorem wpStill_skip' {P : Program} {ops : Array Oper} {w : World} {Q : Act → Prop} {a : Act} {o : Oper} {rest : List Oper} (h : Region.wanted o (yielded ops a.tmps) = false) (e : a.put o.dst undef = a) (k : wpStill P ops w Q rest a) : wpStill P ops w Q (o :: rest) a := by
  unfold wpStill
  rw [if_neg (by rw [h]; decide), e]
  exact k
theorem wpStill_skip {P : Program} {ops : Array Oper} {w : World} {Q : Act → Prop} {a : Act} {o : Oper} {rest : List Oper} (h : Region.wanted o (yielded ops a.tmps) = false) (k : wpStill P ops w Q rest (a.put o.dst undef)) : wpStill P ops w Q (o :: rest) a := by
  unfold wpStill
  rw [if_neg (by rw [h]; decide)]
  exact k
set_option maxRecDepth 100000 in
set_option maxHeartbeats 4000000 in
theorem irq_yes {A : EA} {E : En} (i : Nat) (W : World) (h : ER A E W) (hok : E.K.ok) (hi : i < E.n) (hk : (E.c i).d.latched = true) (hlen : ∀ q, q < 6 → ((E.c i).b q).length ≤ 64) (hx : ∀ t ∈ E.exp i false, t.wf ∧ 0 ≤ t.clock ∧ t.clock < 3) :
    Calls Tryz.prog 48 #[ptr A.e, .int .i64 (i : Nat)] W fun e W' => (∃ v, e = .returned (.tuple #[v, .int .i64 0]) ∧ FT W.heap.size v ((E.exp i false).map (fd E.K i)) W') ∧ ER A (E.irq i) W' ∧ GF (A.has E.n) W W' := by
  obtain ⟨⟨m, -, e0, e1, e2, e3⟩, r, ⟨c0, c1, c2, c3⟩, -⟩ := er_road h hi
  have C := Lib.hid (take_at W (h.dr i hi))
  rw [hk] at C
  have HF : Hid (∀ w', DR (A.db i) { (E.c i).d with latched := false } w' → G2 (A.db i) (A.db i) W w' → ER A (E.unlatch i) w') := Lib.hid fun w' hd g => er_dev h hi g hd
  have hb : (E.unlatch i).c i = { E.c i with d := { (E.c i).d with latched := false } } := if_pos rfl
  have he : (E.unlatch i).exp i false = E.exp i false := by unfold En.exp; rw [hb]; rfl
  have C1 := Lib.hid (fun w h => fire_at (A := A) (E := E.unlatch i) i false w h hok hi (by rw [hb]; exact hlen) (by rw [he]; exact hx))
  rw [he] at C1
  have hir : E.irq i = (((E.unlatch i).fired i false).raise i ((((E.unlatch i).fired i false).c i).raised || bdu (((E.unlatch i).fired i false).c i).b true ((E.unlatch i).fired i false).K.tm 6)).look i := rfl
  obtain ⟨E2, hE2⟩ : ∃ E2, (E.unlatch i).fired i false = E2 := ⟨_, rfl⟩
  rw [hE2] at C1 hir
  have hK2 : E2.K = E.K := by rw [← hE2]; rfl
  have hn2 : E2.n = E.n := by rw [← hE2]; rfl
  have hok2 : E2.K.ok := by rw [hK2]; exact hok
  have C2 := Lib.hid (fun w (h : ER A E2 w) => times_at w h hok2)
  have C3 := Lib.hid (fun w (h : ER A E2 w) => bdue_at true E2.K.tm w (h.br i (by rw [hn2]; exact hi)))
  have C4 := Lib.hid (fun b w (h : ER A (E2.raise i b) w) => look_at (A := A) i w h hok2 (by show i < E2.n; rw [hn2]; exact hi))
  have HI := Lib.hid hi
  have HL := Lib.hid (er_lt h)
  have hi2 : (i : Int) < (E.n : Int) := by omega
  clear h hk hok hlen hx hb he
  go_enter Tryz.func48, Tryz.ntmps48
  go_wp2_with (first
    | (go_at_call 79; refine (C.out).mono ?_; clear C; rintro e w1 ⟨rfl, hd, hg⟩; have HE1 := Lib.hid (HF.out _ hd hg); have HG1 := Lib.hid (gf_g2 (F := A.has E.n) hg (has_db HI.out) (has_db HI.out)); clear hd hg)
    | (go_at_call 80; refine (C1.out _ HE1.out).mono ?_; clear C1; rintro e w2 ⟨⟨v, rfl, hft⟩, hE, hG⟩; have HE2 := Lib.hid hE; have HFT := Lib.hid hft; have HG2 := Lib.hid (gf_trans HG1.out hG); clear hft hE hG)
    | (go_at_call 73; refine (C2.out _ HE2.out).mono ?_; clear C2; rintro e w3 ⟨rfl, hB⟩; have HE3 := Lib.hid (er_below HE2.out hB); have HB3 := Lib.hid hB; clear hB)
    | fail)
  have hb4 : Below w3.heap.size w3 ((w3.alloc (.cells #[.int .i64 (E.K.tm 0), .int .i64 (E.K.tm 1), .int .i64 (E.K.tm 2)] 27)).alloc (.cells #[.int .i64 (E.K.off 0), .int .i64 (E.K.off 1), .int .i64 (E.K.off 2)] 27)) := ((Below.refl _ _).alloc (Nat.le_refl _) _).alloc (by simp) _
  have HE4 := Lib.hid (er_below HE3.out hb4)
  have hn4 := (Below.heap_alloc (w3.alloc (.cells #[.int .i64 (E.K.tm 0), .int .i64 (E.K.tm 1), .int .i64 (E.K.tm 2)] 27)) (.cells #[.int .i64 (E.K.off 0), .int .i64 (E.K.off 1), .int .i64 (E.K.off 2)] 27) w3.heap.size (by simp)).trans (heap_alloc_new w3 (.cells #[.int .i64 (E.K.tm 0), .int .i64 (E.K.tm 1), .int .i64 (E.K.tm 2)] 27))
  have hs4 : ((w3.alloc (.cells #[.int .i64 (E.K.tm 0), .int .i64 (E.K.tm 1), .int .i64 (E.K.tm 2)] 27)).alloc (.cells #[.int .i64 (E.K.off 0), .int .i64 (E.K.off 1), .int .i64 (E.K.off 2)] 27)).heap.size = w3.heap.size + 2 := by simp
  obtain ⟨W4, hW4⟩ : ∃ W4, (w3.alloc (.cells #[.int .i64 (E.K.tm 0), .int .i64 (E.K.tm 1), .int .i64 (E.K.tm 2)] 27)).alloc (.cells #[.int .i64 (E.K.off 0), .int .i64 (E.K.off 1), .int .i64 (E.K.off 2)] 27) = W4 := ⟨_, rfl⟩
  rw [hW4] at hb4 HE4 hn4 hs4 ⊢
  have HB4 := Lib.hid (HB3.out.trans (hb4.mono HB3.out.size))
  have HN4 := Lib.hid hn4
  obtain ⟨g, hg⟩ : ∃ g, w3.heap.size = g := ⟨_, rfl⟩
  rw [hg] at hn4 HN4 hs4 ⊢
  have hi2' : i < E2.n := by rw [hn2]; exact HI.out
  have HD4 : Hid (ER A E2 W4.drew) := Lib.hid (er_drew HE4.out)
  obtain ⟨-, -, ⟨q0, q1, q2, q3⟩, zz⟩ := er_road HE4.out hi2'
  have z2 := zz 2 (by omega)
  obtain ⟨⟨o0, -⟩, ⟨o1, -⟩, o2, -⟩ := cells3 hn4
  have hcl : A.cb i < W4.heap.size := er_lt HE4.out _ (has_cb hi2')
  have hgl : g < W4.heap.size := by omega
  have HI2 := Lib.hid hi2'
  rw [hK2] at C3 hir
  have HIR := Lib.hid hir
  have hgl0 : W.heap.size ≤ w2.heap.size := HG2.out.size
  obtain ⟨bd, hbd⟩ : ∃ bd, bdu (E2.c i).b true E.K.tm 6 = bd := ⟨_, rfl⟩
  rw [hbd] at C3 HIR
  obtain ⟨rd, hrd⟩ : ∃ rd, (E2.c i).raised = rd := ⟨_, rfl⟩
  have HRD := Lib.hid hrd
  rw [hrd] at q2
  clear hir hbd hb4 hW4 hg hn4 zz hrd hK2 hok2 hE2 hi2' c0 c1 c2 c3 e0 e1 e2 e3 r
  cases rd
  · go_region_law (first
      | (go_simp; go_at_call 81; refine (C3.out _ HD4.out).mono ?_; clear C3; rintro e w5 ⟨rfl, hB⟩; have HE5 := Lib.hid (er_below HD4.out hB); have hcx := hB.block (A.cb i) hcl; have q2' := (World.cell?_of_block (a := ⟨A.cb i, 2, none⟩) hcx).trans q2; have z2' := (World.frozen?_of_block (a := ⟨A.cb i, 2, none⟩) hcx).trans z2; have HB5 := Lib.hid hB; clear hcx hB)
      | fail)
    all_goals
      have HX : Hid (ER A (E2.raise i bd) (w5.setCell ⟨A.cb i, 2, none⟩ (.bool bd)) ∧ GF (A.has E.n) w2 (w5.setCell ⟨A.cb i, 2, none⟩ (.bool bd)) ∧ ∀ x, W.heap.size ≤ x → x < w2.heap.size → (w5.setCell ⟨A.cb i, 2, none⟩ (.bool bd)).heap[x]? = w2.heap[x]?) := by
        have hcbl : A.cb i < W.heap.size := HL.out _ (has_cb HI.out)
        have hB4 : Below w2.heap.size w2 W4 := HB4.out
        have hB5 : Below W4.heap.size W4 w5 := ⟨HB5.out.os, HB5.out.tape, HB5.out.output, HB5.out.size, HB5.out.block⟩
        have hB6 : Below w2.heap.size w2 w5 := hB4.trans (hB5.mono hB4.size)
        refine Lib.hid ⟨er_raised bd HE5.out HI2.out, gf_set (gf_below hB6) (.inl (has_cb HI.out)) _, fun x h1 h2 => (Below.heap_setCell _ _ _ _ (show x ≠ A.cb i by omega)).trans (hB6.block x h2)⟩
      obtain ⟨w6, hw6⟩ : ∃ w6, w5.setCell ⟨A.cb i, 2, none⟩ (.bool bd) = w6 := ⟨_, rfl⟩
      rw [hw6] at HX ⊢
      clear hw6 HB5 HE5 q2' z2' HD4 HN4 q0 q1 q2 q3 o0 o1 o2
      go_wp2_with (first
        | (go_at_call 43; refine (C4.out _ _ HX.out.1).mono ?_; clear C4; rintro e w7 ⟨rfl, hE, hG⟩; have HH := Lib.hid (And.intro hE hG); clear hE hG)
        | fail)
      refine bodyPost_ret (results_tmp2 rfl _ _ _) rfl ⟨⟨v, rfl, ?_⟩, ?_, gf_trans HG2.out (gf_trans HX.out.2.1 (gf_mono HH.out.2 fun x e => (show A.has E.n x by rw [e]; exact has_db HI.out)))⟩
      · have hf := ft_base HFT.out HG1.out.size
        refine ft_same hf fun x hx => ?_
        have hlt := ft_lt hf x hx
        refine (HH.out.2.block x ?_ fun e => ?_).trans (HX.out.2.2 x hlt.1 hlt.2)
        · have := HX.out.2.1.size
          omega
        · have := HL.out x (by rw [e]; exact has_db HI.out)
          omega
      · rw [HIR.out, HRD.out]
        exact HH.out.1
  · clear C3
    refine wp_region_still_tail 15 (by kernel_rfl) (by kernel_rfl) ?_
    simp only [List.take_succ_cons, List.take_zero, List.drop_succ_cons, List.drop_zero]
    still_step
    still_step
    still_step
    still_step
    still_step
    refine wpStill_step (fun K hK => ?_)
    go_simp
    generalize hx : (Act.mk _ _) = x
    refine hK x ?_
    clear hK K
    refine wpStill_skip' (by subst hx; kernel_rfl) (by subst hx; kernel_rfl) ?_
    refine wpStill_skip' (by subst hx; kernel_rfl) (by subst hx; kernel_rfl) ?_
    refine wpStill_skip' (by subst hx; kernel_rfl) (by subst hx; kernel_rfl) ?_
    refine wpStill_skip' (by subst hx; kernel_rfl) (by subst hx; kernel_rfl) ?_
    refine wpStill_skip' (by subst hx; kernel_rfl) (by subst hx; kernel_rfl) ?_
    refine wpStill_skip' (by subst hx; kernel_rfl) (by subst hx; kernel_rfl) ?_
    subst hx
    still_step
    still_step
    still_step
    refine wpStill_nil ?_
    change wpList _ _ _ _ _ W4.drew
    have q2' : W4.drew.cell? ⟨A.cb i, 2, none⟩ = some (.bool true) := q2
    have z2' : W4.drew.frozen? ⟨A.cb i, 2, none⟩ = false := z2
    have HX : Hid (ER A (E2.raise i true) (W4.setCell ⟨A.cb i, 2, none⟩ (.bool true)).drew ∧ GF (A.has E.n) w2 (W4.setCell ⟨A.cb i, 2, none⟩ (.bool true)).drew ∧ ∀ x, W.heap.size ≤ x → x < w2.heap.size → (W4.setCell ⟨A.cb i, 2, none⟩ (.bool true)).drew.heap[x]? = w2.heap[x]?) := by
      have hcbl : A.cb i < W.heap.size := HL.out _ (has_cb HI.out)
      have hB4 : Below w2.heap.size w2 W4 := HB4.out
      refine Lib.hid ⟨er_drew (er_raised true HE4.out HI2.out), gf_drew (gf_set (gf_below hB4) (.inl (has_cb HI.out)) _), fun x h1 h2 => (Below.heap_setCell _ _ _ _ (show x ≠ A.cb i by omega)).trans (hB4.block x h2)⟩
    clear HD4 HN4 q0 q1 q3 o0 o1 o2 q2 z2
    go_wp2_with (first
      | (go_at_call 43; refine (C4.out _ _ HX.out.1).mono ?_; clear C4; rintro e w7 ⟨rfl, hE, hG⟩; have HH := Lib.hid (And.intro hE hG); clear hE hG)
      | fail)
    refine bodyPost_ret (results_tmp2 rfl _ _ _) rfl ⟨⟨v, rfl, ?_⟩, ?_, gf_trans HG2.out (gf_trans HX.out.2.1 (gf_mono HH.out.2 fun x e => (show A.has E.n x by rw [e]; exact has_db HI.out)))⟩
    · have hf := ft_base HFT.out HG1.out.size
      refine ft_same hf fun x hx => ?_
      have hlt := ft_lt hf x hx
      refine (HH.out.2.block x ?_ fun e => ?_).trans (HX.out.2.2 x hlt.1 hlt.2)
      · have := HX.out.2.1.size
        omega
      · have := HL.out x (by rw [e]; exact has_db HI.out)
        omega
    · rw [HIR.out, HRD.out]
      exact HH.out.1

end Go.Proofs.YtlcaepcojglbiaaGreatDoor.Tp
namespace Go.Proofs.YtlcaepcojglbiaaGreatDoor.Tp
open Go.RowKit Go.Maps
set_option linter.unusedVariables false
set_option linter.unusedSimpArgs false
theorem find_at {p : Nat → Bool} : ∀ {L : List Nat} {k i : Nat}, L[k]? = some i → (∀ j ∈ L.take k, p j = false) → p i = true → L.find? p = some i
  | [], k, i, h, _, _ => by simp at h
  | a :: L, 0, i, h, _, hp => by
    obtain rfl : a = i := by simpa using h
    simp [List.find?, hp]
  | a :: L, k + 1, i, h, ha, hp => by
    have h1 : p a = false := ha a (by simp)
    have h2 := find_at (L := L) (k := k) (i := i) (by simpa using h) (fun j hj => ha j (by simp [hj])) hp
    simp [List.find?, h1, h2]
theorem find_no {p : Nat → Bool} {L : List Nat} (h : ∀ j ∈ L, p j = false) : L.find? p = none := List.find?_eq_none.2 fun j hj => by rw [h j hj]; decide
theorem take_no {p : Nat → Bool} {L : List Nat} {k i : Nat} (h : ∀ j ∈ L.take k, p j = false) (hk : L[k]? = some i) (hp : p i = false) : ∀ j ∈ L.take (k + 1), p j = false := fun j hj => by
  rw [List.take_add_one, hk, List.mem_append] at hj
  rcases hj with hj | hj
  · exact h j hj
  · obtain rfl : j = i := by simpa using hj
    exact hp
/-- What `one` leaves. -/
def OneP (A : EA) (E : En) (W : World) (e : Ending) (W' : World) : Prop :=
  match E.one with
  | none => e = .returned (.tuple #[.slice none 0 0, .bool false]) ∧ ER A E W' ∧ GF (A.has E.n) W W'
  | some (l, E1) => (∃ v, e = .returned (.tuple #[v, .bool true]) ∧ FT W.heap.size v l W') ∧ ER A E1 W' ∧ GF (A.has E.n) W W'
section
variable {A : EA} {E : En} {M : GM} {W W' : World}
theorem onep_none (h : E.one = none) (he : ER A E W') (hg : GF (A.has E.n) W W') : OneP A E W (.returned (.tuple #[.slice none 0 0, .bool false])) W' := by
  unfold OneP
  rw [h]
  exact ⟨rfl, he, hg⟩
theorem onep_some {l : List Fd} {E1 : En} {v : Value} (h : E.one = some (l, E1)) (hf : FT W.heap.size v l W') (he : ER A E1 W') (hg : GF (A.has E.n) W W') : OneP A E W (.returned (.tuple #[v, .bool true])) W' := by
  unfold OneP
  rw [h]
  exact ⟨⟨v, rfl, hf⟩, he, hg⟩
theorem one_k {i : Nat} (h : E.nextK = some i) : E.one = some ([], E.kick i) := by
  unfold En.one
  rw [h]
theorem one_i {i : Nat} (h1 : E.nextK = none) (h : E.nextI = some i) : E.one = some ((E.exp i false).map (fd E.K i), E.irq i) := by
  unfold En.one
  rw [h1, h]
theorem one_s {i : Nat} (h1 : E.nextK = none) (h2 : E.nextI = none) (h : E.nextS = some i) : E.one = some ((E.exp i true).map (fd E.K i), E.soft i) := by
  unfold En.one
  rw [h1, h2, h]
theorem one_n (h1 : E.nextK = none) (h2 : E.nextI = none) (h : E.nextS = none) : E.one = none := by
  unfold En.one
  rw [h1, h2, h]
/-- What holds between two rounds. -/
structure OJ (A : EA) (E : En) (W : World) (B : Nat) (v : Value) (wr : World) : Prop where
  er : ER A E wr
  gf : GF (A.has E.n) W wr
  it : IT B v (onl E.on 16) wr
set_option maxRecDepth 100000 in
set_option maxHeartbeats 8000000 in
theorem eone_at (W : World) (h : ER A E W) (hE : EI E M) : Calls Tryz.prog 57 #[ptr A.e] W (OneP A E W) := by
  have HK1 : Hid (∀ i, i < E.n → (E.c i).kicked = true → ∀ w, ER A E w → Calls Tryz.prog 50 #[ptr A.e, .int .i64 (i : Nat)] w fun e W' => e = .returned (.int .i64 0) ∧ ER A (E.kick i) W' ∧ GF (A.has E.n) w W') := Lib.hid fun i hi hk w h' => kick_yes i w h' hE.ck hi hk
  have HK0 : Hid (∀ i, i < E.n → (E.c i).kicked = false → ∀ w, ER A E w → Calls Tryz.prog 50 #[ptr A.e, .int .i64 (i : Nat)] w fun e W' => e = .returned (.int .i64 8) ∧ W' = w) := Lib.hid fun i hi hk w h' => kick_no i w h' hi hk
  have HI1 : Hid (∀ i, i < E.n → (E.c i).d.latched = true → ∀ w, ER A E w → Calls Tryz.prog 48 #[ptr A.e, .int .i64 (i : Nat)] w fun e W' => (∃ v, e = .returned (.tuple #[v, .int .i64 0]) ∧ FT w.heap.size v ((E.exp i false).map (fd E.K i)) W') ∧ ER A (E.irq i) W' ∧ GF (A.has E.n) w W') := Lib.hid fun i hi hk w h' => irq_yes i w h' hE.ck hi hk (fun q hq => Nat.le_trans (ei_len hE hi hq) hE.wn) (exp_wf hE hi)
  have HI0 : Hid (∀ i, i < E.n → (E.c i).d.latched = false → ∀ w, ER A E w → Calls Tryz.prog 48 #[ptr A.e, .int .i64 (i : Nat)] w fun e W' => e = .returned (.tuple #[.slice none 0 0, .int .i64 8]) ∧ ER A E W' ∧ GF (A.has E.n) w W') := Lib.hid fun i hi hk w h' => irq_no i w h' hi hk
  have HS1 : Hid (∀ i, i < E.n → (E.c i).raised = true → ∀ w, ER A E w → Calls Tryz.prog 49 #[ptr A.e, .int .i64 (i : Nat)] w fun e W' => (∃ v, e = .returned (.tuple #[v, .int .i64 0]) ∧ FT w.heap.size v ((E.exp i true).map (fd E.K i)) W') ∧ ER A (E.soft i) W' ∧ GF (A.has E.n) w W') := Lib.hid fun i hi hk w h' => softirq_yes i w h' hE.ck hi hk (fun q hq => Nat.le_trans (ei_len hE hi hq) hE.wn) (exp_wf hE hi)
  have HS0 : Hid (∀ i, i < E.n → (E.c i).raised = false → ∀ w, ER A E w → Calls Tryz.prog 49 #[ptr A.e, .int .i64 (i : Nat)] w fun e W' => e = .returned (.tuple #[.slice none 0 0, .int .i64 8]) ∧ W' = w) := Lib.hid fun i hi hk w h' => softirq_no i w h' hi hk
  have HM : Hid (∀ w, ER A E w → ∃ m : Nat, MK m E.on ∧ w.cell? ⟨A.e, 2, none⟩ = some (.int .u32 (m : Nat))) := Lib.hid fun w h' => by
    obtain ⟨m, hm, hk⟩ := h'.eb
    exact ⟨m, hk, (cell_of hm 2 _ rfl).1⟩
  have CL := Lib.hid (fun (m : Nat) (hk : MK m E.on) w => mlist_at hk w)
  have HLn : Hid (∀ i ∈ onl E.on 16, i < E.n) := Lib.hid fun i hi => hE.onn i (onl_mem.1 hi).2
  have hLl : (onl E.on 16).length ≤ 16 := onl_len _ _
  have HA : Hid (∀ x, A.has E.n x → x < W.heap.size) := Lib.hid fun x hx => er_lt h x hx
  obtain ⟨m, hk, e2⟩ := HM.out _ h
  have HMK := Lib.hid hk
  have H := Lib.hid h
  obtain ⟨P, hP⟩ : ∃ P, OneP A E W = P := ⟨_, rfl⟩
  have HP := Lib.hid hP
  rw [hP]
  obtain ⟨L, hL⟩ : ∃ L, onl E.on 16 = L := ⟨_, rfl⟩
  have HL := Lib.hid hL
  rw [hL] at hLl HLn CL
  clear h hE hk hL hP
  go_enter Tryz.func57, Tryz.ntmps57
  go_wp2_with (first
    | (go_at_call 53; refine (CL.out _ HMK.out _).mono ?_; rintro e w1 ⟨v, rfl, hI, hB⟩; obtain ⟨pv, mv, cv, rfl⟩ := own_slice hI; have HJ0 := Lib.hid (And.intro hI hB); clear hI hB)
    | fail)
  have hml : (mv : Nat) = L.length := own_len HJ0.out.1
  subst hml
  have HJ : Hid (OJ A E W W.heap.size (.slice pv L.length cv) w1 ∧ ∀ j ∈ L.take 0, (E.c j).kicked = false) := Lib.hid ⟨⟨er_below H.out HJ0.out.2, gf_below HJ0.out.2, by rw [HL.out]; exact HJ0.out.1⟩, fun j hj => by simp at hj⟩
  clear HJ0 e2 HMK
  go_loopw [20] (fun s20 wr => ∃ k : Nat, k ≤ L.length ∧ s20 = .int .i64 k ∧ Hid (OJ A E W W.heap.size (.slice pv L.length cv) wr ∧ ∀ j ∈ L.take k, (E.c j).kicked = false)) (fun s20 _ => L.length - (intOf s20).toNat)
  case atStart => exact ⟨0, by omega, rfl, HJ⟩
  case round =>
    obtain ⟨k, hk, rfl, HJ1⟩ := hrel
    clear HJ
    by_cases hkn : k = L.length
    · subst hkn
      clear hk
      have HNK : Hid (E.nextK = none) := Lib.hid (by
        have := HJ1.out.2
        rw [List.take_length] at this
        unfold En.nextK
        rw [HL.out]
        exact find_no this)
      obtain ⟨wo, hwo⟩ : ∃ wo, wo = wr := ⟨_, rfl⟩
      subst hwo
      obtain ⟨m2, hk2, e2⟩ := HM.out _ HJ1.out.1.er
      have HMK := Lib.hid hk2
      clear hk2
      go_wp2_with (first
        | (go_at_call 53; refine (CL.out _ HMK.out _).mono ?_; rintro e w2 ⟨v, rfl, hI, hB⟩; obtain ⟨pv2, mv2, cv2, rfl⟩ := own_slice hI; have HJ0 := Lib.hid (And.intro hI hB); clear hI hB)
        | fail)
      have hml : (mv2 : Nat) = L.length := own_len HJ0.out.1
      subst hml
      have HB2 : Hid (W.heap.size ≤ wo.heap.size ∧ ∀ x, A.has E.n x → x < wo.heap.size) := Lib.hid ⟨HJ1.out.1.gf.size, fun x hx => Nat.lt_of_lt_of_le (HA.out x hx) HJ1.out.1.gf.size⟩
      obtain ⟨B2, hB2⟩ : ∃ B2, wo.heap.size = B2 := ⟨_, rfl⟩
      have HJ : Hid (OJ A E W B2 (.slice pv2 L.length cv2) w2 ∧ ∀ j ∈ L.take 0, (E.c j).d.latched = false) := Lib.hid ⟨⟨er_below HJ1.out.1.er HJ0.out.2, gf_trans HJ1.out.1.gf (gf_below HJ0.out.2), by rw [HL.out, ← hB2]; exact HJ0.out.1⟩, fun j hj => by simp at hj⟩
      rw [hB2] at HB2
      clear HJ0 e2 HMK hB2 HJ1
      go_loopw [35] (fun s35 wr => ∃ k : Nat, k ≤ L.length ∧ s35 = .int .i64 k ∧ Hid (OJ A E W B2 (.slice pv2 L.length cv2) wr ∧ ∀ j ∈ L.take k, (E.c j).d.latched = false)) (fun s35 _ => L.length - (intOf s35).toNat)
      case atStart => exact ⟨0, by omega, rfl, HJ⟩
      case round =>
        obtain ⟨k, hk, rfl, HJ1⟩ := hrel
        clear HJ
        by_cases hkn : k = L.length
        · subst hkn
          clear hk
          have HNI : Hid (E.nextI = none) := Lib.hid (by
            have := HJ1.out.2
            rw [List.take_length] at this
            unfold En.nextI
            rw [HL.out]
            exact find_no this)
          clear HB2
          obtain ⟨wo2, hwo⟩ : ∃ wo2, wo2 = wr := ⟨_, rfl⟩
          subst hwo
          obtain ⟨m2, hk2, e2⟩ := HM.out _ HJ1.out.1.er
          have HMK := Lib.hid hk2
          clear hk2
          go_wp2_with (first
            | (go_at_call 53; refine (CL.out _ HMK.out _).mono ?_; rintro e w3 ⟨v, rfl, hI, hB⟩; obtain ⟨pv3, mv3, cv3, rfl⟩ := own_slice hI; have HJ0 := Lib.hid (And.intro hI hB); clear hI hB)
            | fail)
          have hml : (mv3 : Nat) = L.length := own_len HJ0.out.1
          subst hml
          have HB2 : Hid (W.heap.size ≤ wo2.heap.size ∧ ∀ x, A.has E.n x → x < wo2.heap.size) := Lib.hid ⟨HJ1.out.1.gf.size, fun x hx => Nat.lt_of_lt_of_le (HA.out x hx) HJ1.out.1.gf.size⟩
          obtain ⟨B3, hB2⟩ : ∃ B3, wo2.heap.size = B3 := ⟨_, rfl⟩
          have HJ : Hid (OJ A E W B3 (.slice pv3 L.length cv3) w3 ∧ ∀ j ∈ L.take 0, (E.c j).raised = false) := Lib.hid ⟨⟨er_below HJ1.out.1.er HJ0.out.2, gf_trans HJ1.out.1.gf (gf_below HJ0.out.2), by rw [HL.out, ← hB2]; exact HJ0.out.1⟩, fun j hj => by simp at hj⟩
          rw [hB2] at HB2
          clear HJ0 e2 HMK hB2 HJ1
          go_loopw [55] (fun s55 wr => ∃ k : Nat, k ≤ L.length ∧ s55 = .int .i64 k ∧ Hid (OJ A E W B3 (.slice pv3 L.length cv3) wr ∧ ∀ j ∈ L.take k, (E.c j).raised = false)) (fun s55 _ => L.length - (intOf s55).toNat)
          case atStart => exact ⟨0, by omega, rfl, HJ⟩
          case round =>
            obtain ⟨k, hk, rfl, HJ1⟩ := hrel
            clear HJ
            by_cases hkn : k = L.length
            · subst hkn
              clear hk
              have HNS : Hid (E.nextS = none) := Lib.hid (by
                have := HJ1.out.2
                rw [List.take_length] at this
                unfold En.nextS
                rw [HL.out]
                exact find_no this)
              go_wp2_with fail
              show P (.returned (.tuple #[.slice none 0 0, .bool false])) _
              rw [← HP.out]
              exact onep_none (one_n HNK.out HNI.out HNS.out) HJ1.out.1.er HJ1.out.1.gf
            · obtain ⟨i, hki⟩ : ∃ i, L[k]? = some i := ⟨_, List.getElem?_eq_getElem (by omega)⟩
              obtain ⟨gb, rfl, hgb1, hgb2, x0⟩ := it_get HJ1.out.1.it (by rw [HL.out]; exact hki)
              have HIN : Hid (i < E.n) := Lib.hid (HLn.out i (List.mem_of_getElem? hki))
              have hk2 : (k : Int) < (L.length : Int) := by omega
              have hk3 : k < L.length := by omega
              have HKI := Lib.hid hki
              clear hki hkn hk
              cases hkk : (E.c i).raised with
              | true =>
                have CK := Lib.hid (HS1.out i HIN.out hkk _ HJ1.out.1.er)
                have HKK := Lib.hid hkk
                clear hkk
                go_wp2_with (first
                  | (go_at_call 49; refine (CK.out).mono ?_; clear CK; rintro e w4 ⟨⟨v4, rfl, hF⟩, hE, hG⟩; have HH := Lib.hid (And.intro hF (And.intro hE hG)); clear hE hG hF)
                  | fail)
                show P (.returned (.tuple #[v4, .bool true])) _
                rw [← HP.out]
                refine onep_some (one_s HNK.out HNI.out ?_) (ft_base HH.out.1 HJ1.out.1.gf.size) HH.out.2.1 (gf_trans HJ1.out.1.gf HH.out.2.2)
                unfold En.nextS
                rw [HL.out]
                exact find_at HKI.out HJ1.out.2 HKK.out
              | false =>
                have CK := Lib.hid (HS0.out i HIN.out hkk _ HJ1.out.1.er)
                have HKK := Lib.hid hkk
                clear hkk
                go_wp2_with (first
                  | (go_at_call 49; refine (CK.out).mono ?_; clear CK; rintro e wr ⟨rfl, rfl⟩)
                  | fail)
                go_roundw
                case rel => exact ⟨k + 1, by omega, by go_num, Lib.hid ⟨HJ1.out.1, take_no HJ1.out.2 HKI.out HKK.out⟩⟩
                case measure => simp [intOf]; omega
        · obtain ⟨i, hki⟩ : ∃ i, L[k]? = some i := ⟨_, List.getElem?_eq_getElem (by omega)⟩
          obtain ⟨gb, rfl, hgb1, hgb2, x0⟩ := it_get HJ1.out.1.it (by rw [HL.out]; exact hki)
          have HIN : Hid (i < E.n) := Lib.hid (HLn.out i (List.mem_of_getElem? hki))
          have hk2 : (k : Int) < (L.length : Int) := by omega
          have hk3 : k < L.length := by omega
          have HKI := Lib.hid hki
          clear hki hkn hk
          cases hkk : (E.c i).d.latched with
          | true =>
            have CK := Lib.hid (HI1.out i HIN.out hkk _ HJ1.out.1.er)
            have HKK := Lib.hid hkk
            clear hkk
            go_wp2_with (first
              | (go_at_call 48; refine (CK.out).mono ?_; clear CK; rintro e w4 ⟨⟨v4, rfl, hF⟩, hE, hG⟩; have HH := Lib.hid (And.intro hF (And.intro hE hG)); clear hE hG hF)
              | fail)
            show P (.returned (.tuple #[v4, .bool true])) _
            rw [← HP.out]
            refine onep_some (one_i HNK.out ?_) (ft_base HH.out.1 HJ1.out.1.gf.size) HH.out.2.1 (gf_trans HJ1.out.1.gf HH.out.2.2)
            unfold En.nextI
            rw [HL.out]
            exact find_at HKI.out HJ1.out.2 HKK.out
          | false =>
            have CK := Lib.hid (HI0.out i HIN.out hkk _ HJ1.out.1.er)
            have HKK := Lib.hid hkk
            clear hkk
            go_wp2_with (first
              | (go_at_call 48; refine (CK.out).mono ?_; clear CK; rintro e w4 ⟨rfl, hE, hG⟩; have HH := Lib.hid (And.intro hE hG); clear hE hG)
              | fail)
            have HJ2 : Hid (OJ A E W B2 (.slice (some ⟨gb, 0, none⟩) L.length cv2) w4 ∧ ∀ j ∈ L.take (k + 1), (E.c j).d.latched = false) := Lib.hid ⟨⟨HH.out.1, gf_trans HJ1.out.1.gf HH.out.2, it_gf HJ1.out.1.it HH.out.2 HB2.out.2⟩, take_no HJ1.out.2 HKI.out HKK.out⟩
            go_roundw
            case rel => exact ⟨k + 1, by omega, by go_num, HJ2⟩
            case measure => simp [intOf]; omega
    · obtain ⟨i, hki⟩ : ∃ i, L[k]? = some i := ⟨_, List.getElem?_eq_getElem (by omega)⟩
      obtain ⟨gb, rfl, hgb1, hgb2, x0⟩ := it_get HJ1.out.1.it (by rw [HL.out]; exact hki)
      have HIN : Hid (i < E.n) := Lib.hid (HLn.out i (List.mem_of_getElem? hki))
      have hk2 : (k : Int) < (L.length : Int) := by omega
      have hk3 : k < L.length := by omega
      have HKI := Lib.hid hki
      clear hki hkn hk
      cases hkk : (E.c i).kicked with
      | true =>
        have CK := Lib.hid (HK1.out i HIN.out hkk _ HJ1.out.1.er)
        have HKK := Lib.hid hkk
        clear hkk
        go_wp2_with (first
          | (go_at_call 50; refine (CK.out).mono ?_; clear CK; rintro e w2 ⟨rfl, hE, hG⟩; have HH := Lib.hid (And.intro hE hG); clear hE hG)
          | fail)
        show P (.returned (.tuple #[.slice none 0 0, .bool true])) _
        rw [← HP.out]
        refine onep_some (one_k ?_) (ft_nil _ _) HH.out.1 (gf_trans HJ1.out.1.gf HH.out.2)
        unfold En.nextK
        rw [HL.out]
        exact find_at HKI.out HJ1.out.2 HKK.out
      | false =>
        have CK := Lib.hid (HK0.out i HIN.out hkk _ HJ1.out.1.er)
        have HKK := Lib.hid hkk
        clear hkk
        go_wp2_with (first
          | (go_at_call 50; refine (CK.out).mono ?_; clear CK; rintro e wr ⟨rfl, rfl⟩)
          | fail)
        go_roundw
        case rel => exact ⟨k + 1, by omega, by go_num, Lib.hid ⟨HJ1.out.1, take_no HJ1.out.2 HKI.out HKK.out⟩⟩
        case measure => simp [intOf]; omega
end
end Go.Proofs.YtlcaepcojglbiaaGreatDoor.Tp
namespace Go.Proofs.YtlcaepcojglbiaaGreatDoor.Tp
open Go.RowKit Go.Maps
set_option linter.unusedVariables false
set_option linter.unusedSimpArgs false
def SetP (A : EA) (E : En) (M : GM) (W : World) (e : Ending) (W' : World) : Prop :=
  ∃ o E' M', Settle E M o E' M' ∧ (∃ v, e = .returned v ∧ FT W.heap.size v o W') ∧ ER A E' W' ∧ GF (A.has E.n) W W'
/-- What holds at the label. -/
structure SJ (A : EA) (E : En) (M : GM) (W : World) (D : List Fd) (E1 : En) (M1 : GM) (v : Value) (w : World) : Prop where
  ei : EI E1 M1
  er : ER A E1 w
  gf : GF (A.has E.n) W w
  ft : FT W.heap.size v D w
  st : ∀ o E' M', Settle E1 M1 o E' M' → Settle E M (D ++ o) E' M'
  ln : D.length + E1.wn ≤ 64
  n : E1.n = E.n
theorem fdcs_app (D L : List Fd) : fdcs (D ++ L) = fdcs D ++ fdcs L := by simp [fdcs]
structure SG where
  D : List Fd
  E : En
  M : GM
  v : Value
section
variable {A : EA} {E : En} {M : GM} {W : World}
theorem grown_er {E1 : En} {v : Value} {D : List Fd} {w w' : World} (HA : ∀ x, A.has E.n x → x < W.heap.size) (hn : E1.n = E.n) (h : ER A E1 w) (hf : FT W.heap.size v D w) (g : w.grownBy w' v.ownBlock) : ER A E1 w' :=
  er_same h g.size fun x hx => by
    have hx' : A.has E.n x := by rw [← hn]; exact hx
    exact g.block x (er_lt h x hx) fun e => by
      have := (ft_lt hf x e.symm).1
      have := HA x hx'
      omega
set_option maxRecDepth 100000 in
set_option maxHeartbeats 8000000 in
theorem esettle_at (W : World) (h : ER A E W) (hE : EI E M) : Calls Tryz.prog 29 #[ptr A.e] W (SetP A E M W) := by
  have HA : Hid (∀ x, A.has E.n x → x < W.heap.size) := Lib.hid fun x hx => er_lt h x hx
  have HC : Hid (∀ (D : List Fd) (E1 : En) (M1 : GM) (v : Value) (w : World), SJ A E M W D E1 M1 v w → Calls Tryz.prog 57 #[ptr A.e] w fun e w' => ∃ (v1 : Value) (b : Bool) (l : List Fd) (E2 : En), e = .returned (.tuple #[v1, .bool b]) ∧ FT w.heap.size v1 l w' ∧ D.length + l.length ≤ 64 ∧ FT W.heap.size v D w' ∧ W.heap.size ≤ w'.heap.size ∧ (∀ v2 w2, w2.ownsRow W.heap.size 48 5 v2 (D.length + l.length) (fdcs D ++ fdcs l) → w'.grownBy w2 v.ownBlock → (b = true → SJ A E M W (D ++ l) E2 (E1.Mone M1) v2 w2 ∧ E2.mu < E1.mu) ∧ (b = false → SetP A E M W (.returned v2) w2))) := Lib.hid fun D E1 M1 v w hJ => by
    refine (eone_at w hJ.er hJ.ei).mono ?_
    intro e w' hp
    unfold OneP at hp
    have hHA : ∀ x, A.has E.n x → x < W.heap.size := HA.out
    have hall : ∀ {E2 : En} {w'}, ER A E2 w' → GF (A.has E1.n) w w' → FT W.heap.size v D w' ∧ W.heap.size ≤ w'.heap.size := fun {E2 w'} _ hg => by
      rw [hJ.n] at hg
      refine ⟨ft_same hJ.ft fun k hk => ?_, Nat.le_trans hJ.gf.size hg.size⟩
      obtain ⟨h1, h2⟩ := ft_lt hJ.ft k hk
      exact hg.block k h2 fun e => by have := hHA k e; omega
    cases ho : E1.one with
    | none =>
      rw [ho] at hp
      obtain ⟨rfl, her, hg⟩ := hp
      obtain ⟨h1, h2⟩ := hall her hg
      refine ⟨_, false, [], E1, rfl, ft_nil _ _, by have := hJ.ln; simp; omega, h1, h2, fun v2 w2 hown hgr => ⟨fun e => (by cases e), fun _ => ?_⟩⟩
      have hst := hJ.st [] E1 M1 (.done ho)
      rw [List.append_nil] at hst
      refine ⟨D, E1, M1, hst, ⟨v2, rfl, by simpa [FT, fdcs] using hown⟩, grown_er hHA hJ.n her h1 hgr, ?_⟩
      rw [hJ.n] at hg
      exact gf_grown (gf_trans hJ.gf hg) hgr fun k hk => .inr (ft_lt hJ.ft k hk).1
    | some x =>
      obtain ⟨l, E2⟩ := x
      rw [ho] at hp
      obtain ⟨⟨v1, rfl, hf⟩, her, hg⟩ := hp
      obtain ⟨h1, h2⟩ := hall her hg
      have hwn := one_wn hJ.ei ho
      have hln := hJ.ln
      refine ⟨v1, true, l, E2, rfl, hf, by omega, h1, h2, fun v2 w2 hown hgr => ⟨fun _ => ⟨⟨ei_one hJ.ei ho, ?_, ?_, ?_, fun o E' M' hs => ?_, ?_, ?_⟩, one_mu ho⟩, fun e => by cases e⟩⟩
      · exact grown_er hHA ((one_same ho).2.1.trans hJ.n) her h1 hgr
      · rw [hJ.n] at hg
        exact gf_grown (gf_trans hJ.gf hg) hgr fun k hk => .inr (ft_lt hJ.ft k hk).1
      · unfold FT
        rw [fdcs_app, List.length_append]
        exact hown
      · rw [List.append_assoc]
        exact hJ.st _ _ _ (.step ho hs)
      · rw [List.length_append]; omega
      · exact (one_same ho).2.1.trans hJ.n
  have HJ0 : Hid (SJ A E M W [] E M (.slice none 0 0) W) := Lib.hid ⟨hE, h, gf_refl _ _, ft_nil _ _, fun o E' M' hs => hs, by have := hE.wn; simpa using this, rfl⟩
  obtain ⟨P, hP⟩ : ∃ P, SetP A E M W = P := ⟨_, rfl⟩
  have HP := Lib.hid hP
  rw [hP]
  clear h hE hP
  go_enter Tryz.func29, Tryz.ntmps29
  go_wp2
  refine wp_goto2 0 (fun (g : SG) a w => Hid (SJ A E M W g.D g.E g.M g.v w) ∧ ∃ u1 u4 u5 u6 u7 u8 u9 u10 u11 u12 u13 u14 u15 : Value, a = { tmps := #[ptr A.e, u1, .slice none 0 0, g.v, u4, u5, u6, u7, u8, u9, u10, u11, u12, u13, u14, u15], defers := [] }) (fun g => g.E.mu) rfl ?_ ?_
  rotate_left
  · intro HL
    replace HL := Lib.hid HL
    go_wp2
    refine wp_label ?_
    rename_i hK
    exact hK _ _ (HL.out ⟨[], E, M, .slice none 0 0⟩ _ _ ⟨HJ0, _, _, _, _, _, _, _, _, _, _, _, _, _, rfl⟩)
  clear HJ0
  rintro ⟨D, E1, M1, v⟩ a w ⟨HJ, u1, u4, u5, u6, u7, u8, u9, u10, u11, u12, u13, u14, u15, rfl⟩
  dsimp only at HJ ⊢
  have C := Lib.hid (HC.out D E1 M1 v w HJ.out)
  obtain ⟨pv, mv, cv, rfl⟩ := own_slice HJ.out.ft
  have HU := Lib.hid Tryz.underlying34
  clear HC
  go_wp2_with (first
    | (go_at_call 57; refine (C.out).mono ?_; clear C; rintro e w1 ⟨v1, b, l, E2, rfl, hf1, hln, hf, hsz, hnx⟩; have HF1 := Lib.hid hf1; have HF := Lib.hid hf; have HLN : Hid (D.length + l.length ≤ 1000000) := Lib.hid (by omega); have HSZ := Lib.hid hsz; have HNX := Lib.hid hnx; obtain ⟨p1, m1, c1, rfl⟩ := own_slice hf1; clear hf1 hln hf hsz hnx)
    | (at_builtin; refine wpList_app _ rfl _ _ 34 rfl Tryz.underlying34 info48z rfl (by omega) (by omega) ?_ ?_ HF.out HF1.out (fdcs_one l) HLN.out HSZ.out ?_; rfl; rfl; intro v2 w2 hown hgr hloc; have HN := Lib.hid (HNX.out v2 w2 hown hgr); obtain ⟨p2, m2, c2, rfl⟩ := own_slice hown; clear hown hgr hloc)
    | fail)
  · rename_i hb
    have h9 := HN.out.1 (by simpa using hb)
    go_step3
    exact ⟨rfl, ⟨D ++ l, E2, E1.Mone M1, _⟩, ⟨Lib.hid h9.1, _, _, _, _, _, _, _, _, _, _, _, _, _, rfl⟩, h9.2⟩
  · rename_i hb
    show P (.returned (.slice p2 m2 c2)) _
    rw [← HP.out]
    exact HN.out.2 hb
end
end Go.Proofs.YtlcaepcojglbiaaGreatDoor.Tp
namespace Go.Proofs.YtlcaepcojglbiaaGreatDoor.Tp
open Go.RowKit
set_option linter.unusedVariables false
set_option linter.unusedSimpArgs false
/-! Processors that come and go. -/
def En.gone0 (E : En) (i d : Nat) : En := E.moves i d (ball (E.c i).b 6)
def En.gone1 (E : En) (i : Nat) : En := E.setc i { E.c i with d := { (E.c i).d with off := true, armed := false, latched := false } }
def En.gone2 (E : En) (i : Nat) : En := E.setc i { E.c i with raised := false }
def En.gone3 (E : En) (i : Nat) : En := E.setc i { E.c i with kicked := false }
def En.offs (E : En) (i : Nat) : En := { ((E.gone1 i).gone2 i).gone3 i with on := mwo E.on i }
def En.offl (E : En) (i d : Nat) : En := ((E.gone0 i d).offs i).look d
def Moff (E : En) (M : GM) (i d : Nat) : GM := Mmoves M d (ball (E.c i).b 6)
theorem nextOn_some {on : Nat → Bool} {i k : Nat} (h : nextOn on i = some k) : k < 16 ∧ on k = true := by
  unfold nextOn at h
  rw [Option.or_eq_some_iff] at h
  rcases h with h | ⟨-, h⟩
  · have hx := h
    have h1 := List.mem_of_find?_eq_some hx
    have h2 := List.find?_some hx
    simp only [Bool.and_eq_true] at h2
    exact ⟨List.mem_range.1 h1, h2.2⟩
  · unfold firstOn at h
    have h1 := List.mem_of_find?_eq_some h
    have h2 := List.find?_some h
    exact ⟨List.mem_range.1 h1, h2⟩
section
variable {E : En} {M : GM}
theorem moves_same (i d : Nat) : ∀ (X : List Tm) (E : En), (E.moves i d X).n = E.n ∧ (E.moves i d X).K = E.K ∧ (E.moves i d X).on = E.on
  | [], E => ⟨rfl, rfl, rfl⟩
  | t :: X, E => moves_same i d X _
theorem moff_fn (h : EI E M) {i d : Nat} (hi : i < E.n) (id : Int) : Moff E M i d id = (M id).map fun x => if x.1 = i then (d, x.2) else x := by
  have hb := mmoves_fn d id (ball (E.c i).b 6) M (ball_nd h hi 6 (by omega))
  unfold Moff
  cases hM : M id with
  | none =>
    rw [hb.2 (fun t ht e => by
      have := (ball_some h hi).1 ht
      rw [e, hM] at this
      cases this), hM]
    rfl
  | some x =>
    obtain ⟨j, t⟩ := x
    have hd := (h.dom _ _ _ hM).1
    by_cases e : j = i
    · subst e
      have := hb.1 t ((ball_some h hi).2 (by rw [hd]; exact hM)) hd
      rw [this]
      simp
    · rw [hb.2 (fun u hu e2 => by
        have := (ball_some h hi).1 hu
        rw [e2, hM] at this
        cases this
        exact e rfl), hM]
      simp [e]
theorem ei_gone1 (h : EI E M) (i : Nat) : EI (E.gone1 i) M := ei_setc (i := i) (c := { E.c i with d := { (E.c i).d with off := true, armed := false, latched := false } }) h rfl
theorem ei_gone2 (h : EI E M) (i : Nat) : EI (E.gone2 i) M := ei_setc (i := i) (c := { E.c i with raised := false }) h rfl
theorem ei_gone3 (h : EI E M) (i : Nat) : EI (E.gone3 i) M := ei_setc (i := i) (c := { E.c i with kicked := false }) h rfl
theorem ei_offl (h : EI E M) {i d : Nat} (hi : i < E.n) (hd : nextOn (mwo E.on i) i = some d) : EI (E.offl i d) (Moff E M i d) := by
  obtain ⟨-, hd2⟩ := nextOn_some hd
  have hd3 : E.on d = true ∧ i ≠ d := by
    unfold mwo at hd2
    simpa using hd2
  have hdn := h.onn d hd3.1
  have h1 : EI (E.gone0 i d) (Moff E M i d) := ei_moves (ball (E.c i).b 6) E M h (ball_nd h hi 6 (by omega)) (fun t ht => (ball_some h hi).1 ht) hdn hd3.1
  obtain ⟨s1, s2, s3⟩ := moves_same i d (ball (E.c i).b 6) E
  have h2 : EI ((((E.gone0 i d).gone1 i).gone2 i).gone3 i) (Moff E M i d) := ei_gone3 (ei_gone2 (ei_gone1 h1 i) i) i
  refine ei_look (E := (E.gone0 i d).offs i) ?_ d
  have hon : (E.gone0 i d).on = E.on := s3
  refine ⟨h2.ck, h2.mem, fun id j t hM => ?_, h2.wh, h2.nd, h2.srt, h2.cnt, h2.wn, fun j hj => h2.onn j ?_⟩
  · obtain ⟨a1, a2, a3, a4⟩ := h2.dom id j t hM
    refine ⟨a1, a2, ?_, a4⟩
    show mwo (E.gone0 i d).on i j = true
    rw [hon]
    have hj : j ≠ i := by
      rw [moff_fn h hi] at hM
      cases hm : M id with
      | none => rw [hm] at hM; cases hM
      | some x =>
        rw [hm] at hM
        simp only [Option.map_some, Option.some.injEq] at hM
        by_cases e : x.1 = i
        · rw [if_pos e] at hM
          cases hM
          exact fun e2 => hd3.2 e2.symm
        · rw [if_neg e] at hM
          subst hM
          exact e
    have hjo : E.on j = true := by
      rw [← hon]
      exact a3
    unfold mwo
    simp [hjo]
    exact fun e => hj e.symm
  · show (E.gone0 i d).on j = true
    have hj' : mwo (E.gone0 i d).on i j = true := hj
    unfold mwo at hj'
    simp only [Bool.and_eq_true] at hj'
    exact hj'.1
theorem ei_brings (h : EI E M) {i : Nat} (hi : i < E.n) : EI (E.brings i) M := by
  have h2 : EI (E.setc i { E.c i with d := { (E.c i).d with off := false } }) M := ei_setc h rfl
  refine ⟨h2.ck, h2.mem, fun id j t hM => ?_, h2.wh, h2.nd, h2.srt, h2.cnt, h2.wn, fun j hj => ?_⟩
  · obtain ⟨a1, a2, a3, a4⟩ := h2.dom id j t hM
    refine ⟨a1, a2, ?_, a4⟩
    show mwith E.on i j = true
    unfold mwith
    rw [show E.on j = true from a3]
    rfl
  · have hj' : mwith E.on i j = true := hj
    unfold mwith at hj'
    simp only [Bool.or_eq_true, decide_eq_true_eq] at hj'
    rcases hj' with h3 | h3
    · exact h.onn j h3
    · subst h3
      exact hi
theorem ei_ckt (h : EI E M) {K' : Ck} (hk : K'.ok) : EI (E.ckt K') M := ⟨hk, h.mem, h.dom, h.wh, h.nd, h.srt, h.cnt, h.wn, h.onn⟩
theorem ei_stp (h : EI E M) {K' : Ck} (hk : K'.ok) : EI (E.stp K') M := by
  unfold En.stp
  split
  · exact ei_ckt h hk
  · exact ei_kicks _ _ (ei_ckt h hk)
end
end Go.Proofs.YtlcaepcojglbiaaGreatDoor.Tp
