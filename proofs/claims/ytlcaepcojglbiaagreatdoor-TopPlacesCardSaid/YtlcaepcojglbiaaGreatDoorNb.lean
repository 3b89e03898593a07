/- The worked run, and the clocks go on: a part of the walk of the whole machine. For all states that the readings allow. -/
import Derived.KernelRfl
import Derived.Test.YtlcaepcojglbiaaGreatDoorNa
import Derived.Test.YtlcaepcojglbiaaGreatDoorMx
namespace Go.Proofs.YtlcaepcojglbiaaGreatDoor.Tp
open Go.RowKit Go.Maps
set_option linter.unusedVariables false
set_option linter.unusedSimpArgs false
/-! What the example's engines do, reckoned. -/
section
variable {E E' E1 : En} {M M' : GM} {s : St} {o l : List Fd} {x : Int}
theorem settle_none (h : E.one = none) (hs : Settle E M o E' M') : o = [] ∧ E' = E := by
  cases hs with
  | done _ => exact ⟨rfl, rfl⟩
  | step ho _ => rw [h] at ho; cases ho
theorem settle_some (h : E.one = some (l, E1)) (hs : Settle E M o E' M') : ∃ o1 M1, o = l ++ o1 ∧ Settle E1 M1 o1 E' M' := by
  cases hs with
  | done ho => rw [h] at ho; cases ho
  | step ho hs =>
    rw [h] at ho
    cases ho
    exact ⟨_, _, rfl, hs⟩
theorem dor_adv (hd : DoR E M s o x E' M') (hk : s.kind = 3) (hb : E.K.bad s.n = false) : o = [] ∧ E' = (E.ckt (E.K.adv s.n)).passes E.n ∧ M' = M := by
  cases hd with
  | adv_ok _ _ => exact ⟨rfl, rfl, rfl⟩
  | adv_no _ h => rw [hb] at h; cases h
  | clk x K' h => omega
  | settle o' E2 M2 h hs => omega
  | irq i h => omega
  | soft i h => omega
  | _ => first | (exfalso; omega) | omega
theorem dor_settle (hd : DoR E M s o x E' M') (hk : s.kind = 12) : Settle E M o E' M' := by
  cases hd with
  | settle o' E2 M2 h hs => exact hs
  | _ => exfalso; omega
theorem dor_set (hd : DoR E M s o x E' M') (hk : s.kind = 7) : o = [] ∧ E' = E.stp (E.K.set s.n) ∧ M' = M := by
  cases hd with
  | clk x K' h =>
    rcases h with ⟨-, rfl⟩ | ⟨h, -⟩ | ⟨h, -⟩
    · exact ⟨rfl, rfl, rfl⟩
    · omega
    · omega
  | _ => exfalso; omega
theorem dor_start (hd : DoR E M s o x E' M') (hk : s.kind = 1) (hc : s.cpu = 0) (h0 : onI E.on 0 = true) (hb : badT s.t = false) (hM : M s.t.id = none) (hn : E.wn < 64) : o = [] ∧ E' = (E.put 0 s.t).look 0 ∧ M' = Mset M s.t.id (some (0, s.t)) ∧ x = 0 := by
  cases hd with
  | start_ok i h1 h2 =>
    have : i = 0 := by omega
    subst this
    exact ⟨rfl, rfl, rfl, rfl⟩
  | start_no x h1 h2 =>
    exfalso
    rw [hc, h0, hb, hM] at h2
    rcases h2 with h2 | h2 | h2 | h2
    · cases h2
    · cases h2
    · cases h2
    · omega
  | _ => exfalso; omega
end
def t4 : Tm := ⟨4, 1, 500, 510, false⟩
def M00 : GM := fun _ => none
def rS1 : St := ⟨1, 0, 0, t4⟩
def rS2 : St := ⟨3, 0, 3, tm0⟩
def rS3 : St := ⟨7, 0, 600, tm0⟩
def rS4 : St := ⟨12, 0, 0, tm0⟩
def rS5 : St := ⟨3, 0, 1, tm0⟩
def rE1 : En := ((En.new 2 1000).put 0 t4).look 0
def rM1 : GM := Mset M00 4 (some (0, t4))
def rE2 : En := (rE1.ckt (rE1.K.adv 3)).passes 2
def rE3 : En := rE2.stp (rE2.K.set 600)
def rE4 : En := rE3.kick 0
def rE5 : En := rE4.kick 1
def rE6 : En := (rE5.ckt (rE5.K.adv 1)).passes 2
def fd4 : Fd := ⟨4, 1, 0, 4, 601⟩
theorem rk3 : rE3.nextK = some 0 := by kernel_rfl
theorem rk4 : rE4.nextK = some 1 := by kernel_rfl
theorem rk5 : rE5.nextK = none := by kernel_rfl
theorem ri5 : rE5.nextI = none := by kernel_rfl
theorem rs5 : rE5.nextS = none := by kernel_rfl
theorem rk6 : rE6.nextK = none := by kernel_rfl
theorem ri6 : rE6.nextI = some 0 := by kernel_rfl
theorem rx6 : (rE6.exp 0 false).map (fd rE6.K 0) = [fd4] := by kernel_rfl
theorem rk7 : (rE6.irq 0).nextK = none := by kernel_rfl
theorem ri7 : (rE6.irq 0).nextI = none := by kernel_rfl
theorem rs7 : (rE6.irq 0).nextS = none := by kernel_rfl
theorem run_row {o : List Fd} {E' : En} {M' : GM} (h : RunR rE3 rM1 [rS4, rS5, rS4] o E' M') : o = [fd4] := by
  cases h with
  | cons hd1 h =>
    cases h with
    | cons hd2 h =>
      cases h with
      | cons hd3 h =>
        cases h with
        | nil =>
          obtain ⟨o1, M1, rfl, hs⟩ := settle_some (one_k rk3) (dor_settle hd1 rfl)
          obtain ⟨o2, M2, rfl, hs⟩ := settle_some (E := rE4) (one_k rk4) hs
          obtain ⟨rfl, rfl⟩ := settle_none (E := rE5) (one_n rk5 ri5 rs5) hs
          obtain ⟨rfl, rfl, rfl⟩ := dor_adv hd2 rfl (by kernel_rfl)
          obtain ⟨o3, M3, rfl, hs⟩ := settle_some (E := rE6) (one_i rk6 ri6) (dor_settle hd3 rfl)
          obtain ⟨rfl, rfl⟩ := settle_none (one_n rk7 ri7 rs7) hs
          rw [rx6]
          rfl
def uE0 : En := En.new 1 1073741824
def uE1 : En := uE0.put9
def uE2 : En := (uE1.ckt (uE1.K.adv 2)).passes 1
def uS1 : St := ⟨3, 0, 2, tm0⟩
def uS2 : St := ⟨12, 0, 0, tm0⟩
theorem uk2 : uE2.nextK = none := by kernel_rfl
theorem ui2 : uE2.nextI = some 0 := by kernel_rfl
theorem ux2 : (uE2.exp 0 false).map (fd uE2.K 0) = [fd9] := by kernel_rfl
theorem uk3 : (uE2.irq 0).nextK = none := by kernel_rfl
theorem ui3 : (uE2.irq 0).nextI = none := by kernel_rfl
theorem us3 : (uE2.irq 0).nextS = none := by kernel_rfl
theorem ut3 : (uE2.irq 0).K.tm 2 = 2 := by kernel_rfl
theorem ustep_1 {o : List Fd} {x : Int} {E' : En} {M M' : GM} (h : DoR uE1 M uS1 o x E' M') : o = [] ∧ E' = uE2 ∧ M' = M := dor_adv h rfl (by kernel_rfl)
theorem ustep_2 {o : List Fd} {x : Int} {E' : En} {M M' : GM} (h : DoR uE2 M uS2 o x E' M') : o = [fd9] ∧ E'.K.tm 2 = 2 := by
  obtain ⟨o1, M1, rfl, hs⟩ := settle_some (one_i uk2 ui2) (dor_settle h rfl)
  obtain ⟨rfl, rfl⟩ := settle_none (one_n uk3 ui3 us3) hs
  rw [ux2]
  exact ⟨rfl, ut3⟩
end Go.Proofs.YtlcaepcojglbiaaGreatDoor.Tp
namespace Go.Proofs.YtlcaepcojglbiaaGreatDoor.Tp
open Go.RowKit Go.Maps
set_option linter.unusedVariables false
set_option linter.unusedSimpArgs false
theorem gf_zero {F : Nat → Prop} {W w w' : World} (h : Below W.heap.size W w) (g : GF F w w') (hF : ∀ x, F x → x = 0 ∨ W.heap.size ≤ x) (h0 : w'.heap[0]? = w.heap[0]?) : Below W.heap.size W w' := by
  refine ⟨g.os.trans h.os, g.tape.trans h.tape, g.output.trans h.output, Nat.le_trans h.size g.size, fun x hx => ?_⟩
  by_cases e : x = 0
  · subst e
    exact h0.trans (h.block 0 hx)
  · refine (g.block x (Nat.lt_of_lt_of_le hx h.size) fun hf => ?_).trans (h.block x hx)
    rcases hF x hf with q | q <;> omega
section
variable {A : EA} {E E2 : En} {M M2 : GM} {W w : World}
theorem edo_lit (s : St) (hB : Below W.heap.size W w) (hA : ∀ x, A.has E.n x → x = 0 ∨ W.heap.size ≤ x) (h : ER A E w) (hE : EI E M) (hw : s.wf) (hg : E.K.gen < 1000000) (hd : ∀ o x E' M', DoR E M s o x E' M' → E' = E2 ∧ M' = M2) : Calls Tryz.prog 7 #[ptr A.e, stv s] w fun e w' => (∃ v, e = .returned v) ∧ ER A E2 w' ∧ EI E2 M2 ∧ Below W.heap.size W w' := by
  refine (edo_at s w h hE hw).mono ?_
  rintro e w' ⟨o, x, E', M', hdo, ⟨v, rfl, -⟩, her, hgf⟩
  obtain ⟨rfl, rfl⟩ := hd _ _ _ _ hdo
  exact ⟨⟨_, rfl⟩, her, (dor_ei hE hw.t hg hdo).1, gf_zero hB hgf hA (er_zero h her)⟩
end
theorem wf4 : t4.wf := ⟨by unfold i64; decide, by unfold i64; decide, by unfold i64; decide, by unfold i64; decide⟩
theorem w_s1 : rS1.wf := ⟨by unfold i64; decide, by unfold i64; decide, by unfold i64; decide, wf4⟩
theorem w_s2 : rS2.wf := ⟨by unfold i64; decide, by unfold i64; decide, by unfold i64; decide, wf0⟩
theorem w_s3 : rS3.wf := ⟨by unfold i64; decide, by unfold i64; decide, by unfold i64; decide, wf0⟩
theorem w_s4 : rS4.wf := ⟨by unfold i64; decide, by unfold i64; decide, by unfold i64; decide, wf0⟩
theorem w_s5 : rS5.wf := ⟨by unfold i64; decide, by unfold i64; decide, by unfold i64; decide, wf0⟩
theorem w_u1 : uS1.wf := ⟨by unfold i64; decide, by unfold i64; decide, by unfold i64; decide, wf0⟩
theorem w_u2 : uS2.wf := ⟨by unfold i64; decide, by unfold i64; decide, by unfold i64; decide, wf0⟩
abbrev rowc : Array Value := #[.int .i64 12, .int .i64 0, .int .i64 0, .int .i64 0, .int .i64 0, .int .i64 0, .int .i64 0, .bool false, .int .i64 3, .int .i64 0, .int .i64 1, .int .i64 0, .int .i64 0, .int .i64 0, .int .i64 0, .bool false, .int .i64 12, .int .i64 0, .int .i64 0, .int .i64 0, .int .i64 0, .int .i64 0, .int .i64 0, .bool false]
theorem row_sr {b : Nat} {W : World} (h : W.heap[b]? = some (.cells rowc 33)) : SR b [rS4, rS5, rS4] W := by
  refine ⟨fun k s hk => ?_, (Array.getElem?_eq_some_iff.1 h).1⟩
  rcases k with _ | _ | _ | k
  · obtain rfl : rS4 = s := by simpa using hk
    exact ⟨(cell_of h 0 _ rfl).1, (cell_of h 1 _ rfl).1, (cell_of h 2 _ rfl).1, (cell_of h 3 _ rfl).1, (cell_of h 4 _ rfl).1, (cell_of h 5 _ rfl).1, (cell_of h 6 _ rfl).1, (cell_of h 7 _ rfl).1⟩
  · obtain rfl : rS5 = s := by simpa using hk
    exact ⟨(cell_of h 8 _ rfl).1, (cell_of h 9 _ rfl).1, (cell_of h 10 _ rfl).1, (cell_of h 11 _ rfl).1, (cell_of h 12 _ rfl).1, (cell_of h 13 _ rfl).1, (cell_of h 14 _ rfl).1, (cell_of h 15 _ rfl).1⟩
  · obtain rfl : rS4 = s := by simpa using hk
    exact ⟨(cell_of h 16 _ rfl).1, (cell_of h 17 _ rfl).1, (cell_of h 18 _ rfl).1, (cell_of h 19 _ rfl).1, (cell_of h 20 _ rfl).1, (cell_of h 21 _ rfl).1, (cell_of h 22 _ rfl).1, (cell_of h 23 _ rfl).1⟩
  · simp at hk
theorem one_row {base e size n : Nat} {v : Value} {xs : List Value} {w : World} (h : w.ownsRow base e size v n xs) (hn : n = 1) : ∃ gb c, v = .slice (some ⟨gb, 0, none⟩) 1 c ∧ base ≤ gb ∧ gb < w.heap.size ∧ ∀ k u, xs[k]? = some u → w.cell? ((⟨gb, 0, none⟩ : Addr).add k) = some u := by
  subst hn
  rcases h.2 with ⟨e1, e2⟩ | ⟨gb, cap, cur, rfl, hb, hg, hrest⟩
  · cases e2
  · exact ⟨gb, cap, rfl, hb, (Array.getElem?_eq_some_iff.1 hg).1, World.ownsRow.cells (g := gb) h rfl⟩
theorem eq48 (w : World) : (Op.equalIn 10000 48 (.agg #[.int .i64 4, .int .i64 1, .int .i64 0, .int .i64 4, .int .i64 601]) (.agg #[.int .i64 4, .int .i64 1, .int .i64 0, .int .i64 4, .int .i64 601])).run Tryz.prog w = .ok true w := by kernel_rfl
theorem eq60 (w : World) : (Op.equalIn 10000 60 (.agg #[.int .i64 9, .int .i64 2]) (.agg #[.int .i64 9, .int .i64 2])).run Tryz.prog w = .ok true w := by kernel_rfl
theorem z137 : Tryz.zeroCells122[137]? = some (.bool false) := by kernel_rfl
theorem z160 : Tryz.zeroCells122.size = 160 := by kernel_rfl
theorem zs137 : (zSleep Tryz.zeroCells122)[137]? = some (.bool true) := by kernel_rfl
theorem zsl : L9 (zSleep Tryz.zeroCells122) := ⟨by kernel_rfl, by kernel_rfl, by kernel_rfl, by kernel_rfl⟩
theorem uon : onl uE0.on 16 = [0] := by kernel_rfl
theorem utm : uE0.K.tm 2 = 0 := by kernel_rfl
end Go.Proofs.YtlcaepcojglbiaaGreatDoor.Tp
namespace Go.Proofs.YtlcaepcojglbiaaGreatDoor.Tp
open Go.RowKit Go.Maps
set_option linter.unusedVariables false
set_option linter.unusedSimpArgs false
abbrev l8 (k c n i cl so ha : Int) : Value := .agg #[.int .i64 k, .int .i64 c, .int .i64 n, .int .i64 i, .int .i64 cl, .int .i64 so, .int .i64 ha, .bool false]
def mP9 : GM := Mput9 M00
/-- The engine of the first half, between two calls. -/
def EB (W : World) (A : EA) (E : En) (M : GM) (w : World) : Prop := ER A E w ∧ EI E M ∧ Below W.heap.size W w ∧ ∀ x, A.has E.n x → x = 0 ∨ W.heap.size ≤ x
/-- The system of the second half. -/
def UB (W : World) (A : EA) (E : En) (M : GM) (sb zb : Nat) (z : Array Value) (w : World) : Prop := UR A E sb zb z w ∧ EI E M ∧ Below W.heap.size W w ∧ (∀ x, A.has E.n x → x = 0 ∨ W.heap.size ≤ x) ∧ W.heap.size ≤ zb
section
variable {W w : World} {A : EA} {sb zb : Nat}
theorem eb_new (hT : TAB W) : Calls Tryz.prog 6 #[.int .i64 2, .int .i64 1, .int .i64 1000] W fun e w' => ∃ A : EA, e = .returned (ptr A.e) ∧ EB W A (En.new 2 1000) M00 w' :=
  (enew_at 2 (by omega) (by omega) 1000 (by omega) (by omega) W hT).mono fun e w' ⟨A, h1, h2, h3, h4⟩ => ⟨A, h1, h2, ei_new 2 (by omega) 1000, h3, h4⟩
theorem eb_1 (h : EB W A (En.new 2 1000) M00 w) : Calls Tryz.prog 7 #[ptr A.e, l8 1 0 0 4 1 500 510] w fun e w' => (∃ v, e = .returned v) ∧ EB W A rE1 rM1 w' :=
  (edo_lit (E2 := rE1) (M2 := rM1) rS1 h.2.2.1 h.2.2.2 h.1 h.2.1 w_s1 (by decide) fun o x E' M' hd => by
    obtain ⟨-, h2, h3, -⟩ := dor_start hd rfl rfl (by kernel_rfl) (by kernel_rfl) rfl (by decide)
    exact ⟨h2, h3⟩).mono fun e w' ⟨h1, h2, h3, h4⟩ => ⟨h1, h2, h3, h4, h.2.2.2⟩
theorem eb_2 (h : EB W A rE1 rM1 w) : Calls Tryz.prog 7 #[ptr A.e, l8 3 0 3 0 0 0 0] w fun e w' => (∃ v, e = .returned v) ∧ EB W A rE2 rM1 w' :=
  (edo_lit (E2 := rE2) (M2 := rM1) rS2 h.2.2.1 h.2.2.2 h.1 h.2.1 w_s2 (by decide) fun o x E' M' hd => by
    obtain ⟨-, h2, h3⟩ := dor_adv hd rfl (by kernel_rfl)
    exact ⟨h2, h3⟩).mono fun e w' ⟨h1, h2, h3, h4⟩ => ⟨h1, h2, h3, h4, h.2.2.2⟩
theorem rn3 : rE3.n = 2 := (stp_K _).2.1
theorem eb_3 (h : EB W A rE2 rM1 w) : Calls Tryz.prog 7 #[ptr A.e, l8 7 0 600 0 0 0 0] w fun e w' => (∃ v, e = .returned v) ∧ EB W A rE3 rM1 w' :=
  (edo_lit (E2 := rE3) (M2 := rM1) rS3 h.2.2.1 h.2.2.2 h.1 h.2.1 w_s3 (by decide) fun o x E' M' hd => by
    obtain ⟨-, h2, h3⟩ := dor_set hd rfl
    exact ⟨h2, h3⟩).mono fun e w' ⟨h1, h2, h3, h4⟩ => ⟨h1, h2, h3, h4, fun x hx => h.2.2.2 x (by rw [rn3] at hx; exact hx)⟩
theorem eb_run {b : Nat} (h : EB W A rE3 rM1 w) (hr : w.heap[b]? = some (.cells rowc 33)) (hb : ¬ A.has 2 b) (h0 : 0 < W.heap.size) : Calls Tryz.prog 10 #[ptr A.e, .slice (some ⟨b, 0, none⟩) 3 3] w fun e w' => ∃ gb c, e = .returned (.slice (some ⟨gb, 0, none⟩) 1 c) ∧ gb < w'.heap.size ∧ (w'.cell? ⟨gb, 0, none⟩ = some (.int .i64 4) ∧ w'.cell? ⟨gb, 1, none⟩ = some (.int .i64 1) ∧ w'.cell? ⟨gb, 2, none⟩ = some (.int .i64 0) ∧ w'.cell? ⟨gb, 3, none⟩ = some (.int .i64 4) ∧ w'.cell? ⟨gb, 4, none⟩ = some (.int .i64 601)) ∧ TAB w' ∧ Below W.heap.size W w' := by
  refine (erun_at (b := b) (cap := 3) [rS4, rS5, rS4] w h.1 h.2.1 (row_sr hr) (by rw [rn3]; exact hb) ?_ (by simp) (by decide)).mono ?_
  · intro s hs
    simp only [List.mem_cons, List.not_mem_nil, or_false] at hs
    rcases hs with rfl | rfl | rfl
    · exact w_s4
    · exact w_s5
    · exact w_s4
  · rintro e w' ⟨o, E', M', hR, ⟨v, rfl, hf⟩, her, hgf, -⟩
    obtain rfl := run_row hR
    obtain ⟨gb, c, rfl, -, hl, hc⟩ := one_row hf rfl
    exact ⟨gb, c, rfl, hl, ⟨hc 0 _ rfl, hc 1 _ rfl, hc 2 _ rfl, hc 3 _ rfl, hc 4 _ rfl⟩, her.tab, gf_zero h.2.2.1 hgf h.2.2.2 (er_zero h.1 her)⟩
theorem ub_new (hT : TAB W) : Calls Tryz.prog 12 #[.int .i64 1] W fun e w' => ∃ A sb zb, e = .returned (ptr sb) ∧ UB W A uE0 M00 sb zb Tryz.zeroCells122 w' :=
  (unew_at W hT).mono fun e w' ⟨A, sb, zb, h1, h2, h3, h4, h5, h6⟩ => ⟨A, sb, zb, h1, h2, ei_new 1 (by omega) _, h3, h4, h6⟩
theorem ub_sleep (h : UB W A uE0 M00 sb zb Tryz.zeroCells122 w) : Calls Tryz.prog 13 #[ptr sb, .int .i64 9, .int .i64 2, .agg #[.int .i64 0, .int .i64 2], .bool false] w fun e w' => e = .returned (.int .i64 0) ∧ UB W A uE1 mP9 sb zb (zSleep Tryz.zeroCells122) w' :=
  (sleep9_at w h.1 h.2.1 rfl (by decide) uon (by decide) utm z160 z137 zs137 zsl).mono fun e w' ⟨h1, h2, h3, h4⟩ => ⟨h1, h2, h3, gf_zero h.2.2.1 h4 (fun x hx => by
    rcases hx with hx | hx
    · exact h.2.2.2.1 x hx
    · exact .inr (hx ▸ h.2.2.2.2)) (er_zero h.1.er h2.er), h.2.2.2.1, h.2.2.2.2⟩
theorem ub_adv (h : UB W A uE1 mP9 sb zb (zSleep Tryz.zeroCells122) w) : Calls Tryz.prog 14 #[ptr sb, l8 3 0 2 0 0 0 0] w fun e w' => (∃ x, e = .returned (.tuple #[.slice none 0 0, .int .i64 x])) ∧ UB W A uE2 mP9 sb zb (zSleep Tryz.zeroCells122) w' :=
  (ustep_nil uS1 w h.1 h.2.1 w_u1 (by decide) (by decide) (by decide) fun o x E' M' hd => (ustep_1 hd).1).mono fun e w' ⟨x, E', M', h1, h2, h3, h4, h5, h6⟩ => by
    obtain ⟨-, rfl, rfl⟩ := ustep_1 h2
    exact ⟨⟨x, h1⟩, h3, h4, gf_zero h.2.2.1 h5 h.2.2.2.1 (er_zero h.1.er h3.er), h.2.2.2.1, h.2.2.2.2⟩
theorem ub_settle (h : UB W A uE2 mP9 sb zb (zSleep Tryz.zeroCells122) w) : Calls Tryz.prog 14 #[ptr sb, l8 12 0 0 0 0 0 0] w fun e w' => (∃ gb c x, e = .returned (.tuple #[.slice (some ⟨gb, 0, none⟩) 1 c, .int .i64 x]) ∧ w'.cell? ⟨gb, 0, none⟩ = some (.int .i64 9) ∧ w'.cell? ⟨gb, 1, none⟩ = some (.int .i64 2)) ∧ TAB w' ∧ Below W.heap.size W w' :=
  (ustep_one uS2 w h.1 h.2.1 w_u2 (by decide) (by decide) (by decide) (fun o x E' M' hd => ustep_2 hd) zs137 zsl).mono fun e w' ⟨⟨v, x, h1, h2⟩, h3, h4, h5⟩ => by
    obtain ⟨gb, c, rfl, -, -, hc⟩ := one_row h2 rfl
    exact ⟨⟨gb, c, x, h1, hc 0 _ rfl, hc 1 _ rfl⟩, h3, gf_zero h.2.2.1 h4 (fun x hx => by
      rcases hx with hx | hx
      · exact h.2.2.2.1 x hx
      · exact .inr (hx ▸ h.2.2.2.2)) h5⟩
end
end Go.Proofs.YtlcaepcojglbiaaGreatDoor.Tp
namespace Go.Proofs.YtlcaepcojglbiaaGreatDoor.Tp
open Go.RowKit Go.Maps
set_option linter.unusedVariables false
set_option linter.unusedSimpArgs false
set_option maxRecDepth 100000 in
set_option maxHeartbeats 8000000 in
theorem run_at (W : World) (hT : TAB W) : Calls Tryz.prog 5 #[] W fun e W' => e = .returned (.bool true) ∧ TAB W' ∧ Below W.heap.size W W' := by
  have C0 := Lib.hid (eb_new hT)
  have C1 := Lib.hid (fun A w h => eb_1 (W := W) (A := A) (w := w) h)
  have C2 := Lib.hid (fun A w h => eb_2 (W := W) (A := A) (w := w) h)
  have C3 := Lib.hid (fun A w h => eb_3 (W := W) (A := A) (w := w) h)
  have h0 := tab_pos hT
  have C4 := Lib.hid (fun A w b h hr hb => eb_run (W := W) (A := A) (w := w) (b := b) h hr hb h0)
  have C5 := Lib.hid (fun w hT => ub_new (W := w) hT)
  have C6 := Lib.hid (fun W A w sb zb h => ub_sleep (W := W) (A := A) (w := w) (sb := sb) (zb := zb) h)
  have C7 := Lib.hid (fun W A w sb zb h => ub_adv (W := W) (A := A) (w := w) (sb := sb) (zb := zb) h)
  have C8 := Lib.hid (fun W A w sb zb h => ub_settle (W := W) (A := A) (w := w) (sb := sb) (zb := zb) h)
  have HR : Hid (∀ A w, EB W A rE3 rM1 w → EB W A rE3 rM1 (w.alloc (.cells rowc 33)) ∧ (w.alloc (.cells rowc 33)).heap[w.heap.size]? = some (.cells rowc 33) ∧ ¬ A.has 2 w.heap.size) := Lib.hid fun A w h => by
    have hB := (Below.refl w.heap.size w).alloc (Nat.le_refl _) (.cells rowc 33)
    refine ⟨⟨er_below h.1 hB, h.2.1, h.2.2.1.trans (hB.mono h.2.2.1.size), h.2.2.2⟩, heap_alloc_new w _, fun e => ?_⟩
    have := er_lt h.1 w.heap.size (by rw [rn3]; exact e)
    omega
  have q48 := eq48
  have q60 := eq60
  clear hT h0
  go_enter Tryz.func5, Tryz.ntmps5
  go_wp2_with (first
    | (go_at_call 6; (with_reducible refine (C0.out).mono ?_); clear C0; rintro e w1 ⟨A, rfl, hE⟩; have HE1 := Lib.hid hE; clear hE)
    | (go_at_call 7; (with_reducible refine (C1.out _ _ HE1.out).mono ?_); clear C1; rintro e w2 ⟨⟨v2, rfl⟩, hE⟩; have HE2 := Lib.hid hE; clear hE)
    | (go_at_call 7; (with_reducible refine (C2.out _ _ HE2.out).mono ?_); clear C2; rintro e w3 ⟨⟨v3, rfl⟩, hE⟩; have HE3 := Lib.hid hE; clear hE)
    | (go_at_call 7; (with_reducible refine (C3.out _ _ HE3.out).mono ?_); clear C3; rintro e w4 ⟨⟨v4, rfl⟩, hE⟩; have HE4 := Lib.hid hE; clear hE)
    | (go_at_call 10; (with_reducible refine (C4.out _ _ _ (HR.out _ _ HE4.out).1 (HR.out _ _ HE4.out).2.1 (HR.out _ _ HE4.out).2.2).mono ?_); clear C4; rintro e w5 ⟨gb, c, rfl, hl, hc, hT, hB⟩; have HC5 := Lib.hid (And.intro hl hc); have HB5 := Lib.hid (And.intro hT hB); clear hl hc hT hB)
    | (go_at_call 12; (with_reducible refine (C5.out _ HB5.out.1).mono ?_); clear C5; rintro e w6 ⟨A2, sb, zb, rfl, hU⟩; have HU6 := Lib.hid hU; clear hU)
    | (go_at_call 13; (with_reducible refine (C6.out _ _ _ _ _ HU6.out).mono ?_); clear C6; rintro e w7 ⟨rfl, hU⟩; have HU7 := Lib.hid hU; clear hU)
    | (go_at_call 14; (with_reducible refine (C7.out _ _ _ _ _ HU7.out).mono ?_); clear C7; rintro e w8 ⟨⟨x8, rfl⟩, hU⟩; have HU8 := Lib.hid hU; clear hU)
    | (go_at_call 14; (with_reducible refine (C8.out _ _ _ _ _ HU8.out).mono ?_); clear C8; rintro e w9 ⟨⟨gc, c9, x9, rfl, k0, k1⟩, hT, hB⟩; have HH := Lib.hid (And.intro hT (HB5.out.2.trans (hB.mono HB5.out.2.size))); have hbk := hB.block gb HC5.out.1; obtain ⟨a0, a1, a2, a3, a4⟩ := HC5.out.2; have b0 := (World.cell?_of_block (a := ⟨gb, 0, none⟩) hbk).trans a0; have b1 := (World.cell?_of_block (a := ⟨gb, 1, none⟩) hbk).trans a1; have b2 := (World.cell?_of_block (a := ⟨gb, 2, none⟩) hbk).trans a2; have b3 := (World.cell?_of_block (a := ⟨gb, 3, none⟩) hbk).trans a3; have b4 := (World.cell?_of_block (a := ⟨gb, 4, none⟩) hbk).trans a4; clear hbk a0 a1 a2 a3 a4 hT hB)
    | fail)
  go_ret
  exact ⟨rfl, HH.out⟩
end Go.Proofs.YtlcaepcojglbiaaGreatDoor.Tp
namespace Go.Proofs.YtlcaepcojglbiaaGreatDoor.Tp
open Go.RowKit Go.Maps
set_option linter.unusedVariables false
set_option linter.unusedSimpArgs false
/-- A slice of steps that is read. -/
def RdS (w : World) (a : Option Addr) (n : Nat) (z : Nat → St) : Prop := 0 < n → ∃ b off, a = some ⟨b, off, none⟩ ∧ ∀ i, i < n →
  (w.cell? ⟨b, off + i * 8, none⟩ = some (.int .i64 (z i).kind) ∧ w.cell? ⟨b, off + i * 8 + 1, none⟩ = some (.int .i64 (z i).cpu) ∧ w.cell? ⟨b, off + i * 8 + 2, none⟩ = some (.int .i64 (z i).n) ∧ w.cell? ⟨b, off + i * 8 + 3, none⟩ = some (.int .i64 (z i).t.id) ∧ w.cell? ⟨b, off + i * 8 + 4, none⟩ = some (.int .i64 (z i).t.clock) ∧ w.cell? ⟨b, off + i * 8 + 5, none⟩ = some (.int .i64 (z i).t.soft) ∧ w.cell? ⟨b, off + i * 8 + 6, none⟩ = some (.int .i64 (z i).t.hard) ∧ w.cell? ⟨b, off + i * 8 + 7, none⟩ = some (.bool (z i).t.lazy)) ∧ (z i).wf
theorem bd_of {x : Int} (h : (Lit.int .i64 x).wf = true) : i64 x := by
  simp [Lit.wf, IntKind.min, IntKind.max, IntKind.signed, IntKind.bits] at h
  exact h
theorem cell_lt {w : World} {b o : Nat} {v : Value} (h : w.cell? ⟨b, o, none⟩ = some v) : b < w.heap.size := World.block_lt_of_cell? w ⟨b, o, none⟩ h
/-! Clocks go on. -/
theorem stp_up {K : Ck} (h : K.ok) (s : St) : K.mono ≤ (K.stp s).mono ∧ K.mono + K.o2 ≤ (K.stp s).mono + (K.stp s).o2 := by
  have hs := h.s
  unfold Ck.stp
  split
  · unfold Ck.adv
    cases hb : K.bad s.n with
    | true => exact ⟨Int.le_refl _, Int.le_refl _⟩
    | false =>
      have hn : ¬ s.n < 0 := fun e => by
        have := (K.bad_iff s.n).2 (.inl e)
        rw [hb] at this
        cases this
      simp only [Bool.false_eq_true, if_false]
      split <;> dsimp only <;> omega
  · split
    · unfold Ck.set Ck.mv
      split
      · exact ⟨Int.le_refl _, Int.le_refl _⟩
      · split <;> exact ⟨Int.le_refl _, Int.le_refl _⟩
    · split
      · unfold Ck.sus
        split <;> exact ⟨Int.le_refl _, Int.le_refl _⟩
      · split
        · unfold Ck.res Ck.mv
          split
          · split
            · exact ⟨Int.le_refl _, Int.le_refl _⟩
            · dsimp only
              omega
          · exact ⟨Int.le_refl _, Int.le_refl _⟩
        · exact ⟨Int.le_refl _, Int.le_refl _⟩
structure TC (A : EA) (n pb : Nat) (W : World) (k : Nat) (E : En) (M : GM) (w : World) : Prop where
  er : ER A E w
  ei : EI E M
  n : E.n = n
  g : E.K.gen ≤ k
  pl : w.heap[pb]? = some (.cells E.K.pl 29)
  bl : Below W.heap.size W w
/-- What stays for the whole loop. -/
structure TB (A : EA) (n pb : Nat) (W : World) : Prop where
  lo : ∀ x, A.has n x → x = 0 ∨ W.heap.size ≤ x
  np : ¬ A.has n pb
  pw : W.heap.size ≤ pb
section
variable {A : EA} {n pb k : Nat} {W w w1 : World} {E : En} {M : GM}
theorem tc_below (h : TC A n pb W k E M w) (hB : Below w.heap.size w w1) : TC A n pb W k E M w1 :=
  ⟨er_below h.er hB, h.ei, h.n, h.g, (hB.block pb (Array.getElem?_eq_some_iff.1 h.pl).1).trans h.pl, h.bl.trans (hB.mono h.bl.size)⟩
theorem tc_drew (h : TC A n pb W k E M w) (m : Nat) : TC A n pb W k E M (w.drewN m) :=
  ⟨er_same h.er (Nat.le_refl _) fun _ _ => rfl, h.ei, h.n, h.g, h.pl, ⟨h.bl.os, h.bl.tape, h.bl.output, h.bl.size, h.bl.block⟩⟩
/-- Between the engine's step and the plain one's. -/
structure TM (A : EA) (n pb : Nat) (W : World) (k : Nat) (s : St) (K : Ck) (E : En) (M : GM) (w : World) : Prop where
  er : ER A E w
  ei : EI E M
  n : E.n = n
  g : E.K.gen ≤ k + 1
  ke : E.K = K.stp s
  pl : w.heap[pb]? = some (.cells K.pl 29)
  bl : Below W.heap.size W w
theorem tc_do (hb : TB A n pb W) (s : St) (hw : s.wf) (h : TC A n pb W k E M w) (hk : k < 1000) : Calls Tryz.prog 7 #[ptr A.e, stv s] w fun e w' => ∃ v x E2 M2, e = .returned (.tuple #[v, .int .i64 x]) ∧ TM A n pb W k s E.K E2 M2 w' ∧ (∀ x, x < w.heap.size → ¬ A.has n x → w'.heap[x]? = w.heap[x]?) := by
  have hg : E.K.gen < 1000000 := by have := h.g; omega
  refine (edo_at s w h.er h.ei hw).mono ?_
  rintro e w' ⟨o, x, E2, M2, hd, ⟨v, rfl, -⟩, her, hgf⟩
  obtain ⟨h1, h2, h3⟩ := dor_ei h.ei hw.t hg hd
  rw [h.n] at hgf
  refine ⟨v, x, E2, M2, rfl, ⟨her, h1, h2.trans h.n, ?_, h3, (hgf.block pb (Array.getElem?_eq_some_iff.1 h.pl).1 hb.np).trans h.pl, gf_zero h.bl hgf hb.lo (er_zero h.er her)⟩, fun x hx hn => hgf.block x hx hn⟩
  rw [h3]
  have := (ok_stp h.ei.ck hg s).2.2
  have := h.g
  omega
theorem tc_plain (hb : TB A n pb W) (s : St) {K : Ck} (hok : K.ok) (h : TM A n pb W k s K E M w) : Calls Tryz.prog 8 #[ptr pb, stv s] w fun e w' => e = .returned (.tuple #[]) ∧ TC A n pb W (k + 1) E M w' := by
  refine (plaindo_at s w h.pl hok).mono ?_
  rintro e w' ⟨rfl, h1, h2⟩
  have her : ER A E w' := er_same h.er h2.size fun x hx => h2.block x (er_lt h.er x hx) fun e => hb.np (by rw [h.n] at hx; exact e ▸ hx)
  exact ⟨rfl, her, h.ei, h.n, h.g, by rw [h.ke]; exact h1, gf_zero h.bl h2 (fun x hx => .inr (by rw [hx]; exact hb.pw)) (er_zero h.er her)⟩
theorem tc_now (h : TC A n pb W k E M w) (j : Nat) (hj : j < 3) : Calls Tryz.prog 9 #[ptr A.e, .int .i64 (j : Nat)] w fun e w' => e = .returned (.tuple #[.int .i64 (E.K.mono + E.K.off j), .bool true]) ∧ TC A n pb W k E M w' ∧ Below w.heap.size w w' :=
  (enow_at j hj w h.er h.ei.ck).mono fun e w' hh => ⟨hh.1, tc_below h hh.2, hh.2⟩
end
end Go.Proofs.YtlcaepcojglbiaaGreatDoor.Tp
