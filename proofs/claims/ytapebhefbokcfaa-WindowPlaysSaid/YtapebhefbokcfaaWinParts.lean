import Derived.Test.YtapebhefbokcfaaWinAdd
import Derived.Test.YtapebhefbokcfaaDebPlays0
import Derived.Deep.RegionHeld3
import Derived.Deep.AppendLies
import Derived.KernelRfl
namespace Go.Proofs.Ytapebhefbokcfaa.Win
open Go.RowKit Go.Proofs.Ytapebhefbokcfaa.DebW
set_option linter.unusedVariables false
set_option linter.unusedSimpArgs false
/-- What is in the first k parts, the eldest first. -/
def parts (S : Int → Int) (t : Int) (L k : Nat) : List Int := (List.range k).map fun (j : Nat) => S (t + 1 + (j : Int) - (L : Int))
theorem parts_len (S : Int → Int) (t : Int) (L k : Nat) : (parts S t L k).length = k := by simp [parts]
theorem parts_succ (S : Int → Int) (t : Int) (L k : Nat) : parts S t L (k + 1) = parts S t L k ++ [S (t + 1 + k - L)] := by simp [parts, List.range_succ]
/-- The row that Parts answers. -/
def POut (b r : Nat) (p t : Int) (L : Nat) (S : Int → Int) (w : World) (e : Ending) (w' : World) : Prop :=
  ∃ pb cap X' B, e = .returned (.slice (some ⟨pb, 0, none⟩) L cap) ∧ w.heap.size ≤ B ∧ RowP B (.slice (some ⟨pb, 0, none⟩) L cap) (parts S t L L) w' ∧ G2 b r w w' ∧ WS b r p t L X' w' ∧ RowI L t S X'
theorem rowp_drew {base : Nat} {v : Value} {xs : List Int} {W : World} (h : RowP base v xs W) : RowP base v xs W.drew := ⟨h.1.drew, h.2⟩
/-- append(v, y) in a region that draws its order. -/
theorem app1s {P : Program} {ops : Array Oper} {o : Oper} {a : Act} {K : Act → World → Prop} {Q : Exit → Act → World → Prop} {E : Prop} {W : World} (base : Nat) (hgd : o.guard = none) (s x : Operand) (t : TypeId)
    (ho : o.op = .call { callee := .builtin .append, args := #[s, x], argTypes := #[t, t] }) (ht : P.underlying t = some (.slice 3)) (hinfo : (P.info? 3).map (fun i => (i.zero, i.size, i.bytes)) = some (some (.int .i64 0), 1, 8))
    (v : Value) (xs : List Int) (y : Int) (A : Addr) (hs : a.eval s = v) (hx : a.eval x = .slice (some A) 1 1) (hA : W.cell? (A.add 0) = some (.int .i64 y)) (HO : RowP base v xs W) (hbase : base ≤ W.heap.size) (hl : xs.length ≤ 1000)
    (h : ∀ pb cap w1, RowP base (.slice (some ⟨pb, 0, none⟩) (xs.length + 1) cap) (xs ++ [y]) w1 → Below base W w1 → K (a.put o.dst (.slice (some ⟨pb, 0, none⟩) (xs.length + 1) cap)) w1) :
    if Region.wanted o (yielded ops a.tmps) = true then Oper.wp P o a W K Q else E := by
  obtain ⟨i0, hi, hzz⟩ := Option.map_eq_some_iff.1 hinfo
  simp only [Prod.mk.injEq] at hzz
  obtain ⟨hz0, hz1, hz2⟩ := hzz
  refine step_append_lies W hgd s x t ho base 3 i0 (.int .i64 0) 1 8 ht hi hz0 hz1 hz2 rfl (by decide) v xs.length (xs.map (.int .i64)) hs HO.1 A 1 1 [.int .i64 y] hx rfl
    (fun j u hj => ?_) (by simp [Value.oneCell']) (by omega) (by unfold maxLen; omega) (by omega) hbase W.heap.size rfl ?_
  · cases j with
    | zero => simp at hj; subst hj; exact hA
    | succ j => simp at hj
  intro g cap w1 hown hg _ _
  have hlen : (xs ++ [y]).length = xs.length + 1 := by simp
  have hR : RowP base (.slice (some ⟨g, 0, none⟩) (xs.length + 1) cap) (xs ++ [y]) w1 := by
    refine ⟨?_, fun e => by rw [hlen] at e; omega⟩
    have e1 : (xs ++ [y]).map (Value.int IntKind.i64) = xs.map (.int .i64) ++ [.int .i64 y] := by simp
    rw [hlen, e1]; exact hown
  refine h g cap w1 hR ⟨hg.os, hg.tape, hg.output, hg.size, fun i hi => ?_⟩
  refine hg.block i (by omega) ?_
  cases hv : v.ownBlock with
  | none => simp
  | some kk =>
    have := (HO.1.lt kk hv).1
    simp; omega
set_option maxHeartbeats 4000000 in
set_option maxRecDepth 100000 in
theorem parts_at {b r : Nat} {p a : Int} {L : Nat} {S : Int → Int} {X : Nat → Int} (now : Int) (w : World) (h : WS b r p a L X w) (hR : RowI L a S X) (hp : 1 ≤ p) (hp2 : p ≤ 1099511627776) (hL : 1 ≤ L) (hL2 : L ≤ 64) (ha : 0 ≤ a) (ha2 : a ≤ 1152921504606846976) : Calls Try.prog 20 #[ptr b, .int .i64 now] w (POut b r p (atOf p a now) L S w) := by
  have CR := Lib.hid (reach_any now w h hR hp hp2 hL hL2 ha ha2)
  have hbd := atOf_bd (p := p) (a := a) now hp ha2
  obtain ⟨t, ht⟩ : ∃ t, atOf p a now = t := ⟨_, rfl⟩
  rw [ht] at CR hbd
  rw [ht]
  obtain ⟨k1, k2⟩ := hbd
  have hb0 := h.hb
  have hr0 := h.hr
  have hL3 : (1 : Int) ≤ (L : Int) := by omega
  have hL4 : (L : Int) ≤ 64 := by omega
  clear ht h hR
  go_enter Try.func20, Try.ntmps20
  go_wp2_with (first | (go_at_call 36; refine (CR.out).mono ?_; rintro e w1 ⟨rfl, hg, X1, hws, hri⟩; have HG := Lib.hid hg; have HW := Lib.hid hws; have HR := Lib.hid hri; obtain ⟨c0, c1, c2, z1, cr, zr, hb', hr', _⟩ := hws; clear hg hri cr zr) | fail)
  go_loopw [5, 6, 17] (fun v5 v6 v17 W => ∃ (i : Nat) (pv : Value), pv = v5 ∧ i ≤ L ∧ v17 = .int .i64 i ∧ Hid (RowP w1.heap.size pv (parts S t L i) W) ∧ Hid (Below w1.heap.size w1 W)) (fun _ _ v17 _ => ((L : Int) - intOf v17).toNat)
  case atStart => exact ⟨0, _, rfl, by omega, rfl, rowp_nil _ _, Below.refl _ _⟩
  case round =>
    clear c0 c1 c2 z1
    obtain ⟨i, pv, rfl, hiL, rfl, HP, HB⟩ := hrel
    have HW2 := Lib.hid (ws_below HW.out HB.out)
    obtain ⟨c0, c1, c2, z1, cr, zr, _, _, _⟩ := HW2.out
    by_cases hlt : (i : Int) < (L : Int)
    · have n1 := Int.emod_nonneg (t + 1 + i) (b := L) (by omega)
      have n2 := Int.emod_lt_of_pos (t + 1 + i) (b := L) (by omega)
      have htm : (t + 1 + i).tmod (L : Int) = (t + 1 + i) % (L : Int) := Int.tmod_eq_emod_of_nonneg (by omega)
      have hx := HR.out.1 (t + 1 + i - L) (by omega) (by omega)
      rw [show t + 1 + (i : Int) - L = (t + 1 + i) + (-1) * L by omega, Int.add_mul_emod_self_right, show (t + 1 + (i : Int)) + (-1) * L = t + 1 + i - L by omega] at hx
      obtain ⟨m, hm⟩ : ∃ m, (t + 1 + (i : Int)) % (L : Int) = m := ⟨_, rfl⟩
      rw [hm] at n1 n2 htm hx
      have ck := cr m.toNat (by omega)
      obtain ⟨x, hxx⟩ : ∃ x, X1 m.toNat = x := ⟨_, rfl⟩
      rw [hxx] at ck hx
      have HX := Lib.hid hx
      clear cr zr hm hxx hx
      have hLz : ¬ (L : Int) = 0 := by omega
      have hLz2 : ¬ L = 0 := by omega
      have hw1 : IntKind.i64.wrap m = m := iw (by omega) (by omega)
      have hw2 : IntKind.i64.wrap ((t + 1 + i).tmod (L : Int)) = m := by rw [htm]; exact hw1
      have hw3 : IntKind.i64.wrap (t + 1) = t + 1 := iw (by omega) (by omega)
      have hw4 : IntKind.i64.wrap (t + 1 + i) = t + 1 + i := iw (by omega) (by omega)
      have hmn : (m.toNat : Int) = m := by omega
      have hml : m.toNat < L := by omega
      have hsz : w1.heap.size ≤ wr.heap.size := HB.out.size
      go_upto_region 8 with fail
      go_region_held3 (fun w' => w'.cell? ⟨b, 1, none⟩ = some (.int .i64 t) ∧ w'.cell? ⟨b, 2, none⟩ = some (.slice (some ⟨r, 0, none⟩) L L) ∧ w'.cell? ⟨r, m.toNat, none⟩ = some (.int .i64 x))
        (first
          | go_keep
          | (go_split_ands
             refine ⟨?_, ?_, ?_⟩
             · (rw [hb5.cell hb']; assumption)
             · (rw [hb5.cell hb']; assumption)
             · (rw [hb5.cell hr']; assumption)))
        ((refine app1s w1.heap.size (by rfl) _ _ 32 (by rfl) Try.underlying32 info3 pv (parts S t L i) x ⟨wr.heap.size, 0, none⟩ (by rfl) (by rfl) (World.news_of_block (cs := #[.int .i64 x]) (t := 3) (fr := (0, 0)) (heap_alloc_new wr _) 0 _ rfl) (rowp_drew (rowp_alloc HP.out _)) (by simp; omega) (by rw [parts_len]; omega) ?_; intro pb cap w5 hrow hb5))
      have hb6 : Below w1.heap.size wr w5 := ((show Below w1.heap.size wr (wr.alloc (.cells #[.int .i64 x] 3)).drew from ⟨rfl, rfl, rfl, by simp, fun k hk => Below.heap_alloc wr _ k (by omega)⟩).trans hb5)
      go_wp2
      refine ⟨⟨i + 1, _, rfl, by omega, by simp, ?_, HB.out.trans hb6⟩, by simp [intOf]; omega⟩
      rw [parts_succ, ← HX.out]
      rw [parts_len] at hrow ⊢
      exact hrow
    · obtain rfl : i = L := by omega
      have hps := HP.out
      obtain ⟨pp, hpp⟩ : ∃ pp, (parts S t i i).length = pp + 1 := ⟨i - 1, by rw [parts_len]; omega⟩
      obtain ⟨pb, cap, hv, _⟩ := rowp_form hps hpp
      rw [← hpp, parts_len] at hv
      subst hv
      have HPP := Lib.hid hps
      clear hps hpp
      go_wp2
      go_ret
      refine ⟨pb, cap, X1, w1.heap.size, rfl, HG.out.size, HPP.out, g2_trans HG.out (g2_below HB.out), HW2.out, HR.out⟩
end Go.Proofs.Ytapebhefbokcfaa.Win
