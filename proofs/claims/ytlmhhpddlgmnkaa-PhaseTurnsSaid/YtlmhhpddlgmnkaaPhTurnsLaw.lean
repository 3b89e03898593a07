import Derived.Test.YtlmhhpddlgmnkaaPhSum
import Derived.Deep.DeepCutAuto
namespace Go.Proofs.Ytlmhhpddlgmnkaa.Ph
open Go.RowKit
set_option linter.unusedVariables false
set_option linter.unusedSimpArgs false
theorem pc_newt (w : World) (t : TypeId) (re im : Int) : PC w.heap.size re im (w.alloc (.cells #[.int .i64 re, .int .i64 im] t)) :=
  ⟨⟨cell_of (heap_alloc_new w _) 0 _ rfl, cell_of (heap_alloc_new w _) 1 _ rfl⟩, by simp⟩
/-- append(v, y), and what of the heap stays. -/
theorem app1d {ops : Array Oper} {rest : List Oper} {o : Oper} {a : Act} {Q : Exit → Act → World → Prop} {W : World} (base : Nat) (hgd : o.guard = none) (s x : Operand)
    (ho : o.op = .call { callee := .builtin .append, args := #[s, x], argTypes := #[44, 44] })
    (v : Value) (xs : List (Int × Int)) (y : Int × Int) (hs : a.eval s = v) (hx : a.eval x = .slice (some ⟨W.heap.size, 0, none⟩) 1 1) (HO : RowC base v xs W) (hbase : base ≤ W.heap.size) (hl : xs.length ≤ 1000)
    (h : ∀ v1 w1, RowC base v1 (xs ++ [y]) w1 → Below base W w1 → (∀ k, k < W.heap.size → v.ownBlock ≠ some k → w1.heap[k]? = W.heap[k]?) → wpList Try.prog ops Q rest (a.put o.dst v1) w1) :
    wpList Try.prog ops Q (o :: rest) a (W.alloc (.cells #[cw y] 23)) := by
  obtain ⟨i0, hi, hzz⟩ := Option.map_eq_some_iff.1 info23
  simp only [Prod.mk.injEq] at hzz
  obtain ⟨hz0, hz1, hz2⟩ := hzz
  refine wpList_append_own (W.alloc (.cells #[cw y] 23)) hgd s x 44 ho base 23 i0 (.complex .f64 0 0) 1 16 Try.underlying44 hi hz0 hz1 hz2 rfl (by decide) v xs.length (xs.map cw) hs (World.ownsRow.alloc HO _) ⟨W.heap.size, 0, none⟩ 1 1 [cw y] hx rfl
    (World.news_of_block (cs := #[cw y]) (t := 23) (fr := (0, 0)) (heap_alloc_new W _)) (by simp [Value.oneCell']) (by unfold maxLen; omega) (by omega) (by simp; omega) ?_
  intro v1 w1 hown hg _
  have hkeep : ∀ k, k < W.heap.size → v.ownBlock ≠ some k → w1.heap[k]? = W.heap[k]? := fun k hk hne =>
    (hg.block k (by simp; omega) (Ne.symm hne)).trans (Below.heap_alloc W _ k hk)
  refine h v1 w1 ?_ ⟨hg.os.trans rfl, hg.tape.trans rfl, hg.output.trans rfl, Nat.le_trans (by simp) hg.size, fun i hi => hkeep i (by omega) ?_⟩ hkeep
  · have hlen : (xs ++ [y]).length = xs.length + 1 := by simp
    have e1 : (xs ++ [y]).map cw = xs.map cw ++ [cw y] := by simp
    unfold RowC
    rw [hlen, e1]; exact hown
  intro e
  have := (World.ownsRow.lt HO i e).1
  omega
theorem pc_keep {p : Nat} {re im : Int} {W W' : World} (h : PC p re im W) (hk : W'.heap[p]? = W.heap[p]?) (hs : W.heap.size ≤ W'.heap.size) : PC p re im W' :=
  ⟨⟨(World.cell?_of_block (a := ⟨p, 0, none⟩) hk).trans h.1.1, (World.cell?_of_block (a := ⟨p, 1, none⟩) hk).trans h.1.2⟩, Nat.lt_of_lt_of_le h.2 hs⟩
theorem s_bd {ps : List (Int × Int)} (h : AllIn ps) (i : Nat) : (-(i * 1048576) ≤ s1 ps i ∧ s1 ps i ≤ i * 1048576) ∧ (-(i * 1048576) ≤ s2 ps i ∧ s2 ps i ≤ i * 1048576) := by
  induction i with
  | zero => simp [s1, s2]
  | succ i ih =>
    have := h i
    unfold In at this
    rw [s1_succ, s2_succ]
    omega
theorem allin_snoc {ps : List (Int × Int)} {a b : Int} (h : AllIn ps) (k : In a ∧ In b) : AllIn (ps ++ [(a, b)]) := fun i => by
  rw [getD_snoc]; split
  · exact k
  · exact h i
set_option maxRecDepth 100000 in
set_option maxHeartbeats 8000000 in
theorem turns_true (A : Option Addr) (n c : Nat) (z : Nat → Int × Int) (q : Int) (w : World) (hn : n ≤ 50) (hA : Rd2 w A n z) : Calls Try.prog 6 #[.slice A n c, .int .i64 q] w (Tr w) := by
  have HA := Lib.hid hA
  have C1 := Lib.hid fixed_at
  have hand := and3 q
  have hk : q % 4 = 0 ∨ q % 4 = 1 ∨ q % 4 = 2 ∨ q % 4 = 3 := by omega
  generalize q % 4 = k at *
  have HK := Lib.hid hk
  have hk0 : 0 ≤ k := by omega
  have hk3 : k ≤ 3 := by omega
  have hw4 : IntKind.i64.wrap (4 - k) = 4 - k := iw (by omega) (by omega)
  have hwn : IntKind.i64.wrap (-k) = -k := iw (by omega) (by omega)
  clear hA hk
  go_enter Try.func6, Try.ntmps6
  go_wp2_with (first
    | (go_at_call 7; refine (C1.out _).mono ?_; clear C1; rintro e w1 ⟨rfl, hb⟩; have HB1 := Lib.hid hb; clear hb)
    | fail)
  obtain ⟨B0, hB0⟩ : ∃ B0, w1.heap.size = B0 := ⟨_, rfl⟩
  have HS0 := Lib.hid (show w.heap.size ≤ B0 by rw [← hB0]; exact HB1.out.size)
  have HS1 := Lib.hid (show B0 ≤ w1.heap.size by omega)
  clear hB0
  go_loopw [5, 6, 7, 8, 23] (fun v5 v6 v7 v8 v23 W => ∃ (ps : List (Int × Int)) (v : Value) (b : Bool) (re im : Int), ps.length ≤ n ∧ v = v5 ∧ v6 = .int .i64 re ∧ v7 = .int .i64 im ∧ v8 = .bool b ∧ v23 = .int .i64 ps.length ∧ Hid (re = s1 ps ps.length ∧ im = s2 ps ps.length) ∧ Hid (b = true ↔ Ok ps ps.length) ∧ Hid (AllIn ps) ∧ Hid (RowC B0 v ps W) ∧ Hid (Below w.heap.size w W) ∧ Hid (B0 ≤ W.heap.size)) (fun _ _ _ _ v23 _ => n - (intOf v23).toNat)
  case atStart => exact ⟨[], _, true, 0, 0, by simp, rfl, rfl, rfl, rfl, rfl, ⟨rfl, rfl⟩, ⟨fun _ => ok_zero [], fun _ => rfl⟩, fun i => by simp [In], rowc_nil _ _, HB1.out, HS1.out⟩
  case round =>
    obtain ⟨ps, v, b, re, im, hi, rfl, rfl, rfl, rfl, rfl, HSS, HOK, HIN, HR, HB, HZ⟩ := hrel
    rename World => wo
    have hsb := s_bd HIN.out ps.length
    rw [← HSS.out.1, ← HSS.out.2] at hsb
    obtain ⟨i, hiE⟩ : ∃ i, ps.length = i := ⟨_, rfl⟩
    have HIE := Lib.hid hiE
    rw [hiE] at hi hsb ⊢
    clear hiE
    have hsb2 : (-52428800 ≤ re ∧ re ≤ 52428800) ∧ (-52428800 ≤ im ∧ im ≤ 52428800) := by omega
    obtain ⟨⟨re1, re2⟩, im1, im2⟩ := hsb2
    clear hsb
    by_cases hlt : i < n
    · obtain ⟨b0, off, rfl, hcell⟩ := HA.out (by omega)
      obtain ⟨g0, g1⟩ := hcell i hlt
      have hblk := World.block_lt_of_cell? w _ g0
      have k0 : wo.cell? ⟨b0, off + i * 2, none⟩ = some (.int .i64 (z i).1) := (HB.out.cell (p := ⟨b0, off + i * 2, none⟩) hblk).trans g0
      have k1 : wo.cell? ⟨b0, off + i * 2 + 1, none⟩ = some (.int .i64 (z i).2) := (HB.out.cell (p := ⟨b0, off + i * 2 + 1, none⟩) hblk).trans g1
      obtain ⟨x, hx⟩ : ∃ x, (z i).1 = x := ⟨_, rfl⟩
      obtain ⟨y, hy⟩ : ∃ x, (z i).2 = x := ⟨_, rfl⟩
      rw [hx] at k0
      rw [hy] at k1
      have HC := Lib.hid hcell
      clear hcell g0 g1 hx hy
      by_cases hxy : In x ∧ In y
      · have CW := Lib.hid (whole_ok hxy)
        have CF := Lib.hid (forth hxy HK.out)
        have CB := Lib.hid (back4 hxy HK.out)
        have CG := Lib.hid (forth hxy HK.out)
        have CN := Lib.hid (backn hxy HK.out)
        have o1 := foeq (cr_fw hxy.1 hxy.2).re (cr_fw hxy.1 hxy.2).re rfl
        have o2 := foeq (cr_fw hxy.1 hxy.2).im (cr_fw hxy.1 hxy.2).im rfl
        have HXY := Lib.hid hxy
        have hwr : IntKind.i64.wrap (re + x) = re + x := iw (by unfold In at hxy; omega) (by unfold In at hxy; omega)
        have hwi : IntKind.i64.wrap (im + y) = im + y := iw (by unfold In at hxy; omega) (by unfold In at hxy; omega)
        have HL := Lib.hid (show ps.length ≤ 1000 by have := HIE.out; omega)
        generalize (rot k x y).1 = r1 at *
        generalize (rot k x y).2 = r2 at *
        clear hxy
        go_upto_region 17 with (first
          | (go_at_call 8; refine (CW.out _).mono ?_; clear CW; rintro e w2 ⟨rfl, rfl⟩)
          | (go_at_call 12; refine (CF.out _).mono ?_; clear CF; rintro e w3 ⟨rfl, hb⟩; have HP3 := Lib.hid (pc_below (pc_newt wo 45 x y) hb); have HB3 := Lib.hid (below_tr ((Below.refl _ _).alloc (Nat.le_refl _) _) hb); clear hb)
          | (go_at_call 12; refine (CB.out _).mono ?_; clear CB; rintro e w4 ⟨rfl, hb⟩; have HP4 := Lib.hid (pc_below HP3.out hb); have HB4 := Lib.hid (below_tr HB3.out hb); clear hb)
          | (go_at_call 12; refine (CG.out _).mono ?_; clear CG; rintro e w5 ⟨rfl, hb⟩; have HP5 := Lib.hid (pc_below HP4.out hb); have HB5 := Lib.hid (below_tr HB4.out hb); clear hb)
          | (go_at_call 12; refine (CN.out _).mono ?_; clear CN; rintro e w6 ⟨rfl, hb⟩; have HP6 := Lib.hid (pc_below HP5.out hb); have HB6 := Lib.hid (below_tr HB5.out hb); have HR6 := Lib.hid (rowc_below HR.out HB6.out); have HZ6 := Lib.hid (Nat.le_trans HZ.out HB6.out.size); clear hb)
          | (at_builtin; refine app1d (W := w6) B0 rfl _ _ rfl v ps (x, y) rfl ?hx HR6.out HZ6.out HL.out ?_; (case hx => rfl); intro v1 w7 hrow hbel hkeep; have HR7 := Lib.hid hrow; have HB7 := Lib.hid hbel; have HP7 := Lib.hid (pc_keep HP6.out (hkeep _ HP6.out.2 (fun e => by have := World.ownsRow.lt HR.out _ e; omega)) hbel.size); clear hrow hbel hkeep)
          | fail)
        have c0 := HP7.out.1.1
        have c1 := HP7.out.1.2
        have HBZ := Lib.hid ((below_tr HB.out HB6.out).trans (HB7.out.mono HS0.out))
        have HZ7 := Lib.hid (Nat.le_trans HZ6.out HB7.out.size)
        have HSS2 := Lib.hid (show re + x = s1 (ps ++ [(x, y)]) (ps ++ [(x, y)]).length ∧ im + y = s2 (ps ++ [(x, y)]) (ps ++ [(x, y)]).length by rw [show (ps ++ [(x, y)]).length = ps.length + 1 by simp, (s_last ps (x, y)).1, (s_last ps (x, y)).2, ← HSS.out.1, ← HSS.out.2]; exact ⟨rfl, rfl⟩)
        have hoks := ok_snoc ps (x, y)
        rw [← HSS.out.1, ← HSS.out.2, show ps.length + 1 = (ps ++ [(x, y)]).length by simp] at hoks
        have HOKS := Lib.hid hoks
        clear hoks o1 o2
        go_quiet (fail)
        clear hwr hwi c0 c1
        have HRD := Lib.hid (show RowC B0 v1 (ps ++ [(x, y)]) (w7.drewN nq) from rowc_below HR7.out ⟨rfl, rfl, rfl, Nat.le_refl _, fun _ _ => rfl⟩)
        have HBD := Lib.hid (show Below w.heap.size w (w7.drewN nq) from ⟨HBZ.out.os, HBZ.out.tape, HBZ.out.output, HBZ.out.size, HBZ.out.block⟩)
        have HZD := Lib.hid (show B0 ≤ (w7.drewN nq).heap.size from HZ7.out)
        generalize w7.drewN nq = w8 at *
        cases b with
        | true =>
          have hok := HOK.out.1 rfl
          by_cases hin2 : In (re + x) ∧ In (im + y)
          · have HOKp := Lib.hid (HOKS.out.2 ⟨hok, hin2⟩)
            have CR := Lib.hid (rright_in hin2)
            clear hin2 hok
            go_wp2_with (first | (go_at_call 9; refine (CR.out _).mono ?_; clear CR; rintro e w9 ⟨rfl, hb⟩; have HB9 := Lib.hid hb; clear hb) | fail)
            go_roundw
            case rel => exact ⟨ps ++ [(x, y)], v1, true, re + x, im + y, by rw [List.length_append, HIE.out]; simp; omega, rfl, rfl, rfl, rfl, by rw [List.length_append, HIE.out]; simp, HSS2.out, (Lib.hid ⟨fun _ => HOKp.out, fun _ => rfl⟩), allin_snoc HIN.out HXY.out, rowc_below HRD.out HB9.out, below_tr HBD.out HB9.out, Nat.le_trans HZD.out HB9.out.size⟩
            case measure => simp [intOf]; omega
          · have HOKn := Lib.hid (show ¬ Ok (ps ++ [(x, y)]) (ps ++ [(x, y)]).length from fun h => hin2 (HOKS.out.1 h).2)
            have CR := Lib.hid (rright_out hin2)
            clear hin2 hok
            go_wp2_with (first | (go_at_call 9; refine (CR.out _).mono ?_; clear CR; rintro e w9 ⟨rfl, hb⟩; have HB9 := Lib.hid hb; clear hb) | fail)
            go_roundw
            case rel => exact ⟨ps ++ [(x, y)], v1, false, re + x, im + y, by rw [List.length_append, HIE.out]; simp; omega, rfl, rfl, rfl, rfl, by rw [List.length_append, HIE.out]; simp, HSS2.out, (Lib.hid ⟨fun h => Bool.noConfusion h, fun h => absurd h HOKn.out⟩), allin_snoc HIN.out HXY.out, rowc_below HRD.out HB9.out, below_tr HBD.out HB9.out, Nat.le_trans HZD.out HB9.out.size⟩
            case measure => simp [intOf]; omega
        | false =>
          have HOKn := Lib.hid (show ¬ Ok (ps ++ [(x, y)]) (ps ++ [(x, y)]).length from fun h => Bool.noConfusion (HOK.out.2 (HOKS.out.1 h).1))
          go_wp2
          go_roundw
          case rel => exact ⟨ps ++ [(x, y)], v1, false, re + x, im + y, by rw [List.length_append, HIE.out]; simp; omega, rfl, rfl, rfl, rfl, by rw [List.length_append, HIE.out]; simp, HSS2.out, (Lib.hid ⟨fun h => Bool.noConfusion h, fun h => absurd h HOKn.out⟩), allin_snoc HIN.out HXY.out, HRD.out, HBD.out, HZD.out⟩
          case measure => simp [intOf]; omega
      · have CW := Lib.hid (whole_no hxy)
        clear hxy
        go_wp2_with (first
          | (go_at_call 8; refine (CW.out _).mono ?_; clear CW; rintro e w2 ⟨rfl, rfl⟩)
          | fail)
        go_ret
        exact ⟨rfl, HB.out.alloc HB.out.size _⟩
    · obtain ⟨A0, cap, rfl, hc⟩ := rowc_any HR.out
      have hsum := sum_at A0 cap ps wo (by have := HIE.out; omega) HIN.out hc
      rw [← HSS.out.1, ← HSS.out.2] at hsum
      have o := foeq fr_0 fr_0 rfl
      clear hc
      cases b with
      | true =>
        have hok := HOK.out.1 rfl
        have hii := hok ps.length (Nat.le_refl _)
        rw [← HSS.out.1, ← HSS.out.2] at hii
        have CS := Lib.hid (hsum.mono fun e w' h => (⟨h.1 hok, h.2.2⟩ : e = .returned (.tuple #[cx (fw re) (fw im), .bool true]) ∧ w' = wo))
        have CI := Lib.hid (is_in (cr_fw hii.1 hii.2) hii)
        clear hsum hok hii
        rw [HIE.out] at CS
        rw [HIE.out]
        go_wp2_with (first
          | (go_at_call 19; refine (CS.out).mono ?_; clear CS; rintro e w2 ⟨rfl, rfl⟩)
          | (go_at_call 11; refine (CI.out _).mono ?_; clear CI; rintro e w3 ⟨rfl, hb⟩; have HB3 := Lib.hid hb; clear hb)
          | fail)
        go_ret
        exact ⟨rfl, below_tr HB.out HB3.out⟩
      | false =>
        have CS := Lib.hid (hsum.mono fun e w' h => (⟨h.2.1 (fun hok => Bool.noConfusion (HOK.out.2 hok)), h.2.2⟩ : e = .returned (.tuple #[cx 0 0, .bool false]) ∧ w' = wo))
        clear hsum
        rw [HIE.out] at CS
        rw [HIE.out]
        go_wp2_with (first
          | (go_at_call 19; refine (CS.out).mono ?_; clear CS; rintro e w2 ⟨rfl, rfl⟩)
          | fail)
        go_ret
        exact ⟨rfl, HB.out⟩
set_option maxRecDepth 100000 in
theorem turns_long (A : Option Addr) (n c : Nat) (q : Int) (w : World) (hn : 50 < n) : Calls Try.prog 6 #[.slice A n c, .int .i64 q] w (Tr w) := by
  have C1 := Lib.hid fixed_at
  go_enter Try.func6, Try.ntmps6
  go_wp2_with (first
    | (go_at_call 7; refine (C1.out _).mono ?_; clear C1; rintro e w1 ⟨rfl, hb⟩; have HB1 := Lib.hid hb; clear hb)
    | fail)
  go_ret
  exact ⟨rfl, HB1.out⟩
theorem turns_all (a : Option Addr) (len cap : Nat) (q : Int) (w : World) (h : ∃ z, Rd2 w a len z) : Calls Try.prog 6 #[.slice a len cap, .int .i64 q] w (Tr w) := by
  obtain ⟨z, hz⟩ := h
  by_cases hn : len ≤ 50
  · exact turns_true a len cap z q w hn hz
  · exact turns_long a len cap q w (by omega)
end Go.Proofs.Ytlmhhpddlgmnkaa.Ph
