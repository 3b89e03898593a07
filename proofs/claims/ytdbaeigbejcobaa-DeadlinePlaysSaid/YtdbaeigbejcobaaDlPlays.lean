import Derived.Test.YtdbaeigbejcobaaDlPlays0
import Derived.Deep.OwnRows
namespace Go.Proofs.Ytdbaeigbejcobaa.Dl
open Go.RowKit
set_option linter.unusedVariables false
set_option linter.unusedSimpArgs false
/-- What is known of the run, of the tasks, throughout. -/
structure PW (A : Option Addr) (n : Nat) (z : Nat → Int × Int × Int) (T r rm cap : Nat) (A1 : Option Addr) (W : World) : Prop where
  rd : Rd3 W A n z
  rc : W.heap[r]? = some (.cells #[.slice A1 T cap, .slice (some ⟨rm, 0, none⟩) n n, .int .i64 (st z n T).q] 26)
  dd : ∀ i, i < T → ∃ g, A1 = some ⟨g, 0, none⟩ ∧ g < W.heap.size ∧ W.cell? ⟨g, i, none⟩ = some (.int .i64 (pick z n i (st z n i)))
  mm : rm < W.heap.size ∧ ∀ i, i < n → W.cell? ⟨rm, i, none⟩ = some (.int .i64 ((st z n T).M i))
theorem pw_below {A : Option Addr} {n : Nat} {z : Nat → Int × Int × Int} {T r rm cap : Nat} {A1 : Option Addr} {W W' : World} (h : PW A n z T r rm cap A1 W) (hb : Below W.heap.size W W') : PW A n z T r rm cap A1 W' := by
  have k := (bcell hb).1
  refine ⟨rd3_below h.rd hb, (hb.block r (Array.getElem?_eq_some_iff.1 h.rc).1).trans h.rc, fun i hi => ?_, Nat.lt_of_lt_of_le h.mm.1 hb.size, fun i hi => (k _ _ h.mm.1).trans (h.mm.2 i hi)⟩
  obtain ⟨g, hA, hg, hc⟩ := h.dd i hi
  exact ⟨g, hA, Nat.lt_of_lt_of_le hg hb.size, (k _ _ hg).trans hc⟩
theorem play_w (A0 : Option Addr) (n c : Nat) (z : Nat → Int × Int × Int) (T : Nat) (w : World) (hA : Rd3 w A0 n z) (hok : AllOk z n) (hT : T ≤ 20000) : Calls Try.prog 11 #[.slice A0 n c, .int .i64 T] w fun e w' => ∃ (A1 : Option Addr) (cap rm : Nat) (q : Int), e = .returned (.agg #[.slice A1 T cap, .slice (some ⟨rm, 0, none⟩) n n, .int .i64 q]) ∧ PW A0 n z T w'.heap.size rm cap A1 (w'.alloc (.cells #[.slice A1 T cap, .slice (some ⟨rm, 0, none⟩) n n, .int .i64 q] 26)) ∧ Below w.heap.size w (w'.alloc (.cells #[.slice A1 T cap, .slice (some ⟨rm, 0, none⟩) n n, .int .i64 q] 26)) := by
  refine (play_yes A0 n c z T w hA hok hT).mono ?_
  rintro e w' ⟨v, rm, he, hr, h1, h2, h3, h4⟩
  have hs := sb_st hok.1 T
  obtain ⟨A1, cap, rfl, hc⟩ := rowp_any hr
  rw [hs.x] at he hc
  refine ⟨A1, cap, rm, _, he, ?_, h4.alloc h4.size _⟩
  have hb := (Below.refl w'.heap.size w').alloc (Nat.le_refl _) (.cells #[.slice A1 T cap, .slice (some ⟨rm, 0, none⟩) n n, .int .i64 (st z n T).q] 26)
  have k := (bcell hb).1
  refine ⟨rd3_below (rd3_below hA h4) hb, heap_alloc_new _ _, fun i hi => ?_, Nat.lt_of_lt_of_le h2 hb.size, fun i hi => (k _ _ h2).trans (h3 i hi)⟩
  obtain ⟨g, hA1, hg, _, hc1⟩ := hc i hi
  refine ⟨g, hA1, Nat.lt_of_lt_of_le hg hb.size, (k _ _ hg).trans ?_⟩
  rw [hc1, did_at z n i T hok.1 hi]
theorem rw_new (w : World) (n : Nat) : RW w.heap.size w.heap.size n (fun _ => 0) (.slice none 0 0) [] (w.alloc (.cells (madeCells #[.int .i64 0] n) 3)) := by
  have hrow := World.rowIs_made w (.int .i64 0) n 3
  exact ⟨fun i hi => ⟨hrow.cell hi, hrow.frozen i⟩, Nat.le_refl _, by simp, jr_nil _ _, fun k e => by simp [Value.ownBlock] at e⟩
theorem jr_cells {base m cap : Nat} {A0 : Option Addr} {js : List Jb} {W : World} (h : JR base (.slice A0 m cap) js W) {i : Nat} (hi : i < js.length) : ∃ g, A0 = some ⟨g, 0, none⟩ ∧ g < W.heap.size ∧ base ≤ g ∧
    (W.cell? ⟨g, i * 3, none⟩ = some (.int .i64 (jg js i).1) ∧ W.cell? ⟨g, i * 3 + 1, none⟩ = some (.int .i64 (jg js i).2.1) ∧ W.cell? ⟨g, i * 3 + 2, none⟩ = some (.int .i64 (jg js i).2.2)) ∧ W.frozen? ⟨g, i * 3, none⟩ = false := by
  obtain ⟨A0', cap', e, _, hc⟩ := jr_any h
  simp only [Value.slice.injEq] at e
  obtain ⟨rfl, rfl, rfl⟩ := e
  exact hc i hi
theorem rw_left2 {base ms n g m cap : Nat} {X : Nat → Int} {js : List Jb} {W : World} (hm : js.length = m) (h : RW base ms n X (.slice (some ⟨g, 0, none⟩) m cap) js W) (b : Nat) (x : Int) : RW base ms n X (.slice (some ⟨g, 0, none⟩) m cap) (js.set b (x, (jg js b).2)) (W.setCell ⟨g, b * 3, none⟩ (.int .i64 x)) := by
  subst hm
  exact rw_left h b x
theorem fin_no {js : List Jb} {b : Nat} {x : Int} (hx : (jg js b).1 = x) (h : x ≠ 1) : fin js b = js.set b (x - 1, (jg js b).2) := by
  unfold fin
  rw [hx, if_neg (by omega)]
theorem fin_yes {js : List Jb} {b : Nat} {x : Int} (hx : (jg js b).1 = x) (h : x = 1) : fin js b = js.take b ++ js.drop (b + 1) := by
  unfold fin
  rw [hx, if_pos (by omega)]
theorem jr_take {base g m cap : Nat} {js : List Jb} {W : World} (h : JR base (.slice (some ⟨g, 0, none⟩) m cap) js W) (b : Nat) : ∀ j u, (cl (js.take b))[j]? = some u → W.cell? ((⟨g, 0, none⟩ : Addr).add j) = some u := by
  intro j u hu
  refine World.ownsRow.cells h (g := g) rfl j u ?_
  rw [cl_split js b, List.getElem?_append_left (List.getElem?_eq_some_iff.1 hu).1]
  exact hu
theorem jr_drop {base g m cap : Nat} {js : List Jb} {W : World} (h : JR base (.slice (some ⟨g, 0, none⟩) m cap) js W) (b : Nat) (hl : js.length ≤ cap) (A : Addr) (hA : (if cap = b + 1 then some (⟨g, 0, none⟩ : Addr) else some ⟨g, (b + 1) * 3, none⟩) = some A) : ∀ j u, (cl (js.drop (b + 1)))[j]? = some u → W.cell? (A.add j) = some u := by
  intro j u hu
  by_cases e : cap = b + 1
  · have h0 : (js.drop (b + 1)).length = 0 := by rw [List.length_drop]; omega
    rw [List.length_eq_zero_iff.1 h0] at hu
    simp [cl] at hu
  · rw [if_neg e] at hA
    simp only [Option.some.injEq] at hA
    subst hA
    have hlt : b + 1 ≤ js.length := by
      rcases Nat.lt_or_ge js.length (b + 1) with h1 | h1
      · have h0 : (js.drop (b + 1)).length = 0 := by rw [List.length_drop]; omega
        rw [List.length_eq_zero_iff.1 h0] at hu
        simp [cl] at hu
      · exact h1
    have h1 : (cl js)[(b + 1) * 3 + j]? = some u := by
      have hl3 : (cl (js.take (b + 1))).length = (b + 1) * 3 := by rw [cl_len, List.length_take, Nat.min_eq_left hlt]
      rw [cl_split js (b + 1), List.getElem?_append_right (by rw [hl3]; omega), hl3, show (b + 1) * 3 + j - (b + 1) * 3 = j by omega]
      exact hu
    have h2 := World.ownsRow.cells h (g := g) rfl _ _ h1
    rw [Addr.add_lit] at h2 ⊢
    rw [Nat.zero_add] at h2
    exact h2
theorem jr_lit {base : Nat} {W : World} (hb : base ≤ W.heap.size) : JR base (.slice (some ⟨W.heap.size, 0, none⟩) 0 0) [] (W.alloc (.cells #[] 33)).drew :=
  (World.ownsRow_lit (base := base) (e := 33) (size := 3) W #[] 0 hb (by simp [maxLen]) rfl).drew
theorem fin_rw {base ms n g cap m : Nat} {X : Nat → Int} {js ks : List Jb} {W2 w6 w7 : World} {v1 v2 : Value} (o : Obj) (h : RW base ms n X (.slice (some ⟨g, 0, none⟩) m cap) js W2) (hb : base ≤ W2.heap.size) (h1 : ((W2.alloc o).drew).grownBy w6 (some W2.heap.size)) (e1 : v1.ownBlock = some W2.heap.size ∨ v1.ownBlock = some (W2.alloc o).drew.heap.size) (h2 : w6.grownBy w7 v1.ownBlock) (e2 : v2.ownBlock = v1.ownBlock ∨ v2.ownBlock = some w6.heap.size) (hr : JR base v2 ks w7) :
    RW base ms n X v2 ks w7 ∧ Below base W2 w7 := by
  have s0 : (W2.alloc o).drew.heap.size = W2.heap.size + 1 := by show (W2.alloc o).heap.size = _; simp
  have s1 : W2.heap.size + 1 ≤ w6.heap.size := by rw [← s0]; exact h1.size
  have s2 : w6.heap.size ≤ w7.heap.size := h2.size
  rw [s0] at e1
  have k6 : ∀ k, k < W2.heap.size → w6.heap[k]? = W2.heap[k]? := fun k hk => (h1.block k (by rw [s0]; omega) (by simp; omega)).trans (Below.heap_alloc W2 o k hk)
  have k7 : ∀ k, k < W2.heap.size → w7.heap[k]? = W2.heap[k]? := fun k hk => (h2.block k (by omega) (by rcases e1 with e | e <;> (rw [e]; simp; omega))).trans (k6 k hk)
  have hm := h.hi
  have km := k7 ms hm
  refine ⟨⟨fun i hi => ⟨(World.cell?_of_block (a := ⟨ms, i, none⟩) km).trans (h.m i hi).1, (World.frozen?_of_block (a := ⟨ms, i, none⟩) km).trans (h.m i hi).2⟩, h.lo, by omega, hr, fun k e => ?_⟩,
    ⟨h2.os.trans (h1.os.trans rfl), h2.tape.trans (h1.tape.trans rfl), h2.output.trans (h1.output.trans rfl), by omega, fun i hi => k7 i (by omega)⟩⟩
  rcases e2 with e2 | e2
  · rw [e2] at e
    rcases e1 with e1 | e1 <;> (rw [e1] at e; simp at e; omega)
  · rw [e2] at e; simp at e; omega
theorem rw_mid {base ms n g cap m : Nat} {X : Nat → Int} {js : List Jb} {W2 w6 : World} (o : Obj) (h : RW base ms n X (.slice (some ⟨g, 0, none⟩) m cap) js W2) (h1 : ((W2.alloc o).drew).grownBy w6 (some W2.heap.size)) : RW base ms n X (.slice (some ⟨g, 0, none⟩) m cap) js w6 := by
  have s0 : (W2.alloc o).drew.heap.size = W2.heap.size + 1 := by show (W2.alloc o).heap.size = _; simp
  refine rw_same h (by have := h1.size; omega) fun k _ hk => ?_
  exact (h1.block k (by rw [s0]; omega) (by simp; omega)).trans (Below.heap_alloc W2 o k hk)
theorem bs_neg {rs : List Jb} {m : Nat} (h : bs rs m < 0) : bs rs (m + 1) = (m : Int) := by
  show (if _ then _ else _) = _
  rw [if_pos (.inl h)]
theorem bs_yes {rs : List Jb} {m b : Nat} (eb : bs rs m = (b : Int)) (h : (jg rs m).2.1 < (jg rs b).2.1 ∨ ((jg rs m).2.1 = (jg rs b).2.1 ∧ (jg rs m).2.2 < (jg rs b).2.2)) : bs rs (m + 1) = (m : Int) := by
  show (if _ then _ else _) = _
  rw [eb, Int.toNat_natCast, if_pos (.inr h)]
theorem bs_no {rs : List Jb} {m b : Nat} (eb : bs rs m = (b : Int)) (h : ¬ ((jg rs m).2.1 < (jg rs b).2.1 ∨ ((jg rs m).2.1 = (jg rs b).2.1 ∧ (jg rs m).2.2 < (jg rs b).2.2))) : bs rs (m + 1) = (b : Int) := by
  show (if _ then _ else _) = _
  rw [eb, Int.toNat_natCast, if_neg (fun k => k.elim (by omega) h)]
theorem info33 : (Try.prog.info? 33).map (fun i => (i.zero, i.size, i.bytes)) = some (some (.agg #[.int .i64 0, .int .i64 0, .int .i64 0]), 3, 24) := by kernel_rfl
theorem below_al {base : Nat} {w W : World} (hs : w.heap.size = base) (h : Below base w W) (o : Obj) : Below base w (W.alloc o) := h.alloc (by rw [← hs]; exact h.size) o
set_option maxRecDepth 100000 in
set_option maxHeartbeats 8000000 in
theorem plays_yes (A : Option Addr) (n c : Nat) (z : Nat → Int × Int × Int) (T : Nat) (w : World) (hT : T ≤ 300) (hA : Rd3 w A n z) (h : AllOk z n) : Calls Try.prog 3 #[.slice A n c, .int .i64 T] w (Tr w) := by
  have CF := Lib.hid fixed_at
  have hn : n ≤ 16 := h.2.2
  have hn1 : 1 ≤ n := h.2.1
  have C1 := Lib.hid (fun W k => play_w A n c z T W k h (by omega))
  have C2 := Lib.hid (fun W k => Right_yes A n c z W k h)
  have C3 := Lib.hid (fun W k => (right_at A n c z W (by omega) k).mono fun e w' (q : _ ∧ _ ∧ _) => (show e = .returned (.bool true) ∧ Below W.heap.size W w' from ⟨q.1 h, q.2.2⟩))
  have HO := Lib.hid h.1
  have HA := Lib.hid hA
  have info3 : (Try.prog.info? 3).map (fun i => (i.zero, i.size, i.bytes)) = some (some (.int .i64 0), 1, 8) := by kernel_rfl
  have hmk := run_make_row' (P := Try.prog) 24 3 (.int .i64 0) 8 Try.underlying24 info3 rfl .i64 .i64 n (by omega) (by omega)
  clear hA h
  go_enter Try.func3, Try.ntmps3
  go_wp2_with (first
    | (go_at_call 10; refine (CF.out _).mono ?_; clear CF; rintro e w1 ⟨rfl, hb⟩; have HB1 := Lib.hid hb; have HA1 := Lib.hid (rd3_below HA.out hb); clear hb)
    | (go_at_call 11; refine (C1.out _ HA1.out).mono ?_; clear C1; rintro e w2 ⟨A1, cap, rm, q, rfl, hp, hb⟩; have HP2 := Lib.hid hp; have HB2 := Lib.hid (below_tr HB1.out hb); obtain ⟨r, hr⟩ : ∃ r, w2.heap.size = r := ⟨_, rfl⟩; clear HB1 HA1 hb hp)
    | (go_at_call 12; refine (C2.out _ HP2.out.rd).mono ?_; clear C2; rintro e w3 ⟨rfl, hb⟩; have HP3 := Lib.hid (pw_below HP2.out hb); have HB3 := Lib.hid (below_tr HB2.out hb); clear HB2 HP2 hb)
    | (go_at_call 13; refine (C3.out _ HP3.out.rd).mono ?_; rintro e w4 ⟨rfl, hb⟩; have HP4 := Lib.hid (pw_below HP3.out hb); have HB4 := Lib.hid (below_tr HB3.out hb); clear HB3 HP3 hb)
    | (go_at_call 13; refine (C3.out _ HP4.out.rd).mono ?_; clear C3; rintro e w5 ⟨rfl, hb⟩; have HP5 := Lib.hid (pw_below HP4.out hb); have HB5 := Lib.hid (below_tr HB4.out hb); rw [hr] at HP5; have h5 := (Below.refl w5.heap.size w5).alloc (Nat.le_refl _) (.cells (madeCells #[.int .i64 0] n) 3); obtain ⟨⟨a0, _⟩, ⟨a1, _⟩, a2, _⟩ := run_cells (pw_below HP5.out h5).rc; clear HB4 HP4 hb h5)
    | fail)
  have HRR := Lib.hid hr
  clear hr hmk
  have HW0 := Lib.hid (rw_new w5 n)
  have HB0 := Lib.hid ((Below.refl w5.heap.size w5).alloc (Nat.le_refl _) (.cells (madeCells #[.int .i64 0] n) 3))
  go_loopw [8, 10, 85] (fun v8 v10 v85 W => ∃ (t : Nat) (v : Value), t ≤ T ∧ v = v8 ∧ v85 = .int .i64 t ∧ v10 = .int .i64 (st z n t).q ∧ Hid (RW w5.heap.size w5.heap.size n (st z n t).M v (rowt z n t) W) ∧ Hid (Below w5.heap.size w5 W)) (fun _ _ v85 _ => T - (intOf v85).toNat)
  case atStart => exact ⟨0, _, by omega, rfl, rfl, rfl, HW0.out, HB0.out⟩
  case round =>
    clear a0 a1 a2 HW0 HB0
    obtain ⟨t, v, ht, rfl, rfl, rfl, HR, HB⟩ := hrel
    rename World => wt
    have hq := (sb_st HO.out t).q
    by_cases hlt : t < T
    · have hji := ji_all hn HO.out t
      have hlen := hji.len
      have HM := Lib.hid (sb_st HO.out t).m
      have HDI := Lib.hid (di_all HO.out t)
      obtain ⟨js, hjs⟩ : ∃ js, rowt z n t = js := ⟨_, rfl⟩
      have HR1 := Lib.hid (show RW w5.heap.size w5.heap.size n (st z n t).M v js wt by rw [← hjs]; exact HR.out)
      clear HR
      rw [hjs] at hji hlen
      have HJ := Lib.hid hji
      have HJS := Lib.hid hjs
      clear hji hjs
      obtain ⟨A2, cap2, rfl, _, _⟩ := jr_any HR1.out.row
      obtain ⟨ln, hln⟩ : ∃ ln, js.length = ln := ⟨_, rfl⟩
      rw [hln] at HR1 hlen ⊢
      have HLN := Lib.hid hln
      clear hln
      have hln5 : ln ≤ 4800 := by omega
      obtain ⟨qv, hqv⟩ : ∃ x, (st z n t).q = x := ⟨_, rfl⟩
      rw [hqv] at hq ⊢
      have HQV := Lib.hid hqv
      clear hqv hlen
      go_wp2_with fail
      go_loopw [12, 90] (fun v12 v90 W => ∃ (k : Nat) (u : Value), k ≤ ln ∧ u = v12 ∧ v90 = .int .i64 k ∧ Hid (KW w5.heap.size w5.heap.size n (mX t js (st z n t).M k) (.slice A2 ln cap2) js u (kp t js k) W) ∧ Hid (Below w5.heap.size w5 W)) (fun _ v90 _ => ln - (intOf v90).toNat)
      case atStart => exact ⟨0, _, by omega, rfl, rfl, kw_new HR1.out, HB.out⟩
      case round =>
        clear HR1 HB
        obtain ⟨k, u, hk, rfl, rfl, HK, HB⟩ := hrel
        rename World => wo
        by_cases hkl : k < ln
        · have hkj : k < js.length := by rw [HLN.out]; exact hkl
          obtain ⟨g, rfl, hgs, hgb, ⟨e0, e1, e2⟩, _⟩ := jr_cells HK.out.r.row hkj
          obtain ⟨τ, hτ, ej, _⟩ := HJ.out.a _ (jg_mem hkj)
          have hm : mX t js (st z n t).M (k + 1) = if (jg js k).2.1 ≤ t then upd (mX t js (st z n t).M k) (jg js k).2.2.toNat (mX t js (st z n t).M k (jg js k).2.2.toNat + 1) else mX t js (st z n t).M k := rfl
          have hky := kp_yes (t := (t : Int)) hkj
          have hkn := kp_no (t := (t : Int)) hkj
          have hjj : jg js k = ((jg js k).1, (jg js k).2.1, (τ : Int)) := by rw [ej]
          have hx2 : (jg js k).2.2 = (τ : Int) := by rw [ej]
          obtain ⟨x0, hx0⟩ : ∃ x, (jg js k).1 = x := ⟨_, rfl⟩
          obtain ⟨x1, hx1⟩ : ∃ x, (jg js k).2.1 = x := ⟨_, rfl⟩
          rw [hx0] at e0 hjj
          rw [hx1] at e1 hjj hm hky hkn
          rw [hx2] at e2 hm
          simp only [Int.toNat_natCast] at hm
          rw [hjj] at hky
          have hyb := mX_bd t js (st z n t).M k τ
          have hmb := HM.out τ hτ
          have HK2 := Lib.hid (kw_alloc HK.out (.cells #[.int .i64 x0, .int .i64 x1, .int .i64 (τ : Int)] 33))
          have HB2 := Lib.hid (below_al rfl HB.out (.cells #[.int .i64 x0, .int .i64 x1, .int .i64 (τ : Int)] 33))
          clear hx0 hx1 hx2 hjj ej HK HB
          by_cases hd : x1 ≤ (t : Int)
          · rw [if_pos hd] at hm
            have hkn := hkn (by omega)
            obtain ⟨m1, m2⟩ := HK2.out.r.m τ hτ
            obtain ⟨y, hy⟩ : ∃ y, mX t js (st z n t).M k τ = y := ⟨_, rfl⟩
            rw [hy] at m1 hyb hm
            have hw1 : IntKind.i64.wrap (y + 1) = y + 1 := iw (by omega) (by omega)
            have HKE := Lib.hid (kw_miss HK2.out τ (y + 1))
            rw [← hm, ← hkn] at HKE
            have HBE := Lib.hid (below_set HB2.out (p := ⟨w5.heap.size, τ, none⟩) (Nat.le_refl _) (.int .i64 (y + 1)))
            clear hm hkn hky hy hyb hmb
            go_wp2
            exact ⟨⟨k + 1, _, by omega, rfl, by simp, HKE.out, HBE.out⟩, by simp [intOf]; omega⟩
          · rw [if_neg hd] at hm
            have hky := hky (by omega)
            have hkl2 : (kp t js k).length ≤ 30000 := Nat.le_trans (kp_len _ _ _) (by rw [HLN.out]; omega)
            have HM1 := Lib.hid hm
            have HKY := Lib.hid hky
            have HKL := Lib.hid hkl2
            have HZ2 := Lib.hid HB2.out.size
            clear hm hkn hky hyb hmb hkl2
            go_wp2_with (first
              | (at_builtin; refine app_job (W := wo.alloc (.cells #[.int .i64 x0, .int .i64 x1, .int .i64 (τ : Int)] 33)) w5.heap.size rfl _ _ 31 rfl Try.underlying31 info33 u (kp t js k) (x0, x1, (τ : Int)) (wo.heap.size + 1) (by simp) rfl ?hx HK2.out.k HZ2.out HKL.out ?_; (case hx => rfl); intro zs v1 w6 HZ hr3; have HA3 := Lib.hid (kw_app _ HK2.out hr3.out.1 hr3.out.2.1 hr3.out.2.2 HZ2.out); clear hr3)
              | fail)
            refine ⟨⟨k + 1, _, by omega, rfl, by simp, ?_, ?_⟩, by simp [intOf]; omega⟩
            · show KW _ _ _ _ _ _ _ _ _
              rw [HM1.out, HKY.out, ← HZ.out]; exact HA3.out.1
            · exact HB2.out.trans HA3.out.2
        · obtain rfl : ln = k := by omega
          have HR2 := Lib.hid (show RW w5.heap.size w5.heap.size n (st z n (t + 1)).M u (kp t js js.length) wo by
            have := kw_end HK.out
            rw [← HLN.out] at this
            exact rw_congr this fun i hi => ji_miss HDI.out HJ.out (fun _ _ => rfl) i hi)
          clear HK
          obtain ⟨ks, hks⟩ : ∃ ks, kp t js js.length = ks := ⟨_, rfl⟩
          rw [hks] at HR2
          have hkl3 : ks.length ≤ 4800 := by
            have := kp_len t js js.length
            rw [hks, HLN.out] at this
            omega
          have HKS := Lib.hid hks
          have HKL3 := Lib.hid hkl3
          clear hks hkl3
          go_wp2_with fail
          go_loopw [8, 113] (fun v8 v113 W => ∃ (i : Nat) (v : Value), i ≤ n ∧ v = v8 ∧ v113 = .int .i64 i ∧ Hid (RW w5.heap.size w5.heap.size n (st z n (t + 1)).M v (ar z t ks i) W) ∧ Hid (Below w5.heap.size w5 W)) (fun _ v113 _ => n - (intOf v113).toNat)
          case atStart => exact ⟨0, _, by omega, rfl, rfl, HR2.out, HB.out⟩
          case round =>
            clear HR2 HB
            obtain ⟨i, v, hi, rfl, rfl, HR, HB⟩ := hrel
            rename World => wi
            by_cases hin : i < n
            · obtain ⟨b0, off, hA0, hcell⟩ := HP5.out.rd (by omega)
              have HP5' := HP5
              obtain ⟨⟨g0, g1, g2⟩, _⟩ := hcell i hin
              have hblk : b0 < w5.heap.size := World.block_lt_of_cell? w5 _ g0
              have k0 : wi.cell? ⟨b0, off + i * 3, none⟩ = some (.int .i64 (z i).1) := (HB.out.cell (p := ⟨b0, off + i * 3, none⟩) hblk).trans g0
              have k1 : wi.cell? ⟨b0, off + i * 3 + 1, none⟩ = some (.int .i64 (z i).2.1) := (HB.out.cell (p := ⟨b0, off + i * 3 + 1, none⟩) hblk).trans g1
              have k2 : wi.cell? ⟨b0, off + i * 3 + 2, none⟩ = some (.int .i64 (z i).2.2) := (HB.out.cell (p := ⟨b0, off + i * 3 + 2, none⟩) hblk).trans g2
              have hto := HO.out i hin
              have har : ar z t ks (i + 1) = if rel (z i) t then ar z t ks i ++ [((z i).2.1, (t : Int) + (z i).1, (i : Int))] else ar z t ks i := rfl
              have harl : (ar z t ks i).length ≤ 30000 := Nat.le_trans (ar_len z t ks i) (by have := HKL3.out; omega)
              have HAL := Lib.hid harl
              unfold TaskOk at hto
              subst hA0
              by_cases hrr : rel (z i) t
              · rw [if_pos hrr] at har
                unfold rel at hrr
                obtain ⟨hbe, hy⟩ := hrr
                obtain ⟨p, hp⟩ : ∃ x, (z i).1 = x := ⟨_, rfl⟩
                obtain ⟨x1, hx1⟩ : ∃ x, (z i).2.1 = x := ⟨_, rfl⟩
                obtain ⟨x2, hx2⟩ : ∃ x, (z i).2.2 = x := ⟨_, rfl⟩
                rw [hp] at k0 hto hy har
                rw [hx1] at k1 hto har
                rw [hx2] at k2 hto hy hbe
                obtain ⟨t1, t2, t3, t4, t5, t6⟩ := hto
                have hw0 : IntKind.i64.wrap ((t : Int) - x2) = (t : Int) - x2 := iw (by omega) (by omega)
                have hw2 : IntKind.i64.wrap ((t : Int) + p) = (t : Int) + p := iw (by omega) (by omega)
                have hpz : ¬ p = 0 := by omega
                have HAR := Lib.hid har
                have HR3 := Lib.hid (rw_alloc HR.out (.cells #[.int .i64 p, .int .i64 x1, .int .i64 x2] 35))
                have HB3 := Lib.hid (below_al rfl HB.out (.cells #[.int .i64 p, .int .i64 x1, .int .i64 x2] 35))
                have HZ3 := Lib.hid HB3.out.size
                clear hp hx1 hx2 hcell g0 g1 g2 har harl HR HB
                go_wp2_with (first
                  | (at_builtin; refine app_job (W := wi.alloc (.cells #[.int .i64 p, .int .i64 x1, .int .i64 x2] 35)) w5.heap.size rfl _ _ 31 rfl Try.underlying31 info33 v (ar z t ks i) (x1, (t : Int) + p, (i : Int)) (wi.heap.size + 1) (by simp) rfl ?hx HR3.out.row HZ3.out HAL.out ?_; (case hx => rfl); intro zs v1 w6 HZ hr3; have HA3 := Lib.hid (rw_app _ HR3.out hr3.out.1 hr3.out.2.1 hr3.out.2.2 HZ3.out); clear hr3)
                  | fail)
                refine ⟨⟨i + 1, _, by omega, rfl, by simp, ?_, ?_⟩, by simp [intOf]; omega⟩
                · show RW _ _ _ _ _ _ _
                  rw [HAR.out, ← HZ.out]; exact HA3.out.1
                · exact HB3.out.trans HA3.out.2
              · rw [if_neg hrr] at har
                unfold rel at hrr
                obtain ⟨p, hp⟩ : ∃ x, (z i).1 = x := ⟨_, rfl⟩
                obtain ⟨x1, hx1⟩ : ∃ x, (z i).2.1 = x := ⟨_, rfl⟩
                obtain ⟨x2, hx2⟩ : ∃ x, (z i).2.2 = x := ⟨_, rfl⟩
                rw [hp] at k0 hto hrr
                rw [hx1] at k1 hto
                rw [hx2] at k2 hto hrr
                obtain ⟨t1, t2, t3, t4, t5, t6⟩ := hto
                have HAR := Lib.hid har
                have HR3 := Lib.hid (rw_alloc HR.out (.cells #[.int .i64 p, .int .i64 x1, .int .i64 x2] 35))
                have HB3 := Lib.hid (below_al rfl HB.out (.cells #[.int .i64 p, .int .i64 x1, .int .i64 x2] 35))
                rw [← HAR.out] at HR3
                by_cases hb : (t : Int) < x2
                · clear hrr hp hx1 hx2 hcell g0 g1 g2 har harl HR HB
                  go_wp2
                  exact ⟨⟨i + 1, _, by omega, rfl, by simp, HR3.out, HB3.out⟩, by simp [intOf]; omega⟩
                · have hmod : ¬ ((t : Int) - x2) % p = 0 := fun e => hrr ⟨by omega, e⟩
                  obtain ⟨y, hy⟩ : ∃ y, ((t : Int) - x2) % p = y := ⟨_, rfl⟩
                  have hy0 : 0 ≤ y ∧ y < p := by rw [← hy]; exact ⟨Int.emod_nonneg _ (by omega), Int.emod_lt_of_pos _ (by omega)⟩
                  have hw0 : IntKind.i64.wrap ((t : Int) - x2) = (t : Int) - x2 := iw (by omega) (by omega)
                  rw [hy] at hmod
                  have hpz : ¬ p = 0 := by omega
                  clear hrr hp hx1 hx2 hcell g0 g1 g2 har harl HR HB
                  go_wp2
                  exact ⟨⟨i + 1, _, by omega, rfl, by simp, HR3.out, HB3.out⟩, by simp [intOf]; omega⟩
            · obtain rfl : n = i := by omega
              have hjc := ji_come HO.out HDI.out HJ.out
              rw [HKS.out] at hjc
              have hlr := ar_len z t ks n
              have hrow : rowt z n (t + 1) = row1 z n t (rowt z n t) := rfl
              rw [HJS.out] at hrow
              unfold row1 at hrow
              rw [HKS.out] at hrow
              obtain ⟨rs, hrs⟩ : ∃ rs, ar z t ks n = rs := ⟨_, rfl⟩
              rw [hrs] at HR hjc hlr hrow
              obtain ⟨A3, cap3, rfl, ⟨hc3, hc4⟩, _⟩ := jr_any HR.out.row
              obtain ⟨l3, hl3⟩ : ∃ l3, rs.length = l3 := ⟨_, rfl⟩
              have hbi := best_is hjc
              rw [hl3] at HR hlr hc3 hrow hbi ⊢
              have hl35 : l3 ≤ 4900 := by have := HKL3.out; omega
              have HL3 := Lib.hid hl3
              have HJC := Lib.hid hjc
              have HROW := Lib.hid hrow
              have HBI := Lib.hid hbi
              clear hl3 hjc hrow hbi hrs hlr
              go_wp2_with fail
              go_loopw [17, 146] (fun v17 v146 W => ∃ (m : Nat), m ≤ l3 ∧ v146 = .int .i64 m ∧ v17 = .int .i64 (bs rs m) ∧ Hid (RW w5.heap.size w5.heap.size n (st z n (t + 1)).M (.slice A3 l3 cap3) rs W) ∧ Hid (Below w5.heap.size w5 W)) (fun _ v146 _ => l3 - (intOf v146).toNat)
              case atStart => exact ⟨0, by omega, rfl, rfl, HR.out, HB.out⟩
              case round =>
                clear HR HB
                obtain ⟨m, hm, rfl, rfl, HR, HB⟩ := hrel
                rename World => wm
                by_cases hml : m < l3
                · have hmr : m < rs.length := by rw [HL3.out]; exact hml
                  obtain ⟨g3, hA3, hgs, hgb, ⟨c0, c1, c2⟩, _⟩ := jr_cells HR.out.row hmr
                  have hbb := bs_bd rs m
                  have hcb : ∀ b, b < m → wm.cell? ⟨g3, b * 3, none⟩ = some (.int .i64 (jg rs b).1) ∧ wm.cell? ⟨g3, b * 3 + 1, none⟩ = some (.int .i64 (jg rs b).2.1) ∧ wm.cell? ⟨g3, b * 3 + 2, none⟩ = some (.int .i64 (jg rs b).2.2) := by
                    intro b hb
                    obtain ⟨g4, hA4, _, _, hc, _⟩ := jr_cells HR.out.row (i := b) (by omega)
                    rw [hA3] at hA4
                    simp only [Option.some.injEq, Addr.mk.injEq, and_true] at hA4
                    subst hA4
                    exact hc
                  have HCB := Lib.hid hcb
                  subst hA3
                  obtain ⟨y0, hy0⟩ : ∃ x, (jg rs m).1 = x := ⟨_, rfl⟩
                  obtain ⟨y1, hy1⟩ : ∃ x, (jg rs m).2.1 = x := ⟨_, rfl⟩
                  obtain ⟨y2, hy2⟩ : ∃ x, (jg rs m).2.2 = x := ⟨_, rfl⟩
                  rw [hy0] at c0
                  rw [hy1] at c1
                  rw [hy2] at c2
                  have HR3 := Lib.hid (rw_alloc HR.out (.cells #[.int .i64 y0, .int .i64 y1, .int .i64 y2] 33))
                  have HB3 := Lib.hid (below_al rfl HB.out (.cells #[.int .i64 y0, .int .i64 y1, .int .i64 y2] 33))
                  clear hy0 hcb HR HB
                  by_cases hb : bs rs m < 0
                  · have e1 : bs rs m = -1 := by omega
                    have HST := Lib.hid (bs_neg hb)
                    rw [e1]
                    clear hbb hb e1 hy1 hy2
                    go_wp2_with fail
                    go_quiet (fail)
                    go_wp2
                    exact ⟨⟨m + 1, by omega, by simp, by rw [HST.out], rw_drewN HR3.out _, below_drewN HB3.out _⟩, by simp [intOf]; omega⟩
                  · obtain ⟨b, hbm, eb⟩ : ∃ b : Nat, b < m ∧ bs rs m = b := ⟨(bs rs m).toNat, by omega, by omega⟩
                    rw [eb]
                    obtain ⟨_, d1, d2⟩ := HCB.out b hbm
                    obtain ⟨b1, hb1⟩ : ∃ x, (jg rs b).2.1 = x := ⟨_, rfl⟩
                    obtain ⟨b2, hb2⟩ : ∃ x, (jg rs b).2.2 = x := ⟨_, rfl⟩
                    rw [hb1] at d1
                    rw [hb2] at d2
                    have hz : ¬ (b : Int) < 0 := by omega
                    have hzd : decide ((b : Int) < 0) = false := decide_eq_false hz
                    rcases Int.lt_trichotomy y1 b1 with h1 | h1 | h1
                    · have HST := Lib.hid (bs_yes eb (by rw [hy1, hb1]; exact .inl h1))
                      clear hbb hb eb hb1 hb2 hy1 hy2
                      go_wp2_with fail
                      go_quiet (fail)
                      go_wp2
                      exact ⟨⟨m + 1, by omega, by simp, by rw [HST.out], rw_drewN HR3.out _, below_drewN HB3.out _⟩, by simp [intOf]; omega⟩
                    · obtain rfl := h1
                      by_cases h2 : y2 < b2
                      · have HST := Lib.hid (bs_yes eb (by rw [hy1, hb1, hy2, hb2]; exact .inr ⟨rfl, h2⟩))
                        clear hbb hb eb hb1 hb2 hy1 hy2
                        go_wp2_with fail
                        go_quiet (fail)
                        go_wp2
                        exact ⟨⟨m + 1, by omega, by simp, by rw [HST.out], rw_drewN HR3.out _, below_drewN HB3.out _⟩, by simp [intOf]; omega⟩
                      · have HST := Lib.hid (bs_no eb (by rw [hy1, hb1, hy2, hb2]; omega))
                        have h2d : decide (y2 < b2) = false := decide_eq_false h2
                        clear hbb hb eb hb1 hb2 hy1 hy2
                        go_wp2_with fail
                        go_quiet (fail)
                        go_wp2
                        exact ⟨⟨m + 1, by omega, by simp, by rw [HST.out], rw_drewN HR3.out _, below_drewN HB3.out _⟩, by simp [intOf]; omega⟩
                    · have HST := Lib.hid (bs_no eb (by rw [hy1, hb1, hy2, hb2]; omega))
                      have h2d : decide (y1 < b1) = false := decide_eq_false (by omega)
                      have h3d : (y1 == b1) = false := by simp; omega
                      clear hbb hb eb hb1 hb2 hy1 hy2
                      go_wp2_with fail
                      go_quiet (fail)
                      go_wp2
                      exact ⟨⟨m + 1, by omega, by simp, by rw [HST.out], rw_drewN HR3.out _, below_drewN HB3.out _⟩, by simp [intOf]; omega⟩
                · obtain rfl : l3 = m := by omega
                  have hbb := bs_bd rs l3
                  obtain ⟨gd, hA1, hgd, hcd⟩ := HP5.out.dd t hlt
                  subst hA1
                  have kd := (HB.out.cell (p := ⟨gd, t, none⟩) hgd).trans hcd
                  obtain ⟨⟨a0, _⟩, ⟨a1, _⟩, a2, _⟩ := run_cells ((HB.out.block r (Array.getElem?_eq_some_iff.1 HP5.out.rc).1).trans HP5.out.rc)
                  by_cases hb : bs rs l3 < 0
                  · have e1 : bs rs l3 = -1 := by omega
                    have hrow := HROW.out
                    rw [if_pos hb] at hrow
                    have hpick : pick z n t (st z n t) = -1 := HBI.out.1 hb
                    rw [hpick] at kd
                    have hqq : (st z n (t + 1)).q = qv + 1 := by
                      show (if pick z n t (st z n t) < 0 then _ else _) = _
                      rw [hpick, if_pos (by omega), HQV.out]
                    have hw1 : IntKind.i64.wrap (qv + 1) = qv + 1 := iw (by omega) (by omega)
                    rw [e1]
                    have HRE := Lib.hid (show RW w5.heap.size w5.heap.size n (st z n (t + 1)).M (.slice A3 l3 cap3) (rowt z n (t + 1)) wm by rw [hrow]; exact HR.out)
                    have HQQ := Lib.hid hqq
                    clear hb e1 hrow hpick hqq hbb hcd hgd HR
                    go_wp2
                    exact ⟨⟨t + 1, _, by omega, rfl, by simp, by rw [HQQ.out], HRE.out, HB.out⟩, by simp [intOf]; omega⟩
                  · obtain ⟨b, hbl, eb⟩ : ∃ b : Nat, b < l3 ∧ bs rs l3 = b := ⟨(bs rs l3).toNat, by omega, by omega⟩
                    have hrow := HROW.out
                    rw [if_neg hb, eb, Int.toNat_natCast] at hrow
                    have hbr : b < rs.length := by rw [HL3.out]; exact hbl
                    have hpick : (jg rs b).2.2 = pick z n t (st z n t) := by
                      have := HBI.out.2 (by omega)
                      rw [eb, Int.toNat_natCast] at this
                      exact this
                    obtain ⟨τ, hτ, ej, hx0p⟩ := HJC.out.a _ (jg_mem hbr)
                    have hx0b := cL_bd (t := (t : Int)) HO.out (sb_st HO.out t).l τ hτ
                    have hx00 : (jg rs b).1 = cL z t (st z n t).L n τ := by rw [ej]
                    have hpn : pick z n t (st z n t) = (τ : Int) := by rw [← hpick, ej]
                    rw [hpn] at kd
                    have hqq : (st z n (t + 1)).q = qv := by
                      show (if pick z n t (st z n t) < 0 then _ else _) = _
                      rw [hpn, if_neg (by omega), HQV.out]
                    rw [eb]
                    obtain ⟨g3, hA3, hgs, hgb, ⟨c0, c1, c2⟩, cz⟩ := jr_cells HR.out.row hbr
                    subst hA3
                    rw [hpick, hpn] at c2
                    rw [← hx00] at hx0p hx0b
                    obtain ⟨x0, hx0⟩ : ∃ x, (jg rs b).1 = x := ⟨_, rfl⟩
                    rw [hx0] at c0 hx0p hx0b
                    obtain ⟨_, hx0b⟩ := hx0b
                    have HX0 := Lib.hid hx0
                    have hz : ¬ (b : Int) < 0 := by omega
                    have hzd : decide ((b : Int) < 0) = false := decide_eq_false hz
                    have hw1 : IntKind.i64.wrap (x0 - 1) = x0 - 1 := iw (by omega) (by omega)
                    have HROW2 := Lib.hid hrow
                    have HQQ := Lib.hid hqq
                    clear hb eb hrow hpick ej hx00 hpn hqq hx0 hcd hgd hbb
                    go_wp2_with fail
                    go_quiet (fail)
                    by_cases h1 : x0 = 1
                    · have HROW3 := Lib.hid (HROW2.out.trans (fin_yes HX0.out h1))
                      subst h1
                      go_upto_region 49 with fail
                      have HR4 := Lib.hid (rw_left2 HL3.out (rw_drewN HR.out nq) b 0)
                      have HB4 := Lib.hid (below_set (below_drewN HB.out nq) (p := ⟨g3, b * 3, none⟩) hgb (.int .i64 0))
                      obtain ⟨rz, hrz⟩ : ∃ rz, rs.set b (0, (jg rs b).2) = rz := ⟨_, rfl⟩
                      have hrl : rz.length = l3 := by rw [← hrz, List.length_set]; exact HL3.out
                      have hz1 : rz.take b = rs.take b := by rw [← hrz, List.take_set_of_le (Nat.le_refl _)]
                      have hz2 : rz.drop (b + 1) = rs.drop (b + 1) := by rw [← hrz, List.drop_set_of_lt (by omega)]
                      rw [hrz] at HR4
                      generalize hW2 : (wm.drewN nq).setCell ⟨g3, b * 3, none⟩ (.int .i64 0) = W2 at *
                      have hwr : IntKind.i64.wrap ((b : Int) + 1) = (b : Int) + 1 := iw (by omega) (by omega)
                      have hp0 : (0 : Int) ≤ (b : Int) + 1 := by omega
                      have hp1 : (b : Int) + 1 ≤ (l3 : Int) := by omega
                      have hp2 : ((b : Int) + 1).toNat = b + 1 := by omega
                      have hic : b ≤ cap3 := by omega
                      obtain ⟨AD, hAD⟩ : ∃ AD : Addr, (if cap3 = b + 1 then some (⟨g3, 0, none⟩ : Addr) else some ⟨g3, (b + 1) * 3, none⟩) = some AD := by
                        by_cases e : cap3 = b + 1
                        · exact ⟨_, by rw [if_pos e]⟩
                        · exact ⟨_, by rw [if_neg e]⟩
                      have HBS := Lib.hid HB4.out.size
                      have HV := Lib.hid (jr_lit (W := W2) HBS.out)
                      have HT1 := Lib.hid (jr_take (rw_same HR4.out (W' := (W2.alloc (.cells #[] 33)).drew) (by show _ ≤ (W2.alloc _).heap.size; simp) (fun k _ hk => Below.heap_alloc W2 _ k hk)).row b)
                      have HD1 := Lib.hid (fun (W : World) (hw : JR w5.heap.size (.slice (some ⟨g3, 0, none⟩) l3 cap3) rz W) => jr_drop hw b (by omega) AD hAD)
                      have HTL := Lib.hid (show (rz.take b).length = b by rw [List.length_take]; omega)
                      have HDL := Lib.hid (show (rz.drop (b + 1)).length = l3 - (b + 1) by rw [List.length_drop, hrl])
                      have HZZ := Lib.hid (And.intro hz1 hz2)
                      have hbs2 : w5.heap.size ≤ (W2.alloc (.cells #[] 33)).drew.heap.size := by
                        have := HBS.out
                        show _ ≤ (W2.alloc _).heap.size
                        simp; omega
                      have HBS2 := Lib.hid hbs2
                      have HL49 := Lib.hid hl35
                      have HBL := Lib.hid hbl
                      clear kd a0 a1 a2 c0 c1 c2 cz HR HB hW2 hrz hrl hz1 hz2 hbs2
                      go_region_law (first
                        | (refine step_app w5.heap.size rfl (.tmp 220) (.tmp 223) 31 rfl Try.underlying31 info33 (.slice (some ⟨W2.heap.size, 0, none⟩) 0 0) [] (by simp [Act.eval, Act.put]) HV.out ⟨g3, 0, none⟩ cap3 b (rz.take b) HTL.out (by simp [Act.eval, Act.put]) HT1.out HBS2.out (by have h1 := HTL.out; have h2 := HL49.out; have h3 := HBL.out; simp; omega) ?_; intro v6 w6 HA6; have HM6 := Lib.hid (rw_mid _ HR4.out HA6.out.2.1))
                        | (refine step_app w5.heap.size rfl (.tmp 224) (.tmp 228) 31 rfl Try.underlying31 info33 v6 ([] ++ rz.take b) (by simp [Act.eval, Act.put]) HA6.out.1 AD (cap3 - (b + 1)) (l3 - (b + 1)) (rz.drop (b + 1)) HDL.out (by simp [Act.eval, Act.put]) (HD1.out _ HM6.out.row) (Nat.le_trans HBS2.out HA6.out.2.1.size) (by have h1 := HTL.out; have h2 := HL49.out; have h3 := HBL.out; have h4 := HDL.out; rw [List.length_append]; simp only [List.length_nil]; omega) ?_; intro v7 w7 HA7; have HF7 := Lib.hid (fin_rw _ HR4.out HBS.out HA6.out.2.1 HA6.out.2.2 HA7.out.2.1 HA7.out.2.2 HA7.out.1)))
                      go_wp2
                      refine ⟨⟨t + 1, _, by omega, rfl, by simp, by rw [HQQ.out], ?_, HB4.out.trans HF7.out.2⟩, by simp [intOf]; omega⟩
                      show RW _ _ _ _ _ _ _
                      rw [HROW3.out, ← HZZ.out.1, ← HZZ.out.2]
                      exact HF7.out.1
                    · have HROW3 := Lib.hid (HROW2.out.trans (fin_no HX0.out h1))
                      have hne : ¬ (x0 - 1) = 0 := by omega
                      go_wp2
                      refine ⟨⟨t + 1, _, by omega, rfl, by simp, by rw [HQQ.out], ?_, below_set (below_drewN HB.out _) hgb _⟩, by simp [intOf]; omega⟩
                      show RW _ _ _ _ _ _ _
                      rw [HROW3.out]
                      exact rw_left2 HL3.out (rw_drewN HR.out _) b (x0 - 1)
    · obtain rfl : T = t := by omega
      go_wp2_with fail
      go_loopw [233] (fun v233 W => ∃ (i : Nat), i ≤ n ∧ v233 = .int .i64 i ∧ Hid (RW w5.heap.size w5.heap.size n (st z n T).M v (rowt z n T) W) ∧ Hid (Below w5.heap.size w5 W)) (fun v233 _ => n - (intOf v233).toNat)
      case atStart => exact ⟨0, by omega, rfl, HR.out, HB.out⟩
      case round =>
        clear HR HB
        obtain ⟨i, hi, rfl, HR, HB⟩ := hrel
        rename World => wi
        obtain ⟨⟨a0, _⟩, ⟨a1, _⟩, a2, _⟩ := run_cells ((HB.out.block r (Array.getElem?_eq_some_iff.1 HP5.out.rc).1).trans HP5.out.rc)
        by_cases hin : i < n
        · have k1 := (HB.out.cell (p := ⟨rm, i, none⟩) HP5.out.mm.1).trans (HP5.out.mm.2 i hin)
          obtain ⟨k2, _⟩ := HR.out.m i hin
          obtain ⟨mi, hmi⟩ : ∃ x, (st z n T).M i = x := ⟨_, rfl⟩
          rw [hmi] at k1 k2
          clear hmi
          go_wp2_with fail
          go_quiet (fail)
          go_wp2
          exact ⟨⟨i + 1, by omega, by simp, rw_drewN HR.out _, below_drewN HB.out _⟩, by simp [intOf]; omega⟩
        · obtain rfl : n = i := by omega
          obtain ⟨qv, hqv⟩ : ∃ x, (st z n T).q = x := ⟨_, rfl⟩
          rw [hqv] at a2 ⊢
          clear hqv
          go_wp2
          go_ret
          exact ⟨rfl, below_tr HB5.out HB.out⟩
end Go.Proofs.Ytdbaeigbejcobaa.Dl
