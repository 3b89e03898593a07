/- The red and black trees: the outer functions: a part of the walk of the whole machine. For all states that the readings allow. -/
import Derived.Deep.LoopGhost
import Derived.Laws.MakeOwn
import Derived.Test.YtlcaepcojglbiaaGreatDoorMf
namespace Go.Proofs.YtlcaepcojglbiaaGreatDoor.Tp
open Go.RowKit
set_option linter.unusedVariables false
set_option linter.unusedSimpArgs false
theorem place_at {tp nb : Nat} {S : TS} {ps fs : List Nat} (W : World) (h : TR tp nb S W) (ti : TI S ps fs) (hl : ps.length < 64) : Calls Tryz.prog 116 #[ptr tp] W fun e W' => ∃ (x : Nat) (S0 : TS) (fs' : List Nat), e = .returned (.int .i64 x) ∧ TR tp nb S0 W' ∧ PI S S0 x ps fs' ∧ G2 tp nb W W' := by
  cases fs with
  | nil =>
    obtain ⟨hp, hf, hl65, hz⟩ := pi_new ti hl
    refine (place_new W h hf hl65 hz).mono ?_
    rintro e W' ⟨rfl, hT, hG⟩
    exact ⟨_, _, _, rfl, hT, hp, hG⟩
  | cons x fs =>
    obtain ⟨hp, hx⟩ := pi_free ti
    have hb := ti.bd x (by simp)
    refine (place_free W h (by rw [hx]; omega) (by rw [hx]; exact hb.2)).mono ?_
    rintro e W' ⟨rfl, hT, hG⟩
    exact ⟨_, _, _, rfl, hT, hp, hG⟩
theorem child_at {tp nb : Nat} {S : TS} {W : World} (h : TR tp nb S W) (x : Nat) (hx : x < S.len) (d : Bool) : Calls Tryz.prog 117 #[ptr tp, .int .i64 x, .bool d] W fun e W' => e = .returned (.pointer (some ⟨nb, x * 8 + (if d then 3 else 2), none⟩)) ∧ W' = W := by
  cases d
  · exact child_l h x hx
  · exact child_r h x hx
def tup (t : Int) : Int := IntKind.i64.wrap (t + 1)
theorem tup_in (t : Int) : -9223372036854775808 ≤ tup t ∧ tup t ≤ 9223372036854775807 := by
  unfold tup
  simp [IntKind.wrap, IntKind.signed, IntKind.bits]
  split <;> omega
theorem tr_cell {tp nb : Nat} {S : TS} {W : World} (h : TR tp nb S W) {p : Addr} (h1 : p.block ≠ tp) (h2 : p.block ≠ nb) (v : Value) : TR tp nb S (W.setCell p v) :=
  tr_same h (by rw [size_set]; exact Nat.le_refl _) (Below.heap_setCell _ _ _ _ (Ne.symm h1)) (Below.heap_setCell _ _ _ _ (Ne.symm h2))
def g2_num (a b c : Sh) : Prop := b.ps.length < a.ps.length ∧ c.ps.length < a.ps.length
set_option maxRecDepth 100000 in
set_option maxHeartbeats 4000000 in
theorem putw {tp nb : Nat} {S : TS} {ps fs : List Nat} (T : Int) (W : World) (h : TR tp nb S W) (ti : TI S ps fs) (hl : ps.length < 64) :
    Calls Tryz.prog 96 #[ptr tp, .agg #[.int .i64 T, .int .i64 0]] W fun e W' => ∃ (x : Nat) (S' : TS) (A B fs' : List Nat), e = .returned (.tuple #[.agg #[.int .i64 x, .int .i64 (S'.N x).turn], .int .i64 0]) ∧ TR tp nb S' W' ∧ G2 tp nb W W' ∧ A ++ B = ps ∧ (∀ a ∈ A, (S.N a).t ≤ T) ∧ (∀ b ∈ B, T < (S.N b).t) ∧ TI S' (A ++ x :: B) fs' ∧ (S'.N x).t = T ∧ x ∉ ps ∧ ∀ j, j ≠ x → (S'.N j).key = (S.N j).key := by
  have HT1 := Lib.hid (tr_alloc (tr_alloc h (.cells #[.int .i64 T, .int .i64 0] 175)) (.cells #[.int .i64 0, .int .i64 0] 171))
  have C1 := Lib.hid (place_at _ HT1.out ti hl)
  have HTI := Lib.hid ti
  have hlt := h.lt
  have hln := h.ln
  have e1 : ¬ tp = W.heap.size := by omega
  have e2 : ¬ nb = W.heap.size := by omega
  have e3 : ¬ tp = W.heap.size + 1 := by omega
  have e4 : ¬ nb = W.heap.size + 1 := by omega
  have e1' : ¬ W.heap.size = tp := by omega
  have e2' : ¬ W.heap.size = nb := by omega
  have e3' : ¬ W.heap.size + 1 = tp := by omega
  have e4' : ¬ W.heap.size + 1 = nb := by omega
  have HA : Hid ((((W.alloc (.cells #[.int .i64 T, .int .i64 0] 175)).alloc (.cells #[.int .i64 0, .int .i64 0] 171)).heap[W.heap.size]? = some (.cells #[.int .i64 T, .int .i64 0] 175)) ∧ ((W.alloc (.cells #[.int .i64 T, .int .i64 0] 175)).alloc (.cells #[.int .i64 0, .int .i64 0] 171)).heap[W.heap.size + 1]? = some (.cells #[.int .i64 0, .int .i64 0] 171)) := by
    refine Lib.hid ⟨(Below.heap_alloc _ _ W.heap.size (by simp)).trans (heap_alloc_new W _), ?_⟩
    have := heap_alloc_new (W.alloc (.cells #[.int .i64 T, .int .i64 0] 175)) (.cells #[.int .i64 0, .int .i64 0] 171)
    rwa [show (W.alloc (.cells #[.int .i64 T, .int .i64 0] 175)).heap.size = W.heap.size + 1 by simp] at this
  have HG0 := Lib.hid (g2_alloc (g2_alloc (g2_refl tp nb W) (.cells #[.int .i64 T, .int .i64 0] 175)) (.cells #[.int .i64 0, .int .i64 0] 171))
  clear h ti
  go_enter Tryz.func96, Tryz.ntmps96
  go_wp2_with (first
    | (go_at_call 116; refine (C1.out).mono ?_; clear C1; rintro e w1 ⟨x, S0, fs', rfl, hT, hp, hG⟩; have hx0 : ¬ (x : Int) = 0 := by (have := hp.x0; omega))
    | fail)
  have hn := (hG.block W.heap.size (by simp; omega) (Ne.symm e1) (Ne.symm e2)).trans HA.out.1
  have hn2 := (hG.block (W.heap.size + 1) (by simp) (Ne.symm e3) (Ne.symm e4)).trans HA.out.2
  have HN := Lib.hid (And.intro hn hn2)
  obtain ⟨⟨k0, z0⟩, k1, z1⟩ := And.intro (cell_of hn 0 _ rfl) (cell_of hn 1 _ rfl)
  have c0 := hT.c0
  have hxl := hp.xl
  have hx65 : x < 65 := by have := hp.mx; omega
  have hln0 := hT.ln
  obtain ⟨-, -, -, -, xt⟩ := tr_node hT hxl
  obtain ⟨tx, htx⟩ : ∃ tx, (S0.N x).turn = tx := ⟨_, rfl⟩
  rw [htx] at xt
  have HS := Lib.hid (tr_setn (tr_drew hT) hx65 (nnd T (tup tx)))
  have HR := Lib.hid (tr_there (tr_drew hT) hx65)
  have HGA := Lib.hid (g2_trans HG0.out (g2_setCells (g2_drew hG) (x * 8) (dl (nnd T (tup tx)))))
  have HP := Lib.hid (And.intro hp htx)
  clear hT hG hp hn hn2 htx HA
  go_still_tail 17, (by kernel_rfl)
  change wpList _ _ _ _ _ w1.drew
  refine wpList_store_mid rfl 193 _ _ rfl nb (x * 8) (dl (nnd T (tup tx))).toArray rfl rfl HR.out (by kernel_rfl) (dl_one _) ?_
  clear k0 z0 k1 z1 c0 xt HR
  obtain ⟨w2, hw2⟩ : ∃ w2, w1.drew.setCells nb (x * 8) (dl (nnd T (tup tx))) = w2 := ⟨_, rfl⟩
  change wpList _ _ _ _ _ (w1.drew.setCells nb (x * 8) (dl (nnd T (tup tx))))
  rw [hw2] at HS HGA ⊢
  have HN3 : Hid (w2.heap[W.heap.size]? = some (.cells #[.int .i64 T, .int .i64 0] 175) ∧ w2.heap[W.heap.size + 1]? = some (.cells #[.int .i64 0, .int .i64 0] 171)) := by
    rw [← hw2]
    exact Lib.hid ⟨(World.heap_setCells_other w1.drew nb _ _ (Array.getElem?_eq_some_iff.1 HN.out.1).1 (by omega)).trans HN.out.1, (World.heap_setCells_other w1.drew nb _ _ (Array.getElem?_eq_some_iff.1 HN.out.2).1 (by omega)).trans HN.out.2⟩
  clear hw2 HN
  have hT := HS.out
  have c1 := hT.c1
  have c2 := hT.c2
  have zt2 := hT.zt 2
  have hSn : (S0.setn x (nnd T (tup tx))).n = ps.length := HP.out.1.n.trans HTI.out.n
  rw [hSn] at c2
  have hroot : (S0.setn x (nnd T (tup tx))).root = S.root := HP.out.1.root
  rw [hroot] at c1
  obtain ⟨rt, hrt⟩ : ∃ rt, S.root = rt := ⟨_, rfl⟩
  rw [hrt] at c1
  have HRT := Lib.hid hrt
  have HTB : Hid (TR tp nb (S0.born x T (tup tx)) (w2.setCell ⟨tp, 2, none⟩ (.int .i64 ((ps.length : Int) + 1)))) := by
    have h := tr_n hT (ps.length + 1)
    have e : S0.born x T (tup tx) = { S0.setn x (nnd T (tup tx)) with n := ps.length + 1 } := by
      unfold TS.born
      rw [HP.out.1.n, HTI.out.n]
    rw [e]
    exact Lib.hid h
  have HGB := Lib.hid (g2_t HGA.out 2 (.int .i64 ((ps.length : Int) + 1)))
  have HN4 : Hid ((w2.setCell ⟨tp, 2, none⟩ (.int .i64 ((ps.length : Int) + 1))).heap[W.heap.size]? = some (.cells #[.int .i64 T, .int .i64 0] 175) ∧ (w2.setCell ⟨tp, 2, none⟩ (.int .i64 ((ps.length : Int) + 1))).heap[W.heap.size + 1]? = some (.cells #[.int .i64 0, .int .i64 0] 171)) :=
    Lib.hid ⟨(Below.heap_setCell _ _ _ _ (by exact e1')).trans HN3.out.1, (Below.heap_setCell _ _ _ _ (by exact e3')).trans HN3.out.2⟩
  clear hT hSn hroot hrt HS HGA HN3
  have HLI : Hid (∃ t h', LI (S0.born x T (tup tx)) T ps t [] rt 0 h') := by
    obtain ⟨t, h', hL⟩ := li_start T (wt_born (T := T) (tu := tup tx) HTI.out HP.out.1)
    have e : (S0.born x T (tup tx)).root = rt := HP.out.1.root.trans HRT.out
    rw [e] at hL
    exact Lib.hid ⟨t, h', hL⟩
  have HSO := Lib.hid (so_born (T := T) (tu := tup tx) HTI.out HP.out.1)
  have HOK := Lib.hid (ok_born HP.out.1.ok x T (tup tx))
  have HTK : Hid (∀ j ∈ ps, ((S0.born x T (tup tx)).N j).q = 0) := Lib.hid fun j hj => by
    have nj : j ≠ x := fun e => HP.out.1.xp (e ▸ hj)
    rw [born_ne nj, HP.out.1.N]
    exact (HTI.out.tk j hj).2
  have HXN : Hid ((S0.born x T (tup tx)).N x = nnd T (tup tx)) := Lib.hid born_at
  have hl1 : (S0.born x T (tup tx)).len = S0.len := rfl
  have HZ0 : Hid (((S0.born x T (tup tx)).N 0).red = false) := by
    have : (0 : Nat) ≠ x := by have := HP.out.1.x0; omega
    rw [born_ne this, HP.out.1.N, HTI.out.z0]
    exact Lib.hid rfl
  obtain ⟨S1, hS1⟩ : ∃ S1, S0.born x T (tup tx) = S1 := ⟨_, rfl⟩
  rw [hS1] at HLI HSO HOK HTK HXN hl1 HZ0 HTB
  have HS1 := Lib.hid hS1
  have HL1 := Lib.hid hl1
  have hx1 : x < S1.len := by rw [hl1]; exact hxl
  clear hS1 hl1
  go_wp2_with fail
  obtain ⟨w3, hw3⟩ : ∃ w3, w2.setCell ⟨tp, 2, none⟩ (.int .i64 ((ps.length : Int) + 1)) = w3 := ⟨_, rfl⟩
  obtain ⟨t0, h0, hL0⟩ := HLI.out
  obtain ⟨n0, hn0⟩ : ∃ n0, t0.ps.length = n0 := ⟨_, rfl⟩
  have HJ : Hid ((fun (t : Sh) (k : Cx) (y u h' : Nat) (w : World) => LI S1 T ps t k y u h' ∧ TR tp nb S1 w ∧ G2 tp nb W w ∧ w.heap[W.heap.size]? = some (.cells #[.int .i64 T, .int .i64 0] 175) ∧ w.heap[W.heap.size + 1]? = some (.cells #[.int .i64 0, .int .i64 0] 171)) t0 [] rt 0 h0 w3) := by
    rw [← hw3]
    exact Lib.hid ⟨hL0, HTB.out, HGB.out, HN4.out.1, HN4.out.2⟩
  obtain ⟨J, hJ⟩ : ∃ J : Sh → Cx → Nat → Nat → Nat → World → Prop, J = (fun (t : Sh) (k : Cx) (y u h' : Nat) (w : World) => LI S1 T ps t k y u h' ∧ TR tp nb S1 w ∧ G2 tp nb W w ∧ w.heap[W.heap.size]? = some (.cells #[.int .i64 T, .int .i64 0] 175) ∧ w.heap[W.heap.size + 1]? = some (.cells #[.int .i64 0, .int .i64 0] 171)) := ⟨_, rfl⟩
  rw [← hJ] at HJ
  have HJ' := Lib.hid hJ
  have HN0 := Lib.hid hn0
  rw [hw3]
  clear hw3 hJ hL0 hn0 HTB HGB HN4 HLI c1 c2 zt2
  go_loopg [7, 8, 9] n0 (fun g s7 s8 s9 wr => ∃ (t : Sh) (k : Cx) (y u h' : Nat), Hid (J t k y u h' wr) ∧ Hid (g = t.ps.length) ∧ s7 = .int .i64 u ∧ s8 = .bool (dir k) ∧ s9 = .int .i64 y)
  case atStart => exact ⟨t0, [], rt, 0, h0, HJ, Lib.hid HN0.out.symm, rfl, rfl, rfl⟩
  case round =>
    obtain ⟨t, k, y, u, h', HJR, HM, rfl, rfl, rfl⟩ := hrel
    have hJR := HJR.out
    rw [HJ'.out] at hJR
    obtain ⟨hLI, hT, hG, hb1, hb2⟩ := hJR
    cases t with
    | e =>
      obtain rfl : y = 0 := hLI.z.rt
      obtain ⟨hMI, hN0, hul⟩ := mi_put hLI HOK.out HP.out.1.x0 hx1 HP.out.1.xp (by rw [HXN.out]; rfl) (by rw [HXN.out]; rfl) (by rw [HXN.out]; rfl)
      have hc0 := hT.c0
      have hln1 := hT.ln
      obtain ⟨-, xu, -⟩ := tr_node hT hx1
      have zx := hT.zn (x * 8 + 4)
      have HTU := Lib.hid (tr_u hT x u)
      have HGU := Lib.hid (g2_n hG (x * 8 + 4) (.int .i64 u))
      have HB1 : Hid ((wr.setCell ⟨nb, x * 8 + 4, none⟩ (.int .i64 u)).heap[W.heap.size]? = some (.cells #[.int .i64 T, .int .i64 0] 175) ∧ (wr.setCell ⟨nb, x * 8 + 4, none⟩ (.int .i64 u)).heap[W.heap.size + 1]? = some (.cells #[.int .i64 0, .int .i64 0] 171)) :=
        Lib.hid ⟨(Below.heap_setCell _ _ _ _ (by exact e2')).trans hb1, (Below.heap_setCell _ _ _ _ (by exact e4')).trans hb2⟩
      have HEND : Hid (∀ (w' : World) (S' : TS), TR tp nb S' w' → G2 tp nb W w' → KS (S1.put x u (dir k)) S' → WT S' (lps k ++ x :: rps k) → S'.N 0 = (S1.put x u (dir k)).N 0 →
          ∃ (x' : Nat) (S' : TS) (A B fs' : List Nat), Ending.returned (.tuple #[.agg #[.int .i64 x, .int .i64 (tup tx)], .int .i64 0]) = .returned (.tuple #[.agg #[.int .i64 x', .int .i64 (S'.N x').turn], .int .i64 0]) ∧ TR tp nb S' w' ∧ G2 tp nb W w' ∧ A ++ B = ps ∧ (∀ a ∈ A, (S.N a).t ≤ T) ∧ (∀ b ∈ B, T < (S.N b).t) ∧ TI S' (A ++ x' :: B) fs' ∧ (S'.N x').t = T ∧ x' ∉ ps ∧ ∀ j, j ≠ x' → (S'.N j).key = (S.N j).key) := by
        refine Lib.hid fun w' S' hT' hG' hks hwt h0' => ?_
        have hAB : lps k ++ rps k = ps := by have := hLI.ord; simpa [Sh.ps] using this
        have hup : u = 0 ∨ u ∈ ps := by
          rcases repc_up hLI.z.rk with ⟨e, _⟩ | ⟨_, e⟩
          · exact .inl e
          · rw [← hAB]; right; rcases e with e | e <;> simp [e]
        rw [hN0] at h0'
        rw [← HS1.out] at hks h0'
        have hlo := hLI.lo
        have hhi := hLI.hi
        rw [← HS1.out] at hlo hhi
        obtain ⟨t1, t2, t3, t4⟩ := ti_put (d := dir k) HTI.out HP.out.1 (tup_in tx) hAB hlo hhi hup hks hwt h0'
        have hb : ∀ j ∈ ps, ((S0.born x T (tup tx)).N j).t = (S.N j).t := fun j hj => by
          have nj : j ≠ x := fun e => HP.out.1.xp (e ▸ hj)
          rw [born_ne nj, HP.out.1.N]
        refine ⟨x, S', lps k, rps k, fs', by rw [t3], hT', hG', hAB, fun a ha => ?_, fun b hb' => ?_, t1, t2, HP.out.1.xp, t4⟩
        · rw [← hb a (by rw [← hAB]; simp [ha])]; exact hlo a ha
        · rw [← hb b (by rw [← hAB]; simp [hb'])]; exact hhi b hb'
      have HZP : Hid (((S1.put x u (dir k)).N 0).red = false) := Lib.hid (by rw [hN0]; exact HZ0.out)
      have HMI := Lib.hid hMI
      have HXT : Hid (∀ S', KS (S1.put x u (dir k)) S' → (S'.N x).turn = tup tx ∧ x < S'.len) := Lib.hid fun S' hks => by
        have h1 := (hks.key x).trans key_put
        rw [HXN.out] at h1
        simp only [Nd.key, Prod.mk.injEq] at h1
        refine ⟨h1.2.2.2, ?_⟩
        rw [hks.len, (put_same (S := S1) (x := x) (u := u) (d := dir k)).1]
        exact hx1
      have HKP := Lib.hid (fun (e : u = 0) => (show S1.put x u (dir k) = { S1.setu x u with root := x } by unfold TS.put; rw [if_pos e]))
      have HKQ := Lib.hid (fun (e : ¬ u = 0) => (show S1.put x u (dir k) = (S1.setu x u).setch u (dir k) x by unfold TS.put; rw [if_neg e]))
      have c1 := hT.c1
      have z1 := hT.zt 1
      have hnt : ¬ nb = tp := Ne.symm hT.ne
      obtain ⟨⟨-, -, uc2, uc3⟩, -⟩ := tr_node hT hul
      have uz2 := hT.zn (u * 8 + 2)
      have uz3 := hT.zn (u * 8 + 3)
      have hnt2 : ¬ tp = nb := hT.ne
      clear hLI hT hG hb1 hb2 hMI hN0 HJR
      by_cases hu0 : u = 0
      · have hub : ((u : Int) == 0) = true := by simpa using hu0
        have hui : (u : Int) = 0 := by omega
        have HTP : Hid (TR tp nb (S1.put x u (dir k)) ((wr.setCell ⟨nb, x * 8 + 4, none⟩ (.int .i64 u)).setCell ⟨tp, 1, none⟩ (.int .i64 x))) := by
          rw [HKP.out hu0]
          exact Lib.hid (tr_root HTU.out x)
        have HGP := Lib.hid (g2_t HGU.out 1 (.int .i64 x))
        have HC := Lib.hid (mend_at _ HTP.out HMI.out HZP.out)
        have HB2 : Hid (((wr.setCell ⟨nb, x * 8 + 4, none⟩ (.int .i64 u)).setCell ⟨tp, 1, none⟩ (.int .i64 x)).heap[W.heap.size]? = some (.cells #[.int .i64 T, .int .i64 0] 175) ∧ ((wr.setCell ⟨nb, x * 8 + 4, none⟩ (.int .i64 u)).setCell ⟨tp, 1, none⟩ (.int .i64 x)).heap[W.heap.size + 1]? = some (.cells #[.int .i64 0, .int .i64 0] 171)) :=
          Lib.hid ⟨(Below.heap_setCell _ _ _ _ (by exact e1')).trans HB1.out.1, (Below.heap_setCell _ _ _ _ (by exact e3')).trans HB1.out.2⟩
        clear HB1 HTU HGU HTP HKP HKQ
        subst hu0
        obtain ⟨w6, hw6⟩ : ∃ w6, (wr.setCell ⟨nb, x * 8 + 4, none⟩ (.int .i64 (0 : Nat))).setCell ⟨tp, 1, none⟩ (.int .i64 x) = w6 := ⟨_, rfl⟩
        rw [hw6] at HGP HC HB2
        have HW6 := Lib.hid hw6
        clear hw6
        go_wp2_with (first
          | (go_at_call 119; change Calls _ _ _ ((wr.setCell ⟨nb, x * 8 + 4, none⟩ (.int .i64 (0 : Nat))).setCell ⟨tp, 1, none⟩ (.int .i64 x)) _; rw [HW6.out]; refine (HC.out).mono ?_; clear HC c1 z1 xu zx; rintro e w7 ⟨rfl, S', hT', hG', hks, hwt, h0'⟩; have HCH := Lib.hid (handle_at x w7 hT' (HXT.out S' hks).2); rw [(HXT.out S' hks).1] at HCH; have HE7 := Lib.hid (And.intro hT' (And.intro (g2_trans HGP.out hG') (And.intro hks (And.intro hwt h0')))); have hb7 := (hG'.block (W.heap.size + 1) (Array.getElem?_eq_some_iff.1 HB2.out.2).1 (by exact e3') (by exact e4')).trans HB2.out.2; have HB7 := Lib.hid hb7; obtain ⟨⟨k0, z0⟩, k1, z1⟩ := And.intro (cell_of hb7 0 _ rfl) (cell_of hb7 1 _ rfl); clear hT' hG' hks hwt h0' hb7)
          | (go_at_call 120; unfold hnd at HCH; rw [if_neg HP.out.1.x0] at HCH; refine (HCH.out).mono ?_; clear HCH k0 z0 k1 z1; rintro e w8 ⟨rfl, hB⟩; have hb8 := (hB.block (W.heap.size + 1) (Array.getElem?_eq_some_iff.1 HB7.out).1).trans HB7.out; have hs8 := (Array.getElem?_eq_some_iff.1 hb8).1; have hne8 : ¬ W.heap.size + 1 = w8.heap.size := (by omega); have HB8 := Lib.hid hb8; have HBB := Lib.hid hB; obtain ⟨⟨k0, z0⟩, k1, z1⟩ := And.intro (cell_of hb8 0 _ rfl) (cell_of hb8 1 _ rfl); clear hb8 hB)
          | fail)
        have HT8 := tr_cell (tr_cell (tr_below HE7.out.1 HBB.out) (p := ⟨W.heap.size + 1, 0, none⟩) (by exact e3') (by exact e4') (.int .i64 x)) (p := ⟨W.heap.size + 1, 1, none⟩) (by exact e3') (by exact e4') (.int .i64 (tup tx))
        have HG8 := g2_set (g2_set (g2_trans HE7.out.2.1 (g2_below HBB.out)) (p := ⟨W.heap.size + 1, 0, none⟩) (.inr (.inr (by simp))) (.int .i64 x)) (p := ⟨W.heap.size + 1, 1, none⟩) (.inr (.inr (by simp))) (.int .i64 (tup tx))
        exact bodyPost_ret (results_cell_row_tmp Tryz.results96 _ _ (W.heap.size + 1) 171 _ (0, 0) _ rfl ((Below.heap_alloc _ _ (W.heap.size + 1) (by rw [size_set, size_set]; exact hs8)).trans (set2 HB8.out _ _)) Tryz.underlying171 rfl (by kernel_rfl)) rfl (HEND.out _ S' (tr_alloc HT8 _) (g2_alloc HG8 _) HE7.out.2.2.1 HE7.out.2.2.2.1 HE7.out.2.2.2.2)
      · have hub : ((u : Int) == 0) = false := by simp; omega
        have hui : ¬ (u : Int) = 0 := by omega
        have hul1 : u < (S1.setu x u).len := hul
        cases hd : dir k
        · have HTP : Hid (TR tp nb (S1.put x u (dir k)) ((wr.setCell ⟨nb, x * 8 + 4, none⟩ (.int .i64 u)).setCell ⟨nb, u * 8 + 2, none⟩ (.int .i64 x))) := by
            rw [HKQ.out hu0, hd]
            exact Lib.hid (tr_l HTU.out u x)
          have HGP := Lib.hid (g2_n HGU.out (u * 8 + 2) (.int .i64 x))
          have HC := Lib.hid (mend_at _ HTP.out HMI.out HZP.out)
          have HB2 : Hid (((wr.setCell ⟨nb, x * 8 + 4, none⟩ (.int .i64 u)).setCell ⟨nb, u * 8 + 2, none⟩ (.int .i64 x)).heap[W.heap.size]? = some (.cells #[.int .i64 T, .int .i64 0] 175) ∧ ((wr.setCell ⟨nb, x * 8 + 4, none⟩ (.int .i64 u)).setCell ⟨nb, u * 8 + 2, none⟩ (.int .i64 x)).heap[W.heap.size + 1]? = some (.cells #[.int .i64 0, .int .i64 0] 171)) :=
            Lib.hid ⟨(Below.heap_setCell _ _ _ _ (by exact e2')).trans HB1.out.1, (Below.heap_setCell _ _ _ _ (by exact e4')).trans HB1.out.2⟩
          have C2 := Lib.hid (child_l HTU.out u hul1)
          have n1 : ¬ x * 8 + 4 = u * 8 + 2 := by omega
          have n2 : ¬ u * 8 + 2 = x * 8 + 4 := by omega
          clear HB1 HTU HGU HTP HKP HKQ hd
          obtain ⟨w6, hw6⟩ : ∃ w6, (wr.setCell ⟨nb, x * 8 + 4, none⟩ (.int .i64 u)).setCell ⟨nb, u * 8 + 2, none⟩ (.int .i64 x) = w6 := ⟨_, rfl⟩
          rw [hw6] at HGP HC HB2
          have HW6 := Lib.hid hw6
          clear hw6
          go_wp2_with (first
            | (go_at_call 117; refine (C2.out).mono ?_; clear C2; rintro e w5 ⟨rfl, rfl⟩)
            | (go_at_call 119; change Calls _ _ _ ((wr.setCell ⟨nb, x * 8 + 4, none⟩ (.int .i64 u)).setCell ⟨nb, u * 8 + 2, none⟩ (.int .i64 x)) _; rw [HW6.out]; refine (HC.out).mono ?_; clear HC xu zx uc2 uc3 uz2 uz3; rintro e w7 ⟨rfl, S', hT', hG', hks, hwt, h0'⟩; have HCH := Lib.hid (handle_at x w7 hT' (HXT.out S' hks).2); rw [(HXT.out S' hks).1] at HCH; have HE7 := Lib.hid (And.intro hT' (And.intro (g2_trans HGP.out hG') (And.intro hks (And.intro hwt h0')))); have hb7 := (hG'.block (W.heap.size + 1) (Array.getElem?_eq_some_iff.1 HB2.out.2).1 (by exact e3') (by exact e4')).trans HB2.out.2; have HB7 := Lib.hid hb7; obtain ⟨⟨k0, z0⟩, k1, z1⟩ := And.intro (cell_of hb7 0 _ rfl) (cell_of hb7 1 _ rfl); clear hT' hG' hks hwt h0' hb7)
            | (go_at_call 120; unfold hnd at HCH; rw [if_neg HP.out.1.x0] at HCH; refine (HCH.out).mono ?_; clear HCH k0 z0 k1 z1; rintro e w8 ⟨rfl, hB⟩; have hb8 := (hB.block (W.heap.size + 1) (Array.getElem?_eq_some_iff.1 HB7.out).1).trans HB7.out; have hs8 := (Array.getElem?_eq_some_iff.1 hb8).1; have hne8 : ¬ W.heap.size + 1 = w8.heap.size := (by omega); have HB8 := Lib.hid hb8; have HBB := Lib.hid hB; obtain ⟨⟨k0, z0⟩, k1, z1⟩ := And.intro (cell_of hb8 0 _ rfl) (cell_of hb8 1 _ rfl); clear hb8 hB)
            | fail)
          have HT8 := tr_cell (tr_cell (tr_below HE7.out.1 HBB.out) (p := ⟨W.heap.size + 1, 0, none⟩) (by exact e3') (by exact e4') (.int .i64 x)) (p := ⟨W.heap.size + 1, 1, none⟩) (by exact e3') (by exact e4') (.int .i64 (tup tx))
          have HG8 := g2_set (g2_set (g2_trans HE7.out.2.1 (g2_below HBB.out)) (p := ⟨W.heap.size + 1, 0, none⟩) (.inr (.inr (by simp))) (.int .i64 x)) (p := ⟨W.heap.size + 1, 1, none⟩) (.inr (.inr (by simp))) (.int .i64 (tup tx))
          exact bodyPost_ret (results_cell_row_tmp Tryz.results96 _ _ (W.heap.size + 1) 171 _ (0, 0) _ rfl ((Below.heap_alloc _ _ (W.heap.size + 1) (by rw [size_set, size_set]; exact hs8)).trans (set2 HB8.out _ _)) Tryz.underlying171 rfl (by kernel_rfl)) rfl (HEND.out _ S' (tr_alloc HT8 _) (g2_alloc HG8 _) HE7.out.2.2.1 HE7.out.2.2.2.1 HE7.out.2.2.2.2)
        · have HTP : Hid (TR tp nb (S1.put x u (dir k)) ((wr.setCell ⟨nb, x * 8 + 4, none⟩ (.int .i64 u)).setCell ⟨nb, u * 8 + 3, none⟩ (.int .i64 x))) := by
            rw [HKQ.out hu0, hd]
            exact Lib.hid (tr_r HTU.out u x)
          have HGP := Lib.hid (g2_n HGU.out (u * 8 + 3) (.int .i64 x))
          have HC := Lib.hid (mend_at _ HTP.out HMI.out HZP.out)
          have HB2 : Hid (((wr.setCell ⟨nb, x * 8 + 4, none⟩ (.int .i64 u)).setCell ⟨nb, u * 8 + 3, none⟩ (.int .i64 x)).heap[W.heap.size]? = some (.cells #[.int .i64 T, .int .i64 0] 175) ∧ ((wr.setCell ⟨nb, x * 8 + 4, none⟩ (.int .i64 u)).setCell ⟨nb, u * 8 + 3, none⟩ (.int .i64 x)).heap[W.heap.size + 1]? = some (.cells #[.int .i64 0, .int .i64 0] 171)) :=
            Lib.hid ⟨(Below.heap_setCell _ _ _ _ (by exact e2')).trans HB1.out.1, (Below.heap_setCell _ _ _ _ (by exact e4')).trans HB1.out.2⟩
          have C2 := Lib.hid (child_r HTU.out u hul1)
          have n1 : ¬ x * 8 + 4 = u * 8 + 3 := by omega
          have n2 : ¬ u * 8 + 3 = x * 8 + 4 := by omega
          clear HB1 HTU HGU HTP HKP HKQ hd
          obtain ⟨w6, hw6⟩ : ∃ w6, (wr.setCell ⟨nb, x * 8 + 4, none⟩ (.int .i64 u)).setCell ⟨nb, u * 8 + 3, none⟩ (.int .i64 x) = w6 := ⟨_, rfl⟩
          rw [hw6] at HGP HC HB2
          have HW6 := Lib.hid hw6
          clear hw6
          go_wp2_with (first
            | (go_at_call 117; refine (C2.out).mono ?_; clear C2; rintro e w5 ⟨rfl, rfl⟩)
            | (go_at_call 119; change Calls _ _ _ ((wr.setCell ⟨nb, x * 8 + 4, none⟩ (.int .i64 u)).setCell ⟨nb, u * 8 + 3, none⟩ (.int .i64 x)) _; rw [HW6.out]; refine (HC.out).mono ?_; clear HC xu zx uc2 uc3 uz2 uz3; rintro e w7 ⟨rfl, S', hT', hG', hks, hwt, h0'⟩; have HCH := Lib.hid (handle_at x w7 hT' (HXT.out S' hks).2); rw [(HXT.out S' hks).1] at HCH; have HE7 := Lib.hid (And.intro hT' (And.intro (g2_trans HGP.out hG') (And.intro hks (And.intro hwt h0')))); have hb7 := (hG'.block (W.heap.size + 1) (Array.getElem?_eq_some_iff.1 HB2.out.2).1 (by exact e3') (by exact e4')).trans HB2.out.2; have HB7 := Lib.hid hb7; obtain ⟨⟨k0, z0⟩, k1, z1⟩ := And.intro (cell_of hb7 0 _ rfl) (cell_of hb7 1 _ rfl); clear hT' hG' hks hwt h0' hb7)
            | (go_at_call 120; unfold hnd at HCH; rw [if_neg HP.out.1.x0] at HCH; refine (HCH.out).mono ?_; clear HCH k0 z0 k1 z1; rintro e w8 ⟨rfl, hB⟩; have hb8 := (hB.block (W.heap.size + 1) (Array.getElem?_eq_some_iff.1 HB7.out).1).trans HB7.out; have hs8 := (Array.getElem?_eq_some_iff.1 hb8).1; have hne8 : ¬ W.heap.size + 1 = w8.heap.size := (by omega); have HB8 := Lib.hid hb8; have HBB := Lib.hid hB; obtain ⟨⟨k0, z0⟩, k1, z1⟩ := And.intro (cell_of hb8 0 _ rfl) (cell_of hb8 1 _ rfl); clear hb8 hB)
            | fail)
          have HT8 := tr_cell (tr_cell (tr_below HE7.out.1 HBB.out) (p := ⟨W.heap.size + 1, 0, none⟩) (by exact e3') (by exact e4') (.int .i64 x)) (p := ⟨W.heap.size + 1, 1, none⟩) (by exact e3') (by exact e4') (.int .i64 (tup tx))
          have HG8 := g2_set (g2_set (g2_trans HE7.out.2.1 (g2_below HBB.out)) (p := ⟨W.heap.size + 1, 0, none⟩) (.inr (.inr (by simp))) (.int .i64 x)) (p := ⟨W.heap.size + 1, 1, none⟩) (.inr (.inr (by simp))) (.int .i64 (tup tx))
          exact bodyPost_ret (results_cell_row_tmp Tryz.results96 _ _ (W.heap.size + 1) 171 _ (0, 0) _ rfl ((Below.heap_alloc _ _ (W.heap.size + 1) (by rw [size_set, size_set]; exact hs8)).trans (set2 HB8.out _ _)) Tryz.underlying171 rfl (by kernel_rfl)) rfl (HEND.out _ S' (tr_alloc HT8 _) (g2_alloc HG8 _) HE7.out.2.2.1 HE7.out.2.2.2.1 HE7.out.2.2.2.2)
    | n c l z r =>
      have hd := li_down hLI HSO.out
      obtain ⟨rfl, hz0, ⟨hr', dr⟩, ⟨hl', dl'⟩⟩ := hd
      have hyp : y ∈ ps := by rw [← hLI.ord]; simp [Sh.ps]
      have hyl : y < S1.len := (z_lt HOK.out hLI.z).2.1
      have hy0 : ¬ (y : Int) = 0 := by omega
      have hyb : ((y : Int) != 0) = true := by simpa using hy0
      have hy65 : S1.len ≤ 65 := hT.ln.2
      obtain ⟨⟨y0, y1, y2, y3⟩, -⟩ := tr_node hT hyl
      rw [HTK.out y hyp] at y1
      obtain ⟨ty, hty⟩ : ∃ ty, (S1.N y).t = ty := ⟨_, rfl⟩
      obtain ⟨yl, hyl'⟩ : ∃ yl, (S1.N y).l = yl := ⟨_, rfl⟩
      obtain ⟨yr, hyr'⟩ : ∃ yr, (S1.N y).r = yr := ⟨_, rfl⟩
      rw [hty] at y0 dr dl'
      rw [hyl'] at y2 dl'
      rw [hyr'] at y3 dr
      have c0 := hT.c0
      obtain ⟨⟨k0, z0⟩, k1, z1⟩ := And.intro (cell_of hb1 0 _ rfl) (cell_of hb1 1 _ rfl)
      have C := Lib.hid (fun w => order_at T 0 ty 0 w)
      have HV := Lib.hid (ordv_0 (a := T) (b := ty) rfl)
      obtain ⟨v, hv⟩ : ∃ v, ordv T 0 ty 0 = v := ⟨_, rfl⟩
      rw [hv] at C HV
      have hs1 := (Array.getElem?_eq_some_iff.1 hb1).1
      have hs2 := hT.lt.1
      have hs3 := hT.lt.2
      clear hv hty hyl' hyr' z0 z1
      go_wp2_with fail
      go_region_held3 (fun w => w.cell? ⟨W.heap.size, 0, none⟩ = some (.int .i64 T) ∧ w.cell? ⟨W.heap.size, 1, none⟩ = some (.int .i64 0) ∧ w.cell? ⟨tp, 0, none⟩ = some (.slice (some ⟨nb, 0, none⟩) S1.len 65) ∧ w.cell? ⟨nb, y * 8, none⟩ = some (.int .i64 ty) ∧ w.cell? ⟨nb, y * 8 + 1, none⟩ = some (.int .i64 0)) (first | exact ⟨k0, k1, c0, y0, y1⟩ | assumption | (go_keep; done)) (first | (go_simp; go_at_call 118; refine (C.out _).mono ?_; rintro e w4 ⟨rfl, hB⟩; have HB4 := Lib.hid hB; have q0 := (World.cell?_of_block (a := ⟨W.heap.size, 0, none⟩) (hB.block _ hs1)).trans k0; have q1 := (World.cell?_of_block (a := ⟨W.heap.size, 1, none⟩) (hB.block _ hs1)).trans k1; have qc := (World.cell?_of_block (a := ⟨tp, 0, none⟩) (hB.block _ hs2)).trans c0; have qy := (World.cell?_of_block (a := ⟨nb, y * 8, none⟩) (hB.block _ hs3)).trans y0; have qz := (World.cell?_of_block (a := ⟨nb, y * 8 + 1, none⟩) (hB.block _ hs3)).trans y1; clear hB) | fail)
      all_goals
        have q2 := (World.cell?_of_block (a := ⟨nb, y * 8 + 2, none⟩) (HB4.out.block _ hs3)).trans y2
        have q3 := (World.cell?_of_block (a := ⟨nb, y * 8 + 3, none⟩) (HB4.out.block _ hs3)).trans y3
        have HT4 := Lib.hid (tr_below (tr_drew hT) HB4.out)
        have HG4 := Lib.hid (g2_trans (g2_drew hG) (g2_below HB4.out))
        have HB1 := Lib.hid ((HB4.out.block _ hs1).trans hb1)
        have HB2 := Lib.hid ((HB4.out.block _ (Array.getElem?_eq_some_iff.1 hb2).1).trans hb2)
        have HM2 : Hid (g2_num (Sh.n c l y r) l r) := Lib.hid ⟨by simp [Sh.ps], by simp [Sh.ps]; omega⟩
        have HDR := Lib.hid dr
        clear hLI hT hG hb1 hb2 y0 y1 y2 y3 c0 k0 k1 C q0 q1 qc qy qz HB4 dr HJR
        by_cases e : ty ≤ T
        · have h0v : 0 ≤ v := HV.out.2 e
          have C2 := Lib.hid (child_r HT4.out y hyl)
          go_wp2_with (first | (go_at_call 117; refine (C2.out).mono ?_; clear C2; rintro e w5 ⟨rfl, rfl⟩) | fail)
          have HR2 : Hid (J r (⟨true, c, y, l⟩ :: k) yr y hr' w5) := by
            rw [HJ'.out]
            exact Lib.hid ⟨HDR.out e, HT4.out, HG4.out, HB1.out, HB2.out⟩
          go_roundg r.ps.length
          case measure => rw [HM.out]; exact HM2.out.2
          case rel => exact ⟨r, ⟨true, c, y, l⟩ :: k, yr, y, hr', HR2, Lib.hid rfl, rfl, rfl, rfl⟩
        · have h0v : ¬ 0 ≤ v := fun h => e (HV.out.1 h)
          have h0w : v < 0 := by omega
          have hdf : decide (0 ≤ v) = false := decide_eq_false h0v
          have C2 := Lib.hid (child_l HT4.out y hyl)
          go_wp2_with (first | (go_at_call 117; refine (C2.out).mono ?_; clear C2; rintro e w5 ⟨rfl, rfl⟩) | fail)
          have HR2 : Hid (J l (⟨false, c, y, r⟩ :: k) yl y hl' w5) := by
            rw [HJ'.out]
            exact Lib.hid ⟨dl' (by omega), HT4.out, HG4.out, HB1.out, HB2.out⟩
          go_roundg l.ps.length
          case measure => rw [HM.out]; exact HM2.out.1
          case rel => exact ⟨l, ⟨false, c, y, r⟩ :: k, yl, y, hl', HR2, Lib.hid rfl, rfl, rfl, rfl⟩
end Go.Proofs.YtlcaepcojglbiaaGreatDoor.Tp
namespace Go.Proofs.YtlcaepcojglbiaaGreatDoor.Tp
open Go.RowKit
set_option linter.unusedVariables false
set_option linter.unusedSimpArgs false
/-- A label behind other code. -/
theorem wp_goto2 {γ : Type} {P : Program} {a : Act} {w : World} {Q : Exit → Act → World → Prop} {c body : Code} (l : Nat) (J : γ → Act → World → Prop) (μ : γ → Nat) (hf : findLabel c l = some (Code.seq .skip body))
    (pass : ∀ g a w, J g a w → body.wp P (Exit.jump l (fun a' w' => ∃ g', J g' a' w' ∧ μ g' < μ g) Q) a w)
    (first : (∀ g a w, J g a w → body.wp P (Exit.jump l (fun a w => ∃ g, J g a w) Q) a w) → c.wp P (Exit.jump l (fun a w => ∃ g, J g a w) Q) a w) : (Code.scope c).wp P Q a w := by
  refine wp_scope_jumps l (fun a w => ∃ g, J g a w) (fun a w => leastOf fun n => ∃ g, J g a w ∧ μ g = n) hf (first ?_) ?_
  · intro g a w h0
    refine wp_mono (pass g a w h0) ?_
    intro e a1 w1 hq
    cases e with
    | goto l' => obtain ⟨rfl, g', hJ, _⟩ := hq; exact ⟨rfl, g', hJ⟩
    | normal => exact hq
    | exit id => exact hq
    | ret => exact hq
    | panic c => exact hq
    | outgrown => exact hq
  · rintro a1 w1 ⟨g1, hg1⟩
    obtain ⟨⟨g2, hg2, hm⟩, _⟩ := leastOf_spec (p := fun n => ∃ g, J g a1 w1 ∧ μ g = n) ⟨g1, hg1, rfl⟩
    refine wp_seq (wp_skip ?_)
    refine wp_mono (pass g2 a1 w1 hg2) ?_
    intro e a2 w2 hq
    cases e with
    | goto l' =>
      obtain ⟨rfl, g', hJ, hlt⟩ := hq
      refine ⟨rfl, ⟨g', hJ⟩, ?_⟩
      have := (leastOf_spec (p := fun n => ∃ g, J g a2 w2 ∧ μ g = n) ⟨g', hJ, rfl⟩).2
      omega
    | normal => exact hq
    | exit id => exact hq
    | ret => exact hq
    | panic c => exact hq
    | outgrown => exact hq
structure AG where
  t : Sh
  k : Cx
  x : Nat
  u : Nat
theorem up_side {S : TS} {f : Fr} {t : Sh} {k : Cx} {p u : Nat} (h : Z S t (f :: k) p u) (hp : p ≠ 0) : (f.side = true → (S.N f.x).r = p) ∧ (f.side = false → (S.N f.x).r ≠ p) := by
  obtain ⟨e, h0, _, hpp, hs, _⟩ := z_up h
  refine ⟨fun e => by rw [e] at hpp; exact hpp.symm, fun e hr => ?_⟩
  rw [e] at hs
  have hs : Rep S.N f.s (S.N f.x).r f.x := hs
  rw [hr] at hs
  have n3 := (nd_cx h.nd).2.2
  rcases rep_place hs with ⟨q, _⟩ | ⟨_, q, _⟩
  · exact hp q
  · rcases rep_place h.rt with ⟨q2, _⟩ | ⟨_, q2, _⟩
    · exact hp q2
    · exact n3 p q2 (by simp [rps, e, q])
set_option maxRecDepth 100000 in
set_option maxHeartbeats 4000000 in
/-- Up, as long as one comes from the right. -/
theorem after_up {tp nb : Nat} {S : TS} {t : Sh} {k : Cx} {x u : Nat} (W : World) (h : TR tp nb S W) (hk : S.ok) (hz : Z S t k x u) (hx0 : x ≠ 0) (hr : (S.N x).r = 0) : Calls Tryz.prog 139 #[ptr tp, .int .i64 x] W fun e W' => e = .returned (.int .i64 ((rps k).headD 0 : Nat)) ∧ W' = W := by
  have HT := Lib.hid h
  have HK := Lib.hid hk
  have hxl := (z_lt hk hz).2.1
  obtain ⟨⟨-, -, -, x3⟩, -⟩ := tr_node h hxl
  rw [hr] at x3
  have c0 := h.c0
  have hl := h.ln
  obtain ⟨lo, hlo⟩ : ∃ lo, (rps k).headD 0 = lo := ⟨_, rfl⟩
  rw [hlo]
  have HJ := Lib.hid (show Z S t k x u ∧ x ≠ 0 ∧ (rps k).headD 0 = lo from ⟨hz, hx0, hlo⟩)
  clear h hk hz hx0 hr hlo
  go_enter Tryz.func139, Tryz.ntmps139
  go_wp2
  refine wp_goto2 0 (fun (g : AG) a w => (w = W ∧ Hid (Z S g.t g.k g.x g.u ∧ g.x ≠ 0 ∧ (rps g.k).headD 0 = lo)) ∧ ∃ ts : List Value, ts.length = 47 ∧ a = { tmps := (ptr tp :: .int .i64 g.x :: ts).toArray, defers := [] }) (fun g => g.k.length) rfl ?_ ?_
  rotate_left
  · intro HL
    replace HL := Lib.hid HL
    go_wp2
    refine wp_label ?_
    rename_i hK
    exact hK _ _ (HL.out ⟨t, k, x, u⟩ _ _ ⟨⟨rfl, HJ⟩, _, by rfl, rfl⟩)
  clear HJ x3 hxl
  rintro ⟨t, k, x, u⟩ a w ⟨⟨rfl, HJ⟩, ts, hts, rfl⟩
  obtain ⟨v, hv⟩ : ∃ v : Nat → Value, ts = [v 0, v 1, v 2, v 3, v 4, v 5, v 6, v 7, v 8, v 9, v 10, v 11, v 12, v 13, v 14, v 15, v 16, v 17, v 18, v 19, v 20, v 21, v 22, v 23, v 24, v 25, v 26, v 27, v 28, v 29, v 30, v 31, v 32, v 33, v 34, v 35, v 36, v 37, v 38, v 39, v 40, v 41, v 42, v 43, v 44, v 45, v 46] := ⟨fun i => ts.getD i undef, (list_exp ts).trans (by rw [hts]; rfl)⟩
  subst hv
  clear hts
  dsimp only at HJ ⊢
  have hz : Z S t k x u := HJ.out.1
  have hx0 : x ≠ 0 := HJ.out.2.1
  have hlt := z_lt HK.out hz
  have hxl := hlt.2.1
  have hul := hlt.2.2
  have hxu : (S.N x).u = u := by
    rcases rep_place hz.rt with ⟨e, _⟩ | ⟨_, _, e⟩
    · exact absurd e hx0
    · exact e
  obtain ⟨-, xu, -⟩ := tr_node HT.out hxl
  rw [hxu] at xu
  cases k with
  | nil =>
    obtain rfl : u = 0 := hz.rk.2
    have HLO := Lib.hid (show 0 = lo from HJ.out.2.2)
    clear hz hx0 hlt hxu hul HJ
    go_wp2
    simp only [Exit.jump]
    go_ret
    exact ⟨show Ending.returned (.int .i64 ((0 : Nat) : Int)) = _ from by rw [HLO.out], rfl⟩
  | cons f k =>
    obtain ⟨e1, f0, -, -, -, hzu⟩ := z_up hz
    have hs := up_side hz hx0
    subst e1
    obtain ⟨⟨-, -, -, fr⟩, -⟩ := tr_node HT.out hul
    obtain ⟨fx, hfx⟩ : ∃ fx, f.x = fx := ⟨_, rfl⟩
    obtain ⟨rr, hrr⟩ : ∃ rr, (S.N f.x).r = rr := ⟨_, rfl⟩
    rw [hrr] at hs
    rw [hrr, hfx] at fr
    rw [hfx] at xu hul f0
    have i0 : ¬ (fx : Int) = 0 := by omega
    have ib : ((fx : Int) != 0) = true := by simpa using i0
    cases hsd : f.side with
    | true =>
      have e2 : rr = x := hs.1 hsd
      rw [e2] at fr
      have HJ2 : Hid (Z S (f.plug t) k fx (S.N f.x).u ∧ fx ≠ 0 ∧ (rps k).headD 0 = lo) := by
        rw [← hfx] at f0 ⊢
        refine Lib.hid ⟨hzu, f0, ?_⟩
        have := HJ.out.2.2
        simpa [rps, hsd] using this
      clear hz hx0 hlt hxu HJ hzu hs hrr hsd hfx e2
      go_wp2
      go_step3
      exact ⟨rfl, ⟨f.plug t, k, fx, _⟩, ⟨⟨rfl, HJ2⟩, _, rfl, rfl⟩, by show k.length < (f :: k).length; simp⟩
    | false =>
      have e2 : ¬ rr = x := hs.2 hsd
      have i2 : ¬ (x : Int) = (rr : Int) := by omega
      have ib2 : ((x : Int) == (rr : Int)) = false := by simpa using i2
      have HLO : Hid (fx = lo) := by
        have := HJ.out.2.2
        simp [rps, hsd] at this
        exact Lib.hid (hfx.symm.trans this)
      clear hz hx0 hlt hxu HJ hzu hs hrr hsd hfx
      go_wp2
      simp only [Exit.jump]
      go_ret
      exact ⟨show Ending.returned (.int .i64 (fx : Int)) = _ from by rw [HLO.out], rfl⟩
theorem low_ps : ∀ {t : Sh} (L : List Nat), t ≠ .e → (t.ps ++ L).headD 0 = t.low
  | .e, _, h => absurd rfl h
  | .n _ .e x _, _, _ => rfl
  | .n _ (.n c l y r) x r2, L, _ => by
    have h := low_ps (t := .n c l y r) (x :: (r2.ps ++ L)) (by simp)
    show (((Sh.n c l y r).ps ++ x :: r2.ps) ++ L).headD 0 = _
    rw [List.append_assoc]
    exact h
set_option maxRecDepth 100000 in
set_option maxHeartbeats 4000000 in
theorem after_right {tp nb : Nat} {S : TS} {t : Sh} {x : Nat} (W : World) (h : TR tp nb S W) (hk : S.ok) (ht : Rep S.N t (S.N x).r x) (hte : t ≠ .e) (hxl : x < S.len) : Calls Tryz.prog 139 #[ptr tp, .int .i64 x] W fun e W' => e = .returned (.int .i64 t.low) ∧ W' = W := by
  have hrl := (hk.2 x hxl).2.1
  have C := Lib.hid (most_at W h hk t _ _ ht hte hrl)
  obtain ⟨⟨-, -, -, x3⟩, -⟩ := tr_node h hxl
  have c0 := h.c0
  have hl := h.ln
  have hr0 : (S.N x).r ≠ 0 := by
    rcases rep_place ht with ⟨_, e⟩ | ⟨e, _⟩
    · exact absurd e hte
    · exact e
  obtain ⟨r, hr⟩ : ∃ r, (S.N x).r = r := ⟨_, rfl⟩
  rw [hr] at x3 C hr0
  have i0 : ¬ (r : Int) = 0 := by omega
  have ib : ((r : Int) != 0) = true := by simpa using i0
  clear h hk ht hte hr hrl
  go_enter Tryz.func139, Tryz.ntmps139
  go_wp2
  refine wp_goto2 0 (fun (g : Empty) a w => True) (fun g => 0) rfl (fun g => nomatch g) fun _ => ?_
  go_wp2_with (first | (go_at_call 135; refine (C.out).mono ?_; clear C; rintro e w1 ⟨rfl, rfl⟩) | fail)
  simp only [Exit.jump]
  go_ret
  exact ⟨rfl, rfl⟩
/-- The next place. -/
theorem after_at {tp nb : Nat} {S : TS} {ps A B : List Nat} {z : Nat} (W : World) (h : TR tp nb S W) (hk : S.ok) (hw : WT S ps) (hA : ps = A ++ z :: B) : Calls Tryz.prog 139 #[ptr tp, .int .i64 z] W fun e W' => e = .returned (.int .i64 (B.headD 0 : Nat)) ∧ W' = W := by
  obtain ⟨t0, h0', H0⟩ := ni_start hw
  have hz : z ∈ t0.ps := by
    have := H0.ord
    simp [lps, rps] at this
    rw [this, hA]; simp
  obtain ⟨c, l, r, k, u, hh, H⟩ := ni_find H0 hz
  have hzl : z < S.len := (z_lt hk H.z).2.1
  have hB : r.ps ++ rps k = B := by
    have h1 : (lps k ++ l.ps) ++ z :: (r.ps ++ rps k) = A ++ z :: B := by rw [← hA, ← H.ord]; simp [Sh.ps]
    have hnd : (A ++ z :: B).Nodup := by rw [← hA]; exact hw.nd
    have hnd2 := hnd
    rw [← h1] at hnd2
    have n1 := nd_n hnd
    have n2 := nd_n hnd2
    have key : ∀ {L R : List Nat}, z ∉ L → (L ++ z :: R).dropWhile (fun j => j != z) = z :: R := by
      intro L R hL
      induction L with
      | nil => simp
      | cons a L ih =>
        have ha : a ≠ z := fun e => hL (by simp [e])
        simp [ha]
        exact ih fun e => hL (by simp [e])
    have := congrArg (List.dropWhile (fun j => j != z)) h1
    rw [key n1.2.2.1, key n2.2.2.1] at this
    simpa using this
  subst hB
  by_cases er : r = .e
  · subst er
    have hr : (S.N z).r = 0 := H.z.rt.2.2.2.2.2
    exact after_up W h hk H.z H.z.rt.2.1 hr
  · rw [low_ps _ er]
    exact after_right W h hk H.z.rt.2.2.2.2.2 er hzl
end Go.Proofs.YtlcaepcojglbiaaGreatDoor.Tp
namespace Go.Proofs.YtlcaepcojglbiaaGreatDoor.Tp
open Go.RowKit
set_option linter.unusedVariables false
set_option linter.unusedSimpArgs false
theorem tfirst_at {tp nb : Nat} {S : TS} {ps fs : List Nat} (W : World) (h : TR tp nb S W) (ti : TI S ps fs) : Calls Tryz.prog 123 #[ptr tp] W fun e W' => e = .returned (hnd (ps.headD 0) (S.N (ps.headD 0)).turn) ∧ Below W.heap.size W W' := by
  obtain ⟨⟨w, h', hw, hb, hr, hp⟩, hn⟩ := ti.wt
  have := first_at W h ti.ok w hw
  rw [low_head, hp] at this
  exact this
set_option maxRecDepth 100000 in
set_option maxHeartbeats 4000000 in
theorem tnext_at {tp nb : Nat} {S : TS} {A B fs : List Nat} {z : Nat} (W : World) (h : TR tp nb S W) (ti : TI S (A ++ z :: B) fs) : Calls Tryz.prog 128 #[ptr tp, .agg #[.int .i64 z, .int .i64 (S.N z).turn]] W fun e W' => e = .returned (hnd (B.headD 0) (S.N (B.headD 0)).turn) ∧ Below W.heap.size W W' := by
  have hzb := ti.bd z (by simp)
  have hT1 := tr_alloc (tr_alloc h (.cells #[.int .i64 z, .int .i64 (S.N z).turn] 171)) (.cells #[.int .i64 0, .int .i64 0] 171)
  have C1 := Lib.hid (is_at z _ hT1 hzb.2 (by omega) (ti.tk z (by simp)).1)
  have C2 := Lib.hid (fun w (hT : TR tp nb S w) => after_at w hT ti.ok ti.wt rfl)
  have hbl : B.headD 0 < S.len := by
    cases B with
    | nil => show 0 < S.len; omega
    | cons b B => exact (ti.bd b (by simp)).2
  have C3 := Lib.hid (fun w (hT : TR tp nb S w) => handle_at (B.headD 0) w hT hbl)
  have HT1 := Lib.hid hT1
  obtain ⟨tu, htu⟩ : ∃ tu, (S.N z).turn = tu := ⟨_, rfl⟩
  rw [htu] at C1 HT1 ⊢
  have HA : Hid (((W.alloc (.cells #[.int .i64 z, .int .i64 tu] 171)).alloc (.cells #[.int .i64 0, .int .i64 0] 171)).heap[W.heap.size]? = some (.cells #[.int .i64 z, .int .i64 tu] 171) ∧ ((W.alloc (.cells #[.int .i64 z, .int .i64 tu] 171)).alloc (.cells #[.int .i64 0, .int .i64 0] 171)).heap[W.heap.size + 1]? = some (.cells #[.int .i64 0, .int .i64 0] 171)) := by
    refine Lib.hid ⟨(Below.heap_alloc _ _ W.heap.size (by simp)).trans (heap_alloc_new W _), ?_⟩
    have := heap_alloc_new (W.alloc (.cells #[.int .i64 z, .int .i64 tu] 171)) (.cells #[.int .i64 0, .int .i64 0] 171)
    rwa [show (W.alloc (.cells #[.int .i64 z, .int .i64 tu] 171)).heap.size = W.heap.size + 1 by simp] at this
  have HB0 := Lib.hid (((Below.refl W.heap.size W).alloc (Nat.le_refl _) (.cells #[.int .i64 z, .int .i64 tu] 171)).alloc (by simp) (.cells #[.int .i64 0, .int .i64 0] 171))
  obtain ⟨⟨k0, z0⟩, k1, z1⟩ := And.intro (cell_of HA.out.1 0 _ rfl) (cell_of HA.out.1 1 _ rfl)
  obtain ⟨b, hb⟩ : ∃ b, B.headD 0 = b := ⟨_, rfl⟩
  obtain ⟨tb, htb⟩ : ∃ tb, (S.N b).turn = tb := ⟨_, rfl⟩
  rw [hb] at C2 C3 ⊢
  rw [htb] at C3 ⊢
  unfold hnd at C3 ⊢
  clear h ti hT1 hzb htu hbl hb htb
  by_cases hb0 : b = 0
  · rw [if_pos hb0] at C3 ⊢
    subst hb0
    go_enter Tryz.func128, Tryz.ntmps128
    go_wp2_with (first
      | (go_at_call 124; refine (C1.out).mono ?_; clear C1; rintro e w1 ⟨rfl, hB⟩; have HT := Lib.hid (tr_below HT1.out hB); have HC2 := Lib.hid (C2.out w1 HT.out); have HC3 := Lib.hid (C3.out w1 HT.out); have hn := (hB.block W.heap.size (by simp; omega)).trans HA.out.1; have hn2 := (hB.block (W.heap.size + 1) (by simp)).trans HA.out.2; have HN := Lib.hid hn2; obtain ⟨⟨k0, z0⟩, k1, z1⟩ := And.intro (cell_of hn 0 _ rfl) (cell_of hn 1 _ rfl); have HB1 := Lib.hid (HB0.out.trans (hB.mono (by simp; omega))); clear hn hn2 hB)
      | (go_at_call 139; refine (HC2.out).mono ?_; clear HC2; rintro e w2 ⟨rfl, rfl⟩)
      | (go_at_call 120; refine (HC3.out).mono ?_; clear HC3; rintro e w3 ⟨rfl, hB⟩; have hn2 := (hB.block (W.heap.size + 1) (Array.getElem?_eq_some_iff.1 HN.out).1).trans HN.out; have HN3 := Lib.hid hn2; obtain ⟨⟨j0, y0⟩, j1, y1⟩ := And.intro (cell_of hn2 0 _ rfl) (cell_of hn2 1 _ rfl); have HB2 := Lib.hid (HB1.out.trans (hB.mono HB1.out.size)); clear hn2 hB)
      | fail)
    exact bodyPost_ret (results_cell_row_tmp Tryz.results128 _ _ (W.heap.size + 1) 171 _ (0, 0) _ rfl (set2 HN3.out _ _) Tryz.underlying171 rfl (by kernel_rfl)) rfl ⟨rfl, below_set (below_set HB2.out (by simp) _) (by simp) _⟩
  · rw [if_neg hb0] at C3 ⊢
    go_enter Tryz.func128, Tryz.ntmps128
    go_wp2_with (first
      | (go_at_call 124; refine (C1.out).mono ?_; clear C1; rintro e w1 ⟨rfl, hB⟩; have HT := Lib.hid (tr_below HT1.out hB); have HC2 := Lib.hid (C2.out w1 HT.out); have HC3 := Lib.hid (C3.out w1 HT.out); have hn := (hB.block W.heap.size (by simp; omega)).trans HA.out.1; have hn2 := (hB.block (W.heap.size + 1) (by simp)).trans HA.out.2; have HN := Lib.hid hn2; obtain ⟨⟨k0, z0⟩, k1, z1⟩ := And.intro (cell_of hn 0 _ rfl) (cell_of hn 1 _ rfl); have HB1 := Lib.hid (HB0.out.trans (hB.mono (by simp; omega))); clear hn hn2 hB)
      | (go_at_call 139; refine (HC2.out).mono ?_; clear HC2; rintro e w2 ⟨rfl, rfl⟩)
      | (go_at_call 120; refine (HC3.out).mono ?_; clear HC3; rintro e w3 ⟨rfl, hB⟩; have hn2 := (hB.block (W.heap.size + 1) (Array.getElem?_eq_some_iff.1 HN.out).1).trans HN.out; have HN3 := Lib.hid hn2; obtain ⟨⟨j0, y0⟩, j1, y1⟩ := And.intro (cell_of hn2 0 _ rfl) (cell_of hn2 1 _ rfl); have HB2 := Lib.hid (HB1.out.trans (hB.mono HB1.out.size)); clear hn2 hB)
      | fail)
    exact bodyPost_ret (results_cell_row_tmp Tryz.results128 _ _ (W.heap.size + 1) 171 _ (0, 0) _ rfl (set2 HN3.out _ _) Tryz.underlying171 rfl (by kernel_rfl)) rfl ⟨rfl, below_set (below_set HB2.out (by simp) _) (by simp) _⟩
end Go.Proofs.YtlcaepcojglbiaaGreatDoor.Tp
namespace Go.Proofs.YtlcaepcojglbiaaGreatDoor.Tp
open Go.RowKit
set_option linter.unusedVariables false
set_option linter.unusedSimpArgs false
theorem froz_of {W : World} {b t : Nat} {c : Array Value} (h : W.heap[b]? = some (.cells c t)) (j : Nat) : W.frozen? ⟨b, j, none⟩ = false := by simp [World.frozen?, h]
/-- A tree without nodes. -/
def ts0 : TS := ⟨fun _ => nd0, 1, 0, 0, 0⟩
theorem ti_0 : TI ts0 [] [] := by
  refine ⟨⟨by show 0 < 1; omega, fun i hi => ?_⟩, ⟨⟨.e, 0, rfl, rfl, rfl, rfl⟩, by simp⟩, rfl, rfl, by simp, by simp, rfl, rfl, by simp, fun _ _ => rfl, by simp, fun j => ?_, by show 1 ≤ 65; omega⟩
  · show 0 < 1 ∧ 0 < 1 ∧ 0 < 1
    omega
  · show -9223372036854775808 ≤ (0 : Int) ∧ (0 : Int) ≤ 9223372036854775807
    omega
theorem made_cell (i k : Nat) (hi : i < 65) (hk : k < 8) : (madeCells zc.toArray 520)[i * 8 + k]? = some (nd0.cell k) := by
  have h1 : i * 8 + k < 520 := by omega
  have h2 : (i * 8 + k) % 8 = k := by omega
  simp only [madeCells, Array.getElem?_map, Array.getElem?_range, h1, if_true, Option.map_some]
  show some (zc.toArray[(i * 8 + k) % 8]!) = _
  rw [h2]
  rcases (show k = 0 ∨ k = 1 ∨ k = 2 ∨ k = 3 ∨ k = 4 ∨ k = 5 ∨ k = 6 ∨ k = 7 by omega) with rfl | rfl | rfl | rfl | rfl | rfl | rfl | rfl <;> rfl
theorem info193z : (Tryz.prog.info? 193).map (fun i => (i.zero, i.size, i.bytes)) = some (some (.agg zc.toArray), 8, 56) := by kernel_rfl
theorem run_mk (W : World) : (Instr.makeSlice 167 (.int .i64 1) (.int .i64 65)).run Tryz.prog W = .ok (.slice (some ⟨W.heap.size, 0, none⟩) 1 65) (W.alloc (.cells (madeCells zc.toArray 520) 193)) := by
  obtain ⟨i, h1, h2⟩ := Option.map_eq_some_iff.1 info193z
  simp only [Prod.mk.injEq] at h2
  have := run_make (P := Tryz.prog) (w := W) 167 193 i _ Tryz.underlying167 h1 h2.1 .i64 .i64 1 65 (by omega) (by omega) (by rw [h2.2.2]; omega) (by omega)
  rw [h2.2.1] at this
  exact this
set_option maxRecDepth 100000 in
set_option maxHeartbeats 4000000 in
theorem tnew_at (W : World) : Calls Tryz.prog 69 #[.int .i64 64] W fun e W' => e = .returned (ptr (W.heap.size + 1)) ∧ TR (W.heap.size + 1) W.heap.size ts0 W' ∧ Below W.heap.size W W' := by
  have hmk := run_mk W
  have HC := Lib.hid made_cell
  obtain ⟨cs, hcs⟩ : ∃ cs, madeCells zc.toArray 520 = cs := ⟨_, rfl⟩
  rw [hcs] at hmk HC
  clear hcs
  go_enter Tryz.func69, Tryz.ntmps69
  go_wp2
  go_ret
  have hn := heap_alloc_new W (.cells cs 193)
  have hn2 := heap_alloc_new (W.alloc (.cells cs 193)) (.cells #[.slice (some ⟨W.heap.size, 0, none⟩) 1 65, .int .i64 0, .int .i64 0, .int .i64 0, .int .i64 64] 169)
  rw [show (W.alloc (.cells cs 193)).heap.size = W.heap.size + 1 by simp] at hn2
  have hn1 := (Below.heap_alloc (W.alloc (.cells cs 193)) (.cells #[.slice (some ⟨W.heap.size, 0, none⟩) 1 65, .int .i64 0, .int .i64 0, .int .i64 0, .int .i64 64] 169) W.heap.size (by simp)).trans hn
  refine ⟨rfl, ⟨(cell_of hn2 0 _ rfl).1, (cell_of hn2 1 _ rfl).1, (cell_of hn2 2 _ rfl).1, (cell_of hn2 3 _ rfl).1, (cell_of hn2 4 _ rfl).1, froz_of hn2, fun i hi k hk => (cell_of hn1 _ _ (HC.out i k hi hk)).1, froz_of hn1, by omega, by simp; omega, by show 1 ≤ 1 ∧ 1 ≤ 65; omega⟩, ((Below.refl W.heap.size W).alloc (Nat.le_refl _) _).alloc (by simp) _⟩
end Go.Proofs.YtlcaepcojglbiaaGreatDoor.Tp
