/- The base: what expires: a part of the walk of the whole machine. For all states that the readings allow. -/
import Derived.Test.YtlcaepcojglbiaaGreatDoorMm
import Derived.Test.YtlcaepcojglbiaaGreatDoorMl
namespace Go.Proofs.YtlcaepcojglbiaaGreatDoor.Tp
open Go.RowKit
set_option linter.unusedVariables false
set_option linter.unusedSimpArgs false
/-- What holds between two rounds of Expire's function. -/
structure XJ (B : Nat) (a : QA) (hs ho ha : Nat) (s : Bool) (of : Nat → Int) (w0 : World) (v : Value) (D L : List Tm) (w : World) : Prop where
  ot : OT B v D w
  q : QR a L w
  bs : w.heap[hs]? = some (.cells #[.bool s] 4)
  bo : w.heap[ho]? = some (.cells (offc of) 27)
  ba : w.heap[ha]? = some (.cells #[v] 42)
  nv : v.ownBlock ≠ some hs ∧ v.ownBlock ≠ some ho ∧ v.ownBlock ≠ some ha
  gf : GF (fun i => a.foot i ∨ B ≤ i) w0 w
structure XB (B : Nat) (a : QA) (hs ho ha : Nat) (w0 : World) : Prop where
  bl : ∀ i, a.has i → i < B
  lt : B ≤ w0.heap.size
  h : B ≤ hs ∧ B ≤ ho ∧ B ≤ ha
  ne : hs ≠ ho ∧ hs ≠ ha ∧ ho ≠ ha
theorem own_slice {w : World} {base e size n : Nat} {v : Value} {xs : List Value} (h : w.ownsRow base e size v n xs) : ∃ p m c, v = .slice p m c := by
  rcases h.2 with ⟨rfl, _⟩ | ⟨g, cap, cur, rfl, _⟩
  · exact ⟨_, _, _, rfl⟩
  · exact ⟨_, _, _, rfl⟩
theorem xj_lt {B : Nat} {a : QA} {hs ho ha : Nat} {s : Bool} {of : Nat → Int} {w0 w : World} {v : Value} {D L : List Tm} (h : XJ B a hs ho ha s of w0 v D L w) : hs < w.heap.size ∧ ho < w.heap.size ∧ ha < w.heap.size :=
  ⟨(Array.getElem?_eq_some_iff.1 h.bs).1, (Array.getElem?_eq_some_iff.1 h.bo).1, (Array.getElem?_eq_some_iff.1 h.ba).1⟩
theorem xj_below {B : Nat} {a : QA} {hs ho ha : Nat} {s : Bool} {of : Nat → Int} {w0 w w' : World} {v : Value} {D L : List Tm} (h : XJ B a hs ho ha s of w0 v D L w) (g : Below w.heap.size w w') : XJ B a hs ho ha s of w0 v D L w' := by
  obtain ⟨l0, l1, l2⟩ := xj_lt h
  exact ⟨ot_below h.ot g, qr_below h.q g, (g.block _ l0).trans h.bs, (g.block _ l1).trans h.bo, (g.block _ l2).trans h.ba, h.nv, gf_trans h.gf (gf_below g)⟩
theorem xj_step {B : Nat} {a : QA} {hs ho ha : Nat} {s : Bool} {of : Nat → Int} {w0 wr w3 w5 : World} {v v' : Value} {D L R : List Tm} {t : Tm} (hx : XB B a hs ho ha w0) (h : XJ B a hs ho ha s of w0 v D L wr) (hQ : QR a R w3) (hG : GF a.foot wr w3) (o1 o2 : Obj)
    (hown : w5.ownsRow B 31 5 v' (D.length + 1) (tmcs D ++ tmc t)) (hgr : ((w3.alloc o1).alloc o2).grownBy w5 v.ownBlock) (hloc : v'.ownBlock = v.ownBlock ∨ v'.ownBlock = some ((w3.alloc o1).alloc o2).heap.size) :
    XJ B a hs ho ha s of w0 v' (D ++ [t]) R (w5.setCell ⟨ha, 0, none⟩ v') := by
  obtain ⟨l0, l1, l2⟩ := xj_lt h
  have sz3 : ((w3.alloc o1).alloc o2).heap.size = w3.heap.size + 2 := by simp
  have s3 := hG.size
  have nf : ∀ i, B ≤ i → ¬ a.foot i := fun i hi e => by have := hx.bl i (.inr e); omega
  have hb4 : ∀ i, i < w3.heap.size → ((w3.alloc o1).alloc o2).heap[i]? = w3.heap[i]? := fun i hi => (Below.heap_alloc (w3.alloc o1) o2 i (by simp; omega)).trans (Below.heap_alloc w3 o1 i hi)
  have hb5 : ∀ i, i < w3.heap.size → v.ownBlock ≠ some i → w5.heap[i]? = w3.heap[i]? := fun i hi hn => (hgr.block i (by omega) (fun e => hn e.symm)).trans (hb4 i hi)
  have hrow : ∀ k, v.ownBlock = some k → B ≤ k ∧ k < wr.heap.size := ot_lt h.ot
  have hbx : ∀ i, B ≤ i → i < wr.heap.size → v.ownBlock ≠ some i → i ≠ ha → (w5.setCell ⟨ha, 0, none⟩ v').heap[i]? = wr.heap[i]? := fun i hB hi hn hne =>
    (Below.heap_setCell _ _ _ _ hne).trans ((hb5 i (by omega) hn).trans (hG.block i hi (nf i hB)))
  have nv' : ∀ i, i < wr.heap.size → v.ownBlock ≠ some i → v'.ownBlock ≠ some i := fun i hi hn e => by
    rcases hloc with q | q
    · exact hn (by rw [← q]; exact e)
    · rw [e] at q
      have := Option.some.inj q
      omega
  refine ⟨?_, ?_, ?_, ?_, ?_, ⟨nv' _ l0 h.nv.1, nv' _ l1 h.nv.2.1, nv' _ l2 h.nv.2.2⟩, ?_⟩
  · refine ot_same (w := w5) ?_ fun k hk => Below.heap_setCell _ _ _ _ fun e => nv' _ l2 h.nv.2.2 (by rw [hk]; exact congrArg some e)
    unfold OT
    rw [show tmcs (D ++ [t]) = tmcs D ++ tmc t by simp [tmcs], List.length_append]
    exact hown
  · refine qr_same hQ (by rw [size_set]; have := hgr.size; omega) fun i hi => ?_
    have hiB := hx.bl i hi
    have hi3 := qr_lt hQ i hi
    refine (Below.heap_setCell _ _ _ _ (show i ≠ ha by have := hx.h; omega)).trans (hb5 i hi3 fun e => by have := (hrow i e).1; omega)
  · exact (hbx hs hx.h.1 l0 h.nv.1 hx.ne.2.1).trans h.bs
  · exact (hbx ho hx.h.2.1 l1 h.nv.2.1 hx.ne.2.2).trans h.bo
  · exact set1 ((hb5 ha (by omega) h.nv.2.2).trans ((hG.block ha l2 (nf ha hx.h.2.2)).trans h.ba)) _
  · refine gf_set (gf_grown (gf_alloc (gf_alloc (gf_trans h.gf (gf_mono hG fun i e => .inl e)) _) _) hgr fun k hk => .inl (.inr (hrow k hk).1)) (.inl (.inr hx.h.2.2)) _
set_option maxRecDepth 100000 in
set_option maxHeartbeats 4000000 in
theorem exp1_other {B : Nat} {qa : QA} {L D : List Tm} {s : Bool} {of : Nat → Int} {hs ha ho : Nat} {v : Value} (i k : Nat) (w : World) (hx : XB B qa hs ho ha w) (h : XJ B qa hs ho ha s of w v D L w) (hi : i < 3) (hk : k < 2) (hne : k ≠ if s then 1 else 0) :
    Calls Tryz.prog 126 #[.int .i64 (i : Nat), .int .i64 (k : Nat), ptr qa.q, ptr hs, ptr ho, ptr ha] w fun e w' => e = .returned (.bool true) ∧ w' = w := by
  have C2 := Lib.hid (side_at s)
  have s0 := (cell_of h.bs 0 _ rfl).1
  clear h hx
  rcases (show k = 0 ∨ k = 1 by omega) with rfl | rfl <;> cases s
  · exact absurd rfl hne
  · clear hne
    go_enter Tryz.func126, Tryz.ntmps126
    go_wp2_with fail
    go_loopg [10, 11] 0 (fun g s10 s11 wr => wr = w)
    case atStart => rfl
    case round =>
      obtain rfl := hrel
      go_wp2_with (first | (go_at_call 71; refine (C2.out _).mono ?_; clear C2; rintro e w2 ⟨rfl, rfl⟩) | fail)
      go_ret
      exact ⟨rfl, rfl⟩
  · clear hne
    go_enter Tryz.func126, Tryz.ntmps126
    go_wp2_with fail
    go_loopg [10, 11] 0 (fun g s10 s11 wr => wr = w)
    case atStart => rfl
    case round =>
      obtain rfl := hrel
      go_wp2_with (first | (go_at_call 71; refine (C2.out _).mono ?_; clear C2; rintro e w2 ⟨rfl, rfl⟩) | fail)
      go_ret
      exact ⟨rfl, rfl⟩
  · exact absurd rfl hne
theorem cell_off {of : Nat → Int} {ho i : Nat} {w : World} (hi : i < 3) (hw : w.heap[ho]? = some (.cells (offc of) 27)) : w.cell? ⟨ho, i, none⟩ = some (.int .i64 (of i)) := by
  obtain ⟨⟨g0, _⟩, ⟨g1, _⟩, g2, _⟩ := cells3 hw
  rcases (show i = 0 ∨ i = 1 ∨ i = 2 by omega) with rfl | rfl | rfl
  · exact g0
  · exact g1
  · exact g2
set_option maxRecDepth 100000 in
set_option maxHeartbeats 4000000 in
theorem exp1_same {B : Nat} {qa : QA} {L D : List Tm} {s : Bool} {of : Nat → Int} {hs ha ho : Nat} {v : Value} (i : Nat) (w : World) (hx : XB B qa hs ho ha w) (h : XJ B qa hs ho ha s of w v D L w) (hi : i < 3) (hlen : D.length + L.length < 10000) :
    Calls Tryz.prog 126 #[.int .i64 (i : Nat), .int .i64 ((if s then 1 else 0 : Nat) : Nat), ptr qa.q, ptr hs, ptr ho, ptr ha] w fun e w' => e = .returned (.bool true) ∧ ∃ v', XJ B qa hs ho ha s of w v' (D ++ L.takeWhile fun t => isDue t (of i)) (L.dropWhile fun t => isDue t (of i)) w' := by
  have C2 := Lib.hid (side_at s)
  have HX := Lib.hid hx
  have H := Lib.hid h
  have hi3 : (i : Int) < 3 := by omega
  have HI := Lib.hid hi
  obtain ⟨n0, hn0⟩ : ∃ n0, L.length = n0 := ⟨_, rfl⟩
  have HN0 := Lib.hid hn0
  have HLEN := Lib.hid hlen
  obtain ⟨o, ho'⟩ : ∃ o, of i = o := ⟨_, rfl⟩
  have HO := Lib.hid ho'
  rw [ho']
  obtain ⟨kk, hkk⟩ : ∃ kk : Nat, (if s then 1 else 0 : Nat) = kk := ⟨_, rfl⟩
  rw [hkk] at C2 ⊢
  clear hx h hi hn0 hlen ho' hkk
  go_enter Tryz.func126, Tryz.ntmps126
  go_wp2_with fail
  go_loopg [10, 11] n0 (fun g s10 s11 wr => ∃ (E R : List Tm) (v' : Value), Hid (E ++ R = L ∧ g = R.length ∧ XJ B qa hs ho ha s of w v' (D ++ E) R wr ∧ E ++ R.takeWhile (fun t => isDue t o) = L.takeWhile (fun t => isDue t o) ∧ R.dropWhile (fun t => isDue t o) = L.dropWhile (fun t => isDue t o)))
  case atStart => exact ⟨[], L, v, Lib.hid ⟨rfl, HN0.out.symm, by rw [List.append_nil]; exact H.out, rfl, rfl⟩⟩
  case round =>
    obtain ⟨E, R, v', HJ⟩ := hrel
    have J := HJ.out.2.2.1
    have s0 := (cell_of J.bs 0 _ rfl).1
    have e0 := cell_off HI.out J.bo
    rw [HO.out] at e0
    cases R with
    | nil =>
      have C1 := Lib.hid (qdue_nil (a := qa) o wr J.q)
      clear J
      go_wp2_with (first
        | (go_at_call 71; refine (C2.out _).mono ?_; clear C2; rintro e w2 ⟨rfl, rfl⟩)
        | (go_at_call 127; refine (C1.out).mono ?_; clear C1; rintro e w3 ⟨rfl, hB⟩; have HB := Lib.hid hB; clear hB)
        | fail)
      go_ret
      refine ⟨rfl, v', ?_⟩
      obtain ⟨h1, -, hj, h4, h5⟩ := HJ.out
      rw [← h4, ← h5]
      rw [show E ++ List.takeWhile (fun t => isDue t o) [] = E from List.append_nil _]
      exact xj_below (xj_below hj HB.out) ((Below.refl _ _).alloc (Nat.le_refl _) _)
    | cons t R =>
      cases hd : isDue t o with
      | false =>
        have C1 := Lib.hid (qdue_no (a := qa) (t := t) (L := R) o wr J.q hd)
        have HD := Lib.hid hd
        clear J hd
        go_wp2_with (first
          | (go_at_call 71; refine (C2.out _).mono ?_; clear C2; rintro e w2 ⟨rfl, rfl⟩)
          | (go_at_call 127; refine (C1.out).mono ?_; clear C1; rintro e w3 ⟨rfl, hB⟩; have HB := Lib.hid hB; clear hB)
          | fail)
        go_ret
        refine ⟨rfl, v', ?_⟩
        obtain ⟨h1, -, hj, h4, h5⟩ := HJ.out
        rw [← h4, ← h5]
        rw [show List.takeWhile (fun t => isDue t o) (t :: R) = [] by rw [List.takeWhile_cons, HD.out]; rfl, show List.dropWhile (fun t => isDue t o) (t :: R) = t :: R by rw [List.dropWhile_cons, HD.out]; rfl, List.append_nil]
        exact xj_below (xj_below hj HB.out) ((Below.refl _ _).alloc (Nat.le_refl _) _)
      | true =>
        have C1 := Lib.hid (qdue_yes (a := qa) (t := t) (L := R) o wr J.q hd)
        have HD := Lib.hid hd
        have a0 := cell_of J.ba 0 _ rfl
        obtain ⟨-, -, l2⟩ := xj_lt J
        obtain ⟨id, tc, ts, th, tl⟩ := t
        have HF : Hid (∀ w3, GF qa.foot wr w3 → w3.heap[ha]? = some (.cells #[v'] 42) ∧ ha < w3.heap.size ∧ OT B v' (D ++ E) w3) := Lib.hid fun w3 hG => by
          have nf : ∀ i, B ≤ i → ¬ qa.foot i := fun i hi e => by have := HX.out.bl i (.inr e); omega
          have hh := HJ.out.2.2.1
          refine ⟨(hG.block ha l2 (nf ha HX.out.h.2.2)).trans hh.ba, Nat.lt_of_lt_of_le l2 hG.size, ot_same hh.ot fun k hk => hG.block k (ot_lt hh.ot k hk).2 (nf k (ot_lt hh.ot k hk).1)⟩
        have HLE : Hid ((D ++ E).length + 1 ≤ 1000000) := Lib.hid (by
          have h1 := HLEN.out
          rw [← HJ.out.1, List.length_append] at h1
          rw [List.length_append]
          omega)
        have HBE : Hid (∀ w3, GF qa.foot wr w3 → B ≤ ((w3.alloc (.cells #[.int .i64 id, .int .i64 tc, .int .i64 ts, .int .i64 th, .bool tl] 31)).alloc (.cells #[.int .i64 id, .int .i64 tc, .int .i64 ts, .int .i64 th, .bool tl] 31)).heap.size) := Lib.hid fun w3 hG => by
          have h1 := hG.size
          have h2 := HJ.out.2.2.1.gf.size
          have h3 := HX.out.lt
          simp
          omega
        have HLL : Hid (∀ w3 : World, ha < w3.heap.size → ha < ((w3.alloc (.cells #[.int .i64 id, .int .i64 tc, .int .i64 ts, .int .i64 th, .bool tl] 31)).alloc (.cells #[.int .i64 id, .int .i64 tc, .int .i64 ts, .int .i64 th, .bool tl] 31)).heap.size) := Lib.hid fun w3 hG => by simp; omega
        have HNV : Hid (some ha ≠ v'.ownBlock) := Lib.hid fun e => HJ.out.2.2.1.nv.2.2 e.symm
        clear J hd a0
        go_wp2_with (first
          | (go_at_call 71; refine (C2.out _).mono ?_; clear C2; rintro e w2 ⟨rfl, rfl⟩)
          | (go_at_call 127; refine (C1.out).mono ?_; clear C1; rintro e w3 ⟨rfl, hQ, hG⟩; have HQ := Lib.hid hQ; have HG := Lib.hid hG; obtain ⟨hn, hl3, hot⟩ := HF.out w3 hG; obtain ⟨a0, a1⟩ := cell_of hn 0 _ rfl; have HOT := Lib.hid (World.ownsRow.alloc (World.ownsRow.alloc hot (.cells #[.int .i64 id, .int .i64 tc, .int .i64 ts, .int .i64 th, .bool tl] 31)) (.cells #[.int .i64 id, .int .i64 tc, .int .i64 ts, .int .i64 th, .bool tl] 31)); have hnw := own_new (w3.alloc (.cells #[.int .i64 id, .int .i64 tc, .int .i64 ts, .int .i64 th, .bool tl] 31)) #[.int .i64 id, .int .i64 tc, .int .i64 ts, .int .i64 th, .bool tl] 31 5 1 0 (Nat.zero_le _) rfl (by unfold maxLen; omega); rw [show (w3.alloc (.cells #[.int .i64 id, .int .i64 tc, .int .i64 ts, .int .i64 th, .bool tl] 31)).heap.size = w3.heap.size + 1 by simp] at hnw; have HNW := Lib.hid hnw; clear hnw; have n1 : ¬ ha = w3.heap.size := (by omega); have HA := Lib.hid hn; have HL3 := Lib.hid hl3; clear hQ hG hn hot)
          | (at_builtin; refine wpList_app _ rfl _ _ 42 rfl Tryz.underlying42 info31z rfl (by omega) (by omega) ?_ ?_ HOT.out HNW.out (tmcs_one [⟨id, tc, ts, th, tl⟩]) HLE.out (HBE.out w3 HG.out) ?_; rfl; rfl; intro v2 w5 hown hgrow hloc; obtain ⟨p2, m2, c2, rfl⟩ := own_slice hown; have hn5 := (hgrow.block ha (HLL.out w3 HL3.out) HNV.out).trans ((Below.heap_alloc (w3.alloc (.cells #[.int .i64 id, .int .i64 tc, .int .i64 ts, .int .i64 th, .bool tl] 31)) (.cells #[.int .i64 id, .int .i64 tc, .int .i64 ts, .int .i64 th, .bool tl] 31) ha (by simp; omega)).trans ((Below.heap_alloc w3 (.cells #[.int .i64 id, .int .i64 tc, .int .i64 ts, .int .i64 th, .bool tl] 31) ha hl3).trans HA.out)); have HH := Lib.hid (And.intro hown (And.intro hgrow hloc)); clear a0 a1; obtain ⟨a0, a1⟩ := cell_of hn5 0 _ rfl; clear hown hgrow hloc hn5)
          | fail)
        go_roundg R.length
        case measure => rw [HJ.out.2.1]; simp
        case rel =>
          refine ⟨E ++ [⟨id, tc, ts, th, tl⟩], R, .slice p2 m2 c2, Lib.hid ⟨?_, rfl, ?_, ?_, ?_⟩⟩
          · rw [← HJ.out.1]; simp
          · rw [← List.append_assoc]
            exact xj_step HX.out HJ.out.2.2.1 HQ.out HG.out _ _ HH.out.1 HH.out.2.1 HH.out.2.2
          · rw [← HJ.out.2.2.2.1, List.takeWhile_cons, HD.out]; simp
          · rw [← HJ.out.2.2.2.2, List.dropWhile_cons, HD.out]; simp
/-- One queue of a base has changed, and what lies above B. -/
theorem br_step' {a : BA} {b : Nat → List Tm} {W W' : World} {B : Nat} (h : BR a b W) (hB : ∀ i, a.has i → i < B) {n : Nat} (hn : n < 6) {L : List Tm} (hq : QR (a.q n) L W') (g : GF (fun i => (a.q n).foot i ∨ B ≤ i) W W') : BR a (bset b n L) W' := by
  have hb : ∀ i, a.has i → ¬ (a.q n).foot i → W'.heap[i]? = W.heap[i]? := fun i hi hf => g.block i (br_lt h i hi) fun e => by
    rcases e with e | e
    · exact hf e
    · have := hB i hi; omega
  refine ⟨fun j hj => (World.cell?_of_block (a := ⟨a.bb, j, none⟩) (hb a.bb (.inl rfl) fun e => h.nb n hn (.inr e))).trans (h.c j hj), Nat.lt_of_lt_of_le h.lt g.size, fun m hm => ?_, h.dq, h.nb⟩
  unfold bset
  by_cases e : m = n
  · rw [if_pos e, e]; exact hq
  · rw [if_neg e]
    exact qr_same (h.q m hm) g.size fun i hi => hb i (.inr ⟨m, hm, hi⟩) fun e2 => h.dq m n hm hn e i hi (.inr e2)
/-- What Expire takes from the n-th queue, and what it leaves. -/
def exq (b : Nat → List Tm) (s : Bool) (of : Nat → Int) (n : Nat) : List Tm := if n % 2 = (if s then 1 else 0) then (b n).takeWhile fun t => isDue t (of (n / 2)) else []
def exr (b : Nat → List Tm) (s : Bool) (of : Nat → Int) (n : Nat) : List Tm := if n % 2 = (if s then 1 else 0) then (b n).dropWhile fun t => isDue t (of (n / 2)) else b n
/-- .. from the first n. -/
def exn (b : Nat → List Tm) (s : Bool) (of : Nat → Int) : Nat → List Tm
  | 0 => []
  | n + 1 => exn b s of n ++ exq b s of n
def exb (b : Nat → List Tm) (s : Bool) (of : Nat → Int) (n : Nat) : Nat → List Tm := fun j => if j < n then exr b s of j else b j
theorem exq_len (b : Nat → List Tm) (s : Bool) (of : Nat → Int) (n : Nat) : (exq b s of n).length ≤ (b n).length := by
  unfold exq
  by_cases h : n % 2 = (if s then 1 else 0)
  · rw [if_pos h]; exact (List.takeWhile_sublist _).length_le
  · rw [if_neg h]; exact Nat.zero_le _
theorem exn_len {b : Nat → List Tm} (s : Bool) (of : Nat → Int) (h : ∀ n, n < 6 → (b n).length ≤ 64) : ∀ n, n ≤ 6 → (exn b s of n).length ≤ 64 * n
  | 0, _ => Nat.le_refl _
  | n + 1, hn => by
    show (exn b s of n ++ exq b s of n).length ≤ _
    have h1 := exn_len s of h n (by omega)
    have h2 := exq_len b s of n
    have h3 := h n (by omega)
    rw [List.length_append]
    omega
theorem exb_succ (b : Nat → List Tm) (s : Bool) (of : Nat → Int) (n : Nat) : exb b s of (n + 1) = bset (exb b s of n) n (exr b s of n) := by
  funext j
  unfold exb bset
  dsimp only
  by_cases e : j = n
  · subst e; rw [if_pos (by omega), if_pos rfl]
  · rw [if_neg e]
    by_cases h : j < n
    · rw [if_pos h, if_pos (by omega)]
    · rw [if_neg h, if_neg (by omega)]
/-- What holds ahead of the n-th queue. -/
structure EJ (a : BA) (b : Nat → List Tm) (hs ho ha : Nat) (s : Bool) (of : Nat → Int) (W : World) (n : Nat) (v : Value) (w : World) : Prop where
  ot : OT W.heap.size v (exn b s of n) w
  br : BR a (exb b s of n) w
  bs : w.heap[hs]? = some (.cells #[.bool s] 4)
  bo : w.heap[ho]? = some (.cells (offc of) 27)
  ba : w.heap[ha]? = some (.cells #[v] 42)
  nv : v.ownBlock ≠ some hs ∧ v.ownBlock ≠ some ho ∧ v.ownBlock ≠ some ha
  gf : GF a.foot W w
set_option maxRecDepth 100000 in
set_option maxHeartbeats 4000000 in
theorem bexpire_at {a : BA} {b : Nat → List Tm} (s : Bool) (of : Nat → Int) (W : World) (h : BR a b W) (hlen : ∀ n, n < 6 → (b n).length ≤ 64) : Calls Tryz.prog 106 #[ptr a.bb, offv of, .bool s] W fun e W' => ∃ v, e = .returned v ∧ OT W.heap.size v (exn b s of 6) W' ∧ BR a (exb b s of 6) W' ∧ GF a.foot W W' := by
  have HB0 : Below W.heap.size W (((W.alloc (.cells (offc of) 27)).alloc (.cells #[.bool s] 4)).alloc (.cells #[.slice none 0 0] 42)) := (((Below.refl W.heap.size W).alloc (Nat.le_refl _) _).alloc (by simp) _).alloc (by simp; omega) _
  obtain ⟨W1, hW1⟩ : ∃ W1, W.alloc (.cells (offc of) 27) = W1 := ⟨_, rfl⟩
  have s1 : W1.heap.size = W.heap.size + 1 := by rw [← hW1]; simp
  have p0 : W1.heap[W.heap.size]? = some (.cells (offc of) 27) := by rw [← hW1]; exact heap_alloc_new W _
  rw [hW1] at HB0
  obtain ⟨W2, hW2⟩ : ∃ W2, W1.alloc (.cells #[.bool s] 4) = W2 := ⟨_, rfl⟩
  have s2 : W2.heap.size = W.heap.size + 2 := by rw [← hW2]; simp; omega
  rw [hW2] at HB0
  have p1 : W2.heap[W.heap.size]? = some (.cells (offc of) 27) := by rw [← hW2]; exact (Below.heap_alloc _ _ _ (by omega)).trans p0
  have r1 : W2.heap[W.heap.size + 1]? = some (.cells #[.bool s] 4) := by rw [← hW2, ← s1]; exact heap_alloc_new W1 _
  obtain ⟨W3, hW3⟩ : ∃ W3, W2.alloc (.cells #[.slice none 0 0] 42) = W3 := ⟨_, rfl⟩
  rw [hW3] at HB0
  have p2 : W3.heap[W.heap.size]? = some (.cells (offc of) 27) := by rw [← hW3]; exact (Below.heap_alloc _ _ _ (by omega)).trans p1
  have r2 : W3.heap[W.heap.size + 1]? = some (.cells #[.bool s] 4) := by rw [← hW3]; exact (Below.heap_alloc _ _ _ (by omega)).trans r1
  have t2 : W3.heap[W.heap.size + 2]? = some (.cells #[.slice none 0 0] 42) := by rw [← hW3, ← s2]; exact heap_alloc_new W2 _
  have hB := br_lt h
  have C := each_at (bb := a.bb) (caps := #[ptr (W.heap.size + 1), ptr W.heap.size, ptr (W.heap.size + 2)]) enters126 (fun j => (a.q j).q)
    (fun n w => ∃ v, EJ a b (W.heap.size + 1) W.heap.size (W.heap.size + 2) s of W n v w)
    (fun w => ∃ v, w.heap[W.heap.size + 2]? = some (.cells #[v] 42) ∧ OT W.heap.size v (exn b s of 6) w ∧ BR a (exb b s of 6) w ∧ GF a.foot W w)
    (fun n w hJ j hj => by obtain ⟨v, hJ⟩ := hJ; exact hJ.br.c j hj)
    (fun i k hi hk w hJ => by
      obtain ⟨v, hJ⟩ := hJ
      have hn : 2 * i + k < 6 := by omega
      have hL : exb b s of (2 * i + k) (2 * i + k) = b (2 * i + k) := if_neg (by omega)
      have hq := hJ.br.q (2 * i + k) hn
      rw [hL] at hq
      have hx : XB W.heap.size (a.q (2 * i + k)) (W.heap.size + 1) W.heap.size (W.heap.size + 2) w := ⟨fun i hi => hB i (.inr ⟨_, hn, hi⟩), hJ.gf.size, ⟨by omega, by omega, by omega⟩, by omega, by omega, by omega⟩
      have hj : XJ W.heap.size (a.q (2 * i + k)) (W.heap.size + 1) W.heap.size (W.heap.size + 2) s of w v (exn b s of (2 * i + k)) (b (2 * i + k)) w := ⟨hJ.ot, hq, hJ.bs, hJ.bo, hJ.ba, hJ.nv, gf_refl _ _⟩
      have e1 : (2 * i + k) % 2 = k := by omega
      have e2 : (2 * i + k) / 2 = i := by omega
      by_cases hside : k = if s then 1 else 0
      · have hl1 := exn_len s of hlen (2 * i + k) (by omega)
        have hl2 := hlen (2 * i + k) hn
        have C := exp1_same i w hx hj hi (by omega)
        rw [← hside] at C
        refine C.mono ?_
        rintro e w' ⟨rfl, v', h'⟩
        refine ⟨true, rfl, fun _ => ⟨v', ?_⟩, fun hb => by cases hb⟩
        have hq1 : exq b s of (2 * i + k) = (b (2 * i + k)).takeWhile fun t => isDue t (of i) := by unfold exq; rw [e1, e2, if_pos hside]
        have hq2 : exr b s of (2 * i + k) = (b (2 * i + k)).dropWhile fun t => isDue t (of i) := by unfold exr; rw [e1, e2, if_pos hside]
        refine ⟨?_, ?_, h'.bs, h'.bo, h'.ba, h'.nv, ?_⟩
        · show OT _ _ (exn b s of (2 * i + k) ++ exq b s of (2 * i + k)) _
          rw [hq1]; exact h'.ot
        · rw [exb_succ, hq2]
          exact br_step' hJ.br hB hn h'.q h'.gf
        · exact ⟨h'.gf.os.trans hJ.gf.os, h'.gf.tape.trans hJ.gf.tape, h'.gf.output.trans hJ.gf.output, Nat.le_trans hJ.gf.size h'.gf.size, fun j hj hf => (h'.gf.block j (Nat.lt_of_lt_of_le hj hJ.gf.size) fun e => by
            rcases e with e | e
            · exact hf ⟨_, hn, e⟩
            · omega).trans (hJ.gf.block j hj hf)⟩
      · refine (exp1_other i k w hx hj hi hk hside).mono ?_
        rintro e w' ⟨rfl, rfl⟩
        refine ⟨true, rfl, fun _ => ⟨v, ?_⟩, fun hb => by cases hb⟩
        have hq1 : exq b s of (2 * i + k) = [] := by unfold exq; rw [e1, if_neg hside]
        have hq2 : exr b s of (2 * i + k) = b (2 * i + k) := by unfold exr; rw [e1, if_neg hside]
        refine ⟨?_, ?_, hJ.bs, hJ.bo, hJ.ba, hJ.nv, hJ.gf⟩
        · show OT _ _ (exn b s of (2 * i + k) ++ exq b s of (2 * i + k)) _
          rw [hq1, List.append_nil]; exact hJ.ot
        · rw [exb_succ, hq2]
          refine br_step' (B := W.heap.size) hJ.br hB hn hq ⟨rfl, rfl, rfl, Nat.le_refl _, fun _ _ _ => rfl⟩)
    (fun w hJ => by
      obtain ⟨v, hJ⟩ := hJ
      exact ⟨v, hJ.ba, hJ.ot, hJ.br, hJ.gf⟩)
    _ ⟨.slice none 0 0, ot_nil _ _, by rw [show exb b s of 0 = b from funext fun j => if_neg (by omega)]; exact br_below h HB0, r2, p2, t2, by simp [Value.ownBlock], gf_below HB0⟩
  have HC := Lib.hid C
  clear h HB0 C p0 p1 p2 r1 r2 t2 s1 s2 hB hlen
  subst hW1; subst hW2; subst hW3
  go_enter Tryz.func106, Tryz.ntmps106
  go_wp2_with (first
    | (go_at_call 76; refine (HC.out).mono ?_; clear HC; rintro e w1 ⟨rfl, v, hn, hot, hbr, hgf⟩; obtain ⟨pv, mv, cv, rfl⟩ := own_slice hot; have HH := Lib.hid (And.intro hot (And.intro hbr hgf)); obtain ⟨j1, y1⟩ := cell_of hn 0 _ rfl; clear hn hot hbr hgf)
    | fail)
  go_ret
  exact ⟨_, rfl, HH.out⟩
end Go.Proofs.YtlcaepcojglbiaaGreatDoor.Tp
