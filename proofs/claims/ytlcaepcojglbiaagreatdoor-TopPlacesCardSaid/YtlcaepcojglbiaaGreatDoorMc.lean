/- The red and black trees: putting in and mending: a part of the walk of the whole machine. For all states that the readings allow. -/
import Derived.Test.YtlcaepcojglbiaaGreatDoorMa
import Derived.Test.YtlcaepcojglbiaaGreatDoorMb
namespace Go.Proofs.YtlcaepcojglbiaaGreatDoor.Tp
open Go.RowKit
set_option linter.unusedVariables false
set_option linter.unusedSimpArgs false
set_option maxRecDepth 100000 in
set_option maxHeartbeats 4000000 in
theorem turn_r {tp nb : Nat} {S : TS} (x : Nat) (W : World) (h : TR tp nb S W) (hk : S.ok) (hx : x < S.len) : Calls Tryz.prog 134 #[ptr tp, .int .i64 x, .bool true] W fun e W' => e = .returned (.tuple #[]) ∧ TR tp nb (S.turn x true) W' ∧ G2 tp nb W W' := by
  obtain ⟨y, hy⟩ : ∃ y, (S.N x).l = y := ⟨_, rfl⟩
  obtain ⟨i, hi⟩ : ∃ i, (S.N y).r = i := ⟨_, rfl⟩
  have hyl : y < S.len := by rw [← hy]; exact (hk.2 x hx).1
  have hil : i < S.len := by rw [← hi]; exact (hk.2 y hyl).2.1
  have e1 : S.child x (!true) = y := hy
  have e2 : S.child y true = i := hi
  have et : S.turn x true = (((S.turn2 x true).hang x y).setr y x).setu x y := by unfold TS.turn; rw [e1]; rfl
  have e3 : S.turn2 x true = if i = 0 then S.setl x i else (S.setl x i).setu i x := by unfold TS.turn2 TS.turn1; rw [e1, e2]; rfl
  have hk1 := ok_setl hk x i hil
  have ht1 := tr_l h x i
  have hk2 : (S.turn2 x true).ok ∧ (S.turn2 x true).len = S.len := by
    rw [e3]
    split
    · exact ⟨hk1, rfl⟩
    · exact ⟨ok_setu hk1 i x hx, rfl⟩
  have hh := ok_hang hk2.1 x y (by rw [hk2.2]; exact hx) (by rw [hk2.2]; exact hyl)
  have hlen : ((S.turn2 x true).hang x y).len = S.len := hh.2.trans hk2.2
  have C1 := Lib.hid (child_l h x hx)
  have C2 := Lib.hid (child_r h y hyl)
  have C3 := Lib.hid (child_l h x hx)
  have C4 := Lib.hid (fun W' (k : TR tp nb (S.turn2 x true) W') => hang_at x y W' k hk2.1 (by rw [hk2.2]; exact hx) (by rw [hk2.2]; exact hyl))
  have C5 := Lib.hid (fun W' (k : TR tp nb ((S.turn2 x true).hang x y) W') => child_r k y (by rw [hlen]; exact hyl))
  have NY := Lib.hid (fun W' (k : TR tp nb ((S.turn2 x true).hang x y) W') => (tr_node k (i := y) (by rw [hlen]; exact hyl)))
  have NX := Lib.hid (fun W' (k : TR tp nb (((S.turn2 x true).hang x y).setr y x) W') => (tr_node k (i := x) (by show x < ((S.turn2 x true).hang x y).len; rw [hlen]; exact hx)))
  obtain ⟨⟨_, _, xl, xr⟩, _⟩ := tr_node h hx
  obtain ⟨⟨_, _, yl, yr⟩, _⟩ := tr_node h hyl
  obtain ⟨_, iu, _⟩ := tr_node ht1 (i := i) hil
  rw [hy] at xl
  rw [hi] at yr
  have hl := h.ln
  have zx := h.zn (x * 8 + 2)
  have zi := ht1.zn (i * 8 + 4)
  have c0 := h.c0
  have c0' := ht1.c0
  have ET := Lib.hid et
  have LEN := Lib.hid hlen
  have HT1 := Lib.hid ht1
  by_cases h0 : i = 0
  · rw [if_pos h0] at e3
    have HT2 := Lib.hid (show TR tp nb (S.turn2 x true) (W.setCell ⟨nb, x * 8 + 2, none⟩ (.int .i64 i)) by rw [e3]; exact ht1)
    subst h0
    clear h hk hk1 hk2 hh ht1 e1 e2 e3 et hy hi hlen c0 c0' iu zi
    go_enter Tryz.func134, Tryz.ntmps134
    go_wp2_with (first
      | (go_at_call 117; refine (C1.out).mono ?_; clear C1; rintro e w1 ⟨rfl, rfl⟩)
      | (go_at_call 117; refine (C2.out).mono ?_; clear C2; rintro e w2 ⟨rfl, rfl⟩)
      | (go_at_call 117; refine (C3.out).mono ?_; clear C3; rintro e w3 ⟨rfl, rfl⟩)
      | (go_at_call 136; refine (C4.out _ HT2.out).mono ?_; clear C4; rintro e w4 ⟨rfl, ht, hg⟩; have HT4 := Lib.hid ht; have HG4 := Lib.hid (g2_trans (g2_n (g2_refl _ _ _) _ _) hg); obtain ⟨⟨_, _, yl', yr'⟩, _⟩ := NY.out _ ht; have zy := ht.zn (y * 8 + 3); have HT5 := Lib.hid (tr_r ht y x); obtain ⟨_, xu', _⟩ := NX.out _ HT5.out; have zu := HT5.out.zn (x * 8 + 4); have c5 := HT5.out.c0; rw [show (((S.turn2 x true).hang x y).setr y x).len = S.len from LEN.out] at c5; clear ht hg)
      | (go_at_call 117; refine (C5.out _ HT4.out).mono ?_; clear C5; rintro e w5 ⟨rfl, rfl⟩)
      | fail)
    exact bodyPost_end (results_none rfl _ _ _) rfl ⟨rfl, by rw [ET.out]; exact tr_u HT5.out x y, g2_n (g2_n HG4.out _ _) _ _⟩
  · rw [if_neg h0] at e3
    have HT2 := Lib.hid (show TR tp nb (S.turn2 x true) ((W.setCell ⟨nb, x * 8 + 2, none⟩ (.int .i64 i)).setCell ⟨nb, i * 8 + 4, none⟩ (.int .i64 x)) by rw [e3]; exact tr_u ht1 i x)
    have h00 : ¬ (i : Int) = 0 := by omega
    rw [show (S.setl x i).len = S.len from rfl] at c0'
    clear h hk hk1 hk2 hh ht1 e1 e2 e3 et hy hi hlen
    go_enter Tryz.func134, Tryz.ntmps134
    go_wp2_with (first
      | (go_at_call 117; refine (C1.out).mono ?_; clear C1; rintro e w1 ⟨rfl, rfl⟩)
      | (go_at_call 117; refine (C2.out).mono ?_; clear C2; rintro e w2 ⟨rfl, rfl⟩)
      | (go_at_call 117; refine (C3.out).mono ?_; clear C3; rintro e w3 ⟨rfl, rfl⟩)
      | (go_at_call 136; refine (C4.out _ HT2.out).mono ?_; clear C4; rintro e w4 ⟨rfl, ht, hg⟩; have HT4 := Lib.hid ht; have HG4 := Lib.hid (g2_trans (g2_n (g2_n (g2_refl _ _ _) _ _) _ _) hg); obtain ⟨⟨_, _, yl', yr'⟩, _⟩ := NY.out _ ht; have zy := ht.zn (y * 8 + 3); have HT5 := Lib.hid (tr_r ht y x); obtain ⟨_, xu', _⟩ := NX.out _ HT5.out; have zu := HT5.out.zn (x * 8 + 4); have c5 := HT5.out.c0; rw [show (((S.turn2 x true).hang x y).setr y x).len = S.len from LEN.out] at c5; clear ht hg)
      | (go_at_call 117; refine (C5.out _ HT4.out).mono ?_; clear C5; rintro e w5 ⟨rfl, rfl⟩)
      | fail)
    exact bodyPost_end (results_none rfl _ _ _) rfl ⟨rfl, by rw [ET.out]; exact tr_u HT5.out x y, g2_n (g2_n HG4.out _ _) _ _⟩
set_option maxRecDepth 100000 in
set_option maxHeartbeats 4000000 in
theorem turn_l {tp nb : Nat} {S : TS} (x : Nat) (W : World) (h : TR tp nb S W) (hk : S.ok) (hx : x < S.len) : Calls Tryz.prog 134 #[ptr tp, .int .i64 x, .bool false] W fun e W' => e = .returned (.tuple #[]) ∧ TR tp nb (S.turn x false) W' ∧ G2 tp nb W W' := by
  obtain ⟨y, hy⟩ : ∃ y, (S.N x).r = y := ⟨_, rfl⟩
  obtain ⟨i, hi⟩ : ∃ i, (S.N y).l = i := ⟨_, rfl⟩
  have hyl : y < S.len := by rw [← hy]; exact (hk.2 x hx).2.1
  have hil : i < S.len := by rw [← hi]; exact (hk.2 y hyl).1
  have e1 : S.child x (!false) = y := hy
  have e2 : S.child y false = i := hi
  have et : S.turn x false = (((S.turn2 x false).hang x y).setl y x).setu x y := by unfold TS.turn; rw [e1]; rfl
  have e3 : S.turn2 x false = if i = 0 then S.setr x i else (S.setr x i).setu i x := by unfold TS.turn2 TS.turn1; rw [e1, e2]; rfl
  have hk1 := ok_setr hk x i hil
  have ht1 := tr_r h x i
  have hk2 : (S.turn2 x false).ok ∧ (S.turn2 x false).len = S.len := by
    rw [e3]
    split
    · exact ⟨hk1, rfl⟩
    · exact ⟨ok_setu hk1 i x hx, rfl⟩
  have hh := ok_hang hk2.1 x y (by rw [hk2.2]; exact hx) (by rw [hk2.2]; exact hyl)
  have hlen : ((S.turn2 x false).hang x y).len = S.len := hh.2.trans hk2.2
  have C1 := Lib.hid (child_r h x hx)
  have C2 := Lib.hid (child_l h y hyl)
  have C3 := Lib.hid (child_r h x hx)
  have C4 := Lib.hid (fun W' (k : TR tp nb (S.turn2 x false) W') => hang_at x y W' k hk2.1 (by rw [hk2.2]; exact hx) (by rw [hk2.2]; exact hyl))
  have C5 := Lib.hid (fun W' (k : TR tp nb ((S.turn2 x false).hang x y) W') => child_l k y (by rw [hlen]; exact hyl))
  have NY := Lib.hid (fun W' (k : TR tp nb ((S.turn2 x false).hang x y) W') => (tr_node k (i := y) (by rw [hlen]; exact hyl)))
  have NX := Lib.hid (fun W' (k : TR tp nb (((S.turn2 x false).hang x y).setl y x) W') => (tr_node k (i := x) (by show x < ((S.turn2 x false).hang x y).len; rw [hlen]; exact hx)))
  obtain ⟨⟨_, _, xl, xr⟩, _⟩ := tr_node h hx
  obtain ⟨⟨_, _, yl, yr⟩, _⟩ := tr_node h hyl
  obtain ⟨_, iu, _⟩ := tr_node ht1 (i := i) hil
  rw [hy] at xr
  rw [hi] at yl
  have hl := h.ln
  have zx := h.zn (x * 8 + 3)
  have zi := ht1.zn (i * 8 + 4)
  have c0 := h.c0
  have c0' := ht1.c0
  have ET := Lib.hid et
  have LEN := Lib.hid hlen
  have HT1 := Lib.hid ht1
  by_cases h0 : i = 0
  · rw [if_pos h0] at e3
    have HT2 := Lib.hid (show TR tp nb (S.turn2 x false) (W.setCell ⟨nb, x * 8 + 3, none⟩ (.int .i64 i)) by rw [e3]; exact ht1)
    subst h0
    clear h hk hk1 hk2 hh ht1 e1 e2 e3 et hy hi hlen c0 c0' iu zi
    go_enter Tryz.func134, Tryz.ntmps134
    go_wp2_with (first
      | (go_at_call 117; refine (C1.out).mono ?_; clear C1; rintro e w1 ⟨rfl, rfl⟩)
      | (go_at_call 117; refine (C2.out).mono ?_; clear C2; rintro e w2 ⟨rfl, rfl⟩)
      | (go_at_call 117; refine (C3.out).mono ?_; clear C3; rintro e w3 ⟨rfl, rfl⟩)
      | (go_at_call 136; refine (C4.out _ HT2.out).mono ?_; clear C4; rintro e w4 ⟨rfl, ht, hg⟩; have HT4 := Lib.hid ht; have HG4 := Lib.hid (g2_trans (g2_n (g2_refl _ _ _) _ _) hg); obtain ⟨⟨_, _, yl', yr'⟩, _⟩ := NY.out _ ht; have zy := ht.zn (y * 8 + 2); have HT5 := Lib.hid (tr_l ht y x); obtain ⟨_, xu', _⟩ := NX.out _ HT5.out; have zu := HT5.out.zn (x * 8 + 4); have c5 := HT5.out.c0; rw [show (((S.turn2 x false).hang x y).setl y x).len = S.len from LEN.out] at c5; clear ht hg)
      | (go_at_call 117; refine (C5.out _ HT4.out).mono ?_; clear C5; rintro e w5 ⟨rfl, rfl⟩)
      | fail)
    exact bodyPost_end (results_none rfl _ _ _) rfl ⟨rfl, by rw [ET.out]; exact tr_u HT5.out x y, g2_n (g2_n HG4.out _ _) _ _⟩
  · rw [if_neg h0] at e3
    have HT2 := Lib.hid (show TR tp nb (S.turn2 x false) ((W.setCell ⟨nb, x * 8 + 3, none⟩ (.int .i64 i)).setCell ⟨nb, i * 8 + 4, none⟩ (.int .i64 x)) by rw [e3]; exact tr_u ht1 i x)
    have h00 : ¬ (i : Int) = 0 := by omega
    rw [show (S.setr x i).len = S.len from rfl] at c0'
    clear h hk hk1 hk2 hh ht1 e1 e2 e3 et hy hi hlen
    go_enter Tryz.func134, Tryz.ntmps134
    go_wp2_with (first
      | (go_at_call 117; refine (C1.out).mono ?_; clear C1; rintro e w1 ⟨rfl, rfl⟩)
      | (go_at_call 117; refine (C2.out).mono ?_; clear C2; rintro e w2 ⟨rfl, rfl⟩)
      | (go_at_call 117; refine (C3.out).mono ?_; clear C3; rintro e w3 ⟨rfl, rfl⟩)
      | (go_at_call 136; refine (C4.out _ HT2.out).mono ?_; clear C4; rintro e w4 ⟨rfl, ht, hg⟩; have HT4 := Lib.hid ht; have HG4 := Lib.hid (g2_trans (g2_n (g2_n (g2_refl _ _ _) _ _) _ _) hg); obtain ⟨⟨_, _, yl', yr'⟩, _⟩ := NY.out _ ht; have zy := ht.zn (y * 8 + 2); have HT5 := Lib.hid (tr_l ht y x); obtain ⟨_, xu', _⟩ := NX.out _ HT5.out; have zu := HT5.out.zn (x * 8 + 4); have c5 := HT5.out.c0; rw [show (((S.turn2 x false).hang x y).setl y x).len = S.len from LEN.out] at c5; clear ht hg)
      | (go_at_call 117; refine (C5.out _ HT4.out).mono ?_; clear C5; rintro e w5 ⟨rfl, rfl⟩)
      | fail)
    exact bodyPost_end (results_none rfl _ _ _) rfl ⟨rfl, by rw [ET.out]; exact tr_u HT5.out x y, g2_n (g2_n HG4.out _ _) _ _⟩
theorem turn_at {tp nb : Nat} {S : TS} (x : Nat) (right : Bool) (W : World) (h : TR tp nb S W) (hk : S.ok) (hx : x < S.len) : Calls Tryz.prog 134 #[ptr tp, .int .i64 x, .bool right] W fun e W' => e = .returned (.tuple #[]) ∧ TR tp nb (S.turn x right) W' ∧ G2 tp nb W W' := by
  cases right
  · exact turn_l x W h hk hx
  · exact turn_r x W h hk hx
end Go.Proofs.YtlcaepcojglbiaaGreatDoor.Tp
namespace Go.Proofs.YtlcaepcojglbiaaGreatDoor.Tp
open Go.RowKit
set_option linter.unusedVariables false
set_option linter.unusedSimpArgs false
theorem list_exp (ts : List Value) : ts = (List.range ts.length).map fun i => ts.getD i undef := by
  apply List.ext_getElem
  · simp
  · intro i h1 h2
    simp [List.getD_eq_getElem?_getD, List.getElem?_eq_getElem h1]
structure MG where
  S : TS
  l : Sh
  r : Sh
  x : Nat
  u : Nat
  k : Cx
  h : Nat
def MJ (tp nb : Nat) (W : World) (S0 : TS) (PS : List Nat) (g : MG) (w : World) : Prop := TR tp nb g.S w ∧ G2 tp nb W w ∧ MI S0 g.S PS g.l g.r g.x g.u g.k g.h
set_option maxRecDepth 100000 in
set_option maxHeartbeats 8000000 in
theorem mend_at {tp nb : Nat} {S0 : TS} {PS : List Nat} {l r : Sh} {x u : Nat} {k : Cx} {h : Nat} (W : World) (hT : TR tp nb S0 W) (hm : MI S0 S0 PS l r x u k h) (h00 : (S0.N 0).red = false) : Calls Tryz.prog 119 #[ptr tp, .int .i64 x] W fun e W' => e = .returned (.tuple #[]) ∧ ∃ S', TR tp nb S' W' ∧ G2 tp nb W W' ∧ KS S0 S' ∧ WT S' PS ∧ S'.N 0 = S0.N 0 := by
  have H0 := Lib.hid h00
  have HS := Lib.hid (show MJ tp nb W S0 PS ⟨S0, l, r, x, u, k, h⟩ W from ⟨hT, g2_refl _ _ _, hm⟩)
  clear hT hm h00
  go_enter Tryz.func119, Tryz.ntmps119
  go_wp2
  refine wp_goto 0 (fun (g : MG) a w => Hid (MJ tp nb W S0 PS g w) ∧ ∃ ts : List Value, ts.length = 122 ∧ a = { tmps := (ptr tp :: .int .i64 g.x :: ts).toArray, defers := [] }) (fun g => g.k.length) rfl ⟨S0, l, r, x, u, k, h⟩ ⟨HS, _, rfl, rfl⟩ ?_
  clear HS
  rintro ⟨S, l, r, x, u, k, h⟩ a w ⟨HJ, ts, hts, rfl⟩
  obtain ⟨v, hv⟩ : ∃ v : Nat → Value, ts = [v 0, v 1, v 2, v 3, v 4, v 5, v 6, v 7, v 8, v 9, v 10, v 11, v 12, v 13, v 14, v 15, v 16, v 17, v 18, v 19, v 20, v 21, v 22, v 23, v 24, v 25, v 26, v 27, v 28, v 29, v 30, v 31, v 32, v 33, v 34, v 35, v 36, v 37, v 38, v 39, v 40, v 41, v 42, v 43, v 44, v 45, v 46, v 47, v 48, v 49, v 50, v 51, v 52, v 53, v 54, v 55, v 56, v 57, v 58, v 59, v 60, v 61, v 62, v 63, v 64, v 65, v 66, v 67, v 68, v 69, v 70, v 71, v 72, v 73, v 74, v 75, v 76, v 77, v 78, v 79, v 80, v 81, v 82, v 83, v 84, v 85, v 86, v 87, v 88, v 89, v 90, v 91, v 92, v 93, v 94, v 95, v 96, v 97, v 98, v 99, v 100, v 101, v 102, v 103, v 104, v 105, v 106, v 107, v 108, v 109, v 110, v 111, v 112, v 113, v 114, v 115, v 116, v 117, v 118, v 119, v 120, v 121] := ⟨fun i => ts.getD i undef, (list_exp ts).trans (by rw [hts]; rfl)⟩
  subst hv
  clear hts
  dsimp only at HJ ⊢
  have hT : TR tp nb S w := HJ.out.1
  have hG : G2 tp nb W w := HJ.out.2.1
  have hm : MI S0 S PS l r x u k h := HJ.out.2.2
  have hlt := z_lt hm.ks.ok hm.z
  have hxl : x < S.len := hlt.2.1
  have hul : u < S.len := hlt.2.2
  have hxu : (S.N x).u = u := hm.z.rt.2.2.2.1
  have hl := hT.ln
  have hne := hT.ne
  have c0 := hT.c0
  obtain ⟨-, xu, -⟩ := tr_node hT hxl
  rw [hxu] at xu
  have hx0 : x ≠ 0 := hm.z.rt.2.1
  cases hcr : cred k with
  | false =>
    have hur : (S.N u).red = false := by
      rcases repc_up hm.z.rk with ⟨rfl, _⟩ | _
      · rw [hm.o]; exact H0.out
      · cases k with
        | nil => obtain ⟨_, rfl⟩ := hm.z.rk; rw [hm.o]; exact H0.out
        | cons f k =>
          obtain ⟨e, _, hc, _⟩ := hm.z.rk
          rw [e, hc]; exact hcr
    obtain ⟨-, -, ured, -⟩ := tr_node hT hul
    rw [hur] at ured
    have c1 := hT.c1
    have hrl := hm.ks.ok.1
    obtain ⟨-, -, rred, -⟩ := tr_node hT hrl
    obtain ⟨rt, hrt⟩ : ∃ rt, S.root = rt := ⟨_, rfl⟩
    have hd := mend_done hm hcr H0.out
    have hTE := tr_drew (tr_c hT S.root false)
    rw [hrt] at c1 hrl rred hd hTE
    have HE := Lib.hid (And.intro hTE hd)
    have HG := Lib.hid hG
    have z1 := hT.zn (rt * 8 + 5)
    clear hT hm hG hlt hxu hrt hd hTE hur HJ
    go_wp2_with fail
    go_region
    go_wp2
    simp only [Exit.jump]
    exact bodyPost_ret (results_none rfl _ _ _) rfl ⟨rfl, _, HE.out.1, g2_drew (g2_n HG.out _ _), HE.out.2.1, HE.out.2.2.1, HE.out.2.2.2⟩
  | true =>
    match k, hcr with
    | ⟨fs, true, fx, s⟩ :: [], _ => exact absurd rfl hm.c.2.2.1
    | ⟨fs, true, fx, s⟩ :: ⟨gs, true, gx, us⟩ :: k, _ => have := hm.c.2.2.2.1; simp [cred] at this
    | ⟨fs, true, fx, s⟩ :: ⟨gs, false, gx, us⟩ :: k, _ =>
      obtain ⟨e1, f0, fc, fp, fsib, z2⟩ := z_up hm.z
      obtain ⟨e2, g0, gc, gp, gsib, z3⟩ := z_up z2
      replace e1 : u = fx := e1
      replace e2 : (S.N fx).u = gx := e2
      replace f0 : fx ≠ 0 := f0
      replace g0 : gx ≠ 0 := g0
      replace fc : (S.N fx).red = true := fc
      subst e1
      have hgl : gx < S.len := hlt.1 gx (by cases fs <;> cases gs <;> simp [lps, rps])
      obtain ⟨-, fu, fred, -⟩ := tr_node hT hul
      rw [e2] at fu
      rw [fc] at fred
      obtain ⟨⟨-, -, gl, gr⟩, -, gred, -⟩ := tr_node hT hgl
      obtain ⟨⟨-, -, fl, fr⟩, -⟩ := tr_node hT hul
      have nd := nd_cx hm.z.nd
      have hxctx := nd.2.2 x (by simp [Sh.ps])
      have hsx : ∀ p v, Rep S.N s p v → p ≠ x := fun p v hp e => by
        rcases rep_place hp with ⟨h1, _⟩ | ⟨_, h1, _⟩
        · exact hx0 (e.symm.trans h1)
        · exact hxctx (by rw [← e]; cases fs <;> simp [lps, rps, h1])
      have huf : ∀ p v, Rep S.N us p v → p ≠ u := fun p v hp e => by
        have n2 := nd_cx z2.nd
        rcases rep_place hp with ⟨h1, _⟩ | ⟨_, h1, _⟩
        · exact f0 (e.symm.trans h1)
        · exact n2.2.2 u (by cases fs <;> simp [Fr.plug, Sh.ps]) (by rw [← e]; cases gs <;> simp [lps, rps, h1])
      have hgu : gx ≠ u := fun e => (nd_cx z2.nd).2.2 u (by cases fs <;> simp [Fr.plug, Sh.ps]) (by rw [← e]; exact z_ctx_in (f := ⟨gs, false, gx, us⟩))
      have hgx : gx ≠ x := fun e => hxctx (by rw [← e]; cases fs <;> cases gs <;> simp [lps, rps])
      have hux' : u ≠ x := fun e => hxctx (by rw [← e]; exact z_ctx_in (f := ⟨fs, true, u, s⟩))
      have hgs : ∀ p v, Rep S.N us p v → gx ≠ p := fun p v hp e => by
        rcases rep_place hp with ⟨h1, _⟩ | ⟨_, h1, _⟩
        · exact g0 (e.trans h1)
        · have n4 := (nd_cx z3.nd).1
          rw [← e] at h1
          cases gs
          · exact (nd_n n4).2.2.2.1 h1
          · exact (nd_n n4).2.2.1 h1
      have i1 : ¬ (gx : Int) = (u : Int) := by omega
      have i2 : ¬ (u : Int) = (gx : Int) := by omega
      have i3 : ¬ (gx : Int) = (x : Int) := by omega
      have i4 : ¬ (x : Int) = (gx : Int) := by omega
      have j1 : ¬ u * 8 + 5 = gx * 8 + 5 := by omega
      have j2 : ¬ gx * 8 + 5 = u * 8 + 5 := by omega
      have j3 : ¬ x * 8 + 5 = gx * 8 + 5 := by omega
      cases gs
      · -- gs = false
        replace gp : (S.N gx).l = u := gp.symm
        replace gsib : Rep S.N us (S.N gx).r gx := gsib
        obtain ⟨ux, hux⟩ : ∃ ux, (S.N gx).r = ux := ⟨_, rfl⟩
        have hunl : ux < S.len := by rw [← hux]; exact (hm.ks.ok.2 gx hgl).2.1
        rw [gp] at gl
        rw [hux] at gr gsib
        have hne1 : ¬ (ux : Int) = (u : Int) := by have := huf _ _ gsib; omega
        have hb1 : ((ux : Int) == (u : Int)) = false := by simpa using hne1
        have hgu2 := hgs _ _ gsib
        have j4 : ¬ ux * 8 + 5 = gx * 8 + 5 := by omega
        have j5 : ¬ u * 8 + 5 = ux * 8 + 5 := by omega
        have ured0 := rep_red gsib (by rw [hm.o]; exact H0.out)
        obtain ⟨-, -, ured, -⟩ := tr_node hT hunl
        rw [ured0] at ured
        have C1 := Lib.hid (child_r hT gx hgl)
        have HG := Lib.hid hG
        have zf := hT.zn (u * 8 + 5)
        have zg := hT.zn (gx * 8 + 5)
        have zx := hT.zn (ux * 8 + 5)
        cases hus : us.red with
        | true =>
          rw [hus] at ured
          match us, hus with
          | .n true ul uy ur, _ =>
            obtain rfl : ux = uy := gsib.1
            obtain ⟨l', r', hm'⟩ := mend_uncle hm
            rw [show (S.N gx).u = (S.N gx).u from rfl] at hm'
            have HE := Lib.hid (And.intro (tr_drew (tr_c (tr_c (tr_c hT u false) ux false) gx true)) hm')
            have hcl : k.length < (⟨fs, true, u, s⟩ :: ⟨false, false, gx, .n true ul ux ur⟩ :: k : Cx).length := by simp; omega
            have HCL := Lib.hid hcl
            clear hT hm hG HJ hxu e2 fc fp fsib z2 z3 gp gsib gc hux hsx huf hgs nd hxctx hm' ured0 hcl hlt fl fr
            go_wp2_with (first
              | (go_at_call 117; refine (C1.out).mono ?_; clear C1; rintro e w1 ⟨rfl, rfl⟩)
              | fail)
            go_region
            go_wp2
            go_step3
            exact ⟨rfl, ⟨_, l', r', gx, (S.N gx).u, k, h + 1⟩, ⟨Lib.hid ⟨HE.out.1, g2_drew (g2_n (g2_n (g2_n HG.out _ _) _ _) _ _), HE.out.2⟩, _, rfl, rfl⟩, HCL.out⟩
        | false =>
          rw [hus] at ured
          have HU := Lib.hid hus
          cases fs
          · -- fs = false
            replace fp : (S.N u).l = x := fp.symm
            replace fsib : Rep S.N s (S.N u).r u := fsib
            have C2 := Lib.hid (child_r hT u hul)
            obtain ⟨sp, hsp⟩ : ∃ sp, (S.N u).r = sp := ⟨_, rfl⟩
            rw [hsp] at fr fsib
            rw [fp] at fl
            have hne2 : ¬ (sp : Int) = (x : Int) := by have := hsx _ _ fsib; omega
            have hb2 : ((sp : Int) == (x : Int)) = false := by simpa using hne2
            obtain ⟨s', hm'⟩ := mend_outer hm HU.out
            have hT1 := tr_drew (tr_c (tr_c hT u false) gx true)
            have C3 := Lib.hid (turn_at gx (!false) _ hT1 (ok_setc (ok_setc hm.ks.ok _ _) _ _) hgl)
            have HE := Lib.hid hm'
            have hcl : (⟨false, false, u, s'⟩ :: k : Cx).length < (⟨false, true, u, s⟩ :: ⟨false, false, gx, us⟩ :: k : Cx).length := by simp
            have HCL := Lib.hid hcl
            clear hT hm hG HJ hxu e2 fc fp fsib z2 z3 gp gsib gc hux hsx huf hgs nd hxctx hm' hT1 ured0 hcl hsp hlt hus
            go_wp2_with (first
              | (go_at_call 117; refine (C1.out).mono ?_; clear C1; rintro e w1 ⟨rfl, rfl⟩)
              | (go_at_call 117; refine (C2.out).mono ?_; clear C2; rintro e w2 ⟨rfl, rfl⟩)
              | fail)
            go_region
            go_wp2_with (first
              | (go_at_call 134; refine (C3.out).mono ?_; clear C3; rintro e w3 ⟨rfl, ht, hg⟩; have HT3 := Lib.hid ht; have HG3 := Lib.hid (g2_trans (g2_drew (g2_n (g2_n HG.out _ _) _ _)) hg); clear ht hg)
              | fail)
            go_step3
            exact ⟨rfl, ⟨_, l, r, x, u, _, h⟩, ⟨Lib.hid ⟨HT3.out, HG3.out, HE.out⟩, _, rfl, rfl⟩, HCL.out⟩
          · -- fs = true
            replace fp : (S.N u).r = x := fp.symm
            replace fsib : Rep S.N s (S.N u).l u := fsib
            have C2 := Lib.hid (child_r hT u hul)
            rw [fp] at fr
            obtain ⟨l1, r1, s1, hm1⟩ := mend_inner (gs := false) hm
            obtain ⟨s', hm'⟩ := mend_outer hm1 HU.out
            have C3 := Lib.hid (turn_at u false _ hT hm.ks.ok hul)
            have hx1 : x < (S.turn u false).len := by rw [hm1.ks.len, ← hm.ks.len]; exact hxl
            have hg1 : gx < (S.turn u false).len := by rw [hm1.ks.len, ← hm.ks.len]; exact hgl
            have NX := Lib.hid (fun (w1 : World) (k1 : TR tp nb (S.turn u false) w1) => (tr_node k1 hx1).2.2.1)
            have NG := Lib.hid (fun (w1 : World) (k1 : TR tp nb (S.turn u false) w1) => (tr_node k1 hg1).2.2.1)
            have C4 := Lib.hid (fun (w1 : World) (k1 : TR tp nb (S.turn u false) w1) => turn_at gx (!false) _ (tr_drew (tr_c (tr_c k1 x false) gx true)) (ok_setc (ok_setc hm1.ks.ok _ _) _ _) hg1)
            have HE := Lib.hid hm'
            have hcl : (⟨false, false, x, s'⟩ :: k : Cx).length < (⟨true, true, u, s⟩ :: ⟨false, false, gx, us⟩ :: k : Cx).length := by simp
            have HCL := Lib.hid hcl
            have hle : (S.turn u false).len = S.len := by rw [hm1.ks.len, ← hm.ks.len]
            have HLE := Lib.hid hle
            clear hT hm hG HJ hxu e2 fc fsib z2 z3 gp gsib gc hux hsx huf hgs nd hxctx hm' ured0 hcl hlt hus hm1 hx1 hg1 hle
            go_wp2_with (first
              | (go_at_call 117; refine (C1.out).mono ?_; clear C1; rintro e w1 ⟨rfl, rfl⟩)
              | (go_at_call 117; refine (C2.out).mono ?_; clear C2; rintro e w2 ⟨rfl, rfl⟩)
              | (go_at_call 134; refine (C3.out).mono ?_; clear C3; rintro e w3 ⟨rfl, ht, hg⟩; have HT3 := Lib.hid ht; have HG3 := Lib.hid (g2_trans HG.out hg); have d0 := ht.c0; rw [HLE.out] at d0; have d1 := NX.out _ ht; have d2 := NG.out _ ht; have dz1 := ht.zn (x * 8 + 5); have dz2 := ht.zn (gx * 8 + 5); clear ht hg)
              | fail)
            go_region
            go_wp2_with (first
              | (go_at_call 134; refine (C4.out _ HT3.out).mono ?_; clear C4; rintro e w4 ⟨rfl, ht, hg⟩; have HT4 := Lib.hid ht; have HG4 := Lib.hid (g2_trans (g2_drew (g2_n (g2_n HG3.out _ _) _ _)) hg); clear ht hg)
              | fail)
            go_step3
            exact ⟨rfl, ⟨_, l1, r1, u, x, _, h⟩, ⟨Lib.hid ⟨HT4.out, HG4.out, HE.out⟩, _, rfl, rfl⟩, HCL.out⟩
      · -- gs = true
        replace gp : (S.N gx).r = u := gp.symm
        replace gsib : Rep S.N us (S.N gx).l gx := gsib
        obtain ⟨ux, hux⟩ : ∃ ux, (S.N gx).l = ux := ⟨_, rfl⟩
        have hunl : ux < S.len := by rw [← hux]; exact (hm.ks.ok.2 gx hgl).1
        rw [gp] at gr
        rw [hux] at gl gsib
        have hne1 : ¬ (ux : Int) = (u : Int) := by have := huf _ _ gsib; omega
        have hb1 : ((ux : Int) == (u : Int)) = false := by simpa using hne1
        have hgu2 := hgs _ _ gsib
        have j4 : ¬ ux * 8 + 5 = gx * 8 + 5 := by omega
        have j5 : ¬ u * 8 + 5 = ux * 8 + 5 := by omega
        have ured0 := rep_red gsib (by rw [hm.o]; exact H0.out)
        obtain ⟨-, -, ured, -⟩ := tr_node hT hunl
        rw [ured0] at ured
        have C1 := Lib.hid (child_l hT gx hgl)
        have HG := Lib.hid hG
        have zf := hT.zn (u * 8 + 5)
        have zg := hT.zn (gx * 8 + 5)
        have zx := hT.zn (ux * 8 + 5)
        cases hus : us.red with
        | true =>
          rw [hus] at ured
          match us, hus with
          | .n true ul uy ur, _ =>
            obtain rfl : ux = uy := gsib.1
            obtain ⟨l', r', hm'⟩ := mend_uncle hm
            rw [show (S.N gx).u = (S.N gx).u from rfl] at hm'
            have HE := Lib.hid (And.intro (tr_drew (tr_c (tr_c (tr_c hT u false) ux false) gx true)) hm')
            have hcl : k.length < (⟨fs, true, u, s⟩ :: ⟨true, false, gx, .n true ul ux ur⟩ :: k : Cx).length := by simp; omega
            have HCL := Lib.hid hcl
            clear hT hm hG HJ hxu e2 fc fp fsib z2 z3 gp gsib gc hux hsx huf hgs nd hxctx hm' ured0 hcl hlt fl fr
            go_wp2_with (first
              | (go_at_call 117; refine (C1.out).mono ?_; clear C1; rintro e w1 ⟨rfl, rfl⟩)
              | fail)
            go_region
            go_wp2
            go_step3
            exact ⟨rfl, ⟨_, l', r', gx, (S.N gx).u, k, h + 1⟩, ⟨Lib.hid ⟨HE.out.1, g2_drew (g2_n (g2_n (g2_n HG.out _ _) _ _) _ _), HE.out.2⟩, _, rfl, rfl⟩, HCL.out⟩
        | false =>
          rw [hus] at ured
          have HU := Lib.hid hus
          cases fs
          · -- fs = false
            replace fp : (S.N u).l = x := fp.symm
            replace fsib : Rep S.N s (S.N u).r u := fsib
            have C2 := Lib.hid (child_l hT u hul)
            rw [fp] at fl
            obtain ⟨l1, r1, s1, hm1⟩ := mend_inner (gs := true) hm
            obtain ⟨s', hm'⟩ := mend_outer hm1 HU.out
            have C3 := Lib.hid (turn_at u true _ hT hm.ks.ok hul)
            have hx1 : x < (S.turn u true).len := by rw [hm1.ks.len, ← hm.ks.len]; exact hxl
            have hg1 : gx < (S.turn u true).len := by rw [hm1.ks.len, ← hm.ks.len]; exact hgl
            have NX := Lib.hid (fun (w1 : World) (k1 : TR tp nb (S.turn u true) w1) => (tr_node k1 hx1).2.2.1)
            have NG := Lib.hid (fun (w1 : World) (k1 : TR tp nb (S.turn u true) w1) => (tr_node k1 hg1).2.2.1)
            have C4 := Lib.hid (fun (w1 : World) (k1 : TR tp nb (S.turn u true) w1) => turn_at gx (!true) _ (tr_drew (tr_c (tr_c k1 x false) gx true)) (ok_setc (ok_setc hm1.ks.ok _ _) _ _) hg1)
            have HE := Lib.hid hm'
            have hcl : (⟨true, false, x, s'⟩ :: k : Cx).length < (⟨false, true, u, s⟩ :: ⟨true, false, gx, us⟩ :: k : Cx).length := by simp
            have HCL := Lib.hid hcl
            have hle : (S.turn u true).len = S.len := by rw [hm1.ks.len, ← hm.ks.len]
            have HLE := Lib.hid hle
            clear hT hm hG HJ hxu e2 fc fsib z2 z3 gp gsib gc hux hsx huf hgs nd hxctx hm' ured0 hcl hlt hus hm1 hx1 hg1 hle
            go_wp2_with (first
              | (go_at_call 117; refine (C1.out).mono ?_; clear C1; rintro e w1 ⟨rfl, rfl⟩)
              | (go_at_call 117; refine (C2.out).mono ?_; clear C2; rintro e w2 ⟨rfl, rfl⟩)
              | (go_at_call 134; refine (C3.out).mono ?_; clear C3; rintro e w3 ⟨rfl, ht, hg⟩; have HT3 := Lib.hid ht; have HG3 := Lib.hid (g2_trans HG.out hg); have d0 := ht.c0; rw [HLE.out] at d0; have d1 := NX.out _ ht; have d2 := NG.out _ ht; have dz1 := ht.zn (x * 8 + 5); have dz2 := ht.zn (gx * 8 + 5); clear ht hg)
              | fail)
            go_region
            go_wp2_with (first
              | (go_at_call 134; refine (C4.out _ HT3.out).mono ?_; clear C4; rintro e w4 ⟨rfl, ht, hg⟩; have HT4 := Lib.hid ht; have HG4 := Lib.hid (g2_trans (g2_drew (g2_n (g2_n HG3.out _ _) _ _)) hg); clear ht hg)
              | fail)
            go_step3
            exact ⟨rfl, ⟨_, l1, r1, u, x, _, h⟩, ⟨Lib.hid ⟨HT4.out, HG4.out, HE.out⟩, _, rfl, rfl⟩, HCL.out⟩
          · -- fs = true
            replace fp : (S.N u).r = x := fp.symm
            replace fsib : Rep S.N s (S.N u).l u := fsib
            have C2 := Lib.hid (child_l hT u hul)
            obtain ⟨sp, hsp⟩ : ∃ sp, (S.N u).l = sp := ⟨_, rfl⟩
            rw [hsp] at fl fsib
            rw [fp] at fr
            have hne2 : ¬ (sp : Int) = (x : Int) := by have := hsx _ _ fsib; omega
            have hb2 : ((sp : Int) == (x : Int)) = false := by simpa using hne2
            obtain ⟨s', hm'⟩ := mend_outer hm HU.out
            have hT1 := tr_drew (tr_c (tr_c hT u false) gx true)
            have C3 := Lib.hid (turn_at gx (!true) _ hT1 (ok_setc (ok_setc hm.ks.ok _ _) _ _) hgl)
            have HE := Lib.hid hm'
            have hcl : (⟨true, false, u, s'⟩ :: k : Cx).length < (⟨true, true, u, s⟩ :: ⟨true, false, gx, us⟩ :: k : Cx).length := by simp
            have HCL := Lib.hid hcl
            clear hT hm hG HJ hxu e2 fc fp fsib z2 z3 gp gsib gc hux hsx huf hgs nd hxctx hm' hT1 ured0 hcl hsp hlt hus
            go_wp2_with (first
              | (go_at_call 117; refine (C1.out).mono ?_; clear C1; rintro e w1 ⟨rfl, rfl⟩)
              | (go_at_call 117; refine (C2.out).mono ?_; clear C2; rintro e w2 ⟨rfl, rfl⟩)
              | fail)
            go_region
            go_wp2_with (first
              | (go_at_call 134; refine (C3.out).mono ?_; clear C3; rintro e w3 ⟨rfl, ht, hg⟩; have HT3 := Lib.hid ht; have HG3 := Lib.hid (g2_trans (g2_drew (g2_n (g2_n HG.out _ _) _ _)) hg); clear ht hg)
              | fail)
            go_step3
            exact ⟨rfl, ⟨_, l, r, x, u, _, h⟩, ⟨Lib.hid ⟨HT3.out, HG3.out, HE.out⟩, _, rfl, rfl⟩, HCL.out⟩
end Go.Proofs.YtlcaepcojglbiaaGreatDoor.Tp
namespace Go.Proofs.YtlcaepcojglbiaaGreatDoor.Tp
open Go.RowKit
set_option linter.unusedVariables false
set_option linter.unusedSimpArgs false
theorem childq_l {tp nb : Nat} {S : TS} {W : World} (h : TR tp nb S W) (x : Nat) (hx : x < S.len) : Calls Tryz.prog 117 #[ptr tp, .int .i64 x, .bool false] W fun e W' => e = .returned (.pointer (some ⟨nb, x * 8 + 2, none⟩)) ∧ W = W' := (child_l h x hx).mono fun e W' k => ⟨k.1, k.2.symm⟩
theorem childq_r {tp nb : Nat} {S : TS} {W : World} (h : TR tp nb S W) (x : Nat) (hx : x < S.len) : Calls Tryz.prog 117 #[ptr tp, .int .i64 x, .bool true] W fun e W' => e = .returned (.pointer (some ⟨nb, x * 8 + 3, none⟩)) ∧ W = W' := (child_r h x hx).mono fun e W' k => ⟨k.1, k.2.symm⟩
theorem fi_u {S0 S : TS} {PS : List Nat} {t : Sh} {x u : Nat} {k : Cx} {h : Nat} (m : FI S0 S PS t x u k h) : (S.N x).u = u := by
  rcases rep_place m.z.rt with ⟨h1, h2⟩ | ⟨_, _, h3⟩
  · rw [h1]; exact m.e h2
  · exact h3
theorem mu_red {t s : Sh} {fs : Bool} {u : Nat} {k : Cx} (ht : t.red = false) : FI.mu t (⟨fs, true, u, s⟩ :: k) = 1 := by
  unfold FI.mu
  rw [if_neg (by rw [ht]; simp)]
  rfl
theorem mu_black {t s : Sh} {fs : Bool} {u : Nat} {k : Cx} (ht : t.red = false) : FI.mu t (⟨fs, false, u, s⟩ :: k) = 2 + (k.length + 1) := by
  unfold FI.mu
  rw [if_neg (by rw [ht]; simp)]
  rfl
structure FG where
  S : TS
  t : Sh
  x : Nat
  u : Nat
  k : Cx
  h : Nat
def FJ (tp nb : Nat) (W : World) (S0 : TS) (PS : List Nat) (g : FG) (w : World) : Prop := TR tp nb g.S w ∧ G2 tp nb W w ∧ FI S0 g.S PS g.t g.x g.u g.k g.h
set_option maxRecDepth 100000 in
set_option maxHeartbeats 8000000 in
theorem fill_at {tp nb : Nat} {S0 : TS} {PS : List Nat} {t : Sh} {x u : Nat} {k : Cx} {h : Nat} (W : World) (hT : TR tp nb S0 W) (hm : FI S0 S0 PS t x u k h) (h00 : (S0.N 0).red = false) : Calls Tryz.prog 138 #[ptr tp, .int .i64 x] W fun e W' => e = .returned (.tuple #[]) ∧ ∃ S', TR tp nb S' W' ∧ G2 tp nb W W' ∧ KS S0 S' ∧ WT S' PS ∧ S'.N 0 = S0.N 0 := by
  have H0 := Lib.hid h00
  have HS := Lib.hid (show FJ tp nb W S0 PS ⟨S0, t, x, u, k, h⟩ W from ⟨hT, g2_refl _ _ _, hm⟩)
  clear hT hm h00
  go_enter Tryz.func138, Tryz.ntmps138
  go_wp2
  refine wp_goto 0 (fun (g : FG) a w => Hid (FJ tp nb W S0 PS g w) ∧ ∃ ts : List Value, ts.length = 201 ∧ a = { tmps := (ptr tp :: .int .i64 g.x :: ts).toArray, defers := [] }) (fun g => FI.mu g.t g.k) rfl ⟨S0, t, x, u, k, h⟩ ⟨HS, _, rfl, rfl⟩ ?_
  clear HS
  rintro ⟨S, t, x, u, k, h⟩ a w ⟨HJ, ts, hts, rfl⟩
  obtain ⟨v, hv⟩ : ∃ v : Nat → Value, ts = [v 0, v 1, v 2, v 3, v 4, v 5, v 6, v 7, v 8, v 9, v 10, v 11, v 12, v 13, v 14, v 15, v 16, v 17, v 18, v 19, v 20, v 21, v 22, v 23, v 24, v 25, v 26, v 27, v 28, v 29, v 30, v 31, v 32, v 33, v 34, v 35, v 36, v 37, v 38, v 39, v 40, v 41, v 42, v 43, v 44, v 45, v 46, v 47, v 48, v 49, v 50, v 51, v 52, v 53, v 54, v 55, v 56, v 57, v 58, v 59, v 60, v 61, v 62, v 63, v 64, v 65, v 66, v 67, v 68, v 69, v 70, v 71, v 72, v 73, v 74, v 75, v 76, v 77, v 78, v 79, v 80, v 81, v 82, v 83, v 84, v 85, v 86, v 87, v 88, v 89, v 90, v 91, v 92, v 93, v 94, v 95, v 96, v 97, v 98, v 99, v 100, v 101, v 102, v 103, v 104, v 105, v 106, v 107, v 108, v 109, v 110, v 111, v 112, v 113, v 114, v 115, v 116, v 117, v 118, v 119, v 120, v 121, v 122, v 123, v 124, v 125, v 126, v 127, v 128, v 129, v 130, v 131, v 132, v 133, v 134, v 135, v 136, v 137, v 138, v 139, v 140, v 141, v 142, v 143, v 144, v 145, v 146, v 147, v 148, v 149, v 150, v 151, v 152, v 153, v 154, v 155, v 156, v 157, v 158, v 159, v 160, v 161, v 162, v 163, v 164, v 165, v 166, v 167, v 168, v 169, v 170, v 171, v 172, v 173, v 174, v 175, v 176, v 177, v 178, v 179, v 180, v 181, v 182, v 183, v 184, v 185, v 186, v 187, v 188, v 189, v 190, v 191, v 192, v 193, v 194, v 195, v 196, v 197, v 198, v 199, v 200] := ⟨fun i => ts.getD i undef, (list_exp ts).trans (by rw [hts]; rfl)⟩
  subst hv
  clear hts
  dsimp only at HJ ⊢
  have hT : TR tp nb S w := HJ.out.1
  have hG : G2 tp nb W w := HJ.out.2.1
  have hm : FI S0 S PS t x u k h := HJ.out.2.2
  have hlt := z_lt hm.ks.ok hm.z
  have hxl : x < S.len := hlt.2.1
  have hul : u < S.len := hlt.2.2
  have hxu : (S.N x).u = u := fi_u hm
  have hl := hT.ln
  have hne := hT.ne
  have c0 := hT.c0
  have c1 := hT.c1
  have hxr : (S.N x).red = t.red := rep_red hm.z.rt (by rw [hm.o]; exact H0.out)
  obtain ⟨-, xu, xred, -⟩ := tr_node hT hxl
  rw [hxu] at xu
  rw [hxr] at xred
  have HG := Lib.hid hG
  obtain ⟨rt, hrt⟩ : ∃ rt, S.root = rt := ⟨_, rfl⟩
  rw [hrt] at c1
  by_cases hA : t.red = true ∨ k = []
  · have hd := fill_done hm hA H0.out
    have HE := Lib.hid (And.intro (tr_c hT x false) hd)
    have z1 := hT.zn (x * 8 + 5)
    by_cases hkn : k = []
    · subst hkn
      have e : rt = x := hrt.symm.trans hm.z.rk.1
      subst e
      clear hT hm hG hlt hxu hrt hd HJ hxr hA xu
      go_wp2
      simp only [Exit.jump]
      exact bodyPost_ret (results_none rfl _ _ _) rfl ⟨rfl, _, HE.out.1, g2_n HG.out _ _, HE.out.2.1, HE.out.2.2.1, HE.out.2.2.2⟩
    · have hr : t.red = true := hA.elim id fun e => absurd e hkn
      rw [hr] at xred
      have hrx : rt ≠ x := fun e => (plug_root hm.z hkn).1 (hrt.trans e)
      have hb1 : ((x : Int) == (rt : Int)) = false := by simp; omega
      clear hT hm hG hlt hxu hrt hd HJ hxr hA xu hr hkn
      go_wp2
      simp only [Exit.jump]
      exact bodyPost_ret (results_none rfl _ _ _) rfl ⟨rfl, _, HE.out.1, g2_n HG.out _ _, HE.out.2.1, HE.out.2.2.1, HE.out.2.2.2⟩
  · have htr : t.red = false := by
      cases e : t.red with
      | false => rfl
      | true => exact absurd (.inl e) hA
    have hkn : k ≠ [] := fun e => hA (.inr e)
    have hrx : rt ≠ x := fun e => (plug_root hm.z hkn).1 (hrt.trans e)
    have hbx : ((x : Int) == (rt : Int)) = false := by simp; omega
    rw [htr] at xred
    match k, hkn, hm, hlt, HJ with
    | ⟨fs, fc, fx, s⟩ :: k, _, hm, hlt, HJ =>
      have hsb : RBt s (h + 1) := by
        have := hm.c
        cases fc <;> exact this.1
      obtain ⟨wc, wl, w1, wr, rfl⟩ := fill_sib hsb
      obtain ⟨e1, f0, fcr, fp, fsib, z2⟩ := z_up hm.z
      replace e1 : u = fx := e1
      replace f0 : fx ≠ 0 := f0
      replace fcr : (S.N fx).red = fc := fcr
      subst e1
      have hwl : w1 < S.len := hlt.1 w1 (by cases fs <;> simp [lps, rps, Sh.ps])
      obtain ⟨⟨-, -, fl, fr⟩, -, fred, -⟩ := tr_node hT hul
      rw [fcr] at fred
      obtain ⟨⟨-, -, swl, swr⟩, -, swred, -⟩ := tr_node hT hwl
      have hxw : x ≠ w1 := fun e => by
        rcases rep_place hm.z.rt with ⟨h1, _⟩ | ⟨_, h1, _⟩
        · exact fsib.2.1 (e.symm.trans h1)
        · exact (nd_cx hm.z.nd).2.2 x h1 (by rw [e]; cases fs <;> simp [lps, rps, Sh.ps])
      have huw : u ≠ w1 := fun e => by
        have n4 := (nd_cx z2.nd).1
        cases fs
        · exact (nd_n n4).2.2.2.1 (by simp [Sh.ps, e])
        · exact (nd_n n4).2.2.1 (by simp [Sh.ps, e])
      have zf := hT.zn (u * 8 + 5)
      have zw := hT.zn (w1 * 8 + 5)
      have i1 : ¬ (w1 : Int) = (u : Int) := by omega
      have i2 : ¬ (u : Int) = (w1 : Int) := by omega
      have j1 : ¬ u * 8 + 5 = w1 * 8 + 5 := by omega
      have j2 : ¬ w1 * 8 + 5 = u * 8 + 5 := by omega
      have fcw : (S.N w1).red = wc := by cases fs <;> exact fsib.2.2.1
      rw [fcw] at swred
      cases fs
      · -- fs = false
        replace fp : (S.N u).l = x := fp.symm
        have fsp : (S.N u).r = w1 := fsib.1
        rw [fp] at fl
        rw [fsp] at fr
        have hbr : ((w1 : Int) == (x : Int)) = false := by simp; omega
        have C1 := Lib.hid (child_r hT u hul)
        cases wc with
        | true =>
          obtain ⟨s', f', hm'⟩ := fill_red hm
          have hT1 := tr_drew (tr_c (tr_c hT w1 false) u true)
          have C3 := Lib.hid (turn_at u false _ hT1 (ok_setc (ok_setc hm.ks.ok _ _) _ _) hul)
          have HE := Lib.hid hm'
          have hcl : FI.mu t (⟨false, true, u, s'⟩ :: f' :: k) < FI.mu t (⟨false, fc, u, .n true wl w1 wr⟩ :: k) := by
            have hfc : fc = false := by
              cases fc with
              | false => rfl
              | true => have := hm.c.2.1; simp [Sh.red] at this
            subst hfc
            rw [mu_red htr, mu_black htr]; omega
          have HCL := Lib.hid hcl
          clear hT hm hG HJ hxu hxr hrt fp fsib z2 fcr fsp hlt hm' hT1 hcl hsb hA fcw swl swr
          go_wp2_with (first
            | (go_at_call 117; refine (C1.out).mono ?_; clear C1; rintro e w2 ⟨rfl, rfl⟩)
            | fail)
          go_region
          go_wp2_with (first
            | (go_at_call 134; refine (C3.out).mono ?_; clear C3; rintro e w3 ⟨rfl, ht, hg⟩; have HT3 := Lib.hid ht; have HG3 := Lib.hid (g2_trans (g2_drew (g2_n (g2_n HG.out _ _) _ _)) hg); clear ht hg)
            | fail)
          go_step3
          exact ⟨rfl, ⟨_, t, x, u, _, h⟩, ⟨Lib.hid ⟨HT3.out, HG3.out, HE.out⟩, _, rfl, rfl⟩, HCL.out⟩
        | false =>
          obtain ⟨np, hnp⟩ : ∃ np, (S.N w1).l = np := ⟨_, rfl⟩
          obtain ⟨fp2, hfp2⟩ : ∃ fp2, (S.N w1).r = fp2 := ⟨_, rfl⟩
          have hnl : np < S.len := by rw [← hnp]; exact (hm.ks.ok.2 w1 hwl).1
          have hfl2 : fp2 < S.len := by rw [← hfp2]; exact (hm.ks.ok.2 w1 hwl).2.1
          have rpn : Rep S.N wl np w1 := by rw [← hnp]; exact fsib.2.2.2.2.1
          have rpf : Rep S.N wr fp2 w1 := by rw [← hfp2]; exact fsib.2.2.2.2.2
          rw [hnp] at swl
          rw [hfp2] at swr
          have nr0 := rep_red rpn (by rw [hm.o]; exact H0.out)
          have fr0 := rep_red rpf (by rw [hm.o]; exact H0.out)
          obtain ⟨-, -, nred, -⟩ := tr_node hT hnl
          obtain ⟨-, -, ffred, -⟩ := tr_node hT hfl2
          rw [nr0] at nred
          rw [fr0] at ffred
          have hT8 := tr_drew hT
          have C2 := Lib.hid (child_l (tr_drew hT) w1 hwl)
          have C2b := Lib.hid (child_r (tr_drew hT) w1 hwl)
          have hfsh : ∀ p v2, Rep S.N wr p v2 → p ≠ w1 ∧ p ≠ u := fun p v2 hp => by
            have n4 := (nd_cx z2.nd).1
            rcases rep_place hp with ⟨h1, _⟩ | ⟨_, h1, _⟩
            · exact ⟨fun e => fsib.2.1 (e.symm.trans h1), fun e => f0 (e.symm.trans h1)⟩
            · refine ⟨fun e => ?_, fun e => ?_⟩
              · have n5 := (nd_n n4).2.1
                exact (nd_n n5).2.2.2.1 (e ▸ h1)
              · exact (nd_n n4).2.2.2.1 (by simp [Sh.ps, ← e, h1])
          have hnsh : ∀ p v2, Rep S.N wl p v2 → p ≠ w1 ∧ p ≠ u := fun p v2 hp => by
            have n4 := (nd_cx z2.nd).1
            rcases rep_place hp with ⟨h1, _⟩ | ⟨_, h1, _⟩
            · exact ⟨fun e => fsib.2.1 (e.symm.trans h1), fun e => f0 (e.symm.trans h1)⟩
            · refine ⟨fun e => ?_, fun e => ?_⟩
              · have n5 := (nd_n n4).2.1
                exact (nd_n n5).2.2.1 (e ▸ h1)
              · exact (nd_n n4).2.2.2.1 (by simp [Sh.ps, ← e, h1])
          have g1 := (hfsh _ _ rpf).1
          have g2 := (hfsh _ _ rpf).2
          have g3 := (hnsh _ _ rpn).1
          have g4 := (hnsh _ _ rpn).2
          have g5 : ¬ fp2 * 8 + 5 = w1 * 8 + 5 := by omega
          have g6 : ¬ u * 8 + 5 = fp2 * 8 + 5 := by omega
          have g7 : ¬ w1 * 8 + 5 = fp2 * 8 + 5 := by omega
          have g8 : ¬ np * 8 + 5 = w1 * 8 + 5 := by omega
          have g9 : ¬ fp2 * 8 + 5 = u * 8 + 5 := by omega
          have y1 : ¬ (fp2 : Int) = (w1 : Int) := by omega
          have y2 : ¬ (fp2 : Int) = (u : Int) := by omega
          have y3 : ¬ (np : Int) = (w1 : Int) := by omega
          have y4 : ¬ (np : Int) = (u : Int) := by omega
          have y5 : ¬ (w1 : Int) = (fp2 : Int) := by omega
          have zp := hT.zn (fp2 * 8 + 5)
          have zq := hT.zn (np * 8 + 5)
          clear hfsh hnsh
          cases hfr : wr.red with
          | true =>
            rw [hfr] at ffred
            have hsh : ∃ fa fb, wr = .n true fa fp2 fb := by
              cases h9 : wr with
              | e => rw [h9] at hfr; simp [Sh.red] at hfr
              | n c9 l9 x9 r9 =>
                rw [h9] at hfr rpf
                have : c9 = true := hfr
                subst this
                exact ⟨l9, r9, by rw [rpf.1]⟩
            obtain ⟨fa, fb, e9⟩ := hsh
            have hm9 : FI S0 S PS t x u (⟨false, fc, u, if false then .n false (.n true fa fp2 fb) w1 wl else .n false wl w1 (.n true fa fp2 fb)⟩ :: k) h := by rw [← e9]; exact hm
            obtain ⟨T, h', hm'⟩ := fill_far hm9 htr
            have hTn := tr_drew (tr_c (tr_c (tr_c (tr_drew hT) w1 fc) u false) fp2 false)
            have C3 := Lib.hid (turn_at u false _ hTn (ok_setc (ok_setc (ok_setc hm.ks.ok _ _) _ _) _ _) hul)
            have HE := Lib.hid hm'
            have hcl : FI.mu T [] < FI.mu t (⟨false, fc, u, .n false wl w1 wr⟩ :: k) := by
              have h1 : FI.mu T [] = 0 := by unfold FI.mu; rw [if_pos (.inr rfl)]
              rw [h1]
              cases fc
              · rw [mu_black htr]; omega
              · rw [mu_red htr]; omega
            have HCL := Lib.hid hcl
            obtain ⟨nb0, hnb⟩ : ∃ nb0, wl.red = nb0 := ⟨_, rfl⟩
            rw [hnb] at nred
            clear hT hm hG HJ hxu hxr hrt fp fsib z2 fcr fsp hlt hm' hTn hcl hsb hA fcw rpn rpf nr0 fr0 hnp hfp2 hT8 hm9 e9 hfr hnb
            cases nb0
            all_goals
              go_wp2_with (first
                | (go_at_call 117; refine (C1.out).mono ?_; clear C1; rintro e w2 ⟨rfl, rfl⟩)
                | fail)
              go_region_held3 (fun W => W.cell? ⟨nb, w1 * 8 + 2, none⟩ = some (.int .i64 np) ∧ W.cell? ⟨nb, w1 * 8 + 3, none⟩ = some (.int .i64 fp2)) (first | exact ⟨swl, swr⟩ | assumption | (go_keep; done)) (first | (go_simp; go_at_call_of 117 (Value.bool false); (with_reducible (refine (C2.out).mono ?_)); rintro e w4 ⟨rfl, rfl⟩) | (go_simp; go_at_call_of 117 (Value.bool true); (with_reducible (refine (C2b.out).mono ?_)); rintro e w5 ⟨rfl, rfl⟩) | fail)
              go_wp2_with fail
              go_region
              go_wp2_with (first
                | (go_at_call 134; refine (C3.out).mono ?_; clear C3; rintro e w3 ⟨rfl, ht, hg⟩; have HT3 := Lib.hid ht; have HG3 := Lib.hid (g2_trans (g2_drew (g2_n (g2_n (g2_n (g2_drew HG.out) _ _) _ _) _ _)) hg); have d1 := ht.c1; clear ht hg)
                | fail)
              go_step3
              exact ⟨rfl, ⟨_, T, _, 0, [], h'⟩, ⟨Lib.hid ⟨HT3.out, HG3.out, HE.out⟩, _, rfl, rfl⟩, HCL.out⟩
          | false =>
            rw [hfr] at ffred
            cases hnr : wl.red with
            | false =>
              rw [hnr] at nred
              obtain ⟨t', h', hm', hcl⟩ := fill_both hm htr (by first | exact hnr | exact hfr) (by first | exact hfr | exact hnr)
              have HT := Lib.hid hT
              have HE := Lib.hid (And.intro hm' hcl)
              clear hT hm hG HJ hxu hxr hrt fp fsib z2 fcr fsp hlt hm' hcl hsb hA fcw rpn rpf nr0 fr0 hnp hfp2 hT8 hfr hnr
              go_wp2_with (first
                | (go_at_call 117; refine (C1.out).mono ?_; clear C1; rintro e w2 ⟨rfl, rfl⟩)
                | fail)
              go_region_held3 (fun W => W.cell? ⟨nb, w1 * 8 + 2, none⟩ = some (.int .i64 np) ∧ W.cell? ⟨nb, w1 * 8 + 3, none⟩ = some (.int .i64 fp2)) (first | exact ⟨swl, swr⟩ | assumption | (go_keep; done)) (first | (go_simp; go_at_call_of 117 (Value.bool false); (with_reducible (refine (C2.out).mono ?_)); rintro e w4 ⟨rfl, rfl⟩) | (go_simp; go_at_call_of 117 (Value.bool true); (with_reducible (refine (C2b.out).mono ?_)); rintro e w5 ⟨rfl, rfl⟩) | fail)
              go_wp2
              go_step3
              exact ⟨rfl, ⟨_, t', u, (S.N u).u, k, h'⟩, ⟨Lib.hid ⟨tr_c (tr_drew HT.out) _ _, g2_n (g2_drew HG.out) _ _, HE.out.1⟩, _, rfl, rfl⟩, HE.out.2⟩
            | true =>
              rw [hnr] at nred
              have hsh : ∃ a9 b9, wl = .n true a9 np b9 := by
                cases h9 : wl with
                | e => rw [h9] at hnr; simp [Sh.red] at hnr
                | n c9 l9 x9 r9 =>
                  rw [h9] at hnr rpn
                  have : c9 = true := hnr
                  subst this
                  exact ⟨l9, r9, by rw [rpn.1]⟩
              obtain ⟨a9, b9, e9⟩ := hsh
              have hm9 : FI S0 S PS t x u (⟨false, fc, u, if false then .n false wr w1 (.n true a9 np b9) else .n false (.n true a9 np b9) w1 wr⟩ :: k) h := by rw [← e9]; exact hm
              obtain ⟨na1, fl1, fb1, hm1⟩ := fill_near hm9 hfr
              obtain ⟨T, h', hm'⟩ := fill_far (fs := false) hm1 htr
              have z9 := z_up hm1.z
              have hTn := tr_drew (tr_c (tr_c (tr_drew hT) np false) w1 true)
              have C3 := Lib.hid (turn_at w1 (!false) _ hTn (ok_setc (ok_setc hm.ks.ok _ _) _ _) hwl)
              obtain ⟨S1, hS1⟩ : ∃ S1, (((S.setc np false).setc w1 true).turn w1 !false) = S1 := ⟨_, rfl⟩
              rw [hS1] at hm1 hm' z9 C3
              have hle : S1.len = S.len := by rw [hm1.ks.len, ← hm.ks.len]
              have q1 : (S1.N u).r = np := z9.2.2.2.2.1.1
              have q2 : (S1.N np).r = w1 := z9.2.2.2.2.1.2.2.2.2.2.1
              have q3 : (S1.N u).red = fc := z9.2.2.1
              have hul1 : u < S1.len := by rw [hle]; exact hul
              have hnl1 : np < S1.len := by rw [hle]; exact hnl
              have hwl1 : w1 < S1.len := by rw [hle]; exact hwl
              have C4 := Lib.hid (fun (w3 : World) (k3 : TR tp nb S1 w3) => child_r k3 u hul1)
              have C5 := Lib.hid (fun (w3 : World) (k3 : TR tp nb S1 w3) => child_r k3 np hnl1)
              have NF := Lib.hid (fun (w3 : World) (k3 : TR tp nb S1 w3) => (show (w3.cell? ⟨nb, u * 8 + 3, none⟩ = some (.int .i64 np) ∧ w3.cell? ⟨nb, u * 8 + 5, none⟩ = some (.bool fc)) ∧ (w3.cell? ⟨nb, np * 8 + 3, none⟩ = some (.int .i64 w1) ∧ w3.cell? ⟨nb, np * 8 + 5, none⟩ = some (.bool (S1.N np).red)) ∧ w3.cell? ⟨nb, w1 * 8 + 5, none⟩ = some (.bool (S1.N w1).red) from by
                have t1 := tr_node k3 hul1
                have t2 := tr_node k3 hnl1
                have t3 := tr_node k3 hwl1
                rw [← q1, ← q2, ← q3]
                rw [q1, q2]
                exact ⟨⟨by rw [← q1]; exact t1.1.2.2.2, t1.2.2.1⟩, ⟨by rw [← q2]; exact t2.1.2.2.2, t2.2.2.1⟩, t3.2.2.1⟩))
              have C6 := Lib.hid (fun (w3 : World) (k3 : TR tp nb S1 w3) => turn_at u false _ (tr_drew (tr_c (tr_c (tr_c k3 np fc) u false) w1 false)) (ok_setc (ok_setc (ok_setc hm1.ks.ok _ _) _ _) _ _) hul1)
              have HE := Lib.hid hm'
              have hcl : FI.mu T [] < FI.mu t (⟨false, fc, u, .n false wl w1 wr⟩ :: k) := by
                have h1 : FI.mu T [] = 0 := by unfold FI.mu; rw [if_pos (.inr rfl)]
                rw [h1]
                cases fc
                · rw [mu_black htr]; omega
                · rw [mu_red htr]; omega
              have HCL := Lib.hid hcl
              have HLE := Lib.hid hle
              have o1 : ¬ np * 8 + 5 = u * 8 + 5 := by omega
              have o2 : ¬ u * 8 + 5 = np * 8 + 5 := by omega
              have o3 : ¬ w1 * 8 + 5 = np * 8 + 5 := by omega
              have o4 : ¬ (u : Int) = (np : Int) := by omega
              have o5 : ¬ (w1 : Int) = (np : Int) := by omega
              clear hT hm hG HJ hxu hxr hrt fp fsib z2 fcr fsp hlt hm' hTn hcl hsb hA fcw rpn rpf nr0 fr0 hnp hfp2 hT8 hm9 e9 hfr hnr hm1 z9 hS1 q1 q2 q3 hle hul1 hnl1 hwl1
              go_wp2_with (first
                | (go_at_call 117; refine (C1.out).mono ?_; clear C1; rintro e w2 ⟨rfl, rfl⟩)
                | fail)
              go_region_held3 (fun W => W.cell? ⟨nb, w1 * 8 + 2, none⟩ = some (.int .i64 np) ∧ W.cell? ⟨nb, w1 * 8 + 3, none⟩ = some (.int .i64 fp2)) (first | exact ⟨swl, swr⟩ | assumption | (go_keep; done)) (first | (go_simp; go_at_call_of 117 (Value.bool false); (with_reducible (refine (C2.out).mono ?_)); rintro e w4 ⟨rfl, rfl⟩) | (go_simp; go_at_call_of 117 (Value.bool true); (with_reducible (refine (C2b.out).mono ?_)); rintro e w5 ⟨rfl, rfl⟩) | fail)
              go_wp2_with fail
              go_region
              go_wp2_with (first
                | (go_at_call 134; refine (C3.out).mono ?_; clear C3; rintro e w3 ⟨rfl, ht, hg⟩; have HT3 := Lib.hid ht; have HG3 := Lib.hid (g2_trans (g2_drew (g2_n (g2_n (g2_drew HG.out) _ _) _ _)) hg); obtain ⟨⟨n1, n2⟩, ⟨n3, n4⟩, n5⟩ := NF.out _ ht; have d0 := ht.c0; rw [HLE.out] at d0; have dz1 := ht.zn (np * 8 + 5); have dz2 := ht.zn (u * 8 + 5); have dz3 := ht.zn (w1 * 8 + 5); clear ht hg)
                | (go_at_call 117; refine (C4.out _ HT3.out).mono ?_; clear C4; rintro e w4 ⟨rfl, rfl⟩)
                | (go_at_call 117; refine (C5.out _ HT3.out).mono ?_; clear C5; rintro e w5 ⟨rfl, rfl⟩)
                | fail)
              go_region
              go_wp2_with (first
                | (go_at_call 134; refine (C6.out _ HT3.out).mono ?_; clear C6; rintro e w6 ⟨rfl, ht, hg⟩; have HT6 := Lib.hid ht; have HG6 := Lib.hid (g2_trans (g2_drew (g2_n (g2_n (g2_n HG3.out _ _) _ _) _ _)) hg); have d1 := ht.c1; clear ht hg)
                | fail)
              go_step3
              exact ⟨rfl, ⟨_, T, _, 0, [], h'⟩, ⟨Lib.hid ⟨HT6.out, HG6.out, HE.out⟩, _, rfl, rfl⟩, HCL.out⟩
      · -- fs = true
        replace fp : (S.N u).r = x := fp.symm
        have fsp : (S.N u).l = w1 := fsib.1
        rw [fp] at fr
        rw [fsp] at fl
        have hbr : ((w1 : Int) == (x : Int)) = false := by simp; omega
        have C1 := Lib.hid (child_l hT u hul)
        cases wc with
        | true =>
          obtain ⟨s', f', hm'⟩ := fill_red hm
          have hT1 := tr_drew (tr_c (tr_c hT w1 false) u true)
          have C3 := Lib.hid (turn_at u true _ hT1 (ok_setc (ok_setc hm.ks.ok _ _) _ _) hul)
          have HE := Lib.hid hm'
          have hcl : FI.mu t (⟨true, true, u, s'⟩ :: f' :: k) < FI.mu t (⟨true, fc, u, .n true wl w1 wr⟩ :: k) := by
            have hfc : fc = false := by
              cases fc with
              | false => rfl
              | true => have := hm.c.2.1; simp [Sh.red] at this
            subst hfc
            rw [mu_red htr, mu_black htr]; omega
          have HCL := Lib.hid hcl
          clear hT hm hG HJ hxu hxr hrt fp fsib z2 fcr fsp hlt hm' hT1 hcl hsb hA fcw swl swr
          go_wp2_with (first
            | (go_at_call 117; refine (C1.out).mono ?_; clear C1; rintro e w2 ⟨rfl, rfl⟩)
            | fail)
          go_region
          go_wp2_with (first
            | (go_at_call 134; refine (C3.out).mono ?_; clear C3; rintro e w3 ⟨rfl, ht, hg⟩; have HT3 := Lib.hid ht; have HG3 := Lib.hid (g2_trans (g2_drew (g2_n (g2_n HG.out _ _) _ _)) hg); clear ht hg)
            | fail)
          go_step3
          exact ⟨rfl, ⟨_, t, x, u, _, h⟩, ⟨Lib.hid ⟨HT3.out, HG3.out, HE.out⟩, _, rfl, rfl⟩, HCL.out⟩
        | false =>
          obtain ⟨np, hnp⟩ : ∃ np, (S.N w1).r = np := ⟨_, rfl⟩
          obtain ⟨fp2, hfp2⟩ : ∃ fp2, (S.N w1).l = fp2 := ⟨_, rfl⟩
          have hnl : np < S.len := by rw [← hnp]; exact (hm.ks.ok.2 w1 hwl).2.1
          have hfl2 : fp2 < S.len := by rw [← hfp2]; exact (hm.ks.ok.2 w1 hwl).1
          have rpn : Rep S.N wr np w1 := by rw [← hnp]; exact fsib.2.2.2.2.2
          have rpf : Rep S.N wl fp2 w1 := by rw [← hfp2]; exact fsib.2.2.2.2.1
          rw [hnp] at swr
          rw [hfp2] at swl
          have nr0 := rep_red rpn (by rw [hm.o]; exact H0.out)
          have fr0 := rep_red rpf (by rw [hm.o]; exact H0.out)
          obtain ⟨-, -, nred, -⟩ := tr_node hT hnl
          obtain ⟨-, -, ffred, -⟩ := tr_node hT hfl2
          rw [nr0] at nred
          rw [fr0] at ffred
          have hT8 := tr_drew hT
          have C2 := Lib.hid (child_r (tr_drew hT) w1 hwl)
          have C2b := Lib.hid (child_l (tr_drew hT) w1 hwl)
          have hfsh : ∀ p v2, Rep S.N wl p v2 → p ≠ w1 ∧ p ≠ u := fun p v2 hp => by
            have n4 := (nd_cx z2.nd).1
            rcases rep_place hp with ⟨h1, _⟩ | ⟨_, h1, _⟩
            · exact ⟨fun e => fsib.2.1 (e.symm.trans h1), fun e => f0 (e.symm.trans h1)⟩
            · refine ⟨fun e => ?_, fun e => ?_⟩
              · have n5 := (nd_n n4).1
                exact (nd_n n5).2.2.1 (e ▸ h1)
              · exact (nd_n n4).2.2.1 (by simp [Sh.ps, ← e, h1])
          have hnsh : ∀ p v2, Rep S.N wr p v2 → p ≠ w1 ∧ p ≠ u := fun p v2 hp => by
            have n4 := (nd_cx z2.nd).1
            rcases rep_place hp with ⟨h1, _⟩ | ⟨_, h1, _⟩
            · exact ⟨fun e => fsib.2.1 (e.symm.trans h1), fun e => f0 (e.symm.trans h1)⟩
            · refine ⟨fun e => ?_, fun e => ?_⟩
              · have n5 := (nd_n n4).1
                exact (nd_n n5).2.2.2.1 (e ▸ h1)
              · exact (nd_n n4).2.2.1 (by simp [Sh.ps, ← e, h1])
          have g1 := (hfsh _ _ rpf).1
          have g2 := (hfsh _ _ rpf).2
          have g3 := (hnsh _ _ rpn).1
          have g4 := (hnsh _ _ rpn).2
          have g5 : ¬ fp2 * 8 + 5 = w1 * 8 + 5 := by omega
          have g6 : ¬ u * 8 + 5 = fp2 * 8 + 5 := by omega
          have g7 : ¬ w1 * 8 + 5 = fp2 * 8 + 5 := by omega
          have g8 : ¬ np * 8 + 5 = w1 * 8 + 5 := by omega
          have g9 : ¬ fp2 * 8 + 5 = u * 8 + 5 := by omega
          have y1 : ¬ (fp2 : Int) = (w1 : Int) := by omega
          have y2 : ¬ (fp2 : Int) = (u : Int) := by omega
          have y3 : ¬ (np : Int) = (w1 : Int) := by omega
          have y4 : ¬ (np : Int) = (u : Int) := by omega
          have y5 : ¬ (w1 : Int) = (fp2 : Int) := by omega
          have zp := hT.zn (fp2 * 8 + 5)
          have zq := hT.zn (np * 8 + 5)
          clear hfsh hnsh
          cases hfr : wl.red with
          | true =>
            rw [hfr] at ffred
            have hsh : ∃ fa fb, wl = .n true fa fp2 fb := by
              cases h9 : wl with
              | e => rw [h9] at hfr; simp [Sh.red] at hfr
              | n c9 l9 x9 r9 =>
                rw [h9] at hfr rpf
                have : c9 = true := hfr
                subst this
                exact ⟨l9, r9, by rw [rpf.1]⟩
            obtain ⟨fa, fb, e9⟩ := hsh
            have hm9 : FI S0 S PS t x u (⟨true, fc, u, if true then .n false (.n true fa fp2 fb) w1 wr else .n false wr w1 (.n true fa fp2 fb)⟩ :: k) h := by rw [← e9]; exact hm
            obtain ⟨T, h', hm'⟩ := fill_far hm9 htr
            have hTn := tr_drew (tr_c (tr_c (tr_c (tr_drew hT) w1 fc) u false) fp2 false)
            have C3 := Lib.hid (turn_at u true _ hTn (ok_setc (ok_setc (ok_setc hm.ks.ok _ _) _ _) _ _) hul)
            have HE := Lib.hid hm'
            have hcl : FI.mu T [] < FI.mu t (⟨true, fc, u, .n false wl w1 wr⟩ :: k) := by
              have h1 : FI.mu T [] = 0 := by unfold FI.mu; rw [if_pos (.inr rfl)]
              rw [h1]
              cases fc
              · rw [mu_black htr]; omega
              · rw [mu_red htr]; omega
            have HCL := Lib.hid hcl
            obtain ⟨nb0, hnb⟩ : ∃ nb0, wr.red = nb0 := ⟨_, rfl⟩
            rw [hnb] at nred
            clear hT hm hG HJ hxu hxr hrt fp fsib z2 fcr fsp hlt hm' hTn hcl hsb hA fcw rpn rpf nr0 fr0 hnp hfp2 hT8 hm9 e9 hfr hnb
            cases nb0
            all_goals
              go_wp2_with (first
                | (go_at_call 117; refine (C1.out).mono ?_; clear C1; rintro e w2 ⟨rfl, rfl⟩)
                | fail)
              go_region_held3 (fun W => W.cell? ⟨nb, w1 * 8 + 2, none⟩ = some (.int .i64 fp2) ∧ W.cell? ⟨nb, w1 * 8 + 3, none⟩ = some (.int .i64 np)) (first | exact ⟨swl, swr⟩ | assumption | (go_keep; done)) (first | (go_simp; go_at_call_of 117 (Value.bool true); (with_reducible (refine (C2.out).mono ?_)); rintro e w4 ⟨rfl, rfl⟩) | (go_simp; go_at_call_of 117 (Value.bool false); (with_reducible (refine (C2b.out).mono ?_)); rintro e w5 ⟨rfl, rfl⟩) | fail)
              go_wp2_with fail
              go_region
              go_wp2_with (first
                | (go_at_call 134; refine (C3.out).mono ?_; clear C3; rintro e w3 ⟨rfl, ht, hg⟩; have HT3 := Lib.hid ht; have HG3 := Lib.hid (g2_trans (g2_drew (g2_n (g2_n (g2_n (g2_drew HG.out) _ _) _ _) _ _)) hg); have d1 := ht.c1; clear ht hg)
                | fail)
              go_step3
              exact ⟨rfl, ⟨_, T, _, 0, [], h'⟩, ⟨Lib.hid ⟨HT3.out, HG3.out, HE.out⟩, _, rfl, rfl⟩, HCL.out⟩
          | false =>
            rw [hfr] at ffred
            cases hnr : wr.red with
            | false =>
              rw [hnr] at nred
              obtain ⟨t', h', hm', hcl⟩ := fill_both hm htr (by first | exact hnr | exact hfr) (by first | exact hfr | exact hnr)
              have HT := Lib.hid hT
              have HE := Lib.hid (And.intro hm' hcl)
              clear hT hm hG HJ hxu hxr hrt fp fsib z2 fcr fsp hlt hm' hcl hsb hA fcw rpn rpf nr0 fr0 hnp hfp2 hT8 hfr hnr
              go_wp2_with (first
                | (go_at_call 117; refine (C1.out).mono ?_; clear C1; rintro e w2 ⟨rfl, rfl⟩)
                | fail)
              go_region_held3 (fun W => W.cell? ⟨nb, w1 * 8 + 2, none⟩ = some (.int .i64 fp2) ∧ W.cell? ⟨nb, w1 * 8 + 3, none⟩ = some (.int .i64 np)) (first | exact ⟨swl, swr⟩ | assumption | (go_keep; done)) (first | (go_simp; go_at_call_of 117 (Value.bool true); (with_reducible (refine (C2.out).mono ?_)); rintro e w4 ⟨rfl, rfl⟩) | (go_simp; go_at_call_of 117 (Value.bool false); (with_reducible (refine (C2b.out).mono ?_)); rintro e w5 ⟨rfl, rfl⟩) | fail)
              go_wp2
              go_step3
              exact ⟨rfl, ⟨_, t', u, (S.N u).u, k, h'⟩, ⟨Lib.hid ⟨tr_c (tr_drew HT.out) _ _, g2_n (g2_drew HG.out) _ _, HE.out.1⟩, _, rfl, rfl⟩, HE.out.2⟩
            | true =>
              rw [hnr] at nred
              have hsh : ∃ a9 b9, wr = .n true a9 np b9 := by
                cases h9 : wr with
                | e => rw [h9] at hnr; simp [Sh.red] at hnr
                | n c9 l9 x9 r9 =>
                  rw [h9] at hnr rpn
                  have : c9 = true := hnr
                  subst this
                  exact ⟨l9, r9, by rw [rpn.1]⟩
              obtain ⟨a9, b9, e9⟩ := hsh
              have hm9 : FI S0 S PS t x u (⟨true, fc, u, if true then .n false wl w1 (.n true a9 np b9) else .n false (.n true a9 np b9) w1 wl⟩ :: k) h := by rw [← e9]; exact hm
              obtain ⟨na1, fl1, fb1, hm1⟩ := fill_near hm9 hfr
              obtain ⟨T, h', hm'⟩ := fill_far (fs := true) hm1 htr
              have z9 := z_up hm1.z
              have hTn := tr_drew (tr_c (tr_c (tr_drew hT) np false) w1 true)
              have C3 := Lib.hid (turn_at w1 (!true) _ hTn (ok_setc (ok_setc hm.ks.ok _ _) _ _) hwl)
              obtain ⟨S1, hS1⟩ : ∃ S1, (((S.setc np false).setc w1 true).turn w1 !true) = S1 := ⟨_, rfl⟩
              rw [hS1] at hm1 hm' z9 C3
              have hle : S1.len = S.len := by rw [hm1.ks.len, ← hm.ks.len]
              have q1 : (S1.N u).l = np := z9.2.2.2.2.1.1
              have q2 : (S1.N np).l = w1 := z9.2.2.2.2.1.2.2.2.2.1.1
              have q3 : (S1.N u).red = fc := z9.2.2.1
              have hul1 : u < S1.len := by rw [hle]; exact hul
              have hnl1 : np < S1.len := by rw [hle]; exact hnl
              have hwl1 : w1 < S1.len := by rw [hle]; exact hwl
              have C4 := Lib.hid (fun (w3 : World) (k3 : TR tp nb S1 w3) => child_l k3 u hul1)
              have C5 := Lib.hid (fun (w3 : World) (k3 : TR tp nb S1 w3) => child_l k3 np hnl1)
              have NF := Lib.hid (fun (w3 : World) (k3 : TR tp nb S1 w3) => (show (w3.cell? ⟨nb, u * 8 + 2, none⟩ = some (.int .i64 np) ∧ w3.cell? ⟨nb, u * 8 + 5, none⟩ = some (.bool fc)) ∧ (w3.cell? ⟨nb, np * 8 + 2, none⟩ = some (.int .i64 w1) ∧ w3.cell? ⟨nb, np * 8 + 5, none⟩ = some (.bool (S1.N np).red)) ∧ w3.cell? ⟨nb, w1 * 8 + 5, none⟩ = some (.bool (S1.N w1).red) from by
                have t1 := tr_node k3 hul1
                have t2 := tr_node k3 hnl1
                have t3 := tr_node k3 hwl1
                rw [← q1, ← q2, ← q3]
                rw [q1, q2]
                exact ⟨⟨by rw [← q1]; exact t1.1.2.2.1, t1.2.2.1⟩, ⟨by rw [← q2]; exact t2.1.2.2.1, t2.2.2.1⟩, t3.2.2.1⟩))
              have C6 := Lib.hid (fun (w3 : World) (k3 : TR tp nb S1 w3) => turn_at u true _ (tr_drew (tr_c (tr_c (tr_c k3 np fc) u false) w1 false)) (ok_setc (ok_setc (ok_setc hm1.ks.ok _ _) _ _) _ _) hul1)
              have HE := Lib.hid hm'
              have hcl : FI.mu T [] < FI.mu t (⟨true, fc, u, .n false wl w1 wr⟩ :: k) := by
                have h1 : FI.mu T [] = 0 := by unfold FI.mu; rw [if_pos (.inr rfl)]
                rw [h1]
                cases fc
                · rw [mu_black htr]; omega
                · rw [mu_red htr]; omega
              have HCL := Lib.hid hcl
              have HLE := Lib.hid hle
              have o1 : ¬ np * 8 + 5 = u * 8 + 5 := by omega
              have o2 : ¬ u * 8 + 5 = np * 8 + 5 := by omega
              have o3 : ¬ w1 * 8 + 5 = np * 8 + 5 := by omega
              have o4 : ¬ (u : Int) = (np : Int) := by omega
              have o5 : ¬ (w1 : Int) = (np : Int) := by omega
              clear hT hm hG HJ hxu hxr hrt fp fsib z2 fcr fsp hlt hm' hTn hcl hsb hA fcw rpn rpf nr0 fr0 hnp hfp2 hT8 hm9 e9 hfr hnr hm1 z9 hS1 q1 q2 q3 hle hul1 hnl1 hwl1
              go_wp2_with (first
                | (go_at_call 117; refine (C1.out).mono ?_; clear C1; rintro e w2 ⟨rfl, rfl⟩)
                | fail)
              go_region_held3 (fun W => W.cell? ⟨nb, w1 * 8 + 2, none⟩ = some (.int .i64 fp2) ∧ W.cell? ⟨nb, w1 * 8 + 3, none⟩ = some (.int .i64 np)) (first | exact ⟨swl, swr⟩ | assumption | (go_keep; done)) (first | (go_simp; go_at_call_of 117 (Value.bool true); (with_reducible (refine (C2.out).mono ?_)); rintro e w4 ⟨rfl, rfl⟩) | (go_simp; go_at_call_of 117 (Value.bool false); (with_reducible (refine (C2b.out).mono ?_)); rintro e w5 ⟨rfl, rfl⟩) | fail)
              go_wp2_with fail
              go_region
              go_wp2_with (first
                | (go_at_call 134; refine (C3.out).mono ?_; clear C3; rintro e w3 ⟨rfl, ht, hg⟩; have HT3 := Lib.hid ht; have HG3 := Lib.hid (g2_trans (g2_drew (g2_n (g2_n (g2_drew HG.out) _ _) _ _)) hg); obtain ⟨⟨n1, n2⟩, ⟨n3, n4⟩, n5⟩ := NF.out _ ht; have d0 := ht.c0; rw [HLE.out] at d0; have dz1 := ht.zn (np * 8 + 5); have dz2 := ht.zn (u * 8 + 5); have dz3 := ht.zn (w1 * 8 + 5); clear ht hg)
                | (go_at_call 117; refine (C4.out _ HT3.out).mono ?_; clear C4; rintro e w4 ⟨rfl, rfl⟩)
                | (go_at_call 117; refine (C5.out _ HT3.out).mono ?_; clear C5; rintro e w5 ⟨rfl, rfl⟩)
                | fail)
              go_region
              go_wp2_with (first
                | (go_at_call 134; refine (C6.out _ HT3.out).mono ?_; clear C6; rintro e w6 ⟨rfl, ht, hg⟩; have HT6 := Lib.hid ht; have HG6 := Lib.hid (g2_trans (g2_drew (g2_n (g2_n (g2_n HG3.out _ _) _ _) _ _)) hg); have d1 := ht.c1; clear ht hg)
                | fail)
              go_step3
              exact ⟨rfl, ⟨_, T, _, 0, [], h'⟩, ⟨Lib.hid ⟨HT6.out, HG6.out, HE.out⟩, _, rfl, rfl⟩, HCL.out⟩
end Go.Proofs.YtlcaepcojglbiaaGreatDoor.Tp
