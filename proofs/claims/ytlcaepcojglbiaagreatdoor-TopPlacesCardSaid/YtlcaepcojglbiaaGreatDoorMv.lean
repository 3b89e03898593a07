/- The engine: a cpu goes off: a part of the walk of the whole machine. For all states that the readings allow. -/
import Derived.Deep.RegionHeld3
import Derived.Test.YtlcaepcojglbiaaGreatDoorMu
import Derived.Test.YtlcaepcojglbiaaGreatDoorMm
namespace Go.Proofs.YtlcaepcojglbiaaGreatDoor.Tp
open Go.RowKit Go.Maps
set_option linter.unusedVariables false
set_option linter.unusedSimpArgs false
section
variable {A : EA} {E : En} {M : GM}
theorem base_cancel {i : Nat} {t : Tm} {w : World} (h : ER A E w) (hE : EI E M) (hM : M t.id = some (i, t)) : Calls Tryz.prog 44 #[ptr (A.ba i).bb, .int .i64 t.id] w fun e w' => e = .returned (.tuple #[tmv t, .bool true]) ∧ ER A (E.take i t) w' ∧ GF (A.has E.n) w w' := by
  obtain ⟨-, hi, -, hw, hc, -⟩ := hE.dom _ _ _ hM
  have hs := sel_lt hc
  have ht := (hE.mem i hi _ hs t).2 ⟨hM, rfl⟩
  have hno : ∀ j, j < sel t → hasId t.id ((E.c i).b j) = false := fun j hj => by
    cases e : hasId t.id ((E.c i).b j) with
    | false => rfl
    | true =>
      obtain ⟨u, hu, hue⟩ := hasId_iff.1 e
      obtain ⟨h1, h2⟩ := ei_some hE hi (by omega) hu
      rw [hue, hM] at h1
      cases h1
      omega
  refine (bcancel_yes t w (h.br i hi) hw.id hs ht hno).mono ?_
  rintro e w' ⟨rfl, hb, hg⟩
  have hf : GF (A.ba i).has w w' := gf_mono hg fun x hx => foot_has x ⟨_, hs, hx⟩
  exact ⟨rfl, er_base h hi hf hb, gf_mono hf fun x hx => has_ba hi hx⟩
def En.put0 (E : En) (d : Nat) (t : Tm) : En := E.setc d { E.c d with b := bset (E.c d).b (sel t) (qins t ((E.c d).b (sel t))) }
theorem base_start {i d : Nat} {t : Tm} {w : World} (h : ER A (E.take i t) w) (hE : EI E M) (hM : M t.id = some (i, t)) (hd : d < E.n) (hne : d ≠ i) : Calls Tryz.prog 42 #[ptr (A.ba d).bb, tmv t] w fun e w' => e = .returned (.int .i64 0) ∧ ER A ((E.take i t).put0 d t) w' ∧ GF (A.has E.n) w w' := by
  obtain ⟨-, hi, -, hw, hc, hsh⟩ := hE.dom _ _ _ hM
  have hs := sel_lt hc
  have hE2 := ei_cancl hE hM
  have hwh : (E.wh t.id).isSome = true := by rw [hE.wh, hM]; rfl
  have hp := cw_pos hE.cnt hwh
  have hl := ei_len hE2 (i := d) hd hs
  have hwn : (E.cancl i t).wn = E.wn - 1 := by
    show (if (E.wh t.id).isSome then E.wn - 1 else E.wn) = _
    rw [hwh]
    rfl
  have h64 := hE.wn
  have hlen : (((E.take i t).c d).b (sel t)).length < 64 := by
    have : (((E.cancl i t).c d).b (sel t)).length < 64 := by omega
    exact this
  have hno : bhas t.id ((E.take i t).c d).b = false := bhas_no fun j hj => by
    cases e : hasId t.id (((E.take i t).c d).b j) with
    | false => rfl
    | true =>
      obtain ⟨u, hu, hue⟩ := hasId_iff.1 e
      have h1 := (ei_some hE2 (i := d) hd hj hu).1
      unfold Mset at h1
      rw [if_pos hue] at h1
      cases h1
  refine (bstart_at t w (h.br d hd) hw hc hsh hno hlen).mono ?_
  rintro e w' ⟨rfl, hb, hg⟩
  have hf : GF (A.ba d).has w w' := gf_mono hg fun x hx => foot_has x ⟨_, hs, hx⟩
  exact ⟨rfl, er_base h hd hf hb, gf_mono hf fun x hx => has_ba hd hx⟩
theorem base_map {i d : Nat} {t : Tm} {w w' : World} (h : ER A ((E.take i t).put0 d t) w) (m : MV 3 ki wv A.mb (if (E.wh t.id).isSome then E.wn else E.wn + 1) (fun j => if j = t.id then some d else E.wh j) w') (g : G2 A.mb A.mb w w') : ER A (E.move i d t) w' := er_map h g m
set_option maxRecDepth 100000 in
set_option maxHeartbeats 4000000 in
theorem eoff_no (i : Nat) (W : World) (h : ER A E W) (hi : i < E.n) (hn : nextOn (mwo E.on i) i = none) : Calls Tryz.prog 51 #[ptr A.e, .int .i64 (i : Nat)] W fun e W' => e = .returned (.int .i64 8) ∧ W' = W := by
  have h16 := h.n16
  obtain ⟨m, hm, hk⟩ := h.eb
  obtain ⟨-, -, ⟨e2, -⟩, -⟩ := cells4 hm
  have C1 := Lib.hid (mwithout_at hk i (by omega))
  have HT := Lib.hid h.tab
  have C2 := Lib.hid (fun (m' : Nat) (hk' : MK m' (mwo E.on i)) w (hT : TAB w) => mnext_at hk' i (by omega) w hT)
  rw [hn] at C2
  have C2' : Hid (∀ (m' : Nat), MK m' (mwo E.on i) → ∀ w, TAB w → Calls Tryz.prog 65 #[.int .u32 (m' : Nat), .int .i64 (i : Nat)] w fun e W' => e = .returned (.tuple #[.int .i64 0, .bool false]) ∧ W' = w) := C2
  clear h hm hk hn C2
  go_enter Tryz.func51, Tryz.ntmps51
  go_wp2_with (first
    | (go_at_call 82; refine (C1.out _).mono ?_; clear C1; rintro e W ⟨⟨m', rfl, hk'⟩, rfl⟩; have HK' := Lib.hid hk'; clear hk')
    | (go_at_call 65; refine (C2'.out _ HK'.out _ HT.out).mono ?_; clear C2'; rintro e W ⟨rfl, rfl⟩)
    | fail)
  go_ret
  exact ⟨rfl, rfl⟩
theorem take_len {L : List Tm} {k : Nat} {t : Tm} (hn : (L.map Tm.id).Nodup) (hk : L[k]? = some t) : ((L.take k).map Tm.id).Nodup ∧ ∀ u ∈ L.take k, u.id ≠ t.id := by
  have hl := (List.getElem?_eq_some_iff.1 hk).1
  have hd : L = L.take k ++ L.drop k := (List.take_append_drop k L).symm
  have hd2 : L.drop k = t :: L.drop (k + 1) := by
    rw [List.drop_eq_getElem_cons hl]
    rw [(List.getElem?_eq_some_iff.1 hk).2]
  rw [hd, hd2, List.map_append, List.nodup_append] at hn
  obtain ⟨h1, h2, h3⟩ := hn
  exact ⟨h1, fun u hu => h3 u.id (List.mem_map_of_mem hu) t.id (by simp)⟩
theorem moves_k (hE : EI E M) {i d k : Nat} {t : Tm} (hi : i < E.n) (hdn : d < E.n) (hdo : E.on d = true) (hk : (ball (E.c i).b 6)[k]? = some t) : EI (E.moves i d ((ball (E.c i).b 6).take k)) (Mmoves M d ((ball (E.c i).b 6).take k)) ∧ Mmoves M d ((ball (E.c i).b 6).take k) t.id = some (i, t) := by
  obtain ⟨h1, h2⟩ := take_len (ball_nd hE hi 6 (by omega)) hk
  have hM := (ball_some hE hi).1 (List.mem_of_getElem? hk)
  refine ⟨ei_moves _ E M hE h1 (fun u hu => (ball_some hE hi).1 (List.mem_of_mem_take hu)) hdn hdo, ?_⟩
  rw [(mmoves_fn d t.id _ M h1).2 h2, hM]
theorem er_cells {N : Nat} (E' : En) (w : World) (hn : E'.n = N) (h : ER A E' w) : w.cell? ⟨A.e, 1, none⟩ = some (.slice (some ⟨A.lb, 0, none⟩) N A.cap) ∧ w.cell? ⟨A.e, 3, none⟩ = some (.map (some A.mb)) ∧ (∀ j, j < N → w.cell? ⟨A.lb, j, none⟩ = some (ptr (A.cb j)) ∧ w.cell? ⟨A.cb j, 0, none⟩ = some (ptr (A.ba j).bb) ∧ w.cell? ⟨A.cb j, 1, none⟩ = some (ptr (A.db j))) := by
  obtain ⟨m, hm, -⟩ := h.eb
  obtain ⟨-, ⟨e1, -⟩, -, ⟨e3, -⟩⟩ := cells4 hm
  rw [hn] at e1
  refine ⟨e1, e3, fun j hj => ?_⟩
  obtain ⟨-, r, c0, c1, -⟩ := er_road' E' h (hn ▸ hj)
  exact ⟨r, c0, c1⟩
set_option maxRecDepth 100000 in
set_option maxHeartbeats 8000000 in
theorem eoff_yes (i d : Nat) (W : World) (h : ER A E W) (hE : EI E M) (hi : i < E.n) (hn : nextOn (mwo E.on i) i = some d) : Calls Tryz.prog 51 #[ptr A.e, .int .i64 (i : Nat)] W fun e W' => e = .returned (.int .i64 0) ∧ ER A (E.offl i d) W' ∧ GF (A.has E.n) W W' := by
  have h16 := h.n16
  obtain ⟨-, hd2⟩ := nextOn_some hn
  have hd3 : E.on d = true ∧ i ≠ d := by
    unfold mwo at hd2
    simpa using hd2
  have hdn := hE.onn d hd3.1
  obtain ⟨m, hm, hk⟩ := h.eb
  obtain ⟨-, -, ⟨e2, -⟩, -⟩ := cells4 hm
  have C1 := Lib.hid (mwithout_at hk i (by omega))
  have HT := Lib.hid h.tab
  have C2 : Hid (∀ (m' : Nat), MK m' (mwo E.on i) → ∀ w, TAB w → Calls Tryz.prog 65 #[.int .u32 (m' : Nat), .int .i64 (i : Nat)] w fun e W' => e = .returned (.tuple #[.int .i64 d, .bool true]) ∧ W' = w) := Lib.hid (fun (m' : Nat) (hk' : MK m' (mwo E.on i)) w (hT : TAB w) => by
    have := mnext_at hk' i (by omega) w hT
    rw [hn] at this
    exact this)
  have C3 := Lib.hid (ballq_at W (h.br i hi) fun q hq => Nat.le_trans (ei_len hE hi hq) hE.wn)
  have hLl : (ball (E.c i).b 6).length ≤ 384 := ball_len (fun q hq => Nat.le_trans (ei_len hE hi hq) hE.wn) 6 (by omega)
  have HG0 : Hid (E.offl i d = (((E.gone0 i d)).offs i).look d) := Lib.hid rfl
  obtain ⟨N, hN⟩ : ∃ N, E.n = N := ⟨_, rfl⟩
  have hsm : ∀ X, (E.moves i d X).n = N := fun X => (moves_same i d X E).1.trans hN
  have HK1 : Hid (∀ k t, (ball (E.c i).b 6)[k]? = some t → ∀ w, ER A (E.moves i d ((ball (E.c i).b 6).take k)) w → Calls Tryz.prog 44 #[ptr (A.ba i).bb, .int .i64 t.id] w fun e w' => e = .returned (.tuple #[tmv t, .bool true]) ∧ ER A ((E.moves i d ((ball (E.c i).b 6).take k)).take i t) w' ∧ GF (A.has N) w w') := Lib.hid fun k t hk w h' => by
    obtain ⟨q1, q2⟩ := moves_k hE hi hdn hd3.1 hk
    have := base_cancel h' q1 q2
    rw [hsm] at this
    exact this
  have HK2 : Hid (∀ k t, (ball (E.c i).b 6)[k]? = some t → ∀ w, ER A ((E.moves i d ((ball (E.c i).b 6).take k)).take i t) w → Calls Tryz.prog 42 #[ptr (A.ba d).bb, tmv t] w fun e w' => e = .returned (.int .i64 0) ∧ ER A (((E.moves i d ((ball (E.c i).b 6).take k)).take i t).put0 d t) w' ∧ GF (A.has N) w w') := Lib.hid fun k t hk w h' => by
    obtain ⟨q1, q2⟩ := moves_k hE hi hdn hd3.1 hk
    have := base_start h' q1 q2 (d := d) (by rw [hsm, ← hN]; exact hdn) (fun e => hd3.2 e.symm)
    rw [hsm] at this
    exact this
  have HK3 : Hid (∀ k t, (ball (E.c i).b 6)[k]? = some t → t.wf ∧ (E.moves i d ((ball (E.c i).b 6).take k)).wn < 1000 ∧ ∀ w, ER A (((E.moves i d ((ball (E.c i).b 6).take k)).take i t).put0 d t) w → MV 3 ki wv A.mb (E.moves i d ((ball (E.c i).b 6).take k)).wn (E.moves i d ((ball (E.c i).b 6).take k)).wh w ∧ ∀ w', MV 3 ki wv A.mb (if ((E.moves i d ((ball (E.c i).b 6).take k)).wh t.id).isSome then (E.moves i d ((ball (E.c i).b 6).take k)).wn else (E.moves i d ((ball (E.c i).b 6).take k)).wn + 1) (fun j => if j = t.id then some d else (E.moves i d ((ball (E.c i).b 6).take k)).wh j) w' → G2 A.mb A.mb w w' → ER A (E.moves i d ((ball (E.c i).b 6).take (k + 1))) w') := Lib.hid fun k t hk => by
    obtain ⟨q1, q2⟩ := moves_k hE hi hdn hd3.1 hk
    refine ⟨(q1.dom _ _ _ q2).2.2.2.1, by have := q1.wn; omega, fun w h' => ⟨h'.mv, fun w' m g => ?_⟩⟩
    rw [List.take_add_one, hk]
    show ER A (E.moves i d (_ ++ [t])) w'
    rw [moves_snoc]
    exact base_map h' m g
  have HST : Hid (∀ k t, ((E.moves i d ((ball (E.c i).b 6).take k)).take i t).n = N ∧ (((E.moves i d ((ball (E.c i).b 6).take k)).take i t).put0 d t).n = N ∧ (E.moves i d ((ball (E.c i).b 6).take k)).n = N) := Lib.hid fun k t => ⟨hsm _, hsm _, hsm _⟩
  have HRD := Lib.hid (fun E' w (hn : E'.n = N) h' => er_cells (A := A) E' w hn h')
  have HF1 : Hid (∀ w, ER A (E.gone0 i d) w → Calls Tryz.prog 84 #[ptr (A.db i)] w fun e W' => e = .returned (.tuple #[]) ∧ ER A ((E.gone0 i d).gone1 i) W' ∧ GF (A.has N) w W') := Lib.hid fun w h' => by
    have hin : i < (E.gone0 i d).n := by rw [show (E.gone0 i d).n = N from hsm _, ← hN]; exact hi
    refine (off_at w (h'.dr i hin)).mono ?_
    rintro e w' ⟨rfl, hdr, hg⟩
    exact ⟨rfl, er_dev h' hin hg hdr, gf_g2 hg (has_db (hN ▸ hi)) (has_db (hN ▸ hi))⟩
  have HF2 : Hid (∀ (m' : Nat) w, MK m' (mwo E.on i) → ER A ((E.gone0 i d).gone1 i) w → ER A ((E.gone0 i d).offs i) (((w.setCell ⟨A.cb i, 2, none⟩ (.bool false)).setCell ⟨A.cb i, 3, none⟩ (.bool false)).setCell ⟨A.e, 2, none⟩ (.int .u32 (m' : Nat)))) := Lib.hid fun m' w hk' h' => by
    have hin : i < (E.gone0 i d).n := by rw [show (E.gone0 i d).n = N from hsm _, ← hN]; exact hi
    have hon : (E.gone0 i d).on = E.on := (moves_same i d (ball (E.c i).b 6) E).2.2
    have := er_on (on' := mwo E.on i) (er_kicked false (er_raised false h' hin) hin) hk'
    rw [← hon] at this
    exact this
  have HF3 : Hid (∀ w, ER A ((E.gone0 i d).gone1 i) w → (∃ v, w.cell? ⟨A.cb i, 2, none⟩ = some v) ∧ w.frozen? ⟨A.cb i, 2, none⟩ = false ∧ (∃ v, w.cell? ⟨A.cb i, 3, none⟩ = some v) ∧ w.frozen? ⟨A.cb i, 3, none⟩ = false ∧ (∃ v, w.cell? ⟨A.e, 2, none⟩ = some v) ∧ w.frozen? ⟨A.e, 2, none⟩ = false) := Lib.hid fun w h' => by
    have hin : i < (E.gone0 i d).n := by rw [show (E.gone0 i d).n = N from hsm _, ← hN]; exact hi
    obtain ⟨m, hm, -⟩ := h'.eb
    obtain ⟨-, -, ⟨e2, z2⟩, -⟩ := cells4 hm
    obtain ⟨-, -, ⟨c2, y2⟩, c3, y3⟩ := cells4 (h'.cp i hin)
    exact ⟨⟨_, c2⟩, y2, ⟨_, c3⟩, y3, ⟨_, e2⟩, z2⟩
  have HF4 : Hid (∀ w, ER A ((E.gone0 i d).offs i) w → Calls Tryz.prog 43 #[ptr A.e, ptr (A.cb d)] w fun e W' => e = .returned (.tuple #[]) ∧ ER A (E.offl i d) W' ∧ GF (A.has N) w W') := Lib.hid fun w h' => by
    have hdn' : d < ((E.gone0 i d).offs i).n := by rw [show ((E.gone0 i d).offs i).n = N from hsm _, ← hN]; exact hdn
    have hok : ((E.gone0 i d).offs i).K.ok := by
      rw [show ((E.gone0 i d).offs i).K = E.K from (moves_same i d (ball (E.c i).b 6) E).2.1]
      exact hE.ck
    refine (look_at d w h' hok hdn').mono ?_
    rintro e w' ⟨rfl, h1, h2⟩
    exact ⟨rfl, h1, gf_mono h2 fun x e => (show A.has N x by rw [e]; exact has_db (hN ▸ hdn))⟩
  have HG1n : Hid ((E.gone0 i d).n = N ∧ ((E.gone0 i d).gone1 i).n = N ∧ ((E.gone0 i d).offs i).n = N) := Lib.hid ⟨hsm _, hsm _, hsm _⟩
  have HZ : Hid (E.moves i d ((ball (E.c i).b 6).take (ball (E.c i).b 6).length) = E.gone0 i d) := Lib.hid (by rw [List.take_length]; rfl)
  have hne1 : ¬ A.e = A.cb i := fun e => by
    have h1 := h.at'.cb i hi
    rw [← e, h.at'.e] at h1
    omega
  have hne2 : ¬ A.lb = A.cb i := fun e => by
    have h1 := h.at'.cb i hi
    rw [← e, h.at'.lb] at h1
    omega
  have hne3 : ¬ A.lb = A.e := fun e => by
    have h1 := h.at'.lb
    rw [e, h.at'.e] at h1
    omega
  have HA : Hid (∀ x, A.has N x → x < W.heap.size) := Lib.hid fun x hx => er_lt h x (by rw [hN]; exact hx)
  obtain ⟨e1, e3, hrow⟩ := HRD.out E W hN h
  obtain ⟨r, c0, c1⟩ := hrow i (hN ▸ hi)
  have HHas : Hid (A.has N (A.cb i) ∧ A.has N A.e ∧ A.has N A.mb) := Lib.hid ⟨has_cb (hN ▸ hi), has_e, has_mb⟩
  have HER0 : Hid (ER A (E.moves i d ((ball (E.c i).b 6).take 0)) W) := Lib.hid h
  have hi2 : (i : Int) < (N : Int) := by omega
  have hd4 : (d : Int) < (N : Int) := by omega
  have HI : Hid (i < N ∧ d < N) := Lib.hid ⟨hN ▸ hi, hN ▸ hdn⟩
  have hne1' : ¬ A.cb i = A.e := fun e => hne1 e.symm
  have hne2' : ¬ A.cb i = A.lb := fun e => hne2 e.symm
  have hne3' : ¬ A.e = A.lb := fun e => hne3 e.symm
  rw [hN] at h16 ⊢
  obtain ⟨L, hL⟩ : ∃ L, ball (E.c i).b 6 = L := ⟨_, rfl⟩
  rw [hL] at hLl HK1 HK2 HK3 HST HZ HER0 C3
  clear h hE hi hn hd2 hd3 hdn hm hk hsm hN hL hrow
  go_enter Tryz.func51, Tryz.ntmps51
  go_wp2_with (first
    | (go_at_call 82; refine (C1.out _).mono ?_; clear C1; rintro e W ⟨⟨m', rfl, hk'⟩, rfl⟩; have HK' := Lib.hid hk'; clear hk')
    | (go_at_call 65; refine (C2.out _ HK'.out _ HT.out).mono ?_; clear C2; rintro e W ⟨rfl, rfl⟩)
    | (go_at_call 83; refine (C3.out).mono ?_; clear C3; rintro e w1 ⟨v, rfl, hO, hB⟩; obtain ⟨pv, mv, cv, rfl⟩ := own_slice hO; have HO := Lib.hid (And.intro hO hB); clear hO hB)
    | fail)
  have hml : (mv : Nat) = L.length := own_len HO.out.1
  subst hml
  have HJ0 : Hid (ER A (E.moves i d (L.take 0)) w1 ∧ GF (A.has N) W w1 ∧ OT W.heap.size (.slice pv L.length cv) L w1) := Lib.hid ⟨er_below HER0.out HO.out.2, gf_below HO.out.2, HO.out.1⟩
  clear HO HER0 e1 e2 e3 r c0 c1
  go_loopw [38] (fun s38 wr => ∃ k : Nat, k ≤ L.length ∧ s38 = .int .i64 k ∧ Hid (ER A (E.moves i d (L.take k)) wr ∧ GF (A.has N) W wr ∧ OT W.heap.size (.slice pv L.length cv) L wr)) (fun s38 _ => L.length - (intOf s38).toNat)
  case atStart => exact ⟨0, by omega, rfl, HJ0⟩
  case round =>
    obtain ⟨k, hk, rfl, HJ⟩ := hrel
    clear HJ0
    by_cases hkn : k = L.length
    · subst hkn
      clear hk
      have HE0 : Hid (ER A (E.gone0 i d) wr) := Lib.hid (by have := HJ.out.1; rw [HZ.out] at this; exact this)
      have HGR := Lib.hid HJ.out.2.1
      obtain ⟨e1, e3, hrow⟩ := HRD.out _ _ HG1n.out.1 HE0.out
      obtain ⟨r, c0, c1⟩ := hrow i HI.out.1
      clear hrow HJ e3
      go_wp2_with (first
        | (go_at_call 84; refine (HF1.out _ HE0.out).mono ?_; rintro e w2 ⟨rfl, hE, hG⟩; have HE1 := Lib.hid hE; have HG2 := Lib.hid (gf_trans HGR.out hG); obtain ⟨f1, f3, hrow⟩ := HRD.out _ _ HG1n.out.2.1 hE; obtain ⟨r2, -, -⟩ := hrow d HI.out.2; obtain ⟨⟨v2, c2⟩, y2, ⟨v3, c3⟩, y3, ⟨v4, c4⟩, y4⟩ := HF3.out _ hE; have HEX := Lib.hid (HF2.out m' _ HK'.out hE); have HGX := Lib.hid (gf_set (p := ⟨A.e, 2, none⟩) (gf_set (p := ⟨A.cb i, 3, none⟩) (gf_set (p := ⟨A.cb i, 2, none⟩) HG2.out (.inl HHas.out.1) (.bool false)) (.inl HHas.out.1) (.bool false)) (.inl HHas.out.2.1) (.int .u32 (m' : Nat))); clear hE hG hrow f3)
        | (go_at_call 43; refine (HF4.out _ HEX.out).mono ?_; rintro e w3 ⟨rfl, hE, hG⟩; have HH := Lib.hid (And.intro hE (gf_trans HGX.out hG)); clear hE hG)
        | fail)
      go_ret
      exact ⟨rfl, HH.out⟩
    · obtain ⟨t, hkt⟩ : ∃ t, L[k]? = some t := ⟨_, List.getElem?_eq_getElem (by omega)⟩
      obtain ⟨-, gb, rfl, hgb1, hgb2, x0, x1, x2, x3, x4⟩ := ot_get HJ.out.2.2 hkt
      have K1 := HK1.out k t hkt
      have K2 := HK2.out k t hkt
      obtain ⟨hwf, hwn, K3⟩ := HK3.out k t hkt
      obtain ⟨s1, s2, s3⟩ := HST.out k t
      obtain ⟨id, tc, ts, th, tl⟩ := t
      dsimp only at x0 x1 x2 x3 x4 K1 K2 K3
      have HK1' := Lib.hid K1
      have HK2' := Lib.hid K2
      have HK3' := Lib.hid K3
      have HWN := Lib.hid hwn
      have HID := Lib.hid (ki_key hwf.id)
      have HSS := Lib.hid (And.intro s1 (And.intro s2 s3))
      have hkm2 : (k : Int) < (L.length : Int) := by omega
      have hkm3 : k < L.length := by omega
      have hL4 : (L.length : Int) ≤ 384 := by omega
      have HKT := Lib.hid hkt
      clear K1 K2 K3 hkt hwf hwn hkn hk HK1 HK2 HK3 s1 s2 s3
      go_wp2_with fail
      have hnt := heap_alloc_new wr (.cells #[.int .i64 id, .int .i64 tc, .int .i64 ts, .int .i64 th, .bool tl] 31)
      have hst : (wr.alloc (.cells #[.int .i64 id, .int .i64 tc, .int .i64 ts, .int .i64 th, .bool tl] 31)).heap.size = wr.heap.size + 1 := by simp
      have HB4 : Hid (Below wr.heap.size wr (wr.alloc (.cells #[.int .i64 id, .int .i64 tc, .int .i64 ts, .int .i64 th, .bool tl] 31))) := Lib.hid ((Below.refl _ _).alloc (Nat.le_refl _) _)
      obtain ⟨W4, hW4⟩ : ∃ W4, wr.alloc (.cells #[.int .i64 id, .int .i64 tc, .int .i64 ts, .int .i64 th, .bool tl] 31) = W4 := ⟨_, rfl⟩
      rw [hW4] at hnt hst HB4 ⊢
      have HER4 : Hid (ER A (E.moves i d (L.take k)) W4.drew) := Lib.hid (er_drew (er_below HJ.out.1 HB4.out))
      have HOT4 : Hid (OT W.heap.size (.slice (some ⟨gb, 0, none⟩) L.length cv) L W4 ∧ GF (A.has N) W W4) := Lib.hid ⟨ot_below HJ.out.2.2 HB4.out, gf_trans HJ.out.2.1 (gf_below HB4.out)⟩
      obtain ⟨g, hg⟩ : ∃ g, wr.heap.size = g := ⟨_, rfl⟩
      rw [hg] at hnt hst ⊢
      have hgW : W.heap.size ≤ g := by rw [← hg]; exact HJ.out.2.1.size
      have HNH : Hid (¬ A.has N g) := Lib.hid fun e => by have := HA.out _ e; omega
      have HNT := Lib.hid hnt
      have hgl : g < W4.heap.size := by omega
      obtain ⟨⟨y0, -⟩, ⟨y1, -⟩, ⟨y2, -⟩, ⟨y3, -⟩, y4, -⟩ := cells5 hnt
      obtain ⟨e1, e3, hrow⟩ := HRD.out _ _ HSS.out.2.2 (er_below HJ.out.1 HB4.out)
      obtain ⟨-, c0, -⟩ := hrow i HI.out.1
      clear hW4 hg hnt hst hrow x0 x1 x2 x3 x4 HJ HB4 e1 e3
      go_region_held3 (fun w => w.cell? ⟨A.cb i, 0, none⟩ = some (ptr (A.ba i).bb) ∧ w.cell? ⟨g, 0, none⟩ = some (.int .i64 id)) (first | exact ⟨c0, y0⟩ | exact ⟨d0, x0⟩ | assumption | (go_keep; done)) (first
        | (go_simp; go_at_call 44; refine (HK1'.out _ HER4.out).mono ?_; clear HK1'; rintro e w5 ⟨rfl, hE5, hG5⟩; have hbg := (hG5.block g hgl HNH.out).trans HNT.out; have HE5 := Lib.hid hE5; have HG5 := Lib.hid hG5; obtain ⟨-, -, hrow⟩ := HRD.out _ _ HSS.out.1 hE5; obtain ⟨-, d0, -⟩ := hrow i HI.out.1; obtain ⟨x0, -⟩ := (cell_of hbg 0 _ rfl); have HN5 := Lib.hid hbg; clear hbg hrow hE5 hG5)
        | fail)
      have hg5 : g < w5.heap.size := Nat.lt_of_lt_of_le hgl HG5.out.size
      clear c0 y0 y1 y2 y3 y4 d0 x0
      have HE6 : Hid (ER A ((E.moves i d (L.take k)).take i ⟨id, tc, ts, th, tl⟩) w5.drew) := Lib.hid (er_drew HE5.out)
      obtain ⟨e1, -, hrow⟩ := HRD.out _ _ HSS.out.1 HE5.out
      obtain ⟨r, c0, -⟩ := hrow d HI.out.2
      obtain ⟨⟨y0, -⟩, ⟨y1, -⟩, ⟨y2, -⟩, ⟨y3, -⟩, y4, -⟩ := cells5 HN5.out
      clear hrow
      go_wp2_with fail
      go_region_held3 (fun w => w.cell? ⟨A.e, 1, none⟩ = some (.slice (some ⟨A.lb, 0, none⟩) N A.cap) ∧ w.cell? ⟨A.lb, d, none⟩ = some (ptr (A.cb d)) ∧ w.cell? ⟨A.cb d, 0, none⟩ = some (ptr (A.ba d).bb) ∧ w.cell? ⟨g, 0, none⟩ = some (.int .i64 id) ∧ w.cell? ⟨g, 1, none⟩ = some (.int .i64 tc) ∧ w.cell? ⟨g, 2, none⟩ = some (.int .i64 ts) ∧ w.cell? ⟨g, 3, none⟩ = some (.int .i64 th) ∧ w.cell? ⟨g, 4, none⟩ = some (.bool tl)) (first | exact ⟨e1, r, c0, y0, y1, y2, y3, y4⟩ | exact ⟨f1, r6, d0, x0, x1, x2, x3, x4⟩ | assumption | (go_keep; done)) (first
        | (go_simp; go_at_call 42; refine (HK2'.out _ HE6.out).mono ?_; clear HK2'; rintro e w6 ⟨rfl, hE7, hG7⟩; have hbg := (hG7.block g hg5 HNH.out).trans HN5.out; have HE7 := Lib.hid hE7; have HG7 := Lib.hid hG7; obtain ⟨f1, f3, hrow⟩ := HRD.out _ _ HSS.out.2.1 hE7; obtain ⟨r6, d0, -⟩ := hrow d HI.out.2; obtain ⟨⟨x0, -⟩, ⟨x1, -⟩, ⟨x2, -⟩, ⟨x3, -⟩, x4, -⟩ := cells5 hbg; clear hbg hrow hE7 hG7)
        | fail)
      clear e1 r c0 y0 y1 y2 y3 y4 f1 r6 d0 x1 x2 x3 x4
      have HG8 : Hid (GF (A.has N) W4 w6) := Lib.hid (gf_trans (gf_trans (gf_drew (gf_refl _ W4)) HG5.out) (gf_trans (gf_drew (gf_refl _ w5)) HG7.out))
      obtain ⟨hmv, hmv2⟩ := HK3'.out _ (er_drew HE7.out)
      have HMV := Lib.hid hmv
      have HMV2 := Lib.hid hmv2
      clear hmv hmv2
      go_wp2_with fail
      go_still_tail 7, (by kernel_rfl)
      change wpList _ _ _ _ _ w6.drew
      refine wpList_store_mv _ rfl _ _ _ 45 rfl keyed3 Tryz.underlying45 ki_inj HMV.out id d HID.out HWN.out rfl rfl rfl ?_
      intro w7 m7 g7
      have HJ7 : Hid (ER A (E.moves i d (L.take (k + 1))) w7 ∧ GF (A.has N) W w7 ∧ OT W.heap.size (.slice (some ⟨gb, 0, none⟩) L.length cv) L w7) := by
        have hg8 : GF (A.has N) W4 w7 := gf_trans (gf_drew HG8.out) (gf_g2 (F := A.has N) g7 HHas.out.2.2 HHas.out.2.2)
        refine Lib.hid ⟨HMV2.out _ m7 g7, gf_trans HOT4.out.2 hg8, ot_same HOT4.out.1 fun x hx => ?_⟩
        obtain ⟨h1, h2⟩ := ot_lt HOT4.out.1 x hx
        exact hg8.block x h2 fun e => by have := HA.out x e; omega
      clear m7 g7 f3 x0
      dsimp only
      rw [put_none]
      go_wp2_with fail
      go_roundw
      case rel => exact ⟨k + 1, by omega, by go_num, HJ7⟩
      case measure => simp [intOf]; omega
end
end Go.Proofs.YtlcaepcojglbiaaGreatDoor.Tp
