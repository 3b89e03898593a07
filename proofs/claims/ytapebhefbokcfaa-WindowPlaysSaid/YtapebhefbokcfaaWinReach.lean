import Derived.Test.YtapebhefbokcfaaWinBase
import Derived.StillTailTactics
namespace Go.Proofs.Ytapebhefbokcfaa.Win
open Go.RowKit Go.Proofs.Ytapebhefbokcfaa.DebW
set_option linter.unusedVariables false
set_option linter.unusedSimpArgs false
theorem ws_drewN {b r : Nat} {p a : Int} {L : Nat} {X : Nat → Int} {W : World} (h : WS b r p a L X W) (n : Nat) : WS b r p a L X (W.drewN n) := ⟨h.c0, h.c1, h.c2, h.z1, h.cr, h.zr, h.hb, h.hr, h.ne⟩
theorem ws_below {b r : Nat} {p a : Int} {L : Nat} {X : Nat → Int} {W W' : World} (h : WS b r p a L X W) (hb : Below W.heap.size W W') : WS b r p a L X W' := by
  have k := bcell hb
  exact ⟨(k.1 b 0 h.hb).trans h.c0, (k.1 b 1 h.hb).trans h.c1, (k.1 b 2 h.hb).trans h.c2, (k.2 b 1 h.hb).trans h.z1, fun j hj => (k.1 r j h.hr).trans (h.cr j hj), fun j hj => (k.2 r j h.hr).trans (h.zr j hj), Nat.lt_of_lt_of_le h.hb hb.size, Nat.lt_of_lt_of_le h.hr hb.size, h.ne⟩
/-- The row holds what came in the last L pieces. -/
def RowI (L : Nat) (a : Int) (S : Int → Int) (X : Nat → Int) : Prop := (∀ q : Int, a - L < q → q ≤ a → X (q % L).toNat = S q) ∧ ∀ q : Int, a < q → S q = 0
def upd (X : Nat → Int) (k : Nat) (v : Int) : Nat → Int := fun j => if j = k then v else X j
theorem mod_ne {L q k : Int} (hL : 0 < L) (h1 : k - L < q) (h2 : q < k) : q % L ≠ k % L := by
  intro h
  have e1 := Int.emod_add_mul_ediv q L
  have e2 := Int.emod_add_mul_ediv k L
  have e3 : L * (k / L - q / L) = k - q := by rw [Int.mul_sub]; omega
  have h4 : 0 < L * (k / L - q / L) := by omega
  have h5 : 0 < k / L - q / L := by
    rcases Int.lt_or_le 0 (k / L - q / L) with h | h
    · exact h
    · have := Int.mul_le_mul_of_nonneg_left h (Int.le_of_lt hL); simp at this; omega
  have h6 : L * 1 ≤ L * (k / L - q / L) := Int.mul_le_mul_of_nonneg_left (by omega) (Int.le_of_lt hL)
  omega
theorem row_step {L : Nat} {a : Int} {S : Int → Int} {X : Nat → Int} (hL : 1 ≤ L) (h : RowI L a S X) : RowI L (a + 1) S (upd X ((a + 1) % L).toNat 0) := by
  refine ⟨fun q h1 h2 => ?_, fun q h1 => h.2 q (by omega)⟩
  unfold upd
  have hL' : (0 : Int) < L := by omega
  by_cases e : q = a + 1
  · subst e; rw [if_pos rfl, h.2 _ (by omega)]
  · have hm := mod_ne (q := q) (k := a + 1) hL' (by omega) (by omega)
    have n1 := Int.emod_nonneg q (b := L) (by omega)
    have n2 := Int.emod_nonneg (a + 1) (b := L) (by omega)
    rw [if_neg (by omega)]
    exact h.1 q (by omega) (by omega)
theorem row_far {L : Nat} {a a2 : Int} {S : Int → Int} {X : Nat → Int} (hL : 1 ≤ L) (h : RowI L (a + L) S X) (h0 : ∀ q, a < q → S q = 0) (ha : a + L ≤ a2) : RowI L a2 S X := by
  refine ⟨fun q h1 h2 => ?_, fun q h1 => h.2 q (by omega)⟩
  have hL' : (0 : Int) < L := by omega
  have n1 := Int.emod_nonneg (q - (a + 1)) (b := L) (by omega)
  have n2 := Int.emod_lt_of_pos (q - (a + 1)) hL'
  have hx := h.1 (a + 1 + (q - (a + 1)) % L) (by omega) (by omega)
  have e : (a + 1 + (q - (a + 1)) % L) % L = q % L := by
    rw [Int.add_emod_emod]; congr 1; omega
  rw [e] at hx
  rw [hx, h0 _ (by omega), h0 q (by omega)]
theorem cs_same {W : World} {a : Addr} {u v : Value} (h : W.cell? a = some u) : (W.setCell a v).cell? a = some v := by
  first | exact World.cell?_setCell_same W a v h | exact World.cell?_setCell_same _ _ _ h
theorem cs_other {W : World} {a b : Addr} {v : Value} (h : a ≠ b) : (W.setCell a v).cell? b = W.cell? b := by
  first | exact World.cell?_setCell_other W a b v h | exact World.cell?_setCell_other W a v b h | exact World.cell?_setCell_other _ _ _ _ h
theorem ws_at {b r : Nat} {p a : Int} {L : Nat} {X : Nat → Int} {W : World} (h : WS b r p a L X W) (a' : Int) : WS b r p a' L X (W.setCell ⟨b, 1, none⟩ (.int .i64 a')) := by
  have hne := h.ne
  refine ⟨?_, cs_same h.c1, ?_, by rw [World.frozen?_setCell]; exact h.z1, fun j hj => ?_, fun j hj => by rw [World.frozen?_setCell]; exact h.zr j hj, by simpa [World.setCell] using h.hb, by simpa [World.setCell] using h.hr, hne⟩
  · rw [cs_other (by simp)]; exact h.c0
  · rw [cs_other (by simp)]; exact h.c2
  · rw [cs_other (by first | (simp; done) | (simp; intro e; exact absurd e hne))]; exact h.cr j hj
theorem ws_row {b r : Nat} {p a : Int} {L : Nat} {X : Nat → Int} {W : World} (h : WS b r p a L X W) {k : Nat} (hk : k < L) (v : Int) : WS b r p a L (upd X k v) (W.setCell ⟨r, k, none⟩ (.int .i64 v)) := by
  have hne := h.ne
  refine ⟨?_, ?_, ?_, by rw [World.frozen?_setCell]; exact h.z1, fun j hj => ?_, fun j hj => by rw [World.frozen?_setCell]; exact h.zr j hj, by simpa [World.setCell] using h.hb, by simpa [World.setCell] using h.hr, hne⟩
  · rw [cs_other (by first | (simp; done) | (simp; intro e; exact absurd e.symm hne))]; exact h.c0
  · rw [cs_other (by first | (simp; done) | (simp; intro e; exact absurd e.symm hne))]; exact h.c1
  · rw [cs_other (by first | (simp; done) | (simp; intro e; exact absurd e.symm hne))]; exact h.c2
  · unfold upd
    by_cases e : j = k
    · subst e; rw [if_pos rfl]; exact cs_same (h.cr j hj)
    · rw [if_neg e, cs_other (by first | (simp; done) | (simp; omega))]; exact h.cr j hj
set_option maxHeartbeats 4000000 in
set_option maxRecDepth 100000 in
theorem reach_up_in {b r : Nat} {p a : Int} {L : Nat} {S : Int → Int} {X : Nat → Int} (now t : Int) (w : World) (h : WS b r p a L X w) (hR : RowI L a S X) (hp : 1 ≤ p) (hp2 : p ≤ 1099511627776) (hL : 1 ≤ L) (hL2 : L ≤ 64) (ha : 0 ≤ a) (ha2 : a ≤ 1152921504606846976) (hdiv : now / p = t) (ht2 : a < t) (ht3 : t ≤ 1152921504606846976) (h0 : 0 ≤ now) (h1 : now ≤ 1152921504606846976) : Calls Try.prog 36 #[ptr b, .int .i64 now] w fun e w' => e = .returned (.tuple #[]) ∧ G2 b r w w' ∧ ∃ X', WS b r p t L X' w' ∧ RowI L t S X' := by
  have HW := Lib.hid h
  obtain ⟨c0, c1, c2, z1, cr, zr, hb, hr, hne⟩ := h
  clear cr zr
  have HR := Lib.hid hR
  have hL3 : (1 : Int) ≤ (L : Int) := by omega
  have hL4 : (L : Int) ≤ 64 := by omega
  clear hR
  have hpz : ¬ p = 0 := by omega
  by_cases hKL : t - a ≤ (L : Int)
  · go_enter Try.func36, Try.ntmps36
    go_wp2_with fail
    go_quiet (fail)
    go_wp2_with fail
    go_quiet (fail)
    go_wp2_with fail
    go_loopw [30] (fun v30 W => ∃ (i : Int) (Y : Nat → Int), 0 ≤ i ∧ i ≤ (t - a) ∧ v30 = .int .i64 i ∧ Hid (WS b r p (a + i) L Y W) ∧ Hid (RowI L (a + i) S Y) ∧ Hid (G2 b r w W)) (fun v30 _ => ((t - a) - intOf v30).toNat)
    case atStart => exact ⟨0, X, by omega, by omega, rfl, by rw [Int.add_zero]; exact ws_drewN (ws_drewN HW.out _) _, by rw [Int.add_zero]; exact HR, g2_drewN (g2_drewN (g2_refl b r w) _) _⟩
    case round =>
      clear c0 c1 c2 z1 hdiv
      obtain ⟨i, Y, hi0, hi1, rfl, HWS, HRI, HG⟩ := hrel
      obtain ⟨c0, c1, c2, z1, cr, zr, hb', hr', _⟩ := HWS.out
      by_cases hlt : i < (t - a)
      · have n1 := Int.emod_nonneg (a + i + 1) (b := L) (by omega)
        have n2 := Int.emod_lt_of_pos (a + i + 1) (b := L) (by omega)
        have hrow := row_step hL HRI.out
        have htm : (a + i + 1).tmod (L : Int) = (a + i + 1) % (L : Int) := Int.tmod_eq_emod_of_nonneg (by omega)
        obtain ⟨m, hm⟩ : ∃ m, (a + i + 1) % (L : Int) = m := ⟨_, rfl⟩
        rw [hm] at n1 n2 hrow htm
        have HRW := Lib.hid hrow
        clear hrow cr zr hm
        go_upto_region 4 with fail
        have HW2 := Lib.hid (ws_at HWS.out (a + i + 1))
        have HG2 := Lib.hid (g2_set HG.out (.inl rfl) (p := ⟨b, 1, none⟩) (.int .i64 (a + i + 1)))
        clear c0 c1 c2 z1
        generalize wr.setCell ⟨b, 1, none⟩ (.int .i64 (a + i + 1)) = wq at *
        obtain ⟨c0, c1, c2, z1, cr, zr, hb', hr', _⟩ := HW2.out
        have ck := cr m.toNat (by omega)
        have zk := zr m.toNat (by omega)
        have hLz : ¬ (L : Int) = 0 := by omega
        have hLz2 : ¬ L = 0 := by omega
        have hw1 : IntKind.i64.wrap m = m := iw (by omega) (by omega)
        have hw2 : IntKind.i64.wrap ((a + i + 1).tmod (L : Int)) = m := by rw [htm]; exact hw1
        have hmn : (m.toNat : Int) = m := by omega
        have hml : m.toNat < L := by omega
        clear cr zr
        go_still_tail 15, (by kernel_rfl)
        change wpList _ _ _ _ _ wq.drew
        go_wp2
        go_roundw
        case rel => exact ⟨i + 1, _, by omega, by omega, rfl, by rw [← Int.add_assoc]; exact ws_row (ws_drewN HW2.out 1) hml 0, by rw [← Int.add_assoc]; exact HRW, g2_set (g2_drewN HG2 1) (.inr (.inl rfl)) _⟩
        case measure => simp [intOf]; omega
      · obtain rfl : i = t - a := by omega
        have HW3 := Lib.hid (show WS b r p t L Y wr by have h := HWS.out; rwa [show a + (t - a) = t by omega] at h)
        have HR3 := Lib.hid (show RowI L t S Y by have h := HRI.out; rwa [show a + (t - a) = t by omega] at h)
        go_wp2
        refine bodyPost_end (results_none rfl _ _ _) rfl ⟨rfl, g2_set HG.out (.inl rfl) _, Y, ws_at HW3.out t, HR3.out⟩
  · go_enter Try.func36, Try.ntmps36
    go_wp2_with fail
    go_quiet (fail)
    go_wp2_with fail
    go_quiet (fail)
    go_wp2_with fail
    go_loopw [30] (fun v30 W => ∃ (i : Int) (Y : Nat → Int), 0 ≤ i ∧ i ≤ (L : Int) ∧ v30 = .int .i64 i ∧ Hid (WS b r p (a + i) L Y W) ∧ Hid (RowI L (a + i) S Y) ∧ Hid (G2 b r w W)) (fun v30 _ => ((L : Int) - intOf v30).toNat)
    case atStart => exact ⟨0, X, by omega, by omega, rfl, by rw [Int.add_zero]; exact ws_drewN (ws_drewN HW.out _) _, by rw [Int.add_zero]; exact HR, g2_drewN (g2_drewN (g2_refl b r w) _) _⟩
    case round =>
      clear c0 c1 c2 z1 hdiv
      obtain ⟨i, Y, hi0, hi1, rfl, HWS, HRI, HG⟩ := hrel
      obtain ⟨c0, c1, c2, z1, cr, zr, hb', hr', _⟩ := HWS.out
      by_cases hlt : i < (L : Int)
      · have n1 := Int.emod_nonneg (a + i + 1) (b := L) (by omega)
        have n2 := Int.emod_lt_of_pos (a + i + 1) (b := L) (by omega)
        have hrow := row_step hL HRI.out
        have htm : (a + i + 1).tmod (L : Int) = (a + i + 1) % (L : Int) := Int.tmod_eq_emod_of_nonneg (by omega)
        obtain ⟨m, hm⟩ : ∃ m, (a + i + 1) % (L : Int) = m := ⟨_, rfl⟩
        rw [hm] at n1 n2 hrow htm
        have HRW := Lib.hid hrow
        clear hrow cr zr hm
        go_upto_region 4 with fail
        have HW2 := Lib.hid (ws_at HWS.out (a + i + 1))
        have HG2 := Lib.hid (g2_set HG.out (.inl rfl) (p := ⟨b, 1, none⟩) (.int .i64 (a + i + 1)))
        clear c0 c1 c2 z1
        generalize wr.setCell ⟨b, 1, none⟩ (.int .i64 (a + i + 1)) = wq at *
        obtain ⟨c0, c1, c2, z1, cr, zr, hb', hr', _⟩ := HW2.out
        have ck := cr m.toNat (by omega)
        have zk := zr m.toNat (by omega)
        have hLz : ¬ (L : Int) = 0 := by omega
        have hLz2 : ¬ L = 0 := by omega
        have hw1 : IntKind.i64.wrap m = m := iw (by omega) (by omega)
        have hw2 : IntKind.i64.wrap ((a + i + 1).tmod (L : Int)) = m := by rw [htm]; exact hw1
        have hmn : (m.toNat : Int) = m := by omega
        have hml : m.toNat < L := by omega
        clear cr zr
        go_still_tail 15, (by kernel_rfl)
        change wpList _ _ _ _ _ wq.drew
        go_wp2
        go_roundw
        case rel => exact ⟨i + 1, _, by omega, by omega, rfl, by rw [← Int.add_assoc]; exact ws_row (ws_drewN HW2.out 1) hml 0, by rw [← Int.add_assoc]; exact HRW, g2_set (g2_drewN HG2 1) (.inr (.inl rfl)) _⟩
        case measure => simp [intOf]; omega
      · obtain rfl : i = (L : Int) := by omega
        have HW3 := Lib.hid (HWS.out)
        have HR3 := Lib.hid (row_far hL HRI.out HR.out.2 (a2 := t) (by omega))
        clear cr zr
        go_wp2
        refine bodyPost_end (results_none rfl _ _ _) rfl ⟨rfl, g2_set HG.out (.inl rfl) _, Y, ws_at HW3.out t, HR3.out⟩
set_option maxHeartbeats 4000000 in
set_option maxRecDepth 100000 in
theorem reach_up_hi {b r : Nat} {p a : Int} {L : Nat} {S : Int → Int} {X : Nat → Int} (now t : Int) (w : World) (h : WS b r p a L X w) (hR : RowI L a S X) (hp : 1 ≤ p) (hp2 : p ≤ 1099511627776) (hL : 1 ≤ L) (hL2 : L ≤ 64) (ha : 0 ≤ a) (ha2 : a ≤ 1152921504606846976) (hdiv : (1152921504606846976 : Int) / p = t) (ht2 : a < t) (ht3 : t ≤ 1152921504606846976) (h1 : 1152921504606846976 < now) : Calls Try.prog 36 #[ptr b, .int .i64 now] w fun e w' => e = .returned (.tuple #[]) ∧ G2 b r w w' ∧ ∃ X', WS b r p t L X' w' ∧ RowI L t S X' := by
  have HW := Lib.hid h
  obtain ⟨c0, c1, c2, z1, cr, zr, hb, hr, hne⟩ := h
  clear cr zr
  have HR := Lib.hid hR
  have hL3 : (1 : Int) ≤ (L : Int) := by omega
  have hL4 : (L : Int) ≤ 64 := by omega
  clear hR
  have hpz : ¬ p = 0 := by omega
  by_cases hKL : t - a ≤ (L : Int)
  · go_enter Try.func36, Try.ntmps36
    go_wp2_with fail
    go_quiet (fail)
    go_wp2_with fail
    go_quiet (fail)
    go_wp2_with fail
    go_loopw [30] (fun v30 W => ∃ (i : Int) (Y : Nat → Int), 0 ≤ i ∧ i ≤ (t - a) ∧ v30 = .int .i64 i ∧ Hid (WS b r p (a + i) L Y W) ∧ Hid (RowI L (a + i) S Y) ∧ Hid (G2 b r w W)) (fun v30 _ => ((t - a) - intOf v30).toNat)
    case atStart => exact ⟨0, X, by omega, by omega, rfl, by rw [Int.add_zero]; exact ws_drewN (ws_drewN HW.out _) _, by rw [Int.add_zero]; exact HR, g2_drewN (g2_drewN (g2_refl b r w) _) _⟩
    case round =>
      clear c0 c1 c2 z1 hdiv
      obtain ⟨i, Y, hi0, hi1, rfl, HWS, HRI, HG⟩ := hrel
      obtain ⟨c0, c1, c2, z1, cr, zr, hb', hr', _⟩ := HWS.out
      by_cases hlt : i < (t - a)
      · have n1 := Int.emod_nonneg (a + i + 1) (b := L) (by omega)
        have n2 := Int.emod_lt_of_pos (a + i + 1) (b := L) (by omega)
        have hrow := row_step hL HRI.out
        have htm : (a + i + 1).tmod (L : Int) = (a + i + 1) % (L : Int) := Int.tmod_eq_emod_of_nonneg (by omega)
        obtain ⟨m, hm⟩ : ∃ m, (a + i + 1) % (L : Int) = m := ⟨_, rfl⟩
        rw [hm] at n1 n2 hrow htm
        have HRW := Lib.hid hrow
        clear hrow cr zr hm
        go_upto_region 4 with fail
        have HW2 := Lib.hid (ws_at HWS.out (a + i + 1))
        have HG2 := Lib.hid (g2_set HG.out (.inl rfl) (p := ⟨b, 1, none⟩) (.int .i64 (a + i + 1)))
        clear c0 c1 c2 z1
        generalize wr.setCell ⟨b, 1, none⟩ (.int .i64 (a + i + 1)) = wq at *
        obtain ⟨c0, c1, c2, z1, cr, zr, hb', hr', _⟩ := HW2.out
        have ck := cr m.toNat (by omega)
        have zk := zr m.toNat (by omega)
        have hLz : ¬ (L : Int) = 0 := by omega
        have hLz2 : ¬ L = 0 := by omega
        have hw1 : IntKind.i64.wrap m = m := iw (by omega) (by omega)
        have hw2 : IntKind.i64.wrap ((a + i + 1).tmod (L : Int)) = m := by rw [htm]; exact hw1
        have hmn : (m.toNat : Int) = m := by omega
        have hml : m.toNat < L := by omega
        clear cr zr
        go_still_tail 15, (by kernel_rfl)
        change wpList _ _ _ _ _ wq.drew
        go_wp2
        go_roundw
        case rel => exact ⟨i + 1, _, by omega, by omega, rfl, by rw [← Int.add_assoc]; exact ws_row (ws_drewN HW2.out 1) hml 0, by rw [← Int.add_assoc]; exact HRW, g2_set (g2_drewN HG2 1) (.inr (.inl rfl)) _⟩
        case measure => simp [intOf]; omega
      · obtain rfl : i = t - a := by omega
        have HW3 := Lib.hid (show WS b r p t L Y wr by have h := HWS.out; rwa [show a + (t - a) = t by omega] at h)
        have HR3 := Lib.hid (show RowI L t S Y by have h := HRI.out; rwa [show a + (t - a) = t by omega] at h)
        go_wp2
        refine bodyPost_end (results_none rfl _ _ _) rfl ⟨rfl, g2_set HG.out (.inl rfl) _, Y, ws_at HW3.out t, HR3.out⟩
  · go_enter Try.func36, Try.ntmps36
    go_wp2_with fail
    go_quiet (fail)
    go_wp2_with fail
    go_quiet (fail)
    go_wp2_with fail
    go_loopw [30] (fun v30 W => ∃ (i : Int) (Y : Nat → Int), 0 ≤ i ∧ i ≤ (L : Int) ∧ v30 = .int .i64 i ∧ Hid (WS b r p (a + i) L Y W) ∧ Hid (RowI L (a + i) S Y) ∧ Hid (G2 b r w W)) (fun v30 _ => ((L : Int) - intOf v30).toNat)
    case atStart => exact ⟨0, X, by omega, by omega, rfl, by rw [Int.add_zero]; exact ws_drewN (ws_drewN HW.out _) _, by rw [Int.add_zero]; exact HR, g2_drewN (g2_drewN (g2_refl b r w) _) _⟩
    case round =>
      clear c0 c1 c2 z1 hdiv
      obtain ⟨i, Y, hi0, hi1, rfl, HWS, HRI, HG⟩ := hrel
      obtain ⟨c0, c1, c2, z1, cr, zr, hb', hr', _⟩ := HWS.out
      by_cases hlt : i < (L : Int)
      · have n1 := Int.emod_nonneg (a + i + 1) (b := L) (by omega)
        have n2 := Int.emod_lt_of_pos (a + i + 1) (b := L) (by omega)
        have hrow := row_step hL HRI.out
        have htm : (a + i + 1).tmod (L : Int) = (a + i + 1) % (L : Int) := Int.tmod_eq_emod_of_nonneg (by omega)
        obtain ⟨m, hm⟩ : ∃ m, (a + i + 1) % (L : Int) = m := ⟨_, rfl⟩
        rw [hm] at n1 n2 hrow htm
        have HRW := Lib.hid hrow
        clear hrow cr zr hm
        go_upto_region 4 with fail
        have HW2 := Lib.hid (ws_at HWS.out (a + i + 1))
        have HG2 := Lib.hid (g2_set HG.out (.inl rfl) (p := ⟨b, 1, none⟩) (.int .i64 (a + i + 1)))
        clear c0 c1 c2 z1
        generalize wr.setCell ⟨b, 1, none⟩ (.int .i64 (a + i + 1)) = wq at *
        obtain ⟨c0, c1, c2, z1, cr, zr, hb', hr', _⟩ := HW2.out
        have ck := cr m.toNat (by omega)
        have zk := zr m.toNat (by omega)
        have hLz : ¬ (L : Int) = 0 := by omega
        have hLz2 : ¬ L = 0 := by omega
        have hw1 : IntKind.i64.wrap m = m := iw (by omega) (by omega)
        have hw2 : IntKind.i64.wrap ((a + i + 1).tmod (L : Int)) = m := by rw [htm]; exact hw1
        have hmn : (m.toNat : Int) = m := by omega
        have hml : m.toNat < L := by omega
        clear cr zr
        go_still_tail 15, (by kernel_rfl)
        change wpList _ _ _ _ _ wq.drew
        go_wp2
        go_roundw
        case rel => exact ⟨i + 1, _, by omega, by omega, rfl, by rw [← Int.add_assoc]; exact ws_row (ws_drewN HW2.out 1) hml 0, by rw [← Int.add_assoc]; exact HRW, g2_set (g2_drewN HG2 1) (.inr (.inl rfl)) _⟩
        case measure => simp [intOf]; omega
      · obtain rfl : i = (L : Int) := by omega
        have HW3 := Lib.hid (HWS.out)
        have HR3 := Lib.hid (row_far hL HRI.out HR.out.2 (a2 := t) (by omega))
        clear cr zr
        go_wp2
        refine bodyPost_end (results_none rfl _ _ _) rfl ⟨rfl, g2_set HG.out (.inl rfl) _, Y, ws_at HW3.out t, HR3.out⟩
set_option maxHeartbeats 4000000 in
set_option maxRecDepth 100000 in
theorem reach_same_in {b r : Nat} {p a : Int} {L : Nat} {S : Int → Int} {X : Nat → Int} (now t : Int) (w : World) (h : WS b r p a L X w) (hR : RowI L a S X) (hp : 1 ≤ p) (hp2 : p ≤ 1099511627776) (hL : 1 ≤ L) (hL2 : L ≤ 64) (ha : 0 ≤ a) (ha2 : a ≤ 1152921504606846976) (hdiv : now / p = t) (ht2 : t ≤ a) (ht0 : 0 ≤ t) (h0 : 0 ≤ now) (h1 : now ≤ 1152921504606846976) : Calls Try.prog 36 #[ptr b, .int .i64 now] w fun e w' => e = .returned (.tuple #[]) ∧ G2 b r w w' ∧ ∃ X', WS b r p a L X' w' ∧ RowI L a S X' := by
  have HW := Lib.hid h
  obtain ⟨c0, c1, c2, z1, cr, zr, hb, hr, hne⟩ := h
  clear cr zr
  have HR := Lib.hid hR
  have hL3 : (1 : Int) ≤ (L : Int) := by omega
  have hL4 : (L : Int) ≤ 64 := by omega
  clear hR
  have hpz : ¬ p = 0 := by omega
  have hz0 : Int.tdiv 0 p = 0 := Int.zero_tdiv _
  obtain ⟨a0, ha0⟩ : ∃ a0, a0 = a := ⟨_, rfl⟩
  rcases (show t < a ∨ t = a by omega) with ht3 | ht3
  all_goals
    go_enter Try.func36, Try.ntmps36
    go_wp2_with fail
    go_quiet (fail)
    go_wp2_with fail
    go_quiet (fail)
    go_wp2_with fail
    go_loopw [30] (fun v30 W => v30 = .int .i64 0 ∧ Hid (WS b r p a L X W) ∧ Hid (G2 b r w W)) (fun v30 _ => 0)
    case atStart => exact ⟨rfl, ws_drewN (ws_drewN HW.out _) _, g2_drewN (g2_drewN (g2_refl b r w) _) _⟩
    case round =>
      clear c0 c1 c2 z1
      obtain ⟨rfl, HWS, HG⟩ := hrel
      obtain ⟨c0, c1, c2, z1, cr, zr, hb', hr', _⟩ := HWS.out
      clear cr zr
      go_wp2
      refine bodyPost_end (results_none rfl _ _ _) rfl ⟨rfl, g2_set HG.out (.inl rfl) _, X, (by first | exact ws_at HWS.out a | (rw [ht3]; exact ws_at HWS.out _)), HR.out⟩
set_option maxHeartbeats 4000000 in
set_option maxRecDepth 100000 in
theorem reach_same_hi {b r : Nat} {p a : Int} {L : Nat} {S : Int → Int} {X : Nat → Int} (now t : Int) (w : World) (h : WS b r p a L X w) (hR : RowI L a S X) (hp : 1 ≤ p) (hp2 : p ≤ 1099511627776) (hL : 1 ≤ L) (hL2 : L ≤ 64) (ha : 0 ≤ a) (ha2 : a ≤ 1152921504606846976) (hdiv : (1152921504606846976 : Int) / p = t) (ht2 : t ≤ a) (ht0 : 0 ≤ t) (h1 : 1152921504606846976 < now) : Calls Try.prog 36 #[ptr b, .int .i64 now] w fun e w' => e = .returned (.tuple #[]) ∧ G2 b r w w' ∧ ∃ X', WS b r p a L X' w' ∧ RowI L a S X' := by
  have HW := Lib.hid h
  obtain ⟨c0, c1, c2, z1, cr, zr, hb, hr, hne⟩ := h
  clear cr zr
  have HR := Lib.hid hR
  have hL3 : (1 : Int) ≤ (L : Int) := by omega
  have hL4 : (L : Int) ≤ 64 := by omega
  clear hR
  have hpz : ¬ p = 0 := by omega
  have hz0 : Int.tdiv 0 p = 0 := Int.zero_tdiv _
  obtain ⟨a0, ha0⟩ : ∃ a0, a0 = a := ⟨_, rfl⟩
  rcases (show t < a ∨ t = a by omega) with ht3 | ht3
  all_goals
    go_enter Try.func36, Try.ntmps36
    go_wp2_with fail
    go_quiet (fail)
    go_wp2_with fail
    go_quiet (fail)
    go_wp2_with fail
    go_loopw [30] (fun v30 W => v30 = .int .i64 0 ∧ Hid (WS b r p a L X W) ∧ Hid (G2 b r w W)) (fun v30 _ => 0)
    case atStart => exact ⟨rfl, ws_drewN (ws_drewN HW.out _) _, g2_drewN (g2_drewN (g2_refl b r w) _) _⟩
    case round =>
      clear c0 c1 c2 z1
      obtain ⟨rfl, HWS, HG⟩ := hrel
      obtain ⟨c0, c1, c2, z1, cr, zr, hb', hr', _⟩ := HWS.out
      clear cr zr
      go_wp2
      refine bodyPost_end (results_none rfl _ _ _) rfl ⟨rfl, g2_set HG.out (.inl rfl) _, X, (by first | exact ws_at HWS.out a | (rw [ht3]; exact ws_at HWS.out _)), HR.out⟩
set_option maxHeartbeats 4000000 in
set_option maxRecDepth 100000 in
theorem reach_same_lo {b r : Nat} {p a : Int} {L : Nat} {S : Int → Int} {X : Nat → Int} (now t : Int) (w : World) (h : WS b r p a L X w) (hR : RowI L a S X) (hp : 1 ≤ p) (hp2 : p ≤ 1099511627776) (hL : 1 ≤ L) (hL2 : L ≤ 64) (ha : 0 ≤ a) (ha2 : a ≤ 1152921504606846976) (ht2 : t ≤ a) (ht0 : 0 ≤ t) (h0 : now < 0) : Calls Try.prog 36 #[ptr b, .int .i64 now] w fun e w' => e = .returned (.tuple #[]) ∧ G2 b r w w' ∧ ∃ X', WS b r p a L X' w' ∧ RowI L a S X' := by
  have HW := Lib.hid h
  obtain ⟨c0, c1, c2, z1, cr, zr, hb, hr, hne⟩ := h
  clear cr zr
  have HR := Lib.hid hR
  have hL3 : (1 : Int) ≤ (L : Int) := by omega
  have hL4 : (L : Int) ≤ 64 := by omega
  clear hR
  have hpz : ¬ p = 0 := by omega
  have hz0 : Int.tdiv 0 p = 0 := Int.zero_tdiv _
  obtain ⟨a0, ha0⟩ : ∃ a0, a0 = a := ⟨_, rfl⟩
  rcases (show 0 < a ∨ a = 0 by omega) with ht3 | ht3
  all_goals
    go_enter Try.func36, Try.ntmps36
    go_wp2_with fail
    go_quiet (fail)
    go_wp2_with fail
    go_quiet (fail)
    go_wp2_with fail
    go_loopw [30] (fun v30 W => v30 = .int .i64 0 ∧ Hid (WS b r p a L X W) ∧ Hid (G2 b r w W)) (fun v30 _ => 0)
    case atStart => exact ⟨rfl, ws_drewN (ws_drewN HW.out _) _, g2_drewN (g2_drewN (g2_refl b r w) _) _⟩
    case round =>
      clear c0 c1 c2 z1
      obtain ⟨rfl, HWS, HG⟩ := hrel
      obtain ⟨c0, c1, c2, z1, cr, zr, hb', hr', _⟩ := HWS.out
      clear cr zr
      go_wp2
      refine bodyPost_end (results_none rfl _ _ _) rfl ⟨rfl, g2_set HG.out (.inl rfl) _, X, (by first | exact ws_at HWS.out a | (rw [ht3]; exact ws_at HWS.out _)), HR.out⟩
/-- Where a window is, after a time. -/
def atOf (p a now : Int) : Int := max ((min (max now 0) 1152921504606846976) / p) a
theorem atOf_bd {p a : Int} (now : Int) (hp : 1 ≤ p) (ha2 : a ≤ 1152921504606846976) : a ≤ atOf p a now ∧ atOf p a now ≤ 1152921504606846976 := by
  unfold atOf
  have h1 : (min (max now 0) 1152921504606846976) / p ≤ 1152921504606846976 := Int.le_trans (Int.ediv_le_self _ (by omega)) (by omega)
  omega
theorem reach_any {b r : Nat} {p a : Int} {L : Nat} {S : Int → Int} {X : Nat → Int} (now : Int) (w : World) (h : WS b r p a L X w) (hR : RowI L a S X) (hp : 1 ≤ p) (hp2 : p ≤ 1099511627776) (hL : 1 ≤ L) (hL2 : L ≤ 64) (ha : 0 ≤ a) (ha2 : a ≤ 1152921504606846976) : Calls Try.prog 36 #[ptr b, .int .i64 now] w fun e w' => e = .returned (.tuple #[]) ∧ G2 b r w w' ∧ ∃ X', WS b r p (atOf p a now) L X' w' ∧ RowI L (atOf p a now) S X' := by
  have hbd := atOf_bd (p := p) (a := a) now hp ha2
  unfold atOf at hbd ⊢
  obtain ⟨t, ht⟩ : ∃ t, (min (max now 0) 1152921504606846976) / p = t := ⟨_, rfl⟩
  have ht0 : 0 ≤ t := by rw [← ht]; exact Int.ediv_nonneg (by omega) (by omega)
  rw [ht] at hbd ⊢
  rcases (show now < 0 ∨ (0 ≤ now ∧ now ≤ 1152921504606846976) ∨ 1152921504606846976 < now by omega) with h1 | ⟨h1, h2⟩ | h1
  · rw [show min (max now 0) 1152921504606846976 = 0 by omega, Int.zero_ediv] at ht
    rw [show max t a = a by omega]
    exact reach_same_lo now 0 w h hR hp hp2 hL hL2 ha ha2 ha (by omega) h1
  · rw [show min (max now 0) 1152921504606846976 = now by omega] at ht
    by_cases hta : t ≤ a
    · rw [show max t a = a by omega]
      exact reach_same_in now t w h hR hp hp2 hL hL2 ha ha2 ht hta ht0 h1 h2
    · rw [show max t a = t by omega]
      exact reach_up_in now t w h hR hp hp2 hL hL2 ha ha2 ht (by omega) (by omega) h1 h2
  · rw [show min (max now 0) 1152921504606846976 = 1152921504606846976 by omega] at ht
    by_cases hta : t ≤ a
    · rw [show max t a = a by omega]
      exact reach_same_hi now t w h hR hp hp2 hL hL2 ha ha2 ht hta ht0 h1
    · rw [show max t a = t by omega]
      exact reach_up_hi now t w h hR hp hp2 hL hL2 ha ha2 ht (by omega) (by omega) h1
end Go.Proofs.Ytapebhefbokcfaa.Win
