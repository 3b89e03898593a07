import Derived.Test.YtapebhefbokcfaaWinReach
namespace Go.Proofs.Ytapebhefbokcfaa.Win
open Go.RowKit Go.Proofs.Ytapebhefbokcfaa.DebW
set_option linter.unusedVariables false
set_option linter.unusedSimpArgs false
def bump (S : Int → Int) (t c : Int) : Int → Int := fun q => if q = t then S q + c else S q
theorem row_bump {L : Nat} {a c : Int} {S : Int → Int} {X : Nat → Int} (hL : 1 ≤ L) (h : RowI L a S X) : RowI L a (bump S a c) (upd X (a % L).toNat (X (a % L).toNat + c)) := by
  have hL' : (0 : Int) < L := by omega
  refine ⟨fun q h1 h2 => ?_, fun q h1 => ?_⟩
  · unfold upd bump
    by_cases e : q = a
    · subst e; rw [if_pos rfl, if_pos rfl, h.1 q h1 h2]
    · have hm := mod_ne (q := q) (k := a) hL' (by omega) (by omega)
      have n1 := Int.emod_nonneg q (b := L) (by omega)
      have n2 := Int.emod_nonneg a (b := L) (by omega)
      rw [if_neg (by omega), if_neg e]
      exact h.1 q h1 h2
  · unfold bump; rw [if_neg (by omega)]; exact h.2 q h1
set_option maxHeartbeats 4000000 in
set_option maxRecDepth 100000 in
theorem add_at {b r : Nat} {p a : Int} {L : Nat} {S : Int → Int} {X : Nat → Int} (now n : Int) (w : World) (h : WS b r p a L X w) (hR : RowI L a S X) (hp : 1 ≤ p) (hp2 : p ≤ 1099511627776) (hL : 1 ≤ L) (hL2 : L ≤ 64) (ha : 0 ≤ a) (ha2 : a ≤ 1152921504606846976) (hS : ∀ q, 0 ≤ S q ∧ S q ≤ 1152921504606846976) : Calls Try.prog 23 #[ptr b, .int .i64 now, .int .i64 n] w fun e w' => e = .returned (.tuple #[]) ∧ G2 b r w w' ∧ ∃ X', WS b r p (atOf p a now) L X' w' ∧ RowI L (atOf p a now) (bump S (atOf p a now) (min (max n 0) 1099511627776)) X' := by
  have CR := Lib.hid (reach_any now w h hR hp hp2 hL hL2 ha ha2)
  have hbd := atOf_bd (p := p) (a := a) now hp ha2
  obtain ⟨t, ht⟩ : ∃ t, atOf p a now = t := ⟨_, rfl⟩
  obtain ⟨c, hc⟩ : ∃ c, min (max n 0) 1099511627776 = c := ⟨_, rfl⟩
  rw [ht] at CR hbd
  rw [ht, hc]
  have hc0 : 0 ≤ c ∧ c ≤ 1099511627776 := by omega
  obtain ⟨hc1, hc2⟩ := hc0
  have CC := Lib.hid (fun w => (come_at n w).mono fun e w' (q : e = .returned (.int .i64 (min (max n 0) 1099511627776)) ∧ w = w') => (show e = .returned (.int .i64 c) ∧ w' = w from ⟨by rw [← hc]; exact q.1, q.2.symm⟩))
  have HS := Lib.hid hS
  have hb0 := h.hb
  clear ht hc hS h hR
  go_enter Try.func23, Try.ntmps23
  go_wp2_with (first | (go_at_call 36; refine (CR.out).mono ?_; rintro e w1 ⟨rfl, hg, X1, hws, hri⟩; have HG := Lib.hid hg; have HW := Lib.hid hws; have HR := Lib.hid hri; clear hg hws hri) | fail)
  obtain ⟨c0, c1, c2, z1, cr, zr, hb', hr', _⟩ := HW.out
  obtain ⟨k1, k2⟩ := hbd
  have n1 := Int.emod_nonneg t (b := L) (by omega)
  have n2 := Int.emod_lt_of_pos t (b := L) (by omega)
  have htm : t.tmod (L : Int) = t % (L : Int) := Int.tmod_eq_emod_of_nonneg (by omega)
  have hrow := row_bump (c := c) hL HR.out
  have hx := HR.out.1 t (by omega) (by omega)
  obtain ⟨m, hm⟩ : ∃ m, t % (L : Int) = m := ⟨_, rfl⟩
  rw [hm] at n1 n2 hrow htm hx
  have hxb := HS.out t
  rw [← hx] at hxb
  have ck := cr m.toNat (by omega)
  have zk := zr m.toNat (by omega)
  obtain ⟨x, hxx⟩ : ∃ x, X1 m.toNat = x := ⟨_, rfl⟩
  rw [hxx] at hxb ck hrow
  obtain ⟨x0, x1⟩ := hxb
  have HRW := Lib.hid hrow
  clear hrow cr zr hm hx hxx
  have hLz : ¬ (L : Int) = 0 := by omega
  have hLz2 : ¬ L = 0 := by omega
  have hw1 : IntKind.i64.wrap m = m := iw (by omega) (by omega)
  have hw2 : IntKind.i64.wrap (t.tmod (L : Int)) = m := by rw [htm]; exact hw1
  have hw3 : IntKind.i64.wrap (x + c) = x + c := iw (by omega) (by omega)
  have hmn : (m.toNat : Int) = m := by omega
  have hml : m.toNat < L := by omega
  go_still_tail 20, (by kernel_rfl)
  still_call (CC.out _)
  repeat still_step
  refine wpStill_nil ?_
  change wpList _ _ _ _ _ w1.drew
  go_wp2
  refine bodyPost_end (results_none rfl _ _ _) rfl ⟨rfl, g2_set (g2_drewN HG.out 1) (.inr (.inl rfl)) _, _, ws_row (ws_drewN HW.out 1) hml (x + c), HRW.out⟩
end Go.Proofs.Ytapebhefbokcfaa.Win
