import Derived.Test.YtapebhefbokcfaaWinMore
namespace Go.Proofs.Ytapebhefbokcfaa.Win
open Go.RowKit Go.Proofs.Ytapebhefbokcfaa.DebW
set_option linter.unusedVariables false
set_option linter.unusedSimpArgs false
theorem rowp_at {B pb n cap i : Nat} {xs : List Int} {W : World} (h : RowP B (.slice (some ⟨pb, 0, none⟩) n cap) xs W) (hi : i < xs.length) : W.cell? ⟨pb, i, none⟩ = some (.int .i64 (xs.getD i 0)) := by
  obtain ⟨h1, _⟩ := h
  have hn : n = xs.length := by
    rcases h1.2 with ⟨h2, h0⟩ | ⟨g, cap, cur, h2, hb, hg, _⟩
    · simp at h2
    · simp at h2; exact h2.2.1
  subst hn
  rw [h1.cellAt i (by simpa using hi)]
  simp [List.getD_eq_getElem?_getD, List.getElem?_eq_getElem hi]
theorem parts_get (S : Int → Int) (t : Int) {L k i : Nat} (hi : i < k) : (parts S t L k).getD i 0 = S (t + 1 + i - L) := by
  simp [parts, List.getD_eq_getElem?_getD, List.getElem?_map, List.getElem?_range hi]
def psum (S : Int → Int) (t : Int) (L k : Nat) : Int := (parts S t L k).sum
def pmax (S : Int → Int) (t : Int) (L k : Nat) : Int := (parts S t L k).foldl max 0
theorem psum_succ (S : Int → Int) (t : Int) (L k : Nat) : psum S t L (k + 1) = psum S t L k + S (t + 1 + k - L) := by simp [psum, parts_succ]
theorem pmax_succ (S : Int → Int) (t : Int) (L k : Nat) : pmax S t L (k + 1) = max (pmax S t L k) (S (t + 1 + k - L)) := by simp [pmax, parts_succ]
theorem psum_bd {S : Int → Int} (t : Int) (L k : Nat) (h : ∀ q, 0 ≤ S q ∧ S q ≤ 1125899906842624) : 0 ≤ psum S t L k ∧ psum S t L k ≤ k * 1125899906842624 := by
  induction k with
  | zero => simp [psum, parts]
  | succ k ih => rw [psum_succ]; have := h (t + 1 + k - L); omega
theorem pmax_bd {S : Int → Int} (t : Int) (L k : Nat) (h : ∀ q, 0 ≤ S q ∧ S q ≤ 1125899906842624) : 0 ≤ pmax S t L k ∧ pmax S t L k ≤ 1125899906842624 := by
  induction k with
  | zero => simp [pmax, parts]
  | succ k ih => rw [pmax_succ]; have := h (t + 1 + k - L); omega
set_option maxHeartbeats 4000000 in
set_option maxRecDepth 100000 in
theorem sum_w {b r : Nat} {p a : Int} {L : Nat} {S : Int → Int} (now : Int) (w : World) (h : WI b r p a L S w) (B : Bw p a L S) : Calls Try.prog 21 #[ptr b, .int .i64 now] w fun e w' => e = .returned (.int .i64 (psum S (atOf p a now) L L)) ∧ G2 b r w w' ∧ WI b r p (atOf p a now) L S w' := by
  have CR := Lib.hid (parts_w now w h B)
  have HS := Lib.hid B.s
  have hL := B.l2
  obtain ⟨t, ht⟩ : ∃ t, atOf p a now = t := ⟨_, rfl⟩
  rw [ht] at CR
  rw [ht]
  clear ht h B
  go_enter Try.func21, Try.ntmps21
  go_wp2_with (first | (go_at_call 20; refine (CR.out).mono ?_; rintro e w1 ⟨pb, cap, B1, rfl, hB1, hrow, hg, hwi⟩; have HR := Lib.hid hrow; have HG := Lib.hid hg; have HW := Lib.hid hwi; clear hg hwi hrow) | fail)
  go_loopw [5, 7, 12] (fun v5 v7 v12 W => ∃ (i : Nat), i ≤ L ∧ v5 = .int .i64 (psum S t L i) ∧ v12 = .int .i64 i ∧ W = w1) (fun _ _ v12 _ => ((L : Int) - intOf v12).toNat)
  case atStart => exact ⟨0, by omega, rfl, rfl, rfl⟩
  case round =>
    obtain ⟨i, hiL, rfl, rfl, rfl⟩ := hrel
    by_cases hlt : (i : Int) < (L : Int)
    · have hc := rowp_at HR.out (i := i) (by rw [parts_len]; omega)
      rw [parts_get S t (by omega)] at hc
      have hx := HS.out (t + 1 + i - L)
      have hps := psum_bd t L i HS.out
      have hp2 := psum_succ S t L i
      obtain ⟨x, hxx⟩ : ∃ x, S (t + 1 + i - L) = x := ⟨_, rfl⟩
      rw [hxx] at hc hx hp2
      obtain ⟨y, hy⟩ : ∃ y, psum S t L i = y := ⟨_, rfl⟩
      rw [hy] at hps hp2 ⊢
      have hw : IntKind.i64.wrap (y + x) = y + x := iw (by omega) (by omega)
      have HP := Lib.hid hp2
      have hi0 : (0 : Int) ≤ (i : Int) := by omega
      clear hxx hy hp2
      go_wp2
      refine ⟨⟨i + 1, by omega, by rw [HP.out], by simp, trivial⟩, by simp [intOf]; omega⟩
    · obtain rfl : i = L := by omega
      go_wp2
      go_ret
      exact ⟨rfl, HG.out, HW.out⟩
set_option maxHeartbeats 4000000 in
set_option maxRecDepth 100000 in
theorem great_w {b r : Nat} {p a : Int} {L : Nat} {S : Int → Int} (now : Int) (w : World) (h : WI b r p a L S w) (B : Bw p a L S) : Calls Try.prog 22 #[ptr b, .int .i64 now] w fun e w' => e = .returned (.int .i64 (pmax S (atOf p a now) L L)) ∧ G2 b r w w' ∧ WI b r p (atOf p a now) L S w' := by
  have CR := Lib.hid (parts_w now w h B)
  have HS := Lib.hid B.s
  have hL := B.l2
  obtain ⟨t, ht⟩ : ∃ t, atOf p a now = t := ⟨_, rfl⟩
  rw [ht] at CR
  rw [ht]
  clear ht h B
  go_enter Try.func22, Try.ntmps22
  go_wp2_with (first | (go_at_call 20; refine (CR.out).mono ?_; rintro e w1 ⟨pb, cap, B1, rfl, hB1, hrow, hg, hwi⟩; have HR := Lib.hid hrow; have HG := Lib.hid hg; have HW := Lib.hid hwi; clear hg hwi hrow) | fail)
  go_loopw [5, 7, 12] (fun v5 v7 v12 W => ∃ (i : Nat), i ≤ L ∧ v5 = .int .i64 (pmax S t L i) ∧ v12 = .int .i64 i ∧ W = w1) (fun _ _ v12 _ => ((L : Int) - intOf v12).toNat)
  case atStart => exact ⟨0, by omega, rfl, rfl, rfl⟩
  case round =>
    obtain ⟨i, hiL, rfl, rfl, rfl⟩ := hrel
    by_cases hlt : (i : Int) < (L : Int)
    · have hc := rowp_at HR.out (i := i) (by rw [parts_len]; omega)
      rw [parts_get S t (by omega)] at hc
      have hx := HS.out (t + 1 + i - L)
      have hps := pmax_bd t L i HS.out
      have hp2 := pmax_succ S t L i
      obtain ⟨x, hxx⟩ : ∃ x, S (t + 1 + i - L) = x := ⟨_, rfl⟩
      rw [hxx] at hc hx hp2
      obtain ⟨y, hy⟩ : ∃ y, pmax S t L i = y := ⟨_, rfl⟩
      rw [hy] at hps hp2 ⊢
      have HP := Lib.hid hp2
      have hi0 : (0 : Int) ≤ (i : Int) := by omega
      clear hxx hy hp2
      by_cases hxy : y < x
      all_goals
        go_wp2
        refine ⟨⟨i + 1, by omega, by rw [HP.out]; first | rfl | (congr 1; omega), by simp, trivial⟩, by simp [intOf]; omega⟩
    · obtain rfl : i = L := by omega
      go_wp2
      go_ret
      exact ⟨rfl, HG.out, HW.out⟩
end Go.Proofs.Ytapebhefbokcfaa.Win
