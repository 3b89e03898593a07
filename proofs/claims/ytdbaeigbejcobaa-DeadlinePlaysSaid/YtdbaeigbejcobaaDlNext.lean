import Derived.Test.YtdbaeigbejcobaaDlPl0
namespace Go.Proofs.Ytdbaeigbejcobaa.Dl
open Go.RowKit
set_option linter.unusedVariables false
set_option linter.unusedSimpArgs false
/-- The task that is next, of the first ones; -1: none. -/
def nx (L D : Nat → Int) : Nat → Int
  | 0 => -1
  | j + 1 => if 0 < L j ∧ (nx L D j < 0 ∨ D j < D (nx L D j).toNat) then (j : Int) else nx L D j
theorem nx_bd (L D : Nat → Int) (j : Nat) : -1 ≤ nx L D j ∧ nx L D j < j := by
  induction j with
  | zero => unfold nx; omega
  | succ j ih => unfold nx; split <;> omega
set_option maxRecDepth 100000 in
set_option maxHeartbeats 4000000 in
theorem next_at (A0 : Option Addr) (n c : Nat) {base pb rl rd rm : Nat} {L D M : Nat → Int} {q : Int} {v : Value} {xs : List Int} (w : World) (hn : n ≤ 16) (h : PI base pb rl rd rm n (.slice A0 n c) L D M q v xs w) :
    Calls Try.prog 41 #[ptr pb] w fun e w' => e = .returned (.int .i64 (nx L D n)) ∧ Below w.heap.size w w' := by
  have c1 := h.c1
  have HP := Lib.hid h
  clear h
  go_enter Try.func41, Try.ntmps41
  go_wp2_with fail
  go_loopw [3, 11] (fun v3 v11 W => ∃ (i : Nat), i ≤ n ∧ v11 = .int .i64 i ∧ v3 = .int .i64 (nx L D i) ∧ Hid (PI base pb rl rd rm n (.slice A0 n c) L D M q v xs W) ∧ Hid (Below w.heap.size w W)) (fun _ v11 _ => n - (intOf v11).toNat)
  case atStart => exact ⟨0, by omega, rfl, rfl, HP.out, Below.refl _ _⟩
  case round =>
    clear c1 HP
    obtain ⟨i, hi, rfl, rfl, HP, HB⟩ := hrel
    rename World => wo
    by_cases hlt : i < n
    · have hst : nx L D (i + 1) = if 0 < L i ∧ (nx L D i < 0 ∨ D i < D (nx L D i).toNat) then (i : Int) else nx L D i := rfl
      have hbd := nx_bd L D i
      have c1 := HP.out.c1
      have c2 := HP.out.c2
      obtain ⟨l1, _⟩ := HP.out.l i hlt
      obtain ⟨d1, _⟩ := HP.out.d i hlt
      have ed : 0 ≤ nx L D i → ∃ k : Nat, k < n ∧ nx L D i = k := fun h => ⟨(nx L D i).toNat, by omega, by omega⟩
      by_cases hl : 0 < L i
      · by_cases hb : nx L D i < 0
        · have e1 : nx L D i = -1 := by omega
          rw [if_pos ⟨hl, .inl hb⟩] at hst
          have HST := Lib.hid hst
          rw [e1]
          clear hst hbd ed hb e1 d1 c2
          generalize L i = x at *
          go_wp2_with fail
          go_quiet (fail)
          go_wp2
          exact ⟨⟨i + 1, by omega, by simp, by rw [HST.out], pi_drewN HP.out _, below_drewN HB.out _⟩, by simp [intOf]; omega⟩
        · obtain ⟨k, hk, ek⟩ := ed (by omega)
          obtain ⟨d2, _⟩ := HP.out.d k hk
          rw [ek] at hst ⊢
          simp only [Int.toNat_natCast] at hst
          have hz : ¬ (k : Int) < 0 := by omega
          by_cases hd : D i < D k
          · rw [if_pos ⟨hl, .inr hd⟩] at hst
            have HST := Lib.hid hst
            clear hst hbd ed hb ek
            generalize L i = x at *
            generalize D i = y at *
            generalize D k = yk at *
            go_wp2_with fail
            go_quiet (fail)
            go_wp2
            exact ⟨⟨i + 1, by omega, by simp, by rw [HST.out], pi_drewN HP.out _, below_drewN HB.out _⟩, by simp [intOf]; omega⟩
          · rw [if_neg (fun k => k.2.elim hz hd)] at hst
            have HST := Lib.hid hst
            clear hst hbd ed hb ek
            generalize L i = x at *
            generalize D i = y at *
            generalize D k = yk at *
            go_wp2_with fail
            go_quiet (fail)
            go_wp2
            exact ⟨⟨i + 1, by omega, by simp, by rw [HST.out], pi_drewN HP.out _, below_drewN HB.out _⟩, by simp [intOf]; omega⟩
      · rw [if_neg (fun k => hl k.1)] at hst
        have HST := Lib.hid hst
        clear hst ed d1 c2
        generalize L i = x at *
        generalize nx L D i = y at *
        have hdl : decide (0 < x) = false := decide_eq_false hl
        go_wp2_with fail
        go_quiet (fail)
        go_wp2
        exact ⟨⟨i + 1, by omega, by simp, by rw [HST.out], pi_drewN HP.out _, below_drewN HB.out _⟩, by simp [intOf]; omega⟩
    · obtain rfl : i = n := by omega
      go_wp2
      go_ret
      exact ⟨rfl, HB.out⟩
end Go.Proofs.Ytdbaeigbejcobaa.Dl
