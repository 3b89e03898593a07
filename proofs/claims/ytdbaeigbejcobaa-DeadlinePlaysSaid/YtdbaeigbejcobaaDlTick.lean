import Derived.Test.YtdbaeigbejcobaaDlCome
import Derived.Test.YtdbaeigbejcobaaDlNext
namespace Go.Proofs.Ytdbaeigbejcobaa.Dl
open Go.RowKit
set_option linter.unusedVariables false
set_option linter.unusedSimpArgs false
/-- What is played. -/
structure St where
  L : Nat → Int
  D : Nat → Int
  M : Nat → Int
  q : Int
  xs : List Int
def pick (z : Nat → Int × Int × Int) (n : Nat) (t : Int) (s : St) : Int := nx (cL z t s.L n) (cD z t s.D n) n
def step (z : Nat → Int × Int × Int) (n : Nat) (t : Int) (s : St) : St where
  L := if pick z n t s < 0 then cL z t s.L n else upd (cL z t s.L n) (pick z n t s).toNat (cL z t s.L n (pick z n t s).toNat - 1)
  D := cD z t s.D n
  M := cM z t s.L s.M n
  q := if pick z n t s < 0 then s.q + 1 else s.q
  xs := s.xs ++ [pick z n t s]
def st (z : Nat → Int × Int × Int) (n : Nat) : Nat → St
  | 0 => ⟨fun _ => 0, fun _ => 0, fun _ => 0, 0, []⟩
  | t + 1 => step z n t (st z n t)
structure SB (n t : Nat) (s : St) : Prop where
  l : ∀ i, i < n → 0 ≤ s.L i ∧ s.L i ≤ 1000
  m : ∀ i, i < n → 0 ≤ s.M i ∧ s.M i ≤ t
  q : 0 ≤ s.q ∧ s.q ≤ t
  x : s.xs.length = t
theorem nx_pos (L D : Nat → Int) (j : Nat) (h : 0 ≤ nx L D j) : 0 < L (nx L D j).toNat := by
  induction j with
  | zero => simp [nx] at h
  | succ j ih =>
    unfold nx at h ⊢
    by_cases e : 0 < L j ∧ (nx L D j < 0 ∨ D j < D (nx L D j).toNat)
    · rw [if_pos e]; simpa using e.1
    · rw [if_neg e] at h ⊢; exact ih h
theorem cL_bd {z : Nat → Int × Int × Int} {t : Int} {L : Nat → Int} {n : Nat} (hz : ∀ i, i < n → TaskOk (z i)) (h : ∀ i, i < n → 0 ≤ L i ∧ L i ≤ 1000) : ∀ i, i < n → 0 ≤ cL z t L n i ∧ cL z t L n i ≤ 1000 := by
  intro i hi
  have h1 := h i hi
  have h2 := hz i hi
  unfold TaskOk at h2
  unfold cL; split <;> omega
theorem cM_bd {z : Nat → Int × Int × Int} {t : Int} {L M : Nat → Int} {n k : Nat} (h : ∀ i, i < n → 0 ≤ M i ∧ M i ≤ k) : ∀ i, i < n → 0 ≤ cM z t L M n i ∧ cM z t L M n i ≤ (k + 1 : Nat) := by
  intro i hi
  have h1 := h i hi
  unfold cM; split <;> omega
theorem sb_step {z : Nat → Int × Int × Int} {n t : Nat} {s : St} (hz : ∀ i, i < n → TaskOk (z i)) (h : SB n t s) : SB n (t + 1) (step z n t s) := by
  have hl := cL_bd (t := (t : Int)) hz h.l
  refine ⟨?_, cM_bd h.m, ?_, ?_⟩
  · intro i hi
    have h1 := hl i hi
    have hp := nx_pos (cL z t s.L n) (cD z t s.D n) n
    unfold step pick
    dsimp only
    split
    · exact h1
    · unfold upd; split
      · subst_vars
        have := hp (by omega)
        omega
      · exact h1
  · have := h.q
    unfold step; dsimp only; split <;> omega
  · unfold step; simp [h.x]
theorem sb_st {z : Nat → Int × Int × Int} {n : Nat} (hz : ∀ i, i < n → TaskOk (z i)) (t : Nat) : SB n t (st z n t) := by
  induction t with
  | zero => exact ⟨fun i hi => by simp [st], fun i hi => by simp [st], by simp [st], rfl⟩
  | succ t ih => exact sb_step hz ih
set_option maxRecDepth 100000 in
set_option maxHeartbeats 4000000 in
theorem tick_at (A0 : Option Addr) (n c : Nat) (z : Nat → Int × Int × Int) (wb : World) {base pb rl rd rm : Nat} {s : St} {v : Value} (t : Nat) (w : World) (ht : t ≤ 19999) (hA : Rd3 wb A0 n z) (hok : AllOk z n) (hbase : wb.heap.size = base) (hbel : Below base wb w)
    (hS : SB n t s) (h : PI base pb rl rd rm n (.slice A0 n c) s.L s.D s.M s.q v s.xs w) :
    Calls Try.prog 29 #[ptr pb, .int .i64 t] w fun e w' => e = .returned (.tuple #[]) ∧ (∃ v', PI base pb rl rd rm n (.slice A0 n c) (step z n t s).L (step z n t s).D (step z n t s).M (step z n t s).q v' (step z n t s).xs w') ∧ Below base wb w' := by
  have C1 := Lib.hid (come_at A0 n c z wb t w (by omega) hA hok hbase hbel (fun i hi => by have := hS.m i hi; omega) h)
  have C2 := Lib.hid (fun W k => @next_at A0 n c base pb rl rd rm (cL z t s.L n) (cD z t s.D n) (cM z t s.L s.M n) s.q v s.xs W hok.2.2 k)
  have hn : n ≤ 16 := hok.2.2
  have HB := Lib.hid hbase
  have hqb := hS.q
  have hx := hS.x
  have HX := Lib.hid (show s.xs.length ≤ 30000 by omega)
  have HL := Lib.hid (cL_bd (t := (t : Int)) hok.1 hS.l)
  have HN := Lib.hid (nx_pos (cL z t s.L n) (cD z t s.D n) n)
  have hnb := nx_bd (cL z t s.L n) (cD z t s.D n) n
  have hq : (step z n t s).q = if nx (cL z t s.L n) (cD z t s.D n) n < 0 then s.q + 1 else s.q := rfl
  have hL : (step z n t s).L = if nx (cL z t s.L n) (cD z t s.D n) n < 0 then cL z t s.L n else upd (cL z t s.L n) (nx (cL z t s.L n) (cD z t s.D n) n).toNat (cL z t s.L n (nx (cL z t s.L n) (cD z t s.D n) n).toNat - 1) := rfl
  have hxs : (step z n t s).xs = s.xs ++ [nx (cL z t s.L n) (cD z t s.D n) n] := rfl
  have hD : (step z n t s).D = cD z t s.D n := rfl
  have hM : (step z n t s).M = cM z t s.L s.M n := rfl
  rw [hD, hM, hxs]
  clear hA hok hbel hbase h hS hx hD hM hxs
  generalize cL z t s.L n = L1 at *
  generalize cD z t s.D n = D1 at *
  generalize cM z t s.L s.M n = M1 at *
  obtain ⟨b, hb⟩ : ∃ b, nx L1 D1 n = b := ⟨_, rfl⟩
  rw [hb] at HN hnb hq hL C2 ⊢
  clear hb
  have info3 : (Try.prog.info? 3).map (fun i => (i.zero, i.size, i.bytes)) = some (some (.int .i64 0), 1, 8) := by kernel_rfl
  by_cases h0 : b < 0
  · rw [if_pos h0] at hq hL
    rw [hq, hL]
    clear hq hL HN
    obtain ⟨q0, q1⟩ := hqb
    have hw1 : IntKind.i64.wrap (s.q + 1) = s.q + 1 := iw (by omega) (by omega)
    go_enter Try.func29, Try.ntmps29
    go_wp2_with (first
      | (go_at_call 40; refine (C1.out).mono ?_; clear C1; rintro e w1 ⟨rfl, hp, hb⟩; have HP1 := Lib.hid hp; have HB1 := Lib.hid hb; clear hb hp)
      | (go_at_call 41; refine (C2.out _ HP1.out).mono ?_; clear C2; rintro e w2 ⟨rfl, hb⟩; have HP2 := Lib.hid (pi_below HP1.out hb); have HB2 := Lib.hid (HB1.out.trans (hb.mono (by rw [← HB.out]; exact HB1.out.size))); clear HP1 HB1; have c3 := HP2.out.c3; have HZ2 := Lib.hid (show base ≤ w2.heap.size by rw [← HB.out]; exact HB2.out.size); clear hb)
      | (at_builtin; refine app1z (W := w2) base rfl _ _ 24 rfl Try.underlying24 info3 v s.xs b rfl ?hx HP2.out.row HZ2.out HX.out ?_; (case hx => rfl); intro zs g1 cap1 w3 HZ hr3; have HA3 := Lib.hid (pi_app _ HP2.out hr3.out.1 hr3.out.2.1 hr3.out.2.2 HZ2.out); clear c3 hr3; have k3 := HA3.out.2.2.1; have f3 := HA3.out.2.2.2; have HP3 := Lib.hid HA3.out.1; have HB3 := Lib.hid (HB2.out.trans HA3.out.2.1); clear HA3; have c5 := HP3.out.c5; have z5 := HP3.out.z5)
      | fail)
    refine bodyPost_ret (results_none rfl _ _ _) rfl ⟨rfl, ⟨_, by rw [← HZ.out]; exact pi_q HP3.out _⟩, below_set HB3.out HP3.out.lo.1 _⟩
  · rw [if_neg h0] at hq hL
    rw [hq, hL]
    obtain ⟨k, hk⟩ : ∃ k : Nat, b = k := ⟨b.toNat, by omega⟩
    subst hk
    simp only [Int.toNat_natCast] at HN ⊢
    have hkn : k < n := by omega
    have hlb := HL.out k hkn
    have hlp := HN.out (by omega)
    obtain ⟨x, hx⟩ : ∃ x, L1 k = x := ⟨_, rfl⟩
    have HLX := Lib.hid hx
    rw [hx] at hlb hlp ⊢
    clear hq hL HN HL hx hqb
    have hw1 : IntKind.i64.wrap (x - 1) = x - 1 := iw (by omega) (by omega)
    go_enter Try.func29, Try.ntmps29
    go_wp2_with (first
      | (go_at_call 40; refine (C1.out).mono ?_; clear C1; rintro e w1 ⟨rfl, hp, hb⟩; have HP1 := Lib.hid hp; have HB1 := Lib.hid hb; clear hb hp)
      | (go_at_call 41; refine (C2.out _ HP1.out).mono ?_; clear C2; rintro e w2 ⟨rfl, hb⟩; have HP2 := Lib.hid (pi_below HP1.out hb); have HB2 := Lib.hid (HB1.out.trans (hb.mono (by rw [← HB.out]; exact HB1.out.size))); clear HP1 HB1; have c3 := HP2.out.c3; have HZ2 := Lib.hid (show base ≤ w2.heap.size by rw [← HB.out]; exact HB2.out.size); clear hb)
      | (at_builtin; refine app1z (W := w2) base rfl _ _ 24 rfl Try.underlying24 info3 v s.xs (k : Int) rfl ?hx HP2.out.row HZ2.out HX.out ?_; (case hx => rfl); intro zs g1 cap1 w3 HZ hr3; have HA3 := Lib.hid (pi_app _ HP2.out hr3.out.1 hr3.out.2.1 hr3.out.2.2 HZ2.out); clear c3 hr3; have k3 := HA3.out.2.2.1; have f3 := HA3.out.2.2.2; have HP3 := Lib.hid HA3.out.1; have HB3 := Lib.hid (HB2.out.trans HA3.out.2.1); clear HA3; have c1 := HP3.out.c1; have hl3 := HP3.out.l k hkn; rw [HLX.out] at hl3; obtain ⟨l3, l4⟩ := hl3)
      | fail)
    refine bodyPost_end (results_none rfl _ _ _) rfl ⟨rfl, ⟨_, by rw [← HZ.out]; exact pi_l HP3.out k _⟩, below_set HB3.out HP3.out.lo.2.1 _⟩
end Go.Proofs.Ytdbaeigbejcobaa.Dl
