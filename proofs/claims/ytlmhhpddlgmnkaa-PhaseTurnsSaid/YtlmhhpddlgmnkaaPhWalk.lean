import Derived.Test.YtlmhhpddlgmnkaaPhRef
import Derived.Laws.BitsAllLaws
namespace Go.Proofs.Ytlmhhpddlgmnkaa.Ph
open Go.RowKit
set_option linter.unusedVariables false
set_option linter.unusedSimpArgs false
def Rd8 (w : World) (A : Option Addr) (n : Nat) (g : Nat → Int) : Prop := (∀ j, 0 ≤ g j ∧ g j ≤ 255) ∧ (0 < n → ∃ b off, A = some ⟨b, off, none⟩ ∧ ∀ j, j < n → w.cell? ⟨b, off + j, none⟩ = some (.int .u8 (g j)))
structure St where
  a : Int
  b : Int
  c : Int
  d : Int
def stepW (s : Int) (t : St) : St := if s = 0 then ⟨t.a + t.c, t.b + t.d, t.c, t.d⟩ else if s = 1 then ⟨t.a, t.b, -t.d, t.c⟩ else if s = 2 then ⟨t.a, t.b, t.d, -t.c⟩ else ⟨t.a, t.b, -t.c, -t.d⟩
def wk (g : Nat → Int) : Nat → St
  | 0 => ⟨0, 0, 1, 0⟩
  | i + 1 => stepW (g i % 4) (wk g i)
def Un (t : St) : Prop := (t.c = 1 ∧ t.d = 0) ∨ (t.c = 0 ∧ t.d = 1) ∨ (t.c = -1 ∧ t.d = 0) ∨ (t.c = 0 ∧ t.d = -1)
theorem wk_un (g : Nat → Int) (i : Nat) : Un (wk g i) := by
  induction i with
  | zero => exact .inl ⟨rfl, rfl⟩
  | succ i ih =>
    show Un (stepW (g i % 4) (wk g i))
    unfold Un at ih ⊢
    unfold stepW
    (repeat' split) <;> simp only <;> omega
theorem wk_bd (g : Nat → Int) (i : Nat) : (wk g i).a.natAbs ≤ i ∧ (wk g i).b.natAbs ≤ i := by
  induction i with
  | zero => exact ⟨Nat.le_refl 0, Nat.le_refl 0⟩
  | succ i ih =>
    have hu := wk_un g i
    show (stepW (g i % 4) (wk g i)).a.natAbs ≤ i + 1 ∧ (stepW (g i % 4) (wk g i)).b.natAbs ≤ i + 1
    unfold Un at hu
    unfold stepW
    (repeat' split) <;> simp only <;> omega
theorem and3u8 (x : Int) (h1 : 0 ≤ x) (h2 : x ≤ 255) : bits .and .u8 x 3 = x % 4 := by
  rw [u8_and x 3 h1 (by omega) (by omega) (by omega), show (3 : Int).toNat = 2 ^ 2 - 1 from rfl, Nat.and_two_pow_sub_one_eq_mod]
  omega
set_option maxHeartbeats 4000000 in
set_option maxRecDepth 100000 in
theorem walk_at (A : Option Addr) (n c : Nat) (g : Nat → Int) (w : World) (hc : n ≤ c) (hA : Rd8 w A n g) (N : Nat) (hN : (N : Int) = min (n : Int) 4096) :
    Calls Try.prog 17 #[.slice A n c] w fun e w' => e = .returned (.tuple #[cx (fw (wk g N).a) (fw (wk g N).b), cx (fw (wk g N).c) (fw (wk g N).d)]) ∧ w' = w := by
  obtain ⟨hg, hA⟩ := hA
  have HA := Lib.hid hA
  clear hA
  rcases (show (n ≤ 4096 ∧ N = n) ∨ (4096 < n ∧ N = 4096) by omega) with ⟨hn, rfl⟩ | ⟨hn, hn2⟩
  · clear hN
    go_enter Try.func17, Try.ntmps17
    go_wp2_with fail
    go_loopw [2, 3, 12] (fun v2 v3 v12 W => ∃ (i p q u v : Nat), i ≤ N ∧ v2 = cx p q ∧ v3 = cx u v ∧ v12 = .int .i64 i ∧ Hid (CR p q (wk g i).a (wk g i).b) ∧ Hid (CR u v (wk g i).c (wk g i).d) ∧ W = w) (fun _ _ v12 _ => N - (intOf v12).toNat)
    case atStart => exact ⟨0, 0, 0, 4607182418800017408, 0, by omega, rfl, rfl, rfl, ⟨fr_0, fr_0⟩, ⟨fr_1, fr_0⟩, rfl⟩
    case round =>
      obtain ⟨i, p, q, u, v, hi, rfl, rfl, rfl, HP, HQ, rfl⟩ := hrel
      have hu := wk_un g i
      have hb := wk_bd g i
      by_cases hlt : i < N
      · obtain ⟨b0, off, rfl, hcell⟩ := HA.out (by omega)
        have hcx := hcell i (by omega)
        have hgi := hg i
        obtain ⟨x, hx⟩ : ∃ x, g i = x := ⟨_, rfl⟩
        have hsu : wk g (i + 1) = stepW (x % 4) (wk g i) := by rw [← hx]; rfl
        rw [hx] at hcx hgi
        obtain ⟨x1, x2⟩ := hgi
        have hand := and3u8 x x1 x2
        have HC := Lib.hid hcell
        have HP' := HP.out
        have HQ' := HQ.out
        obtain ⟨st, hst⟩ : ∃ st, wk g i = st := ⟨_, rfl⟩
        rw [hst] at hsu hu hb HP' HQ'
        have hst0 := Lib.hid hst
        have HSU := Lib.hid hsu
        clear hcell hx hst hsu hg
        obtain ⟨ta, tb, tc, td⟩ := st
        unfold Un at hu
        simp only at hu hb HP' HQ'
        rcases (show x % 4 = 0 ∨ x % 4 = 1 ∨ x % 4 = 2 ∨ x % 4 = 3 by omega) with h4 | h4 | h4 | h4
        · rw [h4] at hand
          obtain ⟨r, s, hadd, hcr⟩ := c_add HP' HQ' (by omega) (by omega)
          have HSV := Lib.hid (show wk g (i + 1) = ⟨ta + tc, tb + td, tc, td⟩ by rw [HSU.out, h4]; rfl)
          have HR := Lib.hid hcr
          have HQ2 := Lib.hid HQ'
          clear h4 hcr HP' HQ' hu hb
          go_wp2
          refine ⟨⟨i + 1, r, s, u, v, by omega, rfl, rfl, by simp, by rw [HSV.out]; exact HR.out, by rw [HSV.out]; exact HQ2.out, trivial⟩, by simp [intOf]; omega⟩
        · rw [h4] at hand
          obtain ⟨r, s, hmul, hcr⟩ := c_mul HQ' (⟨fr_0, fr_1⟩ : CR 0 4607182418800017408 0 1) (by omega) (by omega) (by omega) (by omega) (by omega) (by omega)
          have HSV := Lib.hid (show wk g (i + 1) = ⟨ta, tb, -td, tc⟩ by rw [HSU.out, h4]; rfl)
          have HR := Lib.hid (show CR r s (-td) tc by have := hcr; simpa using this)
          have HP2 := Lib.hid HP'
          clear h4 hcr HP' HQ' hu hb
          go_wp2
          refine ⟨⟨i + 1, p, q, r, s, by omega, rfl, rfl, by simp, by rw [HSV.out]; exact HP2.out, by rw [HSV.out]; exact HR.out, trivial⟩, by simp [intOf]; omega⟩
        · rw [h4] at hand
          obtain ⟨r, s, hmul, hcr⟩ := c_mul HQ' (⟨fr_0, fr_n1⟩ : CR 0 13830554455654793216 0 (-1)) (by omega) (by omega) (by omega) (by omega) (by omega) (by omega)
          have HSV := Lib.hid (show wk g (i + 1) = ⟨ta, tb, td, -tc⟩ by rw [HSU.out, h4]; rfl)
          have HR := Lib.hid (show CR r s td (-tc) by have := hcr; simpa using this)
          have HP2 := Lib.hid HP'
          clear h4 hcr HP' HQ' hu hb
          go_wp2
          refine ⟨⟨i + 1, p, q, r, s, by omega, rfl, rfl, by simp, by rw [HSV.out]; exact HP2.out, by rw [HSV.out]; exact HR.out, trivial⟩, by simp [intOf]; omega⟩
        · rw [h4] at hand
          have hneg : ∀ w : World, (Op.unary .neg (cx u v)).run Try.prog w = .ok (cx (Op.negFloat .f64 u) (Op.negFloat .f64 v)) w := fun _ => rfl
          have HSV := Lib.hid (show wk g (i + 1) = ⟨ta, tb, -tc, -td⟩ by rw [HSU.out, h4]; rfl)
          have HR := Lib.hid (cr_neg HQ')
          have HP2 := Lib.hid HP'
          clear h4 HP' HQ' hu hb
          go_wp2
          refine ⟨⟨i + 1, p, q, _, _, by omega, rfl, rfl, by simp, by rw [HSV.out]; exact HP2.out, by rw [HSV.out]; exact HR.out, trivial⟩, by simp [intOf]; omega⟩
      · have hie : i = N := by omega
        rw [hie] at hu hb HP HQ
        have h1 : In (wk g N).a ∧ In (wk g N).b := by unfold In; omega
        have h2 : In (wk g N).c ∧ In (wk g N).d := by unfold In; unfold Un at hu; omega
        have C1 := Lib.hid (tidy_in HP.out h1.1 h1.2)
        have C2 := Lib.hid (tidy_in HQ.out h2.1 h2.2)
        clear hu hb h1 h2 hg
        go_wp2_with (first
          | (go_at_call 22; refine (C1.out _).mono ?_; clear C1; rintro e w1 ⟨rfl, rfl⟩)
          | (go_at_call 22; refine (C2.out _).mono ?_; clear C2; rintro e w2 ⟨rfl, rfl⟩)
          | fail)
        exact bodyPost_ret (results_tmp2 rfl _ _ _) rfl ⟨rfl, rfl⟩
  · clear hN
    have HNE := Lib.hid hn2
    clear hn2
    go_enter Try.func17, Try.ntmps17
    go_wp2_with fail
    go_loopw [2, 3, 12] (fun v2 v3 v12 W => ∃ (i p q u v : Nat), i ≤ N ∧ v2 = cx p q ∧ v3 = cx u v ∧ v12 = .int .i64 i ∧ Hid (CR p q (wk g i).a (wk g i).b) ∧ Hid (CR u v (wk g i).c (wk g i).d) ∧ W = w) (fun _ _ v12 _ => N - (intOf v12).toNat)
    case atStart => exact ⟨0, 0, 0, 4607182418800017408, 0, by omega, rfl, rfl, rfl, ⟨fr_0, fr_0⟩, ⟨fr_1, fr_0⟩, rfl⟩
    case round =>
      obtain ⟨i, p, q, u, v, hi, rfl, rfl, rfl, HP, HQ, rfl⟩ := hrel
      have hu := wk_un g i
      have hb := wk_bd g i
      by_cases hlt : i < N
      · have hlt2 : i < 4096 := by have := HNE.out; omega
        obtain ⟨b0, off, rfl, hcell⟩ := HA.out (by omega)
        have hcx := hcell i (by omega)
        have hgi := hg i
        obtain ⟨x, hx⟩ : ∃ x, g i = x := ⟨_, rfl⟩
        have hsu : wk g (i + 1) = stepW (x % 4) (wk g i) := by rw [← hx]; rfl
        rw [hx] at hcx hgi
        obtain ⟨x1, x2⟩ := hgi
        have hand := and3u8 x x1 x2
        have HC := Lib.hid hcell
        have HP' := HP.out
        have HQ' := HQ.out
        obtain ⟨st, hst⟩ : ∃ st, wk g i = st := ⟨_, rfl⟩
        rw [hst] at hsu hu hb HP' HQ'
        have hst0 := Lib.hid hst
        have HSU := Lib.hid hsu
        clear hcell hx hst hsu hg
        obtain ⟨ta, tb, tc, td⟩ := st
        unfold Un at hu
        simp only at hu hb HP' HQ'
        rcases (show x % 4 = 0 ∨ x % 4 = 1 ∨ x % 4 = 2 ∨ x % 4 = 3 by omega) with h4 | h4 | h4 | h4
        · rw [h4] at hand
          obtain ⟨r, s, hadd, hcr⟩ := c_add HP' HQ' (by omega) (by omega)
          have HSV := Lib.hid (show wk g (i + 1) = ⟨ta + tc, tb + td, tc, td⟩ by rw [HSU.out, h4]; rfl)
          have HR := Lib.hid hcr
          have HQ2 := Lib.hid HQ'
          clear h4 hcr HP' HQ' hu hb
          go_wp2
          refine ⟨⟨i + 1, r, s, u, v, by omega, rfl, rfl, by simp, by rw [HSV.out]; exact HR.out, by rw [HSV.out]; exact HQ2.out, trivial⟩, by simp [intOf]; omega⟩
        · rw [h4] at hand
          obtain ⟨r, s, hmul, hcr⟩ := c_mul HQ' (⟨fr_0, fr_1⟩ : CR 0 4607182418800017408 0 1) (by omega) (by omega) (by omega) (by omega) (by omega) (by omega)
          have HSV := Lib.hid (show wk g (i + 1) = ⟨ta, tb, -td, tc⟩ by rw [HSU.out, h4]; rfl)
          have HR := Lib.hid (show CR r s (-td) tc by have := hcr; simpa using this)
          have HP2 := Lib.hid HP'
          clear h4 hcr HP' HQ' hu hb
          go_wp2
          refine ⟨⟨i + 1, p, q, r, s, by omega, rfl, rfl, by simp, by rw [HSV.out]; exact HP2.out, by rw [HSV.out]; exact HR.out, trivial⟩, by simp [intOf]; omega⟩
        · rw [h4] at hand
          obtain ⟨r, s, hmul, hcr⟩ := c_mul HQ' (⟨fr_0, fr_n1⟩ : CR 0 13830554455654793216 0 (-1)) (by omega) (by omega) (by omega) (by omega) (by omega) (by omega)
          have HSV := Lib.hid (show wk g (i + 1) = ⟨ta, tb, td, -tc⟩ by rw [HSU.out, h4]; rfl)
          have HR := Lib.hid (show CR r s td (-tc) by have := hcr; simpa using this)
          have HP2 := Lib.hid HP'
          clear h4 hcr HP' HQ' hu hb
          go_wp2
          refine ⟨⟨i + 1, p, q, r, s, by omega, rfl, rfl, by simp, by rw [HSV.out]; exact HP2.out, by rw [HSV.out]; exact HR.out, trivial⟩, by simp [intOf]; omega⟩
        · rw [h4] at hand
          have hneg : ∀ w : World, (Op.unary .neg (cx u v)).run Try.prog w = .ok (cx (Op.negFloat .f64 u) (Op.negFloat .f64 v)) w := fun _ => rfl
          have HSV := Lib.hid (show wk g (i + 1) = ⟨ta, tb, -tc, -td⟩ by rw [HSU.out, h4]; rfl)
          have HR := Lib.hid (cr_neg HQ')
          have HP2 := Lib.hid HP'
          clear h4 HP' HQ' hu hb
          go_wp2
          refine ⟨⟨i + 1, p, q, _, _, by omega, rfl, rfl, by simp, by rw [HSV.out]; exact HP2.out, by rw [HSV.out]; exact HR.out, trivial⟩, by simp [intOf]; omega⟩
      · have hge : ¬ i < 4096 := by have := HNE.out; omega
        have hN9 : N ≤ 4096 := by have := HNE.out; omega
        have hie : i = N := by omega
        rw [hie] at hu hb HP HQ
        have h1 : In (wk g N).a ∧ In (wk g N).b := by unfold In; omega
        have h2 : In (wk g N).c ∧ In (wk g N).d := by unfold In; unfold Un at hu; omega
        have C1 := Lib.hid (tidy_in HP.out h1.1 h1.2)
        have C2 := Lib.hid (tidy_in HQ.out h2.1 h2.2)
        clear hu hb h1 h2 hg
        go_wp2_with (first
          | (go_at_call 22; refine (C1.out _).mono ?_; clear C1; rintro e w1 ⟨rfl, rfl⟩)
          | (go_at_call 22; refine (C2.out _).mono ?_; clear C2; rintro e w2 ⟨rfl, rfl⟩)
          | fail)
        exact bodyPost_ret (results_tmp2 rfl _ _ _) rfl ⟨rfl, rfl⟩
end Go.Proofs.Ytlmhhpddlgmnkaa.Ph
