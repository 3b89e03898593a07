import Derived.Test.YtlmhhpddlgmnkaaPhWhole
namespace Go.Proofs.Ytlmhhpddlgmnkaa.Ph
open Go.RowKit
set_option linter.unusedVariables false
set_option linter.unusedSimpArgs false
theorem pc_alloc {p : Nat} {re im : Int} {W : World} (h : PC p re im W) (o : Obj) : PC p re im (W.alloc o) := pc_below h ((Below.refl _ _).alloc (Nat.le_refl _) _)
theorem pc_new2 (w : World) (o : Obj) (re im : Int) : PC (w.heap.size + 1) re im ((w.alloc o).alloc (.cells #[.int .i64 re, .int .i64 im] 27)) := by
  have := pc_new (w.alloc o) re im
  rw [show (w.alloc o).heap.size = w.heap.size + 1 by simp] at this
  exact this
set_option maxRecDepth 100000 in
set_option maxHeartbeats 8000000 in
theorem walks_true (A : Option Addr) (n c : Nat) (g : Nat → Int) (w : World) (hn : n ≤ 6000) (hc : n ≤ c) (hA : Rd8 w A n g) : Calls Try.prog 5 #[.slice A n c] w (Tr w) := by
  obtain ⟨N, hN⟩ : ∃ N : Nat, (N : Int) = min (n : Int) 4096 := ⟨min n 4096, by omega⟩
  have hu := wk_un g N
  have hb := wk_bd g N
  have h1 : In (wk g N).a ∧ In (wk g N).b := by unfold In; omega
  have h2 : In (wk g N).c ∧ In (wk g N).d := by unfold In; unfold Un at hu; omega
  have hone : (wk g N).c * (wk g N).c + (wk g N).d * (wk g N).d = 1 := by
    unfold Un at hu
    rcases hu with ⟨e1, e2⟩ | ⟨e1, e2⟩ | ⟨e1, e2⟩ | ⟨e1, e2⟩ <;> rw [e1, e2] <;> rfl
  have C1 := Lib.hid fixed_at
  have C2 := Lib.hid (fun W (h : Rd8 W A n g) => walk_at A n c g W hc h N hN)
  have C3 := Lib.hid (fun W (h : Rd8 W A n g) => rwalk_at A n c g W h N hN)
  have C4 := Lib.hid (is_in (cr_fw h1.1 h1.2) h1)
  have C5 := Lib.hid (is_in (cr_fw h2.1 h2.2) h2)
  have C6 := Lib.hid (show ∀ w, Calls Try.prog 14 #[cx (fw (wk g N).c) (fw (wk g N).d)] w fun e w' => e = .returned (.int .i64 1) ∧ w' = w from fun w => by have := norm_in (cr_fw h2.1 h2.2) h2.1 h2.2 w; rw [hone] at this; exact this)
  generalize (wk g N).a = a at *
  generalize (wk g N).b = b at *
  generalize (wk g N).c = c' at *
  generalize (wk g N).d = d at *
  have HA := Lib.hid hA
  clear hA hu hb h1 h2 hone hN hc
  have hrd : ∀ W, Below w.heap.size w W → Rd8 W A n g := by
    intro W hb
    refine ⟨HA.out.1, fun h0 => ?_⟩
    obtain ⟨b0, off, e, hcell⟩ := HA.out.2 h0
    refine ⟨b0, off, e, fun j hj => ?_⟩
    have hblk := World.block_lt_of_cell? w _ (hcell 0 h0)
    exact (hb.cell (p := ⟨b0, off + j, none⟩) hblk).trans (hcell j hj)
  have HRD := Lib.hid hrd
  clear hrd
  go_enter Try.func5, Try.ntmps5
  go_wp2_with (first
    | (go_at_call 7; refine (C1.out _).mono ?_; clear C1; rintro e w1 ⟨rfl, hb⟩; have HB1 := Lib.hid hb; clear hb)
    | (go_at_call 17; refine (C2.out _ (HRD.out _ HB1.out)).mono ?_; clear C2; rintro e w2 ⟨rfl, rfl⟩)
    | (go_at_call 18; refine (C3.out _ (HRD.out _ HB1.out)).mono ?_; clear C3; rintro e w3 ⟨rfl, hb⟩; have HB3 := Lib.hid (below_tr HB1.out hb); clear hb; have HP3 := Lib.hid (pc_alloc (pc_new w3 a b) (.cells #[.int .i64 c', .int .i64 d] 27)); have HQ3 := Lib.hid (pc_new2 w3 (.cells #[.int .i64 a, .int .i64 b] 27) c' d))
    | (go_at_call 11; refine (C4.out _).mono ?_; clear C4; rintro e w5 ⟨rfl, hb⟩; have HQ5 := Lib.hid (pc_below HQ3.out hb); have HB5 := Lib.hid (below_tr ((HB3.out.alloc HB3.out.size _).alloc (by have := HB3.out.size; simp; omega) _) hb); have p0 := HQ5.out.1.1; have p1 := HQ5.out.1.2; clear hb)
    | (go_at_call 11; refine (C5.out _).mono ?_; clear C5; rintro e w6 ⟨rfl, hb⟩; have HB6 := Lib.hid (below_tr HB5.out hb); clear hb)
    | (go_at_call 14; refine (C6.out _).mono ?_; clear C6; rintro e w7 ⟨rfl, rfl⟩)
    | fail)
  go_ret
  exact ⟨rfl, HB6.out⟩
set_option maxRecDepth 100000 in
theorem walks_long (A : Option Addr) (n c : Nat) (w : World) (hn : 6000 < n) : Calls Try.prog 5 #[.slice A n c] w (Tr w) := by
  have C1 := Lib.hid fixed_at
  go_enter Try.func5, Try.ntmps5
  go_wp2_with (first
    | (go_at_call 7; refine (C1.out _).mono ?_; clear C1; rintro e w1 ⟨rfl, hb⟩; have HB1 := Lib.hid hb; clear hb)
    | fail)
  go_ret
  exact ⟨rfl, HB1.out⟩
theorem rd8_of {w : World} {a : Option Addr} {len cap : Nat} {zs : List Int} (h : (a = none ∧ len = 0 ∧ cap = 0 ∧ zs = []) ∨ ∃ x, a = some x ∧ len ≤ cap ∧ cap ≤ maxLen ∧ zs.length = cap ∧ (∀ j, j < zs.length → w.cell? (x.add j) = some (.int .u8 (zs.getD j 0))) ∧ (∀ y ∈ zs, (Lit.int .u8 y).wf = true)) :
    len ≤ cap ∧ Rd8 w a len (fun j => zs.getD j 0) := by
  rcases h with ⟨rfl, rfl, rfl, rfl⟩ | ⟨x, rfl, h1, h2, h3, h4, h5⟩
  · exact ⟨Nat.le_refl _, fun j => by show 0 ≤ ([] : List Int).getD j 0 ∧ ([] : List Int).getD j 0 ≤ 255; simp, fun h => absurd h (by omega)⟩
  · refine ⟨h1, fun j => ?_, fun h => ?_⟩
    · by_cases hj : j < zs.length
      · have := h5 (zs.getD j 0) (by rw [List.getD_eq_getElem?_getD, List.getElem?_eq_getElem hj]; exact List.getElem_mem hj)
        exact bounds_u8 this
      · show 0 ≤ zs.getD j 0 ∧ zs.getD j 0 ≤ 255
        rw [List.getD_eq_getElem?_getD, List.getElem?_eq_none (Nat.le_of_not_lt hj)]
        decide
    · obtain ⟨b, off, rfl, hc⟩ := ints_at h4 (by omega)
      exact ⟨b, off, rfl, fun j hj => hc j (by omega)⟩
theorem walks_all (a : Option Addr) (len cap : Nat) (zs : List Int) (w : World) (h : (a = none ∧ len = 0 ∧ cap = 0 ∧ zs = []) ∨ ∃ x, a = some x ∧ len ≤ cap ∧ cap ≤ maxLen ∧ zs.length = cap ∧ (∀ j, j < zs.length → w.cell? (x.add j) = some (.int .u8 (zs.getD j 0))) ∧ (∀ y ∈ zs, (Lit.int .u8 y).wf = true)) :
    Calls Try.prog 5 #[.slice a len cap] w (Tr w) := by
  have hr := rd8_of h
  by_cases hn : len ≤ 6000
  · exact walks_true a len cap _ w hn hr.1 hr.2
  · exact walks_long a len cap w (by omega)
end Go.Proofs.Ytlmhhpddlgmnkaa.Ph
