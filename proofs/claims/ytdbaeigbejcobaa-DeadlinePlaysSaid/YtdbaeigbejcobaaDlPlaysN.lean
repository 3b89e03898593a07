import Derived.Test.YtdbaeigbejcobaaDlPlays
namespace Go.Proofs.Ytdbaeigbejcobaa.Dl
open Go.RowKit
set_option linter.unusedVariables false
set_option linter.unusedSimpArgs false
theorem play_wn (A0 : Option Addr) (n c : Nat) (z : Nat → Int × Int × Int) (t : Int) (w : World) (hA : Rd3 w A0 n z) (hok : AllOk z n) (ht : t < 0) : Calls Try.prog 11 #[.slice A0 n c, .int .i64 t] w fun e w' => ∃ (A1 : Option Addr) (cap rm : Nat), e = .returned (.agg #[.slice A1 0 cap, .slice (some ⟨rm, 0, none⟩) n n, .int .i64 0]) ∧ (Rd3 (w'.alloc (.cells #[.slice A1 0 cap, .slice (some ⟨rm, 0, none⟩) n n, .int .i64 0] 26)) A0 n z ∧ (w'.alloc (.cells #[.slice A1 0 cap, .slice (some ⟨rm, 0, none⟩) n n, .int .i64 0] 26)).heap[w'.heap.size]? = some (.cells #[.slice A1 0 cap, .slice (some ⟨rm, 0, none⟩) n n, .int .i64 0] 26) ∧ rm < (w'.alloc (.cells #[.slice A1 0 cap, .slice (some ⟨rm, 0, none⟩) n n, .int .i64 0] 26)).heap.size ∧ ∀ i, i < n → (w'.alloc (.cells #[.slice A1 0 cap, .slice (some ⟨rm, 0, none⟩) n n, .int .i64 0] 26)).cell? ⟨rm, i, none⟩ = some (.int .i64 0)) ∧ Below w.heap.size w (w'.alloc (.cells #[.slice A1 0 cap, .slice (some ⟨rm, 0, none⟩) n n, .int .i64 0] 26)) := by
  refine (play_neg A0 n c z t w hA hok ht).mono ?_
  rintro e w' ⟨v, rm, he, hr, h1, h2, h3, h4⟩
  obtain ⟨A1, cap, rfl, _⟩ := rowp_any hr
  refine ⟨A1, cap, rm, he, ?_, h4.alloc h4.size _⟩
  have hb := (Below.refl w'.heap.size w').alloc (Nat.le_refl _) (.cells #[.slice A1 0 cap, .slice (some ⟨rm, 0, none⟩) n n, .int .i64 0] 26)
  have k := (bcell hb).1
  exact ⟨rd3_below (rd3_below hA h4) hb, heap_alloc_new _ _, Nat.lt_of_lt_of_le h2 hb.size, fun i hi => (k _ _ h2).trans (h3 i hi)⟩
/-- What is known throughout. -/
def PN (A : Option Addr) (n : Nat) (z : Nat → Int × Int × Int) (r rm cap : Nat) (A1 : Option Addr) (W : World) : Prop := Rd3 W A n z ∧ W.heap[r]? = some (.cells #[.slice A1 0 cap, .slice (some ⟨rm, 0, none⟩) n n, .int .i64 0] 26) ∧ rm < W.heap.size ∧ ∀ i, i < n → W.cell? ⟨rm, i, none⟩ = some (.int .i64 0)
theorem pn_below {A : Option Addr} {n : Nat} {z : Nat → Int × Int × Int} {r rm cap : Nat} {A1 : Option Addr} {W W' : World} (h : PN A n z r rm cap A1 W) (hb : Below W.heap.size W W') : PN A n z r rm cap A1 W' := by
  have k := (bcell hb).1
  exact ⟨rd3_below h.1 hb, (hb.block r (Array.getElem?_eq_some_iff.1 h.2.1).1).trans h.2.1, Nat.lt_of_lt_of_le h.2.2.1 hb.size, fun i hi => (k _ _ h.2.2.1).trans (h.2.2.2 i hi)⟩
set_option maxRecDepth 100000 in
set_option maxHeartbeats 8000000 in
theorem plays_neg (A : Option Addr) (n c : Nat) (z : Nat → Int × Int × Int) (T : Int) (w : World) (hT : T < 0) (hA : Rd3 w A n z) (h : AllOk z n) : Calls Try.prog 3 #[.slice A n c, .int .i64 T] w (Tr w) := by
  have CF := Lib.hid fixed_at
  have hn : n ≤ 16 := h.2.2
  have hn1 : 1 ≤ n := h.2.1
  have C1 := Lib.hid (fun W k => play_wn A n c z T W k h hT)
  have C2 := Lib.hid (fun W k => Right_yes A n c z W k h)
  have C3 := Lib.hid (fun W k => (right_at A n c z W (by omega) k).mono fun e w' (q : _ ∧ _ ∧ _) => (show e = .returned (.bool true) ∧ Below W.heap.size W w' from ⟨q.1 h, q.2.2⟩))
  have HA := Lib.hid hA
  have info3 : (Try.prog.info? 3).map (fun i => (i.zero, i.size, i.bytes)) = some (some (.int .i64 0), 1, 8) := by kernel_rfl
  have hmk := run_make_row' (P := Try.prog) 24 3 (.int .i64 0) 8 Try.underlying24 info3 rfl .i64 .i64 n (by omega) (by omega)
  clear hA h
  go_enter Try.func3, Try.ntmps3
  go_wp2_with (first
    | (go_at_call 10; refine (CF.out _).mono ?_; clear CF; rintro e w1 ⟨rfl, hb⟩; have HB1 := Lib.hid hb; have HA1 := Lib.hid (rd3_below HA.out hb); clear hb)
    | (go_at_call 11; refine (C1.out _ HA1.out).mono ?_; clear C1; rintro e w2 ⟨A1, cap, rm, rfl, hp, hb⟩; have HP2 := Lib.hid (show PN A n z w2.heap.size rm cap A1 _ from hp); have HB2 := Lib.hid (below_tr HB1.out hb); obtain ⟨r, hr⟩ : ∃ r, w2.heap.size = r := ⟨_, rfl⟩; clear HB1 HA1 hb hp)
    | (go_at_call 12; refine (C2.out _ HP2.out.1).mono ?_; clear C2; rintro e w3 ⟨rfl, hb⟩; have HP3 := Lib.hid (pn_below HP2.out hb); have HB3 := Lib.hid (below_tr HB2.out hb); clear HB2 HP2 hb)
    | (go_at_call 13; refine (C3.out _ HP3.out.1).mono ?_; rintro e w4 ⟨rfl, hb⟩; have HP4 := Lib.hid (pn_below HP3.out hb); have HB4 := Lib.hid (below_tr HB3.out hb); clear HB3 HP3 hb)
    | (go_at_call 13; refine (C3.out _ HP4.out.1).mono ?_; clear C3; rintro e w5 ⟨rfl, hb⟩; have HP5 := Lib.hid (pn_below HP4.out hb); have HB5 := Lib.hid (below_tr HB4.out hb); rw [hr] at HP5; have h5 := (Below.refl w5.heap.size w5).alloc (Nat.le_refl _) (.cells (madeCells #[.int .i64 0] n) 3); obtain ⟨⟨a0, _⟩, ⟨a1, _⟩, a2, _⟩ := run_cells (pn_below HP5.out h5).2.1; clear HB4 HP4 hb h5)
    | fail)
  have HRR := Lib.hid hr
  clear hr hmk
  have HW0 := Lib.hid (rw_new w5 n)
  have HB0 := Lib.hid ((Below.refl w5.heap.size w5).alloc (Nat.le_refl _) (.cells (madeCells #[.int .i64 0] n) 3))
  go_loopw [8, 10, 85] (fun v8 v10 v85 W => v85 = .int .i64 0 ∧ v10 = .int .i64 0 ∧ Hid (RW w5.heap.size w5.heap.size n (fun _ => 0) (.slice none 0 0) [] W) ∧ Hid (Below w5.heap.size w5 W)) (fun _ _ v85 _ => 1 - (intOf v85).toNat)
  case atStart => exact ⟨rfl, rfl, HW0.out, HB0.out⟩
  case round =>
    clear a0 a1 a2 HW0 HB0
    obtain ⟨rfl, rfl, HR, HB⟩ := hrel
    rename World => wt
    go_wp2_with fail
    go_loopw [233] (fun v233 W => ∃ (i : Nat), i ≤ n ∧ v233 = .int .i64 i ∧ Hid (RW w5.heap.size w5.heap.size n (fun _ => 0) (.slice none 0 0) [] W) ∧ Hid (Below w5.heap.size w5 W)) (fun v233 _ => n - (intOf v233).toNat)
    case atStart => exact ⟨0, by omega, rfl, HR.out, HB.out⟩
    case round =>
      clear HR HB
      obtain ⟨i, hi, rfl, HR, HB⟩ := hrel
      rename World => wi
      obtain ⟨⟨a0, _⟩, ⟨a1, _⟩, a2, _⟩ := run_cells ((HB.out.block r (Array.getElem?_eq_some_iff.1 HP5.out.2.1).1).trans HP5.out.2.1)
      by_cases hin : i < n
      · have k1 := (HB.out.cell (p := ⟨rm, i, none⟩) HP5.out.2.2.1).trans (HP5.out.2.2.2 i hin)
        obtain ⟨k2, _⟩ := HR.out.m i hin
        go_wp2_with fail
        go_quiet (fail)
        go_wp2
        exact ⟨⟨i + 1, by omega, by simp, rw_drewN HR.out _, below_drewN HB.out _⟩, by simp [intOf]; omega⟩
      · obtain rfl : n = i := by omega
        go_wp2
        go_ret
        exact ⟨rfl, below_tr HB5.out HB.out⟩
theorem plays_tell (A : Option Addr) (n c : Nat) (t : Int) (w : World) (h : ∃ z, Rd3 w A n z) : Calls Try.prog 3 #[.slice A n c, .int .i64 t] w (Tr w) := by
  obtain ⟨z, hz⟩ := h
  rcases Nat.lt_or_ge 30 n with hn | hn
  · exact plays_big A n c t w (.inl hn)
  · rcases Int.lt_or_le 300 t with ht | ht
    · exact plays_big A n c t w (.inr ht)
    · by_cases ho : AllOk z n
      · rcases Int.lt_or_le t 0 with h0 | h0
        · exact plays_neg A n c z t w h0 hz ho
        · obtain ⟨T, rfl⟩ : ∃ T : Nat, t = T := ⟨t.toNat, by omega⟩
          exact plays_yes A n c z T w (by omega) hz ho
      · exact plays_no A n c z t w hn ht hz ho
end Go.Proofs.Ytdbaeigbejcobaa.Dl
