/- The base: next and due: a part of the walk of the whole machine. For all states that the readings allow. -/
import Derived.Deep.RegionLaw
import Derived.Test.YtlcaepcojglbiaaGreatDoorMl
namespace Go.Proofs.YtlcaepcojglbiaaGreatDoor.Tp
open Go.RowKit
set_option linter.unusedVariables false
set_option linter.unusedSimpArgs false
/-- One queue's share in Next. -/
def nx1 (L : List Tm) (s : Bool) (k : Nat) (off acc : Int) : Int :=
  match L with
  | [] => acc
  | t :: _ => if s || k == 0 then first2 acc (subv t.soft off) else acc
theorem cells3 {w : World} {g ty : Nat} {x0 x1 x2 : Value} (h : w.heap[g]? = some (.cells #[x0, x1, x2] ty)) : (w.cell? ⟨g, 0, none⟩ = some x0 ∧ w.frozen? ⟨g, 0, none⟩ = false) ∧ (w.cell? ⟨g, 1, none⟩ = some x1 ∧ w.frozen? ⟨g, 1, none⟩ = false) ∧ w.cell? ⟨g, 2, none⟩ = some x2 ∧ w.frozen? ⟨g, 2, none⟩ = false :=
  ⟨cell_of h 0 _ rfl, cell_of h 1 _ rfl, cell_of h 2 _ rfl⟩
set_option maxRecDepth 100000 in
set_option maxHeartbeats 4000000 in
theorem next1_at {qa : QA} {L : List Tm} {s : Bool} {acc : Int} {of : Nat → Int} {hs ha ho : Nat} (i k : Nat) (w : World) (h : QR qa L w) (hi : i < 3) (hk : k < 2)
    (bs : w.heap[hs]? = some (.cells #[.bool s] 4)) (ba : w.heap[ha]? = some (.cells #[.int .i64 acc] 3)) (bo : w.heap[ho]? = some (.cells #[.int .i64 (of 0), .int .i64 (of 1), .int .i64 (of 2)] 27)) :
    Calls Tryz.prog 101 #[.int .i64 (i : Nat), .int .i64 (k : Nat), ptr qa.q, ptr hs, ptr ha, ptr ho] w fun e w' => e = .returned (.bool true) ∧ w'.heap[ha]? = some (.cells #[.int .i64 (nx1 L s k (of i) acc)] 3) ∧ GF (fun i => i = ha) w w' := by
  have C1 := Lib.hid (qfirst_at _ h)
  have C2 := Lib.hid (side_at false)
  have BA := Lib.hid ba
  have BS := Lib.hid bs
  have BO := Lib.hid bo
  have lta := (Array.getElem?_eq_some_iff.1 ba).1
  have lts := (Array.getElem?_eq_some_iff.1 bs).1
  have lto := (Array.getElem?_eq_some_iff.1 bo).1
  cases L with
  | nil =>
    unfold fsv at C1
    clear h bs ba bo
    go_enter Tryz.func101, Tryz.ntmps101
    go_wp2_with (first
      | (go_at_call 102; refine (C1.out).mono ?_; clear C1; rintro e w1 ⟨rfl, hB⟩; have HB := Lib.hid hB; clear hB)
      | fail)
    go_ret
    exact ⟨rfl, (Below.heap_alloc _ _ _ (Nat.lt_of_lt_of_le lta HB.out.size)).trans ((HB.out.block _ lta).trans BA.out), gf_alloc (gf_below HB.out) _⟩
  | cons t L =>
    obtain ⟨id, tc, ts, th, tl⟩ := t
    unfold fsv at C1
    by_cases hb : (s || k == 0) = true
    · have C3 := Lib.hid (sub_at ts (of i))
      have C4 := Lib.hid (fun b w => first2_at b acc (subv ts (of i)) w)
      rw [show nx1 (⟨id, tc, ts, th, tl⟩ :: L) s k (of i) acc = first2 acc (subv ts (of i)) from if_pos hb]
      obtain ⟨y, hy⟩ : ∃ y, subv ts (of i) = y := ⟨_, rfl⟩
      rw [hy] at C3 C4 ⊢
      obtain ⟨z, hz⟩ : ∃ z, first2 acc y = z := ⟨_, rfl⟩
      rw [hz] at C4 ⊢
      clear h bs ba bo hy hz
      obtain ⟨o, ho'⟩ : ∃ o, of i = o := ⟨_, rfl⟩
      have HOI : Hid (∀ w : World, w.heap[ho]? = some (.cells #[.int .i64 (of 0), .int .i64 (of 1), .int .i64 (of 2)] 27) → w.cell? ⟨ho, i, none⟩ = some (.int .i64 o)) := Lib.hid (fun w hw => by
        obtain ⟨⟨g0, _⟩, ⟨g1, _⟩, g2, _⟩ := cells3 hw
        rcases (show i = 0 ∨ i = 1 ∨ i = 2 by omega) with rfl | rfl | rfl
        · rw [← ho']; exact g0
        · rw [← ho']; exact g1
        · rw [← ho']; exact g2)
      rw [ho'] at C3
      clear ho'
      rcases (show k = 0 ∨ k = 1 by omega) with rfl | rfl
      · cases s
        · go_enter Tryz.func101, Tryz.ntmps101
          go_wp2_with (first
            | (go_at_call 102; refine (C1.out).mono ?_; clear C1; rintro e w1 ⟨rfl, hB⟩; have HB := Lib.hid hB; have lt1 := Nat.lt_of_lt_of_le lta hB.size; have lt2 := Nat.lt_of_lt_of_le lts hB.size; have lt3 := Nat.lt_of_lt_of_le lto hB.size; have n1 : ¬ ha = w1.heap.size := (by omega); have n2 : ¬ hs = w1.heap.size := (by omega); have n3 : ¬ ho = w1.heap.size := (by omega); have s0 := (cell_of ((hB.block _ (Array.getElem?_eq_some_iff.1 BS.out).1).trans BS.out) 0 _ rfl).1; have a0 := (cell_of ((hB.block _ lta).trans BA.out) 0 _ rfl).1; have e0 := HOI.out w1 ((hB.block _ (Array.getElem?_eq_some_iff.1 BO.out).1).trans BO.out); clear hB)
            | (go_at_call 71; refine (C2.out _).mono ?_; clear C2; rintro e w2 ⟨rfl, rfl⟩)
            | fail)
          have q2 := (cell_of (heap_alloc_new w1 (.cells #[.int .i64 id, .int .i64 tc, .int .i64 ts, .int .i64 th, .bool tl] 31)) 2 _ rfl).1
          have qa' := (World.cell?_of_block (a := ⟨ha, 0, none⟩) (Below.heap_alloc w1 (.cells #[.int .i64 id, .int .i64 tc, .int .i64 ts, .int .i64 th, .bool tl] 31) ha lt1)).trans a0
          have qo := (World.cell?_of_block (a := ⟨ho, i, none⟩) (Below.heap_alloc w1 (.cells #[.int .i64 id, .int .i64 tc, .int .i64 ts, .int .i64 th, .bool tl] 31) ho lt3)).trans e0
          have HW : Hid (w1.heap.size < (w1.alloc (.cells #[.int .i64 id, .int .i64 tc, .int .i64 ts, .int .i64 th, .bool tl] 31)).heap.size ∧ GF (fun i => i = ha) w (w1.alloc (.cells #[.int .i64 id, .int .i64 tc, .int .i64 ts, .int .i64 th, .bool tl] 31)) ∧ (w1.alloc (.cells #[.int .i64 id, .int .i64 tc, .int .i64 ts, .int .i64 th, .bool tl] 31)).heap[ha]? = some (.cells #[.int .i64 acc] 3)) := Lib.hid ⟨by simp, gf_alloc (gf_below HB.out) _, (Below.heap_alloc _ _ _ lt1).trans ((HB.out.block _ lta).trans BA.out)⟩
          obtain ⟨W2, hW2⟩ : ∃ W2, w1.alloc (.cells #[.int .i64 id, .int .i64 tc, .int .i64 ts, .int .i64 th, .bool tl] 31) = W2 := ⟨_, rfl⟩
          rw [hW2] at HW q2 qa' qo ⊢
          have hW := HW.out.1
          obtain ⟨g, hg⟩ : ∃ g, w1.heap.size = g := ⟨_, rfl⟩
          rw [hg] at q2 hW lt1 lt2 lt3 n1 n2 n3 ⊢
          clear s0 a0 e0 HB hW2 hg
          have hi3 : (i : Int) < 3 := by omega
          go_still_tail 7, (by kernel_rfl)
          repeat still_step
          still_call (C3.out _)
          refine wpStill_nil ?_
          change wpList _ _ _ _ _ W2.drew
          have HW3 : Hid (GF (fun i => i = ha) w W2.drew ∧ W2.drew.heap[ha]? = some (.cells #[.int .i64 acc] 3)) := Lib.hid ⟨gf_drew HW.out.2.1, HW.out.2.2⟩
          have l3 : ha < W2.drew.heap.size := show ha < W2.heap.size by omega
          have f3 : W2.drew.frozen? ⟨ha, 0, none⟩ = false := (cell_of HW3.out.2 0 _ rfl).2
          have g3 : W2.drew.cell? ⟨ha, 0, none⟩ = some (.int .i64 acc) := (cell_of HW3.out.2 0 _ rfl).1
          clear HW q2 qa' qo hW
          obtain ⟨W3, hW3⟩ : ∃ W3, W2.drew = W3 := ⟨_, rfl⟩
          rw [hW3] at HW3 l3 f3 g3 ⊢
          have n4 : ¬ ha = W3.heap.size := by omega
          have hnb := heap_alloc_new W3 (.cells #[.int .i64 acc, .int .i64 y] 3)
          obtain ⟨⟨p0, _⟩, p1, _⟩ := cells2 hnb
          clear hW3 hnb C3
          go_wp2_with (first
            | (go_at_call 103; refine (C4.out _ _ p0 p1).mono ?_; clear C4; rintro e w2 ⟨rfl, rfl⟩)
            | fail)
          go_ret
          exact ⟨rfl, (Below.heap_alloc _ _ _ (by simp only [size_set]; exact l3)).trans (set1 HW3.out.2 _), gf_alloc (gf_set HW3.out.1 (.inl rfl) _) _⟩
        · go_enter Tryz.func101, Tryz.ntmps101
          go_wp2_with (first
            | (go_at_call 102; refine (C1.out).mono ?_; clear C1; rintro e w1 ⟨rfl, hB⟩; have HB := Lib.hid hB; have lt1 := Nat.lt_of_lt_of_le lta hB.size; have lt2 := Nat.lt_of_lt_of_le lts hB.size; have lt3 := Nat.lt_of_lt_of_le lto hB.size; have n1 : ¬ ha = w1.heap.size := (by omega); have n2 : ¬ hs = w1.heap.size := (by omega); have n3 : ¬ ho = w1.heap.size := (by omega); have s0 := (cell_of ((hB.block _ (Array.getElem?_eq_some_iff.1 BS.out).1).trans BS.out) 0 _ rfl).1; have a0 := (cell_of ((hB.block _ lta).trans BA.out) 0 _ rfl).1; have e0 := HOI.out w1 ((hB.block _ (Array.getElem?_eq_some_iff.1 BO.out).1).trans BO.out); clear hB)
            | (go_at_call 71; refine (C2.out _).mono ?_; clear C2; rintro e w2 ⟨rfl, rfl⟩)
            | fail)
          have q2 := (cell_of (heap_alloc_new w1 (.cells #[.int .i64 id, .int .i64 tc, .int .i64 ts, .int .i64 th, .bool tl] 31)) 2 _ rfl).1
          have qa' := (World.cell?_of_block (a := ⟨ha, 0, none⟩) (Below.heap_alloc w1 (.cells #[.int .i64 id, .int .i64 tc, .int .i64 ts, .int .i64 th, .bool tl] 31) ha lt1)).trans a0
          have qo := (World.cell?_of_block (a := ⟨ho, i, none⟩) (Below.heap_alloc w1 (.cells #[.int .i64 id, .int .i64 tc, .int .i64 ts, .int .i64 th, .bool tl] 31) ho lt3)).trans e0
          have HW : Hid (w1.heap.size < (w1.alloc (.cells #[.int .i64 id, .int .i64 tc, .int .i64 ts, .int .i64 th, .bool tl] 31)).heap.size ∧ GF (fun i => i = ha) w (w1.alloc (.cells #[.int .i64 id, .int .i64 tc, .int .i64 ts, .int .i64 th, .bool tl] 31)) ∧ (w1.alloc (.cells #[.int .i64 id, .int .i64 tc, .int .i64 ts, .int .i64 th, .bool tl] 31)).heap[ha]? = some (.cells #[.int .i64 acc] 3)) := Lib.hid ⟨by simp, gf_alloc (gf_below HB.out) _, (Below.heap_alloc _ _ _ lt1).trans ((HB.out.block _ lta).trans BA.out)⟩
          obtain ⟨W2, hW2⟩ : ∃ W2, w1.alloc (.cells #[.int .i64 id, .int .i64 tc, .int .i64 ts, .int .i64 th, .bool tl] 31) = W2 := ⟨_, rfl⟩
          rw [hW2] at HW q2 qa' qo ⊢
          have hW := HW.out.1
          obtain ⟨g, hg⟩ : ∃ g, w1.heap.size = g := ⟨_, rfl⟩
          rw [hg] at q2 hW lt1 lt2 lt3 n1 n2 n3 ⊢
          clear s0 a0 e0 HB hW2 hg
          have hi3 : (i : Int) < 3 := by omega
          go_still_tail 7, (by kernel_rfl)
          repeat still_step
          still_call (C3.out _)
          refine wpStill_nil ?_
          change wpList _ _ _ _ _ W2.drew
          have HW3 : Hid (GF (fun i => i = ha) w W2.drew ∧ W2.drew.heap[ha]? = some (.cells #[.int .i64 acc] 3)) := Lib.hid ⟨gf_drew HW.out.2.1, HW.out.2.2⟩
          have l3 : ha < W2.drew.heap.size := show ha < W2.heap.size by omega
          have f3 : W2.drew.frozen? ⟨ha, 0, none⟩ = false := (cell_of HW3.out.2 0 _ rfl).2
          have g3 : W2.drew.cell? ⟨ha, 0, none⟩ = some (.int .i64 acc) := (cell_of HW3.out.2 0 _ rfl).1
          clear HW q2 qa' qo hW
          obtain ⟨W3, hW3⟩ : ∃ W3, W2.drew = W3 := ⟨_, rfl⟩
          rw [hW3] at HW3 l3 f3 g3 ⊢
          have n4 : ¬ ha = W3.heap.size := by omega
          have hnb := heap_alloc_new W3 (.cells #[.int .i64 acc, .int .i64 y] 3)
          obtain ⟨⟨p0, _⟩, p1, _⟩ := cells2 hnb
          clear hW3 hnb C3
          go_wp2_with (first
            | (go_at_call 103; refine (C4.out _ _ p0 p1).mono ?_; clear C4; rintro e w2 ⟨rfl, rfl⟩)
            | fail)
          go_ret
          exact ⟨rfl, (Below.heap_alloc _ _ _ (by simp only [size_set]; exact l3)).trans (set1 HW3.out.2 _), gf_alloc (gf_set HW3.out.1 (.inl rfl) _) _⟩
      · cases s
        · cases hb
        · go_enter Tryz.func101, Tryz.ntmps101
          go_wp2_with (first
            | (go_at_call 102; refine (C1.out).mono ?_; clear C1; rintro e w1 ⟨rfl, hB⟩; have HB := Lib.hid hB; have lt1 := Nat.lt_of_lt_of_le lta hB.size; have lt2 := Nat.lt_of_lt_of_le lts hB.size; have lt3 := Nat.lt_of_lt_of_le lto hB.size; have n1 : ¬ ha = w1.heap.size := (by omega); have n2 : ¬ hs = w1.heap.size := (by omega); have n3 : ¬ ho = w1.heap.size := (by omega); have s0 := (cell_of ((hB.block _ (Array.getElem?_eq_some_iff.1 BS.out).1).trans BS.out) 0 _ rfl).1; have a0 := (cell_of ((hB.block _ lta).trans BA.out) 0 _ rfl).1; have e0 := HOI.out w1 ((hB.block _ (Array.getElem?_eq_some_iff.1 BO.out).1).trans BO.out); clear hB)
            | (go_at_call 71; refine (C2.out _).mono ?_; clear C2; rintro e w2 ⟨rfl, rfl⟩)
            | fail)
          have q2 := (cell_of (heap_alloc_new w1 (.cells #[.int .i64 id, .int .i64 tc, .int .i64 ts, .int .i64 th, .bool tl] 31)) 2 _ rfl).1
          have qa' := (World.cell?_of_block (a := ⟨ha, 0, none⟩) (Below.heap_alloc w1 (.cells #[.int .i64 id, .int .i64 tc, .int .i64 ts, .int .i64 th, .bool tl] 31) ha lt1)).trans a0
          have qo := (World.cell?_of_block (a := ⟨ho, i, none⟩) (Below.heap_alloc w1 (.cells #[.int .i64 id, .int .i64 tc, .int .i64 ts, .int .i64 th, .bool tl] 31) ho lt3)).trans e0
          have HW : Hid (w1.heap.size < (w1.alloc (.cells #[.int .i64 id, .int .i64 tc, .int .i64 ts, .int .i64 th, .bool tl] 31)).heap.size ∧ GF (fun i => i = ha) w (w1.alloc (.cells #[.int .i64 id, .int .i64 tc, .int .i64 ts, .int .i64 th, .bool tl] 31)) ∧ (w1.alloc (.cells #[.int .i64 id, .int .i64 tc, .int .i64 ts, .int .i64 th, .bool tl] 31)).heap[ha]? = some (.cells #[.int .i64 acc] 3)) := Lib.hid ⟨by simp, gf_alloc (gf_below HB.out) _, (Below.heap_alloc _ _ _ lt1).trans ((HB.out.block _ lta).trans BA.out)⟩
          obtain ⟨W2, hW2⟩ : ∃ W2, w1.alloc (.cells #[.int .i64 id, .int .i64 tc, .int .i64 ts, .int .i64 th, .bool tl] 31) = W2 := ⟨_, rfl⟩
          rw [hW2] at HW q2 qa' qo ⊢
          have hW := HW.out.1
          obtain ⟨g, hg⟩ : ∃ g, w1.heap.size = g := ⟨_, rfl⟩
          rw [hg] at q2 hW lt1 lt2 lt3 n1 n2 n3 ⊢
          clear s0 a0 e0 HB hW2 hg
          have hi3 : (i : Int) < 3 := by omega
          go_still_tail 7, (by kernel_rfl)
          repeat still_step
          still_call (C3.out _)
          refine wpStill_nil ?_
          change wpList _ _ _ _ _ W2.drew
          have HW3 : Hid (GF (fun i => i = ha) w W2.drew ∧ W2.drew.heap[ha]? = some (.cells #[.int .i64 acc] 3)) := Lib.hid ⟨gf_drew HW.out.2.1, HW.out.2.2⟩
          have l3 : ha < W2.drew.heap.size := show ha < W2.heap.size by omega
          have f3 : W2.drew.frozen? ⟨ha, 0, none⟩ = false := (cell_of HW3.out.2 0 _ rfl).2
          have g3 : W2.drew.cell? ⟨ha, 0, none⟩ = some (.int .i64 acc) := (cell_of HW3.out.2 0 _ rfl).1
          clear HW q2 qa' qo hW
          obtain ⟨W3, hW3⟩ : ∃ W3, W2.drew = W3 := ⟨_, rfl⟩
          rw [hW3] at HW3 l3 f3 g3 ⊢
          have n4 : ¬ ha = W3.heap.size := by omega
          have hnb := heap_alloc_new W3 (.cells #[.int .i64 acc, .int .i64 y] 3)
          obtain ⟨⟨p0, _⟩, p1, _⟩ := cells2 hnb
          clear hW3 hnb C3
          go_wp2_with (first
            | (go_at_call 103; refine (C4.out _ _ p0 p1).mono ?_; clear C4; rintro e w2 ⟨rfl, rfl⟩)
            | fail)
          go_ret
          exact ⟨rfl, (Below.heap_alloc _ _ _ (by simp only [size_set]; exact l3)).trans (set1 HW3.out.2 _), gf_alloc (gf_set HW3.out.1 (.inl rfl) _) _⟩
    · have hb' : s = false ∧ k = 1 := by
        simp at hb
        exact ⟨hb.1, by omega⟩
      obtain ⟨rfl, rfl⟩ := hb'
      clear h bs ba bo hb
      go_enter Tryz.func101, Tryz.ntmps101
      go_wp2_with (first
        | (go_at_call 102; refine (C1.out).mono ?_; clear C1; rintro e w1 ⟨rfl, hB⟩; have HB := Lib.hid hB; have lt1 := Nat.lt_of_lt_of_le lta hB.size; have lt2 := Nat.lt_of_lt_of_le lts hB.size; have lt3 := Nat.lt_of_lt_of_le lto hB.size; have n1 : ¬ ha = w1.heap.size := (by omega); have n2 : ¬ hs = w1.heap.size := (by omega); have n3 : ¬ ho = w1.heap.size := (by omega); have s0 := (cell_of ((hB.block _ (Array.getElem?_eq_some_iff.1 BS.out).1).trans BS.out) 0 _ rfl).1; clear hB)
        | (go_at_call 71; refine (C2.out _).mono ?_; clear C2; rintro e w2 ⟨rfl, rfl⟩)
        | fail)
      go_ret
      exact ⟨rfl, (Below.heap_alloc _ _ _ (Nat.lt_of_lt_of_le lta HB.out.size)).trans ((HB.out.block _ lta).trans BA.out), gf_alloc (gf_below HB.out) _⟩
/-- What Next has found ahead of the n-th queue. -/
def bnx (b : Nat → List Tm) (s : Bool) (of : Nat → Int) : Nat → Int
  | 0 => 4611686018427387903
  | n + 1 => nx1 (b n) s (n % 2) (of (n / 2)) (bnx b s of n)
abbrev offv (of : Nat → Int) : Value := .agg #[.int .i64 (of 0), .int .i64 (of 1), .int .i64 (of 2)]
abbrev offc (of : Nat → Int) : Array Value := #[.int .i64 (of 0), .int .i64 (of 1), .int .i64 (of 2)]
set_option maxRecDepth 100000 in
set_option maxHeartbeats 4000000 in
theorem bnext_at {a : BA} {b : Nat → List Tm} (s : Bool) (of : Nat → Int) (W : World) (h : BR a b W) : Calls Tryz.prog 75 #[ptr a.bb, offv of, .bool s] W fun e W' => e = .returned (.int .i64 (bnx b s of 6)) ∧ Below W.heap.size W W' := by
  have HB0 : Below W.heap.size W (((W.alloc (.cells (offc of) 27)).alloc (.cells #[.bool s] 4)).alloc (.cells #[.int .i64 4611686018427387903] 3)) := (((Below.refl W.heap.size W).alloc (Nat.le_refl _) _).alloc (by simp) _).alloc (by simp; omega) _
  obtain ⟨W1, hW1⟩ : ∃ W1, W.alloc (.cells (offc of) 27) = W1 := ⟨_, rfl⟩
  have s1 : W1.heap.size = W.heap.size + 1 := by rw [← hW1]; simp
  have p0 : W1.heap[W.heap.size]? = some (.cells (offc of) 27) := by rw [← hW1]; exact heap_alloc_new W _
  rw [hW1] at HB0
  obtain ⟨W2, hW2⟩ : ∃ W2, W1.alloc (.cells #[.bool s] 4) = W2 := ⟨_, rfl⟩
  have s2 : W2.heap.size = W.heap.size + 2 := by rw [← hW2]; simp; omega
  rw [hW2] at HB0
  have p1 : W2.heap[W.heap.size]? = some (.cells (offc of) 27) := by rw [← hW2]; exact (Below.heap_alloc _ _ _ (by omega)).trans p0
  have r1 : W2.heap[W.heap.size + 1]? = some (.cells #[.bool s] 4) := by rw [← hW2, ← s1]; exact heap_alloc_new W1 _
  obtain ⟨W3, hW3⟩ : ∃ W3, W2.alloc (.cells #[.int .i64 4611686018427387903] 3) = W3 := ⟨_, rfl⟩
  rw [hW3] at HB0
  have p2 : W3.heap[W.heap.size]? = some (.cells (offc of) 27) := by rw [← hW3]; exact (Below.heap_alloc _ _ _ (by omega)).trans p1
  have r2 : W3.heap[W.heap.size + 1]? = some (.cells #[.bool s] 4) := by rw [← hW3]; exact (Below.heap_alloc _ _ _ (by omega)).trans r1
  have t2 : W3.heap[W.heap.size + 2]? = some (.cells #[.int .i64 4611686018427387903] 3) := by rw [← hW3, ← s2]; exact heap_alloc_new W2 _
  have C := each_at (bb := a.bb) (caps := #[ptr (W.heap.size + 1), ptr (W.heap.size + 2), ptr W.heap.size]) enters101 (fun j => (a.q j).q)
    (fun n w => Below W.heap.size W w ∧ w.heap[W.heap.size]? = some (.cells (offc of) 27) ∧ w.heap[W.heap.size + 1]? = some (.cells #[.bool s] 4) ∧ w.heap[W.heap.size + 2]? = some (.cells #[.int .i64 (bnx b s of n)] 3))
    (fun w => Below W.heap.size W w ∧ w.heap[W.heap.size + 2]? = some (.cells #[.int .i64 (bnx b s of 6)] 3))
    (fun n w hJ j hj => (br_below h hJ.1).c j hj)
    (fun i k hi hk w hJ => by
      obtain ⟨hB, e0, e1, e2⟩ := hJ
      refine (next1_at (L := b (2 * i + k)) i k w ((br_below h hB).q (2 * i + k) (by omega)) hi hk e1 e2 e0).mono ?_
      rintro e w' ⟨rfl, f1, g⟩
      have hB' := gf_to_below hB (Nat.le_refl _) g (fun i e => by omega)
      refine ⟨_, rfl, fun _ => ⟨hB', (g.block _ (Array.getElem?_eq_some_iff.1 e0).1 (by omega)).trans e0, (g.block _ (Array.getElem?_eq_some_iff.1 e1).1 (by omega)).trans e1, ?_⟩, fun hb => by cases hb⟩
      rw [f1]
      show _ = some (Obj.cells #[Value.int .i64 (nx1 (b (2 * i + k)) s ((2 * i + k) % 2) (of ((2 * i + k) / 2)) (bnx b s of (2 * i + k)))] 3 _)
      rw [show (2 * i + k) % 2 = k by omega, show (2 * i + k) / 2 = i by omega])
    (fun w hJ => ⟨hJ.1, hJ.2.2.2⟩)
    _ ⟨HB0, p2, r2, t2⟩
  have HC := Lib.hid C
  clear h HB0 C p0 p1 p2 r1 r2 t2 s1 s2
  obtain ⟨r, hr⟩ : ∃ r, bnx b s of 6 = r := ⟨_, rfl⟩
  rw [hr] at HC ⊢
  clear hr
  subst hW1; subst hW2; subst hW3
  go_enter Tryz.func75, Tryz.ntmps75
  go_wp2_with (first
    | (go_at_call 76; refine (HC.out).mono ?_; clear HC; rintro e w1 ⟨rfl, hB, hn⟩; have HB := Lib.hid hB; obtain ⟨j1, y1⟩ := cell_of hn 0 _ rfl; clear hB hn)
    | fail)
  go_ret
  exact ⟨rfl, HB.out⟩
end Go.Proofs.YtlcaepcojglbiaaGreatDoor.Tp
namespace Go.Proofs.YtlcaepcojglbiaaGreatDoor.Tp
open Go.RowKit
set_option linter.unusedVariables false
set_option linter.unusedSimpArgs false
set_option maxRecDepth 100000 in
set_option maxHeartbeats 4000000 in
theorem due_at (t : Tm) (now : Int) (W : World) : Calls Tryz.prog 108 #[tmv t, .int .i64 now] W fun e W' => e = .returned (.bool (isDue t now)) ∧ Below W.heap.size W W' := by
  obtain ⟨id, tc, ts, th, tl⟩ := t
  have HB := Lib.hid ((Below.refl W.heap.size W).alloc (Nat.le_refl _) (.cells #[.int .i64 id, .int .i64 tc, .int .i64 ts, .int .i64 th, .bool tl] 31))
  unfold isDue
  dsimp only
  by_cases hnv : 4611686018427387903 ≤ ts
  · have C2 := Lib.hid (never_yes hnv)
    rw [decide_eq_true hnv]
    clear hnv
    go_enter Tryz.func108, Tryz.ntmps108
    go_wp2_with (first
      | (go_at_call 62; refine (C2.out _).mono ?_; clear C2; rintro e w2 ⟨rfl, rfl⟩)
      | fail)
    go_ret
    exact ⟨by simp, HB.out⟩
  · have C2 := Lib.hid (never_no hnv)
    have C4 := Lib.hid (clamp_at ts)
    have C5 := Lib.hid (clamp_at now)
    rw [decide_eq_false hnv]
    obtain ⟨x, hx⟩ : ∃ x, clampv ts = x := ⟨_, rfl⟩
    obtain ⟨y, hy⟩ : ∃ y, clampv now = y := ⟨_, rfl⟩
    rw [hx] at C4 ⊢
    rw [hy] at C5 ⊢
    clear hnv hx hy
    go_enter Tryz.func108, Tryz.ntmps108
    go_wp2_with (first
      | (go_at_call 62; refine (C2.out _).mono ?_; clear C2; rintro e w2 ⟨rfl, rfl⟩)
      | (go_at_call 63; refine (C4.out _).mono ?_; clear C4; rintro e w2 ⟨rfl, rfl⟩)
      | (go_at_call 63; refine (C5.out _).mono ?_; clear C5; rintro e w2 ⟨rfl, rfl⟩)
      | fail)
    all_goals
      go_ret
      exact ⟨by simp, HB.out⟩
def due1 (L : List Tm) (l : Bool) (k : Nat) (x : Int) : Bool :=
  match L with
  | [] => false
  | t :: _ => (k == if l then 1 else 0) && isDue t x
set_option maxRecDepth 100000 in
set_option maxHeartbeats 4000000 in
theorem due1_at {qa : QA} {L : List Tm} {s : Bool} {acc : Bool} {of : Nat → Int} {hs ha ho : Nat} (i k : Nat) (w : World) (h : QR qa L w) (hi : i < 3) (hk : k < 2)
    (bs : w.heap[hs]? = some (.cells #[.bool s] 4)) (ba : w.heap[ha]? = some (.cells #[.bool acc] 4)) (bo : w.heap[ho]? = some (.cells #[.int .i64 (of 0), .int .i64 (of 1), .int .i64 (of 2)] 27)) :
    Calls Tryz.prog 107 #[.int .i64 (i : Nat), .int .i64 (k : Nat), ptr qa.q, ptr hs, ptr ho, ptr ha] w fun e w' => e = .returned (.bool (!due1 L s k (of i))) ∧ w'.heap[ha]? = some (.cells #[.bool (due1 L s k (of i))] 4) ∧ GF (fun i => i = ha) w w' := by
  have C1 := Lib.hid (qfirst_at _ h)
  have C2 := Lib.hid (side_at s)
  have BA := Lib.hid ba
  have BS := Lib.hid bs
  have BO := Lib.hid bo
  have lta := (Array.getElem?_eq_some_iff.1 ba).1
  have lts := (Array.getElem?_eq_some_iff.1 bs).1
  have lto := (Array.getElem?_eq_some_iff.1 bo).1
  obtain ⟨o, ho'⟩ : ∃ o, of i = o := ⟨_, rfl⟩
  have HOI : Hid (∀ w : World, w.heap[ho]? = some (.cells #[.int .i64 (of 0), .int .i64 (of 1), .int .i64 (of 2)] 27) → w.cell? ⟨ho, i, none⟩ = some (.int .i64 o)) := Lib.hid (fun w hw => by
    obtain ⟨⟨g0, _⟩, ⟨g1, _⟩, g2, _⟩ := cells3 hw
    rcases (show i = 0 ∨ i = 1 ∨ i = 2 by omega) with rfl | rfl | rfl
    · rw [← ho']; exact g0
    · rw [← ho']; exact g1
    · rw [← ho']; exact g2)
  rw [ho']
  have hi3 : (i : Int) < 3 := by omega
  cases L with
  | nil =>
    unfold fsv at C1
    obtain ⟨⟨id, tc, ts, th, tl⟩, ht0⟩ : ∃ t, tm0 = t := ⟨_, rfl⟩
    rw [ht0] at C1
    clear h bs ba bo ho' ht0
    change Calls Tryz.prog _ _ _ fun e w' => e = .returned (.bool true) ∧ w'.heap[ha]? = some (.cells #[.bool false] 4) ∧ _
    go_enter Tryz.func107, Tryz.ntmps107
    go_wp2_with (first
      | (go_at_call 102; refine (C1.out).mono ?_; clear C1; rintro e w1 ⟨rfl, hB⟩; have HB := Lib.hid hB; have lt1 := Nat.lt_of_lt_of_le lta hB.size; have lt2 := Nat.lt_of_lt_of_le lts hB.size; have lt3 := Nat.lt_of_lt_of_le lto hB.size; have n1 : ¬ ha = w1.heap.size := (by omega); have n2 : ¬ hs = w1.heap.size := (by omega); have n3 : ¬ ho = w1.heap.size := (by omega); have s0 := (cell_of ((hB.block _ (Array.getElem?_eq_some_iff.1 BS.out).1).trans BS.out) 0 _ rfl).1; have a0 := (cell_of ((hB.block _ lta).trans BA.out) 0 _ rfl).1; have a1 := (cell_of ((hB.block _ lta).trans BA.out) 0 _ rfl).2; have e0 := HOI.out w1 ((hB.block _ (Array.getElem?_eq_some_iff.1 BO.out).1).trans BO.out); clear hB)
      | fail)
    have q0 := cells5 (heap_alloc_new w1 (.cells #[.int .i64 id, .int .i64 tc, .int .i64 ts, .int .i64 th, .bool tl] 31))
    have qs := (World.cell?_of_block (a := ⟨hs, 0, none⟩) (Below.heap_alloc w1 (.cells #[.int .i64 id, .int .i64 tc, .int .i64 ts, .int .i64 th, .bool tl] 31) hs lt2)).trans s0
    have qo := (World.cell?_of_block (a := ⟨ho, i, none⟩) (Below.heap_alloc w1 (.cells #[.int .i64 id, .int .i64 tc, .int .i64 ts, .int .i64 th, .bool tl] 31) ho lt3)).trans e0
    have HW : Hid (w1.heap.size < (w1.alloc (.cells #[.int .i64 id, .int .i64 tc, .int .i64 ts, .int .i64 th, .bool tl] 31)).heap.size ∧ GF (fun i => i = ha) w (w1.alloc (.cells #[.int .i64 id, .int .i64 tc, .int .i64 ts, .int .i64 th, .bool tl] 31)) ∧ (w1.alloc (.cells #[.int .i64 id, .int .i64 tc, .int .i64 ts, .int .i64 th, .bool tl] 31)).heap[ha]? = some (.cells #[.bool acc] 4)) := Lib.hid ⟨by simp, gf_alloc (gf_below HB.out) _, (Below.heap_alloc _ _ _ lt1).trans ((HB.out.block _ lta).trans BA.out)⟩
    obtain ⟨W2, hW2⟩ : ∃ W2, w1.alloc (.cells #[.int .i64 id, .int .i64 tc, .int .i64 ts, .int .i64 th, .bool tl] 31) = W2 := ⟨_, rfl⟩
    rw [hW2] at HW q0 qs qo ⊢
    have hW := HW.out.1
    obtain ⟨g, hg⟩ : ∃ g, w1.heap.size = g := ⟨_, rfl⟩
    rw [hg] at q0 hW lt1 lt2 lt3 n1 n2 n3 ⊢
    obtain ⟨⟨k0, -⟩, ⟨k1, -⟩, ⟨k2, -⟩, ⟨k3, -⟩, k4, -⟩ := q0
    clear s0 a0 a1 e0 HB hW2 hg
    go_still_tail 12, (by kernel_rfl)
    repeat (first | still_step | still_call (C2.out _))
    try refine wpStill_nil ?_
    change wpList _ _ _ _ _ W2.drew
    have HW3 : Hid (GF (fun i => i = ha) w W2.drew ∧ W2.drew.heap[ha]? = some (.cells #[.bool acc] 4)) := Lib.hid ⟨gf_drew HW.out.2.1, HW.out.2.2⟩
    clear HW k0 k1 k2 k3 k4 qs qo hW
    obtain ⟨W3, hW3⟩ : ∃ W3, W2.drew = W3 := ⟨_, rfl⟩
    rw [hW3] at HW3 ⊢
    clear hW3
    obtain ⟨g3, f3⟩ := cell_of HW3.out.2 0 _ rfl
    go_wp2
    go_ret
    exact ⟨rfl, set1 HW3.out.2 _, gf_set HW3.out.1 (.inl rfl) _⟩
  | cons t L =>
    have C3 := Lib.hid (due_at t o)
    have hdd : due1 (t :: L) s k o = ((k == if s then 1 else 0) && isDue t o) := rfl
    obtain ⟨id, tc, ts, th, tl⟩ := t
    unfold fsv at C1
    rw [hdd]
    clear hdd
    obtain ⟨d, hd⟩ : ∃ d, isDue ⟨id, tc, ts, th, tl⟩ o = d := ⟨_, rfl⟩
    rw [hd] at C3 ⊢
    clear h bs ba bo ho' hd
    rcases (show k = 0 ∨ k = 1 by omega) with rfl | rfl
    · cases s
      · change Calls Tryz.prog _ _ _ fun e w' => e = .returned (.bool (!d)) ∧ w'.heap[ha]? = some (.cells #[.bool d] 4) ∧ _
        go_enter Tryz.func107, Tryz.ntmps107
        go_wp2_with (first
          | (go_at_call 102; refine (C1.out).mono ?_; clear C1; rintro e w1 ⟨rfl, hB⟩; have HB := Lib.hid hB; have lt1 := Nat.lt_of_lt_of_le lta hB.size; have lt2 := Nat.lt_of_lt_of_le lts hB.size; have lt3 := Nat.lt_of_lt_of_le lto hB.size; have n1 : ¬ ha = w1.heap.size := (by omega); have n2 : ¬ hs = w1.heap.size := (by omega); have n3 : ¬ ho = w1.heap.size := (by omega); have s0 := (cell_of ((hB.block _ (Array.getElem?_eq_some_iff.1 BS.out).1).trans BS.out) 0 _ rfl).1; have a0 := (cell_of ((hB.block _ lta).trans BA.out) 0 _ rfl).1; have a1 := (cell_of ((hB.block _ lta).trans BA.out) 0 _ rfl).2; have e0 := HOI.out w1 ((hB.block _ (Array.getElem?_eq_some_iff.1 BO.out).1).trans BO.out); clear hB)
          | fail)
        have q0 := cells5 (heap_alloc_new w1 (.cells #[.int .i64 id, .int .i64 tc, .int .i64 ts, .int .i64 th, .bool tl] 31))
        have qs := (World.cell?_of_block (a := ⟨hs, 0, none⟩) (Below.heap_alloc w1 (.cells #[.int .i64 id, .int .i64 tc, .int .i64 ts, .int .i64 th, .bool tl] 31) hs lt2)).trans s0
        have qo := (World.cell?_of_block (a := ⟨ho, i, none⟩) (Below.heap_alloc w1 (.cells #[.int .i64 id, .int .i64 tc, .int .i64 ts, .int .i64 th, .bool tl] 31) ho lt3)).trans e0
        have HW : Hid (w1.heap.size < (w1.alloc (.cells #[.int .i64 id, .int .i64 tc, .int .i64 ts, .int .i64 th, .bool tl] 31)).heap.size ∧ GF (fun i => i = ha) w (w1.alloc (.cells #[.int .i64 id, .int .i64 tc, .int .i64 ts, .int .i64 th, .bool tl] 31)) ∧ (w1.alloc (.cells #[.int .i64 id, .int .i64 tc, .int .i64 ts, .int .i64 th, .bool tl] 31)).heap[ha]? = some (.cells #[.bool acc] 4)) := Lib.hid ⟨by simp, gf_alloc (gf_below HB.out) _, (Below.heap_alloc _ _ _ lt1).trans ((HB.out.block _ lta).trans BA.out)⟩
        obtain ⟨W2, hW2⟩ : ∃ W2, w1.alloc (.cells #[.int .i64 id, .int .i64 tc, .int .i64 ts, .int .i64 th, .bool tl] 31) = W2 := ⟨_, rfl⟩
        rw [hW2] at HW q0 qs qo ⊢
        have hW := HW.out.1
        obtain ⟨g, hg⟩ : ∃ g, w1.heap.size = g := ⟨_, rfl⟩
        rw [hg] at q0 hW lt1 lt2 lt3 n1 n2 n3 ⊢
        obtain ⟨⟨k0, -⟩, ⟨k1, -⟩, ⟨k2, -⟩, ⟨k3, -⟩, k4, -⟩ := q0
        clear s0 a0 a1 e0 HB hW2 hg
        go_still_tail 12, (by kernel_rfl)
        repeat (first | still_step | still_call (C2.out _))
        try refine wpStill_nil ?_
        change wpList _ _ _ _ _ W2.drew
        have HW3 : Hid (GF (fun i => i = ha) w W2.drew ∧ W2.drew.heap[ha]? = some (.cells #[.bool acc] 4)) := Lib.hid ⟨gf_drew HW.out.2.1, HW.out.2.2⟩
        have l3 : ha < W2.drew.heap.size := show ha < W2.heap.size by omega
        have C5 := Lib.hid (C3.out W2.drew)
        clear HW k0 k1 k2 k3 k4 qs qo hW
        obtain ⟨W3, hW3⟩ : ∃ W3, W2.drew = W3 := ⟨_, rfl⟩
        rw [hW3] at HW3 l3 C5 ⊢
        clear C3
        clear hW3
        go_wp2_with (first
          | (go_at_call 108; refine (C5.out).mono ?_; clear C5; rintro e w4 ⟨rfl, hB⟩; have hn := (hB.block ha l3).trans HW3.out.2; have HN := Lib.hid (And.intro (gf_trans HW3.out.1 (gf_below hB)) hn); obtain ⟨j0, y0⟩ := cell_of hn 0 _ rfl; clear hB hn)
          | fail)
        go_ret
        exact ⟨rfl, set1 HN.out.2 _, gf_set HN.out.1 (.inl rfl) _⟩
      · change Calls Tryz.prog _ _ _ fun e w' => e = .returned (.bool true) ∧ w'.heap[ha]? = some (.cells #[.bool false] 4) ∧ _
        go_enter Tryz.func107, Tryz.ntmps107
        go_wp2_with (first
          | (go_at_call 102; refine (C1.out).mono ?_; clear C1; rintro e w1 ⟨rfl, hB⟩; have HB := Lib.hid hB; have lt1 := Nat.lt_of_lt_of_le lta hB.size; have lt2 := Nat.lt_of_lt_of_le lts hB.size; have lt3 := Nat.lt_of_lt_of_le lto hB.size; have n1 : ¬ ha = w1.heap.size := (by omega); have n2 : ¬ hs = w1.heap.size := (by omega); have n3 : ¬ ho = w1.heap.size := (by omega); have s0 := (cell_of ((hB.block _ (Array.getElem?_eq_some_iff.1 BS.out).1).trans BS.out) 0 _ rfl).1; have a0 := (cell_of ((hB.block _ lta).trans BA.out) 0 _ rfl).1; have a1 := (cell_of ((hB.block _ lta).trans BA.out) 0 _ rfl).2; have e0 := HOI.out w1 ((hB.block _ (Array.getElem?_eq_some_iff.1 BO.out).1).trans BO.out); clear hB)
          | fail)
        have q0 := cells5 (heap_alloc_new w1 (.cells #[.int .i64 id, .int .i64 tc, .int .i64 ts, .int .i64 th, .bool tl] 31))
        have qs := (World.cell?_of_block (a := ⟨hs, 0, none⟩) (Below.heap_alloc w1 (.cells #[.int .i64 id, .int .i64 tc, .int .i64 ts, .int .i64 th, .bool tl] 31) hs lt2)).trans s0
        have qo := (World.cell?_of_block (a := ⟨ho, i, none⟩) (Below.heap_alloc w1 (.cells #[.int .i64 id, .int .i64 tc, .int .i64 ts, .int .i64 th, .bool tl] 31) ho lt3)).trans e0
        have HW : Hid (w1.heap.size < (w1.alloc (.cells #[.int .i64 id, .int .i64 tc, .int .i64 ts, .int .i64 th, .bool tl] 31)).heap.size ∧ GF (fun i => i = ha) w (w1.alloc (.cells #[.int .i64 id, .int .i64 tc, .int .i64 ts, .int .i64 th, .bool tl] 31)) ∧ (w1.alloc (.cells #[.int .i64 id, .int .i64 tc, .int .i64 ts, .int .i64 th, .bool tl] 31)).heap[ha]? = some (.cells #[.bool acc] 4)) := Lib.hid ⟨by simp, gf_alloc (gf_below HB.out) _, (Below.heap_alloc _ _ _ lt1).trans ((HB.out.block _ lta).trans BA.out)⟩
        obtain ⟨W2, hW2⟩ : ∃ W2, w1.alloc (.cells #[.int .i64 id, .int .i64 tc, .int .i64 ts, .int .i64 th, .bool tl] 31) = W2 := ⟨_, rfl⟩
        rw [hW2] at HW q0 qs qo ⊢
        have hW := HW.out.1
        obtain ⟨g, hg⟩ : ∃ g, w1.heap.size = g := ⟨_, rfl⟩
        rw [hg] at q0 hW lt1 lt2 lt3 n1 n2 n3 ⊢
        obtain ⟨⟨k0, -⟩, ⟨k1, -⟩, ⟨k2, -⟩, ⟨k3, -⟩, k4, -⟩ := q0
        clear s0 a0 a1 e0 HB hW2 hg
        go_still_tail 12, (by kernel_rfl)
        repeat (first | still_step | still_call (C2.out _))
        try refine wpStill_nil ?_
        change wpList _ _ _ _ _ W2.drew
        have HW3 : Hid (GF (fun i => i = ha) w W2.drew ∧ W2.drew.heap[ha]? = some (.cells #[.bool acc] 4)) := Lib.hid ⟨gf_drew HW.out.2.1, HW.out.2.2⟩
        clear HW k0 k1 k2 k3 k4 qs qo hW
        obtain ⟨W3, hW3⟩ : ∃ W3, W2.drew = W3 := ⟨_, rfl⟩
        rw [hW3] at HW3 ⊢
        clear hW3
        obtain ⟨g3, f3⟩ := cell_of HW3.out.2 0 _ rfl
        go_wp2
        go_ret
        exact ⟨rfl, set1 HW3.out.2 _, gf_set HW3.out.1 (.inl rfl) _⟩
    · cases s
      · change Calls Tryz.prog _ _ _ fun e w' => e = .returned (.bool true) ∧ w'.heap[ha]? = some (.cells #[.bool false] 4) ∧ _
        go_enter Tryz.func107, Tryz.ntmps107
        go_wp2_with (first
          | (go_at_call 102; refine (C1.out).mono ?_; clear C1; rintro e w1 ⟨rfl, hB⟩; have HB := Lib.hid hB; have lt1 := Nat.lt_of_lt_of_le lta hB.size; have lt2 := Nat.lt_of_lt_of_le lts hB.size; have lt3 := Nat.lt_of_lt_of_le lto hB.size; have n1 : ¬ ha = w1.heap.size := (by omega); have n2 : ¬ hs = w1.heap.size := (by omega); have n3 : ¬ ho = w1.heap.size := (by omega); have s0 := (cell_of ((hB.block _ (Array.getElem?_eq_some_iff.1 BS.out).1).trans BS.out) 0 _ rfl).1; have a0 := (cell_of ((hB.block _ lta).trans BA.out) 0 _ rfl).1; have a1 := (cell_of ((hB.block _ lta).trans BA.out) 0 _ rfl).2; have e0 := HOI.out w1 ((hB.block _ (Array.getElem?_eq_some_iff.1 BO.out).1).trans BO.out); clear hB)
          | fail)
        have q0 := cells5 (heap_alloc_new w1 (.cells #[.int .i64 id, .int .i64 tc, .int .i64 ts, .int .i64 th, .bool tl] 31))
        have qs := (World.cell?_of_block (a := ⟨hs, 0, none⟩) (Below.heap_alloc w1 (.cells #[.int .i64 id, .int .i64 tc, .int .i64 ts, .int .i64 th, .bool tl] 31) hs lt2)).trans s0
        have qo := (World.cell?_of_block (a := ⟨ho, i, none⟩) (Below.heap_alloc w1 (.cells #[.int .i64 id, .int .i64 tc, .int .i64 ts, .int .i64 th, .bool tl] 31) ho lt3)).trans e0
        have HW : Hid (w1.heap.size < (w1.alloc (.cells #[.int .i64 id, .int .i64 tc, .int .i64 ts, .int .i64 th, .bool tl] 31)).heap.size ∧ GF (fun i => i = ha) w (w1.alloc (.cells #[.int .i64 id, .int .i64 tc, .int .i64 ts, .int .i64 th, .bool tl] 31)) ∧ (w1.alloc (.cells #[.int .i64 id, .int .i64 tc, .int .i64 ts, .int .i64 th, .bool tl] 31)).heap[ha]? = some (.cells #[.bool acc] 4)) := Lib.hid ⟨by simp, gf_alloc (gf_below HB.out) _, (Below.heap_alloc _ _ _ lt1).trans ((HB.out.block _ lta).trans BA.out)⟩
        obtain ⟨W2, hW2⟩ : ∃ W2, w1.alloc (.cells #[.int .i64 id, .int .i64 tc, .int .i64 ts, .int .i64 th, .bool tl] 31) = W2 := ⟨_, rfl⟩
        rw [hW2] at HW q0 qs qo ⊢
        have hW := HW.out.1
        obtain ⟨g, hg⟩ : ∃ g, w1.heap.size = g := ⟨_, rfl⟩
        rw [hg] at q0 hW lt1 lt2 lt3 n1 n2 n3 ⊢
        obtain ⟨⟨k0, -⟩, ⟨k1, -⟩, ⟨k2, -⟩, ⟨k3, -⟩, k4, -⟩ := q0
        clear s0 a0 a1 e0 HB hW2 hg
        go_still_tail 12, (by kernel_rfl)
        repeat (first | still_step | still_call (C2.out _))
        try refine wpStill_nil ?_
        change wpList _ _ _ _ _ W2.drew
        have HW3 : Hid (GF (fun i => i = ha) w W2.drew ∧ W2.drew.heap[ha]? = some (.cells #[.bool acc] 4)) := Lib.hid ⟨gf_drew HW.out.2.1, HW.out.2.2⟩
        clear HW k0 k1 k2 k3 k4 qs qo hW
        obtain ⟨W3, hW3⟩ : ∃ W3, W2.drew = W3 := ⟨_, rfl⟩
        rw [hW3] at HW3 ⊢
        clear hW3
        obtain ⟨g3, f3⟩ := cell_of HW3.out.2 0 _ rfl
        go_wp2
        go_ret
        exact ⟨rfl, set1 HW3.out.2 _, gf_set HW3.out.1 (.inl rfl) _⟩
      · change Calls Tryz.prog _ _ _ fun e w' => e = .returned (.bool (!d)) ∧ w'.heap[ha]? = some (.cells #[.bool d] 4) ∧ _
        go_enter Tryz.func107, Tryz.ntmps107
        go_wp2_with (first
          | (go_at_call 102; refine (C1.out).mono ?_; clear C1; rintro e w1 ⟨rfl, hB⟩; have HB := Lib.hid hB; have lt1 := Nat.lt_of_lt_of_le lta hB.size; have lt2 := Nat.lt_of_lt_of_le lts hB.size; have lt3 := Nat.lt_of_lt_of_le lto hB.size; have n1 : ¬ ha = w1.heap.size := (by omega); have n2 : ¬ hs = w1.heap.size := (by omega); have n3 : ¬ ho = w1.heap.size := (by omega); have s0 := (cell_of ((hB.block _ (Array.getElem?_eq_some_iff.1 BS.out).1).trans BS.out) 0 _ rfl).1; have a0 := (cell_of ((hB.block _ lta).trans BA.out) 0 _ rfl).1; have a1 := (cell_of ((hB.block _ lta).trans BA.out) 0 _ rfl).2; have e0 := HOI.out w1 ((hB.block _ (Array.getElem?_eq_some_iff.1 BO.out).1).trans BO.out); clear hB)
          | fail)
        have q0 := cells5 (heap_alloc_new w1 (.cells #[.int .i64 id, .int .i64 tc, .int .i64 ts, .int .i64 th, .bool tl] 31))
        have qs := (World.cell?_of_block (a := ⟨hs, 0, none⟩) (Below.heap_alloc w1 (.cells #[.int .i64 id, .int .i64 tc, .int .i64 ts, .int .i64 th, .bool tl] 31) hs lt2)).trans s0
        have qo := (World.cell?_of_block (a := ⟨ho, i, none⟩) (Below.heap_alloc w1 (.cells #[.int .i64 id, .int .i64 tc, .int .i64 ts, .int .i64 th, .bool tl] 31) ho lt3)).trans e0
        have HW : Hid (w1.heap.size < (w1.alloc (.cells #[.int .i64 id, .int .i64 tc, .int .i64 ts, .int .i64 th, .bool tl] 31)).heap.size ∧ GF (fun i => i = ha) w (w1.alloc (.cells #[.int .i64 id, .int .i64 tc, .int .i64 ts, .int .i64 th, .bool tl] 31)) ∧ (w1.alloc (.cells #[.int .i64 id, .int .i64 tc, .int .i64 ts, .int .i64 th, .bool tl] 31)).heap[ha]? = some (.cells #[.bool acc] 4)) := Lib.hid ⟨by simp, gf_alloc (gf_below HB.out) _, (Below.heap_alloc _ _ _ lt1).trans ((HB.out.block _ lta).trans BA.out)⟩
        obtain ⟨W2, hW2⟩ : ∃ W2, w1.alloc (.cells #[.int .i64 id, .int .i64 tc, .int .i64 ts, .int .i64 th, .bool tl] 31) = W2 := ⟨_, rfl⟩
        rw [hW2] at HW q0 qs qo ⊢
        have hW := HW.out.1
        obtain ⟨g, hg⟩ : ∃ g, w1.heap.size = g := ⟨_, rfl⟩
        rw [hg] at q0 hW lt1 lt2 lt3 n1 n2 n3 ⊢
        obtain ⟨⟨k0, -⟩, ⟨k1, -⟩, ⟨k2, -⟩, ⟨k3, -⟩, k4, -⟩ := q0
        clear s0 a0 a1 e0 HB hW2 hg
        go_still_tail 12, (by kernel_rfl)
        repeat (first | still_step | still_call (C2.out _))
        try refine wpStill_nil ?_
        change wpList _ _ _ _ _ W2.drew
        have HW3 : Hid (GF (fun i => i = ha) w W2.drew ∧ W2.drew.heap[ha]? = some (.cells #[.bool acc] 4)) := Lib.hid ⟨gf_drew HW.out.2.1, HW.out.2.2⟩
        have l3 : ha < W2.drew.heap.size := show ha < W2.heap.size by omega
        have C5 := Lib.hid (C3.out W2.drew)
        clear HW k0 k1 k2 k3 k4 qs qo hW
        obtain ⟨W3, hW3⟩ : ∃ W3, W2.drew = W3 := ⟨_, rfl⟩
        rw [hW3] at HW3 l3 C5 ⊢
        clear C3
        clear hW3
        go_wp2_with (first
          | (go_at_call 108; refine (C5.out).mono ?_; clear C5; rintro e w4 ⟨rfl, hB⟩; have hn := (hB.block ha l3).trans HW3.out.2; have HN := Lib.hid (And.intro (gf_trans HW3.out.1 (gf_below hB)) hn); obtain ⟨j0, y0⟩ := cell_of hn 0 _ rfl; clear hB hn)
          | fail)
        go_ret
        exact ⟨rfl, set1 HN.out.2 _, gf_set HN.out.1 (.inl rfl) _⟩
/-- Is something due in the first n queues? -/
def bdu (b : Nat → List Tm) (s : Bool) (of : Nat → Int) : Nat → Bool
  | 0 => false
  | n + 1 => bdu b s of n || due1 (b n) s (n % 2) (of (n / 2))
theorem bdu_up {b : Nat → List Tm} {s : Bool} {of : Nat → Int} {n : Nat} (h : bdu b s of n = true) : ∀ m, bdu b s of (n + m) = true
  | 0 => h
  | m + 1 => by show (bdu b s of (n + m) || _) = true; rw [bdu_up h m]; rfl
set_option maxRecDepth 100000 in
set_option maxHeartbeats 4000000 in
theorem bdue_at {a : BA} {b : Nat → List Tm} (s : Bool) (of : Nat → Int) (W : World) (h : BR a b W) : Calls Tryz.prog 81 #[ptr a.bb, offv of, .bool s] W fun e W' => e = .returned (.bool (bdu b s of 6)) ∧ Below W.heap.size W W' := by
  have HB0 : Below W.heap.size W (((W.alloc (.cells (offc of) 27)).alloc (.cells #[.bool s] 4)).alloc (.cells #[.bool false] 4)) := (((Below.refl W.heap.size W).alloc (Nat.le_refl _) _).alloc (by simp) _).alloc (by simp; omega) _
  obtain ⟨W1, hW1⟩ : ∃ W1, W.alloc (.cells (offc of) 27) = W1 := ⟨_, rfl⟩
  have s1 : W1.heap.size = W.heap.size + 1 := by rw [← hW1]; simp
  have p0 : W1.heap[W.heap.size]? = some (.cells (offc of) 27) := by rw [← hW1]; exact heap_alloc_new W _
  rw [hW1] at HB0
  obtain ⟨W2, hW2⟩ : ∃ W2, W1.alloc (.cells #[.bool s] 4) = W2 := ⟨_, rfl⟩
  have s2 : W2.heap.size = W.heap.size + 2 := by rw [← hW2]; simp; omega
  rw [hW2] at HB0
  have p1 : W2.heap[W.heap.size]? = some (.cells (offc of) 27) := by rw [← hW2]; exact (Below.heap_alloc _ _ _ (by omega)).trans p0
  have r1 : W2.heap[W.heap.size + 1]? = some (.cells #[.bool s] 4) := by rw [← hW2, ← s1]; exact heap_alloc_new W1 _
  obtain ⟨W3, hW3⟩ : ∃ W3, W2.alloc (.cells #[.bool false] 4) = W3 := ⟨_, rfl⟩
  rw [hW3] at HB0
  have p2 : W3.heap[W.heap.size]? = some (.cells (offc of) 27) := by rw [← hW3]; exact (Below.heap_alloc _ _ _ (by omega)).trans p1
  have r2 : W3.heap[W.heap.size + 1]? = some (.cells #[.bool s] 4) := by rw [← hW3]; exact (Below.heap_alloc _ _ _ (by omega)).trans r1
  have t2 : W3.heap[W.heap.size + 2]? = some (.cells #[.bool false] 4) := by rw [← hW3, ← s2]; exact heap_alloc_new W2 _
  have C := each_at (bb := a.bb) (caps := #[ptr (W.heap.size + 1), ptr W.heap.size, ptr (W.heap.size + 2)]) enters107 (fun j => (a.q j).q)
    (fun n w => bdu b s of n = false ∧ Below W.heap.size W w ∧ w.heap[W.heap.size]? = some (.cells (offc of) 27) ∧ w.heap[W.heap.size + 1]? = some (.cells #[.bool s] 4) ∧ w.heap[W.heap.size + 2]? = some (.cells #[.bool false] 4))
    (fun w => Below W.heap.size W w ∧ w.heap[W.heap.size + 2]? = some (.cells #[.bool (bdu b s of 6)] 4))
    (fun n w hJ j hj => (br_below h hJ.2.1).c j hj)
    (fun i k hi hk w hJ => by
      obtain ⟨hno, hB, e0, e1, e2⟩ := hJ
      have hst : bdu b s of (2 * i + k + 1) = due1 (b (2 * i + k)) s k (of i) := by
        show (bdu b s of (2 * i + k) || due1 (b (2 * i + k)) s ((2 * i + k) % 2) (of ((2 * i + k) / 2))) = _
        rw [hno, show (2 * i + k) % 2 = k by omega, show (2 * i + k) / 2 = i by omega]
        rfl
      refine (due1_at (L := b (2 * i + k)) i k w ((br_below h hB).q (2 * i + k) (by omega)) hi hk e1 e2 e0).mono ?_
      rintro e w' ⟨rfl, f1, g⟩
      rw [← hst] at f1 ⊢
      have hB' := gf_to_below hB (Nat.le_refl _) g (fun i e => by omega)
      refine ⟨_, rfl, fun hb => ?_, fun hb => ?_⟩
      · have hb : bdu b s of (2 * i + k + 1) = false := by simpa using hb
        rw [hb] at f1
        exact ⟨hb, hB', (g.block _ (Array.getElem?_eq_some_iff.1 e0).1 (by omega)).trans e0, (g.block _ (Array.getElem?_eq_some_iff.1 e1).1 (by omega)).trans e1, f1⟩
      · have hb : bdu b s of (2 * i + k + 1) = true := by simpa using hb
        have h6 := bdu_up hb (5 - (2 * i + k))
        rw [show 2 * i + k + 1 + (5 - (2 * i + k)) = 6 by omega] at h6
        rw [hb] at f1
        rw [h6]
        exact ⟨hB', f1⟩)
    (fun w hJ => by rw [hJ.1]; exact ⟨hJ.2.1, hJ.2.2.2.2⟩)
    _ ⟨rfl, HB0, p2, r2, t2⟩
  have HC := Lib.hid C
  clear h HB0 C p0 p1 p2 r1 r2 t2 s1 s2
  obtain ⟨r, hr⟩ : ∃ r, bdu b s of 6 = r := ⟨_, rfl⟩
  rw [hr] at HC ⊢
  clear hr
  subst hW1; subst hW2; subst hW3
  go_enter Tryz.func81, Tryz.ntmps81
  go_wp2_with (first
    | (go_at_call 76; refine (HC.out).mono ?_; clear HC; rintro e w1 ⟨rfl, hB, hn⟩; have HB := Lib.hid hB; obtain ⟨j1, y1⟩ := cell_of hn 0 _ rfl; clear hB hn)
    | fail)
  go_ret
  exact ⟨rfl, HB.out⟩
end Go.Proofs.YtlcaepcojglbiaaGreatDoor.Tp
namespace Go.Proofs.YtlcaepcojglbiaaGreatDoor.Tp
open Go.RowKit
set_option linter.unusedVariables false
set_option linter.unusedSimpArgs false
theorem own_slice' {w : World} {base e size n : Nat} {v : Value} {xs : List Value} (h : w.ownsRow base e size v n xs) : ∃ p m c, v = .slice p m c := by
  rcases h.2 with ⟨rfl, _⟩ | ⟨g, cap, cur, rfl, _⟩
  · exact ⟨_, _, _, rfl⟩
  · exact ⟨_, _, _, rfl⟩
theorem tmcs_app (D L : List Tm) : tmcs (D ++ L) = tmcs D ++ tmcs L := by simp [tmcs]
set_option maxRecDepth 100000 in
set_option maxHeartbeats 4000000 in
theorem all1_at {B : Nat} {qa : QA} {D L : List Tm} {ha : Nat} {v x y : Value} (w : World) (h : QR qa L w) (hot : OT B v D w) (ba : w.heap[ha]? = some (.cells #[v] 42)) (hB : B ≤ w.heap.size) (hBa : B ≤ ha) (hv : v.ownBlock ≠ some ha) (hlen : D.length + L.length < 10000) :
    Calls Tryz.prog 109 #[x, y, ptr qa.q, ptr ha] w fun e w' => e = .returned (.bool true) ∧ (∃ v', OT B v' (D ++ L) w' ∧ w'.heap[ha]? = some (.cells #[v'] 42) ∧ v'.ownBlock ≠ some ha) ∧ GF (fun i => B ≤ i) w w' := by
  have C1 := Lib.hid (qall_at w.drew (qr_same h (Nat.le_refl _) fun _ _ => rfl))
  have hl := (Array.getElem?_eq_some_iff.1 ba).1
  have HOT : Hid (OT B v D w.drew) := Lib.hid (ot_same hot fun _ _ => rfl)
  have HBA := Lib.hid ba
  have HBB := Lib.hid (And.intro hB (And.intro hBa hv))
  obtain ⟨a0, a1⟩ := cell_of ba 0 _ rfl
  have HLE : Hid (D.length + L.length ≤ 1000000) := Lib.hid (by omega)
  obtain ⟨pv, mv, cv, rfl⟩ := own_slice' hot
  clear h hot hB hBa hv hlen ba
  go_enter Tryz.func109, Tryz.ntmps109
  go_wp2_with fail
  go_region_law (first
    | (refine step_app rfl _ _ 42 rfl Tryz.underlying42 info31z rfl (by omega) (by omega) ?_ ?_ HO2.out HO1.out (tmcs_one L) HLE.out HBE.out ?_; rfl; rfl; intro v' w2 hown hgrow hloc; have hn2 := (hgrow.block ha hl1 (fun e => HBB.out.2.2 e.symm)).trans HN.out; clear b0 b1; obtain ⟨b0, b1⟩ := cell_of hn2 0 _ rfl; obtain ⟨p2, m2, c2, rfl⟩ := own_slice' hown; have HN2 := Lib.hid hn2; have HO := Lib.hid (And.intro hown (And.intro hgrow hloc)); clear hn2 hown hgrow hloc)
    | (go_simp; go_at_call 110; refine (C1.out).mono ?_; clear C1; rintro e w1 ⟨⟨v1, rfl, ho1⟩, hB1⟩; have hn := (hB1.block ha hl).trans HBA.out; obtain ⟨b0, b1⟩ := cell_of hn 0 _ rfl; have HN := Lib.hid hn; have HO1 := Lib.hid ho1; have HB1 := Lib.hid hB1; have HO2 := Lib.hid (ot_below HOT.out hB1); obtain ⟨p1, m1, c1, rfl⟩ := own_slice' ho1; have HBE : Hid (B ≤ w1.heap.size) := Lib.hid (by have h1 := hB1.size; have h2 := HBB.out.1; exact Nat.le_trans h2 h1); have hl1 : ha < w1.heap.size := (by have h1 := hB1.size; exact Nat.lt_of_lt_of_le hl h1); clear hn ho1 hB1)
    | fail)
  all_goals
    have HE : Hid ((∃ v', OT B v' (D ++ L) (w2.setCell ⟨ha, 0, none⟩ (.slice p2 m2 c2)) ∧ (w2.setCell ⟨ha, 0, none⟩ (.slice p2 m2 c2)).heap[ha]? = some (.cells #[v'] 42) ∧ v'.ownBlock ≠ some ha) ∧ GF (fun i => B ≤ i) w (w2.setCell ⟨ha, 0, none⟩ (.slice p2 m2 c2))) := by
      have hne : (Value.slice p2 m2 c2).ownBlock ≠ some ha := fun e => by
        rcases HO.out.2.2 with q | q
        · exact HBB.out.2.2 (q ▸ e)
        · rw [e] at q
          have := Option.some.inj q
          omega
      refine Lib.hid ⟨⟨.slice p2 m2 c2, ?_, set1 HN2.out _, hne⟩, ?_⟩
      · refine ot_same (w := w2) ?_ fun k hk => Below.heap_setCell _ _ _ _ fun e => hne (by rw [hk]; exact congrArg some e)
        unfold OT
        rw [tmcs_app, List.length_append]
        exact HO.out.1
      · refine gf_set (gf_grown (y := w1) ?_ HO.out.2.1 fun k hk => .inl (ot_lt HOT.out k hk).1) (.inl HBB.out.2.1) _
        exact ⟨HB1.out.os, HB1.out.tape, HB1.out.output, HB1.out.size, fun i hi _ => HB1.out.block i hi⟩
    clear HO HN2 b0 b1 HO1 HB1 HO2 HN hl1 HBE HLE HBA HBB HOT
    obtain ⟨w3, hw3⟩ : ∃ w3, w2.setCell ⟨ha, 0, none⟩ (.slice p2 m2 c2) = w3 := ⟨_, rfl⟩
    rw [hw3] at HE ⊢
    clear hw3
    go_wp2_with fail
    go_ret
    exact ⟨rfl, HE.out⟩
/-- The first n queues' timers in a row. -/
def ball (b : Nat → List Tm) : Nat → List Tm
  | 0 => []
  | n + 1 => ball b n ++ b n
theorem ball_len {b : Nat → List Tm} (h : ∀ n, n < 6 → (b n).length ≤ 64) : ∀ n, n ≤ 6 → (ball b n).length ≤ 64 * n
  | 0, _ => Nat.le_refl _
  | n + 1, hn => by
    show (ball b n ++ b n).length ≤ _
    have h1 := ball_len h n (by omega)
    have h3 := h n (by omega)
    rw [List.length_append]
    omega
set_option maxRecDepth 100000 in
set_option maxHeartbeats 4000000 in
theorem ballq_at {a : BA} {b : Nat → List Tm} (W : World) (h : BR a b W) (hlen : ∀ n, n < 6 → (b n).length ≤ 64) : Calls Tryz.prog 83 #[ptr a.bb] W fun e W' => ∃ v, e = .returned v ∧ OT W.heap.size v (ball b 6) W' ∧ Below W.heap.size W W' := by
  have HB0 : Below W.heap.size W (W.alloc (.cells #[.slice none 0 0] 42)) := (Below.refl W.heap.size W).alloc (Nat.le_refl _) _
  have t2 := heap_alloc_new W (.cells #[.slice none 0 0] 42)
  have C := each_at (bb := a.bb) (caps := #[ptr W.heap.size]) enters109 (fun j => (a.q j).q)
    (fun n w => ∃ v, OT W.heap.size v (ball b n) w ∧ w.heap[W.heap.size]? = some (.cells #[v] 42) ∧ v.ownBlock ≠ some W.heap.size ∧ Below W.heap.size W w)
    (fun w => ∃ v, w.heap[W.heap.size]? = some (.cells #[v] 42) ∧ OT W.heap.size v (ball b 6) w ∧ Below W.heap.size W w)
    (fun n w hJ j hj => by obtain ⟨v, hJ⟩ := hJ; exact (br_below h hJ.2.2.2).c j hj)
    (fun i k hi hk w hJ => by
      obtain ⟨v, h1, h2, h3, h4⟩ := hJ
      have hn : 2 * i + k < 6 := by omega
      have hl1 := ball_len hlen (2 * i + k) (by omega)
      have hl2 := hlen (2 * i + k) hn
      refine (all1_at w ((br_below h h4).q (2 * i + k) hn) h1 h2 h4.size (Nat.le_refl _) h3 (by omega)).mono ?_
      rintro e w' ⟨rfl, ⟨v', g1, g2, g3⟩, g4⟩
      exact ⟨true, rfl, fun _ => ⟨v', g1, g2, g3, gf_to_below h4 (Nat.le_refl _) g4 fun i hi => hi⟩, fun hb => by cases hb⟩)
    (fun w hJ => by
      obtain ⟨v, h1, h2, h3, h4⟩ := hJ
      exact ⟨v, h2, h1, h4⟩)
    _ ⟨.slice none 0 0, ot_nil _ _, t2, by simp [Value.ownBlock], HB0⟩
  have HC := Lib.hid C
  clear h HB0 C t2 hlen
  go_enter Tryz.func83, Tryz.ntmps83
  go_wp2_with (first
    | (go_at_call 76; refine (HC.out).mono ?_; clear HC; rintro e w1 ⟨rfl, v, hn, hot, hbl⟩; obtain ⟨pv, mv, cv, rfl⟩ := own_slice' hot; have HH := Lib.hid (And.intro hot hbl); obtain ⟨j1, y1⟩ := cell_of hn 0 _ rfl; clear hn hot hbl)
    | fail)
  go_ret
  exact ⟨_, rfl, HH.out⟩
end Go.Proofs.YtlcaepcojglbiaaGreatDoor.Tp
