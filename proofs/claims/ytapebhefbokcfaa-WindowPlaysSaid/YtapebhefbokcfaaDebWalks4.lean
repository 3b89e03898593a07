import Derived.Test.YtapebhefbokcfaaDebWalks3
namespace Go.Proofs.Ytapebhefbokcfaa.DebW
open Go.RowKit
set_option linter.unusedSimpArgs false
set_option linter.unusedVariables false
theorem c_nil (w : World) : Calls Try.prog 16 #[.pointer none] w fun e w' => e = .returned (.int .i64 0) ∧ w = w' := count_nil w
theorem pass_end_at {b : Nat} {q m now F T P en : Int} (w : World) (t : Int) (h : FS b q m now F T P w) (hb : Bd q m now F T P) (hP : 0 < P) (hen : endAt q m F T = en) (he : en ≤ nowAt now t) :
    Calls Try.prog 14 #[ptr b, .int .i64 t] w fun e w' => e = .returned (.tuple #[bu F T P en, .bool true]) ∧ FS b q m (nowAt now t) 0 0 0 w' ∧ G b w w' := hen ▸ pass_end w t h hb hP (hen ▸ he)
set_option maxHeartbeats 4000000 in
theorem fixed_any (w : World) : Calls Try.prog 10 #[] w fun e w' => e = .returned (.bool true) ∧ Below w.heap.size w w' := by
  go_enter Try.func10, Try.ntmps10
  go_wp2_with fail
  refine (new_ok 5 0 w (by unfold NewOk; omega)).mono ?_
  rintro e w1 ⟨rfl, hfs, hb⟩
  have HF := Lib.hid hfs
  have HB := Lib.hid hb
  have hz1 : w.heap.size < w1.heap.size := hfs.2.2.2.2.2.2.2.2.2.2.2.2
  clear hfs hb
  go_wp2_with fail
  refine (poke_new (b := w.heap.size) (now := 0) (q := 5) (m := 0) _ 10 HF.out (by omega)).mono ?_
  rintro e w2 ⟨rfl, hfs, hg⟩
  have HF2 := Lib.hid hfs
  clear HF
  have HF := Lib.hid HF2.out
  clear HF2
  have HB2 := Lib.hid (g_new (b := w.heap.size) (HB.out) (by omega) hg)
  clear HB
  have HB := Lib.hid HB2.out
  clear HB2
  replace hz1 : w.heap.size < w2.heap.size := (by have := hg.size; (try simp at this); omega)
  clear hfs hg
  go_wp2_with fail
  refine (poke_wait (b := w.heap.size) (q := 5) (m := 0) (now := 10) (F := 10) (T := 10) (P := 1) _ 13 HF.out (by unfold Bd; omega) (by omega) (by decide)).mono ?_
  rintro e w3 ⟨rfl, hfs, hg⟩
  have HF2 := Lib.hid hfs
  clear HF
  have HF := Lib.hid HF2.out
  clear HF2
  have HB2 := Lib.hid (g_new (b := w.heap.size) (HB.out) (by omega) hg)
  clear HB
  have HB := Lib.hid HB2.out
  clear HB2
  replace hz1 : w.heap.size < w3.heap.size := (by have := hg.size; (try simp at this); omega)
  clear hfs hg
  go_wp2_with fail
  refine (next_at (b := w.heap.size) (q := 5) (m := 0) (now := 13) (F := 10) (T := 13) (P := 2) (en := 18) _ HF.out (by unfold Bd; omega) (by omega) (by decide)).mono ?_
  rintro e w4 ⟨rfl, hfs, hg⟩
  have HF2 := Lib.hid hfs
  clear HF
  have HF := Lib.hid HF2.out
  clear HF2
  have HB2 := Lib.hid (g_new (b := w.heap.size) (HB.out) (by omega) hg)
  clear HB
  have HB := Lib.hid HB2.out
  clear HB2
  replace hz1 : w.heap.size < w4.heap.size := (by have := hg.size; (try simp at this); omega)
  clear hfs hg
  go_wp2_with fail
  refine (pass_wait (b := w.heap.size) (q := 5) (m := 0) (now := 13) (F := 10) (T := 13) (P := 2) _ 17 HF.out (by unfold Bd; omega) (by omega) (by decide)).mono ?_
  rintro e w5 ⟨rfl, hfs, hg⟩
  have HF2 := Lib.hid hfs
  clear HF
  have HF := Lib.hid HF2.out
  clear HF2
  have HB2 := Lib.hid (g_new (b := w.heap.size) (HB.out) (by omega) hg)
  clear HB
  have HB := Lib.hid HB2.out
  clear HB2
  replace hz1 : w.heap.size < w5.heap.size := (by have := hg.size; (try simp at this); omega)
  clear hfs hg
  go_wp2_with fail
  refine (pass_end_at (b := w.heap.size) (q := 5) (m := 0) (now := 17) (F := 10) (T := 13) (P := 2) (en := 18) _ 30 (fs_alloc _ HF.out) (by unfold Bd; omega) (by omega) (by decide) (by decide)).mono ?_
  rintro e w6 ⟨rfl, hfs, hg⟩
  have HF2 := Lib.hid hfs
  clear HF
  have HF := Lib.hid HF2.out
  clear HF2
  have HB2 := Lib.hid (g_new (b := w.heap.size) ((HB.out.alloc HB.out.size _)) (by omega) hg)
  clear HB
  have HB := Lib.hid HB2.out
  clear HB2
  replace hz1 : w.heap.size < w6.heap.size := (by have := hg.size; (try simp at this); omega)
  clear hfs hg
  go_wp2_with fail
  refine (new_ok 5 7 _ (by unfold NewOk; omega)).mono ?_
  rintro e w7 ⟨rfl, hfs, hb⟩
  have HZ0 := hz1
  clear HF hz1
  have HF := Lib.hid hfs
  have hz1 : w.heap.size < w7.heap.size := (by have := hb.size; simp at this; omega)
  have hz6 : w6.heap.size < w7.heap.size := (by have := hb.size; simp at this; omega)
  have k0 : w7.cell? ⟨w6.heap.size, 0, none⟩ = some (.int .i64 10) := ((bcell hb).1 w6.heap.size 0 (by simp)).trans (by simp)
  have k1 : w7.cell? ⟨w6.heap.size, 1, none⟩ = some (.int .i64 13) := ((bcell hb).1 w6.heap.size 1 (by simp)).trans (by simp)
  have k2 : w7.cell? ⟨w6.heap.size, 2, none⟩ = some (.int .i64 2) := ((bcell hb).1 w6.heap.size 2 (by simp)).trans (by simp)
  have k3 : w7.cell? ⟨w6.heap.size, 3, none⟩ = some (.int .i64 18) := ((bcell hb).1 w6.heap.size 3 (by simp)).trans (by simp)
  have HB2 := Lib.hid ((HB.out.alloc HB.out.size _).trans (hb.mono (by have := HB.out.size; simp; omega)))
  clear HB
  have HB := Lib.hid HB2.out
  clear HB2 hb
  obtain ⟨g, hg0⟩ : ∃ g, g = (w6.alloc (Obj.cells #[.int .i64 10, .int .i64 13, .int .i64 2, .int .i64 18] 27)).heap.size := ⟨_, rfl⟩
  rw [← hg0] at HF hfs
  have hz7 : g < w7.heap.size := hfs.2.2.2.2.2.2.2.2.2.2.2.2
  clear hfs
  have hg1 : g = w6.heap.size + 1 := by rw [hg0]; simp
  have hg2 : w6.heap.size < g := by omega
  have hg3 : w.heap.size < g := by have := HZ0; omega
  try rw [← hg0]
  clear hg0 hg1
  go_wp2_with fail
  refine (poke_new (b := g) (now := 0) (q := 5) (m := 7) _ 0 HF.out (by omega)).mono ?_
  rintro e w8 ⟨rfl, hfs, hg⟩
  have HF2 := Lib.hid hfs
  clear HF
  have HF := Lib.hid HF2.out
  clear HF2
  have HB2 := Lib.hid (g_new (b := g) (HB.out) (by omega) hg)
  clear HB
  have HB := Lib.hid HB2.out
  clear HB2
  replace k0 : w8.cell? ⟨w6.heap.size, 0, none⟩ = some (.int .i64 10) := (g_cell hg (by first | omega | (simp; omega)) (by omega) 0).trans (by first | exact k0 | exact (World.cell?_alloc_lt _ _ _ (by omega)).trans k0)
  replace k1 : w8.cell? ⟨w6.heap.size, 1, none⟩ = some (.int .i64 13) := (g_cell hg (by first | omega | (simp; omega)) (by omega) 1).trans (by first | exact k1 | exact (World.cell?_alloc_lt _ _ _ (by omega)).trans k1)
  replace k2 : w8.cell? ⟨w6.heap.size, 2, none⟩ = some (.int .i64 2) := (g_cell hg (by first | omega | (simp; omega)) (by omega) 2).trans (by first | exact k2 | exact (World.cell?_alloc_lt _ _ _ (by omega)).trans k2)
  replace k3 : w8.cell? ⟨w6.heap.size, 3, none⟩ = some (.int .i64 18) := (g_cell hg (by first | omega | (simp; omega)) (by omega) 3).trans (by first | exact k3 | exact (World.cell?_alloc_lt _ _ _ (by omega)).trans k3)
  replace hz1 : w.heap.size < w8.heap.size := (by have := hg.size; (try simp at this); omega)
  replace hz6 : w6.heap.size < w8.heap.size := (by have := hg.size; (try simp at this); omega)
  replace hz7 : g < w8.heap.size := (by have := hg.size; (try simp at this); omega)
  clear hfs hg
  go_wp2_with fail
  refine (poke_wait (b := g) (q := 5) (m := 7) (now := 0) (F := 0) (T := 0) (P := 1) _ 4 HF.out (by unfold Bd; omega) (by omega) (by decide)).mono ?_
  rintro e w9 ⟨rfl, hfs, hg⟩
  have HF2 := Lib.hid hfs
  clear HF
  have HF := Lib.hid HF2.out
  clear HF2
  have HB2 := Lib.hid (g_new (b := g) (HB.out) (by omega) hg)
  clear HB
  have HB := Lib.hid HB2.out
  clear HB2
  replace k0 : w9.cell? ⟨w6.heap.size, 0, none⟩ = some (.int .i64 10) := (g_cell hg (by first | omega | (simp; omega)) (by omega) 0).trans (by first | exact k0 | exact (World.cell?_alloc_lt _ _ _ (by omega)).trans k0)
  replace k1 : w9.cell? ⟨w6.heap.size, 1, none⟩ = some (.int .i64 13) := (g_cell hg (by first | omega | (simp; omega)) (by omega) 1).trans (by first | exact k1 | exact (World.cell?_alloc_lt _ _ _ (by omega)).trans k1)
  replace k2 : w9.cell? ⟨w6.heap.size, 2, none⟩ = some (.int .i64 2) := (g_cell hg (by first | omega | (simp; omega)) (by omega) 2).trans (by first | exact k2 | exact (World.cell?_alloc_lt _ _ _ (by omega)).trans k2)
  replace k3 : w9.cell? ⟨w6.heap.size, 3, none⟩ = some (.int .i64 18) := (g_cell hg (by first | omega | (simp; omega)) (by omega) 3).trans (by first | exact k3 | exact (World.cell?_alloc_lt _ _ _ (by omega)).trans k3)
  replace hz1 : w.heap.size < w9.heap.size := (by have := hg.size; (try simp at this); omega)
  replace hz6 : w6.heap.size < w9.heap.size := (by have := hg.size; (try simp at this); omega)
  replace hz7 : g < w9.heap.size := (by have := hg.size; (try simp at this); omega)
  clear hfs hg
  go_wp2_with fail
  refine (next_at (b := g) (q := 5) (m := 7) (now := 4) (F := 0) (T := 4) (P := 2) (en := 7) _ HF.out (by unfold Bd; omega) (by omega) (by decide)).mono ?_
  rintro e w10 ⟨rfl, hfs, hg⟩
  have HF2 := Lib.hid hfs
  clear HF
  have HF := Lib.hid HF2.out
  clear HF2
  have HB2 := Lib.hid (g_new (b := g) (HB.out) (by omega) hg)
  clear HB
  have HB := Lib.hid HB2.out
  clear HB2
  replace k0 : w10.cell? ⟨w6.heap.size, 0, none⟩ = some (.int .i64 10) := (g_cell hg (by first | omega | (simp; omega)) (by omega) 0).trans (by first | exact k0 | exact (World.cell?_alloc_lt _ _ _ (by omega)).trans k0)
  replace k1 : w10.cell? ⟨w6.heap.size, 1, none⟩ = some (.int .i64 13) := (g_cell hg (by first | omega | (simp; omega)) (by omega) 1).trans (by first | exact k1 | exact (World.cell?_alloc_lt _ _ _ (by omega)).trans k1)
  replace k2 : w10.cell? ⟨w6.heap.size, 2, none⟩ = some (.int .i64 2) := (g_cell hg (by first | omega | (simp; omega)) (by omega) 2).trans (by first | exact k2 | exact (World.cell?_alloc_lt _ _ _ (by omega)).trans k2)
  replace k3 : w10.cell? ⟨w6.heap.size, 3, none⟩ = some (.int .i64 18) := (g_cell hg (by first | omega | (simp; omega)) (by omega) 3).trans (by first | exact k3 | exact (World.cell?_alloc_lt _ _ _ (by omega)).trans k3)
  replace hz1 : w.heap.size < w10.heap.size := (by have := hg.size; (try simp at this); omega)
  replace hz6 : w6.heap.size < w10.heap.size := (by have := hg.size; (try simp at this); omega)
  replace hz7 : g < w10.heap.size := (by have := hg.size; (try simp at this); omega)
  clear hfs hg
  go_wp2_with fail
  refine (flush_some (b := g) (q := 5) (m := 7) (now := 4) (F := 0) (T := 4) (P := 2) _ HF.out (by omega)).mono ?_
  rintro e w11 ⟨rfl, hfs, hg⟩
  have HF2 := Lib.hid hfs
  clear HF
  have HF := Lib.hid HF2.out
  clear HF2
  have HB2 := Lib.hid (g_new (b := g) (HB.out) (by omega) hg)
  clear HB
  have HB := Lib.hid HB2.out
  clear HB2
  replace k0 : w11.cell? ⟨w6.heap.size, 0, none⟩ = some (.int .i64 10) := (g_cell hg (by first | omega | (simp; omega)) (by omega) 0).trans (by first | exact k0 | exact (World.cell?_alloc_lt _ _ _ (by omega)).trans k0)
  replace k1 : w11.cell? ⟨w6.heap.size, 1, none⟩ = some (.int .i64 13) := (g_cell hg (by first | omega | (simp; omega)) (by omega) 1).trans (by first | exact k1 | exact (World.cell?_alloc_lt _ _ _ (by omega)).trans k1)
  replace k2 : w11.cell? ⟨w6.heap.size, 2, none⟩ = some (.int .i64 2) := (g_cell hg (by first | omega | (simp; omega)) (by omega) 2).trans (by first | exact k2 | exact (World.cell?_alloc_lt _ _ _ (by omega)).trans k2)
  replace k3 : w11.cell? ⟨w6.heap.size, 3, none⟩ = some (.int .i64 18) := (g_cell hg (by first | omega | (simp; omega)) (by omega) 3).trans (by first | exact k3 | exact (World.cell?_alloc_lt _ _ _ (by omega)).trans k3)
  replace hz1 : w.heap.size < w11.heap.size := (by have := hg.size; (try simp at this); omega)
  replace hz6 : w6.heap.size < w11.heap.size := (by have := hg.size; (try simp at this); omega)
  replace hz7 : g < w11.heap.size := (by have := hg.size; (try simp at this); omega)
  clear hfs hg
  go_wp2_with fail
  refine (poke_nil _ 1).mono ?_
  rintro e w12 ⟨rfl, hb⟩
  have x3 : w12.cell? ⟨w11.heap.size, 3, none⟩ = some (.int .i64 4) := ((bcell hb).1 w11.heap.size 3 (by simp)).trans (by simp)
  replace k0 : w12.cell? ⟨w6.heap.size, 0, none⟩ = some (.int .i64 10) := ((bcell hb).1 w6.heap.size 0 (by simp; omega)).trans ((World.cell?_alloc_lt _ _ _ (by omega)).trans k0)
  replace k1 : w12.cell? ⟨w6.heap.size, 1, none⟩ = some (.int .i64 13) := ((bcell hb).1 w6.heap.size 1 (by simp; omega)).trans ((World.cell?_alloc_lt _ _ _ (by omega)).trans k1)
  replace k2 : w12.cell? ⟨w6.heap.size, 2, none⟩ = some (.int .i64 2) := ((bcell hb).1 w6.heap.size 2 (by simp; omega)).trans ((World.cell?_alloc_lt _ _ _ (by omega)).trans k2)
  replace k3 : w12.cell? ⟨w6.heap.size, 3, none⟩ = some (.int .i64 18) := ((bcell hb).1 w6.heap.size 3 (by simp; omega)).trans ((World.cell?_alloc_lt _ _ _ (by omega)).trans k3)
  have HF2 := Lib.hid (fs_below hb (fs_alloc _ HF.out))
  clear HF
  have HF := Lib.hid HF2.out
  have HB2 := Lib.hid ((HB.out.alloc HB.out.size _).trans (hb.mono (by have := HB.out.size; simp; omega)))
  have hz11 : w11.heap.size < w12.heap.size := (by have := hb.size; simp at this; omega)
  replace hz6 : w6.heap.size < w12.heap.size := by omega
  replace hz7 : g < w12.heap.size := by omega
  replace hz1 : w.heap.size < w12.heap.size := by omega
  clear HB HF2 hb HZ0
  go_wp2_with (first
    | (go_at_call_of 16 (ptr g); refine (count_at (b := g) (P := 0) _ (fs_alloc _ HF.out)).mono ?_; rintro e wp ⟨rfl, rfl⟩)
    | (go_at_call 11; refine (new_no 5 4 _ (by unfold NewOk; omega)).mono ?_; rintro e wp ⟨rfl, rfl⟩)
    | (go_at_call_of 16 (Value.pointer none); refine (count_nil _).mono ?_; rintro e wp ⟨rfl, rfl⟩)
    | fail)
  go_ret
  exact ⟨rfl, HB2.out.alloc HB2.out.size _⟩
end Go.Proofs.Ytapebhefbokcfaa.DebW
