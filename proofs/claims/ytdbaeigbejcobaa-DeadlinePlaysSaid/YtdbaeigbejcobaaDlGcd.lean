import Derived.Test.YtdbaeigbejcobaaDlOpen
import Derived.Test.YtdbaeigbejcobaaDlMath
import Derived.Test.YtdbaeigbejcobaaProg
import Derived.OwnWalk
import Derived.Below
import Derived.IntWalk
import Derived.Deep.QuietTactic
import Derived.BigQuiet
import Derived.Deep.RegionWith
import Derived.Deep.RegionHeld3
import Derived.Lib.Hide
import Derived.LoopTactic
import Derived.WalkLawsBesides
import Derived.Laws.ResultCell
namespace Go.Proofs.Ytdbaeigbejcobaa.Dl
open Go.RowKit
set_option linter.unusedVariables false
set_option linter.unusedSimpArgs false
theorem iw {x : Int} (h1 : -9223372036854775808 ≤ x) (h2 : x ≤ 9223372036854775807) : IntKind.i64.wrap x = x := IntWalk.i64_in _ (by omega)
theorem below_drewN {B : Nat} {w W : World} (h : Below B w W) (n : Nat) : Below B w (W.drewN n) := ⟨h.os, h.tape, h.output, h.size, h.block⟩
theorem below_tr {w x y : World} (h : Below w.heap.size w x) (k : Below x.heap.size x y) : Below w.heap.size w y := h.trans (k.mono h.size)
theorem bcell {W w1 : World} (hb : Below W.heap.size W w1) : (∀ b o, b < W.heap.size → w1.cell? ⟨b, o, none⟩ = W.cell? ⟨b, o, none⟩) ∧ (∀ b o, b < W.heap.size → w1.frozen? ⟨b, o, none⟩ = W.frozen? ⟨b, o, none⟩) :=
  ⟨fun b o h => hb.cell (p := ⟨b, o, none⟩) h, fun b o h => hb.frozen (p := ⟨b, o, none⟩) h⟩
set_option maxHeartbeats 2000000 in
theorem gcd_at (a b : Nat) (ha : a ≤ 1000000000000) (hb : b ≤ 1000000000000) (w : World) : Calls Try.prog 30 #[.int .i64 a, .int .i64 b] w fun e w' => e = .returned (.int .i64 (Nat.gcd a b)) ∧ Below w.heap.size w w' := by
  obtain ⟨g, hg⟩ : ∃ g, Nat.gcd a b = g := ⟨_, rfl⟩
  rw [hg]
  have HG := Lib.hid hg
  clear hg
  go_enter Try.func30, Try.ntmps30
  go_wp2_with fail
  go_loopw [0, 1] (fun v0 v1 W => ∃ (x y : Nat), x ≤ 1000000000000 ∧ y ≤ 1000000000000 ∧ v0 = .int .i64 x ∧ v1 = .int .i64 y ∧ Hid (Nat.gcd x y = g) ∧ Hid (Below w.heap.size w W)) (fun _ v1 _ => (intOf v1).toNat)
  case atStart => exact ⟨a, b, ha, hb, rfl, rfl, HG.out, Below.refl _ _⟩
  case round =>
    obtain ⟨x, y, hx, hy, rfl, rfl, HX, HB⟩ := hrel
    by_cases h0 : y = 0
    · subst h0
      have HE := Lib.hid (show x = g by rw [← HX.out, Nat.gcd_zero_right])
      go_wp2
      go_ret
      exact ⟨by rw [HE.out]; rfl, HB.out⟩
    · have hyz : ¬ (y : Int) = 0 := by omega
      have hlt : x % y < y := Nat.mod_lt _ (by omega)
      have hm : IntKind.i64.wrap ((x : Int).tmod (y : Int)) = ((x % y : Nat) : Int) := by
        rw [Int.tmod_eq_emod_of_nonneg (by omega), ← Int.natCast_emod]; exact iw (by omega) (by omega)
      have HX2 := Lib.hid (show Nat.gcd y (x % y) = g by rw [← HX.out, Nat.gcd_comm x y, Nat.gcd_rec y x, Nat.gcd_comm])
      obtain ⟨m, hmE⟩ : ∃ m, x % y = m := ⟨_, rfl⟩
      rw [hmE] at hlt hm HX2
      have HM := Lib.hid (show (x : Int) % (y : Int) = (m : Int) by rw [← Int.natCast_emod, hmE])
      clear hmE
      go_wp2_with fail
      go_quiet (fail)
      go_wp2
      simp only [HM.out]
      refine ⟨⟨y, m, hy, by omega, rfl, rfl, HX2.out, below_drewN HB.out nq⟩, by simp [intOf]; omega⟩
end Go.Proofs.Ytdbaeigbejcobaa.Dl
