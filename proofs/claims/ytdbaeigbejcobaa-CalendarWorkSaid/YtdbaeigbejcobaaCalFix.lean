import Derived.Test.YtdbaeigbejcobaaCalF3
import Derived.WalkKit
import Derived.OwnWalk
import Derived.Below
import Derived.IntWalk
import Derived.Deep.RegionWith
import Derived.Lib.Hide
import Derived.LoopTactic
import Derived.WalkLawsBesides
namespace Go.Proofs.Ytdbaeigbejcobaa.Cal
open Go.RowKit Go.Proofs.Ytdbaeigbejcobaa.PCalendarWork Go.Proofs.YtdbaeigbejcobaaW.PrintWords
set_option linter.unusedVariables false
set_option linter.unusedSimpArgs false
theorem bthen {w w1 w2 : World} (h : Below w.heap.size w w1) (h2 : Below w1.heap.size w1 w2) : Below w.heap.size w w2 := h.trans (h2.mono h.size)
abbrev Tr (w : World) (e : Ending) (w' : World) : Prop := e = .returned (.bool true) ∧ Below w.heap.size w w'
theorem box0 (w : World) : ReadsInt (w.alloc (.cells #[.int .i64 0] 3)) .i64 (some ⟨w.heap.size, 0, none⟩) 1 [0] :=
  ⟨rfl, by decide, fun _ => ⟨_, rfl, fun j hj => by
    obtain rfl : j = 0 := by omega
    simp [Addr.add]⟩⟩
set_option maxHeartbeats 4000000 in
set_option maxRecDepth 100000 in
theorem fixed_any (w : World) : Calls Try.prog 17 #[] w (Tr w) := by
  go_enter Try.func17, Try.ntmps17
  go_wp2_with fail
  refine (fuseelaw39_of.calls 100 2001 1 31 11353 _ (by decide +kernel)).mono ?_
  rintro e w1 ⟨rfl, hb⟩
  have HB1 := Lib.hid (hb)
  clear hb
  go_wp2_with fail
  refine (calendar_Months.calls 100 11353 1 11381 true _ (by decide +kernel)).mono ?_
  rintro e w2 ⟨rfl, hb⟩
  have HB2 := Lib.hid (bthen HB1.out hb)
  clear HB1
  clear hb
  go_wp2_with fail
  refine (fuseelaw39_of.calls 100 2000 2 29 11016 _ (by decide +kernel)).mono ?_
  rintro e w3 ⟨rfl, hb⟩
  have HB3 := Lib.hid (bthen HB2.out hb)
  clear HB2
  clear hb
  go_wp2_with fail
  refine (fuseelaw39_of.calls 100 2003 4 1 12143 _ (by decide +kernel)).mono ?_
  rintro e w4 ⟨rfl, hb⟩
  have HB4 := Lib.hid (bthen HB3.out hb)
  clear HB3
  clear hb
  go_wp2_with fail
  refine (calendar_Between.calls 100 11016 12143 3 1 3 true _ (by decide +kernel)).mono ?_
  rintro e w5 ⟨rfl, hb⟩
  have HB5 := Lib.hid (bthen HB4.out hb)
  clear HB4
  clear hb
  go_wp2_with fail
  refine (fuseelaw39_of.calls 100 2000 2 3 10990 _ (by decide +kernel)).mono ?_
  rintro e w6 ⟨rfl, hb⟩
  have HB6 := Lib.hid (bthen HB5.out hb)
  clear HB5
  clear hb
  go_wp2_with fail
  refine (calendar_End.calls 100 10990 11016 true _ (by decide +kernel)).mono ?_
  rintro e w7 ⟨rfl, hb⟩
  have HB7 := Lib.hid (bthen HB6.out hb)
  clear HB6
  clear hb
  go_wp2_with fail
  refine (calendar_Nth.calls 100 1970 1 3 1 0 true _ (by decide +kernel)).mono ?_
  rintro e w8 ⟨rfl, hb⟩
  have HB8 := Lib.hid (bthen HB7.out hb.below)
  clear HB7
  clear hb
  go_wp2_with fail
  refine (calendar_AddWork.calls 100 0 2 none 0 [] 4 true _ (Kd.C_nil _ _) (Nat.le_refl _) (by decide +kernel)).mono ?_
  rintro e w9 ⟨rfl, hb⟩
  have HB9 := Lib.hid (bthen HB8.out hb.below)
  clear HB8
  clear hb
  go_wp2_with fail
  refine (calendar_Nth.calls 100 1970 2 0 5 0 false _ (by decide +kernel)).mono ?_
  rintro e w10 ⟨rfl, hb⟩
  have HB10 := Lib.hid (bthen HB9.out hb.below)
  clear HB9
  clear hb
  go_wp2_with fail
  refine (fuseelaw39_of.calls 100 2001 2 28 11381 _ (by decide +kernel)).mono ?_
  rintro e w11 ⟨rfl, hb⟩
  have HB11 := Lib.hid (bthen HB10.out hb)
  clear HB10
  clear hb
  go_wp2_with fail
  refine (fuseelaw39_of.calls 100 2000 2 29 11016 _ (by decide +kernel)).mono ?_
  rintro e w12 ⟨rfl, hb⟩
  have HB12 := Lib.hid (bthen HB11.out hb)
  clear HB11
  clear hb
  go_wp2_with fail
  refine (calendar_Work.calls 100 0 none 0 [] true _ (Kd.C_nil _ _) (Nat.le_refl _) (by decide +kernel)).mono ?_
  rintro e w13 ⟨rfl, hb⟩
  have HB13 := Lib.hid (bthen HB12.out hb.below)
  clear HB12
  clear hb
  go_wp2_with fail
  refine (calendar_Work.calls 100 0 (some ⟨w13.heap.size, 0, none⟩) 1 [0] false _ (Kd.C_of_reads (d := (0 : Int)) (h1 := fun _ => rfl) (box0 w13)) (Nat.le_refl _) (by decide +kernel)).mono ?_
  rintro e w14 ⟨rfl, hb⟩
  have HB14 := Lib.hid (bthen HB13.out (((Below.refl _ _).alloc (Nat.le_refl _) _).trans (hb.below.mono (by simp))))
  clear HB13
  clear hb
  go_wp2_with fail
  refine (calendar_Work.calls 100 2 none 0 [] false _ (Kd.C_nil _ _) (Nat.le_refl _) (by decide +kernel)).mono ?_
  rintro e w15 ⟨rfl, hb⟩
  have HB15 := Lib.hid (bthen HB14.out hb.below)
  clear HB14
  clear hb
  go_wp2_with fail
  refine (calendar_WorkDays.calls 5000 0 7 none 0 [] 5 _ (Kd.C_nil _ _) (Nat.le_refl _) (by decide +kernel)).mono ?_
  rintro e w16 ⟨rfl, hb⟩
  have HB16 := Lib.hid (bthen HB15.out hb.below)
  clear HB15
  clear hb
  go_wp2_with fail
  go_ret
  exact ⟨rfl, HB16.out⟩
end Go.Proofs.Ytdbaeigbejcobaa.Cal
