import Derived.Test.YtdbaeigbejcobaaDlLoads3
namespace Go.Proofs.Ytdbaeigbejcobaa.Dl
open Go.RowKit
theorem loads_tell (A : Option Addr) (n c : Nat) (w : World) (h : ∃ z, Rd3 w A n z) : Calls Try.prog 4 #[.slice A n c] w (Tr w) := by
  obtain ⟨z, hz⟩ := h
  rcases Nat.lt_or_ge 30 n with hn | hn
  · exact loads_big A n c w hn
  · by_cases ho : AllOk z n
    · rcases Nat.lt_or_ge 1000000000 (lc (per z) n) with h9 | h9
      · exact loads_none A n c z w hz ho h9
      · rcases Nat.lt_or_ge 20000 (lc (per z) n) with h2 | h2
        · exact loads_mid A n c z w hz ho h9 h2
        · exact loads_hit A n c z w hz ho h9 h2
    · exact loads_no A n c z w hn hz ho
end Go.Proofs.Ytdbaeigbejcobaa.Dl
