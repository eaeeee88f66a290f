/- The plain laws of the sum. Conditions: none. -/
import Derived.Test.YtkohjmiipameeaaSumP
namespace Go.Proofs.Ytkohjmiipameeaa.Tr
theorem not_not32 (x : UInt32) : ~~~(~~~x) = x := UInt32.not_not
theorem crc_two (a b : List UInt8) : crcOn (crcOn 0 a) b = crcOn 0 (a ++ b) := by
  unfold crcOn crcBytes
  rw [not_not32, List.foldl_append]
end Go.Proofs.Ytkohjmiipameeaa.Tr
