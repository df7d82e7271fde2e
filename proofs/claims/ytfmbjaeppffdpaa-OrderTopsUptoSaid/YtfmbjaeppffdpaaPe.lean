/- The document's example of queries. -/
import Derived.Test.YtfmbjaeppffdpaaPd
namespace Go.LS
open Go
set_option maxRecDepth 100000
def awN : Nd := .mk 5 ByteArray.empty ⟨0, ByteArray.empty, 0, false⟩ [] [.mk 1 { data := #[97] } ⟨2, ByteArray.empty, 3, false⟩ [] []]
def awL : List Cl := [⟨{ data := #[97] }, 2, true⟩]
theorem aw1 : hold2 awN awL [⟨0, ByteArray.empty, 0, false⟩] = (true, 0) := by decide +kernel
theorem aw2 : hold2 awN awL [⟨2, ByteArray.empty, 3, false⟩] = (false, 0) := by decide +kernel
end Go.LS
