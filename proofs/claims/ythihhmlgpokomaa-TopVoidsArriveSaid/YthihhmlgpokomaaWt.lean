/- hub: Receive, joined. -/
import Derived.Test.YthihhmlgpokomaaWma
import Derived.Test.YthihhmlgpokomaaWmb
import Derived.Test.YthihhmlgpokomaaWn
import Derived.Test.YthihhmlgpokomaaWo
import Derived.Test.YthihhmlgpokomaaWr
set_option linter.unusedVariables false
namespace Go.Proofs.Ythihhmlgpokomaa
open Go.RowKit

theorem rcvOk : RcvOk := by
  refine ⟨fun n k v s w hb hs hn hk hg => ?_, fun n k v s w hb hs hn hk hng => ?_⟩
  · rcases hb with ⟨rfl, rfl⟩ | ⟨b, o, c, D, d, rfl, hc, hx⟩
    · exact absurd hg (by unfold Gt; simp)
    · exact Receive_old n k b o c D d s w hx hs hn hc hk hg
  · rcases hb with ⟨rfl, h0⟩ | ⟨b, o, c, D, d, rfl, hc, hx⟩
    · by_cases h : s.1 < k
      · exact Receive_nil_wait n k s w h0 hs hn hk hng h
      · exact Receive_nil_over n k s w h0 hs hn hk hng h
    · by_cases h : s.1 < k
      · exact Receive_one_wait n k b o c D d s w hx hs hn hc hk hng h
      · exact Receive_one_over n k b o c D d s w hx hs hn hc hk hng h
end Go.Proofs.Ythihhmlgpokomaa
