/-
  Packed: The law of turned edges, at the model's calls.
-/
import Derived.Test.YtdndngngdngjjaaLawGr
import Derived.Test.YtdndngngdngjjaaGrT
namespace Go.Proofs.Ytdndngngdngjjaa.Am
open Go Go.Proofs Gr
theorem law5 {v : Value} {g : G} {h : Am.H} {k : Kv} {kp : Kp} (r : Rw h v g) (hn : g.length ≤ 1048576) (hs : ∀ t ∈ g, t.length ≤ 1048576) (hk : ∀ h', k (.bool true) h') : DD 5 [v] h k kp := spec5 cl5 shown9 parts11 same13 r (by omega) hs hk
end Go.Proofs.Ytdndngngdngjjaa.Am
