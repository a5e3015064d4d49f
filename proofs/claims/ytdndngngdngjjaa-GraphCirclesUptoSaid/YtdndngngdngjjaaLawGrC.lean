/-
  Packed: The law of circles, at the model's calls.
-/
import Derived.Test.YtdndngngdngjjaaLawGr
import Derived.Test.YtdndngngdngjjaaGrO
namespace Go.Proofs.Ytdndngngdngjjaa.Am
open Go Go.Proofs Gr
theorem law4 {v : Value} {g : G} {h : Am.H} {k : Kv} {kp : Kp} (r : Rw h v g) (hn : g.length ≤ 1048576) (hk : ∀ h', k (.bool true) h') : DD 4 [v] h k kp := spec4 cl4 shown9 parts11 r (by omega) hk
end Go.Proofs.Ytdndngngdngjjaa.Am
