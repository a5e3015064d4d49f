/-
  Packed: The law of edges that count, at the model's calls.
-/
import Derived.Test.YtdndngngdngjjaaLawGr
import Derived.Test.YtdndngngdngjjaaGrN
namespace Go.Proofs.Ytdndngngdngjjaa.Am
open Go Go.Proofs Gr
theorem home14 : SpecHome DD 14 := spec14 cl14
theorem law7 {v : Value} {g : G} {h : Am.H} {k : Kv} {kp : Kp} (r : Rw h v g) (hn : g.length ≤ 1048576) (hs : ∀ t ∈ g, t.length ≤ 1048576) (hk : ∀ h', k (.bool true) h') : DD 7 [v] h k kp := spec7 cl7 shown9 parts11 same13 home14 r (by omega) hs hk
end Go.Proofs.Ytdndngngdngjjaa.Am
