/-
  Packed: The law of nodes numbered otherwise, at the model's calls.
-/
import Derived.Test.YtdndngngdngjjaaLawGrN
import Derived.Test.YtdndngngdngjjaaGrR
namespace Go.Proofs.Ytdndngngdngjjaa.Am
open Go Go.Proofs Gr
theorem law6 {v : Value} {g : G} {x0 : Int} {h : Am.H} {k : Kv} {kp : Kp} (r : Rw h v g) (hn : g.length ≤ 1048576) (hs : ∀ t ∈ g, t.length ≤ 1048576) (hx : inI x0) (hk : ∀ h', k (.bool true) h') : DD 6 [v, .int .i64 x0] h k kp := spec6 cl6 shown9 parts11 home14 r (by omega) hs hx hk
end Go.Proofs.Ytdndngngdngjjaa.Am
