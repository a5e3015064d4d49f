/-
  Packed: The law of one edge more, at the model's calls.
-/
import Derived.Test.YtdndngngdngjjaaLawGrR
import Derived.Test.YtdndngngdngjjaaGrM
namespace Go.Proofs.Ytdndngngdngjjaa.Am
open Go Go.Proofs Gr
theorem law8 {v : Value} {g : G} {x1 x2 : Int} {h : Am.H} {k : Kv} {kp : Kp} (r : Rw h v g) (hn : g.length ≤ 1048576) (hs : ∀ t ∈ g, t.length ≤ 1048576) (hk : ∀ h', k (.bool true) h') : DD 8 [v, .int .i64 x1, .int .i64 x2] h k kp := spec8 cl8 shown9 copied10 parts11 same13 home14 (spec15 cl15) (spec16 cl16) r (by omega) hs hk
end Go.Proofs.Ytdndngngdngjjaa.Am
