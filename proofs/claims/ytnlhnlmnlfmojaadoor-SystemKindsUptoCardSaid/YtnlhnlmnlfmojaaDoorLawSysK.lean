/-
  Packed: The third law on systems, of the model's calls.
-/
import Derived.Test.YtnlhnlmnlfmojaaDoorLawSys
import Derived.Test.YtnlhnlmnlfmojaaDoorPkK
namespace Go.Proofs.YtnlhnlmnlfmojaaDoor.Am
open Go Go.Proofs Sys Go.Lib
set_option maxRecDepth 100000
theorem law5 {v tv : Value} {S : Sm} {tl : List Int} {by_ : Int} {h : Am.H} {k : Kv} {kp : Kp} (q : Ss h v S) (it : Ir h tv tl) (hby : inI by_) (ht : Tabs h) (hk : ∀ h', Ext h h' → k (.bool true) h') : DD 5 [v, tv, .int .i64 by_] h k kp :=
  spec5 tabs_stay cl5 cl18 shown9 right17 same15 q it hby ht hk
end Go.Proofs.YtnlhnlmnlfmojaaDoor.Am
