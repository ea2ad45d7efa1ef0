import Derived.Test.YtogfjphdpconfaaGreatDoorProg
import Derived.Test.YtogfjphdpconfaaGreatDoorDenCfg
import Derived.KernelRfl
namespace Go.Den
open Go Go.Proofs
set_option maxRecDepth 100000
theorem kfirst : callP (cfg Tryz.prog) 100000 5 [] = some (.bool true) := by kernel_rfl
theorem kmixed : (cfg Tryz.prog).P.follows .mixedOrders = true := by kernel_rfl
end Go.Den
