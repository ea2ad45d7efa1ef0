import Derived.Test.YtogfjphdpconfaaGreatDoorRows
import Derived.ClosedOfChecked
import Derived.JoinedOf
import Derived.KernelRfl
namespace Go.Proofs.YtogfjphdpconfaaGreatDoor
open Go Go.ClosedOfChecked
set_option maxRecDepth 100000
theorem j_ty : Tryz.checked.prog.types = Tryz.checked.src.types := by kernel_rfl
theorem j_rest : (Tryz.checked.prog.globals.all (fun g => decide (g.type < Tryz.checked.prog.types.size)) && Tryz.checked.prog.funcs.all (fun f => f.params.all fun t => decide (t < Tryz.checked.prog.types.size))) = true := by kernel_rfl
theorem j_all : AllSpec Tryz.checked.prog := allSpec_of Tryz.checked.wellFormed j_ty
theorem j_laid : laidOutB Tryz.checked.prog = true := laidOutB_of j_all j_rest
theorem j_maps : mapsRowed Tryz.checked.prog = true := mapsRowed_of j_all
end Go.Proofs.YtogfjphdpconfaaGreatDoor
