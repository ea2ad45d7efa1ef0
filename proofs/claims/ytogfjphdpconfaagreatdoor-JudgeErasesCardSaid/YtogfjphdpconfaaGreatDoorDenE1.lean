import Derived.Test.YtogfjphdpconfaaGreatDoorProg
import Derived.Test.YtogfjphdpconfaaGreatDoorDenCfg
import Derived.Test.YtogfjphdpconfaaGreatDoorDenSound
import Derived.KernelRfl
namespace Go.Den
open Go Go.Proofs

def theLoop : Code → Option Code
  | .loop c => some c
  | .seq a b => match theLoop a with
    | some c => some c
    | none => theLoop b
  | .block _ c => theLoop c
  | .scope c => theLoop c
  | _ => none

noncomputable def Cz : Cfg := cfg Tryz.prog
theorem Cz_P : Cz.P = Tryz.prog := rfl
theorem u22 : Cz.P.underlying 22 = some (.slice 29) := by kernel_rfl
theorem u25 : Cz.P.underlying 25 = some (.slice 30) := by kernel_rfl
theorem u3 : Cz.P.underlying 3 = some (.int .i64) := by kernel_rfl
theorem sz29 : (Cz.P.info? 29).map (·.size) = some 3 := by kernel_rfl
noncomputable def c8 : Code := (theLoop ((Tryz.f8.body).getD .skip)).getD .skip
noncomputable def c6 : Code := (theLoop ((Tryz.f6.body).getD .skip)).getD .skip
end Go.Den
