import Derived.Test.YtogfjphdpconfaaGreatDoorDenJ
import Derived.Test.YtogfjphdpconfaaGreatDoorDenLeads
namespace Go.Proofs.YtogfjphdpconfaaGreatDoor
open Go Go.Den
set_option maxRecDepth 100000
theorem v_inPlace : Tryz.prog.inPlace 3 = Rows.judgeErasesRow.inPlace := by unfold Program.inPlace; rw [closure3]; kernel_rfl
theorem v_unfollowed : Tryz.prog.unfollowed 3 = true := by unfold Program.unfollowed; rw [closure3]; kernel_rfl
theorem v_recurses : Tryz.prog.recurses 3 = true := by unfold Program.recurses; rw [v_unfollowed]; rfl
theorem v_named : Tryz.prog.varsNamed 3 = Rows.judgeErasesRow.named := by unfold Program.varsNamed; rw [closure3]; kernel_rfl
end Go.Proofs.YtogfjphdpconfaaGreatDoor
