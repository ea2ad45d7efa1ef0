import Derived.Test.YtogfjphdpconfaaGreatDoorDenJ2
namespace Go.Proofs.YtogfjphdpconfaaGreatDoor
open Go Go.Den
set_option maxRecDepth 100000
theorem j_facts : joinedFacts Tryz.prog 3 Tryz.f3 Rows.judgeErasesSpec Rows.judgeErasesRow = true := by
  have h1 : laidOutB Tryz.prog = true := j_laid
  have h2 : mapsRowed Tryz.prog = true := j_maps
  unfold joinedFacts
  rw [h1, h2, v_inPlace, v_unfollowed, v_recurses, v_named]
  apply Eq.symm
  apply Eq.symm
  kernel_rfl
theorem j_named : Tryz.prog.funcNamed "rendezvous/renlaw25.JudgeErases" = some 3 := by kernel_rfl
theorem j_inst : Tryz.f3.isInstance Tryz.prog Rows.judgeErasesRow.origin Rows.judgeErasesRow.targs := of_decide_eq_true (by kernel_rfl)
theorem j_wrap : Tryz.f3.isWrapper Tryz.prog Rows.judgeErasesRow.wrapper Rows.judgeErasesRow.mainSum := by
  unfold Func.isWrapper; first | (rw [if_pos (by decide +kernel)]; kernel_rfl) | (rw [if_neg (by decide +kernel)]; exact ⟨rfl, rfl⟩)
end Go.Proofs.YtogfjphdpconfaaGreatDoor
