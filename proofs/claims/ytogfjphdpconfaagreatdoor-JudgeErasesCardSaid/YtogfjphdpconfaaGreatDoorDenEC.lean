import Derived.Test.YtogfjphdpconfaaGreatDoorDenJ3
import Derived.Test.YtogfjphdpconfaaGreatDoorDenEB
import Derived.Lay
import Derived.LaidMore
import Derived.Stop.Joined
namespace Go.Proofs.YtogfjphdpconfaaGreatDoor
open Go Go.Den Go.ChangeShapes Go.WideShapes Go.ChangeAt Go.RowKit
set_option maxRecDepth 100000
theorem Tryz.own : ownKnob Tryz.prog.godebug = none := by kernel_rfl
theorem erases_fits : ∀ t ∈ Tryz.f3.params.toList, Tryz.prog.readableRec t = true ∧ t < Tryz.prog.types.size ∧ plainTy Tryz.prog 4 t = true := by
  rw [Tryz.params3]
  intro t ht
  simp only [List.mem_cons, List.not_mem_nil, or_false] at ht
  subst ht
  exact ⟨by kernel_rfl, by rw [show Tryz.prog.types.size = 699 by kernel_rfl]; decide, by kernel_rfl⟩
theorem erases_lifted (os : Os) (started : os.Started) (H : Type) (enc : TypeId × Value → H) :
    ReturnsInHanded {} Tryz.checked os 3 .any (fun w args => (Rows.judgeErasesSpec.pre enc Tryz.prog Tryz.f3 Rows.judgeErasesRow.domain false w args ∧ laidMetH Tryz.prog Rows.judgeErasesRow.laid w) ∧ sizedMet enc Tryz.prog Tryz.f3 (OpenSpec.ofChange Rows.judgeErasesSpec) false w args)
      (Rows.judgeErasesSpec.post enc Tryz.prog Tryz.f3 false true false false) := by
  refine returnsInHanded_of_change_and (C := Tryz.checked) (X := fun w _ => laidMetH Tryz.prog Rows.judgeErasesRow.laid w) (fun _ _ _ hh h => h.of_heap hh) Tryz.own started (by kernel_rfl) Tryz.func3
    (ChangeSpec.witness_shaped (enc := enc) (C := Tryz.checked) (os := os) (X := fun w _ => laidMetH Tryz.prog Rows.judgeErasesRow.laid w) false (World.laidAll Tryz.prog os Rows.judgeErasesRow.laid) #[.slice none 0 0] 8 (World.laidAll_os _ _ _)
      (World.shaped_of_ZipB (by kernel_rfl) (by kernel_rfl)) (by kernel_rfl) (by kernel_rfl) (by kernel_rfl)
      (by rw [MakeChecks.laidMetH_plain _ _ _ (by kernel_rfl)]; exact laidMet_laidAll _ (by kernel_rfl) (by kernel_rfl))) ?_
  intro W base args ds gs before hval0 hW _ _ _ _
  refine law_calls (C := Cz) (n := 4) (N := 100000 + 1) (T := 4) (fun _ => rfl) (soundz _) j_laid erases_fits rfl Tryz.underlying4 rfl (fun ds hd => ?_) (fun xs hx => erases_yes xs hx) hval0 hW
  have hd' : ds.length = 1 := hd
  match ds, hd' with
  | [d], _ => rfl
theorem erases_holds : Rows.JudgeErasesSaid :=
  OpenClaim.holds_of_wide 3 Tryz.f3 rfl rfl rfl rfl rfl rfl rfl ⟨rfl, rfl, rfl, rfl, rfl⟩ rfl rfl rfl rfl rfl j_named Tryz.func3 j_facts j_inst j_wrap
    (fun os started H enc _ => erases_lifted os started H enc)
#print axioms erases_holds
end Go.Proofs.YtogfjphdpconfaaGreatDoor
