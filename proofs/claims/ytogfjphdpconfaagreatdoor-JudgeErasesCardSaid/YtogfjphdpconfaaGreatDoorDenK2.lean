import Derived.Test.YtogfjphdpconfaaGreatDoorProg
import Derived.Test.YtogfjphdpconfaaGreatDoorDenCfg
import Derived.Test.YtogfjphdpconfaaGreatDoorDenSound
import Derived.KernelRfl
namespace Go.Den
open Go Go.Proofs
set_option maxRecDepth 100000
theorem ksize : (cfg Tryz.prog).P.funcs.size = 714 := by kernel_rfl
theorem kc0 : checkFrom (cfg Tryz.prog) 0 36 = true := by kernel_rfl
theorem kc1 : checkFrom (cfg Tryz.prog) 36 36 = true := by kernel_rfl
theorem kc2 : checkFrom (cfg Tryz.prog) 72 36 = true := by kernel_rfl
theorem kc3 : checkFrom (cfg Tryz.prog) 108 36 = true := by kernel_rfl
theorem kc4 : checkFrom (cfg Tryz.prog) 144 36 = true := by kernel_rfl
theorem kc5 : checkFrom (cfg Tryz.prog) 180 36 = true := by kernel_rfl
theorem kc6 : checkFrom (cfg Tryz.prog) 216 36 = true := by kernel_rfl
theorem kc7 : checkFrom (cfg Tryz.prog) 252 36 = true := by kernel_rfl
theorem kc8 : checkFrom (cfg Tryz.prog) 288 36 = true := by kernel_rfl
theorem kc9 : checkFrom (cfg Tryz.prog) 324 36 = true := by kernel_rfl
theorem kc10 : checkFrom (cfg Tryz.prog) 360 36 = true := by kernel_rfl
theorem kc11 : checkFrom (cfg Tryz.prog) 396 36 = true := by kernel_rfl
theorem kc12 : checkFrom (cfg Tryz.prog) 432 36 = true := by kernel_rfl
theorem kc13 : checkFrom (cfg Tryz.prog) 468 36 = true := by kernel_rfl
theorem kc14 : checkFrom (cfg Tryz.prog) 504 36 = true := by kernel_rfl
theorem kc15 : checkFrom (cfg Tryz.prog) 540 36 = true := by kernel_rfl
theorem kc16 : checkFrom (cfg Tryz.prog) 576 36 = true := by kernel_rfl
theorem kc17 : checkFrom (cfg Tryz.prog) 612 36 = true := by kernel_rfl
theorem kc18 : checkFrom (cfg Tryz.prog) 648 36 = true := by kernel_rfl
theorem kc19 : checkFrom (cfg Tryz.prog) 684 30 = true := by kernel_rfl
theorem kcheck : ∀ f, f < (cfg Tryz.prog).P.funcs.size → (cfg Tryz.prog).ok f = true → fnOk (cfg Tryz.prog) f = true := by
  intro f hf hok
  rw [ksize] at hf
  by_cases h0 : f < 36
  · exact checkFrom_spec _ _ kc0 f (by omega) (by omega) hok
  by_cases h1 : f < 72
  · exact checkFrom_spec _ _ kc1 f (by omega) (by omega) hok
  by_cases h2 : f < 108
  · exact checkFrom_spec _ _ kc2 f (by omega) (by omega) hok
  by_cases h3 : f < 144
  · exact checkFrom_spec _ _ kc3 f (by omega) (by omega) hok
  by_cases h4 : f < 180
  · exact checkFrom_spec _ _ kc4 f (by omega) (by omega) hok
  by_cases h5 : f < 216
  · exact checkFrom_spec _ _ kc5 f (by omega) (by omega) hok
  by_cases h6 : f < 252
  · exact checkFrom_spec _ _ kc6 f (by omega) (by omega) hok
  by_cases h7 : f < 288
  · exact checkFrom_spec _ _ kc7 f (by omega) (by omega) hok
  by_cases h8 : f < 324
  · exact checkFrom_spec _ _ kc8 f (by omega) (by omega) hok
  by_cases h9 : f < 360
  · exact checkFrom_spec _ _ kc9 f (by omega) (by omega) hok
  by_cases h10 : f < 396
  · exact checkFrom_spec _ _ kc10 f (by omega) (by omega) hok
  by_cases h11 : f < 432
  · exact checkFrom_spec _ _ kc11 f (by omega) (by omega) hok
  by_cases h12 : f < 468
  · exact checkFrom_spec _ _ kc12 f (by omega) (by omega) hok
  by_cases h13 : f < 504
  · exact checkFrom_spec _ _ kc13 f (by omega) (by omega) hok
  by_cases h14 : f < 540
  · exact checkFrom_spec _ _ kc14 f (by omega) (by omega) hok
  by_cases h15 : f < 576
  · exact checkFrom_spec _ _ kc15 f (by omega) (by omega) hok
  by_cases h16 : f < 612
  · exact checkFrom_spec _ _ kc16 f (by omega) (by omega) hok
  by_cases h17 : f < 648
  · exact checkFrom_spec _ _ kc17 f (by omega) (by omega) hok
  by_cases h18 : f < 684
  · exact checkFrom_spec _ _ kc18 f (by omega) (by omega) hok
  exact checkFrom_spec _ _ kc19 f (by omega) (by omega) hok
end Go.Den
