/- Proved: for every list of acts 'renlaw25.JudgeErases' returns true and leaves its argument as it was. Conditions: none beside those of the given row and card (the listed variables read as laid, which the tie proves). -/
import Derived.Test.YtogfjphdpconfaaGreatDoorDenT
import Derived.Test.YtogfjphdpconfaaGreatDoorCards
import Derived.Test.YtogfjphdpconfaaGreatDoorDenEC
import Derived.Test.YtogfjphdpconfaaGreatDoorDenVia2
namespace Go.Proofs.YtogfjphdpconfaaGreatDoor
open Go
set_option maxRecDepth 100000
theorem t_tie : Tryz.prog.laidByTextLater tl tk true := Program.laidByTextLater_by_run 400 8 t_hw t_hw' t_root t_hk t_hg t_hn t_hd t_h1 t_h2 t_hp
theorem t_pin : Tryz.pinned.checked.prog.pinnedFits "unicode/utf8.first" = true := by kernel_rfl
theorem t_noOwn : Tryz.pinned.checked.prog.headLifts.contains "ownunsafe" = false := by kernel_rfl
theorem t_fits : Tryz.pinned.checked.prog.listedFits [("unicode/utf8.first", Rows.laid_unicode_utf8_first), ("unicode/utf8.acceptRanges", Rows.laid_unicode_utf8_acceptRanges), ("internal/strconv.uint64pow10", Rows.laid_internal_strconv_uint64pow10), ("math/bits.deBruijn32tab", Rows.laid_math_bits_deBruijn32tab), ("math/bits.deBruijn64tab", Rows.laid_math_bits_deBruijn64tab), ("strconv.ErrSyntax", Rows.laid_strconv_ErrSyntax), ("strconv.ErrRange", Rows.laid_strconv_ErrRange)] = true := by
  unfold Program.listedFits
  rw [t_noOwn]
  kernel_rfl

theorem erases_tie : Rows.judgeErasesRow.laidByTextAt .later Tryz.pinned [.pinned, .data, .data, .data, .data, .sentinel, .sentinel] true :=
  OpenClaim.laidByTextAt_pinned rfl rfl t_tie rfl rfl rfl rfl (fun y hy _e => by
    simp only [Rows.judgeErasesRow, List.zip_cons_cons, List.zip_nil_right, List.mem_cons, List.mem_nil_iff, or_false] at hy
    rcases hy with rfl | rfl | rfl | rfl | rfl | rfl | rfl
    · exact ⟨t_pin, by kernel_rfl⟩
    · cases _e
    · cases _e
    · cases _e
    · cases _e
    · cases _e
    · cases _e) t_fits
theorem erases_stand : ([22].all fun u => !Tryz.prog.wantsStandIn u) = true := by kernel_rfl
theorem erases_wf : Rows.judgeErasesRow.wfByText (OpenSpec.ofChange Rows.judgeErasesSpec) = true := by kernel_rfl
theorem erases_main : Tryz.pinned.checked.prog.mainIs = some (true, "dbb90fb4aa12d79766c7ecb5acab5c03c28db521c7babdc08c6fb21148c29d69".toList) := by kernel_rfl
theorem erases_looks : true = Tryz.pinned.checked.prog.looks [] := by kernel_rfl
theorem st0 : Go.Den.stillFrom Tryz.prog 0 60 = true := by kernel_rfl
theorem st1 : Go.Den.stillFrom Tryz.prog 60 60 = true := by kernel_rfl
theorem st2 : Go.Den.stillFrom Tryz.prog 120 60 = true := by kernel_rfl
theorem st3 : Go.Den.stillFrom Tryz.prog 180 60 = true := by kernel_rfl
theorem st4 : Go.Den.stillFrom Tryz.prog 240 60 = true := by kernel_rfl
theorem st5 : Go.Den.stillFrom Tryz.prog 300 60 = true := by kernel_rfl
theorem st6 : Go.Den.stillFrom Tryz.prog 360 60 = true := by kernel_rfl
theorem st7 : Go.Den.stillFrom Tryz.prog 420 60 = true := by kernel_rfl
theorem st8 : Go.Den.stillFrom Tryz.prog 480 60 = true := by kernel_rfl
theorem st9 : Go.Den.stillFrom Tryz.prog 540 60 = true := by kernel_rfl
theorem st10 : Go.Den.stillFrom Tryz.prog 600 60 = true := by kernel_rfl
theorem st11 : Go.Den.stillFrom Tryz.prog 660 54 = true := by kernel_rfl
theorem still : ∀ (f : Nat) fn, Tryz.prog.funcs[f]? = some fn → fn.goes = false := by
  intro f fn hf
  have hlt : f < 714 := by rw [← Go.Den.leads_size]; exact (Array.getElem?_eq_some_iff.1 hf).1
  by_cases h0 : f < 60
  · exact Go.Den.stillFrom_spec _ _ st0 f (by omega) (by omega) fn hf
  by_cases h1 : f < 120
  · exact Go.Den.stillFrom_spec _ _ st1 f (by omega) (by omega) fn hf
  by_cases h2 : f < 180
  · exact Go.Den.stillFrom_spec _ _ st2 f (by omega) (by omega) fn hf
  by_cases h3 : f < 240
  · exact Go.Den.stillFrom_spec _ _ st3 f (by omega) (by omega) fn hf
  by_cases h4 : f < 300
  · exact Go.Den.stillFrom_spec _ _ st4 f (by omega) (by omega) fn hf
  by_cases h5 : f < 360
  · exact Go.Den.stillFrom_spec _ _ st5 f (by omega) (by omega) fn hf
  by_cases h6 : f < 420
  · exact Go.Den.stillFrom_spec _ _ st6 f (by omega) (by omega) fn hf
  by_cases h7 : f < 480
  · exact Go.Den.stillFrom_spec _ _ st7 f (by omega) (by omega) fn hf
  by_cases h8 : f < 540
  · exact Go.Den.stillFrom_spec _ _ st8 f (by omega) (by omega) fn hf
  by_cases h9 : f < 600
  · exact Go.Den.stillFrom_spec _ _ st9 f (by omega) (by omega) fn hf
  by_cases h10 : f < 660
  · exact Go.Den.stillFrom_spec _ _ st10 f (by omega) (by omega) fn hf
  exact Go.Den.stillFrom_spec _ _ st11 f (by omega) (by omega) fn hf
theorem erases_goes3 : Tryz.prog.goes 3 = false := Go.Den.goes_none still 3
theorem erases_goes : false = Rows.judgeErasesRow.goesBy Tryz.pinned.checked.prog := by
  show false = Tryz.prog.goesAt .entering "rendezvous/renlaw25.JudgeErases"
  unfold Program.goesAt Program.goesFrom
  rw [j_named, Option.any_some, erases_goes3]
  rfl
/-- JudgeErases, tied. -/
theorem erases_card : Rows.JudgeErasesCardSaid :=
  Claim7.holds_tied_plain_at .later [] [.pinned, .data, .data, .data, .data, .sentinel, .sentinel] true (true, "dbb90fb4aa12d79766c7ecb5acab5c03c28db521c7babdc08c6fb21148c29d69") true
    erases_holds (fun _ h => by cases h) erases_wf (fun _ h => by cases h) erases_tie rfl ⟨rfl, rfl⟩ erases_main rfl
    (fun f fn hf hfn => by
      obtain rfl : f = 3 := Option.some.inj (j_named.symm.trans hf) |>.symm
      obtain rfl : fn = Tryz.f3 := (Option.some.inj (Tryz.func3.symm.trans hfn)).symm
      exact ⟨erases_looks, fun j t ht => by
        rw [Tryz.params3] at ht
        have hm : t ∈ [22] := by simpa using Array.mem_of_getElem? ht
        exact (show Tryz.prog.wantsStandIn t = false by simpa using List.all_eq_true.1 erases_stand t hm)⟩)
    erases_goes
#print axioms erases_card
end Go.Proofs.YtogfjphdpconfaaGreatDoor
