import Derived.Test.YtogfjphdpconfaaGreatDoorRows
import Derived.LaidByTextLater
import Derived.SevenTiedAt
namespace Go.Proofs.YtogfjphdpconfaaGreatDoor
open Go
set_option maxRecDepth 100000
noncomputable def tl : List (String × DataW Unit) := [("unicode/utf8.acceptRanges", Rows.laid_unicode_utf8_acceptRanges), ("internal/strconv.uint64pow10", Rows.laid_internal_strconv_uint64pow10), ("math/bits.deBruijn32tab", Rows.laid_math_bits_deBruijn32tab), ("math/bits.deBruijn64tab", Rows.laid_math_bits_deBruijn64tab), ("strconv.ErrSyntax", Rows.laid_strconv_ErrSyntax), ("strconv.ErrRange", Rows.laid_strconv_ErrRange)]
def tk : List LaidKind := [.data, .data, .data, .data, .sentinel, .sentinel]
theorem t_hw : Tryz.prog.worded (varsWordLater true) = true := by kernel_rfl
theorem t_hw' : Tryz.prog.worded (varsWordLater !true) = false := by kernel_rfl
theorem t_root : Tryz.prog.worded rootWordLater = true := by kernel_rfl
theorem t_hk : tl.map (fun x => Tryz.prog.kindOfLater x.1) = tk.map some := by kernel_rfl
theorem t_hg : (Tryz.prog.funcNamed "gosem.cut.vars").isSome = true := by kernel_rfl
theorem t_hn : varsNamedLaterB Tryz.prog (varsId Tryz.prog) tl = true := by kernel_rfl
theorem t_hd : ∀ os tape, varsDone Tryz.prog 400 (varsId Tryz.prog) os tape = true := fun _ _ => by kernel_rfl
theorem t_h1 : ∀ os tape, (DataW.laidRun Tryz.prog (varsWorld Tryz.prog 400 (varsId Tryz.prog) os tape).memory 8 (tl.map (·.1))).map (·.1) = some tl := fun _ _ => by kernel_rfl
theorem t_h2 : ∀ os tape, (DataW.laidRun Tryz.prog (varsWorld Tryz.prog 400 (varsId Tryz.prog) os tape).memory 8 (tl.map (·.1))).map (fun x => decide x.2.Nodup && laidRowsB Tryz.prog (varsWorld Tryz.prog 400 (varsId Tryz.prog) os tape).memory x.2) = some true := fun _ _ => by kernel_rfl
theorem t_hp : (tl.all fun x => x.2.handleName?.isNone) = true := by kernel_rfl
end Go.Proofs.YtogfjphdpconfaaGreatDoor
