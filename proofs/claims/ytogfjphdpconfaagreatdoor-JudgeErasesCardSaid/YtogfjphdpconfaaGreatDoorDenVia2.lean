/- No function of the program starts a goroutine: asked in parts. -/
import GoSem.ClaimGoes
import Derived.Test.YtogfjphdpconfaaGreatDoorDenRel
namespace Go.Den
open Go
def stillFrom (P : Program) : Nat → Nat → Bool
  | _, 0 => true
  | s, n + 1 => (match P.funcs[s]? with | some fn => !fn.goes | none => true) && stillFrom P (s + 1) n
theorem stillFrom_spec {P : Program} : ∀ n s, stillFrom P s n = true → ∀ f, s ≤ f → f < s + n → ∀ fn, P.funcs[f]? = some fn → fn.goes = false := by
  intro n
  induction n with
  | zero => intro s _ f h1 h2; omega
  | succ n ih =>
    intro s h f h1 h2 fn hf
    simp only [stillFrom, Bool.and_eq_true] at h
    by_cases he : f = s
    · subst he; rw [hf] at h; simpa using h.1
    · exact ih _ h.2 f (by omega) (by omega) fn hf
theorem goes_none {P : Program} (h : ∀ (f : Nat) fn, P.funcs[f]? = some fn → fn.goes = false) (f : FuncId) : P.goes f = false := by
  unfold Program.goes
  rw [Bool.or_eq_false_iff]
  constructor
  · rw [List.any_eq_false]
    intro g _
    cases hg : P.funcs[g]? with
    | none => simp
    | some fn => simp [h g fn hg]
  · rw [Bool.and_eq_false_iff]
    right
    rw [Array.any_eq_false]
    intro i hi
    have := h i P.funcs[i] (Array.getElem?_eq_getElem hi)
    simp [this]
end Go.Den
