/- The functions that one reaches, reckoned with a table and a mask of those that were met. -/
import GoSem.ClaimFn
import Derived.Test.YtogfjphdpconfaaGreatDoorDenRel
namespace Go.Den
open Go

def tabAt (tab : Trie (List Nat)) (N f : Nat) : List Nat := bif Nat.blt f N then (match tab.get f with | some l => l | none => []) else []

def fastVia (tab : Trie (List Nat)) (N : Nat) : Nat → List Nat → Nat → List Nat → Option (List Nat)
  | _, [], _, seen => some seen.reverse
  | 0, _ :: _, _, _ => none
  | n + 1, f :: todo, m, seen => bif Nat.testBit m f then fastVia tab N n todo m seen else fastVia tab N n (tabAt tab N f ++ todo) (m ||| 2 ^ f) (f :: seen)

def beqN : List Nat → List Nat → Bool
  | [], [] => true
  | a :: x, b :: y => Nat.beq a b && beqN x y
  | _, _ => false
theorem beqN_eq : ∀ {a b : List Nat}, beqN a b = true → a = b := by
  intro a
  induction a with
  | nil => intro b h; cases b <;> simp_all [beqN]
  | cons x a ih =>
    intro b h
    cases b with
    | nil => simp [beqN] at h
    | cons y b =>
      simp only [beqN, Bool.and_eq_true, natBeq, decide_eq_true_eq] at h
      rw [h.1, ih h.2]

/-- n functions from s on lead where the table says. -/
def tabOk (P : Program) (tab : Trie (List Nat)) (N : Nat) : Nat → Nat → Bool
  | _, 0 => true
  | s, n + 1 => beqN ((P.funcs[s]?).elim [] P.leadsTo) (tabAt tab N s) && tabOk P tab N (s + 1) n
theorem tabOk_spec {P : Program} {tab : Trie (List Nat)} {N : Nat} : ∀ n s, tabOk P tab N s n = true → ∀ f, s ≤ f → f < s + n → (P.funcs[f]?).elim [] P.leadsTo = tabAt tab N f := by
  intro n
  induction n with
  | zero => intro s _ f h1 h2; omega
  | succ n ih =>
    intro s h f h1 h2
    simp only [tabOk, Bool.and_eq_true] at h
    by_cases hf : f = s
    · subst hf; exact beqN_eq h.1
    · exact ih _ h.2 f (by omega) (by omega)

theorem fastVia_ok {P : Program} {tab : Trie (List Nat)} {N : Nat} (ht : ∀ f, (P.funcs[f]?).elim [] P.leadsTo = tabAt tab N f) : ∀ (n : Nat) (todo : List Nat) (m : Nat) (seen L : List Nat),
    (∀ i, Nat.testBit m i = seen.contains i) → fastVia tab N n todo m seen = some L → P.closureVia n todo seen = L := by
  intro n
  induction n with
  | zero =>
    intro todo m seen L hm h
    cases todo with
    | nil => simp only [fastVia, Option.some.injEq] at h; simp [Program.closureVia, h]
    | cons f todo => simp [fastVia] at h
  | succ n ih =>
    intro todo m seen L hm h
    cases todo with
    | nil => simp only [fastVia, Option.some.injEq] at h; simp [Program.closureVia, h]
    | cons f todo =>
      simp only [fastVia] at h
      unfold Program.closureVia
      cases hb : Nat.testBit m f
      · rw [hb, cond_false] at h
        have h2 : seen.contains f = false := by rw [← hm, hb]
        rw [h2, ht]
        refine ih _ (m ||| 2 ^ f) _ _ (fun i => ?_) h
        rw [Nat.testBit_or, hm, Nat.testBit_two_pow, List.contains_cons, Bool.or_comm]
        congr 1
        by_cases h3 : f = i <;> simp [h3]
        exact fun h => h3 h.symm
      · rw [hb, cond_true] at h
        have h2 : seen.contains f = true := by rw [← hm, hb]
        rw [h2]
        exact ih _ m _ _ hm h

def sumTab (tab : Trie (List Nat)) (N : Nat) : Nat → Nat → Nat
  | _, 0 => 0
  | s, n + 1 => ((tabAt tab N s).length + 1) + sumTab tab N (s + 1) n
theorem sumTab_ok {P : Program} {tab : Trie (List Nat)} {N : Nat} : ∀ (l : List Func) (s : Nat), (∀ (i : Nat) fn, l[i]? = some fn → P.leadsTo fn = tabAt tab N (s + i)) → (l.map fun g => (P.leadsTo g).length + 1).sum = sumTab tab N s l.length := by
  intro l
  induction l with
  | nil => intro s _; rfl
  | cons g l ih =>
    intro s h
    have h0 := h 0 g rfl
    rw [List.map_cons, List.sum_cons, List.length_cons, sumTab, ih (s + 1) (fun i fn hi => by have := h (i + 1) fn (by simpa using hi); rw [show s + 1 + i = s + (i + 1) by omega]; exact this), h0]
    rfl

theorem closure_of {P : Program} {tab : Trie (List Nat)} {N f : Nat} {L : List Nat} (hN : P.funcs.size = N) (ht : ∀ f, f < N → (P.funcs[f]?).elim [] P.leadsTo = tabAt tab N f)
    (h : fastVia tab N (1 + sumTab tab N 0 N) [f] 0 [] = some L) : P.closure f = L := by
  have ht' : ∀ f, (P.funcs[f]?).elim [] P.leadsTo = tabAt tab N f := by
    intro f
    by_cases hf : f < N
    · exact ht f hf
    · rw [Array.getElem?_eq_none (by omega)]
      unfold tabAt
      rw [natBlt]; simp [hf]
  unfold Program.closure
  have hs := sumTab_ok (P := P) (tab := tab) (N := N) P.funcs.toList 0 (fun i fn hi => by
    have := ht' i
    rw [← Array.getElem?_toList, hi] at this
    rw [Nat.zero_add]; exact this)
  rw [hs, Array.length_toList, hN]
  exact fastVia_ok ht' _ _ 0 _ _ (fun i => by simp) h
end Go.Den
