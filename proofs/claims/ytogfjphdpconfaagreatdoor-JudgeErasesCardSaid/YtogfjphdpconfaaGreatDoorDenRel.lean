/- The relation between the interpreter's values and heaps and the model's: definitions and first laws. -/
import Derived.Test.YtogfjphdpconfaaGreatDoorDenCore
import Derived.Laws.World
import Derived.Laws.Cells
namespace Go.Den
open Go

theorem natBeq (a b : Nat) : Nat.beq a b = decide (a = b) := by
  cases h : Nat.beq a b
  · simp [Nat.ne_of_beq_eq_false h]
  · simp [Nat.eq_of_beq_eq_true h]
theorem natBle (a b : Nat) : Nat.ble a b = decide (a ≤ b) := by
  cases h : Nat.ble a b
  · have : ¬ a ≤ b := fun h' => by rw [Nat.ble_eq_true_of_le h'] at h; cases h
    simp [this]
  · simp [Nat.le_of_ble_eq_true h]
theorem natBlt (a b : Nat) : Nat.blt a b = decide (a < b) := by
  unfold Nat.blt; rw [natBle]; simp [Nat.lt_iff_add_one_le]

namespace Trie
variable {α : Type}
theorem get_nil (n : Nat) : (Trie.nil : Trie α).get n = none := by unfold get; rfl
theorem get_single (a : α) : ∀ (f n m : Nat), n ≤ f → (single a f n).get m = if m = n then some a else none := by
  intro f
  induction f with
  | zero =>
    intro n m h
    have : n = 0 := by omega
    subst this
    cases m <;> simp [single, get, get_nil]
  | succ f ih =>
    intro n m h
    cases n with
    | zero => cases m <;> simp [single, get, get_nil]
    | succ n =>
      cases m with
      | zero => simp only [single, natBeq]; by_cases h2 : n % 2 = 0 <;> simp [h2, get]
      | succ m =>
        simp only [single, natBeq]
        by_cases h2 : n % 2 = 0 <;> by_cases h3 : m % 2 = 0 <;> simp only [h2, h3, get, natBeq, decide_true, decide_false, cond_true, cond_false, get_nil]
        · rw [ih _ _ (by omega)]; split <;> split <;> first | rfl | omega
        · split <;> first | rfl | omega
        · split <;> first | rfl | omega
        · rw [ih _ _ (by omega)]; split <;> split <;> first | rfl | omega
theorem get_set (a : α) : ∀ (t : Trie α) (n m : Nat), (t.set a n).get m = if m = n then some a else t.get m := by
  intro t
  induction t with
  | nil => intro n m; simp only [set]; rw [get_single a n n m (Nat.le_refl _)]; simp [get_nil]
  | node v l r ihl ihr =>
    intro n m
    cases n with
    | zero => cases m <;> simp [set, get]
    | succ n =>
      cases m with
      | zero => simp only [set, natBeq]; by_cases h2 : n % 2 = 0 <;> simp [h2, get]
      | succ m =>
        simp only [set, natBeq]
        by_cases h2 : n % 2 = 0 <;> by_cases h3 : m % 2 = 0 <;> simp only [h2, h3, get, natBeq, decide_true, decide_false, cond_true, cond_false]
        · rw [ihl]; split <;> split <;> first | rfl | omega
        · split <;> first | rfl | omega
        · split <;> first | rfl | omega
        · rw [ihr]; split <;> split <;> first | rfl | omega
theorem get_del : ∀ (t : Trie α) (n m : Nat), (t.del n).get m = if m = n then none else t.get m := by
  intro t
  induction t with
  | nil => intro n m; simp [del, get_nil]
  | node v l r ihl ihr =>
    intro n m
    cases n with
    | zero => cases m <;> simp [del, get]
    | succ n =>
      cases m with
      | zero => simp only [del, natBeq]; by_cases h2 : n % 2 = 0 <;> simp [h2, get]
      | succ m =>
        simp only [del, natBeq]
        by_cases h2 : n % 2 = 0 <;> by_cases h3 : m % 2 = 0 <;> simp only [h2, h3, get, natBeq, decide_true, decide_false, cond_true, cond_false]
        · rw [ihl]; split <;> split <;> first | rfl | omega
        · split <;> first | rfl | omega
        · split <;> first | rfl | omega
        · rw [ihr]; split <;> split <;> first | rfl | omega
end Trie

theorem Heap.get_put (h : Heap) (id : Nat) (o : HObj) (j : Nat) : (h.put id o).get j = if j = id then some o else h.get j := Trie.get_set _ _ _ _
theorem Heap.next_put (h : Heap) (id : Nat) (o : HObj) : (h.put id o).next = h.next := rfl
theorem Heap.get_del (h : Heap) (id j : Nat) : (h.del id).get j = if j = id then none else h.get j := Trie.get_del _ _ _
theorem Heap.get_empty (j : Nat) : Heap.empty.get j = none := by simp [Heap.empty, Heap.get, Trie.get_nil]
theorem Heap.get_dels (l : List Nat) : ∀ (h : Heap) (j : Nat), (h.dels l).get j = if j ∈ l then none else h.get j := by
  induction l with
  | nil => intro h j; simp [Heap.dels]
  | cons i l ih => intro h j; simp only [Heap.dels, ih, Heap.get_del, List.mem_cons]; by_cases h1 : j ∈ l <;> by_cases h2 : j = i <;> simp [h1, h2]
theorem Heap.next_dels (l : List Nat) : ∀ (h : Heap), (h.dels l).next = h.next := by
  induction l with
  | nil => intro h; rfl
  | cons i l ih => intro h; simp only [Heap.dels, ih]; rfl

theorem mapO_some {α β : Type} {f : α → Option β} : ∀ {l : List α} {r : List β}, mapO f l = some r → l.length = r.length ∧ ∀ (i : Nat) (x : α), l[i]? = some x → ∃ y, r[i]? = some y ∧ f x = some y := by
  intro l
  induction l with
  | nil => intro r h; simp only [mapO, Option.some.injEq] at h; subst h; simp
  | cons a l ih =>
    intro r h
    simp only [mapO] at h
    split at h
    · rename_i y hy
      split at h
      · rename_i ys hys
        simp only [Option.some.injEq] at h
        subst h
        obtain ⟨h1, h2⟩ := ih hys
        refine ⟨by simp [h1], fun i x hi => ?_⟩
        cases i with
        | zero => simp at hi; subst hi; exact ⟨y, by simp, hy⟩
        | succ i => simp at hi; simpa using h2 i x hi
      · cases h
    · cases h

/-- Where a place of the heap lies in the model's memory: the block, the first cell, an element's cells, the block's cells. -/
structure Img where
  b : Nat
  o : Nat
  esz : Nat
  n : Nat

abbrev Mu := Nat → Option Img

/-- A value is the model's: 'bad': blocks that no frozen value lies in; 'A': the places that have ever been. -/
inductive V (bad : Nat → Prop) (w : World) (μ : Mu) : (Nat → Prop) → AVal → Value → Prop
  | bool (A : Nat → Prop) (b : Bool) : V bad w μ A (.bool b) (.bool b)
  | int (A : Nat → Prop) (k : IntKind) (n : Int) : V bad w μ A (.int k n) (.int k n)
  | str (A : Nat → Prop) (s : ByteArray) : V bad w μ A (.str s.data.toList) (.string s)
  | nilptr (A : Nat → Prop) : V bad w μ A .nilptr (.pointer none)
  | ptr (A : Nat → Prop) (id off : Nat) (a : Addr) (h : A id) (ha : ∀ im, μ id = some im → a = ⟨im.b, im.o + off, none⟩) : V bad w μ A (.ptr id off) (.pointer (some a))
  | fptr (A : Nat → Prop) (cs : List AVal) (b o : Nat) (f : Nat → Value) (hb : cs ≠ [] → ¬ bad b)
      (hc : ∀ (i : Nat) (a : AVal), cs[i]? = some a → isCell a = true ∧ w.cell? ⟨b, o + i, none⟩ = some (f i)) (hv : ∀ (i : Nat) (a : AVal), cs[i]? = some a → V bad w μ (fun _ => False) a (f i)) :
      V bad w μ A (.fptr cs) (.pointer (some ⟨b, o, none⟩))
  | nilslice (A : Nat → Prop) : V bad w μ A .nilslice (.slice none 0 0)
  | slice (A : Nat → Prop) (id off len cap : Nat) (full : Bool) (esz : Nat) (a : Addr) (c : Nat) (h : A id)
      (ha : ∀ im, μ id = some im → a = ⟨im.b, im.o + off, none⟩ ∧ (full = false → im.o + off + c * im.esz = im.n ∧ esz = im.esz))
      (hf : full = true → c = cap) (hl : len ≤ cap) (hcap : cap ≤ c) : V bad w μ A (.slice id off len cap full esz) (.slice (some a) len c)
  | list (A : Nat → Prop) (cs : List AVal) (len : Nat) (ex : Bool) (a : Addr) (c : Nat) (o : Nat) (f : Nat → Value)
      (hb : cs ≠ [] → a = ⟨a.block, o, none⟩ ∧ ¬ bad a.block)
      (hc : ∀ (i : Nat) (x : AVal), cs[i]? = some x → isCell x = true ∧ w.cell? ⟨a.block, o + i, none⟩ = some (f i)) (hv : ∀ (i : Nat) (x : AVal), cs[i]? = some x → V bad w μ (fun _ => False) x (f i))
      (he : ex = true → c = len) (hl : len ≤ c) : V bad w μ A (.list cs len ex) (.slice (some a) len c)
  | nilmap (A : Nat → Prop) : V bad w μ A .nilmap (.map none)
  | map (A : Nat → Prop) (id r : Nat) (h : A id) (hr : ∀ im, μ id = some im → im.b = r) : V bad w μ A (.map id) (.map (some r))
  | nilfunc (A : Nat → Prop) : V bad w μ A .nilfunc .nilFunc
  | func (A : Nat → Prop) (f : FuncId) (as bs : List AVal) (xs ys : Array Value) (h1 : as.length = xs.size) (h2 : bs.length = ys.size)
      (h3 : ∀ (i : Nat) (a : AVal) (x : Value), as[i]? = some a → xs[i]? = some x → V bad w μ A a x) (h4 : ∀ (i : Nat) (a : AVal) (x : Value), bs[i]? = some a → ys[i]? = some x → V bad w μ A a x) :
      V bad w μ A (.func f as bs) (.func (.func f) xs ys)
  | iface (A : Nat → Prop) (t : TypeId) (a : AVal) (x : Value) (h : V bad w μ A a x) : V bad w μ A (.iface t a) (.iface t x)
  | niliface (A : Nat → Prop) : V bad w μ A .niliface .nilIface
  | agg (A : Nat → Prop) (cs : List AVal) (xs : Array Value) (h1 : cs.length = xs.size) (h2 : ∀ a ∈ cs, isCell a = true)
      (h3 : ∀ (i : Nat) (a : AVal) (x : Value), cs[i]? = some a → xs[i]? = some x → V bad w μ A a x) : V bad w μ A (.agg cs) (.agg xs)
  | tuple (A : Nat → Prop) (cs : List AVal) (xs : Array Value) (h1 : cs.length = xs.size)
      (h3 : ∀ (i : Nat) (a : AVal) (x : Value), cs[i]? = some a → xs[i]? = some x → V bad w μ A a x) : V bad w μ A (.tuple cs) (.tuple xs)

/-- Values one by one. -/
def VL (bad : Nat → Prop) (w : World) (μ : Mu) (A : Nat → Prop) (as : List AVal) (xs : List Value) : Prop :=
  as.length = xs.length ∧ ∀ (i : Nat) (a : AVal) (x : Value), as[i]? = some a → xs[i]? = some x → V bad w μ A a x

theorem cell_lt {w : World} {b o : Nat} {s : Option Nat} {v : Value} (h : w.cell? ⟨b, o, s⟩ = some v) : b < w.heap.size := by
  simp only [World.cell?] at h
  by_cases hb : b < w.heap.size
  · exact hb
  · rw [Array.getElem?_eq_none (by omega)] at h; cases h

/-- What no longer may hold ahead, still does behind: other places may have come, or gone. -/
theorem V.mono {bad bad' : Nat → Prop} {w w' : World} {μ μ' : Mu} {A : Nat → Prop} {a : AVal} {x : Value} (h : V bad w μ A a x)
    (hw : ∀ b, b < w.heap.size → ¬ bad b → ¬ bad' b ∧ w'.heap[b]? = w.heap[b]?) :
    ∀ A' : Nat → Prop, (∀ id, A id → A' id ∧ (μ' id = μ id ∨ μ' id = none)) → V bad' w' μ' A' a x := by
  have cell : ∀ (b o : Nat) (v : Value), ¬ bad b → w.cell? ⟨b, o, none⟩ = some v → ¬ bad' b ∧ w'.cell? ⟨b, o, none⟩ = some v := by
    intro b o v hb hc
    have hlt : b < w.heap.size := cell_lt hc
    obtain ⟨h1, h2⟩ := hw b hlt hb
    refine ⟨h1, ?_⟩
    simp only [World.cell?] at hc ⊢
    rw [h2]; exact hc
  induction h with
  | bool A b => exact fun _ _ => .bool _ b
  | int A k n => exact fun _ _ => .int _ k n
  | str A s => exact fun _ _ => .str _ s
  | nilptr A => exact fun _ _ => .nilptr _
  | ptr A id off a h ha =>
    intro A' hA
    obtain ⟨h1, h2⟩ := hA id h
    refine .ptr _ id off a h1 fun im him => ?_
    rcases h2 with h2 | h2 <;> rw [h2] at him
    · exact ha im him
    · cases him
  | fptr A cs b o f hb hc hv ih =>
    intro A' hA
    refine .fptr _ cs b o f (fun hne => ?_) (fun i x hi => ⟨(hc i x hi).1, ?_⟩) (fun i x hi => ih i x hi _ (fun _ h => h.elim))
    · obtain ⟨c0, l, rfl⟩ := List.exists_cons_of_ne_nil hne
      exact (cell _ (o + 0) _ (hb hne) (hc 0 c0 (by simp)).2).1
    · have hne : cs ≠ [] := by rintro rfl; simp at hi
      exact (cell _ _ _ (hb hne) (hc i x hi).2).2
  | nilslice A => exact fun _ _ => .nilslice _
  | slice A id off len cap full esz a c h ha hf hl hcap =>
    intro A' hA
    obtain ⟨h1, h2⟩ := hA id h
    refine .slice _ id off len cap full esz a c h1 (fun im him => ?_) hf hl hcap
    rcases h2 with h2 | h2 <;> rw [h2] at him
    · exact ha im him
    · cases him
  | list A cs len ex a c o f hb hc hv he hl ih =>
    intro A' hA
    refine .list _ cs len ex a c o f (fun hne => ⟨(hb hne).1, ?_⟩) (fun i x hi => ⟨(hc i x hi).1, ?_⟩) (fun i x hi => ih i x hi _ (fun _ h => h.elim)) he hl
    · obtain ⟨c0, l, rfl⟩ := List.exists_cons_of_ne_nil hne
      exact (cell _ (o + 0) _ (hb hne).2 (hc 0 c0 (by simp)).2).1
    · have hne : cs ≠ [] := by rintro rfl; simp at hi
      exact (cell _ _ _ (hb hne).2 (hc i x hi).2).2
  | nilmap A => exact fun _ _ => .nilmap _
  | map A id r h hr =>
    intro A' hA
    obtain ⟨h1, h2⟩ := hA id h
    refine .map _ id r h1 fun im him => ?_
    rcases h2 with h2 | h2 <;> rw [h2] at him
    · exact hr im him
    · cases him
  | nilfunc A => exact fun _ _ => .nilfunc _
  | func A f as bs xs ys h1 h2 h3 h4 ih3 ih4 => exact fun A' hA => .func _ f as bs xs ys h1 h2 (fun i a x p q => ih3 i a x p q A' hA) (fun i a x p q => ih4 i a x p q A' hA)
  | iface A t a x h ih => exact fun A' hA => .iface _ t a x (ih A' hA)
  | niliface A => exact fun _ _ => .niliface _
  | agg A cs xs h1 h2 h3 ih => exact fun A' hA => .agg _ cs xs h1 h2 (fun i a x p q => ih i a x p q A' hA)
  | tuple A cs xs h1 h3 ih => exact fun A' hA => .tuple _ cs xs h1 (fun i a x p q => ih i a x p q A' hA)
end Go.Den
