/- The orders of a region: whatever order is drawn, an operation finds what it finds in the text's order. -/
import Derived.Test.YtogfjphdpconfaaGreatDoorDenSched2
namespace Go.Den
open Go
variable {C : Cfg} {F : FuncId → List AVal → Heap → Option (AVal × Heap)}

mutual
theorem beq_eq : ∀ {a b : AVal}, beq a b = true → a = b
  | .bool a, b, h => by cases b <;> simp_all [beq]
  | .int k a, b, h => by cases b <;> simp_all [beq]
  | .str a, b, h => by cases b <;> simp_all [beq]
  | .ptr a c, b, h => by cases b <;> simp_all [beq]
  | .fptr a, b, h => by
    cases b <;> simp only [beq, Bool.false_eq_true] at h
    rw [beqL_eq h]
  | .nilptr, b, h => by cases b <;> simp_all [beq]
  | .slice a c d e f g, b, h => by cases b <;> simp_all [beq]
  | .list a c d, b, h => by
    cases b <;> simp only [beq, Bool.false_eq_true, Bool.and_eq_true, beq_iff_eq] at h
    obtain ⟨⟨h1, h2⟩, h3⟩ := h
    rw [h1, h2, beqL_eq h3]
  | .nilslice, b, h => by cases b <;> simp_all [beq]
  | .map a, b, h => by cases b <;> simp_all [beq]
  | .nilmap, b, h => by cases b <;> simp_all [beq]
  | .func f a c, b, h => by
    cases b <;> simp only [beq, Bool.false_eq_true, Bool.and_eq_true, beq_iff_eq] at h
    obtain ⟨⟨h1, h2⟩, h3⟩ := h
    rw [h1, beqL_eq h2, beqL_eq h3]
  | .nilfunc, b, h => by cases b <;> simp_all [beq]
  | .iface t a, b, h => by
    cases b <;> simp only [beq, Bool.false_eq_true, Bool.and_eq_true, beq_iff_eq] at h
    rw [h.1, beq_eq h.2]
  | .niliface, b, h => by cases b <;> simp_all [beq]
  | .agg a, b, h => by
    cases b <;> simp only [beq, Bool.false_eq_true] at h
    rw [beqL_eq h]
  | .tuple a, b, h => by
    cases b <;> simp only [beq, Bool.false_eq_true] at h
    rw [beqL_eq h]
theorem beqL_eq : ∀ {a b : List AVal}, beqL a b = true → a = b
  | [], [], _ => rfl
  | [], _ :: _, h => by simp [beqL] at h
  | _ :: _, [], h => by simp [beqL] at h
  | x :: a, y :: b, h => by
    simp only [beqL, Bool.and_eq_true] at h
    rw [beq_eq h.1, beqL_eq h.2]
end

theorem get_putA {t : Tmps} {dst : Option Tmp} {v : Option AVal} {d : Tmp} : (putA t dst v).get d = if dst = some d then some (v.getD (.tuple [])) else t.get d := by
  cases dst with
  | none => simp [putA]
  | some e =>
    cases v with
    | none =>
      simp only [putA, Trie.get_set, Option.some.injEq]
      by_cases h : d = e
      · simp [h]
      · simp [h, Ne.symm h]
    | some v =>
      simp only [putA, Trie.get_set, Option.some.injEq]
      by_cases h : d = e
      · simp [h]
      · simp [h, Ne.symm h]

section
variable {fid : FuncId} {ops : Array Oper} {re : List (Nat × Nat)} {base : Nat} {st : Nat → Tmps × Heap}

def isK (C : Cfg) (ops : Array Oper) (k : Kind) (x : Nat) : Prop := ∃ o, ops[x]? = some o ∧ kind C o = k

theorem isK_lt {k : Kind} {x : Nat} (h : isK C ops k x) : x < ops.size := (Array.getElem?_eq_some_iff.1 h.choose_spec.1).1
theorem isK_inj {k k' : Kind} {x : Nat} (h : isK C ops k x) (h' : isK C ops k' x) : k = k' := by
  obtain ⟨o, h1, h2⟩ := h; obtain ⟨o', h3, h4⟩ := h'
  rw [h1] at h3; cases h3; rw [← h2, h4]

theorem tr_tmps (T : Tr C F fid ops re base 0 [] st) {d : Tmp} : ∀ (n a : Nat), a + n ≤ ops.size → (∀ x o, a ≤ x → x < a + n → ops[x]? = some o → o.dst ≠ some d) → (st (a + n)).1.get d = (st a).1.get d := by
  intro n
  induction n with
  | zero => intro a _ _; rfl
  | succ n ih =>
    intro a hn hd
    have hlt : a + n < ops.size := by omega
    have ho : ops[a + n]? = some ops[a + n] := Array.getElem?_eq_getElem hlt
    have h1 := ih a (by omega) (fun x o h1 h2 h3 => hd x o h1 (by omega) h3)
    rw [← h1]
    rcases T.step _ _ (Nat.zero_le _) ho with ⟨_, v, h', _, he⟩ | ⟨_, he⟩
    · rw [show a + (n + 1) = a + n + 1 from rfl, he]
      simp only [get_putA, hd _ _ (by omega) (by omega) ho, if_false]
    · rw [show a + (n + 1) = a + n + 1 from rfl, he]
      simp only [get_putA, hd _ _ (by omega) (by omega) ho, if_false]

theorem tr_tmps' (T : Tr C F fid ops re base 0 [] st) {d : Tmp} {a b : Nat} (hab : a ≤ b) (hb : b ≤ ops.size) (h : ∀ x o, a ≤ x → x < b → ops[x]? = some o → o.dst ≠ some d) : (st b).1.get d = (st a).1.get d := by
  obtain ⟨n, rfl⟩ := Nat.exists_eq_add_of_le hab
  exact tr_tmps T n a hb h

/-- What one step of the text's order does to the heap. -/
theorem tr_heap1 (hF : FrF F) (T : Tr C F fid ops re base 0 [] st) {x : Nat} {o : Oper} (ho : ops[x]? = some o) :
    (kind C o = .P ∨ kind C o = .L → (st (x + 1)).2 = (st x).2) ∧
    (kind C o = .N → (st (x + 1)).2.next = (st x).2.next ∧ ∀ id, id ≠ base + x → (st (x + 1)).2.get id = (st x).2.get id) ∧
    (st x).2.next ≤ (st (x + 1)).2.next ∧
    (∀ id, id ≠ base + x → id < (st x).2.next → (st x).2.get id = none → (st (x + 1)).2.get id = none) := by
  rcases T.step _ _ (Nat.zero_le _) ho with ⟨_, v, h', hs, he⟩ | ⟨_, he⟩
  · rw [he]
    refine ⟨fun hk => ?_, fun hk => ?_, ?_, fun id hne hlt hg => ?_⟩
    · rcases hk with hk | hk <;> simp only [stepA, hk] at hs <;> split at hs <;> first | (cases hs; rfl) | cases hs
    · simp only [stepA, hk] at hs
      split at hs
      · cases hs; exact ⟨rfl, fun id hne => by rw [Heap.get_put, if_neg hne]⟩
      · cases hs
    · exact (stepA_fr hF hs).1
    · obtain ⟨hh', _, f⟩ := (stepA_fr hF hs).2 (fun j => j = id) (fun _ => none) (st x).2 ⟨fun j hj => by subst hj; exact ⟨hg, hg⟩, fun _ _ => rfl, rfl, fun j hj => hj ▸ hlt⟩ (fun e => hne e.symm)
      exact (f.out id rfl).1
  · rw [he]
    exact ⟨fun _ => rfl, fun _ => ⟨rfl, fun _ _ => rfl⟩, Nat.le_refl _, fun _ _ _ h => h⟩

structure Start (base : Nat) (n : Nat) (st : Nat → Tmps × Heap) : Prop where
  next : base + n ≤ (st 0).2.next
  none : ∀ x, (st 0).2.get (base + x) = none

theorem tr_next (hF : FrF F) (T : Tr C F fid ops re base 0 [] st) (S0 : Start base ops.size st) : ∀ k, k ≤ ops.size → base + ops.size ≤ (st k).2.next := by
  intro k
  induction k with
  | zero => intro _; exact S0.next
  | succ k ih =>
    intro hk
    exact Nat.le_trans (ih (by omega)) (tr_heap1 hF T (Array.getElem?_eq_getElem (show k < ops.size by omega))).2.2.1

/-- A place is not there before its operation. -/
theorem tr_none (hF : FrF F) (T : Tr C F fid ops re base 0 [] st) (S0 : Start base ops.size st) : ∀ k x, k ≤ x → x < ops.size → (st k).2.get (base + x) = none := by
  intro k
  induction k with
  | zero => intro x _ _; exact S0.none x
  | succ k ih =>
    intro x hk hx
    refine (tr_heap1 hF T (Array.getElem?_eq_getElem (show k < ops.size by omega))).2.2.2 _ (by omega) ?_ (ih x (by omega) hx)
    have := tr_next hF T S0 k (by omega); omega

/-- With no effect in between, a heap has the new places besides. -/
theorem tr_heap (hF : FrF F) (T : Tr C F fid ops re base 0 [] st) : ∀ (n a : Nat), a + n ≤ ops.size → (∀ x, a ≤ x → x < a + n → ¬ isK C ops .E x) →
    (st (a + n)).2.next = (st a).2.next ∧ (∀ x, a ≤ x → x < a + n → isK C ops .N x → (st (a + n)).2.get (base + x) = (st (x + 1)).2.get (base + x)) ∧
    ∀ id, (∀ x, a ≤ x → x < a + n → isK C ops .N x → id ≠ base + x) → (st (a + n)).2.get id = (st a).2.get id := by
  intro n
  induction n with
  | zero => intro a _ _; exact ⟨rfl, fun x h1 h2 => by omega, fun _ _ => rfl⟩
  | succ n ih =>
    intro a hn hE
    obtain ⟨i1, i2, i3⟩ := ih a (by omega) (fun x h1 h2 => hE x h1 (by omega))
    have hlt : a + n < ops.size := by omega
    have ho : ops[a + n]? = some ops[a + n] := Array.getElem?_eq_getElem hlt
    obtain ⟨s1, s2, _, _⟩ := tr_heap1 hF T ho
    cases hk : kind C ops[a + n]
    case E => exact absurd ⟨_, ho, hk⟩ (hE (a + n) (by omega) (by omega))
    case N =>
      obtain ⟨s3, s4⟩ := s2 hk
      refine ⟨s3.trans i1, fun x h1 h2 hx => ?_, fun id hid => ?_⟩
      · by_cases hxe : x = a + n
        · subst hxe; rfl
        · rw [show a + (n + 1) = a + n + 1 from rfl, s4 _ (by omega)]
          exact i2 x h1 (by omega) hx
      · rw [show a + (n + 1) = a + n + 1 from rfl, s4 _ (hid (a + n) (by omega) (by omega) ⟨_, ho, hk⟩)]
        exact i3 id fun x h1 h2 => hid x h1 (by omega)
    all_goals
      have hs := s1 (by simp [hk])
      refine ⟨by rw [show a + (n + 1) = a + n + 1 from rfl, hs]; exact i1, fun x h1 h2 hx => ?_, fun id hid => ?_⟩
      · by_cases hxe : x = a + n
        · subst hxe; rfl
        · rw [show a + (n + 1) = a + n + 1 from rfl, hs]
          exact i2 x h1 (by omega) hx
      · rw [show a + (n + 1) = a + n + 1 from rfl, hs]
        exact i3 id fun x h1 h2 => hid x h1 (by omega)

theorem tr_heap' (hF : FrF F) (T : Tr C F fid ops re base 0 [] st) {a b : Nat} (hab : a ≤ b) (hb : b ≤ ops.size) (hE : ∀ x, a ≤ x → x < b → ¬ isK C ops .E x) :
    (st b).2.next = (st a).2.next ∧ (∀ x, a ≤ x → x < b → isK C ops .N x → (st b).2.get (base + x) = (st (x + 1)).2.get (base + x)) ∧
    ∀ id, (∀ x, a ≤ x → x < b → isK C ops .N x → id ≠ base + x) → (st b).2.get id = (st a).2.get id := by
  obtain ⟨n, rfl⟩ := Nat.exists_eq_add_of_le hab
  exact tr_heap hF T n a hb hE

/-- What stands when the operations S have been, and of the effects those ahead of m. -/
structure Inv (C : Cfg) (ops : Array Oper) (base : Nat) (st : Nat → Tmps × Heap) (S : Nat → Prop) (m : Nat) (t : Tmps) (h : Heap) : Prop where
  t1 : ∀ x o d, S x → ops[x]? = some o → o.dst = some d → t.get d = (st (x + 1)).1.get d
  t2 : ∀ d, (∀ x o, S x → ops[x]? = some o → o.dst ≠ some d) → t.get d = (st 0).1.get d
  eff : ∀ e, isK C ops .E e → (S e ↔ e < m)
  new : ∀ x, isK C ops .N x → x < m → S x
  h1 : ∀ x, m ≤ x → isK C ops .N x → S x → h.get (base + x) = (st (x + 1)).2.get (base + x)
  h2 : ∀ id, (∀ x, m ≤ x → isK C ops .N x → S x → id ≠ base + x) → h.get id = (st m).2.get id
  next : h.next = (st m).2.next
  last : m = 0 ∨ ∃ e, m = e + 1 ∧ isK C ops .E e
  le : m ≤ ops.size

theorem inv_start : Inv C ops base st (fun _ => False) 0 (st 0).1 (st 0).2 where
  t1 _ _ _ h := h.elim
  t2 _ _ := rfl
  eff e _ := by simp
  new x _ h := by omega
  h1 _ _ _ h := h.elim
  h2 _ _ := rfl
  next := rfl
  last := .inl rfl
  le := Nat.zero_le _

variable {S : Nat → Prop} {m : Nat} {t : Tmps} {h : Heap}

/-- An operation finds its slots as in the text's order. -/
theorem inv_look (T : Tr C F fid ops re base 0 [] st) (O : OrdOk C ops.toList re) (hS : Closed ops.toList S) (I : Inv C ops base st S m t h) {i : Nat} {o : Oper} (ho : ops[i]? = some o) (hi : ¬ S i) (hS' : Closed ops.toList (fun x => S x ∨ x = i)) {d : Tmp} (hd : d ∈ looks ops.toList o) :
    t.get d = (st i).1.get d := by
  have hil : i < ops.size := (Array.getElem?_eq_some_iff.1 ho).1
  have ho' : ops.toList[i]? = some o := by simpa using ho
  by_cases hy : ∃ (y : Nat) (oy : Oper), ops[y]? = some oy ∧ oy.dst = some d
  · obtain ⟨y, oy, hoy, hdy⟩ := hy
    have hyl : y < ops.size := (Array.getElem?_eq_some_iff.1 hoy).1
    have hoy' : ops.toList[y]? = some oy := by simpa using hoy
    have uniq : ∀ x o', ops[x]? = some o' → x ≠ y → o'.dst ≠ some d := fun x o' hx hne => (O.slot x y o' oy d (by simpa using hx) hoy' hdy).1 hne
    rcases (O.slot i y o oy d ho' hoy' hdy).2 hd with ⟨h1, h2⟩ | ⟨h1, h2⟩
    · -- the writer must be ahead; is it in S? only if i's own predecessors are
      have hSy : S y := (ahead_closed hS' h2 (.inr rfl)).resolve_right (by omega)
      rw [I.t1 y oy d hSy hoy hdy]
      exact (tr_tmps' T (show y + 1 ≤ i by omega) (by omega) fun x o' hx1 hx2 hx3 => uniq x o' hx3 (by omega)).symm
    · have hSy : ¬ S y := fun hs => hi (ahead_closed hS h2 hs)
      rw [I.t2 d fun x o' hx hx2 => uniq x o' hx2 fun e => hSy (e ▸ hx)]
      exact (tr_tmps' T (Nat.zero_le i) (by omega) fun x o' hx1 hx2 hx3 => uniq x o' hx3 (by omega)).symm
  · have hn : ∀ (x : Nat) (o' : Oper), ops[x]? = some o' → o'.dst ≠ some d := fun x o' hx hd' => hy ⟨x, o', hx, hd'⟩
    rw [I.t2 d fun x o' _ hx => hn x o' hx]
    exact (tr_tmps' T (Nat.zero_le i) (by omega) fun x o' _ _ hx3 => hn x o' hx3).symm

/-- The text's heap at b, all effects of which have been, lies within the heap there is. -/
theorem inv_le (hF : FrF F) (T : Tr C F fid ops re base 0 [] st) (S0 : Start base ops.size st) (I : Inv C ops base st S m t h) {b : Nat} (hb : m ≤ b) (hbn : b ≤ ops.size)
    (hE : ∀ x, m ≤ x → x < b → ¬ isK C ops .E x) (hN : ∀ x, m ≤ x → x < b → isK C ops .N x → S x) : Le (st b).2 h := by
  intro id o hg
  obtain ⟨_, g1, g2⟩ := tr_heap' hF T hb hbn hE
  by_cases hx : ∃ x, m ≤ x ∧ x < b ∧ isK C ops .N x ∧ id = base + x
  · obtain ⟨x, x1, x2, x3, rfl⟩ := hx
    rw [g1 x x1 x2 x3] at hg
    rw [I.h1 x x1 x3 (hN x x1 x2 x3)]; exact hg
  · rw [g2 id fun x x1 x2 x3 e => hx ⟨x, x1, x2, x3, e⟩] at hg
    by_cases hy : ∃ x, m ≤ x ∧ isK C ops .N x ∧ S x ∧ id = base + x
    · obtain ⟨x, x1, x2, x3, rfl⟩ := hy
      rw [tr_none hF T S0 m x x1 (isK_lt x2)] at hg; cases hg
    · rw [I.h2 id fun x x1 x2 x3 e => hy ⟨x, x1, x2, x3, e⟩]; exact hg

/-- Where an effect is due, the heap is the text's, with new places besides. -/
theorem inv_fr (hF : FrF F) (T : Tr C F fid ops re base 0 [] st) (S0 : Start base ops.size st) (I : Inv C ops base st S m t h) {e : Nat} (he : m ≤ e) (hen : e < ops.size) (hk : isK C ops .E e)
    (hE : ∀ x, m ≤ x → x < e → ¬ isK C ops .E x) (hN : ∀ x, x < e → isK C ops .N x → S x) :
    Fr (fun id => ∃ x, e < x ∧ isK C ops .N x ∧ S x ∧ id = base + x) h.get (st e).2 h := by
  obtain ⟨g0, g1, g2⟩ := tr_heap' hF T he (by omega) hE
  refine ⟨fun id hid => ?_, fun id hid => ?_, by rw [I.next, g0], fun id hid => ?_⟩
  · obtain ⟨x, x1, x2, x3, rfl⟩ := hid
    exact ⟨tr_none hF T S0 e x (by omega) (isK_lt x2), rfl⟩
  · by_cases hx : ∃ x, m ≤ x ∧ isK C ops .N x ∧ S x ∧ id = base + x
    · obtain ⟨x, x1, x2, x3, rfl⟩ := hx
      have hxe : x < e := by
        by_cases hlt : x < e
        · exact hlt
        · by_cases heq : x = e
          · subst heq; cases isK_inj hk x2
          · exact absurd ⟨x, by omega, x2, x3, rfl⟩ hid
      rw [I.h1 x x1 x2 x3, g1 x x1 hxe x2]
    · rw [I.h2 id fun x x1 x2 x3 e => hx ⟨x, x1, x2, x3, e⟩, g2 id fun x x1 x2 x3 e' => hx ⟨x, x1, x3, hN x x2 x3, e'⟩]
  · obtain ⟨x, x1, x2, x3, rfl⟩ := hid
    have := tr_next hF T S0 e (by omega)
    have := isK_lt x2; omega

/-- A step's slots. -/
theorem inv_tmps (T : Tr C F fid ops re base 0 [] st) (O : OrdOk C ops.toList re) (I : Inv C ops base st S m t h) {i : Nat} {o : Oper} (ho : ops[i]? = some o) (hi : ¬ S i) {v : Option AVal} {h' : Heap} (hst : st (i + 1) = (putA (st i).1 o.dst v, h')) :
    (∀ x o' d, (S x ∨ x = i) → ops[x]? = some o' → o'.dst = some d → (putA t o.dst v).get d = (st (x + 1)).1.get d) ∧
    (∀ d, (∀ x o', (S x ∨ x = i) → ops[x]? = some o' → o'.dst ≠ some d) → (putA t o.dst v).get d = (st 0).1.get d) := by
  have ho' : ops.toList[i]? = some o := by simpa using ho
  refine ⟨fun x o' d hx hox hd => ?_, fun d hd => ?_⟩
  · rcases hx with hx | rfl
    · have hne : o.dst ≠ some d := (O.slot i x o o' d ho' (by simpa using hox) hd).1 fun e => hi (e ▸ hx)
      rw [get_putA, if_neg hne]
      exact I.t1 x o' d hx hox hd
    · rw [ho] at hox; cases hox
      rw [hst]; simp only [get_putA, hd, if_true]
  · rw [get_putA, if_neg (hd i o (.inr rfl) ho)]
    exact I.t2 d fun x o' hx => hd x o' (.inl hx)

end
end Go.Den
