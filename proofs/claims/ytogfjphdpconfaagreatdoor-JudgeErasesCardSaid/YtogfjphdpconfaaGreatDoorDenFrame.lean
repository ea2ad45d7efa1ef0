/- More places on the heap change nothing of what code does that does not lead to them. -/
import Derived.Test.YtogfjphdpconfaaGreatDoorDenRel
namespace Go.Den
open Go

/-- The heap h', with the places D besides, as g0 has them. -/
structure Fr (D : Nat → Prop) (g0 : Nat → Option HObj) (h h' : Heap) : Prop where
  out : ∀ id, D id → h.get id = none ∧ h'.get id = g0 id
  same : ∀ id, ¬ D id → h'.get id = h.get id
  next : h'.next = h.next
  lt : ∀ id, D id → id < h.next

variable {C : Cfg} {D : Nat → Prop} {g0 : Nat → Option HObj} {h h' hh : Heap}

theorem Fr.get (f : Fr D g0 h h') {id : Nat} {o : HObj} (hg : h.get id = some o) : h'.get id = some o := by
  rw [f.same id fun hd => by rw [(f.out id hd).1] at hg; cases hg]; exact hg
theorem Fr.notD (f : Fr D g0 h h') {id : Nat} {o : HObj} (hg : h.get id = some o) : ¬ D id := fun hd => by rw [(f.out id hd).1] at hg; cases hg
theorem Fr.put (f : Fr D g0 h h') {id : Nat} (hn : ¬ D id) (o : HObj) : Fr D g0 (h.put id o) (h'.put id o) := by
  refine ⟨fun j hj => ?_, fun j hj => ?_, f.next, f.lt⟩
  · rw [Heap.get_put, Heap.get_put, if_neg (fun e : j = id => hn (e ▸ hj)), if_neg (fun e : j = id => hn (e ▸ hj))]; exact f.out j hj
  · rw [Heap.get_put, Heap.get_put, f.same j hj]
theorem Fr.del (f : Fr D g0 h h') {id : Nat} (hn : ¬ D id) : Fr D g0 (h.del id) (h'.del id) := by
  refine ⟨fun j hj => ?_, fun j hj => ?_, f.next, f.lt⟩
  · rw [Heap.get_del, Heap.get_del, if_neg (fun e : j = id => hn (e ▸ hj)), if_neg (fun e : j = id => hn (e ▸ hj))]; exact f.out j hj
  · rw [Heap.get_del, Heap.get_del, f.same j hj]
theorem Fr.dels (f : Fr D g0 h h') {l : List Nat} (hn : ∀ i ∈ l, ¬ D i) : Fr D g0 (h.dels l) (h'.dels l) := by
  induction l generalizing h h' with
  | nil => exact f
  | cons i l ih => exact ih (f.del (hn i (by simp))) (fun j hj => hn j (by simp [hj]))

/-- What a heap leads to, a heap with more does too. -/
def Le (h h' : Heap) : Prop := ∀ id o, h.get id = some o → h'.get id = some o
theorem Fr.le (f : Fr D g0 h h') : Le h h' := fun _ _ => f.get

theorem cellsAt_le (l : Le h h') {a : AVal} {cs : List AVal} (e : cellsAt h a = some cs) : cellsAt h' a = some cs := by
  unfold cellsAt at *
  split at e
  · split at e
    · rename_i hg; rw [l _ _ hg]; exact e
    · cases e
  · exact e
  · cases e
theorem loadA_le (l : Le h h') {t : TypeId} {a v : AVal} (e : loadA C t h a = some v) : loadA C t h' a = some v := by
  unfold loadA at *
  split at e
  · rename_i hg; rw [cellsAt_le l hg]; exact e
  · cases e
theorem opL_le (l : Le h h') {o : Oper} {t : Tmps} {v : AVal} (e : opL C o t h = some v) : opL C o t h' = some v := by
  unfold opL at *
  split at e
  · split at e
    · split at e
      · cases e
      · rename_i hnt; rw [loadA_le l e]
        cases v with
        | tuple vs => exact absurd e (hnt vs)
        | _ => rfl
    · cases e
  · cases e
theorem elemsOf_le (l : Le h h') {n : Nat} {a : AVal} {r : List AVal × Nat} (e : elemsOf h n a = some r) : elemsOf h' n a = some r := by
  unfold elemsOf at *
  split at e
  · exact e
  · split at e
    · rename_i hg; rw [l _ _ hg]; exact e
    · cases e
  · exact e
  · exact e
  · cases e
theorem lenM_le (l : Le h h') {t : TypeId} {a v : AVal} (e : lenM C t h a = some v) : lenM C t h' a = some v := by
  unfold lenM at *
  split at e
  · exact e
  · split at e
    · rename_i hg; rw [l _ _ hg]; exact e
    · cases e
  · cases e

theorem mapO_imp {α β : Type} {f g : α → Option β} : ∀ {l : List α} {r : List β}, (∀ x ∈ l, ∀ y, f x = some y → g x = some y) → mapO f l = some r → mapO g l = some r := by
  intro l
  induction l with
  | nil => intro r _ e; exact e
  | cons a l ih =>
    intro r hfg e
    simp only [mapO] at e ⊢
    split at e
    · rename_i y hy
      rw [hfg a (by simp) y hy]
      split at e
      · rename_i ys hys
        simp only [ih (fun x hx => hfg x (by simp [hx])) hys]; exact e
      · cases e
    · cases e

theorem freeze_le (l : Le h h') : ∀ (n : Nat) (a v : AVal), freeze h n a = some v → freeze h' n a = some v := by
  intro n
  induction n with
  | zero => intro a v e; simp [freeze] at e
  | succ n ih =>
    intro a v e
    have im : ∀ (l : List AVal) r, mapO (freeze h n) l = some r → mapO (freeze h' n) l = some r := fun l r => mapO_imp fun x _ y => ih x y
    cases a <;> simp only [freeze] at e ⊢ <;> try exact e
    case slice id off len cap full esz =>
      split at e
      · rename_i cs _ _ hg
        rw [l _ _ hg]
        cases hb : Nat.ble (off + len * esz) cs.length
        · rw [hb] at e; cases e
        · rw [hb] at e
          simp only [cond_true] at e
          split at e
          · rename_i hm; simp only [hb, cond_true, im _ _ hm]; exact e
          · cases e
      · cases e
    case agg cs =>
      split at e
      · rename_i hm; simp only [im _ _ hm]; exact e
      · cases e
    case tuple cs =>
      split at e
      · rename_i hm; simp only [im _ _ hm]; exact e
      · cases e
    case iface t x =>
      split at e
      · rename_i hm; simp only [ih _ _ hm]; exact e
      · cases e
    case func f a b =>
      split at e
      · rename_i h1 h2; simp only [im _ _ h1, im _ _ h2]; exact e
      · cases e

theorem flatMap_congr' {α β : Type} {f g : α → List β} {l : List α} (h : ∀ x ∈ l, f x = g x) : l.flatMap f = l.flatMap g := by
  induction l with
  | nil => rfl
  | cons a l ih => simp only [List.flatMap_cons, h a (by simp), ih fun x hx => h x (by simp [hx])]

theorem reach_le (f : Fr D g0 h h') : ∀ (n : Nat) (a v : AVal), freeze h n a = some v → reach h' n a = reach h n a ∧ ∀ i ∈ reach h n a, ¬ D i := by
  intro n
  induction n with
  | zero => intro a v e; simp [freeze] at e
  | succ n ih =>
    intro a v e
    have im : ∀ (l : List AVal) r, mapO (freeze h n) l = some r → l.flatMap (reach h' n) = l.flatMap (reach h n) ∧ ∀ i ∈ l.flatMap (reach h n), ¬ D i := by
      intro l r hm
      obtain ⟨h1, h2⟩ := mapO_some hm
      have : ∀ x ∈ l, ∃ y, freeze h n x = some y := by
        intro x hx
        obtain ⟨i, hi, rfl⟩ := List.getElem_of_mem hx
        obtain ⟨y, _, hy⟩ := h2 i _ (List.getElem?_eq_getElem hi)
        exact ⟨y, hy⟩
      refine ⟨flatMap_congr' fun x hx => ?_, fun i hi => ?_⟩
      · obtain ⟨y, hy⟩ := this x hx; exact (ih x y hy).1
      · obtain ⟨x, hx, hxi⟩ := List.mem_flatMap.1 hi
        obtain ⟨y, hy⟩ := this x hx; exact (ih x y hy).2 i hxi
    cases a <;> simp only [freeze, reach] at e ⊢ <;> try (exact ⟨trivial, by simp⟩)
    case slice id off len cap full esz =>
      split at e
      · rename_i cs e' gr hg
        have hg' := f.get hg
        cases hb : Nat.ble (off + len * esz) cs.length
        · rw [hb] at e; cases e
        · rw [hb, cond_true] at e
          split at e
          · rename_i hm
            obtain ⟨p, q⟩ := im _ _ hm
            simp only [hg', hg]
            refine ⟨by rw [p], fun i hi => ?_⟩
            rcases List.mem_cons.1 hi with hi | hi
            · exact hi ▸ f.notD hg
            · exact q i hi
          · cases e
      · cases e
    case agg cs =>
      split at e
      · rename_i hm; exact im _ _ hm
      · cases e
    case tuple cs =>
      split at e
      · rename_i hm; exact im _ _ hm
      · cases e
    case iface t x =>
      split at e
      · rename_i hm; exact ih _ _ hm
      · cases e
    case func f' a b =>
      split at e
      · rename_i h1 h2
        obtain ⟨p, q⟩ := im _ _ h1
        obtain ⟨r, s⟩ := im _ _ h2
        refine ⟨by rw [p, r], fun i hi => ?_⟩
        rcases List.mem_append.1 hi with hi | hi
        · exact q i hi
        · exact s i hi
      · cases e
end Go.Den
