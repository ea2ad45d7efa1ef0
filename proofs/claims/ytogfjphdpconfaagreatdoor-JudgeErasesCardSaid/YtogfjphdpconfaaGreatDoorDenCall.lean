/- Calls: what is frozen lies where it lay; a call on a heap of its own. -/
import Derived.Test.YtogfjphdpconfaaGreatDoorDenOpE4
import Derived.Test.YtogfjphdpconfaaGreatDoorDenSched4
namespace Go.Den
open Go
variable {C : Cfg} {K A : Nat → Prop} {μ : Mu} {w : World} {nx : Nat}

theorem freeze_cell {h : Heap} {n : Nat} {a v : AVal} (e : freeze h n a = some v) (hc : isCell a = true) : isCell v = true := by
  cases n with
  | zero => simp [freeze] at e
  | succ n =>
    cases a <;> simp only [freeze] at e
    case slice id off len cap full esz =>
      split at e
      · rename_i cs _ _ _
        cases hb : Nat.ble (off + len * esz) cs.length
        · rw [hb] at e; cases e
        · rw [hb, cond_true] at e
          split at e
          · cases e; rfl
          · cases e
      · cases e
    case iface t x =>
      split at e
      · cases e; rfl
      · cases e
    case func f x y =>
      split at e
      · cases e; rfl
      · cases e
    case agg => cases hc
    case tuple => cases hc
    all_goals first | (cases e; rfl) | cases e

/-- What is frozen: the same value, wherever its blocks are held to lie still. -/
theorem freeze_ok {h : Heap} {bad : Nat → Prop} {μ' : Mu} (hr : R K A μ h.get nx w) (hb : ∀ b, b < w.heap.size → ¬ Bad K μ b → ¬ bad b) :
    ∀ (n : Nat) (a v : AVal) (x : Value), freeze h n a = some v → (∀ id ∈ reach h n a, ∀ im, μ id = some im → ¬ bad im.b) → V (Bad K μ) w μ A a x → V bad w μ' (fun _ => False) v x := by
  intro n
  induction n with
  | zero => intro a v x e; simp [freeze] at e
  | succ n ih =>
    intro a v x e hz hv
    have mono : ∀ {a x}, V (Bad K μ) w μ (fun _ => False) a x → V bad w μ' (fun _ => False) a x := fun hv => hv.mono (fun b h1 h2 => ⟨hb b h1 h2, rfl⟩) _ (fun _ h => h.elim)
    have im : ∀ (l : List AVal) (r : List AVal) (xs : Nat → Option Value), mapO (freeze h n) l = some r → (∀ id ∈ l.flatMap (reach h n), ∀ im, μ id = some im → ¬ bad im.b) →
        (∀ (i : Nat) (a : AVal) (x : Value), l[i]? = some a → xs i = some x → V (Bad K μ) w μ A a x) →
        l.length = r.length ∧ ∀ (i : Nat) (a : AVal) (x : Value), r[i]? = some a → xs i = some x → V bad w μ' (fun _ => False) a x := by
      intro l r xs hm hz hl
      obtain ⟨m1, m2⟩ := mapO_some hm
      refine ⟨m1, fun i a x ha hx => ?_⟩
      have hlt : i < l.length := by rw [m1]; exact (List.getElem?_eq_some_iff.1 ha).1
      obtain ⟨y, hy, hf⟩ := m2 i _ (List.getElem?_eq_getElem hlt)
      rw [hy] at ha; cases ha
      exact ih _ _ _ hf (fun id hid => hz id (List.mem_flatMap.2 ⟨_, List.getElem_mem hlt, hid⟩)) (hl i _ _ (List.getElem?_eq_getElem hlt) hx)
    cases hv with
    | bool _ b => simp only [freeze] at e; cases e; exact .bool _ _
    | int _ k i => simp only [freeze] at e; cases e; exact .int _ _ _
    | str _ s => simp only [freeze] at e; cases e; exact .str _ _
    | nilptr => simp only [freeze] at e; cases e; exact .nilptr _
    | ptr _ id off a g1 g2 => simp only [freeze] at e; cases e
    | fptr _ cs b o f g1 g2 g3 =>
      simp only [freeze] at e; cases e
      exact mono (.fptr _ cs b o f g1 g2 g3)
    | nilslice => simp only [freeze] at e; cases e; exact .nilslice _
    | list _ cs len ex a c o f g1 g2 g3 g4 g5 =>
      simp only [freeze] at e; cases e
      exact mono (.list _ cs len ex a c o f g1 g2 g3 g4 g5)
    | nilmap => simp only [freeze] at e; cases e; exact .nilmap _
    | map _ id r g1 g2 => simp only [freeze] at e; cases e
    | nilfunc => simp only [freeze] at e; cases e; exact .nilfunc _
    | niliface => simp only [freeze] at e; cases e; exact .niliface _
    | slice _ id off len cap full esz a c g1 g2 g3 g4 g5 =>
      simp only [freeze, reach] at e hz
      split at e
      · rename_i cs e' gr hg
        rw [hg] at hz
        simp only at hz
        cases hble : Nat.ble (off + len * esz) cs.length
        · rw [hble] at e; cases e
        · rw [hble, cond_true] at e
          rw [natBle, decide_eq_true_eq] at hble
          split at e
          · rename_i cs' hm
            cases e
            obtain ⟨im0, him⟩ := img_of hr hg
            obtain ⟨xs, T, lo, hi, k1, k2, k3, k4, k5, k6⟩ := hr.arr id im0 cs e' gr him hg
            obtain ⟨rfl, _⟩ := g2 im0 him
            obtain ⟨l1, l2⟩ := im _ cs' (fun i => xs[im0.o + off + i]?) hm (fun j hj => hz j (by simp [hj])) (fun i a x ha hx => by
              rw [List.getElem?_take] at ha
              split at ha
              · rw [List.getElem?_drop] at ha
                obtain ⟨_, y, q1, q2⟩ := k6 _ _ ha
                rw [Nat.add_assoc] at hx
                rw [q1] at hx; cases hx
                exact q2
              · cases ha)
            have hcell : ∀ (i : Nat) (a : AVal), cs'[i]? = some a → isCell a = true ∧ xs[im0.o + off + i]? = some (xs[im0.o + off + i]!) := by
              intro i a ha
              have hlt : i < ((cs.drop off).take (len * esz)).length := by rw [l1]; exact (List.getElem?_eq_some_iff.1 ha).1
              obtain ⟨y, hy, hf⟩ := (mapO_some hm).2 i _ (List.getElem?_eq_getElem hlt)
              rw [hy] at ha; cases ha
              have hlt2 := hlt
              simp only [List.length_take, List.length_drop] at hlt2
              have hcs : cs[off + i]? = some ((cs.drop off).take (len * esz))[i] := by
                simp only [List.getElem_take, List.getElem_drop]
                rw [List.getElem?_eq_getElem]
              refine ⟨freeze_cell hf (k6 _ _ hcs).1, ?_⟩
              have : im0.o + off + i < xs.size := by omega
              rw [getElem!_pos xs _ this, Array.getElem?_eq_getElem this]
            refine .list _ cs' len _ ⟨im0.b, im0.o + off, none⟩ c (im0.o + off) (fun i => xs[im0.o + off + i]!) (fun _ => ⟨rfl, hz id (by simp) im0 him⟩) (fun i a ha => ⟨(hcell i a ha).1, ?_⟩) (fun i a ha => l2 i a _ ha (hcell i a ha).2) (fun hx => ?_) (by omega)
            · rw [cell_of_heap k1]; exact (hcell i a ha).2
            · simp only [Bool.and_eq_true, natBeq, decide_eq_true_eq] at hx
              rw [g3 hx.1, hx.2]
          · cases e
      · cases e
    | func _ f as bs xs ys g1 g2 g3 g4 =>
      simp only [freeze, reach] at e hz
      split at e
      · rename_i as' bs' h1 h2
        cases e
        obtain ⟨p1, p2⟩ := im as as' (fun i => xs[i]?) h1 (fun id hid => hz id (List.mem_append_left _ hid)) g3
        obtain ⟨q1, q2⟩ := im bs bs' (fun i => ys[i]?) h2 (fun id hid => hz id (List.mem_append_right _ hid)) g4
        exact .func _ f as' bs' xs ys (p1 ▸ g1) (q1 ▸ g2) p2 q2
      · cases e
    | iface _ t a x g =>
      simp only [freeze, reach] at e hz
      split at e
      · rename_i v' h1
        cases e
        exact .iface _ t _ x (ih _ _ _ h1 hz g)
      · cases e
    | agg _ cs xs g1 g2 g3 =>
      simp only [freeze, reach] at e hz
      split at e
      · rename_i cs' h1
        cases e
        obtain ⟨p1, p2⟩ := im cs cs' (fun i => xs[i]?) h1 hz g3
        refine .agg _ cs' xs (p1 ▸ g1) (fun a ha => ?_) p2
        obtain ⟨i, hi, rfl⟩ := List.getElem_of_mem ha
        have hlt : i < cs.length := by rw [p1]; exact hi
        obtain ⟨y, hy, hf⟩ := (mapO_some h1).2 i _ (List.getElem?_eq_getElem hlt)
        rw [List.getElem?_eq_getElem hi] at hy; cases hy
        exact freeze_cell hf (g2 _ (List.getElem_mem hlt))
      · cases e
    | tuple _ cs xs g1 g3 =>
      simp only [freeze, reach] at e hz
      split at e
      · rename_i cs' h1
        cases e
        obtain ⟨p1, p2⟩ := im cs cs' (fun i => xs[i]?) h1 hz g3
        exact .tuple _ cs' xs (p1 ▸ g1) p2
      · cases e
end Go.Den
