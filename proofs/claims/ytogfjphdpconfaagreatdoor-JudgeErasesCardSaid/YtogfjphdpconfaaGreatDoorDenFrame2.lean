/- More places on the heap: effects, calls, code. -/
import Derived.Test.YtogfjphdpconfaaGreatDoorDenFrame
namespace Go.Den
open Go
variable {C : Cfg} {D : Nat → Prop} {g0 : Nat → Option HObj} {h h' hh : Heap}

/-- What a change of the heap gives, it gives where there are more places, too. -/
def FrO {α : Type} (D : Nat → Prop) (g0 : Nat → Option HObj) (hh : Option (α × Heap)) (r : Option (α × Heap)) : Prop :=
  ∀ v h', r = some (v, h') → ∃ hh', hh = some (v, hh') ∧ Fr D g0 h' hh'

theorem grownA_fr (f : Fr D g0 h hh) {nid : Nat} (hn : ¬ D nid) {i : TypeInfo} {old new : List AVal} {len n : Nat} : FrO D g0 (grownA i nid old new len n hh) (grownA i nid old new len n h) := by
  intro v h' e
  unfold grownA at *
  cases hb : (Nat.ble (len + n) maxLenN && Nat.ble ((len + n) * i.bytes) roomN)
  · rw [hb] at e; cases e
  · rw [hb, cond_true] at e; rw [cond_true]
    cases e
    exact ⟨_, rfl, f.put hn _⟩

theorem storeA_fr (f : Fr D g0 h hh) {t : TypeId} {a v : AVal} (e : storeA C t h a v = some h') : ∃ hh', storeA C t hh a v = some hh' ∧ Fr D g0 h' hh' := by
  unfold storeA at *
  split at e
  · cases e
  · split at e
    · rename_i hg
      simp only [f.get hg]
      dsimp only at e ⊢
      revert e
      generalize (Nat.beq _ _ && Nat.ble _ _) = bb
      intro e
      cases bb
      · cases e
      · rw [cond_true] at e
        cases e
        exact ⟨_, rfl, f.put (f.notD hg) _⟩
    · cases e
  · cases e

theorem convE_fr (f : Fr D g0 h hh) {nid : Nat} (hn : ¬ D nid) {s d : TypeId} {x : AVal} : FrO D g0 (convE C s d hh nid x) (convE C s d h nid x) := by
  intro v h' e
  unfold convE at *
  split at e
  · split at e
    · rename_i h1 h2 h3
      cases e
      simp only [h1, h2, f.get h3]
      exact ⟨_, rfl, f⟩
    · cases e
  · rename_i e' x' hs hd hx
    split at e
    · rename_i hu
      split at e
      · cases e
      · split at e
        · rename_i cs m hel
          simp only [elemsOf_le f.le hel]
          split at e
          · rename_i s' hb
            cases e
            exact ⟨_, by simp only [hb], f⟩
          · cases e
        · cases e
    · cases e
  · split at e
    · cases e; exact ⟨_, rfl, f.put hn _⟩
    · cases e
  · cases e

theorem appendA_fr (f : Fr D g0 h hh) {nid : Nat} (hn : ¬ D nid) {st xt : TypeId} {s x : AVal} : FrO D g0 (appendA C st xt hh nid s x) (appendA C st xt h nid s x) := by
  intro v h' e
  unfold appendA at *
  split at e
  · cases e
  · rename_i i hi
    split at e
    · cases e
    · rename_i new n hel
      simp only [elemsOf_le f.le hel]
      split at e
      · cases hb : Nat.beq n 0
        · rw [hb, cond_false] at e; rw [cond_false]; exact grownA_fr f hn v h' e
        · rw [hb, cond_true] at e; rw [cond_true]; cases e; exact ⟨_, rfl, f⟩
      · rename_i cs len ex
        cases hb : Nat.beq n 0
        · rw [hb, cond_false] at e; rw [cond_false]
          cases hb2 : (ex && Nat.beq cs.length (len * i.size))
          · rw [hb2] at e; cases e
          · rw [hb2, cond_true] at e; simp only [cond_true]; exact grownA_fr f hn v h' e
        · rw [hb, cond_true] at e; rw [cond_true]; cases e; exact ⟨_, rfl, f⟩
      · rename_i id off len cap full e1
        split at e
        · rename_i cs e2 g hg
          simp only [f.get hg]
          cases hb : Nat.ble (len + n) cap
          · rw [hb, cond_false] at e; rw [cond_false]
            cases hb2 : Nat.ble (off + len * i.size) cs.length
            · rw [hb2] at e; cases e
            · rw [hb2, cond_true] at e; simp only [cond_true]
              cases full
              · simp only [cond_false] at e ⊢
                cases hb3 : (g && Nat.beq e2 i.size)
                · rw [hb3] at e; cases e
                · rw [hb3, cond_true] at e; simp only [cond_true]
                  exact grownA_fr (f.del (f.notD hg)) hn v h' e
              · simp only [cond_true] at e ⊢; exact grownA_fr f hn v h' e
          · rw [hb, cond_true] at e; rw [cond_true]
            cases hb2 : Nat.ble (off + (len + n) * i.size) cs.length
            · rw [hb2] at e; cases e
            · rw [hb2, cond_true] at e; simp only [cond_true]
              cases e
              exact ⟨_, rfl, f.put (f.notD hg) _⟩
        · cases e
      · cases e

theorem copyA_fr (f : Fr D g0 h hh) {t : TypeId} {d s : AVal} : FrO D g0 (copyA C t hh d s) (copyA C t h d s) := by
  intro v h' e
  unfold copyA at *
  split at e
  · split at e
    · rename_i i hi
      split at e
      · cases e
      · rename_i src m hel
        simp only [elemsOf_le f.le hel]
        split at e
        · cases e; exact ⟨_, rfl, f⟩
        · rename_i id off len cap full e1
          split at e
          · rename_i cs e2 g hg
            simp only [f.get hg]
            cases hb : Nat.ble (off + Nat.min m len * i.size) cs.length
            · simp only [hb] at e; cases e
            · simp only [hb, cond_true] at e ⊢
              cases e
              exact ⟨_, rfl, f.put (f.notD hg) _⟩
          · cases e
        · cases e
    · cases e
  · cases e

theorem clearA_fr (f : Fr D g0 h hh) {t : TypeId} {d : AVal} (e : clearA C t h d = some h') : ∃ hh', clearA C t hh d = some hh' ∧ Fr D g0 h' hh' := by
  unfold clearA at *
  split at e
  · split at e
    · rename_i i z hi hz
      split at e
      · cases e; exact ⟨_, rfl, f⟩
      · rename_i id off len cap full e1
        split at e
        · rename_i cs e2 g hg
          simp only [f.get hg]
          cases hb : (Nat.ble (off + len * i.size) cs.length && Nat.beq (cellsOf z).length i.size)
          · rw [hb] at e; cases e
          · rw [hb, cond_true] at e; simp only [cond_true]
            cases e
            exact ⟨_, rfl, f.put (f.notD hg) _⟩
        · cases e
      · cases e; exact ⟨_, rfl, f⟩
      · cases e
    · cases e
  · cases e

theorem builtinE_fr (f : Fr D g0 h hh) {nid : Nat} (hn : ¬ D nid) {b : Builtin} {ts : List TypeId} {args : List AVal} : FrO D g0 (builtinE C b ts hh nid args) (builtinE C b ts h nid args) := by
  intro v h' e
  unfold builtinE at *
  split at e
  · split at e
    · rename_i hl
      cases e
      simp only [lenM_le f.le hl]
      exact ⟨_, rfl, f⟩
    · cases e
  · exact appendA_fr f hn v h' e
  · exact copyA_fr f v h' e
  · split at e
    · rename_i hc
      cases e
      obtain ⟨hh', h1, h2⟩ := clearA_fr f hc
      simp only [h1]
      exact ⟨_, rfl, h2⟩
    · cases e
  · cases e

theorem opE_fr (f : Fr D g0 h hh) {nid : Nat} (hn : ¬ D nid) {o : Oper} {t : Tmps} : FrO D g0 (opE C o t hh nid) (opE C o t h nid) := by
  intro v h' e
  unfold opE at *
  split at e
  · split at e
    · split at e
      · rename_i hs
        cases e
        obtain ⟨hh', h1, h2⟩ := storeA_fr f hs
        simp only [h1]
        exact ⟨_, rfl, h2⟩
      · cases e
    · cases e
  · split at e
    · exact convE_fr f hn v h' e
    · cases e
  · split at e
    · split at e
      · exact builtinE_fr f hn v h' e
      · cases e
    · cases e
  · cases e

def FrF (F : FuncId → List AVal → Heap → Option (AVal × Heap)) : Prop :=
  ∀ f args h v h', F f args h = some (v, h') → h.next ≤ h'.next ∧ ∀ D g0 hh, Fr D g0 h hh → ∃ hh', F f args hh = some (v, hh') ∧ Fr D g0 h' hh'

variable {F : FuncId → List AVal → Heap → Option (AVal × Heap)}

theorem doCall_fr (hF : FrF F) {caller f : FuncId} {args : List AVal} {v : AVal} (e : doCall C F caller f args h = some (v, h')) :
    h.next ≤ h'.next ∧ ∀ D g0 hh, Fr D g0 h hh → ∃ hh', doCall C F caller f args hh = some (v, hh') ∧ Fr D g0 h' hh' := by
  cases hm : C.mode caller f
  · simp only [doCall, hm] at e ⊢
    exact hF _ _ _ _ _ e
  · simp only [doCall, hm] at e ⊢
    split at e
    · cases e
    · rename_i args' ha
      split at e
      · cases e
      · rename_i r hc hr
        split at e
        · cases e
        · rename_i r' hfr
          simp only [Option.some.injEq, Prod.mk.injEq] at e
          obtain ⟨rfl, rfl⟩ := e
          refine ⟨?_, fun D g0 hh f => ?_⟩
          · cases flat r' <;> simp [Heap.next_dels]
          · have ha' : mapO (freeze hh 8) args = some args' := mapO_imp (fun x _ y hy => freeze_le f.le 8 x y hy) ha
            obtain ⟨h1, h2⟩ := mapO_some ha
            have hre : args.flatMap (reach hh 8) = args.flatMap (reach h 8) := flatMap_congr' fun x hx => by
              obtain ⟨i, hi, rfl⟩ := List.getElem_of_mem hx
              obtain ⟨y, _, hy⟩ := h2 i _ (List.getElem?_eq_getElem hi)
              exact (reach_le f 8 _ y hy).1
            simp only [ha', hr, hfr]
            refine ⟨_, rfl, ?_⟩
            cases flat r'
            · simp only [cond_false, hre]
              refine f.dels fun i hi => ?_
              obtain ⟨x, hx, hxi⟩ := List.mem_flatMap.1 hi
              obtain ⟨j, hj, rfl⟩ := List.getElem_of_mem hx
              obtain ⟨y, _, hy⟩ := h2 j _ (List.getElem?_eq_getElem hj)
              exact (reach_le f 8 _ y hy).2 i hxi
            · exact f

theorem grownA_next {nid : Nat} {i : TypeInfo} {old new : List AVal} {len n : Nat} {v : Option AVal} (e : grownA i nid old new len n h = some (v, h')) : h'.next = h.next := by
  unfold grownA at e
  generalize (Nat.ble _ _ && Nat.ble _ _) = bb at e
  cases bb
  · cases e
  · cases e; rfl
theorem storeA_next {t : TypeId} {a v : AVal} (e : storeA C t h a v = some h') : h'.next = h.next := by
  unfold storeA at e
  split at e
  · cases e
  · split at e
    · dsimp only at e
      generalize (Nat.beq _ _ && Nat.ble _ _) = bb at e
      cases bb
      · cases e
      · cases e; rfl
    · cases e
  · cases e
theorem convE_next {nid : Nat} {s d : TypeId} {x : AVal} {v : Option AVal} (e : convE C s d h nid x = some (v, h')) : h'.next = h.next := by
  unfold convE at e
  split at e
  · split at e
    · cases e; rfl
    · cases e
  · split at e
    · split at e
      · cases e
      · split at e
        · split at e
          · cases e; rfl
          · cases e
        · cases e
    · cases e
  · split at e
    · cases e; rfl
    · cases e
  · cases e
theorem appendA_next {nid : Nat} {st xt : TypeId} {s x : AVal} {v : Option AVal} (e : appendA C st xt h nid s x = some (v, h')) : h'.next = h.next := by
  unfold appendA at e
  split at e
  · cases e
  · split at e
    · cases e
    · split at e
      · revert e; generalize Nat.beq _ 0 = bb; intro e
        cases bb
        · exact grownA_next e
        · cases e; rfl
      · revert e; generalize Nat.beq _ 0 = bb; intro e
        cases bb
        · rw [cond_false] at e
          revert e; generalize (_ && Nat.beq _ _) = bb; intro e
          cases bb
          · cases e
          · exact grownA_next e
        · cases e; rfl
      · rename_i id off len cap full e1
        split at e
        · revert e; generalize Nat.ble _ _ = bb; generalize Nat.ble _ _ = b2; generalize Nat.ble _ _ = b3; intro e
          cases bb
          · rw [cond_false] at e
            cases b3
            · cases e
            · rw [cond_true] at e
              revert e; generalize (_ && Nat.beq _ _) = b4; intro e
              cases full
              · cases b4
                · cases e
                · exact (grownA_next e).trans rfl
              · exact grownA_next e
          · rw [cond_true] at e
            cases b2
            · cases e
            · cases e; rfl
        · cases e
      · cases e
theorem copyA_next {t : TypeId} {d s : AVal} {v : Option AVal} (e : copyA C t h d s = some (v, h')) : h'.next = h.next := by
  unfold copyA at e
  split at e
  · split at e
    · split at e
      · cases e
      · split at e
        · cases e; rfl
        · split at e
          · dsimp only at e
            revert e; generalize Nat.ble _ _ = bb; intro e
            cases bb
            · cases e
            · cases e; rfl
          · cases e
        · cases e
    · cases e
  · cases e
theorem clearA_next {t : TypeId} {d : AVal} (e : clearA C t h d = some h') : h'.next = h.next := by
  unfold clearA at e
  split at e
  · split at e
    · split at e
      · cases e; rfl
      · split at e
        · revert e; generalize (Nat.ble _ _ && Nat.beq _ _) = bb; intro e
          cases bb
          · cases e
          · cases e; rfl
        · cases e
      · cases e; rfl
      · cases e
    · cases e
  · cases e
theorem builtinE_next {nid : Nat} {b : Builtin} {ts : List TypeId} {args : List AVal} {v : Option AVal} (e : builtinE C b ts h nid args = some (v, h')) : h'.next = h.next := by
  unfold builtinE at e
  split at e
  · split at e
    · cases e; rfl
    · cases e
  · exact appendA_next e
  · exact copyA_next e
  · split at e
    · rename_i hc; cases e; exact clearA_next hc
    · cases e
  · cases e
theorem opE_next {o : Oper} {t : Tmps} {nid : Nat} {v : Option AVal} (e : opE C o t h nid = some (v, h')) : h'.next = h.next := by
  unfold opE at e
  split at e
  · split at e
    · split at e
      · rename_i hs; cases e; exact storeA_next hs
      · cases e
    · cases e
  · split at e
    · exact convE_next e
    · cases e
  · split at e
    · split at e
      · exact builtinE_next e
      · cases e
    · cases e
  · cases e

theorem stepA_fr (hF : FrF F) {caller : FuncId} {o : Oper} {t : Tmps} {nid : Nat} {v : Option AVal} (e : stepA C F caller o t h nid = some (v, h')) :
    h.next ≤ h'.next ∧ ∀ D g0 hh, Fr D g0 h hh → ¬ D nid → ∃ hh', stepA C F caller o t hh nid = some (v, hh') ∧ Fr D g0 h' hh' := by
  cases hk : kind C o
  · simp only [stepA, hk] at e ⊢
    split at e
    · rename_i hp; cases e
      exact ⟨Nat.le_refl _, fun D g0 hh f _ => ⟨_, rfl, f⟩⟩
    · cases e
  · simp only [stepA, hk] at e ⊢
    split at e
    · rename_i hp; cases e
      refine ⟨Nat.le_refl _, fun D g0 hh f _ => ?_⟩
      rw [opL_le f.le hp]
      exact ⟨_, rfl, f⟩
    · cases e
  · simp only [stepA, hk] at e ⊢
    split at e
    · rename_i hp; cases e
      exact ⟨Nat.le_refl _, fun D g0 hh f hn => ⟨_, rfl, f.put hn _⟩⟩
    · cases e
  · simp only [stepA, hk] at e ⊢
    split at e
    · split at e
      · split at e
        · split at e
          · cases e; exact ⟨Nat.le_refl _, fun D g0 hh f _ => ⟨_, rfl, f⟩⟩
          · cases e
        · split at e
          · rename_i hd
            cases e
            obtain ⟨h1, h2⟩ := doCall_fr hF hd
            refine ⟨h1, fun D g0 hh f _ => ?_⟩
            obtain ⟨hh', h3, h4⟩ := h2 D g0 hh f
            simp only [h3]
            exact ⟨_, rfl, h4⟩
          · cases e
      · cases e
    · split at e
      · split at e
        · rename_i hd
          cases e
          obtain ⟨h1, h2⟩ := doCall_fr hF hd
          refine ⟨h1, fun D g0 hh f _ => ?_⟩
          obtain ⟨hh', h3, h4⟩ := h2 D g0 hh f
          simp only [h3]
          exact ⟨_, rfl, h4⟩
        · cases e
      · cases e
    · exact ⟨Nat.le_of_eq (opE_next e).symm, fun D g0 hh f hn => opE_fr f hn _ _ e⟩
end Go.Den
