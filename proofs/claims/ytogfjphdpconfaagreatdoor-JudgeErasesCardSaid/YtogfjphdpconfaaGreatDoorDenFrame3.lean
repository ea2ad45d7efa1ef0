/- More places on the heap: whole functions. -/
import Derived.Test.YtogfjphdpconfaaGreatDoorDenFrame2
namespace Go.Den
open Go
variable {C : Cfg} {D : Nat → Prop} {g0 : Nat → Option HObj} {h h' hh : Heap} {F : FuncId → List AVal → Heap → Option (AVal × Heap)}

theorem sameLoad_le (l : Le h hh) {ops : Array Oper} {t : Tmps} {i : Nat} (e : sameLoad C ops t h i = true) : sameLoad C ops t hh i = true := by
  unfold sameLoad at *
  split at e
  · split at e
    · split at e
      · rename_i ht; simp only [ht]
      · rename_i ht; simp only [ht]
      · rename_i v hnt hv
        split at e
        · rename_i a ha
          split at e
          · rename_i hl
            simp only [hv, ha, loadA_le l hl]
            cases v with
            | tuple vs => cases vs with
              | nil => exact absurd rfl hnt
              | cons x y => exact e
            | _ => exact e
          · cases e
        · cases e
    · cases e
  · cases e

def PLe : List (Nat × Heap) → List (Nat × Heap) → Prop
  | [], [] => True
  | p :: l, q :: m => p.1 = q.1 ∧ Le p.2 q.2 ∧ PLe l m
  | _, _ => False

theorem reOk_le (l : Le h hh) {ops : Array Oper} {re : List (Nat × Nat)} {i : Nat} {past past' : List (Nat × Heap)} {t : Tmps} (hp : PLe past past') (e : reOk C ops re i past t h = true) : reOk C ops re i past' t hh = true := by
  unfold reOk at *
  rw [List.all_eq_true] at e ⊢
  intro p hpm
  have e1 := e p hpm
  cases hb : (Nat.beq p.2 i && Nat.blt p.1 i)
  · simp only [hb, cond_false] at e1 ⊢
    cases hb2 : Nat.beq p.1 i
    · simp only [cond_false]
    · simp only [hb2, cond_true] at e1 ⊢
      clear e
      induction past generalizing past' with
      | nil => cases past' <;> simp [PLe] at hp ⊢
      | cons q m ih =>
        cases past' with
        | nil => simp [PLe] at hp
        | cons q' m' =>
          obtain ⟨h1, h2, h3⟩ := hp
          rw [List.all_cons, Bool.and_eq_true] at e1 ⊢
          refine ⟨?_, ih h3 e1.2⟩
          rw [← h1]
          cases hb3 : Nat.beq q.1 p.2
          · rfl
          · have := e1.1
            rw [hb3] at this
            exact sameLoad_le h2 this
  · simp only [hb, cond_true] at e1 ⊢
    exact sameLoad_le l e1

theorem runOps_fr (hF : FrF F) {ρ ρ' : Type} {fid : FuncId} {ops : Array Oper} {re : List (Nat × Nat)} {base : Nat} (hD : ∀ j, ¬ D (base + j)) (k : Tmps → Heap → Option ρ) (k' : Tmps → Heap → Option ρ') (Rr : ρ → ρ' → Prop) (nx : Nat)
    (hk : ∀ t' h' hh' r, k t' h' = some r → Fr D g0 h' hh' → nx ≤ h'.next → ∃ r', k' t' hh' = some r' ∧ Rr r r') :
    ∀ (l : List Oper) (i : Nat) (past past' : List (Nat × Heap)) (t : Tmps) (h hh : Heap) (r : ρ), Fr D g0 h hh → PLe past past' → nx ≤ h.next → runOps C F fid ops re base k l i past t h = some r →
    ∃ r', runOps C F fid ops re base k' l i past' t hh = some r' ∧ Rr r r' := by
  intro l
  induction l with
  | nil => intro i past past' t h hh r f hp hn e; exact hk _ _ _ _ e f hn
  | cons o l ih =>
    intro i past past' t h hh r f hp hn e
    have hpp : ∀ b : Bool, PLe (bif b then (i, h) :: past else past) (bif b then (i, hh) :: past' else past') := by
      intro b; cases b
      · exact hp
      · exact ⟨rfl, f.le, hp⟩
    simp only [runOps] at e ⊢
    cases hw : wantedA ops o t
    · simp only [hw, cond_false] at e ⊢
      cases hu : unwanted ops o t
      · rw [hu] at e; cases e
      simp only [hu, cond_true] at e ⊢
      cases re with
      | nil => exact ih _ _ _ _ _ _ _ f hp hn e
      | cons p re =>
        simp only at e ⊢
        cases hr : reOk C ops (p :: re) i past (putA t o.dst none) h
        · rw [hr] at e; cases e
        · rw [hr, cond_true] at e
          rw [reOk_le f.le hp hr, cond_true]
          exact ih _ _ _ _ _ _ _ f (hpp _) hn e
    · simp only [hw, cond_true] at e ⊢
      split at e
      · cases e
      · rename_i v h1 hs
        obtain ⟨hle, hfr⟩ := stepA_fr hF hs
        obtain ⟨hh1, hs', f1⟩ := hfr D g0 hh f (hD i)
        simp only [hs']
        cases re with
        | nil => exact ih _ _ _ _ _ _ _ f1 hp (Nat.le_trans hn hle) e
        | cons p re =>
          simp only at e ⊢
          cases hr : reOk C ops (p :: re) i past (putA t o.dst v) h1
          · rw [hr] at e; cases e
          · rw [hr, cond_true] at e
            rw [reOk_le f1.le hp hr, cond_true]
            exact ih _ _ _ _ _ _ _ f1 (hpp _) (Nat.le_trans hn hle) e

/-- What is to hold of a way on, at heaps from nx on. -/
def KFr (D : Nat → Prop) (g0 : Nat → Option HObj) (nx : Nat) {ρ ρ' : Type} (Rr : ρ → ρ' → Prop) (k : Tmps → Heap → Option ρ) (k' : Tmps → Heap → Option ρ') : Prop :=
  ∀ t h hh r, k t h = some r → Fr D g0 h hh → nx ≤ h.next → ∃ r', k' t hh = some r' ∧ Rr r r'

theorem Fr.raise (f : Fr D g0 h hh) (n : Nat) : Fr D g0 ⟨h.next + n, h.objs⟩ ⟨hh.next + n, hh.objs⟩ :=
  ⟨f.out, f.same, by rw [show hh.next = h.next from f.next], fun id hd => Nat.lt_of_lt_of_le (f.lt id hd) (Nat.le_add_right _ _)⟩

theorem exec_fr (hF : FrF F) {lf : Nat} {fid : FuncId} {ρ ρ' : Type} {Rr : ρ → ρ' → Prop} {nx : Nat} (hD : ∀ id, D id → id < nx) :
    ∀ (c : Code) (k : Ex → Tmps → Heap → Option ρ) (k' : Ex → Tmps → Heap → Option ρ'), (∀ e, KFr D g0 nx Rr (k e) (k' e)) →
    KFr D g0 nx Rr (exec C F lf fid c k) (exec C F lf fid c k') := by
  intro c
  induction c with
  | skip => intro k k' hk; exact hk _
  | label _ => intro k k' hk; exact hk _
  | exit _ => intro k k' hk; exact hk _
  | ret => intro k k' hk; exact hk _
  | scope c ih => intro k k' hk; exact ih k k' hk
  | region id ops draw =>
    intro k k' hk t h hh r e f hn
    simp only [exec] at e ⊢
    generalize prm C fid id ops draw = ops at e ⊢
    rw [show hh.next = h.next from f.next]
    have f' := f.raise ops.toList.length
    rw [show hh.next = h.next from f.next] at f'
    exact runOps_fr hF (fun j hd => by have := f.lt _ hd; omega) _ _ Rr nx (fun t' h' hh' r => hk _ t' h' hh' r) _ _ _ _ _ _ _ _ f' (show PLe [] [] from trivial) (Nat.le_trans hn (Nat.le_add_right _ _)) e
  | seq a b iha ihb =>
    intro k k' hk
    refine iha _ _ fun e => ?_
    cases e with
    | normal => exact ihb _ _ hk
    | exit i => exact hk _
    | ret => exact hk _
  | cond x a b iha ihb =>
    intro k k' hk t h hh r e f hn
    simp only [exec] at e ⊢
    split at e
    · rename_i x' hx
      cases x'
      · exact ihb _ _ hk t h hh r e f hn
      · exact iha _ _ hk t h hh r e f hn
    · cases e
  | block id c ih =>
    intro k k' hk
    refine ih _ _ fun e => ?_
    cases e with
    | normal => exact hk _
    | ret => exact hk _
    | exit i =>
      simp only
      cases Nat.beq i id
      · exact hk _
      · exact hk _
  | loop c ih =>
    intro k k' hk
    simp only [exec]
    have : ∀ m, KFr D g0 nx Rr (loopN (ρ := ρ) (exec C F lf fid c) (fun _ _ => none) k m) (loopN (ρ := ρ') (exec C F lf fid c) (fun _ _ => none) k' m) := by
      intro m
      induction m with
      | zero => intro t h hh r e; simp [loopN] at e
      | succ m ihm =>
        refine ih _ _ fun e => ?_
        cases e with
        | normal => exact ihm
        | exit i => exact hk _
        | ret => exact hk _
    exact this lf
  | _ => intro k k' hk t h hh r e; simp [exec] at e

theorem resultsA_le (l : Le h hh) {fn : Func} {t : Tmps} {v : AVal} (e : resultsA C fn t h = some v) : resultsA C fn t hh = some v := by
  unfold resultsA at *
  split at e
  · rename_i vs hm
    have : mapO (resA C t hh) fn.results.toList = some vs := mapO_imp (fun x _ y hy => by
      cases x with
      | tmp i => exact hy
      | cell i ty =>
        simp only [resA] at hy ⊢
        split at hy
        · exact loadA_le l hy
        · cases hy) hm
    simp only [this]; exact e
  · cases e

theorem callH_fr : ∀ n, FrF (callH C n) := by
  intro n
  induction n with
  | zero => intro f args h v h' e; simp [callH] at e
  | succ n ih =>
    intro f args h v h' e
    have key : ∀ D g0 hh, Fr D g0 h hh → ∃ r', callH C (n + 1) f args hh = some r' ∧ (v = r'.1 ∧ Fr D g0 h' r'.2 ∧ h.next ≤ h'.next) := by
      intro D g0 hh f1
      simp only [callH] at e ⊢
      split at e
      · cases e
      · split at e
        · cases e
        · rename_i _ fn hfn _ c hc
          have := exec_fr (C := C) (F := callH C n) (lf := n) (fid := f) (D := D) (g0 := g0) (nx := h.next) (Rr := fun (r r' : AVal × Heap) => r.1 = r'.1 ∧ Fr D g0 r.2 r'.2 ∧ h.next ≤ r.2.next) ih f1.lt c
            (fun e t h => match e with
              | .exit _ => none
              | _ => match resultsA C fn t h with
                | some v => some (v, h)
                | none => none)
            (fun e t h => match e with
              | .exit _ => none
              | _ => match resultsA C fn t h with
                | some v => some (v, h)
                | none => none) (fun ex t1 h1 hh1 r hr f2 hn => by
                  cases ex with
                  | exit i => cases hr
                  | normal =>
                    simp only at hr ⊢
                    split at hr
                    · rename_i hv; cases hr
                      simp only [resultsA_le f2.le hv]
                      exact ⟨(_, hh1), rfl, rfl, f2, hn⟩
                    · cases hr
                  | ret =>
                    simp only at hr ⊢
                    split at hr
                    · rename_i hv; cases hr
                      simp only [resultsA_le f2.le hv]
                      exact ⟨(_, hh1), rfl, rfl, f2, hn⟩
                    · cases hr) _ _ _ _ e f1 (Nat.le_refl _)
          exact this
    refine ⟨?_, fun D g0 hh f1 => ?_⟩
    · obtain ⟨r', _, _, _, h3⟩ := key (fun _ => False) (fun _ => none) h ⟨fun _ hd => hd.elim, fun _ _ => rfl, rfl, fun _ hd => hd.elim⟩
      exact h3
    · obtain ⟨⟨v', hh'⟩, h1, h2, h3, _⟩ := key D g0 hh f1
      exact ⟨hh', by rw [h1, h2], h3⟩
end Go.Den
