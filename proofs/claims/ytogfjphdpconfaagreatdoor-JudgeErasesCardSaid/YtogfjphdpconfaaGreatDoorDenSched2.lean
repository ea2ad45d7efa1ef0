/- The masks of a region; the run in the text's order, as a row of states. -/
import Derived.Test.YtogfjphdpconfaaGreatDoorDenSched
namespace Go.Den
open Go
variable {C : Cfg} {F : FuncId → List AVal → Heap → Option (AVal × Heap)}

theorem maskOf_spec {acc : List Nat} {o : Oper} {i : Nat} (h : (maskOf acc o).testBit i = true) : ∃ e ∈ o.after, Region.binds .any e = true ∧ (i = e.on ∨ (acc.getD e.on 0).testBit i = true) := by
  unfold maskOf at h
  have key : ∀ (l : List Edge) (s : Nat), (l.foldl (fun s e => bif Region.binds .any e then s ||| 2 ^ e.on ||| acc.getD e.on 0 else s) s).testBit i = true →
      s.testBit i = true ∨ ∃ e ∈ l, Region.binds .any e = true ∧ (i = e.on ∨ (acc.getD e.on 0).testBit i = true) := by
    intro l
    induction l with
    | nil => intro s h; exact .inl h
    | cons e l ih =>
      intro s h
      rcases ih _ h with h | ⟨e', h1, h2, h3⟩
      · dsimp only at h
        cases hb : Region.binds .any e
        · rw [hb] at h; exact .inl h
        · rw [hb, cond_true] at h
          simp only [Nat.testBit_or, Bool.or_eq_true, Nat.testBit_two_pow, decide_eq_true_eq] at h
          rcases h with (h | h) | h
          · exact .inl h
          · exact .inr ⟨e, by simp, hb, .inl h.symm⟩
          · exact .inr ⟨e, by simp, hb, .inr h⟩
      · exact .inr ⟨e', by simp [h1], h2, h3⟩
  rcases key _ _ h with h | ⟨e, h1, h2, h3⟩
  · simp at h
  · exact ⟨e, by simpa using h1, h2, h3⟩

/-- A set of operations with which all stand that stand ahead. -/
def Closed (ops : List Oper) (S : Nat → Prop) : Prop := ∀ j o, S j → ops[j]? = some o → ∀ e ∈ o.after, Region.binds .any e = true → S e.on

theorem befs_spec {ops : List Oper} {S : Nat → Prop} (hS : Closed ops S) : ∀ (l : List Oper) (acc : List Nat), (∀ k, l[k]? = ops[acc.length + k]?) →
    (∀ j i, S j → (acc.getD j 0).testBit i = true → S i) → ∀ j i, S j → ((befs l acc).getD j 0).testBit i = true → S i := by
  intro l
  induction l with
  | nil => intro acc _ hg; exact hg
  | cons o l ih =>
    intro acc hl hg
    refine ih _ (fun k => ?_) (fun j i hj hb => ?_)
    · have := hl (k + 1)
      simp only [List.getElem?_cons_succ] at this
      rw [this]; simp only [List.length_append, List.length_cons, List.length_nil]; congr 1; omega
    · by_cases hlt : j < acc.length
      · rw [List.getD_eq_getElem?_getD, List.getElem?_append_left hlt, ← List.getD_eq_getElem?_getD] at hb
        exact hg j i hj hb
      · by_cases he : j = acc.length
        · subst he
          have h1 : (maskOf acc o).testBit i = true := by simpa [List.getD_eq_getElem?_getD] using hb
          obtain ⟨e, he, hbi, h3⟩ := maskOf_spec h1
          have ho : ops[acc.length]? = some o := by have := hl 0; simpa using this.symm
          have hse := hS _ o hj ho e he hbi
          rcases h3 with rfl | h3
          · exact hse
          · exact hg _ _ hse h3
        · rw [List.getD_eq_getElem?_getD, List.getElem?_eq_none (by simp; omega)] at hb
          simp at hb

theorem ahead_closed {ops : List Oper} {S : Nat → Prop} (hS : Closed ops S) {i j : Nat} (h : ahead (befs ops []) i j = true) (hj : S j) : S i :=
  befs_spec hS ops [] (fun k => by simp) (fun j i _ hb => by simp at hb) j i hj h

/-- The check of a region's orders, read. -/
structure OrdOk (C : Cfg) (ops : List Oper) (re : List (Nat × Nat)) : Prop where
  lt : ∀ i j, j < ops.length → ahead (befs ops []) i j = true → i < j
  slot : ∀ i j a b d, ops[i]? = some a → ops[j]? = some b → b.dst = some d → (i ≠ j → a.dst ≠ some d) ∧ (d ∈ looks ops a → (j < i ∧ ahead (befs ops []) j i = true) ∨ (i < j ∧ ahead (befs ops []) i j = true))
  pair : ∀ i j a b, ops[i]? = some a → ops[j]? = some b → i < j → pairOk C re (befs ops []) i j a b = true
  still : ∀ p ∈ re, reStill ops p.1 = true
  edge : ∀ (i : Nat) (o : Oper) (e : Edge), ops[i]? = some o → e ∈ o.after → Region.binds .any e = true → e.on < i

theorem zipIdx_all {α : Type} {l : List α} {f : α × Nat → Bool} (h : l.zipIdx.all f = true) {i : Nat} {a : α} (hi : l[i]? = some a) : f (a, i) = true := by
  rw [List.all_eq_true] at h
  refine h (a, i) ?_
  have : (l.zipIdx)[i]? = some (a, i) := by simp [hi]
  exact List.mem_of_getElem? this

theorem ordOk_spec {ops : List Oper} {re : List (Nat × Nat)} (h : ordOk C ops re = true) : OrdOk C ops re := by
  simp only [ordOk, Bool.and_eq_true] at h
  obtain ⟨⟨h1, h2⟩, h3⟩ := h
  refine ⟨fun i j hj ha => ?_, fun i j a b d hi hj hd => ?_, fun i j a b hi hj hij => ?_, fun p hp => ?_, fun i o e ho he hb => ?_⟩
  · have := zipIdx_all h1 (List.getElem?_eq_getElem hj)
    simp only [natBlt, Bool.and_eq_true, decide_eq_true_eq] at this
    have hlt := this.1
    by_cases hij : i < j
    · exact hij
    · have : ((befs ops []).getD j 0).testBit i = false := Nat.testBit_lt_two_pow (Nat.lt_of_lt_of_le hlt (Nat.pow_le_pow_right (by omega) (by omega)))
      unfold ahead at ha
      rw [this] at ha; cases ha
  · have := zipIdx_all (zipIdx_all h2 hi) hj
    simp only [slotOk, hd, Bool.and_eq_true, natBeq, natBlt, Bool.or_eq_true, decide_eq_true_eq, Bool.not_eq_true', beq_eq_false_iff_ne, ne_eq, List.contains_eq_mem, decide_eq_false_iff_not] at this
    obtain ⟨⟨p, q⟩, _⟩ := this
    refine ⟨fun hij => p.resolve_left hij, fun hm => ?_⟩
    rcases q with (q | q) | q
    · exact absurd hm q
    · exact .inl q
    · exact .inr q
  · have := zipIdx_all (zipIdx_all h2 hi) hj
    simp only [Bool.and_eq_true, Bool.or_eq_true, natBlt, hij, decide_true, Bool.not_true, Bool.false_eq_true, false_or] at this
    exact this.2
  · rw [List.all_eq_true] at h3; exact h3 p hp
  · have := zipIdx_all h1 ho
    simp only [Bool.and_eq_true, List.all_eq_true] at this
    have := this.2 e (by simpa using he)
    simpa [hb, natBlt] using this

/-- The states of the run in the text's order. -/
structure Tr (C : Cfg) (F : FuncId → List AVal → Heap → Option (AVal × Heap)) (fid : FuncId) (ops : Array Oper) (re : List (Nat × Nat)) (base i0 : Nat) (past : List (Nat × Heap)) (st : Nat → Tmps × Heap) : Prop where
  step : ∀ i o, i0 ≤ i → ops[i]? = some o →
    (wantedA ops o (st i).1 = true ∧ ∃ v h', stepA C F fid o (st i).1 (st i).2 (base + i) = some (v, h') ∧ st (i + 1) = (putA (st i).1 o.dst v, h')) ∨
    (unwanted ops o (st i).1 = true ∧ st (i + 1) = (putA (st i).1 o.dst none, (st i).2))
  re1 : ∀ p ∈ re, p.1 < p.2 → i0 ≤ p.2 → p.2 < ops.size → sameLoad C ops (st (p.2 + 1)).1 (st (p.2 + 1)).2 p.1 = true
  re2 : ∀ p ∈ re, p.2 < p.1 → i0 ≤ p.1 → p.1 < ops.size → (∀ q ∈ past, q.1 = p.2 → sameLoad C ops (st (p.1 + 1)).1 q.2 p.1 = true) ∧ (i0 ≤ p.2 → sameLoad C ops (st (p.1 + 1)).1 (st p.2).2 p.1 = true)

theorem runOps_trace {ρ : Type} {fid : FuncId} {ops : Array Oper} {re : List (Nat × Nat)} {base : Nat} {k : Tmps → Heap → Option ρ} {r : ρ} :
    ∀ (l : List Oper) (i : Nat) (past : List (Nat × Heap)) (t : Tmps) (h : Heap), (∀ j, l[j]? = ops[i + j]?) → i + l.length = ops.size →
    runOps C F fid ops re base k l i past t h = some r → ∃ st, st i = (t, h) ∧ Tr C F fid ops re base i past st ∧ k (st ops.size).1 (st ops.size).2 = some r := by
  intro l
  induction l with
  | nil =>
    intro i past t h hl hn e
    refine ⟨fun _ => (t, h), rfl, ⟨fun j o hj ho => ?_, fun p _ h1 h2 h3 => ?_, fun p _ h1 h2 h3 => ?_⟩, e⟩
    · have := (Array.getElem?_eq_some_iff.1 ho).1; simp at hn; omega
    · simp at hn; omega
    · simp at hn; omega
  | cons o l ih =>
    intro i past t h hl hn e
    have ho : ops[i]? = some o := by have := hl 0; simpa using this.symm
    have hl' : ∀ j, l[j]? = ops[(i + 1) + j]? := fun j => by
      have := hl (j + 1)
      simp only [List.getElem?_cons_succ] at this
      rw [this]; congr 1; omega
    have hn' : (i + 1) + l.length = ops.size := by simp at hn; omega
    -- one step, and the rest
    have go : ∀ (t1 : Tmps) (h1 : Heap) (past1 : List (Nat × Heap)), runOps C F fid ops re base k l (i + 1) past1 t1 h1 = some r →
        ((wantedA ops o t = true ∧ ∃ v, stepA C F fid o t h (base + i) = some (v, h1) ∧ t1 = putA t o.dst v) ∨ (unwanted ops o t = true ∧ t1 = putA t o.dst none ∧ h1 = h)) →
        (re = [] ∨ (reOk C ops re i past t1 h1 = true ∧ past1 = (bif re.any (fun p => Nat.beq p.2 i) then (i, h) :: past else past))) →
        ∃ st, st i = (t, h) ∧ Tr C F fid ops re base i past st ∧ k (st ops.size).1 (st ops.size).2 = some r := by
      intro t1 h1 past1 e1 hst hre
      obtain ⟨st, s1, s2, s3⟩ := ih (i + 1) past1 t1 h1 hl' hn' e1
      refine ⟨fun j => if j ≤ i then (t, h) else st j, by simp, ⟨fun j o' hj ho' => ?_, fun p hp h1' h2 h3 => ?_, fun p hp h1' h2 h3 => ?_⟩, ?_⟩
      · by_cases hji : j = i
        · subst hji
          rw [ho] at ho'; cases ho'
          simp only [Nat.le_refl, if_true, show ¬ (j + 1 ≤ j) from by omega, if_false, s1]
          rcases hst with ⟨w1, v, w2, rfl⟩ | ⟨w1, rfl, rfl⟩
          · exact .inl ⟨w1, v, h1, w2, rfl⟩
          · exact .inr ⟨w1, rfl⟩
        · simp only [show ¬ (j ≤ i) from by omega, show ¬ (j + 1 ≤ i) from by omega, if_false]
          exact s2.step j o' (by omega) ho'
      · simp only [show ¬ (p.2 + 1 ≤ i) from by omega, if_false]
        by_cases hji : p.2 = i
        · rcases hre with rfl | ⟨hre, _⟩
          · cases hp
          · unfold reOk at hre
            rw [List.all_eq_true] at hre
            have := hre p hp
            simp only [natBeq, natBlt, hji, show p.1 < i from by omega, decide_true, Bool.and_self, cond_true] at this
            rw [hji, s1]; exact this
        · exact s2.re1 p hp h1' (by omega) h3
      · simp only [show ¬ (p.1 + 1 ≤ i) from by omega, if_false]
        by_cases hji : p.1 = i
        · rcases hre with rfl | ⟨hre, _⟩
          · cases hp
          · unfold reOk at hre
            rw [List.all_eq_true] at hre
            have := hre p hp
            simp only [natBeq, natBlt, hji, show ¬ (i < i) from by omega, decide_true, decide_false, Bool.and_false, cond_false, cond_true] at this
            rw [List.all_eq_true] at this
            refine ⟨fun q hq hqe => ?_, fun hi => by omega⟩
            have := this q hq
            simp only [hqe, decide_true, cond_true] at this
            rw [hji, s1]; exact this
        · obtain ⟨r1, r2⟩ := s2.re2 p hp h1' (by omega) h3
          rcases hre with rfl | ⟨_, hpast⟩
          · cases hp
          · refine ⟨fun q hq hqe => r1 q ?_ hqe, fun hi => ?_⟩
            · rw [hpast]; cases re.any fun p => Nat.beq p.2 i
              · exact hq
              · exact List.mem_cons_of_mem _ hq
            · by_cases h2i : p.2 = i
              · simp only [h2i, Nat.le_refl, if_true]
                refine r1 (i, h) ?_ h2i.symm
                have : re.any (fun p => Nat.beq p.2 i) = true := List.any_eq_true.2 ⟨p, hp, by rw [natBeq]; simp [h2i]⟩
                rw [hpast, this]; exact List.mem_cons_self
              · simp only [show ¬ (p.2 ≤ i) from by omega, if_false]
                exact r2 (by omega)
      · have : ¬ ops.size ≤ i := by simp at hn; omega
        simp only [this, if_false]; exact s3
    simp only [runOps] at e
    cases hw : wantedA ops o t
    · rw [hw, cond_false] at e
      cases hu : unwanted ops o t
      · rw [hu] at e; cases e
      rw [hu, cond_true] at e
      cases re with
      | nil => exact go _ _ _ e (.inr ⟨hu, rfl, rfl⟩) (.inl rfl)
      | cons p re =>
        simp only at e
        cases hr : reOk C ops (p :: re) i past (putA t o.dst none) h
        · rw [hr] at e; cases e
        · rw [hr, cond_true] at e
          exact go _ _ _ e (.inr ⟨hu, rfl, rfl⟩) (.inr ⟨hr, rfl⟩)
    · rw [hw, cond_true] at e
      split at e
      · cases e
      · rename_i v h1 hs
        cases re with
        | nil => exact go _ _ _ e (.inl ⟨hw, v, hs, rfl⟩) (.inl rfl)
        | cons p re =>
          simp only at e
          cases hr : reOk C ops (p :: re) i past (putA t o.dst v) h1
          · rw [hr] at e; cases e
          · rw [hr, cond_true] at e
            exact go _ _ _ e (.inl ⟨hw, v, hs, rfl⟩) (.inr ⟨hr, rfl⟩)
end Go.Den
