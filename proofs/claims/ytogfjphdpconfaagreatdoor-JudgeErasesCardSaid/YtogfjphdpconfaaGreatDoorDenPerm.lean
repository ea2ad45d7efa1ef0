/- A region's operations in another order: the same orders may be drawn. -/
import Derived.Test.YtogfjphdpconfaaGreatDoorDenStep
import Derived.Orders
namespace Go.Den
open Go
variable {C : Cfg} {P : Program} {ops : Array Oper} {Q : Exit → Act → World → Prop} {l : List Nat}

structure Perm (l : List Nat) (n : Nat) : Prop where
  len : l.length = n
  mem : ∀ i : Nat, i < n → l[posOf l i]? = some i
  lt : ∀ p i : Nat, l[p]? = some i → i < n
  inj : ∀ p i : Nat, l[p]? = some i → posOf l i = p

theorem posOf_mem {l : List Nat} {i : Nat} (h : i ∈ l) : l[posOf l i]? = some i := by
  unfold posOf
  have hlt : l.findIdx (Nat.beq · i) < l.length := List.findIdx_lt_length_of_exists ⟨i, h, by rw [natBeq]; simp⟩
  have := List.findIdx_getElem (w := hlt)
  rw [natBeq, decide_eq_true_eq] at this
  rw [List.getElem?_eq_getElem hlt, this]

theorem permOk_spec {n : Nat} (h : permOk l n = true) : Perm l n := by
  simp only [permOk, Bool.and_eq_true, natBeq, decide_eq_true_eq, List.contains_eq_mem] at h
  obtain ⟨⟨h1, h2⟩, h3⟩ := h
  rw [List.all_eq_true] at h2
  refine ⟨h1, fun i hi => posOf_mem (by simpa using h2 i (by simpa using hi)), fun p i hp' => ?_, fun p i hp' => ?_⟩
  · have := zipIdx_all h3 hp'
    simp only [Bool.and_eq_true, natBlt, natBeq, decide_eq_true_eq] at this
    exact this.1
  · have := zipIdx_all h3 hp'
    simp only [Bool.and_eq_true, natBlt, natBeq, decide_eq_true_eq] at this
    exact this.2

theorem relabel_get (hl : Perm l ops.size) {p i : Nat} (hp : l[p]? = some i) : (relabel l ops)[p]? = (ops[i]?).map (relabelOp l) := by
  have : ∀ (m : List Nat), (∀ i ∈ m, i < ops.size) → ∀ p : Nat, (m.filterMap fun i => (ops[i]?).map (relabelOp l))[p]? = (m[p]?).bind fun i => (ops[i]?).map (relabelOp l) := by
    intro m
    induction m with
    | nil => intro _ p; simp
    | cons a m ih =>
      intro hm p
      have hal : a < ops.size := hm a (by simp)
      have ha : ops[a]? = some ops[a] := Array.getElem?_eq_getElem hal
      rw [List.filterMap_cons, ha]
      cases p with
      | zero => simp [ha]
      | succ p => simp [ih (fun i hi => hm i (by simp [hi])) p]
  unfold relabel
  rw [List.getElem?_toArray, this l (fun i hi => by obtain ⟨q, hq, rfl⟩ := List.getElem_of_mem hi; exact hl.lt q _ (List.getElem?_eq_getElem hq)) p, hp]
  rfl

theorem relabel_size (hl : Perm l ops.size) : (relabel l ops).size = ops.size := by
  have h1 : ∀ p, p < ops.size → p < (relabel l ops).size := by
    intro p hp
    have hlt : p < l.length := by rw [hl.len]; exact hp
    have := relabel_get hl (List.getElem?_eq_getElem hlt)
    have hi := hl.lt p _ (List.getElem?_eq_getElem hlt)
    rw [Array.getElem?_eq_getElem hi] at this
    exact (Array.getElem?_eq_some_iff.1 this).1
  have h2 : (relabel l ops).size ≤ l.length := by
    unfold relabel; simp only [List.size_toArray]; exact List.length_filterMap_le _ _
  rw [hl.len] at h2
  by_cases h0 : ops.size = 0
  · omega
  · have := h1 (ops.size - 1) (by omega); omega

theorem execOp_relabel (ρ : Operand → Value) (o : Oper) : execOp ρ (relabelOp l o) = execOp ρ o := rfl

theorem wanted_relabel (hl : Perm l ops.size) (o : Oper) (xs : Array Value) (hg : ∀ j b, o.guard = some (j, b) → j < ops.size) : Region.wanted (relabelOp l o) (yielded (relabel l ops) xs) = Region.wanted o (yielded ops xs) := by
  unfold Region.wanted relabelOp
  cases h : o.guard with
  | none => rfl
  | some p =>
    obtain ⟨j, b⟩ := p
    simp only [Option.map_some]
    have hj := relabel_get hl (hl.mem j (hg j b h))
    unfold yielded
    rw [hj]
    cases ops[j]? <;> rfl

theorem wpAny_relabel (hl : Perm l ops.size) (hg : ∀ (i : Nat) (o : Oper), ops[i]? = some o → (∀ j b, o.guard = some (j, b) → j < ops.size) ∧ ∀ e ∈ o.after, e.on < ops.size) : ∀ (fuel : Nat) (listed listed' : Array Bool) (a : Act) (w : World),
    listed.size = ops.size → listed'.size = ops.size → (∀ p i : Nat, l[p]? = some i → listed'[p]? = listed[i]?) → wpAny P .any (relabel l ops) Q fuel listed' a w → wpAny P .any ops Q fuel listed a w := by
  have rdy : ∀ {listed listed' : Array Bool}, listed.size = ops.size → listed'.size = ops.size → (∀ p i : Nat, l[p]? = some i → listed'[p]? = listed[i]?) → ∀ i, i ∈ Region.ready .any ops listed → posOf l i ∈ Region.ready .any (relabel l ops) listed' := by
    intro listed listed' h1 h2 h3 i hi
    rw [mem_ready] at hi ⊢
    obtain ⟨g1, o, ho, g2⟩ := hi
    have hil : i < ops.size := (Array.getElem?_eq_some_iff.1 ho).1
    have hp := hl.mem i hil
    refine ⟨?_, relabelOp l o, by rw [relabel_get hl hp, ho]; rfl, fun e he hb => ?_⟩
    · rw [Array.getD_eq_getD_getElem?, h3 _ _ hp, ← Array.getD_eq_getD_getElem?]; exact g1
    · simp only [relabelOp, Array.mem_map] at he
      obtain ⟨e0, he0, rfl⟩ := he
      have := g2 e0 he0 hb
      have hp0 := hl.mem e0.on ((hg i o ho).2 e0 he0)
      simp only
      rw [Array.getD_eq_getD_getElem?, h3 _ _ hp0, ← Array.getD_eq_getD_getElem?]; exact this
  intro fuel
  induction fuel with
  | zero =>
    intro listed listed' a w h1 h2 h3 h
    refine ⟨?_, h.2⟩
    cases hr : Region.ready .any ops listed with
    | nil => rfl
    | cons i r =>
      have := rdy h1 h2 h3 i (by rw [hr]; simp)
      rw [h.1] at this; cases this
  | succ fuel ih =>
    intro listed listed' a w h1 h2 h3 h
    refine ⟨fun hnil => ?_, fun i hi => ?_⟩
    · refine h.1 ?_
      cases hr : Region.ready .any (relabel l ops) listed' with
      | nil => rfl
      | cons p r =>
        exfalso
        have hp : p ∈ Region.ready .any (relabel l ops) listed' := by rw [hr]; simp
        rw [mem_ready] at hp
        obtain ⟨g1, o', ho', g2⟩ := hp
        have hpl : p < ops.size := by rw [← relabel_size hl]; exact (Array.getElem?_eq_some_iff.1 ho').1
        have hlp : l[p]? = some (l[p]'(by rw [hl.len]; exact hpl)) := List.getElem?_eq_getElem _
        generalize l[p]'(by rw [hl.len]; exact hpl) = i at hlp
        have hil := hl.lt p i hlp
        have hm : i ∈ Region.ready .any ops listed := by
          rw [mem_ready]
          refine ⟨?_, ops[i], Array.getElem?_eq_getElem hil, fun e he hb => ?_⟩
          · rw [Array.getD_eq_getD_getElem?, ← h3 _ _ hlp, ← Array.getD_eq_getD_getElem?]; exact g1
          · have ho2 := relabel_get hl hlp
            rw [ho', Array.getElem?_eq_getElem hil, Option.map_some, Option.some.injEq] at ho2
            subst ho2
            have := g2 { e with on := posOf l e.on } (by simp only [relabelOp, Array.mem_map]; exact ⟨e, he, rfl⟩) hb
            have hp0 := hl.mem e.on ((hg i ops[i] (Array.getElem?_eq_getElem hil)).2 e he)
            simp only at this
            rw [Array.getD_eq_getD_getElem?, h3 _ _ hp0, ← Array.getD_eq_getD_getElem?] at this; exact this
        rw [hnil] at hm; cases hm
    · have hp := rdy h1 h2 h3 i hi
      have hw := h.2 _ hp
      rw [mem_ready] at hi
      obtain ⟨g1, o, ho, g2⟩ := hi
      have hil : i < ops.size := (Array.getElem?_eq_some_iff.1 ho).1
      have hpi := hl.mem i hil
      have hpl : posOf l i < ops.size := by rw [← hl.len]; exact (List.getElem?_eq_some_iff.1 hpi).1
      have next : ∀ a w, wpAny P .any (relabel l ops) Q fuel (listed'.setIfInBounds (posOf l i) true) a w → wpAny P .any ops Q fuel (listed.setIfInBounds i true) a w := by
        intro a w
        refine ih _ _ a w (by simpa using h1) (by simpa using h2) fun p j hpj => ?_
        by_cases hji : j = i
        · subst hji
          have := hl.inj p j hpj
          subst this
          simp [h1, h2, hil, hpl]
        · have hne : posOf l i ≠ p := fun e => hji (by rw [← e, hpi] at hpj; cases hpj; rfl)
          rw [Array.getElem?_setIfInBounds_ne hne, Array.getElem?_setIfInBounds_ne (Ne.symm hji)]
          exact h3 p j hpj
      unfold wpOp at hw ⊢
      rw [relabel_get hl hpi, ho] at hw
      simp only [ho, Option.map_some] at hw ⊢
      rw [wanted_relabel hl o a.tmps (hg i o ho).1] at hw
      by_cases hwt : Region.wanted o (yielded ops a.tmps) = true
      · rw [if_pos hwt] at hw ⊢
        rcases hw with hw | ⟨hw1, hw2⟩
        · exact .inl (Oper.wp_mono (o := o) next hw)
        · exact .inr ⟨hw1, hw2⟩
      · rw [if_neg hwt] at hw ⊢
        exact next _ _ hw
end Go.Den
