/- Calls: a function that has been shown to answer as the interpreter says, called. -/
import Derived.Test.YtogfjphdpconfaaGreatDoorDenCall
namespace Go.Den
open Go
variable {C : Cfg} {K A : Nat → Prop} {μ : Mu} {w : World} {nx : Nat}

/-- Some places go, the others lie as they lay. -/
theorem R.keep {g g' : Nat → Option HObj} {μ' : Mu} {w' : World} (hr : R K A μ g nx w) (hμ : ∀ id, μ' id = μ id ∧ g' id = g id ∨ μ' id = none ∧ g' id = none) (hs : w.heap.size ≤ w'.heap.size)
    (hp : ∀ id im, μ' id = some im → w'.heap[im.b]? = w.heap[im.b]?) (ho : ∀ b, b < w.heap.size → ¬ Bad K μ b → w'.heap[b]? = w.heap[b]?) (hk : ∀ b, b < w.heap.size → K b → w'.heap[b]? = w.heap[b]?) (he : w'.os = w.os ∧ w'.output = w.output) :
    R K A μ' g' nx w' ∧ Ext K A μ w A μ' w' := by
  have sub : ∀ id im, μ' id = some im → μ id = some im ∧ g' id = g id := by
    intro id im h
    rcases hμ id with ⟨h1, h2⟩ | ⟨h1, h2⟩
    · exact ⟨h1 ▸ h, h2⟩
    · rw [h1] at h; cases h
  have hsub : ∀ b, Bad K μ' b → Bad K μ b := by
    rintro b (h | ⟨j, im, hj, rfl⟩)
    · exact .inl h
    · exact .inr ⟨j, im, (sub j im hj).1, rfl⟩
  have hx : Ext K A μ w A μ' w' := ⟨hs, fun id ha => ⟨ha, (hμ id).imp (·.1) (·.1)⟩, fun b hb hnb => ⟨fun h => hnb (hsub b h), ho b hb hnb⟩, hk, he⟩
  refine ⟨⟨fun id => ?_, fun id im h => ?_, hr.alt, fun i j im jm hi hj => hr.inj i j im jm (sub i im hi).1 (sub j jm hj).1, fun id im cs e gr h hg => ?_, fun id im es h hg => ?_⟩, hx⟩
  · rcases hμ id with ⟨h1, h2⟩ | ⟨h1, h2⟩
    · rw [h1, h2]; exact hr.dom id
    · rw [h1, h2]; rfl
  · obtain ⟨p, q, r⟩ := hr.lt id im (sub id im h).1
    exact ⟨p, Nat.lt_of_lt_of_le q hs, r⟩
  · obtain ⟨s1, s2⟩ := sub id im h
    rw [s2] at hg
    exact (hr.arr id im cs e gr s1 hg).ext hx (hp id im h)
  · obtain ⟨s1, s2⟩ := sub id im h
    rw [s2] at hg
    exact (hr.map id im es s1 hg).ext hx (hp id im h)

theorem flat_V {bad bad' : Nat → Prop} {w' : World} {μ' : Mu} {A' : Nat → Prop} {r : AVal} {x : Value} (hf : flat r = true) (hv : V bad w μ A r x) : V bad' w' μ' A' r x := by
  have f1 : ∀ {c : AVal} {y : Value}, (match c with | .bool _ | .int _ _ | .str _ | .nilptr | .nilslice | .nilmap | .nilfunc | .niliface => true | _ => false) = true → V bad w μ A c y → V bad' w' μ' A' c y := by
    intro c y hc hy
    cases hy <;> first | (cases hc; done) | constructor
  have f2 : ∀ {c : AVal} {y : Value}, (match c with
      | .bool _ | .int _ _ | .str _ | .nilptr | .nilslice | .nilmap | .nilfunc | .niliface => true
      | .agg cs => cs.all fun c => match c with
        | .bool _ | .int _ _ | .str _ | .nilptr | .nilslice | .nilmap | .nilfunc | .niliface => true
        | _ => false
      | _ => false) = true → V bad w μ A c y → V bad' w' μ' A' c y := by
    intro c y hc hy
    cases hy with
    | agg _ cs xs g1 g2 g3 =>
      simp only [List.all_eq_true] at hc
      exact .agg _ cs xs g1 g2 fun i a x ha hx => f1 (hc a (List.mem_of_getElem? ha)) (g3 i a x ha hx)
    | bool => constructor
    | int => constructor
    | str => constructor
    | nilptr => constructor
    | nilslice => constructor
    | nilmap => constructor
    | nilfunc => constructor
    | niliface => constructor
    | _ => cases hc
  cases hv with
  | agg _ cs xs g1 g2 g3 =>
    simp only [flat, List.all_eq_true] at hf
    exact .agg _ cs xs g1 g2 fun i a x ha hx => f2 (hf a (List.mem_of_getElem? ha)) (g3 i a x ha hx)
  | tuple _ cs xs g1 g3 =>
    simp only [flat, List.all_eq_true] at hf
    exact .tuple _ cs xs g1 fun i a x ha hx => f2 (hf a (List.mem_of_getElem? ha)) (g3 i a x ha hx)
  | bool => constructor
  | int => constructor
  | str => constructor
  | nilptr => constructor
  | nilslice => constructor
  | nilmap => constructor
  | nilfunc => constructor
  | niliface => constructor
  | _ => cases hf

def RetOk (K A : Nat → Prop) (μ : Mu) (w : World) (nx : Nat) (r : AVal) (h' : Heap) : Ending → World → Prop
  | .returned v, w' => ∃ A' μ', R K A' μ' h'.get h'.next w' ∧ Ext K A μ w A' μ' w' ∧ (∀ id, A' id → A id ∨ nx ≤ id) ∧ V (Bad K μ') w' μ' A' r v
  | _, _ => False

/-- A function with a body that a call enters. -/
def Enters (P : Program) (f : FuncId) : Prop := ∃ fn, P.funcs[f]? = some fn ∧ (fn.name == "runtime.NumGoroutine") = false ∧ fn.body.isSome = true

def Sound (C : Cfg) (F : FuncId → List AVal → Heap → Option (AVal × Heap)) : Prop :=
  ∀ f args h r h', F f args h = some (r, h') → Enters C.P f ∧ ∀ (K A : Nat → Prop) (μ : Mu) (w : World) (xs : Array Value), R K A μ h.get h.next w → GlobOk C (Bad K μ) w μ → VL (Bad K μ) w μ A args xs.toList →
    (∀ b, w.heap.size ≤ b → ¬ K b) → Calls C.P f xs w (RetOk K A μ w h.next r h')

variable {F : FuncId → List AVal → Heap → Option (AVal × Heap)}

theorem R.empty : R K (fun _ => False) (fun _ => none) Heap.empty.get Heap.empty.next w :=
  by
  refine ⟨fun id => by rw [Heap.get_empty]; rfl, fun id im h => ?_, fun id h => h.elim, fun i j im jm h => ?_, fun id im cs e gr h => ?_, fun id im es h => ?_⟩
  all_goals cases h

theorem doCall_ok (hF : Sound C F) {caller f : FuncId} {args : List AVal} {h h' : Heap} {r : AVal} (e : doCall C F caller f args h = some (r, h')) : Enters C.P f ∧ ∀ (K A : Nat → Prop) (μ : Mu) (w : World) (xs : Array Value),
    R K A μ h.get h.next w → GlobOk C (Bad K μ) w μ → VL (Bad K μ) w μ A args xs.toList → (∀ b, w.heap.size ≤ b → ¬ K b) → Calls C.P f xs w (RetOk K A μ w h.next r h') := by
  cases hm : C.mode caller f
  · simp only [doCall, hm] at e
    exact hF _ _ _ _ _ e
  · simp only [doCall, hm] at e
    split at e
    · cases e
    · rename_i args' ha
      split at e
      · cases e
      · rename_i rr hc hr
        split at e
        · cases e
        · rename_i r' hfr
          simp only [Option.some.injEq, Prod.mk.injEq] at e
          obtain ⟨rfl, rfl⟩ := e
          obtain ⟨he, hcall⟩ := hF _ _ _ _ _ hr
          refine ⟨he, fun K A μ w xs hR hg hv hk => ?_⟩
          let L := args.flatMap (reach h 8)
          let K' : Nat → Prop := fun b => Bad K μ b ∧ ¬ ∃ id ∈ L, ∃ im, μ id = some im ∧ im.b = b
          have hbK : ∀ b, Bad K' (fun _ => none) b → K' b := by
            rintro b (h | ⟨id, im, h, _⟩)
            · exact h
            · cases h
          have hsz : ∀ b, w.heap.size ≤ b → ¬ K' b := by
            rintro b hb ⟨h1 | ⟨id, im, him, rfl⟩, _⟩
            · exact hk b hb h1
            · have := (hR.lt id im him).2.1; omega
          have hfz : ∀ a v x, a ∈ args → freeze h 8 a = some v → V (Bad K μ) w μ A a x → V (Bad K' (fun _ => none)) w (fun _ => none) (fun _ => False) v x := by
            intro a v x ham hfa hva
            refine freeze_ok hR (fun b _ hnb hb => hnb (hbK b hb).1) 8 a v x hfa (fun id hid im him hb => (hbK _ hb).2 ⟨id, List.mem_flatMap.2 ⟨a, ham, hid⟩, im, him, rfl⟩) hva
          have hv' : VL (Bad K' (fun _ => none)) w (fun _ => none) (fun _ => False) args' xs.toList := by
            obtain ⟨m1, m2⟩ := mapO_some ha
            refine ⟨m1 ▸ hv.1, fun i v x hvi hxi => ?_⟩
            have hlt : i < args.length := by rw [m1]; exact (List.getElem?_eq_some_iff.1 hvi).1
            obtain ⟨y, hy, hf⟩ := m2 i _ (List.getElem?_eq_getElem hlt)
            rw [hvi] at hy; cases hy
            exact hfz _ _ _ (List.getElem_mem hlt) hf (hv.2 i _ _ (List.getElem?_eq_getElem hlt) hxi)
          have hg' : GlobOk C (Bad K' (fun _ => none)) w (fun _ => none) := fun g cs hgc => (hg g cs hgc).mono (fun b _ hnb => ⟨fun hb => hnb (hbK b hb).1, rfl⟩) _ (fun _ h => h.elim)
          refine Calls.mono (hcall K' _ _ w xs R.empty hg' hv' hsz) fun en w' hen => ?_
          cases en with
          | panicked _ => exact hen.elim
          | outgrown => exact hen.elim
          | returned v =>
            obtain ⟨A1, μ1, hR1, hX, hA1, hv1⟩ := hen
            have hKL : ∀ id im, μ id = some im → id ∉ L → K' im.b := by
              rintro id im him hid
              refine ⟨.inr ⟨id, im, him, rfl⟩, ?_⟩
              rintro ⟨j, hj, jm, hjm, hjb⟩
              exact hid (hR.inj j id jm im hjm him hjb ▸ hj)
            have hold : ∀ b, b < w.heap.size → ¬ Bad K μ b → w'.heap[b]? = w.heap[b]? := fun b hb hnb => (hX.old b hb fun h => hnb (hbK b h).1).2
            have hkeep : ∀ b, b < w.heap.size → K b → w'.heap[b]? = w.heap[b]? := fun b hb hkb => hX.keep b hb ⟨.inl hkb, fun ⟨id, _, im, him, hib⟩ => (hR.lt id im him).2.2 (hib ▸ hkb)⟩
            cases hfl : flat r'
            · -- the places handed in are gone
              simp only [cond_false]
              obtain ⟨k1, k2⟩ := hR.keep (g' := (h.dels L).get) (μ' := fun id => if id ∈ L then none else μ id) (w' := w') (fun id => by
                rw [Heap.get_dels]
                by_cases hid : id ∈ L
                · exact .inr (by simp [hid])
                · exact .inl (by simp [hid])) hX.size (fun id im him => by
                  by_cases hid : id ∈ L
                  · simp [hid] at him
                  · simp only [hid, if_false] at him
                    exact hX.keep _ (hR.lt id im him).2.1 (hKL id im him hid)) hold hkeep hX.env
              refine ⟨A, _, by rw [Heap.next_dels]; exact k1, k2, fun id h => .inl h, ?_⟩
              have hbK2 : ∀ b, Bad K (fun id => if id ∈ L then none else μ id) b → K' b := by
                rintro b (hkb | ⟨id, im, him, rfl⟩)
                · exact ⟨.inl hkb, fun ⟨id, _, im, him, hib⟩ => (hR.lt id im him).2.2 (hib ▸ hkb)⟩
                · by_cases hid : id ∈ L
                  · simp [hid] at him
                  · simp only [hid, if_false] at him
                    exact hKL id im him hid
              exact (freeze_ok (bad := Bad K (fun id => if id ∈ L then none else μ id)) (μ' := fun id => if id ∈ L then none else μ id) hR1 (fun b _ hnb hb => hnb (.inl (hbK2 b hb))) 8 _ _ _ hfr
                (fun id _ im him hb => (hR1.lt id im him).2.2 (hbK2 _ hb)) hv1).weaken
            · simp only [cond_true]
              obtain ⟨k1, k2⟩ := hR.keep (g' := h.get) (μ' := μ) (w' := w') (fun id => .inl ⟨rfl, rfl⟩) hX.size (fun id im him => by
                by_cases hid : id ∈ L
                · refine (hX.old _ (hR.lt id im him).2.1 fun hb => ?_).2
                  exact (hbK _ hb).2 ⟨id, hid, im, him, rfl⟩
                · exact hX.keep _ (hR.lt id im him).2.1 (hKL id im him hid)) hold hkeep hX.env
              refine ⟨A, μ, k1, k2, fun id h => .inl h, flat_V hfl (freeze_ok (bad := fun _ => False) (μ' := μ) hR1 (fun _ _ _ h => h) 8 _ _ _ hfr (fun _ _ _ _ h => h) hv1)⟩
end Go.Den
