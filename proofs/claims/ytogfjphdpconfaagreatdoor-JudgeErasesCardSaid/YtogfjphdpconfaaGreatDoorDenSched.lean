/- The orders of a region: what an operation looks at; the masks; the run in the text's order. -/
import Derived.Test.YtogfjphdpconfaaGreatDoorDenFrame3
namespace Go.Den
open Go
variable {C : Cfg} {F : FuncId → List AVal → Heap → Option (AVal × Heap)}

/-! An operation looks at its operands alone. -/

theorem ev_congr {t t' : Tmps} {x : Operand} (h : ∀ d, x = .tmp d → t.get d = t'.get d) : ev C t x = ev C t' x := by
  cases x with
  | tmp d => exact h d rfl
  | _ => rfl
theorem mapO_congr {α β : Type} {f g : α → Option β} : ∀ {l : List α}, (∀ x ∈ l, f x = g x) → mapO f l = mapO g l := by
  intro l
  induction l with
  | nil => intro _; rfl
  | cons a l ih => intro h; simp only [mapO, h a (by simp), ih fun x hx => h x (by simp [hx])]
theorem evL_congr {t t' : Tmps} {l : List Operand} (h : ∀ d, .tmp d ∈ l → t.get d = t'.get d) : evL C t l = evL C t' l :=
  mapO_congr fun x hx => ev_congr fun d hd => h d (hd ▸ hx)
theorem evO_congr {t t' : Tmps} {x : Option Operand} (h : ∀ d, x = some (.tmp d) → t.get d = t'.get d) : evO C t x = evO C t' x := by
  cases x with
  | none => rfl
  | some x => simp only [evO, ev_congr (C := C) (x := x) fun d hd => h d (hd ▸ rfl)]
theorem evParts_congr {t t' : Tmps} : ∀ {l : List (Nat × Operand)}, (∀ d, .tmp d ∈ l.map (·.2) → t.get d = t'.get d) → evParts C t l = evParts C t' l := by
  intro l
  induction l with
  | nil => intro _; rfl
  | cons a l ih =>
    intro h
    obtain ⟨i, x⟩ := a
    simp only [evParts, ev_congr (C := C) (x := x) fun d hd => h d (by simp [hd]), ih fun d hd => h d (by simp at hd ⊢; exact .inr hd)]

def Agree (o : Oper) (t t' : Tmps) : Prop := ∀ d, Operand.tmp d ∈ o.op.operands.toList → t.get d = t'.get d

theorem opP_congr {o : Oper} {t t' : Tmps} (h : Agree o t t') : opP C o t = opP C o t' := by
  unfold Agree at h
  obtain ⟨dst, op, type, pos, after, guard⟩ := o
  have e : ∀ x : Operand, x ∈ op.operands.toList → ev C t x = ev C t' x := fun x hx => ev_congr fun d hd => h d (hd ▸ hx)
  have eO : ∀ x : Option Operand, (∀ y, x = some y → y ∈ op.operands.toList) → evO C t x = evO C t' x := fun x hx => evO_congr fun d hd => h d (hx _ hd)
  have eL : ∀ l : List Operand, (∀ y ∈ l, y ∈ op.operands.toList) → evL C t l = evL C t' l := fun l hl => evL_congr fun d hd => h d (hl _ hd)
  have eP : ∀ l : List (Nat × Operand), (∀ y ∈ l.map (·.2), y ∈ op.operands.toList) → evParts C t l = evParts C t' l := fun l hl => evParts_congr fun d hd => h d (hl _ hd)
  cases op <;> simp only [opP]
  case move x => exact e x (by simp [Op.operands])
  case assign x => exact e x (by simp [Op.operands])
  case pick c a b => rw [e c (by simp [Op.operands]), e a (by simp [Op.operands]), e b (by simp [Op.operands])]
  case build ty ps => rw [eP _ (fun y hy => by simpa [Op.operands] using hy)]
  case nilCheck x => rw [e x (by simp [Op.operands])]
  case binOp a b x y z => rw [e x (by simp [Op.operands]), e y (by simp [Op.operands])]
  case unOp a b x => rw [e x (by simp [Op.operands])]
  case convert a b x => rw [e x (by simp [Op.operands])]
  case makeInterface a x => rw [e x (by simp [Op.operands])]
  case makeFunc f a b =>
    have e1 := eL a.toList (fun y hy => by simp [Op.operands] at hy ⊢; exact .inl hy)
    have e2 := eL b.toList (fun y hy => by simp [Op.operands] at hy ⊢; exact .inr hy)
    cases f <;> simp only [e1, e2]
  case slice t' x lo hi mx =>
    rw [e x (by simp [Op.operands]), eO lo (fun y hy => by simp [Op.operands, hy]), eO hi (fun y hy => by simp [Op.operands, hy]), eO mx (fun y hy => by simp [Op.operands, hy])]
  case fieldAddr a x b => rw [e x (by simp [Op.operands])]
  case field a x b => rw [e x (by simp [Op.operands])]
  case indexAddr a x y => rw [e x (by simp [Op.operands]), e y (by simp [Op.operands])]
  case index a x y => rw [e x (by simp [Op.operands]), e y (by simp [Op.operands])]
  case extract x b => rw [e x (by simp [Op.operands])]
  case call c => rw [eL c.args.toList (fun y hy => by simp [Op.operands, Call.operands]; cases c.callee <;> simp_all)]

theorem opL_congr {o : Oper} {t t' : Tmps} {hp : Heap} (h : Agree o t t') : opL C o t hp = opL C o t' hp := by
  unfold Agree at h
  obtain ⟨dst, op, type, pos, after, guard⟩ := o
  have e : ∀ x : Operand, x ∈ op.operands.toList → ev C t x = ev C t' x := fun x hx => ev_congr fun d hd => h d (hd ▸ hx)
  cases op <;> simp only [opL]
  case load ty x => rw [e x (by simp [Op.operands])]

theorem opN_congr {o : Oper} {t t' : Tmps} (h : Agree o t t') : opN C o t = opN C o t' := by
  unfold Agree at h
  obtain ⟨dst, op, type, pos, after, guard⟩ := o
  have e : ∀ x : Operand, x ∈ op.operands.toList → ev C t x = ev C t' x := fun x hx => ev_congr fun d hd => h d (hd ▸ hx)
  have eP : ∀ l : List (Nat × Operand), (∀ y ∈ l.map (·.2), y ∈ op.operands.toList) → evParts C t l = evParts C t' l := fun l hl => evParts_congr fun d hd => h d (hl _ hd)
  cases op <;> simp only [opN]
  case box ty x => rw [e x (by simp [Op.operands])]
  case buildSlice ty n ps => rw [eP _ (fun y hy => by simpa [Op.operands] using hy)]
  case makeSlice ty x y => rw [e x (by simp [Op.operands]), e y (by simp [Op.operands])]
  case makeMap ty r => cases r <;> rfl

theorem opE_congr {o : Oper} {t t' : Tmps} {hp : Heap} {nid : Nat} (h : Agree o t t') : opE C o t hp nid = opE C o t' hp nid := by
  unfold Agree at h
  obtain ⟨dst, op, type, pos, after, guard⟩ := o
  have e : ∀ x : Operand, x ∈ op.operands.toList → ev C t x = ev C t' x := fun x hx => ev_congr fun d hd => h d (hd ▸ hx)
  have eL : ∀ l : List Operand, (∀ y ∈ l, y ∈ op.operands.toList) → evL C t l = evL C t' l := fun l hl => evL_congr fun d hd => h d (hl _ hd)
  cases op <;> simp only [opE]
  case store ty x y => rw [e x (by simp [Op.operands]), e y (by simp [Op.operands])]
  case convert a b x => rw [e x (by simp [Op.operands])]
  case call c => rw [eL c.args.toList (fun y hy => by simp [Op.operands, Call.operands]; cases c.callee <;> simp_all)]

theorem stepA_congr {caller : FuncId} {o : Oper} {t t' : Tmps} {hp : Heap} {nid : Nat} (h : Agree o t t') : stepA C F caller o t hp nid = stepA C F caller o t' hp nid := by
  have hE := opE_congr (C := C) (hp := hp) (nid := nid) h
  cases hk : kind C o <;> simp only [stepA, hk]
  · rw [opP_congr h]
  · rw [opL_congr h]
  · rw [opN_congr h]
  · unfold Agree at h
    have eL : ∀ l : List Operand, (∀ y ∈ l, y ∈ o.op.operands.toList) → evL C t l = evL C t' l := fun l hl => evL_congr fun d hd => h d (hl _ hd)
    have e : ∀ x : Operand, x ∈ o.op.operands.toList → ev C t x = ev C t' x := fun x hx => ev_congr fun d hd => h d (hd ▸ hx)
    obtain ⟨dst, op, type, pos, after, guard⟩ := o
    cases op with
    | call c =>
      obtain ⟨callee, args, tys⟩ := c
      cases callee with
      | value x =>
        have e1 := e x (by simp [Op.operands, Call.operands])
        have e2 := eL args.toList (fun y hy => by simp [Op.operands, Call.operands]; simp_all)
        cases x <;> simp only [e1, e2]
      | invoke a b => exact hE
      | builtin b => exact hE
    | _ => exact hE

theorem wanted_congr {ops : Array Oper} {o : Oper} {t t' : Tmps} (h : ∀ d, d ∈ looks ops.toList o → t.get d = t'.get d) : wantedA ops o t = wantedA ops o t' := by
  unfold wantedA
  cases hg : o.guard with
  | none => rfl
  | some p =>
    obtain ⟨j, want⟩ := p
    simp only
    cases hd : (ops[j]?).bind (·.dst) with
    | none => rfl
    | some d =>
      simp only
      rw [h d (by simp only [looks, hg, Array.getElem?_toList, hd]; simp)]

theorem unwanted_congr {ops : Array Oper} {o : Oper} {t t' : Tmps} (h : ∀ d, d ∈ looks ops.toList o → t.get d = t'.get d) : unwanted ops o t = unwanted ops o t' := by
  unfold unwanted
  cases hg : o.guard with
  | none => rfl
  | some p =>
    obtain ⟨j, want⟩ := p
    simp only
    cases hd : (ops[j]?).bind (·.dst) with
    | none => rfl
    | some d =>
      simp only
      rw [h d (by simp only [looks, hg, Array.getElem?_toList, hd]; simp)]

theorem agree_of {ops : List Oper} {o : Oper} {t t' : Tmps} (h : ∀ d, d ∈ looks ops o → t.get d = t'.get d) : Agree o t t' := fun d hd =>
  h d (List.mem_append_left _ (List.mem_filterMap.2 ⟨.tmp d, hd, rfl⟩))
end Go.Den
