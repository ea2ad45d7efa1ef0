/- append, copy, clear, maps: what each says, the model says. -/
import Derived.Test.YtogfjphdpconfaaGreatDoorDenOpE
namespace Go.Den
open Go
variable {C : Cfg} {K A : Nat → Prop} {μ : Mu} {w : World} {nx : Nat}

/-- A place goes: nobody looks at it any more. -/
theorem R.drop {g : Nat → Option HObj} {id : Nat} (hr : R K A μ g nx w) (hne : ∀ im, μ id = some im → True) :
    R K A (fun i => if i = id then none else μ i) (fun i => if i = id then none else g i) nx w ∧ Ext K A μ w A (fun i => if i = id then none else μ i) w := by
  have hsub : ∀ b, Bad K (fun i => if i = id then none else μ i) b → Bad K μ b := by
    rintro b (h | ⟨j, im, hj, rfl⟩)
    · exact .inl h
    · by_cases hji : j = id
      · simp [hji] at hj
      · simp only [hji, if_false] at hj; exact .inr ⟨j, im, hj, rfl⟩
  have hx : Ext K A μ w A (fun i => if i = id then none else μ i) w := by
    refine ⟨Nat.le_refl _, fun j ha => ⟨ha, ?_⟩, fun b hb hnb => ⟨fun h => hnb (hsub b h), rfl⟩, fun b _ _ => rfl, rfl, rfl⟩
    by_cases hji : j = id
    · exact .inr (by simp [hji])
    · exact .inl (by simp [hji])
  refine ⟨⟨fun j => ?_, fun j im hj => ?_, hr.alt, fun i j im jm hi hj hij => ?_, fun j im cs e gr hj hg => ?_, fun j im es hj hg => ?_⟩, hx⟩
  · by_cases hji : j = id
    · simp [hji]
    · simp only [hji, if_false]; exact hr.dom j
  · by_cases hji : j = id
    · simp [hji] at hj
    · simp only [hji, if_false] at hj; exact hr.lt j im hj
  · by_cases h1 : i = id
    · simp [h1] at hi
    · by_cases h2 : j = id
      · simp [h2] at hj
      · simp only [h1, if_false] at hi; simp only [h2, if_false] at hj
        exact hr.inj i j im jm hi hj hij
  · by_cases hji : j = id
    · simp [hji] at hj
    · simp only [hji, if_false] at hj hg
      exact (hr.arr j im cs e gr hj hg).ext hx rfl
  · by_cases hji : j = id
    · simp [hji] at hj
    · simp only [hji, if_false] at hj hg
      exact (hr.map j im es hj hg).ext hx rfl

/-- A place is called anew, and seen from a later cell on. -/
theorem R.rename {g : Nat → Option HObj} {id nid : Nat} {im : Img} {cs : List AVal} {e off : Nat} (hr : R K A μ g nx w) (him : μ id = some im) (hg : g id = some (.arr cs e true)) (hn : ¬ A nid) (hnx : nid < nx) (ho : off ≤ cs.length) :
    R K (fun i => A i ∨ i = nid) (fun i => if i = nid then some ⟨im.b, im.o + off, im.esz, im.n⟩ else if i = id then none else μ i) (fun i => if i = nid then some (.arr (cs.drop off) e true) else if i = id then none else g i) nx w ∧
    Ext K A μ w (fun i => A i ∨ i = nid) (fun i => if i = nid then some ⟨im.b, im.o + off, im.esz, im.n⟩ else if i = id then none else μ i) w := by
  have hidn : id ≠ nid := fun h => hn (h ▸ (hr.lt id im him).1)
  have hne : ∀ j, A j → j ≠ nid := fun j ha e => hn (e ▸ ha)
  have hsub : ∀ b, Bad K (fun i => if i = nid then some ⟨im.b, im.o + off, im.esz, im.n⟩ else if i = id then none else μ i) b → Bad K μ b := by
    rintro b (h | ⟨j, jm, hj, rfl⟩)
    · exact .inl h
    · by_cases h1 : j = nid
      · simp only [h1, if_true, Option.some.injEq] at hj; subst hj; exact .inr ⟨id, im, him, rfl⟩
      · by_cases h2 : j = id
        · simp [h1, h2, hidn] at hj
        · simp only [h1, h2, if_false] at hj; exact .inr ⟨j, jm, hj, rfl⟩
  have hx : Ext K A μ w (fun i => A i ∨ i = nid) (fun i => if i = nid then some ⟨im.b, im.o + off, im.esz, im.n⟩ else if i = id then none else μ i) w := by
    refine ⟨Nat.le_refl _, fun j ha => ⟨.inl ha, ?_⟩, fun b hb hnb => ⟨fun h => hnb (hsub b h), rfl⟩, fun b _ _ => rfl, rfl, rfl⟩
    by_cases h2 : j = id
    · exact .inr (by simp [hne j ha, h2, hidn])
    · exact .inl (by simp [hne j ha, h2])
  have hlt := hr.lt id im him
  refine ⟨⟨fun j => ?_, fun j jm hj => ?_, fun j ha => ?_, fun i j am bm hi hj hij => ?_, fun j jm cs' e' gr hj hg' => ?_, fun j jm es hj hg' => ?_⟩, hx⟩
  · by_cases h1 : j = nid
    · simp [h1]
    · by_cases h2 : j = id
      · simp [h1, h2, hidn]
      · simp only [h1, h2, if_false]; exact hr.dom j
  · by_cases h1 : j = nid
    · simp only [h1, if_true, Option.some.injEq] at hj; subst hj; exact ⟨.inr h1, hlt.2⟩
    · by_cases h2 : j = id
      · simp [h1, h2, hidn] at hj
      · simp only [h1, h2, if_false] at hj
        exact ⟨.inl (hr.lt j jm hj).1, (hr.lt j jm hj).2⟩
  · rcases ha with ha | ha
    · exact hr.alt j ha
    · exact ha ▸ hnx
  · have back : ∀ k km, (if k = nid then some (⟨im.b, im.o + off, im.esz, im.n⟩ : Img) else if k = id then none else μ k) = some km → (k = nid ∧ km.b = im.b) ∨ (k ≠ nid ∧ k ≠ id ∧ μ k = some km) := by
      intro k km hk
      by_cases h1 : k = nid
      · simp only [h1, if_true, Option.some.injEq] at hk; subst hk; exact .inl ⟨h1, rfl⟩
      · by_cases h2 : k = id
        · simp [h1, h2, hidn] at hk
        · simp only [h1, h2, if_false] at hk; exact .inr ⟨h1, h2, hk⟩
    rcases back i am hi with ⟨a1, a2⟩ | ⟨a1, a2, a3⟩ <;> rcases back j bm hj with ⟨b1, b2⟩ | ⟨b1, b2, b3⟩
    · rw [a1, b1]
    · exact (b2 (hr.inj j id bm im b3 him (by rw [← hij, a2]))).elim
    · exact (a2 (hr.inj i id am im a3 him (by rw [hij, b2]))).elim
    · exact hr.inj i j am bm a3 b3 hij
  · by_cases h1 : j = nid
    · simp only [h1, if_true, Option.some.injEq] at hj hg'
      subst hj
      cases hg'
      obtain ⟨xs, T, lo, hi, k1, k2, k3, k4, k5, k6⟩ := hr.arr id im cs e true him hg
      refine ⟨xs, T, lo, hi, k1, k2, by simp; omega, k4, k5, fun i a hi => ?_⟩
      rw [List.getElem?_drop] at hi
      obtain ⟨p, x, q, r⟩ := k6 _ _ hi
      refine ⟨p, x, ?_, hx.V r⟩
      rw [← q]
      show xs[im.o + off + i]? = _
      congr 1; omega
    · by_cases h2 : j = id
      · simp [h1, h2, hidn] at hj
      · simp only [h1, h2, if_false] at hj hg'
        exact (hr.arr j jm cs' e' gr hj hg').ext hx rfl
  · by_cases h1 : j = nid
    · simp only [h1, if_true, Option.some.injEq] at hg'
      cases hg'
    · by_cases h2 : j = id
      · simp [h1, h2, hidn] at hj
      · simp only [h1, h2, if_false] at hj hg'
        exact (hr.map j jm es hj hg').ext hx rfl
theorem appendTy_ok {st xt : TypeId} {i : TypeInfo} (h : appendTy C st xt = some i) : ∃ elem d z, C.P.underlying st = some (.slice elem) ∧ C.P.info? elem = some i ∧ C.P.underlying xt = some d ∧ (∀ k, d ≠ .int k) ∧
    i.zero = some z ∧ z.cells.size = i.size ∧ 0 < i.size := by
  unfold appendTy at h
  split at h
  · rename_i elem hu
    split at h
    · rename_i i' z hi hz hx
      cases hc : (Nat.blt 0 i'.size && Nat.beq (cellsOf z).length i'.size)
      · rw [hc, cond_false] at h; cases h
      · rw [hc, cond_true] at h
        cases h
        simp only [natBlt, natBeq, Bool.and_eq_true, decide_eq_true_eq] at hc
        obtain ⟨j, zv, hj, hz', hv, hnt⟩ := zeroA_ok (bad := fun _ => False) (w := default) (μ := fun _ => none) (A := fun _ => False) hz
        have : j = i := by have := hj.symm.trans hi; simpa using this
        subst this
        have hsz : zv.cells.size = j.size := by rw [← hc.2, (V.cells_inv hv hnt).1.1]; simp
        cases hd : C.P.underlying xt with
        | none => simp [hd] at hx
        | some d =>
          refine ⟨elem, d, zv, hu, hi, rfl, fun k e => ?_, hz', hsz, hc.1⟩
          subst e
          simp [hd] at hx
    · cases h
  · cases h

def notInt (d : TypeDesc) : Bool := match d with | .int _ => true | _ => false
theorem notInt_of {d : TypeDesc} (hd : ∀ k, d ≠ .int k) : notInt d = false := by
  cases d <;> first | rfl | exact (hd _ rfl).elim

theorem append_room {P : Program} {t u ty e : TypeId} {i : TypeInfo} {d : TypeDesc} (ht : P.underlying t = some (.slice e)) (hu : P.underlying u = some d) (hd : notInt d = false) (hi : P.info? e = some i)
    {base : Option Addr} {len c n : Nat} {x : Value} {w w' : World} (hlen : (Builtin.lenOf x).run P w = .ok n w) (hroom : len + n ≤ c) {ys : List Value} (hys : (Builtin.firstCells i.size n x).run P w = .ok ys.toArray w)
    (hst : ((match base with | some a => storeCells (a.add (len * i.size)) ys | none => pure ()) : Sem Unit).run P w = .ok () w') :
    (Builtin.append_ #[t, u] ty #[.slice base len c, x]).run P w = .ok (.slice base (len + n) c) w' := by
  unfold Builtin.append_
  cases d <;> first
    | (cases hd; done)
    | (simp only [List.getElem?_toArray, List.getElem?_cons_zero, List.getElem?_cons_succ, Sem.run_bind, r_underlying ht, Result.andThen_ok, r_size hi, r_underlying hu, Sem.run_pure, hlen, Bool.false_eq_true, if_false, Sem.run_ite, Bool.not_false, if_true, hroom, hys]
       cases base <;> simp_all)

theorem append_new {P : Program} {t u ty e : TypeId} {i : TypeInfo} {d : TypeDesc} {z : Value} (ht : P.underlying t = some (.slice e)) (hu : P.underlying u = some d) (hd : notInt d = false) (hi : P.info? e = some i) (hz : i.zero = some z)
    {base : Option Addr} {len c n : Nat} {x : Value} {w : World} (hlen : (Builtin.lenOf x).run P w = .ok n w) (hroom : c < len + n) (h63 : len + n ≤ 9223372036854775807) (hby : (len + n) * i.bytes ≤ 140737488355328)
    {olds news : List Value} (ho : (Builtin.firstCells i.size len (.slice base len c)).run P w.drew = .ok olds.toArray w.drew) (hn : (Builtin.firstCells i.size n x).run P w.drew = .ok news.toArray w.drew) :
    (Builtin.append_ #[t, u] ty #[.slice base len c, x]).run P w = .ok (.slice (some ⟨w.heap.size, 0, none⟩) (len + n) (grownCap w (len + n) c e))
      (w.drew.alloc (.cells (olds.toArray ++ news.toArray ++ Builtin.zeroCells z.cells (grownCap w (len + n) c e - (len + n))) e)) := by
  have hroom' : ¬ (len + n ≤ c) := by omega
  have h63' : ¬ (((len + n : Nat) : Int) > IntKind.i64.max) := by
    have : IntKind.i64.max = 9223372036854775807 := rfl
    omega
  have h48 := growslice_fits hroom hby
  have h48' : ¬ (Builtin.nextslicecap (len + n) c * i.bytes > 2 ^ 48) := by
    have : (2 : Nat) ^ 48 = 281474976710656 := by decide
    omega
  have hch : (choose (.appendCap (len + n) c e)).run P w = .ok (grownCap w (len + n) c e) w.drew := by
    simp [Question.forced, grownCap]
  unfold Builtin.append_
  cases d <;> first
    | (cases hd; done)
    | (simp only [List.getElem?_toArray, List.getElem?_cons_zero, List.getElem?_cons_succ, Sem.run_bind, r_underlying ht, Result.andThen_ok, r_size hi, r_underlying hu, Sem.run_pure, hlen, Bool.false_eq_true, if_false, Sem.run_ite, Bool.not_false, if_true, hroom', r_info hi, h63', false_and, h48', hch, run_askRoom, ho, hn, r_zero hi hz, newRow_run]
       rfl)
end Go.Den
