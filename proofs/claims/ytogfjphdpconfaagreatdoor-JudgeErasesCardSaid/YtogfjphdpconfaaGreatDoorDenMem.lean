/- Memory: the relation between the interpreter's heap and the model's, and what loads, stores and new blocks do to it. -/
import Derived.Test.YtogfjphdpconfaaGreatDoorDenOpP4
import Derived.Laws.Append
namespace Go.Den
open Go

/-- Blocks that no frozen value lies in: those of others, and those of the heap. -/
def Bad (K : Nat → Prop) (μ : Mu) : Nat → Prop := fun b => K b ∨ ∃ id im, μ id = some im ∧ im.b = b

def BlkOk (K : Nat → Prop) (A : Nat → Prop) (μ : Mu) (w : World) (im : Img) (cs : List AVal) (e : Nat) (gr : Bool) : Prop :=
  ∃ (xs : Array Value) (T : TypeId) (lo hi : Nat), w.heap[im.b]? = some (.cells xs T (lo, hi)) ∧ xs.size = im.n ∧ im.o + cs.length ≤ im.n ∧ (lo = hi ∨ im.n ≤ lo) ∧ (gr = true → im.esz = e) ∧
    ∀ (i : Nat) (a : AVal), cs[i]? = some a → isCell a = true ∧ ∃ x, xs[im.o + i]? = some x ∧ V (Bad K μ) w μ A a x

def MapOk (K : Nat → Prop) (A : Nat → Prop) (μ : Mu) (w : World) (im : Img) (es : List (AVal × AVal)) : Prop :=
  ∃ (ents : Array MapEntry) (clock : Nat), w.heap[im.b]? = some (.map ents clock) ∧ ents.size = es.length ∧
    ∀ (i : Nat) (k v : AVal), es[i]? = some (k, v) → ∃ en, ents[i]? = some en ∧ V (Bad K μ) w μ A k en.key ∧ V (Bad K μ) w μ A v en.val

structure R (K : Nat → Prop) (A : Nat → Prop) (μ : Mu) (g : Nat → Option HObj) (nx : Nat) (w : World) : Prop where
  dom : ∀ id, (μ id).isSome = (g id).isSome
  lt : ∀ id im, μ id = some im → A id ∧ im.b < w.heap.size ∧ ¬ K im.b
  alt : ∀ id, A id → id < nx
  inj : ∀ i j im jm, μ i = some im → μ j = some jm → im.b = jm.b → i = j
  arr : ∀ id im cs e gr, μ id = some im → g id = some (.arr cs e gr) → BlkOk K A μ w im cs e gr
  map : ∀ id im es, μ id = some im → g id = some (.map es) → MapOk K A μ w im es

/-- What has become of the memory: nothing that is another's, or frozen, has turned. -/
structure Ext (K : Nat → Prop) (A : Nat → Prop) (μ : Mu) (w : World) (A' : Nat → Prop) (μ' : Mu) (w' : World) : Prop where
  size : w.heap.size ≤ w'.heap.size
  ids : ∀ id, A id → A' id ∧ (μ' id = μ id ∨ μ' id = none)
  old : ∀ b, b < w.heap.size → ¬ Bad K μ b → ¬ Bad K μ' b ∧ w'.heap[b]? = w.heap[b]?
  keep : ∀ b, b < w.heap.size → K b → w'.heap[b]? = w.heap[b]?
  env : w'.os = w.os ∧ w'.output = w.output

variable {C : Cfg} {K A A' A'' : Nat → Prop} {μ μ' μ'' : Mu} {w w' w'' : World} {g g' : Nat → Option HObj} {nx : Nat}

theorem Ext.refl : Ext K A μ w A μ w := ⟨Nat.le_refl _, fun _ h => ⟨h, .inl rfl⟩, fun _ _ h => ⟨h, rfl⟩, fun _ _ _ => rfl, rfl, rfl⟩
theorem Ext.trans (h : Ext K A μ w A' μ' w') (h' : Ext K A' μ' w' A'' μ'' w'') : Ext K A μ w A'' μ'' w'' where
  size := Nat.le_trans h.size h'.size
  ids id ha := by
    obtain ⟨h1, h2⟩ := h.ids id ha
    obtain ⟨h3, h4⟩ := h'.ids id h1
    refine ⟨h3, ?_⟩
    rcases h4 with h4 | h4
    · rw [h4]; exact h2
    · exact .inr h4
  old b hb hn := by
    obtain ⟨h1, h2⟩ := h.old b hb hn
    obtain ⟨h3, h4⟩ := h'.old b (Nat.lt_of_lt_of_le hb h.size) h1
    exact ⟨h3, h4.trans h2⟩
  keep b hb hk := (h'.keep b (Nat.lt_of_lt_of_le hb h.size) hk).trans (h.keep b hb hk)
  env := ⟨h'.env.1.trans h.env.1, h'.env.2.trans h.env.2⟩

theorem Ext.V {a : AVal} {x : Value} (h : Ext K A μ w A' μ' w') (hv : V (Bad K μ) w μ A a x) : V (Bad K μ') w' μ' A' a x := hv.mono h.old _ h.ids
theorem Ext.V0 {a : AVal} {x : Value} (h : Ext K A μ w A' μ' w') (hv : Den.V (Bad K μ) w μ (fun _ => False) a x) : Den.V (Bad K μ') w' μ' (fun _ => False) a x := hv.mono h.old _ (fun _ h => h.elim)
theorem Ext.TR {t : Tmps} {xs : Array Value} (h : Ext K A μ w A' μ' w') (ht : TR (Bad K μ) w μ A t xs) : TR (Bad K μ') w' μ' A' t xs :=
  fun i a hi => let ⟨x, h1, h2⟩ := ht i a hi; ⟨x, h1, h.V h2⟩
theorem Ext.glob (h : Ext K A μ w A' μ' w') (hg : GlobOk C (Bad K μ) w μ) : GlobOk C (Bad K μ') w' μ' := fun g cs hc => h.V0 (hg g cs hc)

theorem V.weaken {bad : Nat → Prop} {a : AVal} {x : Value} (h : V bad w μ (fun _ => False) a x) : V bad w μ A a x := h.mono (fun _ _ h => ⟨h, rfl⟩) _ (fun _ h => h.elim)

theorem R.of_heap (h : R K A μ g nx w) (hw : w'.heap = w.heap) : R K A μ g nx w' := by
  have hv : ∀ a x, V (Bad K μ) w μ A a x → V (Bad K μ) w' μ A a x := fun a x hv => hv.mono (fun b _ hb => ⟨hb, by rw [hw]⟩) _ (fun id h => ⟨h, .inl rfl⟩)
  refine ⟨h.dom, fun id im hi => by rw [hw]; exact h.lt id im hi, h.alt, h.inj, fun id im cs e gr hi hg => ?_, fun id im es hi hg => ?_⟩
  · obtain ⟨xs, T, lo, hi', h1, h2, h3, h4, h5, h6⟩ := h.arr id im cs e gr hi hg
    exact ⟨xs, T, lo, hi', by rw [hw]; exact h1, h2, h3, h4, h5, fun i a ha => let ⟨p, x, q, r⟩ := h6 i a ha; ⟨p, x, q, hv _ _ r⟩⟩
  · obtain ⟨ents, clock, h1, h2, h3⟩ := h.map id im es hi hg
    exact ⟨ents, clock, by rw [hw]; exact h1, h2, fun i k v ha => let ⟨en, p, q, r⟩ := h3 i k v ha; ⟨en, p, hv _ _ q, hv _ _ r⟩⟩
theorem Ext.of_heap (hw : w'.heap = w.heap) (he : w'.os = w.os ∧ w'.output = w.output) : Ext K A μ w A μ w' := ⟨by rw [hw]; exact Nat.le_refl _, fun _ h => ⟨h, .inl rfl⟩, fun b _ h => ⟨h, by rw [hw]⟩, fun b _ _ => by rw [hw], he⟩

/-- Blocks that stay as they are keep what they mean, when the memory goes on. -/
theorem BlkOk.ext {im : Img} {cs : List AVal} {e : Nat} {gr : Bool} (h : BlkOk K A μ w im cs e gr) (hx : Ext K A μ w A' μ' w') (hb : w'.heap[im.b]? = w.heap[im.b]?) : BlkOk K A' μ' w' im cs e gr := by
  obtain ⟨xs, T, lo, hi, h1, h2, h3, h4, h5, h6⟩ := h
  exact ⟨xs, T, lo, hi, by rw [hb]; exact h1, h2, h3, h4, h5, fun i a ha => let ⟨p, x, q, r⟩ := h6 i a ha; ⟨p, x, q, hx.V r⟩⟩
theorem MapOk.ext {im : Img} {es : List (AVal × AVal)} (h : MapOk K A μ w im es) (hx : Ext K A μ w A' μ' w') (hb : w'.heap[im.b]? = w.heap[im.b]?) : MapOk K A' μ' w' im es := by
  obtain ⟨ents, clock, h1, h2, h3⟩ := h
  exact ⟨ents, clock, by rw [hb]; exact h1, h2, fun i k v ha => let ⟨en, p, q, r⟩ := h3 i k v ha; ⟨en, p, hx.V q, hx.V r⟩⟩

theorem cell_of_heap {b o : Nat} {xs : Array Value} {T : TypeId} {fz : Nat × Nat} (h : w.heap[b]? = some (.cells xs T fz)) : w.cell? ⟨b, o, none⟩ = xs[o]? := by
  simp [World.cell?, h]
theorem frozen_of_heap {b o : Nat} {xs : Array Value} {T : TypeId} {lo hi : Nat} (h : w.heap[b]? = some (.cells xs T (lo, hi))) (hf : lo = hi ∨ xs.size ≤ lo) (ho : o < xs.size) : w.frozen? ⟨b, o, none⟩ = false := by
  simp [World.frozen?, h]; omega

/-- What an address leads to. -/
theorem cellsAt_ok {h : Heap} {a : AVal} {cs : List AVal} {x : Value} (hc : cellsAt h a = some cs) (hr : R K A μ h.get nx w) (hx : V (Bad K μ) w μ A a x) :
    ∃ b o, x = .pointer (some ⟨b, o, none⟩) ∧ ∀ (i : Nat) (c : AVal), cs[i]? = some c → isCell c = true ∧ ∃ y, w.cell? ⟨b, o + i, none⟩ = some y ∧ V (Bad K μ) w μ A c y := by
  unfold cellsAt at hc
  split at hc
  · rename_i id off
    split at hc
    · rename_i bs e gr hg
      by_cases hle : off ≤ bs.length
      · simp only [natBle, hle, decide_true, cond_true, Option.some.injEq] at hc
        subst hc
        cases hx with | ptr _ _ _ ad g1 g2 =>
        have hs : (μ id).isSome = true := by rw [hr.dom, hg]; rfl
        obtain ⟨im, him⟩ := Option.isSome_iff_exists.1 hs
        obtain ⟨xs, T, lo, hi, h1, h2, h3, h4, h5, h6⟩ := hr.arr id im bs e gr him hg
        refine ⟨im.b, im.o + off, by rw [g2 im him], fun i c hi => ?_⟩
        rw [List.getElem?_drop] at hi
        obtain ⟨p, y, q, r⟩ := h6 _ _ hi
        refine ⟨p, y, ?_, r⟩
        rw [cell_of_heap h1, ← q]; congr 1; omega
      · simp [natBle, hle] at hc
    · cases hc
  · rename_i bs
    cases hc
    cases hx with | fptr _ _ b o f h1 h2 h3 =>
    exact ⟨b, o, rfl, fun i c hi => ⟨(h2 i c hi).1, _, (h2 i c hi).2, (h3 i c hi).weaken⟩⟩
  · cases hc

theorem partA_load {t : TypeId} {cs : List AVal} {v : AVal} (h : partA C t cs 0 = some v) {bad : Nat → Prop} {b o : Nat}
    (hc : ∀ (i : Nat) (c : AVal), cs[i]? = some c → isCell c = true ∧ ∃ y, w.cell? ⟨b, o + i, none⟩ = some y ∧ V bad w μ A c y) :
    ∃ z, (loadVar t ⟨b, o, none⟩).run C.P w = .ok z w ∧ V bad w μ A v z := by
  unfold partA at h
  split at h
  · rename_i i hi ha
    by_cases hb : 0 + i.size ≤ cs.length
    · simp only [natBle, hb, decide_true, cond_true, Option.some.injEq, List.drop_zero] at h
      subst h
      -- the cells, by choice
      have hex : ∀ j : Nat, ∃ y, ∀ c, (cs.take i.size)[j]? = some c → w.cell? ⟨b, o + j, none⟩ = some y ∧ V bad w μ A c y := by
        intro j
        by_cases hj : j < (cs.take i.size).length
        · obtain ⟨p, y, q, r⟩ := hc j (cs.take i.size)[j] (by
            have := List.getElem?_eq_getElem hj
            rw [List.getElem?_take] at this
            split at this
            · exact this
            · simp at this)
          exact ⟨y, fun c hcj => by rw [List.getElem?_eq_getElem hj] at hcj; cases hcj; exact ⟨q, r⟩⟩
        · exact ⟨.bool false, fun c hcj => by rw [List.getElem?_eq_none (by omega)] at hcj; cases hcj⟩
      let f : Nat → Value := fun j => Classical.choose (hex j)
      have hf : ∀ (j : Nat) (c : AVal), (cs.take i.size)[j]? = some c → w.cell? ⟨b, o + j, none⟩ = some (f j) ∧ V bad w μ A c (f j) := fun j c hj => Classical.choose_spec (hex j) c hj
      let ys : List Value := (List.range i.size).map f
      have hlen : ys.length = i.size := by simp [ys]
      have hys : ∀ (j : Nat) (v : Value), ys[j]? = some v → w.cell? ((⟨b, o, none⟩ : Addr).add j) = some v := by
        intro j v hj
        have hlt : j < i.size := by rw [← hlen]; exact (List.getElem?_eq_some_iff.1 hj).1
        have hv : v = f j := by
          simp only [ys, List.getElem?_map] at hj
          rw [List.getElem?_eq_getElem (by simpa using hlt)] at hj
          simpa using hj.symm
        subst hv
        rw [add_none]
        have hlt2 : j < (cs.take i.size).length := by simp; omega
        exact (hf j (cs.take i.size)[j] (List.getElem?_eq_getElem hlt2)).1
      have hr := run_loadCells_list (P := C.P) (w := w) ⟨b, o, none⟩ ys hys
      rw [hlen] at hr
      refine ⟨.agg ys.toArray, by simp [loadVar, r_isAgg ha, r_size hi, hr], .agg _ _ _ (by simp [hlen]; omega) (fun c hcm => ?_) (fun j c y hcj hy => ?_)⟩
      · obtain ⟨j, hj, rfl⟩ := List.getElem_of_mem (List.mem_of_mem_take hcm)
        exact (hc j _ (List.getElem?_eq_getElem hj)).1
      · have hlt : j < i.size := by
          have := (List.getElem?_eq_some_iff.1 hcj).1
          simp at this; omega
        have hy' : y = f j := by
          rw [← Array.getElem?_toList] at hy
          simp only [ys, List.getElem?_map] at hy
          rw [List.getElem?_eq_getElem (by simpa using hlt)] at hy
          simpa using hy.symm
        subst hy'
        exact (hf j c hcj).2
    · simp only [natBle, hb, decide_false, cond_false] at h; cases h
  · rename_i i hi ha
    obtain ⟨p, y, q, r⟩ := hc 0 v h
    exact ⟨y, by simp only [loadVar, Sem.run_bind, r_isAgg ha, Result.andThen_ok, Bool.false_eq_true, if_false, run_load]; rw [show w.cell? ⟨b, o, none⟩ = some y from q], r⟩
  · cases h

theorem loadA_ok {t : TypeId} {h : Heap} {a v : AVal} {x : Value} (hl : loadA C t h a = some v) (hr : R K A μ h.get nx w) (hx : V (Bad K μ) w μ A a x) :
    ∃ z, (Instr.loadAt t x).run C.P w = .ok z w ∧ V (Bad K μ) w μ A v z := by
  unfold loadA at hl
  split at hl
  · rename_i cs hcs
    obtain ⟨b, o, rfl, hc⟩ := cellsAt_ok hcs hr hx
    obtain ⟨z, h1, h2⟩ := partA_load hl hc
    exact ⟨z, by simp [Instr.loadAt, Instr.sureAddr, h1], h2⟩
  · cases hl
/-- A new block of the model's, a new place of the heap. -/
theorem R.alloc {nid : Nat} {xs : Array Value} {T : TypeId} {cs : List AVal} {e : Nat} {gr : Bool} {n : Nat} (h : R K A μ g nx w) (hn : ¬ A nid) (hnx : nid < nx) (hw : w'.heap = w.heap.push (.cells xs T (0, 0))) (he : w'.os = w.os ∧ w'.output = w.output)
    (hl : cs.length ≤ xs.size) (hc : ∀ (i : Nat) (a : AVal), cs[i]? = some a → isCell a = true ∧ ∃ x, xs[i]? = some x ∧ V (Bad K μ) w μ A a x) (hk : ¬ K w.heap.size) :
    R K (fun i => A i ∨ i = nid) (fun i => if i = nid then some ⟨w.heap.size, 0, e, xs.size⟩ else μ i) (fun i => if i = nid then some (.arr cs e gr) else g i) nx w' ∧
    Ext K A μ w (fun i => A i ∨ i = nid) (fun i => if i = nid then some ⟨w.heap.size, 0, e, xs.size⟩ else μ i) w' := by
  have hne : ∀ id, A id → id ≠ nid := fun id ha e => hn (e ▸ ha)
  have hold : ∀ b, b < w.heap.size → w'.heap[b]? = w.heap[b]? := fun b hb => by rw [hw, Array.getElem?_push_lt hb]; simp [hb]
  have hx : Ext K A μ w (fun i => A i ∨ i = nid) (fun i => if i = nid then some ⟨w.heap.size, 0, e, xs.size⟩ else μ i) w' := by
    refine ⟨by rw [hw]; simp, fun id ha => ⟨.inl ha, .inl (if_neg (hne id ha))⟩, fun b hb hnb => ⟨?_, hold b hb⟩, fun b hb _ => hold b hb, he⟩
    rintro (hk' | ⟨id, im, him, rfl⟩)
    · exact hnb (.inl hk')
    · by_cases hid : id = nid
      · simp only [hid, if_true, Option.some.injEq] at him
        subst him
        simp at hb
      · simp only [hid, if_false] at him
        exact hnb (.inr ⟨id, im, him, rfl⟩)
  refine ⟨⟨fun id => ?_, fun id im him => ?_, fun id ha => ?_, fun i j im jm hi hj hij => ?_, fun id im cs' e' gr' him hg => ?_, fun id im es him hg => ?_⟩, hx⟩
  · by_cases hid : id = nid
    · simp [hid]
    · simp only [hid, if_false]; exact h.dom id
  · by_cases hid : id = nid
    · simp only [hid, if_true, Option.some.injEq] at him
      subst him
      exact ⟨.inr hid, by rw [hw]; simp, hk⟩
    · simp only [hid, if_false] at him
      obtain ⟨p, q, r⟩ := h.lt id im him
      exact ⟨.inl p, by rw [hw]; simp; omega, r⟩
  · rcases ha with ha | ha
    · exact h.alt id ha
    · exact ha ▸ hnx
  · by_cases h1 : i = nid <;> by_cases h2 : j = nid
    · rw [h1, h2]
    · simp only [h1, if_true, Option.some.injEq, h2, if_false] at hi hj
      subst hi
      have := (h.lt j jm hj).2.1
      simp at hij; omega
    · simp only [h1, if_false, h2, if_true, Option.some.injEq] at hi hj
      subst hj
      have := (h.lt i im hi).2.1
      simp at hij; omega
    · simp only [h1, if_false, h2] at hi hj
      exact h.inj i j im jm hi hj hij
  · by_cases hid : id = nid
    · simp only [hid, if_true, Option.some.injEq] at him hg
      subst him
      cases hg
      refine ⟨xs, T, 0, 0, by rw [hw]; simp, rfl, by simpa using hl, .inl rfl, fun _ => rfl, fun i a hi => ?_⟩
      obtain ⟨p, x, q, r⟩ := hc i a hi
      exact ⟨p, x, by simpa using q, hx.V r⟩
    · simp only [hid, if_false] at him hg
      exact (h.arr id im cs' e' gr' him hg).ext hx (hold _ (h.lt id im him).2.1)
  · by_cases hid : id = nid
    · simp only [hid, if_true, Option.some.injEq] at hg
      cases hg
    · simp only [hid, if_false] at him hg
      exact (h.map id im es him hg).ext hx (hold _ (h.lt id im him).2.1)

theorem R.allocMap {nid : Nat} {clock : Nat} (h : R K A μ g nx w) (hn : ¬ A nid) (hnx : nid < nx) (hw : w'.heap = w.heap.push (.map #[] clock)) (he : w'.os = w.os ∧ w'.output = w.output) (hk : ¬ K w.heap.size) :
    R K (fun i => A i ∨ i = nid) (fun i => if i = nid then some ⟨w.heap.size, 0, 0, 0⟩ else μ i) (fun i => if i = nid then some (.map []) else g i) nx w' ∧
    Ext K A μ w (fun i => A i ∨ i = nid) (fun i => if i = nid then some ⟨w.heap.size, 0, 0, 0⟩ else μ i) w' := by
  have hne : ∀ id, A id → id ≠ nid := fun id ha e => hn (e ▸ ha)
  have hold : ∀ b, b < w.heap.size → w'.heap[b]? = w.heap[b]? := fun b hb => by rw [hw, Array.getElem?_push_lt hb]; simp [hb]
  have hx : Ext K A μ w (fun i => A i ∨ i = nid) (fun i => if i = nid then some ⟨w.heap.size, 0, 0, 0⟩ else μ i) w' := by
    refine ⟨by rw [hw]; simp, fun id ha => ⟨.inl ha, .inl (if_neg (hne id ha))⟩, fun b hb hnb => ⟨?_, hold b hb⟩, fun b hb _ => hold b hb, he⟩
    rintro (hk' | ⟨id, im, him, rfl⟩)
    · exact hnb (.inl hk')
    · by_cases hid : id = nid
      · simp only [hid, if_true, Option.some.injEq] at him
        subst him
        simp at hb
      · simp only [hid, if_false] at him
        exact hnb (.inr ⟨id, im, him, rfl⟩)
  refine ⟨⟨fun id => ?_, fun id im him => ?_, fun id ha => ?_, fun i j im jm hi hj hij => ?_, fun id im cs' e' gr' him hg => ?_, fun id im es him hg => ?_⟩, hx⟩
  · by_cases hid : id = nid
    · simp [hid]
    · simp only [hid, if_false]; exact h.dom id
  · by_cases hid : id = nid
    · simp only [hid, if_true, Option.some.injEq] at him
      subst him
      exact ⟨.inr hid, by rw [hw]; simp, hk⟩
    · simp only [hid, if_false] at him
      obtain ⟨p, q, r⟩ := h.lt id im him
      exact ⟨.inl p, by rw [hw]; simp; omega, r⟩
  · rcases ha with ha | ha
    · exact h.alt id ha
    · exact ha ▸ hnx
  · by_cases h1 : i = nid <;> by_cases h2 : j = nid
    · rw [h1, h2]
    · simp only [h1, if_true, Option.some.injEq, h2, if_false] at hi hj
      subst hi
      have := (h.lt j jm hj).2.1
      simp at hij; omega
    · simp only [h1, if_false, h2, if_true, Option.some.injEq] at hi hj
      subst hj
      have := (h.lt i im hi).2.1
      simp at hij; omega
    · simp only [h1, if_false, h2] at hi hj
      exact h.inj i j im jm hi hj hij
  · by_cases hid : id = nid
    · simp only [hid, if_true, Option.some.injEq] at hg
      cases hg
    · simp only [hid, if_false] at him hg
      exact (h.arr id im cs' e' gr' him hg).ext hx (hold _ (h.lt id im him).2.1)
  · by_cases hid : id = nid
    · simp only [hid, if_true, Option.some.injEq] at him hg
      subst him
      cases hg
      exact ⟨#[], clock, by rw [hw]; simp, rfl, fun i k v hi => by simp at hi⟩
    · simp only [hid, if_false] at him hg
      exact (h.map id im es him hg).ext hx (hold _ (h.lt id im him).2.1)

/-- A block of the heap turns: the same cells' number, other values. -/
theorem R.turn {id : Nat} {im : Img} {o' : HObj} (h : R K A μ g nx w) (him : μ id = some im) (hsz : w'.heap.size = w.heap.size) (he : w'.os = w.os ∧ w'.output = w.output) (hoth : ∀ b, b ≠ im.b → w'.heap[b]? = w.heap[b]?)
    (hok : Ext K A μ w A μ w' → match o' with | .arr cs e gr => BlkOk K A μ w' im cs e gr | .map es => MapOk K A μ w' im es) :
    R K A μ (fun i => if i = id then some o' else g i) nx w' ∧ Ext K A μ w A μ w' := by
  have hbad : Bad K μ im.b := .inr ⟨id, im, him, rfl⟩
  have hx : Ext K A μ w A μ w' := by
    refine ⟨by omega, fun id ha => ⟨ha, .inl rfl⟩, fun b hb hnb => ⟨hnb, hoth b fun e => hnb (e ▸ hbad)⟩, fun b hb hk => hoth b fun e => (h.lt id im him).2.2 (e ▸ hk), he⟩
  have hok := hok hx
  refine ⟨⟨fun j => ?_, fun j jm hj => ?_, h.alt, h.inj, fun j jm cs e gr hj hg => ?_, fun j jm es hj hg => ?_⟩, hx⟩
  · by_cases hj : j = id
    · subst hj; simp [him]
    · simp only [hj, if_false]; exact h.dom j
  · rw [hsz]; exact h.lt j jm hj
  · by_cases hji : j = id
    · subst hji
      rw [him] at hj; cases hj
      simp only [if_true, Option.some.injEq] at hg
      subst hg
      exact hok
    · simp only [hji, if_false] at hg
      exact (h.arr j jm cs e gr hj hg).ext hx (hoth _ fun e => hji (h.inj j id jm im hj him e))
  · by_cases hji : j = id
    · subst hji
      rw [him] at hj; cases hj
      simp only [if_true, Option.some.injEq] at hg
      subst hg
      exact hok
    · simp only [hji, if_false] at hg
      exact (h.map j jm es hj hg).ext hx (hoth _ fun e => hji (h.inj j id jm im hj him e))

theorem R.congr {g' : Nat → Option HObj} (h : R K A μ g nx w) (hg : ∀ i, g' i = g i) : R K A μ g' nx w := by
  have : g' = g := funext hg
  rw [this]; exact h

theorem oneCell_of {bad : Nat → Prop} {a : AVal} {x : Value} (hx : V bad w μ A a x) (hc : isCell a = true) : x.oneCell' = true := by
  cases hx <;> first | rfl | cases hc

/-- Stores, one by one. -/
theorem run_stores {P : Program} {b o : Nat} {T : TypeId} {lo hi : Nat} : ∀ (vs : List Value) (j : Nat) (w : World) (xs : Array Value), w.heap[b]? = some (.cells xs T (lo, hi)) →
    o + j + vs.length ≤ xs.size → (lo = hi ∨ xs.size ≤ lo) → (∀ v ∈ vs, v.oneCell' = true) →
    ∃ w', (storeCells ⟨b, o, none⟩ vs j).run P w = .ok () w' ∧ (w'.os = w.os ∧ w'.output = w.output) ∧ w'.heap.size = w.heap.size ∧ (∀ k, k ≠ b → w'.heap[k]? = w.heap[k]?) ∧
      ∃ xs', w'.heap[b]? = some (.cells xs' T (lo, hi)) ∧ xs'.size = xs.size ∧ ∀ i, xs'[i]? = if o + j ≤ i ∧ i < o + j + vs.length then vs[i - (o + j)]? else xs[i]? := by
  intro vs
  induction vs with
  | nil =>
    intro j w xs hb hl hf h1
    exact ⟨w, by simp [storeCells], ⟨rfl, rfl⟩, rfl, fun _ _ => rfl, xs, hb, rfl, fun i => by rw [if_neg (by simp)]⟩
  | cons v vs ih =>
    intro j w xs hb hl hf h1
    simp only [List.length_cons] at hl
    have hlt : o + j < xs.size := by omega
    have hc : w.cell? ⟨b, o + j, none⟩ = some xs[o + j] := by rw [cell_of_heap hb]; simp [hlt]
    have hfr : w.frozen? ⟨b, o + j, none⟩ = false := frozen_of_heap hb hf hlt
    have hblt : b < w.heap.size := by
      by_cases h : b < w.heap.size
      · exact h
      · rw [Array.getElem?_eq_none (by omega)] at hb; cases hb
    have hb' : (w.setCell ⟨b, o + j, none⟩ v).heap[b]? = some (.cells (xs.setIfInBounds (o + j) v) T (lo, hi)) := by
      simp only [World.setCell, Array.getElem?_modify, if_true, hb, Option.map_some]
      rfl
    obtain ⟨w', h2, h2e, h3, h4, xs', h5, h6, h7⟩ := ih (j + 1) _ _ hb' (by simp; omega) (by simpa using hf) (fun u hu => h1 u (by simp [hu]))
    refine ⟨w', ?_, ⟨h2e.1, h2e.2⟩, by rw [h3]; simp, fun k hk => ?_, xs', h5, by simpa using h6, fun i => ?_⟩
    · simp only [storeCells, Sem.run_bind, add_none, run_store _ _ _ _ _ (h1 v (by simp)), hc, hfr, Bool.false_eq_true, if_false, Result.andThen_ok]
      exact h2
    · rw [h4 k hk]
      simp only [World.setCell]
      rw [Array.getElem?_modify]
      simp [Ne.symm hk]
    · rw [h7]
      by_cases hi : o + (j + 1) ≤ i ∧ i < o + (j + 1) + vs.length
      · rw [if_pos hi, if_pos (by simp; omega), show i - (o + j) = (i - (o + (j + 1))) + 1 from by omega]
        simp
      · rw [if_neg hi]
        by_cases h2 : i = o + j
        · subst h2
          rw [if_pos (by simp)]
          simp [Array.getElem?_setIfInBounds, hlt]
        · rw [if_neg (by simp; omega), Array.getElem?_setIfInBounds_ne (by omega)]
end Go.Den
