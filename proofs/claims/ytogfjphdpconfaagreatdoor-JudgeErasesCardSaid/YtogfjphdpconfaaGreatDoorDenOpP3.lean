/- Operations that look at no memory: the whole. -/
import Derived.Test.YtogfjphdpconfaaGreatDoorDenOpP2
namespace Go.Den
open Go
variable {C : Cfg} {bad : Nat → Prop} {w : World} {μ : Mu} {A : Nat → Prop}

theorem add_none (b o n : Nat) : Addr.add ⟨b, o, none⟩ n = ⟨b, o + n, none⟩ := by
  unfold Addr.add; by_cases h : n = 0 <;> simp [h]

theorem V.drop_cells {cs : List AVal} {b o : Nat} {f : Nat → Value} (hb : cs ≠ [] → ¬ bad b)
    (hc : ∀ (i : Nat) (a : AVal), cs[i]? = some a → isCell a = true ∧ w.cell? ⟨b, o + i, none⟩ = some (f i)) (hv : ∀ (i : Nat) (a : AVal), cs[i]? = some a → V bad w μ (fun _ => False) a (f i)) (n : Nat) :
    V bad w μ A (.fptr (cs.drop n)) (.pointer (some ⟨b, o + n, none⟩)) := by
  refine .fptr A (cs.drop n) b (o + n) (fun i => f (n + i)) (fun hne => hb ?_) (fun i a hi => ?_) (fun i a hi => ?_)
  · rintro rfl; simp at hne
  · rw [List.getElem?_drop] at hi
    obtain ⟨h1, h2⟩ := hc _ _ hi
    refine ⟨h1, ?_⟩
    rw [← h2]; congr 2; omega
  · rw [List.getElem?_drop] at hi
    exact hv _ _ hi

theorem moved_ok {n : Nat} {v v' : AVal} {x : Value} (h : moved n v = some v') (hx : V bad w μ A v x) : ∃ a, x = .pointer (some a) ∧ V bad w μ A v' (.pointer (some (a.add n))) := by
  unfold moved at h
  split at h
  · rename_i id off
    cases h
    cases hx with | ptr _ _ _ a h1 h2 =>
    refine ⟨a, rfl, .ptr _ _ _ _ h1 fun im him => ?_⟩
    rw [h2 im him, add_none, Nat.add_assoc]
  · rename_i cs
    cases hx with | fptr _ _ b o f hb hc hv =>
    by_cases hn : n ≤ cs.length
    · simp only [natBle, hn, decide_true, cond_true, Option.some.injEq] at h
      subst h
      exact ⟨_, rfl, by rw [add_none]; exact V.drop_cells hb hc hv n⟩
    · simp [natBle, hn] at h
  · cases h

theorem fieldPlace_run {P : Program} {f : Field} {i : TypeInfo} (hi : P.info? f.type = some i) (hs : i.size ≠ 0) (a : Addr) (w : World) : (fieldPlace a f).run P w = .ok (a.add f.offset) w := by
  simp [fieldPlace, r_size hi, hs]

theorem fieldAddrA_ok {s : TypeId} {v v' : AVal} {n : Nat} (h : fieldAddrA C s v n = some v') {x : Value} (hx : V bad w μ A v x) :
    ∃ y, Runs C.P (Instr.fieldAt s x n) y ∧ V bad w μ A v' y := by
  unfold fieldAddrA at h
  split at h
  · rename_i fields hu
    split at h
    · rename_i fd hf
      split at h
      · rename_i i hi
        by_cases hs : i.size = 0
        · simp [natBeq, hs] at h
        · simp only [natBeq, hs, decide_false, cond_false] at h
          obtain ⟨a, rfl, hv⟩ := moved_ok h hx
          exact ⟨_, fun w => by simp [Instr.fieldAt, r_underlying hu, hf, Instr.sureAddr, fieldPlace_run hi hs], hv⟩
      · cases h
    · cases h
  · cases h

theorem sub_cells {cs : List AVal} {xs : Array Value} (h1 : cs.length = xs.size) (h2 : ∀ a ∈ cs, isCell a = true) (h3 : ∀ (i : Nat) (a : AVal) (x : Value), cs[i]? = some a → xs[i]? = some x → V bad w μ A a x) (off n : Nat) :
    V bad w μ A (.agg ((cs.drop off).take n)) (.agg (xs.extract off (off + n))) := by
  refine .agg _ _ _ ?_ (fun a ha => h2 a (List.mem_of_mem_drop (List.mem_of_mem_take ha))) (fun i a x hi hx => ?_)
  · simp [h1]; omega
  · rw [List.getElem?_take] at hi
    split at hi <;> try (cases hi; done)
    rename_i hlt
    rw [List.getElem?_drop] at hi
    have hlt2 : off + i < cs.length := (List.getElem?_eq_some_iff.1 hi).1
    refine h3 (off + i) a x hi ?_
    rw [Array.getElem?_extract] at hx
    split at hx
    · exact hx
    · cases hx

theorem part_ok {cs : List AVal} {xs : Array Value} (h1 : cs.length = xs.size) (h2 : ∀ a ∈ cs, isCell a = true) (h3 : ∀ (i : Nat) (a : AVal) (x : Value), cs[i]? = some a → xs[i]? = some x → V bad w μ A a x)
    {t : TypeId} {off : Nat} {v : AVal} (h : partA C t cs off = some v) :
    ∃ y, Runs C.P (part t xs off) y ∧ V bad w μ A v y := by
  unfold partA at h
  split at h
  · rename_i i hi ha
    by_cases hb : off + i.size ≤ cs.length
    · simp only [natBle, hb, decide_true, cond_true, Option.some.injEq] at h
      subst h
      exact ⟨_, fun w => by simp [part, r_isAgg ha, r_size hi], sub_cells h1 h2 h3 off i.size⟩
    · simp [natBle, hb] at h
  · rename_i i hi ha
    have hlt : off < xs.size := by rw [← h1]; exact (List.getElem?_eq_some_iff.1 h).1
    exact ⟨xs[off], fun w => by simp [part, r_isAgg ha, hlt], h3 off v _ h (by simp [hlt])⟩
  · cases h

theorem fieldA_ok {t : TypeId} {v v' : AVal} {n : Nat} (h : fieldA C t v n = some v') {x : Value} (hx : V bad w μ A v x) :
    ∃ y, Runs C.P (Instr.field t x n) y ∧ V bad w μ A v' y := by
  unfold fieldA at h
  split at h
  · rename_i fields cs hu
    split at h
    · rename_i fd hf
      cases hx with | agg _ _ xs h1 h2 h3 =>
      obtain ⟨y, hy, hv⟩ := part_ok h1 h2 h3 h
      exact ⟨y, fun w => by simp [Instr.field, r_underlying hu, hf, asAgg, hy w], hv⟩
    · cases h
  · cases h

theorem indexA_ok {t : TypeId} {v i v' : AVal} (h : indexA C t v i = some v') {x y : Value} (hx : V bad w μ A v x) (hi : V bad w μ A i y) :
    ∃ z, Runs C.P (Instr.index t x y) z ∧ V bad w μ A v' z := by
  unfold indexA at h
  split at h
  · rename_i len elem cs k i hu
    split at h
    · rename_i n hn
      by_cases hc : 0 ≤ i ∧ i < len
      · simp only [hc.1, hc.2, decide_true, Bool.and_true, cond_true] at h
        cases hx with | agg _ _ xs h1 h2 h3 =>
        obtain rfl := V.int_inv hi
        obtain ⟨z, hz, hv⟩ := part_ok h1 h2 h3 h
        exact ⟨z, fun w => by simp [Instr.index, asIntOf, r_underlying hu, hc.1, hc.2, r_size hn, hz w], hv⟩
      · have : (decide (0 ≤ i) && decide (i < len)) = false := by simp only [Bool.and_eq_false_iff, decide_eq_false_iff_not]; by_cases h0 : 0 ≤ i; exact .inr fun h1 => hc ⟨h0, h1⟩; exact .inl h0
        rw [this, cond_false] at h; cases h
    · cases h
  · rename_i s k i hu
    by_cases h0 : 0 ≤ i
    · simp only [h0, decide_true, cond_true] at h
      split at h
      · rename_i b hb
        cases h
        obtain ⟨bs, rfl, rfl⟩ := V.str_inv hx
        obtain rfl := V.int_inv hi
        have hb' : bs[i.toNat]? = some b := by
          have hlt : i.toNat < bs.data.toList.length := (List.getElem?_eq_some_iff.1 hb).1
          have hlt' : i.toNat < bs.size := by rw [size_data] at hlt; exact hlt
          rw [getElem?_pos bs _ hlt']
          rw [List.getElem?_eq_getElem hlt] at hb
          simp only [Option.some.injEq] at hb ⊢
          rw [← hb]; rfl
        exact ⟨_, fun w => by simp [Instr.index, asIntOf, r_underlying hu, h0, hb'], .int _ _ _⟩
      · cases h
    · simp [h0] at h
  · cases h

theorem indexAddrA_ok {t : TypeId} {v i v' : AVal} (h : indexAddrA C t v i = some v') {x y : Value} (hx : V bad w μ A v x) (hi : V bad w μ A i y) :
    ∃ z, Runs C.P (Instr.indexAt t x y) z ∧ V bad w μ A v' z := by
  unfold indexAddrA at h
  split at h
  · rename_i len elem k i hu
    split at h
    · rename_i n hn
      cases hc : (decide (0 ≤ i) && decide (i < (len : Int)))
      · rw [hc, cond_false] at h; cases h
      · rw [hc, cond_true] at h
        simp only [Bool.and_eq_true, decide_eq_true_eq] at hc
        obtain rfl := V.int_inv hi
        obtain ⟨a, rfl, hv⟩ := moved_ok h hx
        exact ⟨_, fun w => by simp [Instr.indexAt, asIntOf, r_underlying hu, Instr.sureAddr, hc.1, hc.2, r_size hn], hv⟩
    · cases h
  · rename_i elem k i hu
    split at h
    · rename_i n hn
      obtain rfl := V.int_inv hi
      split at h
      · rename_i id off len c full e
        cases hc : (decide (0 ≤ i) && decide (i < (len : Int)))
        · rw [hc, cond_false] at h; cases h
        · rw [hc, cond_true] at h
          cases h
          simp only [Bool.and_eq_true, decide_eq_true_eq] at hc
          cases hx with | slice _ _ _ _ _ _ _ a c' h1 h2 h3 h4 h5 =>
          refine ⟨.pointer (some (a.add (i.toNat * n.size))), fun w => by simp [Instr.indexAt, asIntOf, r_underlying hu, hc.1, hc.2, r_size hn], .ptr _ _ _ _ h1 fun im him => ?_⟩
          rw [(h2 im him).1, add_none, Nat.add_assoc]
      · rename_i cs len ex
        cases hc : (decide (0 ≤ i) && decide (i < (len : Int)) && Nat.blt (i.toNat * n.size) cs.length)
        · rw [hc, cond_false] at h; cases h
        · rw [hc, cond_true] at h
          cases h
          simp only [Bool.and_eq_true, decide_eq_true_eq, natBlt] at hc
          obtain ⟨⟨hc1, hc2⟩, hc3⟩ := hc
          cases hx with | list _ _ _ _ a c' o f h1 h2 h3 h4 h5 =>
          have hne : cs ≠ [] := by rintro rfl; simp at hc3
          obtain ⟨ha, hb⟩ := h1 hne
          refine ⟨.pointer (some (a.add (i.toNat * n.size))), fun w => by simp [Instr.indexAt, asIntOf, r_underlying hu, hc1, hc2, r_size hn], ?_⟩
          rw [ha, add_none]
          exact V.drop_cells (fun _ => hb) h2 h3 _
      · cases h
    · cases h
  · cases h

theorem nilCheck_ok {v : AVal} {x : Value} (hx : V bad w μ A v x) (h : (∃ i j, v = .ptr i j) ∨ ∃ cs, v = .fptr cs) : ∃ a, x = .pointer (some a) := by
  rcases h with ⟨i, j, rfl⟩ | ⟨cs, rfl⟩ <;> cases hx <;> exact ⟨_, rfl⟩

/-- A bound of a slice expression. -/
theorem boundA_ok {y d n : Nat} {v : AVal} {x : Value} (h : boundA y (some v) d = some n) (hx : V bad w μ A v x) (code : BoundsCode) (P : Program) (w' : World) : (Instr.sliceBound x y code).run P w' = .ok n w' ∧ n ≤ y := by
  cases v <;> simp only [boundA] at h <;> try (cases h; done)
  · rename_i k i
    cases hc : (decide (0 ≤ i) && decide (i ≤ (y : Int)))
    · rw [hc, cond_false] at h; cases h
    · rw [hc, cond_true] at h
      cases h
      simp only [Bool.and_eq_true, decide_eq_true_eq] at hc
      obtain rfl := V.int_inv hx
      exact ⟨by simp [Instr.sliceBound, asIntOf, hc.1, hc.2], by omega⟩

/-- Operands that may lack. -/
def VO (bad : Nat → Prop) (w : World) (μ : Mu) (A : Nat → Prop) : Option AVal → Option Value → Prop
  | none, none => True
  | some a, some x => V bad w μ A a x
  | _, _ => False

theorem evO_ok {t : Tmps} {a : Act} {x : Option Operand} {v : Option AVal} (hg : GlobOk C bad w μ) (ht : TR bad w μ A t a.tmps) (h : evO C t x = some v) : VO bad w μ A v (x.map a.eval) := by
  cases x with
  | none => cases h; trivial
  | some x =>
    simp only [evO] at h
    split at h
    · rename_i v' hv; cases h; exact ev_V hg ht hv
    · cases h

theorem boundA_le {y d n : Nat} {v : Option AVal} (h : boundA y v d = some n) (hd : d ≤ y) : n ≤ y := by
  cases v with
  | none => cases h; exact hd
  | some v =>
    cases v <;> simp only [boundA] at h <;> try (cases h; done)
    rename_i k i
    cases hc : (decide (0 ≤ i) && decide (i ≤ (y : Int)))
    · rw [hc, cond_false] at h; cases h
    · rw [hc, cond_true] at h
      cases h
      simp only [Bool.and_eq_true, decide_eq_true_eq] at hc
      omega

theorem boundsA_ok {len cap a b m : Nat} {lo hi mx : Option AVal} {lo' hi' mx' : Option Value} (h : boundsA len cap lo hi mx = some (a, b, m)) (hlo : VO bad w μ A lo lo') (hhi : VO bad w μ A hi hi') (hmx : VO bad w μ A mx mx')
    (hlen : len ≤ cap) (isSlice : Bool) (P : Program) (w' : World) :
    (Instr.sliceBounds isSlice len cap lo' hi' mx').run P w' = .ok (a, b, m) w' ∧ a ≤ b ∧ b ≤ m ∧ m ≤ cap := by
  unfold boundsA at h
  split at h; · cases h
  rename_i hnot
  split at h; · cases h
  rename_i m' hm
  split at h; · cases h
  rename_i b' hb
  split at h; · cases h
  rename_i a' ha
  simp only [Option.some.injEq, Prod.mk.injEq] at h
  obtain ⟨rfl, rfl, rfl⟩ := h
  have hm1 : m' ≤ cap := boundA_le hm (Nat.le_refl _)
  have ha1 : a' ≤ b' := boundA_le ha (Nat.zero_le _)
  have hb1 : b' ≤ m' := by
    cases hi with
    | some x => cases x <;> simp only [boundA] at hb <;> try (cases hb; done)
                rename_i k i
                cases hc : (decide (0 ≤ i) && decide (i ≤ (m' : Int)))
                · rw [hc, cond_false] at hb; cases hb
                · rw [hc, cond_true] at hb; cases hb
                  simp only [Bool.and_eq_true, decide_eq_true_eq] at hc
                  omega
    | none =>
      cases mx with
      | none => simp only [boundA, Option.some.injEq] at hm hb; omega
      | some x => exact (hnot x rfl rfl).elim
  refine ⟨?_, ha1, hb1, hm1⟩
  cases mx <;> cases mx' <;> simp only [VO] at hmx <;> cases hi <;> cases hi' <;> simp only [VO] at hhi <;> cases lo <;> cases lo' <;> simp only [VO] at hlo
  · cases hm; cases hb; cases ha
    simp [Instr.sliceBounds]
  · cases hm; cases hb
    simp [Instr.sliceBounds, (boundA_ok ha hlo _ P w').1]
  · cases hm; cases ha
    simp [Instr.sliceBounds, (boundA_ok hb hhi _ P w').1]
  · cases hm
    simp [Instr.sliceBounds, (boundA_ok hb hhi _ P w').1, (boundA_ok ha hlo _ P w').1]
  · exact (hnot _ rfl rfl).elim
  · exact (hnot _ rfl rfl).elim
  · cases ha
    simp [Instr.sliceBounds, (boundA_ok hb hhi _ P w').1, (boundA_ok hm hmx _ P w').1]
  · simp [Instr.sliceBounds, (boundA_ok hb hhi _ P w').1, (boundA_ok hm hmx _ P w').1, (boundA_ok ha hlo _ P w').1]

theorem V.empty (len : Nat) (ex : Bool) (a : Addr) (c : Nat) (he : ex = true → c = len) (hl : len ≤ c) : V bad w μ A (.list [] len ex) (.slice (some a) len c) :=
  .list _ [] len ex a c 0 (fun _ => .bool false) (by simp) (by simp) (by simp) he hl

theorem V.sub_list {cs : List AVal} {len : Nat} {ex : Bool} {a : Addr} {c : Nat} (h : V bad w μ A (.list cs len ex) (.slice (some a) len c)) (off n k : Nat) (ex' : Bool) (c' : Nat) (he : ex' = true → c' = k) (hl : k ≤ c') :
    V bad w μ A (.list ((cs.drop off).take n) k ex') (.slice (some (a.add off)) k c') := by
  cases h with | list _ _ _ _ _ _ o f hb hc hv _ _ =>
  by_cases hne : (cs.drop off).take n = []
  · rw [hne]; exact V.empty _ _ _ _ he hl
  · have hcs : cs ≠ [] := by rintro rfl; simp at hne
    obtain ⟨ha, hnb⟩ := hb hcs
    have hblk : (a.add off).block = a.block := by unfold Addr.add; split <;> rfl
    have hget : ∀ (i : Nat) (x : AVal), ((cs.drop off).take n)[i]? = some x → cs[off + i]? = some x := by
      intro i x hi
      rw [List.getElem?_take] at hi
      split at hi
      · rwa [List.getElem?_drop] at hi
      · cases hi
    refine .list _ _ _ _ _ _ (o + off) (fun i => f (off + i)) (fun _ => ⟨?_, by rw [hblk]; exact hnb⟩) (fun i x hi => ?_) (fun i x hi => hv _ _ (hget i x hi)) he hl
    · rw [ha, add_none]
    · obtain ⟨p, q⟩ := hc _ _ (hget i x hi)
      refine ⟨p, ?_⟩
      rw [hblk, ← q]
      congr 2; omega

theorem boundA_mono {y y' d n : Nat} {v : Option AVal} (h : boundA y v d = some n) (hy : y ≤ y') : boundA y' v d = some n := by
  cases v with
  | none => exact h
  | some v =>
    cases v <;> simp only [boundA] at h ⊢ <;> try (cases h; done)
    rename_i k i
    cases hc : (decide (0 ≤ i) && decide (i ≤ (y : Int)))
    · rw [hc, cond_false] at h; cases h
    · rw [hc, cond_true] at h
      simp only [Bool.and_eq_true, decide_eq_true_eq] at hc
      have : (decide (0 ≤ i) && decide (i ≤ (y' : Int))) = true := by simp only [Bool.and_eq_true, decide_eq_true_eq]; omega
      rw [this, cond_true]; exact h

theorem boundsA_mono {len cap cap' a b m : Nat} {lo hi mx : Option AVal} (h : boundsA len cap lo hi mx = some (a, b, m)) (hc : cap ≤ cap') :
    boundsA len cap' lo hi mx = some (a, b, if mx.isSome = true then m else cap') ∧ (mx = none → m = cap) := by
  unfold boundsA at h
  split at h; · cases h
  rename_i hnot
  split at h; · cases h
  rename_i m' hm
  split at h; · cases h
  rename_i b' hb
  split at h; · cases h
  rename_i a' ha
  simp only [Option.some.injEq, Prod.mk.injEq] at h
  obtain ⟨rfl, rfl, rfl⟩ := h
  have hm1 : m' ≤ cap := boundA_le hm (Nat.le_refl _)
  cases mx with
  | none =>
    simp only [boundA, Option.some.injEq] at hm
    subst hm
    refine ⟨?_, fun _ => rfl⟩
    simp only [boundsA]
    rw [show boundA cap' none cap' = some cap' from rfl]
    simp only [boundA_mono hb hc, ha, Option.isSome_none, Bool.false_eq_true, if_false]
  | some x =>
    cases hi with
    | none => exact (hnot x rfl rfl).elim
    | some y =>
      refine ⟨?_, fun h => by cases h⟩
      have hm' : boundA cap' (some x) cap' = some m' := by
        have := boundA_mono hm hc
        cases x <;> simp only [boundA] at this ⊢ <;> first | exact this | cases this
      simp only [boundsA, hm', hb, ha, Option.isSome_some, if_true]

theorem slice_run {t elem : TypeId} {n : TypeInfo} (hu : C.P.underlying t = some (.slice elem)) (hn : C.P.info? elem = some n) {len c a b m : Nat} {lo' hi' mx' : Option Value}
    (hb : ∀ w', (Instr.sliceBounds true len c lo' hi' mx').run C.P w' = .ok (a, b, m) w') (ad : Addr) :
    Runs C.P (Instr.sliceAt t (.slice (some ad) len c) lo' hi' mx') (.slice (some (if m = a then ad else ad.add (a * n.size))) (b - a) (m - a)) := by
  intro w'
  have : ((if m = a then some ad else (some ad).map (·.add (a * n.size))) : Option Addr) = some (if m = a then ad else ad.add (a * n.size)) := by split <;> rfl
  simp [Instr.sliceAt, Instr.slice, r_underlying hu, hb w', r_size hn]
  split <;> rfl

theorem V.sub_slice {id off len cap : Nat} {full full' : Bool} {e : Nat} {ad : Addr} {c : Nat} (h : V bad w μ A (.slice id off len cap full e) (.slice (some ad) len c)) (k sz l' cap' c' : Nat)
    (he : full' = false → full = false ∧ e = sz ∧ k + c' = c) (hf : full' = true → c' = cap') (hl : l' ≤ cap') (hc : cap' ≤ c') :
    V bad w μ A (.slice id (off + k * sz) l' cap' full' e) (.slice (some (ad.add (k * sz))) l' c') := by
  cases h with | slice _ _ _ _ _ _ _ _ _ g1 g2 g3 g4 g5 =>
  refine .slice _ _ _ _ _ _ _ _ _ g1 (fun im him => ?_) hf hl hc
  obtain ⟨p, q⟩ := g2 im him
  refine ⟨by rw [p, add_none, Nat.add_assoc], fun hf' => ?_⟩
  obtain ⟨h1, h2, h3⟩ := he hf'
  obtain ⟨q1, q2⟩ := q h1
  refine ⟨?_, q2⟩
  rw [← h2, q2, ← q1, ← h3, Nat.add_mul]
  omega

theorem sliceA_ok {t : TypeId} {v v' : AVal} {lo hi mx : Option AVal} {lo' hi' mx' : Option Value} (h : sliceA C t v lo hi mx = some v') {x : Value} (hx : V bad w μ A v x)
    (hlo : VO bad w μ A lo lo') (hhi : VO bad w μ A hi hi') (hmx : VO bad w μ A mx mx') : ∃ z, Runs C.P (Instr.sliceAt t x lo' hi' mx') z ∧ V bad w μ A v' z := by
  unfold sliceA at h
  split at h
  · rename_i s hu
    split at h; · cases h
    split at h
    · rename_i a b m hbd
      cases h
      obtain ⟨bs, rfl, rfl⟩ := V.str_inv hx
      have hmx' : mx' = none := by cases mx' <;> simp [VO] at hmx ⊢
      subst hmx'
      have hb := fun w' => boundsA_ok (bad := bad) (w := w) (μ := μ) (A := A) (mx' := none) hbd hlo hhi trivial (Nat.le_refl _) false C.P w'
      rw [size_data] at hb
      refine ⟨.string (bs.extract a b), fun w' => by simp [Instr.sliceAt, Instr.slice, r_underlying hu, (hb w').1], ?_⟩
      have hs := V.str (bad := bad) (w := w) (μ := μ) A (bs.extract a b)
      have : (bs.extract a b).data.toList = (bs.data.toList.take b).drop a := by
        simp [ByteArray.data_extract, List.drop_take]
      rwa [this] at hs
    · cases h
  · rename_i elem hu
    split at h; · cases h
    rename_i n hn
    split at h
    · split at h
      · rename_i abm hbd
        obtain ⟨a, b, m⟩ := abm
        cases h
        cases hx
        have hb := fun w' => boundsA_ok (bad := bad) (w := w) (μ := μ) (A := A) hbd hlo hhi hmx (Nat.le_refl _) true C.P w'
        obtain ⟨-, h1, h2, h3⟩ := hb w
        have : a = 0 ∧ b = 0 ∧ m = 0 := by omega
        obtain ⟨rfl, rfl, rfl⟩ := this
        exact ⟨.slice none 0 0, fun w' => by simp [Instr.sliceAt, Instr.slice, r_underlying hu, (hb w').1, r_size hn], .nilslice _⟩
      · cases h
    · rename_i id off len c full e
      have hx0 := hx
      cases hx with | slice _ _ _ _ _ _ _ ad c' g1 g2 g3 g4 g5 =>
      split at h
      · rename_i a b m hbd
        obtain ⟨hbd', hmc⟩ := boundsA_mono hbd g5
        have hb := fun w' => boundsA_ok (bad := bad) (w := w) (μ := μ) (A := A) hbd' hlo hhi hmx (by omega) true C.P w'
        obtain ⟨-, h1, h2, h3⟩ := boundsA_ok (bad := bad) (w := w) (μ := μ) (A := A) hbd hlo hhi hmx g4 true C.P w
        have hrun := slice_run hu hn (fun w' => (hb w').1) ad
        refine ⟨_, hrun, ?_⟩
        cases mx with
        | some y =>
          simp only [Option.isSome_some, if_true] at h ⊢
          by_cases ham : a = m
          · subst ham
            simp only [natBeq, decide_true, cond_true, Option.some.injEq] at h
            subst h
            have : b - a = 0 := by omega
            rw [this]
            exact V.empty _ _ _ _ (fun _ => by omega) (Nat.zero_le _)
          · simp only [natBeq, ham, decide_false, cond_false, Option.some.injEq] at h
            subst h
            rw [if_neg (fun e => ham e.symm)]
            exact V.sub_slice hx0 a n.size _ _ _ (fun e => by cases e) (fun _ => rfl) (by omega) (Nat.le_refl _)
        | none =>
          obtain rfl := hmc rfl
          simp only [Option.isSome_none, Bool.false_eq_true, if_false] at h ⊢
          cases full with
          | true =>
            obtain rfl := g3 rfl
            simp only [cond_true] at h
            by_cases ham : a = c'
            · subst ham
              simp only [natBeq, decide_true, cond_true, Option.some.injEq] at h
              subst h
              have : b - a = 0 := by omega
              rw [this]
              exact V.empty _ _ _ _ (fun _ => by omega) (Nat.zero_le _)
            · simp only [natBeq, ham, decide_false, cond_false, Option.some.injEq] at h
              subst h
              rw [if_neg (fun e => ham e.symm)]
              exact V.sub_slice hx0 a n.size _ _ _ (fun e => by cases e) (fun _ => rfl) (by omega) (Nat.le_refl _)
          | false =>
            simp only [cond_false] at h
            by_cases hes : e = n.size
            · simp only [natBeq, hes, decide_true, cond_true] at h
              cases hz : (decide (a = 0) || Nat.blt a m)
              · rw [hz, cond_false] at h
                cases h
                simp only [Bool.or_eq_false_iff, decide_eq_false_iff_not, natBlt] at hz
                have : b - a = 0 := by omega
                rw [this]
                exact V.empty _ _ _ _ (fun e => by cases e) (Nat.zero_le _)
              · rw [hz, cond_true] at h
                cases h
                simp only [Bool.or_eq_true, decide_eq_true_eq, natBlt] at hz
                have hadd : (if c' = a then ad else ad.add (a * n.size)) = ad.add (a * n.size) := by
                  split
                  · have : a = 0 := by omega
                    subst this
                    simp [Addr.add]
                  · rfl
                rw [hadd, ← hes]
                exact V.sub_slice hx0 a e _ _ _ (fun _ => ⟨rfl, rfl, by omega⟩) (fun e => by cases e) (by omega) (by omega)
            · simp [natBeq, hes] at h
      · cases h
    · rename_i cs len ex
      have hx0 := hx
      cases hx with | list _ _ _ _ ad c' o f g1 g2 g3 g4 g5 =>
      split at h
      · rename_i a b m hbd
        cases h
        obtain ⟨hbd', hmc⟩ := boundsA_mono hbd g5
        have hb := fun w' => boundsA_ok (bad := bad) (w := w) (μ := μ) (A := A) hbd' hlo hhi hmx (by omega) true C.P w'
        obtain ⟨-, h1, h2, h3⟩ := boundsA_ok (bad := bad) (w := w) (μ := μ) (A := A) hbd hlo hhi hmx (Nat.le_refl _) true C.P w
        refine ⟨_, slice_run hu hn (fun w' => (hb w').1) ad, ?_⟩
        have key : ∀ (ex' : Bool) (m' : Nat), b ≤ m' → (ex' = true → m' - a = b - a) →
            V bad w μ A (.list ((cs.drop (a * n.size)).take ((b - a) * n.size)) (b - a) ex') (.slice (some (if m' = a then ad else ad.add (a * n.size))) (b - a) (m' - a)) := by
          intro ex' m' hm' he
          by_cases hma : m' = a
          · have : b - a = 0 := by omega
            rw [this]
            simp only [Nat.zero_mul, List.take_zero]
            exact V.empty _ _ _ _ (fun h => by have := he h; omega) (Nat.zero_le _)
          · rw [if_neg hma]
            exact V.sub_list hx0 _ _ _ _ _ he (by omega)
        cases mx with
        | some y =>
          simp only [Option.isSome_some, if_true]
          exact key _ _ h2 (fun h => by simp only [natBeq, decide_eq_true_eq] at h; omega)
        | none =>
          obtain rfl := hmc rfl
          simp only [Option.isSome_none, Bool.false_eq_true, if_false]
          refine key _ _ (by omega) (fun h => ?_)
          simp only [natBeq, Bool.and_eq_true, decide_eq_true_eq] at h
          have := g4 h.1
          omega
      · cases h
    · cases h
  · rename_i len elem id off hu
    split at h
    · rename_i n hn
      split at h
      · rename_i a b m hbd
        cases hx with | ptr _ _ _ ad g1 g2 =>
        have hb := fun w' => boundsA_ok (bad := bad) (w := w) (μ := μ) (A := A) hbd hlo hhi hmx (Nat.le_refl _) false C.P w'
        obtain ⟨-, h1, h2, h3⟩ := hb w
        refine ⟨.slice (some (if m = a then ad else ad.add (a * n.size))) (b - a) (m - a), fun w' => by simp [Instr.sliceAt, r_underlying hu, Instr.sureAddr, (hb w').1, r_size hn], ?_⟩
        by_cases ham : a = m
        · subst ham
          simp only [natBeq, decide_true, cond_true, Option.some.injEq] at h
          subst h
          have : b - a = 0 := by omega
          rw [this]
          exact V.empty _ _ _ _ (fun _ => by omega) (Nat.zero_le _)
        · simp only [natBeq, ham, decide_false, cond_false, Option.some.injEq] at h
          subst h
          rw [if_neg (fun e => ham e.symm)]
          refine .slice _ _ _ _ _ _ _ _ _ g1 (fun im him => ⟨?_, fun e => by cases e⟩) (fun _ => rfl) (by omega) (Nat.le_refl _)
          rw [g2 im him, add_none, Nat.add_assoc]
      · cases h
    · cases h
  · cases h

end Go.Den
