/- Operations that look at no memory: what each says, the model says. -/
import Derived.Test.YtogfjphdpconfaaGreatDoorDenOpP3
namespace Go.Den
open Go
variable {C : Cfg} {bad : Nat → Prop} {w : World} {μ : Mu} {A : Nat → Prop}

theorem isCell_cases {a : AVal} (h : isCell a = true) : ∀ l, a ≠ .tuple l ∧ a ≠ .agg l := by
  intro l; constructor <;> rintro rfl <;> cases h

/-- Cells over cells. -/
theorem setRange_len {l vs : List AVal} {off : Nat} (h : off + vs.length ≤ l.length) : (setRange l off vs).length = l.length := by
  simp [setRange]; omega
theorem setRange_get {l vs : List AVal} {off : Nat} (h : off + vs.length ≤ l.length) (i : Nat) :
    (setRange l off vs)[i]? = if off ≤ i ∧ i < off + vs.length then vs[i - off]? else l[i]? := by
  unfold setRange
  have hl : (l.take off).length = off := by simp; omega
  by_cases h1 : i < off
  · rw [List.getElem?_append_left (by omega), List.getElem?_take, if_pos h1, if_neg (by omega)]
  · rw [List.getElem?_append_right (by omega), hl]
    by_cases h2 : i < off + vs.length
    · rw [List.getElem?_append_left (by omega), if_pos (by omega)]
    · rw [List.getElem?_append_right (by omega), List.getElem?_drop, if_neg (by omega)]
      congr 1; omega

theorem foldl_set (vs : List Value) : ∀ (j off : Nat) (cells : Array Value), off + j + vs.length ≤ cells.size →
    ∃ r : Array Value, (vs.zipIdx j).foldl (fun cs (p : Value × Nat) => cs.setIfInBounds (off + p.2) p.1) cells = r ∧ r.size = cells.size ∧
      ∀ i : Nat, r[i]? = if off + j ≤ i ∧ i < off + j + vs.length then vs[i - (off + j)]? else cells[i]? := by
  induction vs with
  | nil => intro j off cells h; exact ⟨cells, rfl, rfl, fun i => by rw [if_neg (by simp)]⟩
  | cons v vs ih =>
    intro j off cells h
    simp only [List.length_cons] at h
    obtain ⟨r, hr, hs, hg⟩ := ih (j + 1) off (cells.setIfInBounds (off + j) v) (by simp; omega)
    refine ⟨r, by simpa using hr, by simpa using hs, fun i => ?_⟩
    rw [hg]
    by_cases h1 : off + (j + 1) ≤ i ∧ i < off + (j + 1) + vs.length
    · rw [if_pos h1, if_pos (by simp; omega)]
      rw [show i - (off + j) = (i - (off + (j + 1))) + 1 from by omega]
      simp
    · rw [if_neg h1]
      by_cases h2 : i = off + j
      · subst h2
        rw [if_pos (by simp)]
        simp [Array.getElem?_setIfInBounds, show off + j < cells.size by omega]
      · rw [if_neg (by simp; omega), Array.getElem?_setIfInBounds_ne (by omega)]

theorem fillA_ok {place : Nat → Option (Nat × Nat)} {place' : Nat → Option (Nat × Nat)} (hp : ∀ i r, place i = some r → place' i = some r) :
    ∀ (parts : List (Nat × AVal)) (parts' : List (Nat × Value)) (cells r : List AVal) (cells' : Array Value),
      fillA place cells parts = some r →
      parts.length = parts'.length → (∀ (i : Nat) (p : Nat × AVal) (q : Nat × Value), parts[i]? = some p → parts'[i]? = some q → p.1 = q.1 ∧ V bad w μ A p.2 q.2 ∧ ∀ l, p.2 ≠ .tuple l) →
      VL bad w μ A cells cells'.toList → Cells cells →
      ∃ r', Instr.fill place' cells' parts' = some r' ∧ VL bad w μ A r r'.toList ∧ Cells r ∧ r.length = cells.length := by
  intro parts
  induction parts with
  | nil =>
    intro parts' cells r cells' h hl _ hc hcc
    cases parts' with
    | nil => simp only [fillA, Option.some.injEq] at h; subst h; exact ⟨cells', rfl, hc, hcc, rfl⟩
    | cons => simp at hl
  | cons p parts ih =>
    intro parts' cells r cells' h hl hps hc hcc
    cases parts' with
    | nil => simp at hl
    | cons q parts' =>
      obtain ⟨i, v⟩ := p
      obtain ⟨i', x⟩ := q
      obtain ⟨hi, hv, ht⟩ := hps 0 (i, v) (i', x) rfl rfl
      simp only at hi hv ht
      subst hi
      simp only [fillA] at h
      split at h; · cases h
      rename_i off size hpl
      cases hcnd : (Nat.beq (cellsOf v).length size && Nat.ble (off + (cellsOf v).length) cells.length)
      · rw [hcnd, cond_false] at h; cases h
      · rw [hcnd, cond_true] at h
        simp only [natBeq, natBle, Bool.and_eq_true, decide_eq_true_eq] at hcnd
        obtain ⟨hsz, hle⟩ := hcnd
        obtain ⟨hvl, hvc⟩ := V.cells_inv hv ht
        have hxs : x.cells.size = (cellsOf v).length := by rw [hvl.1]; simp
        have hcs : cells'.size = cells.length := by rw [hc.1]; simp
        obtain ⟨r1, hr1, hs1, hg1⟩ := foldl_set x.cells.toList 0 off cells' (by simp [hxs, hcs]; omega)
        have hz : (x.cells.zipIdx.foldl (fun cs (p : Value × Nat) => cs.setIfInBounds (off + p.2) p.1) cells') = r1 := by
          rw [← hr1, ← Array.foldl_toList, Array.toList_zipIdx]
        have hVL : VL bad w μ A (setRange cells off (cellsOf v)) r1.toList := by
          refine ⟨by rw [setRange_len hle]; simp [hs1, hcs], fun k a y ha hy => ?_⟩
          rw [setRange_get hle] at ha
          rw [Array.getElem?_toList, hg1] at hy
          simp only [Nat.add_zero, Array.length_toList, hxs] at hy
          split at ha
          · rename_i hk; rw [if_pos hk] at hy; exact hvl.2 _ _ _ ha hy
          · rename_i hk; rw [if_neg hk] at hy; exact hc.2 _ _ _ ha (by simpa using hy)
        have hCC : Cells (setRange cells off (cellsOf v)) := by
          intro a ha
          simp only [setRange, List.mem_append] at ha
          rcases ha with ha | ha | ha
          · exact hcc a (List.mem_of_mem_take ha)
          · exact hvc a ha
          · exact hcc a (List.mem_of_mem_drop ha)
        obtain ⟨r', h1, h2, h3, h4⟩ := ih parts' _ r r1 h (by simpa using hl) (fun k p q hp hq => hps (k + 1) p q (by simpa using hp) (by simpa using hq)) hVL hCC
        refine ⟨r', ?_, h2, h3, by rw [h4, setRange_len hle]⟩
        simp only [Instr.fill, hp _ _ hpl, hxs, hcs]
        have c1 : (x.cells.size != size) = false := by simp [hxs, hsz]
        rw [if_neg (by simp [hsz]; omega)]
        have hz' : x.cells.zipIdx.foldl (fun cs (p : Value × Nat) => match p with | (c, j) => cs.setIfInBounds (off + j) c) cells' = r1 := hz
        rw [hz']
        exact h1

theorem evParts_ok {t : Tmps} {a : Act} (hg : GlobOk C bad w μ) (ht : TR bad w μ A t a.tmps) : ∀ {l : List (Nat × Operand)} {r : List (Nat × AVal)}, evParts C t l = some r →
    r.length = (l.map fun (i, x) => (i, a.eval x)).length ∧ ∀ (i : Nat) (p : Nat × AVal) (q : Nat × Value), r[i]? = some p → (l.map fun (i, x) => (i, a.eval x))[i]? = some q → p.1 = q.1 ∧ V bad w μ A p.2 q.2 ∧ ∀ l, p.2 ≠ .tuple l := by
  intro l
  induction l with
  | nil => intro r h; simp only [evParts, Option.some.injEq] at h; subst h; simp
  | cons o l ih =>
    obtain ⟨i, x⟩ := o
    intro r h
    simp only [evParts] at h
    split at h
    · cases h
    · cases h
    · rename_i v hnt hv
      split at h; · cases h
      rename_i vs hvs
      cases h
      obtain ⟨h1, h2⟩ := ih hvs
      refine ⟨by simpa using h1, fun k p q hp hq => ?_⟩
      cases k with
      | zero =>
        simp at hp hq; subst hp hq
        exact ⟨rfl, ev_V hg ht hv, fun l e => hnt l (by rw [← e])⟩
      | succ k => exact h2 k p q (by simpa using hp) (by simpa using hq)

theorem zeroA_ok {t : TypeId} {v : AVal} (h : zeroA C t = some v) : ∃ i z, C.P.info? t = some i ∧ i.zero = some z ∧ V bad w μ A v z ∧ ∀ l, v ≠ .tuple l := by
  unfold zeroA at h
  split at h
  · rename_i i hi
    split at h
    · rename_i z hz
      split at h
      · cases h
      · rename_i hn
        exact ⟨i, z, hi, hz, ofValue_V 5 z v h, fun l e => hn l (by rw [h, e])⟩
    · cases h
  · cases h

theorem placesA_run {P : Program} {w' : World} : ∀ {l : List Field} {pl : List (Nat × Nat)}, mapO (fun f : Field => match P.info? f.type with | some n => some (f.offset, n.size) | none => none) l = some pl →
    (l.mapM fun f : Field => (do pure (f.offset, ← sizeOf f.type) : Sem (Nat × Nat))).run P w' = .ok pl w' := by
  intro l
  induction l with
  | nil => intro pl h; simp only [mapO, Option.some.injEq] at h; subst h; simp
  | cons f l ih =>
    intro pl h
    simp only [mapO] at h
    split at h
    · rename_i y hy
      split at h
      · rename_i ys hys
        cases h
        split at hy
        · rename_i n hn
          cases hy
          have := ih hys
          simp only [bind_pure_comp] at this
          simp [r_size hn, this]
        · cases hy
      · cases h
    · cases h

theorem buildA_ok {t : TypeId} {parts : List (Nat × AVal)} {parts' : Array (Nat × Value)} {v : AVal} (h : buildA C t parts = some v)
    (hl : parts.length = parts'.size) (hps : ∀ (i : Nat) (p : Nat × AVal) (q : Nat × Value), parts[i]? = some p → parts'[i]? = some q → p.1 = q.1 ∧ V bad w μ A p.2 q.2 ∧ ∀ l, p.2 ≠ .tuple l) :
    ∃ y, Runs C.P (Instr.build t parts') y ∧ V bad w μ A v y := by
  unfold buildA at h
  have hl' : parts.length = parts'.toList.length := by simpa using hl
  have hps' : ∀ (i : Nat) (p : Nat × AVal) (q : Nat × Value), parts[i]? = some p → parts'.toList[i]? = some q → p.1 = q.1 ∧ V bad w μ A p.2 q.2 ∧ ∀ l, p.2 ≠ .tuple l :=
    fun i p q hp hq => hps i p q hp (by simpa using hq)
  split at h
  · rename_i z fields hz hu
    split at h
    · rename_i pl hpl
      split at h
      · rename_i cs hcs
        cases h
        obtain ⟨i, zv, hi, hz', hzv, -⟩ := zeroA_ok (bad := bad) (w := w) (μ := μ) (A := A) hz
        cases hzv with | agg _ _ xs g1 g2 g3 =>
        obtain ⟨r', h1, h2, h3, h4⟩ := fillA_ok (place' := fun i => pl[i]?) (fun i r hr => hr) parts parts'.toList z cs xs hcs hl' hps'
          ⟨by simpa using g1, fun i a x ha hx => g3 i a x ha (by simpa using hx)⟩ g2
        refine ⟨.agg r', fun w' => ?_, .agg _ _ _ (by rw [h2.1]; simp) h3 (fun i a x ha hx => h2.2 i a x ha (by simpa using hx))⟩
        have hm : (fields.mapM fun f : Field => (do pure (f.offset, ← sizeOf f.type) : Sem (Nat × Nat))).run C.P w' = .ok pl.toArray w' := by
          rw [← Array.toArray_toList (xs := fields), List.mapM_toArray]
          have := placesA_run (w' := w') hpl
          simp only [bind_pure_comp] at this ⊢
          simp [this]
        simp only [bind_pure_comp] at hm
        simp [Instr.build, r_zero hi hz', r_underlying hu, hm, Value.cells, h1]
      · cases h
    · cases h
  · rename_i z len elem hz hu
    split at h
    · rename_i n hn
      split at h
      · rename_i cs hcs
        cases h
        obtain ⟨i, zv, hi, hz', hzv, -⟩ := zeroA_ok (bad := bad) (w := w) (μ := μ) (A := A) hz
        cases hzv with | agg _ _ xs g1 g2 g3 =>
        obtain ⟨r', h1, h2, h3, h4⟩ := fillA_ok (place' := fun i => some (i * n.size, n.size)) (fun i r hr => hr) parts parts'.toList z cs xs hcs hl' hps'
          ⟨by simpa using g1, fun i a x ha hx => g3 i a x ha (by simpa using hx)⟩ g2
        refine ⟨.agg r', fun w' => ?_, .agg _ _ _ (by rw [h2.1]; simp) h3 (fun i a x ha hx => h2.2 i a x ha (by simpa using hx))⟩
        simp [Instr.build, r_zero hi hz', r_underlying hu, r_size hn, Value.cells, h1]
      · cases h
    · cases h
  · cases h

theorem minA_ok {mx : Bool} : ∀ {l : List AVal} {l' : List Value} {a r : AVal} {x : Value}, minA mx a l = some r → V bad w μ A a x → VL bad w μ A l l' →
    ∃ y, (∀ w', (l'.foldlM (if mx then Builtin.max2 else Builtin.min2) x : Sem Value).run C.P w' = .ok y w') ∧ V bad w μ A r y := by
  intro l
  induction l with
  | nil =>
    intro l' a r x h hx hl
    obtain rfl := VL.nil_inv hl
    have : r = a := by cases a <;> simp [minA] at h <;> exact h.symm
    subst this
    exact ⟨x, fun w' => by simp, hx⟩
  | cons b l ih =>
    intro l' a r x h hx hl
    obtain ⟨y, ys, rfl, hy, hys⟩ := hl.cons_inv
    cases a <;> try (simp [minA] at h; done)
    cases b <;> try (simp [minA] at h; done)
    rename_i k n k' n'
    obtain rfl := V.int_inv hx
    obtain rfl := V.int_inv hy
    simp only [minA] at h
    by_cases hk : k = k'
    · subst hk
      simp only [decide_true, cond_true] at h
      cases mx with
      | true =>
        simp only [cond_true] at h
        obtain ⟨z, hz, hv⟩ := ih (x := .int k (if n' > n then n' else n)) h (.int _ _ _) hys
        exact ⟨z, fun w' => by have := hz w'; simp only [if_true] at this; simp [List.foldlM_cons, Builtin.max2, this], hv⟩
      | false =>
        simp only [cond_false] at h
        obtain ⟨z, hz, hv⟩ := ih (x := .int k (if n' < n then n' else n)) h (.int _ _ _) hys
        exact ⟨z, fun w' => by have := hz w'; simp only [Bool.false_eq_true, if_false] at this; simp [List.foldlM_cons, Builtin.min2, this], hv⟩
    · simp [hk] at h

theorem r_binOp {P : Program} {op : BinOp} {t : TypeId} {ox oy : Operand} {x y z : Value} (hg : ∀ w', (eqGuard op t ox oy x y).run P w' = .ok () w') (hr : Runs P (binOp op t x y) z) :
    Runs P (do eqGuard op t ox oy x y; binOp op t x y) z := by
  intro w'
  simp [hg w', hr w']

theorem guard_free {P : Program} {op : BinOp} {t : TypeId} {ox oy : Operand} {x y : Value} (h : (op ≠ .eql ∧ op ≠ .neq) ∨ (∀ a, x ≠ .agg a) ∧ x ≠ .nilIface) (w' : World) : (eqGuard op t ox oy x y).run P w' = .ok () w' := by
  unfold eqGuard
  rcases h with h | h
  · cases op <;> simp_all
  · cases op <;> simp <;> (cases x <;> simp_all)

theorem binA_ok {op : BinOp} {t : TypeId} {ox oy : Operand} {a b v : AVal} {x y : Value} (h : binA C op t (isConst ox || isConst oy) a b = some v) (hx : V bad w μ A a x) (hy : V bad w μ A b y) :
    ∃ z, Runs C.P (do eqGuard op t ox oy x y; binOp op t x y) z ∧ V bad w μ A v z := by
  unfold binA at h
  split at h
  · rename_i k n k' n'
    obtain rfl := V.int_inv hx
    obtain rfl := V.int_inv hy
    have hg : ∀ w', (eqGuard op t ox oy (.int k n) (.int k' n')).run C.P w' = .ok () w' := guard_free (.inr ⟨by simp, by simp⟩)
    split at h
    · obtain ⟨r, h1, h2⟩ := shiftA_ok (bad := bad) (w := w) (μ := μ) (A := A) (k' := k') h C.P t
      exact ⟨r, r_binOp hg h1, h2⟩
    · obtain ⟨r, h1, h2⟩ := shiftA_ok (bad := bad) (w := w) (μ := μ) (A := A) (k' := k') h C.P t
      exact ⟨r, r_binOp hg h1, h2⟩
    · rename_i op' n1 n2
      by_cases hk : k = k'
      · subst hk
        simp only [decide_true, cond_true] at h
        obtain ⟨r, h1, h2⟩ := intA_ok (bad := bad) (w := w) (μ := μ) (A := A) h C.P t ⟨n1, n2⟩
        exact ⟨r, r_binOp hg h1, h2⟩
      · simp [hk] at h
  · rename_i s s'
    obtain ⟨bs, rfl, rfl⟩ := V.str_inv hx
    obtain ⟨bs', rfl, rfl⟩ := V.str_inv hy
    obtain ⟨r, h1, h2⟩ := strA_ok (bad := bad) (w := w) (μ := μ) (A := A) h C.P t
    exact ⟨r, r_binOp (guard_free (.inr ⟨by simp, by simp⟩)) h1, h2⟩
  · rename_i n1 n2
    have hne : ∀ (op : BinOp), op = .eql ∨ op = .neq → ∀ r, eqA C t (isConst ox || isConst oy) a b = some r → ∀ w', (binOp op t x y).run C.P w' = .ok (.bool (if op = .eql then r else !r)) w' := by
      intro op hop r hr w'
      obtain ⟨-, he⟩ := eqA_ok hr hx hy op w'
      rcases hop with rfl | rfl
      · cases hx <;> cases hy <;> first
          | (simp [binOp, he]; done)
          | exact (n1 _ _ _ _ rfl rfl).elim
          | exact (n2 _ _ rfl rfl).elim
      · cases hx <;> cases hy <;> first
          | (simp [binOp, he]; done)
          | exact (n1 _ _ _ _ rfl rfl).elim
          | exact (n2 _ _ rfl rfl).elim
    split at h
    · split at h
      · rename_i r hr
        cases h
        exact ⟨.bool r, r_binOp (fun w' => (eqA_ok hr hx hy .eql w').1) (fun w' => by have := hne .eql (.inl rfl) r hr w'; simpa using this), .bool _ _⟩
      · cases h
    · split at h
      · rename_i r hr
        cases h
        exact ⟨.bool (!r), r_binOp (fun w' => (eqA_ok hr hx hy .neq w').1) (fun w' => by have := hne .neq (.inr rfl) r hr w'; simpa using this), .bool _ _⟩
      · cases h
    · cases h

theorem unA_ok {op : UnOp} {a v : AVal} {x : Value} (h : unA op a = some v) (hx : V bad w μ A a x) (P : Program) : ∃ z, Runs P (Op.unary op x) z ∧ V bad w μ A v z := by
  unfold unA at h
  split at h
  · cases h; obtain rfl := V.int_inv hx; exact ⟨_, fun w' => by simp [Op.unary, Op.intArith], .int _ _ _⟩
  · obtain rfl := V.int_inv hx
    simp only [bitsA, Option.some.injEq] at h
    subst h
    exact ⟨_, fun w' => by simp [Op.unary, Op.intBits], .int _ _ _⟩
  · cases h; obtain rfl := V.bool_inv hx; exact ⟨_, fun w' => by simp [Op.unary], .bool _ _⟩
  · cases h

theorem convP_ok {s d : TypeId} {a v : AVal} {x : Value} (h : convP C s d a = some v) (hx : V bad w μ A a x) : ∃ z, Runs C.P (convert s d x) z ∧ V bad w μ A v z := by
  unfold convP at h
  split at h
  · rename_i k k' n hs hu
    cases h
    obtain rfl := V.int_inv hx
    exact ⟨_, fun w' => by simp [convert, r_underlying hs, r_underlying hu, Conv.intToInt], .int _ _ _⟩
  · rename_i str hs hd
    cases h
    obtain ⟨b, rfl, rfl⟩ := V.str_inv hx
    exact ⟨_, fun w' => by simp [convert, r_underlying hs, r_underlying hd], .str _ _⟩
  · cases h

theorem lenP_ok {t : TypeId} {a v : AVal} {x : Value} {ts : Array TypeId} {rest : List Value} (ty : TypeId) (h : lenP C t a = some v) (hx : V bad w μ A a x) (ht : ts[0]? = some t) (xs : Array Value) (hxs : xs[0]? = some x) :
    ∃ z, Runs C.P (Builtin.len_ ts ty xs) z ∧ V bad w μ A v z := by
  unfold lenP at h
  split at h
  · rename_i s hu
    cases h; obtain ⟨b, rfl, rfl⟩ := V.str_inv hx
    exact ⟨.int .i64 b.size, fun w' => by simp only [Builtin.len_, ht, hxs]; simp [r_underlying hu, goInt], by rw [size_data]; exact .int _ _ _⟩
  · rename_i n e hu
    cases h
    exact ⟨.int .i64 _, fun w' => by simp only [Builtin.len_, ht, hxs]; simp [r_underlying hu, goInt], .int _ _ _⟩
  · rename_i hu
    cases h; cases hx
    exact ⟨.int .i64 0, fun w' => by simp only [Builtin.len_, ht, hxs]; simp [r_underlying hu, goInt], .int _ _ _⟩
  · rename_i hu
    cases h; cases hx
    exact ⟨.int .i64 _, fun w' => by simp only [Builtin.len_, ht, hxs]; simp [r_underlying hu, goInt], .int _ _ _⟩
  · rename_i hu
    cases h; cases hx
    exact ⟨.int .i64 _, fun w' => by simp only [Builtin.len_, ht, hxs]; simp [r_underlying hu, goInt], .int _ _ _⟩
  · cases h

theorem exec_v {P : Program} {s : Sem Value} {x : Value} (h : Runs P s x) (w' : World) : (do pure (Next.value (← s)) : Sem Next).run P w' = .ok (.value x) w' := by
  simp [h w']

theorem builtinP_ok {b : Builtin} {ts : Array TypeId} {args : List AVal} {xs : List Value} {v : AVal} (ty : TypeId) (cs : Array Bool) (h : builtinP C b ts.toList args = some v) (hx : VL bad w μ A args xs) :
    ∃ z, (∀ w', (builtin b ts ty cs xs.toArray).run C.P w' = .ok (.value z) w') ∧ V bad w μ A v z := by
  unfold builtinP at h
  split at h
  · rename_i t l a l' ht
    obtain ⟨x, ys, rfl, hx1, hx2⟩ := hx.cons_inv
    obtain ⟨z, h1, h2⟩ := lenP_ok (rest := ys) ty h hx1 (ts := ts) (by rw [← Array.getElem?_toList, ht]; rfl) (x :: ys).toArray (by simp)
    exact ⟨z, fun w' => by simpa [builtin] using exec_v h1 w', h2⟩
  · rename_i a l
    obtain ⟨x, ys, rfl, hx1, hx2⟩ := hx.cons_inv
    obtain ⟨z, h1, h2⟩ := minA_ok (C := C) h hx1 hx2
    simp only [Bool.false_eq_true, if_false] at h1
    exact ⟨z, fun w' => by simp [builtin, Builtin.min_, h1 w'], h2⟩
  · rename_i a l
    obtain ⟨x, ys, rfl, hx1, hx2⟩ := hx.cons_inv
    obtain ⟨z, h1, h2⟩ := minA_ok (C := C) h hx1 hx2
    simp only [if_true] at h1
    exact ⟨z, fun w' => by simp [builtin, Builtin.max_, h1 w'], h2⟩
  · cases h

theorem V.tuple_get {vs : List AVal} {x : Value} (h : V bad w μ A (.tuple vs) x) {i : Nat} {v : AVal} (hi : vs[i]? = some v) : ∃ xs y, x = .tuple xs ∧ xs[i]? = some y ∧ V bad w μ A v y := by
  cases h with | tuple _ _ xs h1 h3 =>
  have hlt : i < xs.size := by rw [← h1]; exact (List.getElem?_eq_some_iff.1 hi).1
  exact ⟨xs, xs[i], rfl, by simp [hlt], h3 i v _ hi (by simp [hlt])⟩

/-- An operation that looks at no memory: as the interpreter says, in every world. -/
theorem opP_ok {o : Oper} {t : Tmps} {a : Act} {v : AVal} (h : opP C o t = some v) (hg : GlobOk C bad w μ) (ht : TR bad w μ A t a.tmps) :
    ∃ x, (∀ w', (execOp a.eval o).run C.P w' = .ok (.value x) w') ∧ V bad w μ A v x := by
  unfold opP at h
  unfold execOp
  split at h
  · rename_i x ho; rw [ho]; exact ⟨_, fun w' => by simp, ev_V hg ht h⟩
  · rename_i x ho; rw [ho]; exact ⟨_, fun w' => by simp, ev_V hg ht h⟩
  · rename_i c x y ho
    rw [ho]
    split at h
    · rename_i b hc
      have := V.bool_inv (ev_V hg ht hc)
      cases b
      · exact ⟨_, fun w' => by simp [this, asBool], ev_V hg ht h⟩
      · exact ⟨_, fun w' => by simp [this, asBool], ev_V hg ht h⟩
    · cases h
  · rename_i ty ps ho
    rw [ho]
    split at h
    · rename_i r hr
      obtain ⟨h1, h2⟩ := evParts_ok hg ht hr
      obtain ⟨z, h3, h4⟩ := buildA_ok (parts' := ps.map fun (i, x) => (i, a.eval x)) h (by simpa using h1) (fun i p q hp hq => h2 i p q hp (by rw [← Array.getElem?_toList] at hq; simpa using hq))
      exact ⟨z, exec_v h3, h4⟩
    · cases h
  · rename_i x ho
    rw [ho]
    split at h
    · rename_i i j hx
      cases h
      have hv := ev_V hg ht hx
      obtain ⟨ad, he⟩ := nilCheck_ok hv (.inl ⟨_, _, rfl⟩)
      rw [he] at hv
      exact ⟨_, fun w' => by simp [he], hv⟩
    · rename_i cs hx
      cases h
      have hv := ev_V hg ht hx
      obtain ⟨ad, he⟩ := nilCheck_ok hv (.inr ⟨_, rfl⟩)
      rw [he] at hv
      exact ⟨_, fun w' => by simp [he], hv⟩
    · cases h
  · rename_i op ty x y yt ho
    rw [ho]
    split at h
    · rename_i p q hp hq
      obtain ⟨z, h1, h2⟩ := binA_ok h (ev_V hg ht hp) (ev_V hg ht hq)
      exact ⟨z, exec_v h1, h2⟩
    · cases h
  · rename_i op ty x ho
    rw [ho]
    split at h
    · rename_i p hp
      obtain ⟨z, h1, h2⟩ := unA_ok h (ev_V hg ht hp) C.P
      exact ⟨z, exec_v h1, h2⟩
    · cases h
  · rename_i s d x ho
    rw [ho]
    split at h
    · rename_i p hp
      obtain ⟨z, h1, h2⟩ := convP_ok h (ev_V hg ht hp)
      exact ⟨z, exec_v h1, h2⟩
    · cases h
  · rename_i ty x ho
    rw [ho]
    split at h
    · cases h
    · rename_i p d hnot hp hd
      cases h
      refine ⟨.iface ty (a.eval x), exec_v fun w' => ?_, .iface _ _ _ _ (ev_V hg ht hp)⟩
      simp only [Instr.makeInterface, Sem.run_bind, r_underlying hd, Result.andThen_ok]
      cases d <;> first | rfl | exact (hnot _ rfl).elim
    · cases h
  · rename_i f first captured ho
    rw [ho]
    split at h
    · rename_i p q hp hq
      cases h
      have h1 := evL_V hg ht hp
      have h2 := evL_V hg ht hq
      refine ⟨.func (.func f) (first.map a.eval) (captured.map a.eval), exec_v fun w' => by simp [Instr.makeFunc], .func _ _ _ _ _ _ (by rw [h1.1]; simp) (by rw [h2.1]; simp) (fun i b x hb hx => h1.2 i b x hb ?_) (fun i b x hb hx => h2.2 i b x hb ?_)⟩
      · rw [← Array.getElem?_toList] at hx; simpa using hx
      · rw [← Array.getElem?_toList] at hx; simpa using hx
    · cases h
  · rename_i ty x lo hi mx ho
    rw [ho]
    split at h
    · rename_i p q r s hp hq hr hs
      obtain ⟨z, h1, h2⟩ := sliceA_ok h (ev_V hg ht hp) (evO_ok hg ht hq) (evO_ok hg ht hr) (evO_ok hg ht hs)
      exact ⟨z, exec_v h1, h2⟩
    · cases h
  · rename_i s x f ho
    rw [ho]
    split at h
    · rename_i p hp
      obtain ⟨z, h1, h2⟩ := fieldAddrA_ok h (ev_V hg ht hp)
      exact ⟨z, exec_v h1, h2⟩
    · cases h
  · rename_i ty x f ho
    rw [ho]
    split at h
    · rename_i p hp
      obtain ⟨z, h1, h2⟩ := fieldA_ok h (ev_V hg ht hp)
      exact ⟨z, exec_v h1, h2⟩
    · cases h
  · rename_i ty x i ho
    rw [ho]
    split at h
    · rename_i p q hp hq
      obtain ⟨z, h1, h2⟩ := indexAddrA_ok h (ev_V hg ht hp) (ev_V hg ht hq)
      exact ⟨z, exec_v h1, h2⟩
    · cases h
  · rename_i ty x i ho
    rw [ho]
    split at h
    · rename_i p q hp hq
      obtain ⟨z, h1, h2⟩ := indexA_ok h (ev_V hg ht hp) (ev_V hg ht hq)
      exact ⟨z, exec_v h1, h2⟩
    · cases h
  · rename_i x i ho
    rw [ho]
    split at h
    · rename_i vs hx
      obtain ⟨xs, y, he, hy, hv⟩ := V.tuple_get (ev_V hg ht hx) h
      exact ⟨y, exec_v fun w' => by simp [Instr.extract, he, hy], hv⟩
    · cases h
  · rename_i c ho
    rw [ho]
    split at h
    · rename_i b hb
      split at h
      · rename_i args ha
        have hv := evL_V hg ht ha
        obtain ⟨z, h1, h2⟩ := builtinP_ok o.type (c.args.map fun | .const _ => true | _ => false) h hv
        refine ⟨z, fun w' => ?_, h2⟩
        have := h1 w'
        simp only [resolve, hb, Sem.run_bind, Sem.run_pure, Result.andThen_ok, invoke]
        rw [← Array.toList_map] at this
        exact this
      · cases h
    · cases h
  · cases h

end Go.Den
