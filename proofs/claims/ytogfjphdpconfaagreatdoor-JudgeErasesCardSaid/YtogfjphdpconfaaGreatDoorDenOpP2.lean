/- Operations that look at no memory, continued: equality, addresses, structs, slices. -/
import Derived.Test.YtogfjphdpconfaaGreatDoorDenOpP
import Derived.Laws.StructEq
import Derived.ChangeKeysEq
namespace Go.Den
open Go
variable {C : Cfg} {bad : Nat → Prop} {w : World} {μ : Mu} {A : Nat → Prop}

theorem intsEq_cons {k k' : IntKind} {n n' : Int} {x y : List AVal} {r : Bool} (h : intsEq (.int k n :: x) (.int k' n' :: y) = some r) : k = k' ∧ ∃ r', intsEq x y = some r' ∧ r = (n == n' && r') := by
  simp only [intsEq] at h
  by_cases hk : k = k'
  · simp only [hk, decide_true, cond_true] at h
    split at h
    · rename_i r' hr; exact ⟨hk, r', hr, by simpa using h.symm⟩
    · cases h
  · simp [hk] at h

/-- What intsEq says, place by place. -/
theorem intsEq_spec : ∀ {x y : List AVal} {r : Bool}, intsEq x y = some r →
    ∃ ks : List IntKind, ∃ ms ns : List Int, x = (ks.zip ms).map (fun p => .int p.1 p.2) ∧ y = (ks.zip ns).map (fun p => .int p.1 p.2) ∧ ks.length = ms.length ∧ ks.length = ns.length ∧ r = (ms == ns) := by
  intro x
  induction x with
  | nil => intro y r h; cases y <;> simp [intsEq] at h; subst h; exact ⟨[], [], [], by simp, by simp, rfl, rfl, by simp⟩
  | cons a x ih =>
    intro y r h
    cases a with
    | int k n =>
      cases y with
      | nil => simp [intsEq] at h
      | cons b y =>
        cases b with
        | int k' n' =>
          obtain ⟨rfl, r', hr', rfl⟩ := intsEq_cons h
          obtain ⟨ks, ms, ns, rfl, rfl, h1, h2, rfl⟩ := ih hr'
          exact ⟨k :: ks, n :: ms, n' :: ns, by simp, by simp, by simp [h1], by simp [h2], by simp⟩
        | _ => simp [intsEq] at h
    | _ => simp [intsEq] at h

theorem cellsOf_info {P : Program} {t : TypeId} {i : TypeInfo} (h : P.info? t = some i) : P.cellsOf t = i.size := by
  simp [Program.cellsOf, h]

theorem part_int {P : Program} {t : TypeId} {k : IntKind} (h : P.underlying t = some (.int k)) (xs : Array Value) (off : Nat) (x : Value) (hx : xs[off]? = some x) (w : World) :
    (part t xs off).run P w = .ok x w := by
  simp [part, Go.isAgg, r_underlying h, hx]

theorem vals_of {ks : List IntKind} {ms : List Int} {xs : Array Value} (hl : ks.length = ms.length)
    (h : ∀ (i : Nat) (a : AVal) (x : Value), ((ks.zip ms).map (fun p => AVal.int p.1 p.2))[i]? = some a → xs[i]? = some x → V bad w μ A a x) (hs : ((ks.zip ms).map (fun p => AVal.int p.1 p.2)).length = xs.size) :
    ∀ i : Nat, i < ks.length → ∃ k m, ks[i]? = some k ∧ ms[i]? = some m ∧ xs[i]? = some (.int k m) := by
  intro i hi
  have hm : i < ms.length := by omega
  have hx : i < xs.size := by rw [← hs]; simp; omega
  refine ⟨ks[i], ms[i], by simp [hi], by simp [hm], ?_⟩
  have := h i (.int ks[i] ms[i]) xs[i] (by rw [List.getElem?_map, List.getElem?_eq_getElem (by simp; omega)]; simp) (by simp [hx])
  have h2 := V.int_inv this
  simp [hx, h2]

theorem eqFields_ints {P : Program} (d : Nat) (xs ys : Array Value) (w : World) : ∀ (fs : List Field) (j : Nat) (ms ns : List Int),
    (∀ (i : Nat) (f : Field), fs[i]? = some f → f.name ≠ "_" ∧ f.offset = j + i ∧ ∃ k, P.underlying f.type = some (.int k)) →
    (∀ i : Nat, i < fs.length → ∃ k m n, ms[i]? = some m ∧ ns[i]? = some n ∧ xs[j + i]? = some (.int k m) ∧ ys[j + i]? = some (.int k n)) →
    fs.length = ms.length → fs.length = ns.length →
    (Op.eqFields (d + 1) xs ys fs).run P w = .ok (ms == ns) w := by
  intro fs
  induction fs with
  | nil => intro j ms ns _ _ h1 h2; cases ms <;> cases ns <;> simp at h1 h2; simp [Op.eqFields]
  | cons f fs ih =>
    intro j ms ns hf hv h1 h2
    obtain ⟨m, ms, rfl⟩ := List.exists_cons_of_length_eq_add_one h1.symm
    obtain ⟨n, ns, rfl⟩ := List.exists_cons_of_length_eq_add_one h2.symm
    obtain ⟨hn, ho, k, hk⟩ := hf 0 f rfl
    obtain ⟨k', m', n', e1, e2, e3, e4⟩ := hv 0 (by simp)
    simp at e1 e2; subst e1 e2
    simp only [Nat.add_zero] at ho e3 e4
    rw [← ho] at e3 e4
    simp only [Op.eqFields, hn, ne_eq, not_false_eq_true, if_true, Sem.run_bind, part_int hk xs _ _ e3, part_int hk ys _ _ e4, Result.andThen_ok, run_equalIn_int w d _ _ _ _ _ hk]
    have ih' := ih (j + 1) ms ns (fun i g hg => by
      obtain ⟨a, b, c⟩ := hf (i + 1) g (by simpa using hg)
      exact ⟨a, by omega, c⟩) (fun i hi => by
      obtain ⟨k, m, n, a, b, c, d⟩ := hv (i + 1) (by simpa using hi)
      refine ⟨k, m, n, by simpa using a, by simpa using b, ?_, ?_⟩
      · rw [← c]; congr 1; omega
      · rw [← d]; congr 1; omega) (by simpa using h1) (by simpa using h2)
    by_cases hmn : m = n
    · subst hmn
      simp [ih']
    · have hb : (m == n) = false := by simpa using hmn
      simp [hb]

theorem eqItems_ints {P : Program} (d : Nat) (e : TypeId) {k0 : IntKind} (he : P.underlying e = some (.int k0)) (xs ys : Array Value) (w : World) : ∀ (l j : Nat) (ms ns : List Int),
    (∀ i : Nat, i < l → ∃ k m n, ms[i]? = some m ∧ ns[i]? = some n ∧ xs[j + i]? = some (.int k m) ∧ ys[j + i]? = some (.int k n)) →
    l = ms.length → l = ns.length →
    (Op.eqItems (d + 1) e 1 xs ys (List.range' j l)).run P w = .ok (ms == ns) w := by
  intro l
  induction l with
  | zero => intro j ms ns _ h1 h2; cases ms <;> cases ns <;> simp at h1 h2; simp [Op.eqItems]
  | succ l ih =>
    intro j ms ns hv h1 h2
    obtain ⟨m, ms, rfl⟩ := List.exists_cons_of_length_eq_add_one h1.symm
    obtain ⟨n, ns, rfl⟩ := List.exists_cons_of_length_eq_add_one h2.symm
    obtain ⟨k', m', n', e1, e2, e3, e4⟩ := hv 0 (by omega)
    simp at e1 e2; subst e1 e2
    simp only [Nat.add_zero] at e3 e4
    rw [← Nat.mul_one j] at e3 e4
    simp only [List.range'_succ, Op.eqItems, Sem.run_bind, part_int he xs _ _ e3, part_int he ys _ _ e4, Result.andThen_ok, run_equalIn_int w d _ _ _ _ _ he]
    have ih' := ih (j + 1) ms ns (fun i hi => by
      obtain ⟨k, m, n, a, b, c, d⟩ := hv (i + 1) (by omega)
      refine ⟨k, m, n, by simpa using a, by simpa using b, ?_, ?_⟩
      · rw [← c]; congr 1; omega
      · rw [← d]; congr 1; omega) (by simpa using h1) (by simpa using h2)
    by_cases hmn : m = n
    · subst hmn
      simp [ih']
    · have hb : (m == n) = false := by simpa using hmn
      simp [hb]

theorem equal_ints {t : TypeId} {x y : List AVal} {r : Bool} (hty : intsTy C t x.length = true) (hst : C.P.stoodInHeld t = false) (h : intsEq x y = some r)
    {xs ys : Array Value} (hx : V bad w μ A (.agg x) (.agg xs)) (hy : V bad w μ A (.agg y) (.agg ys)) (d : Nat) (w' : World) :
    (Op.equalIn (d + 2) t (.agg xs) (.agg ys)).run C.P w' = .ok r w' := by
  obtain ⟨ks, ms, ns, rfl, rfl, hl1, hl2, rfl⟩ := intsEq_spec h
  cases hx with | agg _ _ _ a1 a2 a3 =>
  cases hy with | agg _ _ _ b1 b2 b3 =>
  have va := vals_of hl1 a3 a1
  have vb := vals_of hl2 b3 b1
  have both : ∀ i : Nat, i < ks.length → ∃ k m n, ms[i]? = some m ∧ ns[i]? = some n ∧ xs[0 + i]? = some (.int k m) ∧ ys[0 + i]? = some (.int k n) := by
    intro i hi
    obtain ⟨k, m, p1, p2, p3⟩ := va i hi
    obtain ⟨k', n, q1, q2, q3⟩ := vb i hi
    rw [p1] at q1; cases q1
    exact ⟨k, m, n, p2, q2, by simpa using p3, by simpa using q3⟩
  simp only [List.length_map, List.length_zip, ← hl1, Nat.min_self] at hty
  unfold intsTy at hty
  split at hty
  · rename_i fields hu
    have hf : C.P.underlying t = some (.struct (C.P.fieldsOf t)) := by simp [Program.fieldsOf, hu]
    have hfe : C.P.fieldsOf t = fields := by simp [Program.fieldsOf, hu]
    rw [run_equalIn_struct w' (d + 1) t xs ys hf hst, hfe]
    rw [natBeq, Bool.and_eq_true, decide_eq_true_eq, List.all_eq_true] at hty
    obtain ⟨hsz, hall⟩ := hty
    refine eqFields_ints d xs ys w' fields.toList 0 ms ns (fun i f hi => ?_) (fun i hi => both i (by rw [← hsz]; simpa using hi)) (by rw [Array.length_toList, hsz, hl1]) (by rw [Array.length_toList, hsz, hl2])
    have hm : (f, i) ∈ fields.toList.zipIdx := by
      rw [List.mem_zipIdx_iff_getElem?]; exact hi
    have := hall _ hm
    simp only [Bool.and_eq_true, bne_iff_ne, ne_eq, natBeq, decide_eq_true_eq] at this
    obtain ⟨⟨p1, p2⟩, p3⟩ := this
    refine ⟨p1, by omega, ?_⟩
    split at p3
    · rename_i k n hk hn; exact ⟨k, hk⟩
    · cases p3
  · rename_i len elem hu
    rw [Bool.and_eq_true, natBeq, decide_eq_true_eq] at hty
    obtain ⟨hlen, p3⟩ := hty
    split at p3
    · rename_i k n hk hn
      rw [natBeq, decide_eq_true_eq] at p3
      rw [run_equalIn_array w' (d + 1) xs ys hu hn, cellsOf_info hn, p3, List.range_eq_range']
      exact eqItems_ints d elem hk xs ys w' len 0 ms ns (fun i hi => both i (by omega)) (by omega) (by omega)
    · cases p3
  · cases hty

theorem equal_eq (t : TypeId) (x y : Value) : Op.equal t x y = Op.equalIn (9998 + 2) t x y := rfl

theorem eq_bool (d : Nat) {t : TypeId} {P : Program} (h : P.underlying t = some .bool) (a b : Bool) (w : World) : (Op.equalIn (d + 1) t (.bool a) (.bool b)).run P w = .ok (a == b) w := by
  simp [Op.equalIn, r_underlying h]
theorem eq_ptr1 (d : Nat) {t e : TypeId} {P : Program} (h : P.underlying t = some (.pointer e)) (b : Option Addr) (w : World) : (Op.equalIn (d + 1) t (.pointer none) (.pointer b)).run P w = .ok b.isNone w := by
  simp [Op.equalIn, r_underlying h]
theorem eq_ptr2 (d : Nat) {t e : TypeId} {P : Program} (h : P.underlying t = some (.pointer e)) (a : Addr) (w : World) : (Op.equalIn (d + 1) t (.pointer (some a)) (.pointer none)).run P w = .ok false w := by
  simp [Op.equalIn, r_underlying h]
theorem eq_sl1 (d : Nat) {t e : TypeId} {P : Program} (h : P.underlying t = some (.slice e)) (b : Option Addr) (l c l' c' : Nat) (w : World) : (Op.equalIn (d + 1) t (.slice none l c) (.slice b l' c')).run P w = .ok b.isNone w := by
  simp [Op.equalIn, r_underlying h]
theorem eq_sl2 (d : Nat) {t e : TypeId} {P : Program} (h : P.underlying t = some (.slice e)) (a : Addr) (l c l' c' : Nat) (w : World) : (Op.equalIn (d + 1) t (.slice (some a) l c) (.slice none l' c')).run P w = .ok false w := by
  simp [Op.equalIn, r_underlying h]
theorem eq_map1 (d : Nat) {t k e : TypeId} {P : Program} (h : P.underlying t = some (.map k e)) (b : Option Nat) (w : World) : (Op.equalIn (d + 1) t (.map none) (.map b)).run P w = .ok b.isNone w := by
  simp [Op.equalIn, r_underlying h]
theorem eq_map2 (d : Nat) {t k e : TypeId} {P : Program} (h : P.underlying t = some (.map k e)) (a : Nat) (w : World) : (Op.equalIn (d + 1) t (.map (some a)) (.map none)).run P w = .ok false w := by
  simp [Op.equalIn, r_underlying h]
theorem eq_fn1 (d : Nat) {t : TypeId} {p r : Array TypeId} {v : Bool} {P : Program} (h : P.underlying t = some (.func p r v)) (w : World) : (Op.equalIn (d + 1) t .nilFunc .nilFunc).run P w = .ok true w := by
  simp [Op.equalIn, r_underlying h]
theorem eq_fn2 (d : Nat) {t : TypeId} {p r : Array TypeId} {v : Bool} {P : Program} (h : P.underlying t = some (.func p r v)) (f : Fn) (a b : Array Value) (w : World) : (Op.equalIn (d + 1) t .nilFunc (.func f a b)).run P w = .ok false w := by
  simp [Op.equalIn, r_underlying h]
theorem eq_fn3 (d : Nat) {t : TypeId} {p r : Array TypeId} {v : Bool} {P : Program} (h : P.underlying t = some (.func p r v)) (f : Fn) (a b : Array Value) (w : World) : (Op.equalIn (d + 1) t (.func f a b) .nilFunc).run P w = .ok false w := by
  simp [Op.equalIn, r_underlying h]
theorem eq_if1 (d : Nat) {t : TypeId} {ms : Array (String × TypeId)} {P : Program} (h : P.underlying t = some (.interface ms)) (w : World) : (Op.equalIn (d + 1) t .nilIface .nilIface).run P w = .ok true w := by
  simp [Op.equalIn, r_underlying h]
theorem eq_if2 (d : Nat) {t : TypeId} {ms : Array (String × TypeId)} {P : Program} (h : P.underlying t = some (.interface ms)) (u : TypeId) (x : Value) (w : World) : (Op.equalIn (d + 1) t .nilIface (.iface u x)).run P w = .ok false w := by
  simp [Op.equalIn, r_underlying h]
theorem eq_if3 (d : Nat) {t : TypeId} {ms : Array (String × TypeId)} {P : Program} (h : P.underlying t = some (.interface ms)) (u : TypeId) (x : Value) (w : World) : (Op.equalIn (d + 1) t (.iface u x) .nilIface).run P w = .ok false w := by
  simp [Op.equalIn, r_underlying h]

theorem isConst_eq (x : Operand) : isConst x = (match x with | .const _ => true | _ => false) := by cases x <;> rfl

theorem eqA_agg {t : TypeId} {ox oy : Operand} {x' y' : List AVal} {r : Bool} (h : (bif intsTy C t x'.length && Nat.beq x'.length y'.length && (!(C.P.eqGuardType C.P.depth t) && !(C.P.stoodInHeld t)) then intsEq x' y' else none) = some r)
    {x y : Value} (hx : V bad w μ A (.agg x') x) (hy : V bad w μ A (.agg y') y) (op : BinOp) (w' : World) :
    (eqGuard op t ox oy x y).run C.P w' = .ok () w' ∧ (Op.equalIn (9998 + 2) t x y).run C.P w' = .ok r w' := by
  by_cases hc : (intsTy C t x'.length && Nat.beq x'.length y'.length && (!(C.P.eqGuardType C.P.depth t) && !(C.P.stoodInHeld t))) = true
  · rw [hc, cond_true] at h
    simp only [Bool.and_eq_true, Bool.not_eq_true'] at hc
    obtain ⟨⟨h1, -⟩, h2, h3⟩ := hc
    cases hx with | agg _ _ xs a1 a2 a3 =>
    cases hy with | agg _ _ ys b1 b2 b3 =>
    have hr := equal_ints h1 h3 h (.agg _ _ xs a1 a2 a3) (.agg _ _ ys b1 b2 b3) 9998 w'
    exact ⟨by cases op <;> simp [eqGuard, h2], hr⟩
  · simp only [Bool.not_eq_true] at hc
    rw [hc, cond_false] at h; cases h

theorem eqA_nil {t : TypeId} {ms : Array (String × TypeId)} (hu : C.P.underlying t = some (.interface ms)) {ox oy : Operand} {r : Bool} (h : (bif (isConst ox || isConst oy) then some true else none) = some r) (op : BinOp) (w' : World) :
    (eqGuard op t ox oy .nilIface .nilIface).run C.P w' = .ok () w' ∧ (Op.equalIn (9998 + 2) t .nilIface .nilIface).run C.P w' = .ok r w' := by
  cases hc : (isConst ox || isConst oy) <;> rw [hc] at h <;> simp only [cond_true, cond_false, Option.some.injEq] at h
  · cases h
  · subst h
    refine ⟨?_, eq_if1 _ hu _⟩
    rw [isConst_eq, isConst_eq] at hc
    cases op <;> simp [eqGuard]
    all_goals (cases ox <;> cases oy <;> simp_all)

theorem eqA_ok {t : TypeId} {ox oy : Operand} {a b : AVal} {r : Bool} (h : eqA C t (isConst ox || isConst oy) a b = some r) {x y : Value} (hx : V bad w μ A a x) (hy : V bad w μ A b y) (op : BinOp) (w' : World) :
    (eqGuard op t ox oy x y).run C.P w' = .ok () w' ∧ (Op.equal t x y).run C.P w' = .ok r w' := by
  rw [equal_eq]
  unfold eqA at h
  split at h
  all_goals first
    | (cases h; done)
    | exact eqA_agg h hx hy op w'
    | (rename_i hu; cases hx; cases hy; exact eqA_nil hu h op w')
    | (rename_i hu; cases hx; cases hy; cases h; refine ⟨by cases op <;> simp [eqGuard], ?_⟩
       first | exact eq_ptr1 _ hu _ _ | exact eq_ptr2 _ hu _ _ | exact eq_sl1 _ hu _ _ _ _ _ _ | exact eq_sl2 _ hu _ _ _ _ _ _ | exact eq_map1 _ hu _ _ | exact eq_map2 _ hu _ _ | exact eq_fn1 _ hu _ | exact eq_fn2 _ hu _ _ _ _ | exact eq_fn3 _ hu _ _ _ _ | exact eq_if2 _ hu _ _ _ | exact eq_if3 _ hu _ _ _)
    | (rename_i hu _ _; cases hx; cases hy; cases h; exact ⟨by cases op <;> simp [eqGuard], eq_bool _ hu _ _ _⟩)
    | (rename_i hu; cases hx; cases hy; cases h; exact ⟨by cases op <;> simp [eqGuard], eq_bool _ hu _ _ _⟩)
end Go.Den
