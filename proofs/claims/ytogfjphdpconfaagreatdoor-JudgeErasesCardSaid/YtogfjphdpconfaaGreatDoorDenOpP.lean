/- Operations that look at no memory: what the interpreter says of them, the model says. -/
import Derived.Test.YtogfjphdpconfaaGreatDoorDenRel
namespace Go.Den
open Go

theorem r_underlying {P : Program} {t : TypeId} {d : TypeDesc} (h : P.underlying t = some d) (w : World) : (underlying t).run P w = .ok d w := by
  simp [underlying, h]
theorem r_info {P : Program} {t : TypeId} {i : TypeInfo} (h : P.info? t = some i) (w : World) : (typeInfo t).run P w = .ok i w := by
  simp [typeInfo, h]
theorem r_size {P : Program} {t : TypeId} {i : TypeInfo} (h : P.info? t = some i) (w : World) : (sizeOf t).run P w = .ok i.size w := by
  simp [sizeOf, r_info h]
theorem r_zero {P : Program} {t : TypeId} {i : TypeInfo} {z : Value} (h : P.info? t = some i) (hz : i.zero = some z) (w : World) : (zeroValue t).run P w = .ok z w := by
  simp [zeroValue, r_info h, hz]
theorem r_isAgg {C : Cfg} {t : TypeId} {b : Bool} (h : isAgg C t = some b) (w : World) : (Go.isAgg t).run C.P w = .ok b w := by
  unfold isAgg at h
  unfold Go.isAgg
  cases hd : C.P.underlying t with
  | none => simp [hd] at h
  | some d =>
    simp only [Sem.run_bind, r_underlying hd, Result.andThen_ok]
    rw [hd] at h
    cases d <;> simp_all

variable {C : Cfg} {bad : Nat → Prop} {w : World} {μ : Mu} {A : Nat → Prop}

theorem VL.nil : VL bad w μ A [] [] := ⟨rfl, by simp⟩
theorem VL.get {as : List AVal} {xs : List Value} (h : VL bad w μ A as xs) {i : Nat} {a : AVal} (hi : as[i]? = some a) : ∃ x, xs[i]? = some x ∧ V bad w μ A a x := by
  have hlt : i < xs.length := by rw [← h.1]; exact (List.getElem?_eq_some_iff.1 hi).1
  exact ⟨xs[i], by simp [hlt], h.2 i a _ hi (by simp [hlt])⟩
theorem VL.cons {a : AVal} {x : Value} {as : List AVal} {xs : List Value} (h : V bad w μ A a x) (hs : VL bad w μ A as xs) : VL bad w μ A (a :: as) (x :: xs) := by
  refine ⟨by simp [hs.1], fun i b y hb hy => ?_⟩
  cases i with
  | zero => simp at hb hy; subst hb hy; exact h
  | succ i => simp at hb hy; exact hs.2 i b y hb hy
theorem VL.cons_inv {a : AVal} {as : List AVal} {xs : List Value} (h : VL bad w μ A (a :: as) xs) : ∃ x ys, xs = x :: ys ∧ V bad w μ A a x ∧ VL bad w μ A as ys := by
  cases xs with
  | nil => simp [VL] at h
  | cons x ys => exact ⟨x, ys, rfl, h.2 0 a x (by simp) (by simp), ⟨by simpa using h.1, fun i b y hb hy => h.2 (i + 1) b y (by simpa using hb) (by simpa using hy)⟩⟩
theorem VL.nil_inv {xs : List Value} (h : VL bad w μ A [] xs) : xs = [] := by cases xs <;> simp [VL] at h ⊢
theorem VL.append {as bs : List AVal} {xs ys : List Value} (h : VL bad w μ A as xs) (h' : VL bad w μ A bs ys) : VL bad w μ A (as ++ bs) (xs ++ ys) := by
  have hlen := h.1
  refine ⟨by simp [h.1, h'.1], fun i a x ha hx => ?_⟩
  by_cases hi : i < as.length
  · rw [List.getElem?_append_left hi] at ha
    rw [List.getElem?_append_left (by omega)] at hx
    exact h.2 i a x ha hx
  · rw [List.getElem?_append_right (by omega)] at ha
    rw [List.getElem?_append_right (by omega)] at hx
    rw [h.1] at ha
    exact h'.2 _ a x ha hx
theorem VL.take {as : List AVal} {xs : List Value} (h : VL bad w μ A as xs) (n : Nat) : VL bad w μ A (as.take n) (xs.take n) := by
  refine ⟨by simp [h.1], fun i a x ha hx => ?_⟩
  rw [List.getElem?_take] at ha hx
  split at ha <;> simp_all
  exact h.2 i a x ha hx
theorem VL.drop {as : List AVal} {xs : List Value} (h : VL bad w μ A as xs) (n : Nat) : VL bad w μ A (as.drop n) (xs.drop n) := by
  refine ⟨by simp [h.1], fun i a x ha hx => ?_⟩
  rw [List.getElem?_drop] at ha hx
  exact h.2 _ a x ha hx
theorem VL.repl {as : List AVal} {xs : List Value} (h : VL bad w μ A as xs) : ∀ n, VL bad w μ A (repl as n) ((List.replicate n xs).flatten) := by
  intro n
  induction n with
  | zero => exact VL.nil
  | succ n ih => simpa [Den.repl, List.replicate_succ] using h.append ih

/-- All values one cell each. -/
def Cells (l : List AVal) : Prop := ∀ a ∈ l, isCell a = true

theorem ofValue_V : ∀ (n : Nat) (x : Value) (a : AVal), ofValue n x = some a → V bad w μ A a x := by
  intro n
  induction n with
  | zero => intro x a h; simp [ofValue] at h
  | succ n ih =>
    intro x a h
    have hl : ∀ (cs : Array Value) (l : List AVal), mapO (ofValue n) cs.toList = some l → l.length = cs.size ∧ ∀ (i : Nat) (a : AVal) (x : Value), l[i]? = some a → cs[i]? = some x → V bad w μ A a x := by
      intro cs l hm
      obtain ⟨h1, h2⟩ := mapO_some hm
      refine ⟨by simpa using h1.symm, fun i a x ha hx => ?_⟩
      obtain ⟨y, hy, hf⟩ := h2 i x (by simpa using hx)
      rw [ha] at hy
      cases hy
      exact ih x a hf
    cases x <;> simp only [ofValue] at h <;> try (first | (cases h; constructor) | (cases h; done))
    case pointer p => cases p <;> simp at h; subst h; exact .nilptr _
    case slice p l c =>
      cases p <;> cases l <;> cases c <;> simp at h; subst h; exact .nilslice _
    case map r => cases r <;> simp at h; subst h; exact .nilmap _
    case agg cs =>
      split at h
      · rename_i l hm
        cases hc : l.all isCell <;> simp [hc] at h
        subst h
        obtain ⟨h1, h2⟩ := hl cs l hm
        exact .agg _ l cs h1 (by simpa using hc) h2
      · cases h
    case tuple cs =>
      split at h
      · rename_i l hm
        cases h
        obtain ⟨h1, h2⟩ := hl cs l hm
        exact .tuple _ l cs h1 h2
      · cases h

/-- The variables of the program that the interpreter knows lie as it knows them. -/
def GlobOk (C : Cfg) (bad : Nat → Prop) (w : World) (μ : Mu) : Prop :=
  ∀ g cs, C.glob g = some cs → V bad w μ (fun _ => False) (.fptr cs) (.pointer (some ⟨g, 0, none⟩))

/-- The slots of a frame. -/
def TR (bad : Nat → Prop) (w : World) (μ : Mu) (A : Nat → Prop) (t : Tmps) (xs : Array Value) : Prop :=
  ∀ i a, t.get i = some a → ∃ x, xs[i]? = some x ∧ V bad w μ A a x

theorem ev_V {t : Tmps} {a : Act} {x : Operand} {v : AVal} (hg : GlobOk C bad w μ) (ht : TR bad w μ A t a.tmps) (h : ev C t x = some v) : V bad w μ A v (a.eval x) := by
  cases x with
  | tmp i =>
    obtain ⟨y, hy, hv⟩ := ht i v h
    simpa [Act.eval, Array.getD_eq_getD_getElem?, hy] using hv
  | const c => exact ofValue_V 5 c v h
  | global g =>
    simp only [ev, Option.map_eq_some_iff] at h
    obtain ⟨cs, hc, rfl⟩ := h
    exact (hg g cs hc).mono (fun b hb hn => ⟨hn, rfl⟩) _ (fun _ h => h.elim)
  | func f =>
    simp only [ev, Option.some.injEq] at h
    subst h
    exact .func _ f [] [] #[] #[] rfl rfl (by simp) (by simp)

theorem evL_V {t : Tmps} {a : Act} {l : List Operand} {vs : List AVal} (hg : GlobOk C bad w μ) (ht : TR bad w μ A t a.tmps) (h : evL C t l = some vs) : VL bad w μ A vs (l.map a.eval) := by
  obtain ⟨h1, h2⟩ := mapO_some h
  refine ⟨by simpa using h1.symm, fun i v x hv hx => ?_⟩
  rw [List.getElem?_map, Option.map_eq_some_iff] at hx
  obtain ⟨o, ho, rfl⟩ := hx
  obtain ⟨y, hy, hf⟩ := h2 i o ho
  rw [hv] at hy; cases hy
  exact ev_V hg ht hf

/-- A run that looks at no world. -/
def Runs (P : Program) (s : Sem Value) (x : Value) : Prop := ∀ w, s.run P w = .ok x w

theorem V.cells_inv {a : AVal} {x : Value} (h : V bad w μ A a x) (ht : ∀ l, a ≠ .tuple l) : VL bad w μ A (cellsOf a) x.cells.toList ∧ Cells (cellsOf a) := by
  cases h <;> first
    | (rename_i h1 h2 h3; exact ⟨⟨by simpa [cellsOf, Value.cells] using h1, fun i a x ha hx => h3 i a x ha (by simpa [Value.cells] using hx)⟩, h2⟩)
    | exact absurd rfl (ht _)
    | (refine ⟨VL.cons ?_ VL.nil, by simp [Cells, cellsOf, isCell]⟩; constructor <;> assumption)

theorem V.bool_inv {b : Bool} {x : Value} (h : V bad w μ A (.bool b) x) : x = .bool b := by cases h; rfl
theorem V.int_inv {k : IntKind} {n : Int} {x : Value} (h : V bad w μ A (.int k n) x) : x = .int k n := by cases h; rfl
theorem V.str_inv {s : List UInt8} {x : Value} (h : V bad w μ A (.str s) x) : ∃ b : ByteArray, x = .string b ∧ b.data.toList = s := by cases h; exact ⟨_, rfl, rfl⟩
theorem V.mk_str (l : List UInt8) : V bad w μ A (.str l) (.string ⟨l.toArray⟩) := by
  have := V.str (bad := bad) (w := w) (μ := μ) A ⟨l.toArray⟩
  simpa using this

theorem bytesLess_eq : ∀ x y, bytesLess x y = Op.bytesLess x y := by
  intro x
  induction x with
  | nil => intro y; cases y <;> rfl
  | cons a x ih => intro y; cases y with
    | nil => rfl
    | cons b y => simp [bytesLess, Op.bytesLess, ih]

theorem size_data (b : ByteArray) : b.data.toList.length = b.size := by rw [Array.length_toList]; rfl
theorem toList_data (b : ByteArray) : b.toList = b.data.toList := by
  have key : ∀ (n i : Nat) (r : List UInt8), b.size - i = n → ByteArray.toList.loop b i r = r.reverse ++ b.data.toList.drop i := by
    intro n
    induction n with
    | zero =>
      intro i r h
      unfold ByteArray.toList.loop
      have : ¬ i < b.size := by omega
      simp only [this, if_false]
      rw [List.drop_eq_nil_of_le (by rw [size_data]; omega)]
      simp
    | succ n ih =>
      intro i r h
      unfold ByteArray.toList.loop
      have hlt : i < b.size := by omega
      simp only [hlt, if_true]
      rw [ih (i + 1) _ (by omega)]
      have hl : i < b.data.toList.length := by rw [size_data]; exact hlt
      rw [List.drop_eq_getElem_cons hl]
      have : b.get! i = b.data.toList[i] := by
        show b.data[i]! = _
        rw [getElem!_pos b.data i hlt]
        rfl
      rw [this, List.reverse_cons, List.append_assoc]
      rfl
  have := key b.size 0 [] (by omega)
  simpa [ByteArray.toList] using this

theorem intA_ok {op : BinOp} {k : IntKind} {x y : Int} {v : AVal} (h : intA op k x y = some v) (P : Program) (t : TypeId) (hs : op ≠ .shl ∧ op ≠ .shr) :
    ∃ r, Runs P (binOp op t (.int k x) (.int k y)) r ∧ V bad w μ A v r := by
  have hb : ∀ {op}, op ≠ .shl → op ≠ .shr → ∀ w, (binOp op t (.int k x) (.int k y)).run P w = (match op with
    | .add | .sub | .mul => Op.intArith op k x y
    | .quo | .rem => Op.intDiv op k x y
    | .and | .or | .xor | .andNot => Op.intBits op k x y
    | _ => Op.intCmp op x y : Sem Value).run P w := by
    intro op h1 h2 w
    cases op <;> first | rfl | (simp [binOp]; done) | contradiction
  cases op <;> simp only [intA, bitsA, Option.some.injEq] at h <;> try (cases h; done)
  case quo | rem =>
    by_cases hy : y = 0
    · subst hy; simp at h
    · have hy' : (y == 0) = false := by simpa using hy
      simp only [hy', cond_false, Option.some.injEq] at h
      subst h
      refine ⟨_, fun w => ?_, .int _ _ _⟩
      rw [hb hs.1 hs.2]
      simp [Op.intDiv, hy]
  all_goals
    first
      | (subst h; refine ⟨_, fun w => ?_, .int _ _ _⟩; rw [hb hs.1 hs.2]; simp [Op.intArith, Op.intBits]; done)
      | (subst h; refine ⟨_, fun w => ?_, .bool _ _⟩; rw [hb hs.1 hs.2]; simp [Op.intCmp]; done)

theorem shiftA_ok {left : Bool} {k k' : IntKind} {x y : Int} {v : AVal} (h : shiftA left k x y = some v) (P : Program) (t : TypeId) :
    ∃ r, Runs P (binOp (if left then .shl else .shr) t (.int k x) (.int k' y)) r ∧ V bad w μ A v r := by
  unfold shiftA at h
  by_cases hy : y < 0
  · simp [hy] at h
  · simp only [hy, decide_false, cond_false] at h
    cases left <;> simp only [cond_true, cond_false, Option.some.injEq] at h <;> subst h <;>
      exact ⟨_, fun w => by simp [binOp, Op.shift, hy], .int _ _ _⟩

theorem strA_ok {op : BinOp} {x y : ByteArray} {v : AVal} (h : strA op x.data.toList y.data.toList = some v) (P : Program) (t : TypeId) :
    ∃ r, Runs P (binOp op t (.string x) (.string y)) r ∧ V bad w μ A v r := by
  have hb : ∀ w, (binOp op t (.string x) (.string y)).run P w = (Op.stringOp op x y).run P w := by intro w; cases op <;> rfl
  cases op <;> simp only [strA, Option.some.injEq] at h <;> try (cases h; done)
  case add =>
    by_cases hc : (((x.data.toList.length + y.data.toList.length : Nat) : Int) > IntKind.i64.max)
    · simp only [hc, decide_true, cond_true] at h; cases h
    · simp only [hc, decide_false, cond_false, Option.some.injEq] at h
      subst h
      refine ⟨.string (x ++ y), fun w => ?_, ?_⟩
      · rw [hb]
        have hc' : ¬ (((x.size + y.size : Nat) : Int) > IntKind.i64.max) := by rw [size_data, size_data] at hc; exact hc
        simp only [Op.stringOp, hc', if_false, Sem.run_pure]
      · have := V.str (bad := bad) (w := w) (μ := μ) A (x ++ y)
        simpa using this
  all_goals
    subst h
    refine ⟨_, fun w => ?_, .bool _ _⟩
    rw [hb]
    simp [Op.stringOp, toList_data, bytesLess_eq]

end Go.Den
