/- Steps of the interpreter, one by one, as equations: for walks over values that are not known. -/
import Derived.Test.YtogfjphdpconfaaGreatDoorDenRel
namespace Go.Den
open Go
section
variable {C : Cfg} {F : FuncId → List AVal → Heap → Option (AVal × Heap)} {f : FuncId} {t : Tmps} {h : Heap} {nid : Nat} {d : Option Tmp} {ty : TypeId} {pos : String} {after : Array Edge} {g : Option (Nat × Bool)}

def pv (h : Heap) (v : Option AVal) : Option (Option AVal × Heap) := v.bind fun v => some (some v, h)
theorem pv_some (v : AVal) : pv h (some v) = some (some v, h) := rfl

theorem stepP {o : Oper} (hk : kind C o = .P) : stepA C F f o t h nid = pv h (opP C o t) := by
  simp only [stepA, hk]; cases opP C o t <;> rfl

theorem s_move {x : Operand} {v : AVal} (hx : ev C t x = some v) : stepA C F f ⟨d, .move x, ty, pos, after, g⟩ t h nid = some (some v, h) := by rw [stepP rfl]; simp only [opP, hx]; rfl
theorem s_assign {x : Operand} {v : AVal} (hx : ev C t x = some v) : stepA C F f ⟨d, .assign x, ty, pos, after, g⟩ t h nid = some (some v, h) := by rw [stepP rfl]; simp only [opP, hx]; rfl
theorem s_bin {op : BinOp} {x y : Operand} {a b : TypeId} {v u r : AVal} (hx : ev C t x = some v) (hy : ev C t y = some u) (hr : binA C op a (isConst x || isConst y) v u = some r) : stepA C F f ⟨d, .binOp op a x y b, ty, pos, after, g⟩ t h nid = some (some r, h) := by
  rw [stepP rfl]; simp only [opP, hx, hy, hr]; rfl
theorem s_un {op : UnOp} {x : Operand} {a : TypeId} {v r : AVal} (hx : ev C t x = some v) (hr : unA op v = some r) : stepA C F f ⟨d, .unOp op a x, ty, pos, after, g⟩ t h nid = some (some r, h) := by
  rw [stepP rfl]; simp only [opP, hx, hr]; rfl
theorem s_pick1 {c a b : Operand} {v : AVal} (hx : ev C t c = some (.bool true)) (hr : ev C t a = some v) : stepA C F f ⟨d, .pick c a b, ty, pos, after, g⟩ t h nid = some (some v, h) := by
  rw [stepP rfl]; simp only [opP, hx, cond_true, hr]; rfl
theorem s_pick0 {c a b : Operand} {v : AVal} (hx : ev C t c = some (.bool false)) (hr : ev C t b = some v) : stepA C F f ⟨d, .pick c a b, ty, pos, after, g⟩ t h nid = some (some v, h) := by
  rw [stepP rfl]; simp only [opP, hx, cond_false, hr]; rfl
theorem s_indexAddr {a : TypeId} {x i : Operand} {v u r : AVal} (hx : ev C t x = some v) (hi : ev C t i = some u) (hr : indexAddrA C a v u = some r) : stepA C F f ⟨d, .indexAddr a x i, ty, pos, after, g⟩ t h nid = some (some r, h) := by
  rw [stepP rfl]; simp only [opP, hx, hi, hr]; rfl
theorem s_fieldAddr {a : TypeId} {x : Operand} {n : Nat} {v r : AVal} (hx : ev C t x = some v) (hr : fieldAddrA C a v n = some r) : stepA C F f ⟨d, .fieldAddr a x n, ty, pos, after, g⟩ t h nid = some (some r, h) := by
  rw [stepP rfl]; simp only [opP, hx, hr]; rfl
theorem s_build {a : TypeId} {ps : Array (Nat × Operand)} {vs : List (Nat × AVal)} {r : AVal} (hp : evParts C t ps.toList = some vs) (hr : buildA C a vs = some r) : stepA C F f ⟨d, .build a ps, ty, pos, after, g⟩ t h nid = some (some r, h) := by
  rw [stepP rfl]; simp only [opP, hp, hr]; rfl
theorem s_len {x : Operand} {a : TypeId} {v r : AVal} (hm : isMap C a = false) (hx : ev C t x = some v) (hr : lenP C a v = some r) : stepA C F f ⟨d, .call ⟨.builtin .len, #[x], #[a]⟩, ty, pos, after, g⟩ t h nid = some (some r, h) := by
  rw [stepP (by simp [kind, hm])]; simp only [opP, evL, mapO, hx, builtinP, hr]; rfl
theorem s_load {a : TypeId} {x : Operand} {v u : AVal} (hx : ev C t x = some v) (hl : loadA C a h v = some u) (hu : ∀ l, u ≠ .tuple l) : stepA C F f ⟨d, .load a x, ty, pos, after, g⟩ t h nid = some (some u, h) := by
  simp only [stepA, kind, opL, hx, hl]
  cases u <;> first | rfl | exact absurd rfl (hu _)
theorem s_alloc {a : TypeId} {z : AVal} {mk : Nat → AVal} {ob : HObj} (hz : zeroA C a = some z) (hb : boxA z = some (mk, ob)) : stepA C F f ⟨d, .alloc a, ty, pos, after, g⟩ t h nid = some (some (mk nid), h.put nid ob) := by
  simp only [stepA, kind, opN, hz, hb]
theorem s_store {a : TypeId} {x y : Operand} {v u : AVal} {h' : Heap} (hx : ev C t x = some v) (hy : ev C t y = some u) (hs : storeA C a h v u = some h') : stepA C F f ⟨d, .store a x y, ty, pos, after, g⟩ t h nid = some (none, h') := by
  simp only [stepA, kind, opE, hx, hy, hs]
theorem s_buildSlice {a : TypeId} {n : Nat} {ps : Array (Nat × Operand)} {vs : List (Nat × AVal)} {mk : Nat → AVal} {ob : HObj} (hp : evParts C t ps.toList = some vs) (hb : buildSliceA C a n vs = some (mk, ob)) :
    stepA C F f ⟨d, .buildSlice a n ps, ty, pos, after, g⟩ t h nid = some (some (mk nid), h.put nid ob) := by
  simp only [stepA, kind, opN, hp, hb]
theorem s_append {x y : Operand} {a b : TypeId} {v u : AVal} (hx : ev C t x = some v) (hy : ev C t y = some u) : stepA C F f ⟨d, .call ⟨.builtin .append, #[x, y], #[a, b]⟩, ty, pos, after, g⟩ t h nid = appendA C a b h nid v u := by
  simp only [stepA, kind, opE, evL, mapO, hx, hy, builtinE]
theorem s_call {fn : FuncId} {args : Array Operand} {tys : Array TypeId} {vs : List AVal} {v : AVal} {h' : Heap} (he : C.ext fn = none) (ha : evL C t args.toList = some vs) (hc : doCall C F f fn vs h = some (v, h')) :
    stepA C F f ⟨d, .call ⟨.value (.func fn), args, tys⟩, ty, pos, after, g⟩ t h nid = some (some v, h') := by
  simp only [stepA, kind, ha, he, hc]

variable {ρ : Type} {ops : Array Oper} {base : Nat} {k : Tmps → Heap → Option ρ} {rest : List Oper} {i : Nat} {past : List (Nat × Heap)}

theorem r_op {op : Op} {v : Option AVal} {h' : Heap} (hs : stepA C F f ⟨d, op, ty, pos, after, none⟩ t h (base + i) = some (v, h')) :
    runOps C F f ops [] base k (⟨d, op, ty, pos, after, none⟩ :: rest) i past t h = runOps C F f ops [] base k rest (i + 1) past (putA t d v) h' := by
  simp only [runOps, wantedA, cond_true, hs]
theorem r_opg {op : Op} {j : Nat} {want : Bool} {dj : Tmp} {v : Option AVal} {h' : Heap} (hj : (ops[j]?).bind (·.dst) = some dj) (hb : t.get dj = some (.bool want)) (hs : stepA C F f ⟨d, op, ty, pos, after, some (j, want)⟩ t h (base + i) = some (v, h')) :
    runOps C F f ops [] base k (⟨d, op, ty, pos, after, some (j, want)⟩ :: rest) i past t h = runOps C F f ops [] base k rest (i + 1) past (putA t d v) h' := by
  simp only [runOps, wantedA, hj, hb, beq_self_eq_true, cond_true, hs]
theorem r_skip {op : Op} {j : Nat} {want : Bool} {dj : Tmp} {b : Bool} (hj : (ops[j]?).bind (·.dst) = some dj) (hb : t.get dj = some (.bool b)) (hne : (b == want) = false) :
    runOps C F f ops [] base k (⟨d, op, ty, pos, after, some (j, want)⟩ :: rest) i past t h = runOps C F f ops [] base k rest (i + 1) past (putA t d none) h := by
  simp only [runOps, wantedA, unwanted, hj, hb, hne, cond_false, Bool.not_false, cond_true]

theorem r_nil : runOps C F f ops [] base k [] i past t h = k t h := rfl
theorem ep_nil : evParts C t [] = some [] := rfl
theorem ep_cons {x : Operand} {n : Nat} {l : List (Nat × Operand)} {v : AVal} {r : List (Nat × AVal)} (hx : ev C t x = some v) (hv : ∀ l, v ≠ .tuple l) (hr : evParts C t l = some r) : evParts C t ((n, x) :: l) = some ((n, v) :: r) := by
  simp only [evParts, hx, hr]
section
variable {lf : Nat} {kx : Ex → Tmps → Heap → Option ρ} {a b : Code} {id : Nat}
theorem e_seq : exec C F lf f (.seq a b) kx t h = exec C F lf f a (fun e => match e with
    | .normal => exec C F lf f b kx
    | e => kx e) t h := rfl
theorem e_skip : exec C F lf f .skip kx t h = kx .normal t h := rfl
theorem e_exit : exec C F lf f (.exit id) kx t h = kx (.exit id) t h := rfl
theorem e_ret : exec C F lf f .ret kx t h = kx .ret t h := rfl
theorem e_label : exec C F lf f (.label id) kx t h = kx .normal t h := rfl
theorem e_scope : exec C F lf f (.scope a) kx t h = exec C F lf f a kx t h := rfl
theorem e_block : exec C F lf f (.block id a) kx t h = exec C F lf f a (fun e => match e with
    | .exit id' => bif Nat.beq id' id then kx .normal else kx (.exit id')
    | e => kx e) t h := rfl
theorem e_loop : exec C F lf f (.loop a) kx t h = loopN (ρ := ρ) (exec C F lf f a) (fun _ _ => none) kx lf t h := rfl
theorem e_cond1 {c : Operand} (hc : ev C t c = some (.bool true)) : exec C F lf f (.cond c a b) kx t h = exec C F lf f a kx t h := by simp only [exec, hc, cond_true]
theorem e_cond0 {c : Operand} (hc : ev C t c = some (.bool false)) : exec C F lf f (.cond c a b) kx t h = exec C F lf f b kx t h := by simp only [exec, hc, cond_false]
theorem e_region {draw : Bool} (n : Nat) (hp : prm C f id ops draw = ops) (hr : C.re f id = []) (hn : ops.toList.length = n) : exec C F lf f (.region id ops draw) kx t h = runOps C F f ops [] h.next (kx .normal) ops.toList 0 [] t ⟨h.next + n, h.objs⟩ := by
  simp only [exec, hp, hr, hn]
end

theorem g_here {v : AVal} {d : Tmp} : (putA t (some d) (some v)).get d = some v := by simp [putA, Trie.get_set]
theorem g_undef {d : Tmp} : (putA t (some d) none).get d = some (.tuple []) := by simp [putA, Trie.get_set]
theorem g_skip {v : AVal} {e d : Tmp} {x : Option AVal} (hne : (d == e) = false) (hv : t.get e = some v) : (putA t (some d) x).get e = some v := by
  have : e ≠ d := fun h => by subst h; simp at hne
  cases x <;> simp [putA, Trie.get_set, this, hv]
theorem g_none {v : AVal} {e : Tmp} {x : Option AVal} (hv : t.get e = some v) : (putA t none x).get e = some v := hv
theorem ev_tmp {d : Tmp} {v : AVal} (h : t.get d = some v) : ev C t (.tmp d) = some v := h
end
end Go.Den
