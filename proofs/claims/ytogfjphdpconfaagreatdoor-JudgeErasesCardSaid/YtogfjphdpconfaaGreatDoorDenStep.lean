/- One operation of the machine, and of the interpreter. -/
import Derived.Test.YtogfjphdpconfaaGreatDoorDenCall2
namespace Go.Den
open Go
variable {C : Cfg} {K A : Nat → Prop} {μ : Mu} {w : World} {nx : Nat} {F : FuncId → List AVal → Heap → Option (AVal × Heap)}

structure Rel (C : Cfg) (nt : Nat) (K A : Nat → Prop) (μ : Mu) (t : Tmps) (h : Heap) (a : Act) (w : World) : Prop where
  tr : TR (Bad K μ) w μ A t a.tmps
  r : R K A μ h.get h.next w
  gl : GlobOk C (Bad K μ) w μ
  df : a.defers = []
  sz : nt ≤ a.tmps.size
  kb : ∀ b, w.heap.size ≤ b → ¬ K b

variable {nt : Nat} {t : Tmps} {h h' : Heap} {a : Act}

theorem TR.put {bad : Nat → Prop} {xs : Array Value} {d : Tmp} {v : AVal} {x : Value} (ht : TR bad w μ A t xs) (hd : d < xs.size) (hv : V bad w μ A v x) : TR bad w μ A (t.set v d) (xs.setIfInBounds d x) := by
  intro i u hi
  rw [Trie.get_set] at hi
  by_cases hid : i = d
  · subst hid
    simp only [if_true, Option.some.injEq] at hi
    subst hi
    exact ⟨x, by simp [hd], hv⟩
  · rw [if_neg hid] at hi
    obtain ⟨y, h1, h2⟩ := ht i u hi
    exact ⟨y, by rw [Array.getElem?_setIfInBounds_ne (Ne.symm hid)]; exact h1, h2⟩

theorem TR.putO {bad : Nat → Prop} {dst : Option Tmp} {v : Option AVal} {x : Value} (ht : TR bad w μ A t a.tmps) (hd : ∀ d, dst = some d → d < a.tmps.size) (hv : match v with | some v => V bad w μ A v x | none => x = undef) : TR bad w μ A (putA t dst v) (a.put dst x).tmps := by
  cases dst with
  | none => exact ht
  | some d =>
    cases v with
    | some v => exact ht.put (hd d rfl) hv
    | none => simp only at hv; subst hv; exact ht.put (hd d rfl) (.tuple _ _ _ rfl (by simp))

theorem Rel.next {A' : Nat → Prop} {μ' : Mu} {w' : World} {dst : Option Tmp} {v : Option AVal} {x : Value} (hr : Rel C nt K A μ t h a w) (h1 : R K A' μ' h'.get h'.next w') (hx : Ext K A μ w A' μ' w') (hd : ∀ d, dst = some d → d < nt)
    (hv : match v with | some v => V (Bad K μ') w' μ' A' v x | none => x = undef) : Rel C nt K A' μ' (putA t dst v) h' (a.put dst x) w' := by
  refine ⟨(hx.TR hr.tr).putO (fun d e => Nat.lt_of_lt_of_le (hd d e) hr.sz) hv, h1, hx.glob hr.gl, ?_, ?_, fun b hb => hr.kb b (Nat.le_trans hx.size hb)⟩
  · cases dst <;> exact hr.df
  · cases dst with
    | none => exact hr.sz
    | some d => simp only [Act.put, Array.size_setIfInBounds]; exact hr.sz

theorem wanted_ok {ops : Array Oper} {o : Oper} (ht : TR (Bad K μ) w μ A t a.tmps) (hw : wantedA ops o t = true) : Region.wanted o (yielded ops a.tmps) = true := by
  unfold wantedA at hw
  unfold Region.wanted
  cases hg : o.guard with
  | none => rfl
  | some p =>
    obtain ⟨j, want⟩ := p
    rw [hg] at hw
    simp only at hw ⊢
    split at hw
    · rename_i d hd
      split at hw
      · rename_i b hb
        obtain ⟨x, h1, h2⟩ := ht d _ hb
        cases h2
        simp only [yielded, hd, Option.bind_some, h1]
        have : b = want := by simpa using hw
        rw [this]; simp
      · cases hw
    · cases hw

theorem unwanted_ok {ops : Array Oper} {o : Oper} (ht : TR (Bad K μ) w μ A t a.tmps) (hw : unwanted ops o t = true) : Region.wanted o (yielded ops a.tmps) = false := by
  unfold unwanted at hw
  unfold Region.wanted
  cases hg : o.guard with
  | none => rw [hg] at hw; cases hw
  | some p =>
    obtain ⟨j, want⟩ := p
    rw [hg] at hw
    simp only at hw ⊢
    split at hw
    · rename_i hd
      simp [yielded, hd]
    · rename_i d hd
      split at hw
      · rename_i b hb
        obtain ⟨x, h1, h2⟩ := ht d _ hb
        cases h2
        simp only [yielded, hd, Option.bind_some, h1]
        simpa using hw
      · rename_i hb
        obtain ⟨x, h1, h2⟩ := ht d _ hb
        cases h2 with | tuple _ _ xs g1 g2 =>
        simp [yielded, hd, h1]
      · cases hw

theorem call_run {f : FuncId} {fs args cs : List AVal} {fv : Value} {xs : Array Value} {bad : Nat → Prop} (hf : V bad w μ A (.func f fs cs) fv) (ha : VL bad w μ A args xs.toList) (he : Enters C.P f) :
    ∃ ys : Array Value, (do let d ← Deferred.ofValue fv xs; invoke d.target d.args : Sem Next).run C.P w = .ok (.enter f ys) w ∧ VL bad w μ A (fs ++ args ++ cs) ys.toList := by
  cases hf with | func _ _ _ _ fx cx g1 g2 g3 g4 =>
  obtain ⟨fn, e1, e2, e3⟩ := he
  refine ⟨(fx ++ xs) ++ cx, ?_, ?_⟩
  · have hn : fn.body ≠ none := by rintro h; rw [h] at e3; cases e3
    have e2' : fn.name ≠ "runtime.NumGoroutine" := by simpa using e2
    simp [Deferred.ofValue, invoke, callFunc, e1, e2', hn]
  · simp only [Array.toList_append]
    exact (VL.append ⟨by simpa using g1, fun i a x h1 h2 => g3 i a x h1 (by simpa using h2)⟩ ha).append ⟨by simpa using g2, fun i a x h1 h2 => g4 i a x h1 (by simpa using h2)⟩

theorem stepA_ok (hF : Sound C F) (hext : ∀ f, C.ext f = none) {caller : FuncId} {o : Oper} {nid : Nat} {v : Option AVal} (e : stepA C F caller o t h nid = some (v, h')) (hr : Rel C nt K A μ t h a w) (hn : ¬ A nid) (hnx : nid < h.next)
    (hd : ∀ d, o.dst = some d → d < nt) {next : Act → World → Prop} {Q : Exit → Act → World → Prop}
    (hnext : ∀ A' μ' a' w', Rel C nt K A' μ' (putA t o.dst v) h' a' w' → Ext K A μ w A' μ' w' → (∀ id, A' id → A id ∨ id = nid ∨ h.next ≤ id) → next a' w') : o.wp C.P a w next Q := by
  have came : ∀ {r w'} (new : Nat → Prop), (∀ id, new id → id = nid) → (execOp a.eval o).run C.P w = .ok r w' → Came K A μ w h.next new v h'.get h'.next r w' → o.wp C.P a w next Q := by
    intro r w' new hnew hrun hc
    obtain ⟨A', μ', c1, c2, c3, c4⟩ := hc
    unfold Oper.wp
    rw [hrun]
    cases v with
    | some v =>
      obtain ⟨x, rfl, hv⟩ := c4
      rw [Oper.upon_value]
      exact hnext A' μ' _ w' (hr.next c1 c2 hd hv) c2 fun j hid => (c3 j hid).imp (fun h => h) fun h => .inl (hnew j h)
    | none =>
      simp only at c4; subst c4
      rw [Oper.upon_skip]
      exact hnext A' μ' _ w' (hr.next c1 c2 hd rfl) c2 fun j hid => (c3 j hid).imp (fun h => h) fun h => .inl (hnew j h)
  have calls : ∀ {f : FuncId} {args : List AVal} {u : AVal} {ys : Array Value}, doCall C F caller f args h = some (u, h') → v = some u → (execOp a.eval o).run C.P w = .ok (.enter f ys) w → VL (Bad K μ) w μ A args ys.toList → o.wp C.P a w next Q := by
    intro f args u ys hc hv hrun hvl
    subst hv
    unfold Oper.wp
    rw [hrun, Oper.upon_enter]
    refine Calls.mono ((doCall_ok hF hc).2 K A μ w ys hr.r hr.gl hvl hr.kb) fun en w' hen => ?_
    cases en with
    | panicked _ => exact hen.elim
    | outgrown => exact hen.elim
    | returned x =>
      obtain ⟨A', μ', c1, c2, c3, c4⟩ := hen
      exact hnext A' μ' _ w' (hr.next c1 c2 hd c4) c2 fun j hid => (c3 j hid).imp (fun h => h) fun h => .inr h
  cases hk : kind C o
  · simp only [stepA, hk] at e
    split at e
    · rename_i u hu
      cases e
      obtain ⟨x, h1, h2⟩ := opP_ok hu hr.gl hr.tr
      exact came (fun _ => False) (fun _ h => h.elim) (h1 w) (Came.same hr.r ⟨x, rfl, h2⟩)
    · cases e
  · simp only [stepA, hk] at e
    split at e
    · rename_i u hu
      cases e
      obtain ⟨ty, x, hop⟩ := kind_L hk
      simp only [opL, hop] at hu
      split at hu
      · rename_i p hp
        have hl : loadA C ty h p = some u := by
          split at hu
          · cases hu
          · exact hu
        obtain ⟨z, h1, h2⟩ := loadA_ok hl hr.r (ev_V hr.gl hr.tr hp)
        refine came (fun _ => False) (fun _ h => h.elim) (r := .value z) ?_ (Came.same hr.r ⟨z, rfl, h2⟩)
        unfold execOp
        rw [hop]
        simp [h1]
      · cases hu
    · cases e
  · simp only [stepA, hk] at e
    split at e
    · rename_i mk ob hop
      cases e
      obtain ⟨r, w', h1, h2⟩ := opN_ok hop hr.gl hr.tr hr.r hn hnx (hr.kb _ (Nat.le_refl _))
      refine came (· = nid) (fun _ h => h) h1 ?_
      obtain ⟨A', μ', c1, c2, c3, c4⟩ := h2
      exact ⟨A', μ', c1.congr fun i => Heap.get_put _ _ _ _, c2, c3, c4⟩
    · cases e
  · simp only [stepA, hk] at e
    split at e
    · rename_i f args _ hop
      split at e
      · rename_i as hargs
        rw [hext] at e
        simp only at e
        split at e
        · rename_i u h1 hc
          cases e
          have hvl := evL_V hr.gl hr.tr hargs
          obtain ⟨ys, k1, k2⟩ := call_run (C := C) (xs := args.map a.eval) (.func _ f [] [] #[] #[] rfl rfl (by simp) (by simp)) (by rw [Array.toList_map]; exact hvl) (doCall_ok hF hc).1
          refine calls hc rfl (ys := ys) ?_ (by simpa using k2)
          unfold execOp
          rw [hop]
          exact k1
        · cases e
      · cases e
    · rename_i x args _ hno hop
      split at e
      · rename_i f fs cs as hfv hargs
        split at e
        · rename_i u h1 hc
          cases e
          have hvl := evL_V hr.gl hr.tr hargs
          obtain ⟨ys, k1, k2⟩ := call_run (C := C) (xs := args.map a.eval) (ev_V hr.gl hr.tr hfv) (by rw [Array.toList_map]; exact hvl) (doCall_ok hF hc).1
          refine calls hc rfl (ys := ys) ?_ k2
          unfold execOp
          rw [hop]
          exact k1
        · cases e
      · cases e
    · obtain ⟨r, w', h1, h2, h3⟩ := opE_ok e hr.gl hr.tr hr.r hn hnx hr.kb
      refine came (· = nid) (fun _ h => h) h1 ?_
      rw [h3]; exact h2
end Go.Den
