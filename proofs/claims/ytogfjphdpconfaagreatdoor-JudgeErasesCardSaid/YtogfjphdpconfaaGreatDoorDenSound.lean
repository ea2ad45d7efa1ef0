/- What the interpreter says of a function, the machine does. -/
import Derived.Test.YtogfjphdpconfaaGreatDoorDenRegion
import Derived.Scope
import Derived.LoopN
namespace Go.Den
open Go
variable {C : Cfg} {K : Nat → Prop} {F : FuncId → List AVal → Heap → Option (AVal × Heap)} {nt : Nat}

def toExit : Ex → Exit
  | .normal => .normal
  | .exit i => .exit i
  | .ret => .ret

/-- What a way on gives, the rest of the machine's road gives. -/
def Post (C : Cfg) (nt : Nat) (K A0 : Nat → Prop) (μ0 : Mu) (w0 : World) (nx0 : Nat) {ρ : Type} (r : ρ) (k : Ex → Tmps → Heap → Option ρ) (Q : Exit → Act → World → Prop) : Prop :=
  ∀ e t h A μ a w, k e t h = some r → Rel C nt K A μ t h a w → Ext K A0 μ0 w0 A μ w → (∀ id, A id → A0 id ∨ nx0 ≤ id) → nx0 ≤ h.next → Q (toExit e) a w

def Pre (C : Cfg) (nt : Nat) (K A0 : Nat → Prop) (μ0 : Mu) (w0 : World) (nx0 : Nat) {ρ : Type} (r : ρ) (k : Tmps → Heap → Option ρ) (Q : Act → World → Prop) : Prop :=
  ∀ t h A μ a w, k t h = some r → Rel C nt K A μ t h a w → Ext K A0 μ0 w0 A μ w → (∀ id, A id → A0 id ∨ nx0 ≤ id) → nx0 ≤ h.next → Q a w

theorem exec_ok (hF : Sound C F) (hfr : FrF F) (hext : ∀ f, C.ext f = none) (hm : C.P.follows .mixedOrders = true) {fid : FuncId} {lf : Nat} {ρ : Type} {r : ρ} {A0 : Nat → Prop} {μ0 : Mu} {w0 : World} {nx0 : Nat} :
    ∀ (c : Code), codeOk C fid nt c = true → ∀ (k : Ex → Tmps → Heap → Option ρ) (Q : Exit → Act → World → Prop), Post C nt K A0 μ0 w0 nx0 r k Q →
      Pre C nt K A0 μ0 w0 nx0 r (exec C F lf fid c k) (c.wp C.P Q) := by
  intro c
  induction c with
  | skip => intro _ k Q hk t h A μ a w e hr hx hb hn; exact wp_skip (hk .normal t h A μ a w e hr hx hb hn)
  | label l => intro _ k Q hk t h A μ a w e hr hx hb hn; exact wp_label (hk .normal t h A μ a w e hr hx hb hn)
  | exit i => intro _ k Q hk t h A μ a w e hr hx hb hn; exact wp_exit (hk (.exit i) t h A μ a w e hr hx hb hn)
  | ret => intro _ k Q hk t h A μ a w e hr hx hb hn; exact wp_ret (hk .ret t h A μ a w e hr hx hb hn)
  | scope c ih =>
    intro hc k Q hk t h A μ a w e hr hx hb hn
    refine wp_scope_straight (ih hc k (Exit.noGoto Q) (fun e t h A μ a w h1 h2 h3 h4 h5 => ?_) t h A μ a w e hr hx hb hn)
    have := hk e t h A μ a w h1 h2 h3 h4 h5
    cases e <;> exact this
  | region id ops draw =>
    intro hc k Q hk t h A μ a w e hr hx hb hn
    refine region_ok (k := k .normal) (lf := lf) hF hfr hext hm hc e hr fun t' h' A' μ' a' w' e' hr' hx' hb' hn' => ?_
    refine hk .normal t' h' A' μ' a' w' e' hr' (hx.trans hx') (fun id hid => ?_) (Nat.le_trans hn hn')
    rcases hb' id hid with h | h
    · exact hb id h
    · exact .inr (Nat.le_trans hn h)
  | seq a b iha ihb =>
    intro hc k Q hk t h A μ a' w e hr hx hb hn
    simp only [codeOk, Bool.and_eq_true] at hc
    refine wp_seq (iha hc.1 _ _ (fun e t h A μ a w h1 h2 h3 h4 h5 => ?_) t h A μ a' w e hr hx hb hn)
    cases e with
    | normal => exact ihb hc.2 k Q hk t h A μ a w h1 h2 h3 h4 h5
    | exit i => exact hk _ t h A μ a w h1 h2 h3 h4 h5
    | ret => exact hk _ t h A μ a w h1 h2 h3 h4 h5
  | cond x a b iha ihb =>
    intro hc k Q hk t h A μ a' w e hr hx hb hn
    simp only [codeOk, Bool.and_eq_true] at hc
    simp only [exec] at e
    split at e
    · rename_i x' hx'
      have hv := ev_V hr.gl hr.tr hx'
      have hev : a'.eval x = .bool x' := by generalize a'.eval x = z at hv; cases hv; rfl
      refine wp_cond hev ?_
      cases x'
      · exact ihb hc.2 k Q hk t h A μ a' w e hr hx hb hn
      · exact iha hc.1 k Q hk t h A μ a' w e hr hx hb hn
    · cases e
  | block id c ih =>
    intro hc k Q hk t h A μ a w e hr hx hb hn
    refine wp_block (ih hc _ _ (fun e t h A μ a w h1 h2 h3 h4 h5 => ?_) t h A μ a w e hr hx hb hn)
    cases e with
    | normal => exact hk _ t h A μ a w h1 h2 h3 h4 h5
    | ret => exact hk _ t h A μ a w h1 h2 h3 h4 h5
    | exit i =>
      simp only [toExit, Exit.inBlock]
      cases hi : Nat.beq i id
      · rw [natBeq, decide_eq_false_iff_not] at hi
        simp only [natBeq, hi, decide_false, cond_false] at h1
        rw [if_neg hi]
        exact hk _ t h A μ a w h1 h2 h3 h4 h5
      · rw [natBeq, decide_eq_true_eq] at hi
        simp only [natBeq, hi, decide_true, cond_true] at h1
        rw [if_pos hi]
        exact hk .normal t h A μ a w h1 h2 h3 h4 h5
  | loop c ih =>
    intro hc k Q hk t h A μ a w e hr hx hb hn
    refine wp_loop_rounds lf ?_
    have key : ∀ n, Pre C nt K A0 μ0 w0 nx0 r (loopN (ρ := ρ) (exec C F lf fid c) (fun _ _ => none) k n) (Code.rounds C.P c Q n) := by
      intro n
      induction n with
      | zero => intro t h A μ a w e; simp [loopN] at e
      | succ n ihn =>
        refine ih hc _ _ (fun e t h A μ a w h1 h2 h3 h4 h5 => ?_)
        cases e with
        | normal => exact ihn t h A μ a w h1 h2 h3 h4 h5
        | exit i => exact hk _ t h A μ a w h1 h2 h3 h4 h5
        | ret => exact hk _ t h A μ a w h1 h2 h3 h4 h5
    exact key lf t h A μ a w e hr hx hb hn
  | _ => intro _ k Q hk t h A μ a w e; simp [exec] at e

theorem initT_get : ∀ (l : List AVal) (i : Nat) (t : Tmps) (j : Nat), (initT l i t).get j = if i ≤ j ∧ j < i + l.length then l[j - i]? else t.get j := by
  intro l
  induction l with
  | nil => intro i t j; simp only [initT, List.length_nil]; rw [if_neg (by omega)]
  | cons v l ih =>
    intro i t j
    simp only [initT, ih, List.length_cons, Trie.get_set]
    by_cases h1 : i + 1 ≤ j ∧ j < i + 1 + l.length
    · rw [if_pos h1, if_pos (by omega), show j - i = (j - (i + 1)) + 1 by omega]; rfl
    · rw [if_neg h1]
      by_cases h2 : j = i
      · subst h2; rw [if_pos rfl, if_pos (by omega)]; simp
      · rw [if_neg h2, if_neg (by omega)]

def resM (xs : Array Value) : ResultVar → Sem Value
  | .tmp t => pure (xs.getD t undef)
  | .cell b t => do loadVar t (← asAddr (xs.getD b undef))
theorem results_eq (fn : Func) (xs : Array Value) : results fn xs = (do let vs ← fn.results.mapM (resM xs); pure (if h : vs.size = 1 then vs[0] else .tuple vs)) := by
  unfold results
  congr 1

theorem results_ok {fn : Func} {t : Tmps} {h : Heap} {v : AVal} {A : Nat → Prop} {μ : Mu} {a : Act} {w : World} (e : resultsA C fn t h = some v) (ht : TR (Bad K μ) w μ A t a.tmps) (hr : R K A μ h.get h.next w) :
    ∃ x, (results fn a.tmps).run C.P w = .ok x w ∧ V (Bad K μ) w μ A v x := by
  unfold resultsA at e
  split at e
  · rename_i vs hm
    cases e
    have key : ∀ (l : List ResultVar) (vs : List AVal), mapO (resA C t h) l = some vs → ∃ xs : List Value, (l.mapM (resM a.tmps)).run C.P w = .ok xs w ∧ VL (Bad K μ) w μ A vs xs := by
      intro l
      induction l with
      | nil => intro vs h1; simp only [mapO, Option.some.injEq] at h1; subst h1; exact ⟨[], by simp, VL.nil⟩
      | cons x l ih =>
        intro vs h1
        simp only [mapO] at h1
        split at h1
        · rename_i y hy
          split at h1
          · rename_i ys hys
            cases h1
            obtain ⟨xs, i1, i2⟩ := ih ys hys
            have hx : ∃ z, (resM a.tmps x).run C.P w = .ok z w ∧ V (Bad K μ) w μ A y z := by
              cases x with
              | tmp i =>
                obtain ⟨z, z1, z2⟩ := ht i y hy
                exact ⟨z, by simp [resM, Array.getD_eq_getD_getElem?, z1], z2⟩
              | cell i ty =>
                simp only [resA] at hy
                split at hy
                · rename_i p hp
                  obtain ⟨z, z1, z2⟩ := ht i p hp
                  unfold loadA at hy
                  split at hy
                  · rename_i cs hcs
                    obtain ⟨b, o, rfl, hc⟩ := cellsAt_ok hcs hr z2
                    obtain ⟨u, u1, u2⟩ := partA_load hy hc
                    exact ⟨u, by simp [resM, Array.getD_eq_getD_getElem?, z1, asAddr, u1], u2⟩
                  · cases hy
                · cases hy
            obtain ⟨z, z1, z2⟩ := hx
            exact ⟨z :: xs, by rw [List.mapM_cons]; simp [z1, i1], VL.cons z2 i2⟩
          · cases h1
        · cases h1
    obtain ⟨xs, k1, k2⟩ := key _ _ hm
    rw [results_eq, Array.mapM_eq_mapM_toList]
    refine ⟨if h : xs.toArray.size = 1 then xs.toArray[0] else .tuple xs.toArray, ?_, ?_⟩
    · simp only [Sem.run_bind, Sem.run_map, k1, Result.andThen_ok, Sem.run_pure]
    · cases vs with
      | nil => have := k2.nil_inv; subst this; exact .tuple _ _ _ rfl (by simp)
      | cons v vs =>
        obtain ⟨x, ys, rfl, q1, q2⟩ := k2.cons_inv
        cases vs with
        | nil => have := q2.nil_inv; subst this; simpa [packA] using q1
        | cons v' vs' =>
          obtain ⟨x', ys', rfl, q3, q4⟩ := q2.cons_inv
          rw [dif_neg (by simp)]
          exact .tuple _ _ _ (by simpa using k2.1) (fun i a x h1 h2 => k2.2 i a x h1 (by simpa using h2))
  · cases e

theorem checkFrom_spec : ∀ n s, checkFrom C s n = true → ∀ f, s ≤ f → f < s + n → C.ok f = true → fnOk C f = true := by
  intro n
  induction n with
  | zero => intro s _ f h1 h2; omega
  | succ n ih =>
    intro s h f h1 h2 hok
    simp only [checkFrom, Bool.and_eq_true, Bool.or_eq_true, Bool.not_eq_true'] at h
    by_cases hfn : f = s
    · subst hfn; exact h.1.resolve_left (by simp [hok])
    · exact ih (s + 1) h.2 f (by omega) (by omega) hok

theorem callH_ok (hext : ∀ f, C.ext f = none) (hm : C.P.follows .mixedOrders = true) (hck : ∀ f, f < C.P.funcs.size → C.ok f = true → fnOk C f = true) : ∀ n, Sound C (callH C n) := by
  intro n
  induction n with
  | zero => intro f args h r h' e; simp [callH] at e
  | succ n ih =>
    intro f args h r h' e
    simp only [callH] at e
    split at e
    · cases e
    · rename_i _ fn hfn
      cases hok : C.ok f
      · rw [hok] at hfn; cases hfn
      rw [hok, cond_true] at hfn
      have hfo := hck f (Array.getElem?_eq_some_iff.1 hfn).1 hok
      simp only [fnOk, hfn, Bool.and_eq_true, Bool.not_eq_true'] at hfo
      obtain ⟨hname, hcode⟩ := hfo
      split at e
      · cases e
      · rename_i _ c hc
        rw [hc] at hcode
        refine ⟨⟨fn, hfn, hname, by rw [hc]; rfl⟩, fun K A μ w xs hR hg hv hk => ?_⟩
        refine calls_of_wp hfn hc ?_
        have hl : args.length = xs.size := by simpa using hv.1
        refine exec_ok (A0 := A) (μ0 := μ) (w0 := w) (nx0 := h.next) (K := K) (nt := fn.ntmps) (r := (r, h')) ih (callH_fr n) hext hm c hcode _ _ ?_ _ _ A μ _ w e ⟨fun i v hi => ?_, hR, hg, rfl, ?_, hk⟩ Ext.refl (fun id h => .inl h) (Nat.le_refl _)
        · intro e t h1 A1 μ1 a w1 hq hr hx hb hn
          cases e with
          | exit i => cases hq
          | normal =>
            simp only at hq
            split at hq
            · rename_i v hv
              cases hq
              obtain ⟨x, x1, x2⟩ := results_ok hv hr.tr hr.r
              exact ⟨hr.df, x, x1, A1, μ1, hr.r, hx, hb, x2⟩
            · cases hq
          | ret =>
            simp only at hq
            split at hq
            · rename_i v hv
              cases hq
              obtain ⟨x, x1, x2⟩ := results_ok hv hr.tr hr.r
              exact ⟨hr.df, x, x1, A1, μ1, hr.r, hx, hb, x2⟩
            · cases hq
        · rw [initT_get] at hi
          by_cases hlt : 0 ≤ i ∧ i < 0 + args.length
          · rw [if_pos hlt] at hi
            have hx : i < xs.size := by omega
            refine ⟨xs[i], by rw [Array.getElem?_append_left hx]; simp [hx], hv.2 i v _ hi (by simp [hx])⟩
          · rw [if_neg hlt, Trie.get_nil] at hi; cases hi
        · simp only [Array.size_append, Array.size_replicate]; omega
end Go.Den
