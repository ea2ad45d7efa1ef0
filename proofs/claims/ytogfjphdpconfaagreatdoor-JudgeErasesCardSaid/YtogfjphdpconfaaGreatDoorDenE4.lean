import Derived.Test.YtogfjphdpconfaaGreatDoorDenE2
namespace Go.Den
open Go Go.Proofs
variable {F : FuncId → List AVal → Heap → Option (AVal × Heap)} {lf : Nat} {ρ : Type}
theorem nre (f r : Nat) (hf : f = 8 ∨ f = 6 ∨ f = 7 ∨ f = 3) : Cz.re f r = [] := by
  have h8 : (reT.get 8) = none := by kernel_rfl
  have h6 : (reT.get 6) = none := by kernel_rfl
  have h7 : (reT.get 7) = none := by kernel_rfl
  have h3 : (reT.get 3) = none := by kernel_rfl
  show (match reT.get f with | some l => reLook r l | none => []) = []
  rcases hf with rfl | rfl | rfl | rfl
  · rw [h8]
  · rw [h6]
  · rw [h7]
  · rw [h3]
theorem nperm (f r : Nat) (hf : f ≠ 471) : Cz.perm f r = [] := by
  show (bif Nat.beq f 471 && Nat.beq r 3 then _ else _) = _
  rw [natBeq]; simp [hf]
theorem prm_id (f r : Nat) (ops : Array Oper) (b : Bool) (hf : f ≠ 471) : prm Cz f r ops b = ops := by
  cases b
  · rfl
  · simp only [prm, nperm f r hf]


def ArgIs (v : AVal) (l : List Act3) : Prop := (l = [] ∧ v = .nilslice) ∨ ∃ ex, v = .list (cells3 l) l.length ex
theorem len22n : lenP Cz 22 .nilslice = some (.int .i64 0) := by kernel_rfl
theorem len25n : lenP Cz 25 .nilslice = some (.int .i64 0) := by kernel_rfl
theorem len22a {v : AVal} {l : List Act3} (h : ArgIs v l) : lenP Cz 22 v = some (.int .i64 l.length) := by
  rcases h with ⟨rfl, rfl⟩ | ⟨ex, rfl⟩
  · exact len22n
  · exact len22
theorem len25a {v : AVal} {l : List Act3} (h : ArgIs v l) : lenP Cz 25 v = some (.int .i64 l.length) := by
  rcases h with ⟨rfl, rfl⟩ | ⟨ex, rfl⟩
  · exact len25n
  · exact len25
theorem ix22a {v : AVal} {l : List Act3} (h : ArgIs v l) {n : Nat} {a b c : Int} (hx : l[n]? = some (a, b, c)) : indexAddrA Cz 22 v (.int .i64 (n : Int)) = some (.fptr (.int .i64 a :: .int .i64 b :: .int .i64 c :: cells3 (l.drop (n + 1)))) := by
  rcases h with ⟨rfl, rfl⟩ | ⟨ex, rfl⟩
  · simp at hx
  · exact ix22 hx
theorem ix25a {v : AVal} {l : List Act3} (h : ArgIs v l) {n : Nat} {a b c : Int} (hx : l[n]? = some (a, b, c)) : indexAddrA Cz 25 v (.int .i64 (n : Int)) = some (.fptr (.int .i64 a :: .int .i64 b :: .int .i64 c :: cells3 (l.drop (n + 1)))) := by
  rcases h with ⟨rfl, rfl⟩ | ⟨ex, rfl⟩
  · simp at hx
  · exact ix25 hx
theorem lss_t {a b : Int} (h : a < b) : binA Cz .lss 3 false (.int .i64 a) (.int .i64 b) = some (.bool true) := by
  have : binA Cz .lss 3 false (.int .i64 a) (.int .i64 b) = some (.bool (decide (a < b))) := rfl
  rw [this, decide_eq_true h]
theorem lss_f {a b : Int} (h : ¬ a < b) : binA Cz .lss 3 false (.int .i64 a) (.int .i64 b) = some (.bool false) := by
  have : binA Cz .lss 3 false (.int .i64 a) (.int .i64 b) = some (.bool (decide (a < b))) := rfl
  rw [this, decide_eq_false h]
theorem inc {n : Nat} (h : n ≤ 100000) : binA Cz .add 3 true (.int .i64 (n : Int)) (.int .i64 1) = some (.int .i64 ((n + 1 : Nat) : Int)) := by
  have : binA Cz .add 3 true (.int .i64 (n : Int)) (.int .i64 1) = some (.int .i64 (IntKind.i64.wrap ((n : Int) + 1))) := rfl
  rw [this, wrap_in (by omega) (by omega)]; rfl
set_option maxHeartbeats 1000000
set_option maxRecDepth 20000
def Ends {ρ : Type} (k : Ex → Tmps → Heap → Option ρ) (l : List Act3) (nx : Nat) (x : Option ρ) : Prop :=
  ∃ t' h' out', x = k (.exit 0) t' h' ∧ t'.get 3 = some out' ∧ OutIs h' out' l ∧ nx ≤ h'.next
theorem Ends.of {k : Ex → Tmps → Heap → Option ρ} {l : List Act3} {nx : Nat} {x y : Option ρ} (e : x = y) (h : Ends k l nx y) : Ends k l nx x := e ▸ h
theorem lne {b : Int} {l : List AVal} {u : AVal} (h : u = .int .i64 b) : u ≠ .tuple l := by rw [h]; simp

theorem loop8 (l : List Act3) (hl : l.length ≤ 2000) (arg : AVal) (harg : ArgIs arg l) (k : Ex → Tmps → Heap → Option ρ) : ∀ (j n : Nat), n + j = l.length → ∀ (m : Nat), j < m → ∀ (t : Tmps) (h : Heap) (out : AVal), t.get 0 = some arg → t.get 3 = some out → t.get 4 = some (.int .i64 (n : Int)) → OutIs h out (l.take n) →
    Ends k l h.next (loopN (ρ := ρ) (exec Cz F lf 8 c8) (fun _ _ => none) k m t h) := by
  intro j
  induction j with
  | zero =>
    intro n hn m hm t h out h0 h3 h4 ho
    obtain ⟨m, rfl⟩ : ∃ m', m = m' + 1 := ⟨m - 1, by omega⟩
    have hnl : n = l.length := by omega
    have hlt : ¬ (n : Int) < (l.length : Int) := by omega
    unfold loopN
    simp only [c8, Tryz.f8, theLoop, Option.getD_some]
    refine Ends.of e_seq ?_
    refine Ends.of e_seq ?_
    refine Ends.of (e_region 4 (prm_id 8 _ _ _ (by decide)) (nre 8 _ (.inl rfl)) rfl) ?_
    refine Ends.of (r_op (s_move (ev_tmp (h4)))) ?_
    refine Ends.of (r_op (s_move (ev_tmp (g_skip rfl (h0))))) ?_
    refine Ends.of (r_op (s_len nm22 (ev_tmp (g_here)) (len22a harg))) ?_
    refine Ends.of (r_op (s_bin (ev_tmp (g_skip rfl (g_skip rfl (g_here)))) (ev_tmp (g_here)) (lss_f hlt))) ?_
    refine Ends.of r_nil ?_
    refine Ends.of (e_cond0 (ev_tmp g_here)) ?_
    refine Ends.of e_exit ?_
    refine ⟨_, _, out, rfl, ?_, ?_, Nat.le_add_right _ _⟩
    · repeat first | exact h3 | apply g_skip rfl
    · rw [hnl, List.take_length] at ho
      exact ho.mono (Nat.le_add_right _ _) (fun _ _ => rfl)
  | succ j ih =>
    intro n hn m hm t h out h0 h3 h4 ho
    obtain ⟨m, rfl⟩ : ∃ m', m = m' + 1 := ⟨m - 1, by omega⟩
    have hnl : n < l.length := by omega
    have hlt : (n : Int) < (l.length : Int) := by omega
    obtain ⟨⟨a, b, c⟩, hx⟩ : ∃ x, l[n]? = some x := ⟨l[n], List.getElem?_eq_getElem hnl⟩
    obtain ⟨i30v, hi30, hs30, hb30⟩ := i30
    have aty : appendTy Cz 25 25 = some i30v := by rw [aty25, hi30]
    have htl : (l.take n).length = n := by rw [List.length_take]; omega
    have hfr : ∀ id, out = .slice id 0 (l.take n).length (l.take n).length false 3 → id ≠ h.next + 4 + 18 := by
      intro id e
      rcases ho with ⟨_, h2⟩ | ⟨_, id2, h2, h3, _⟩
      · rw [h2] at e; cases e
      · rw [h2] at e
        simp only [AVal.slice.injEq] at e
        omega
    unfold loopN
    simp only [c8, Tryz.f8, theLoop, Option.getD_some]
    refine Ends.of e_seq ?_
    refine Ends.of e_seq ?_
    refine Ends.of (e_region 4 (prm_id 8 _ _ _ (by decide)) (nre 8 _ (.inl rfl)) rfl) ?_
    refine Ends.of (r_op (s_move (ev_tmp (h4)))) ?_
    refine Ends.of (r_op (s_move (ev_tmp (g_skip rfl (h0))))) ?_
    refine Ends.of (r_op (s_len nm22 (ev_tmp (g_here)) (len22a harg))) ?_
    refine Ends.of (r_op (s_bin (ev_tmp (g_skip rfl (g_skip rfl (g_here)))) (ev_tmp (g_here)) (lss_t hlt))) ?_
    refine Ends.of r_nil ?_
    refine Ends.of (e_cond1 (ev_tmp g_here)) ?_
    refine Ends.of e_skip ?_
    refine Ends.of e_seq ?_
    refine Ends.of e_block ?_
    refine Ends.of (e_region 20 (prm_id 8 _ _ _ (by decide)) (nre 8 _ (.inl rfl)) rfl) ?_
    refine Ends.of (r_op (s_move (ev_tmp (g_skip rfl (g_skip rfl (g_skip rfl (g_skip rfl (h3)))))))) ?_
    refine Ends.of (r_op (s_move (ev_tmp (g_skip rfl (g_skip rfl (g_skip rfl (g_skip rfl (g_skip rfl (h0))))))))) ?_
    refine Ends.of (r_op (s_move (ev_tmp (g_skip rfl (g_skip rfl (g_skip rfl (g_skip rfl (g_skip rfl (g_skip rfl (h4)))))))))) ?_
    refine Ends.of (r_op (s_indexAddr (ev_tmp (g_skip rfl (g_here))) (ev_tmp (g_here)) (ix22a harg hx))) ?_
    refine Ends.of (r_op (s_fieldAddr (ev_tmp (g_here)) fa29_0)) ?_
    refine Ends.of (r_op (s_load (ev_tmp (g_here)) ld3 (by intro l; simp))) ?_
    refine Ends.of (r_op (s_move (ev_tmp (g_skip rfl (g_skip rfl (g_skip rfl (g_skip rfl (g_skip rfl (g_skip rfl (g_skip rfl (g_skip rfl (g_skip rfl (g_skip rfl (h0)))))))))))))) ?_
    refine Ends.of (r_op (s_move (ev_tmp (g_skip rfl (g_skip rfl (g_skip rfl (g_skip rfl (g_skip rfl (g_skip rfl (g_skip rfl (g_skip rfl (g_skip rfl (g_skip rfl (g_skip rfl (h4))))))))))))))) ?_
    refine Ends.of (r_op (s_indexAddr (ev_tmp (g_skip rfl (g_here))) (ev_tmp (g_here)) (ix22a harg hx))) ?_
    refine Ends.of (r_op (s_fieldAddr (ev_tmp (g_here)) fa29_1)) ?_
    refine Ends.of (r_op (s_load (ev_tmp (g_here)) ld3 (by intro l; simp))) ?_
    refine Ends.of (r_op (s_move (ev_tmp (g_skip rfl (g_skip rfl (g_skip rfl (g_skip rfl (g_skip rfl (g_skip rfl (g_skip rfl (g_skip rfl (g_skip rfl (g_skip rfl (g_skip rfl (g_skip rfl (g_skip rfl (g_skip rfl (g_skip rfl (h0))))))))))))))))))) ?_
    refine Ends.of (r_op (s_move (ev_tmp (g_skip rfl (g_skip rfl (g_skip rfl (g_skip rfl (g_skip rfl (g_skip rfl (g_skip rfl (g_skip rfl (g_skip rfl (g_skip rfl (g_skip rfl (g_skip rfl (g_skip rfl (g_skip rfl (g_skip rfl (g_skip rfl (h4)))))))))))))))))))) ?_
    refine Ends.of (r_op (s_indexAddr (ev_tmp (g_skip rfl (g_here))) (ev_tmp (g_here)) (ix22a harg hx))) ?_
    refine Ends.of (r_op (s_fieldAddr (ev_tmp (g_here)) fa29_2)) ?_
    refine Ends.of (r_op (s_load (ev_tmp (g_here)) ld3 (by intro l; simp))) ?_
    refine Ends.of (r_op (s_build (ep_cons (ev_tmp (g_skip rfl (g_skip rfl (g_skip rfl (g_skip rfl (g_skip rfl (g_skip rfl (g_skip rfl (g_skip rfl (g_skip rfl (g_skip rfl (g_here)))))))))))) (by intro l; simp) (ep_cons (ev_tmp (g_skip rfl (g_skip rfl (g_skip rfl (g_skip rfl (g_skip rfl (g_here))))))) (by intro l; simp) (ep_cons (ev_tmp (g_here)) (by intro l; simp) ep_nil))) bd30)) ?_
    refine Ends.of (r_op (s_buildSlice (ep_cons (ev_tmp (g_here)) (by intro l; simp) ep_nil) bs25)) ?_
    obtain ⟨v2, h2, ha, hn2, ho2⟩ := app_ 25 i30v aty hs30 hb30 (a := a) (b := b) (c := c) (nid := h.next + 4 + 18) (eid := h.next + 4 + 17) (ho.mono (h' := (Heap.mk (h.next + 4 + 20) h.objs).put (h.next + 4 + 17) (.arr [.int .i64 a, .int .i64 b, .int .i64 c] 0 false)) (by simp only [Heap.next_put]; omega) (fun id hid => by rw [Heap.get_put, if_neg (by omega)]; rfl)) (by rw [htl]; omega) (by simp only [Heap.next_put]; omega) hfr (by rw [Heap.get_put, if_pos rfl])
    refine Ends.of (r_op ((s_append (ev_tmp (g_skip rfl (g_skip rfl (g_skip rfl (g_skip rfl (g_skip rfl (g_skip rfl (g_skip rfl (g_skip rfl (g_skip rfl (g_skip rfl (g_skip rfl (g_skip rfl (g_skip rfl (g_skip rfl (g_skip rfl (g_skip rfl (g_skip rfl (g_here))))))))))))))))))) (ev_tmp (g_here))).trans ha)) ?_
    refine Ends.of (r_op (s_assign (ev_tmp (g_here)))) ?_
    refine Ends.of r_nil ?_
    dsimp only
    refine Ends.of (e_region 3 (prm_id 8 _ _ _ (by decide)) (nre 8 _ (.inl rfl)) rfl) ?_
    refine Ends.of (r_op (s_move (ev_tmp (g_skip rfl (g_skip rfl (g_skip rfl (g_skip rfl (g_skip rfl (g_skip rfl (g_skip rfl (g_skip rfl (g_skip rfl (g_skip rfl (g_skip rfl (g_skip rfl (g_skip rfl (g_skip rfl (g_skip rfl (g_skip rfl (g_skip rfl (g_skip rfl (g_skip rfl (g_skip rfl (g_skip rfl (g_skip rfl (g_skip rfl (g_skip rfl (h4)))))))))))))))))))))))))))) ?_
    refine Ends.of (r_op (s_bin (ev_tmp (g_here)) rfl (inc (n := n) (by omega)))) ?_
    refine Ends.of (r_op (s_assign (ev_tmp (g_here)))) ?_
    refine Ends.of r_nil ?_
    dsimp only
    have htk : l.take (n + 1) = l.take n ++ [(a, b, c)] := by rw [List.take_add_one, hx]; rfl
    have ho3 : OutIs (Heap.mk (h2.next + 3) h2.objs) v2 (l.take (n + 1)) := by
      rw [htk]; exact ho2.mono (Nat.le_add_right _ _) (fun _ _ => rfl)
    have mono : ∀ x : Option ρ, Ends k l (h2.next + 3) x → Ends k l h.next x := by
      rintro x ⟨t3, h3', o3, e1, e2, e3, e4⟩
      have : h2.next = h.next + 4 + 20 := hn2
      exact ⟨t3, h3', o3, e1, e2, e3, by omega⟩
    refine mono _ (ih (n + 1) (by omega) m (by omega) _ (Heap.mk (h2.next + 3) h2.objs) v2 ?_ ?_ ?_ ho3)
    · exact (g_skip rfl (g_skip rfl (g_skip rfl (g_skip rfl (g_skip rfl (g_skip rfl (g_skip rfl (g_skip rfl (g_skip rfl (g_skip rfl (g_skip rfl (g_skip rfl (g_skip rfl (g_skip rfl (g_skip rfl (g_skip rfl (g_skip rfl (g_skip rfl (g_skip rfl (g_skip rfl (g_skip rfl (g_skip rfl (g_skip rfl (g_skip rfl (g_skip rfl (g_skip rfl (g_skip rfl (h0))))))))))))))))))))))))))))
    · exact (g_skip rfl (g_skip rfl (g_skip rfl (g_here))))
    · exact (g_here)

def Ret {ρ : Type} (l : List Act3) (nx : Nat) (x : Option (AVal × Heap)) : Prop := ∃ v hc, x = some (v, hc) ∧ OutIs hc v l ∧ nx ≤ hc.next
theorem Ret.of {l : List Act3} {nx : Nat} {x y : Option (AVal × Heap)} (e : x = y) (h : Ret (ρ := Nat) l nx y) : Ret (ρ := Nat) l nx x := e ▸ h
theorem Ends.ret {k : Ex → Tmps → Heap → Option (AVal × Heap)} {l : List Act3} {nx nx0 : Nat} {x : Option (AVal × Heap)} (h : Ends k l nx x) (hk : ∀ t' h' o', t'.get 3 = some o' → OutIs h' o' l → nx ≤ h'.next → Ret (ρ := Nat) l nx0 (k (.exit 0) t' h')) : Ret (ρ := Nat) l nx0 x := by
  obtain ⟨t', h', o', rfl, h2, h3, h4⟩ := h
  exact hk t' h' o' h2 h3 h4
theorem ok8 : Cz.ok 8 = true := by kernel_rfl
theorem fn8 : Cz.P.funcs[8]? = some Tryz.f8 := Tryz.func8
theorem acts_ok (l : List Act3) (hl : l.length ≤ 2000) (arg : AVal) (harg : ArgIs arg l) (N : Nat) (hN : 2001 ≤ N) (h : Heap) : Ret (ρ := Nat) l h.next (callH Cz (N + 1) 8 [arg] h) := by
  have h0 : (initT [arg] 0 .nil).get 0 = some arg := by rw [initT_get]; simp
  simp only [callH, ok8, cond_true, fn8]
  simp only [Tryz.f8]
  refine Ret.of e_seq ?_
  refine Ret.of (e_region 1 (prm_id 8 _ _ _ (by decide)) (nre 8 _ (.inl rfl)) rfl) ?_
  refine Ret.of (r_op (s_assign rfl)) ?_
  refine Ret.of r_nil ?_
  refine Ret.of e_seq ?_
  refine Ret.of (e_region 1 (prm_id 8 _ _ _ (by decide)) (nre 8 _ (.inl rfl)) rfl) ?_
  refine Ret.of (r_op (s_assign rfl)) ?_
  refine Ret.of r_nil ?_
  refine Ret.of e_seq ?_
  refine Ret.of e_seq ?_
  refine Ret.of (e_region 1 (prm_id 8 _ _ _ (by decide)) (nre 8 _ (.inl rfl)) rfl) ?_
  refine Ret.of (r_op (s_assign rfl)) ?_
  refine Ret.of r_nil ?_
  refine Ret.of e_block ?_
  refine Ret.of e_loop ?_
  refine Ends.ret (loop8 l hl arg harg _ l.length 0 (by omega) N (by omega) _ _ .nilslice ?_ ?_ ?_ (.inl ⟨by simp, rfl⟩)) (fun t' h' o' e2 e3 e4 => ?_)
  · exact (g_skip rfl (g_skip rfl (g_skip rfl (h0))))
  · exact (g_skip rfl (g_here))
  · exact (g_here)
  refine Ret.of e_seq ?_
  refine Ret.of (e_region 2 (prm_id 8 _ _ _ (by decide)) (nre 8 _ (.inl rfl)) rfl) ?_
  refine Ret.of (r_op (s_move (ev_tmp (e2)))) ?_
  refine Ret.of (r_op (s_assign (ev_tmp (g_here)))) ?_
  refine Ret.of r_nil ?_
  refine Ret.of e_ret ?_
  refine ⟨o', Heap.mk (h'.next + 2) h'.objs, ?_, e3.mono (Nat.le_add_right _ _) (fun _ _ => rfl), ?_⟩
  · simp only [resultsA, mapO, resA, packA, g_here]
  · have : h.next + 1 + 1 + 1 ≤ h'.next := e4
    show h.next ≤ h'.next + 2
    omega
end Go.Den
