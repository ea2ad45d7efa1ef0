import Derived.Test.YtogfjphdpconfaaGreatDoorDenE4
namespace Go.Den
open Go Go.Proofs
variable {F : FuncId → List AVal → Heap → Option (AVal × Heap)} {lf : Nat} {ρ : Type}
set_option maxHeartbeats 1000000
set_option maxRecDepth 20000
theorem neq_t {a b : Int} (h : a ≠ b) : binA Cz .neq 3 true (.int .i64 a) (.int .i64 b) = some (.bool true) := by
  have : binA Cz .neq 3 true (.int .i64 a) (.int .i64 b) = some (.bool (a != b)) := rfl
  rw [this]; simp [h]
theorem neq_f {a b : Int} (h : a = b) : binA Cz .neq 3 true (.int .i64 a) (.int .i64 b) = some (.bool false) := by
  have : binA Cz .neq 3 true (.int .i64 a) (.int .i64 b) = some (.bool (a != b)) := rfl
  rw [this]; simp [h]
theorem fa30_0 {x y z : AVal} {l : List AVal} : fieldAddrA Cz 30 (.fptr (x :: y :: z :: l)) 0 = some (.fptr (x :: y :: z :: l)) := by kernel_rfl
theorem fa30_1 {x y z : AVal} {l : List AVal} : fieldAddrA Cz 30 (.fptr (x :: y :: z :: l)) 1 = some (.fptr (y :: z :: l)) := by kernel_rfl
theorem fa30_2 {x y z : AVal} {l : List AVal} : fieldAddrA Cz 30 (.fptr (x :: y :: z :: l)) 2 = some (.fptr (z :: l)) := by kernel_rfl
def keep (x : Act3) : Bool := x.1 != 2 && x.1 != 3
noncomputable def c7 : Code := (theLoop ((Tryz.f7.body).getD .skip)).getD .skip
theorem loop7 (l : List Act3) (hl : l.length ≤ 2000) (arg : AVal) (harg : ArgIs arg l) (k : Ex → Tmps → Heap → Option ρ) : ∀ (j n : Nat), n + j = l.length → ∀ (m : Nat), j < m → ∀ (t : Tmps) (h : Heap) (out : AVal), t.get 0 = some arg → t.get 3 = some out → t.get 4 = some (.int .i64 (n : Int)) → OutIs h out ((l.take n).filter keep) →
    Ends k (l.filter keep) h.next (loopN (ρ := ρ) (exec Cz F lf 7 c7) (fun _ _ => none) k m t h) := by
  intro j
  induction j with
  | zero =>
    intro n hn m hm t h out h0 h3 h4 ho
    obtain ⟨m, rfl⟩ : ∃ m', m = m' + 1 := ⟨m - 1, by omega⟩
    have hnl : n = l.length := by omega
    have hlt : ¬ (n : Int) < (l.length : Int) := by omega
    unfold loopN
    simp only [c7, Tryz.f7, theLoop, Option.getD_some]
    refine Ends.of e_seq ?_
    refine Ends.of e_seq ?_
    refine Ends.of (e_region 4 (prm_id 7 _ _ _ (by decide)) (nre 7 _ (.inr (.inr (.inl rfl)))) rfl) ?_
    refine Ends.of (r_op (s_move (ev_tmp (h4)))) ?_
    refine Ends.of (r_op (s_move (ev_tmp (g_skip rfl (h0))))) ?_
    refine Ends.of (r_op (s_len nm25 (ev_tmp (g_here)) (len25a harg))) ?_
    refine Ends.of (r_op (s_bin (ev_tmp (g_skip rfl (g_skip rfl (g_here)))) (ev_tmp (g_here)) (lss_f hlt))) ?_
    refine Ends.of r_nil ?_
    refine Ends.of (e_cond0 (ev_tmp g_here)) ?_
    refine Ends.of e_exit ?_
    refine ⟨_, _, out, rfl, ?_, ?_, Nat.le_add_right _ _⟩
    · exact (g_skip rfl (g_skip rfl (g_skip rfl (g_skip rfl (h3)))))
    · rw [hnl, List.take_length] at ho
      exact ho.mono (Nat.le_add_right _ _) (fun _ _ => rfl)
  | succ j ih =>
    intro n hn m hm t h out h0 h3 h4 ho
    obtain ⟨m, rfl⟩ : ∃ m', m = m' + 1 := ⟨m - 1, by omega⟩
    have hnl : n < l.length := by omega
    have hlt : (n : Int) < (l.length : Int) := by omega
    obtain ⟨⟨a, b, c⟩, hx⟩ : ∃ x, l[n]? = some x := ⟨l[n], List.getElem?_eq_getElem hnl⟩
    obtain ⟨i30v, hi30, hs30, hb30⟩ := i30
    have aty : appendTy Cz 25 25 = some i30v := by rw [aty25, hi30]
    have htl : ((l.take n).filter keep).length ≤ n := Nat.le_trans (List.length_filter_le _ _) (by rw [List.length_take]; omega)
    have htk : l.take (n + 1) = l.take n ++ [(a, b, c)] := by rw [List.take_add_one, hx]; rfl
    unfold loopN
    simp only [c7, Tryz.f7, theLoop, Option.getD_some]
    refine Ends.of e_seq ?_
    refine Ends.of e_seq ?_
    refine Ends.of (e_region 4 (prm_id 7 _ _ _ (by decide)) (nre 7 _ (.inr (.inr (.inl rfl)))) rfl) ?_
    refine Ends.of (r_op (s_move (ev_tmp (h4)))) ?_
    refine Ends.of (r_op (s_move (ev_tmp (g_skip rfl (h0))))) ?_
    refine Ends.of (r_op (s_len nm25 (ev_tmp (g_here)) (len25a harg))) ?_
    refine Ends.of (r_op (s_bin (ev_tmp (g_skip rfl (g_skip rfl (g_here)))) (ev_tmp (g_here)) (lss_t hlt))) ?_
    refine Ends.of r_nil ?_
    refine Ends.of (e_cond1 (ev_tmp g_here)) ?_
    refine Ends.of e_skip ?_
    refine Ends.of e_seq ?_
    refine Ends.of e_block ?_
    refine Ends.of e_seq ?_
    by_cases h2 : a = 2
    · have hkp : keep (a, b, c) = false := by simp [keep, h2]
      refine Ends.of (e_region 14 (prm_id 7 _ _ _ (by decide)) (nre 7 _ (.inr (.inr (.inl rfl)))) rfl) ?_
      refine Ends.of (r_op (s_move (ev_tmp (g_skip rfl (g_skip rfl (g_skip rfl (g_skip rfl (h0)))))))) ?_
      refine Ends.of (r_op (s_move (ev_tmp (g_skip rfl (g_skip rfl (g_skip rfl (g_skip rfl (g_skip rfl (h4))))))))) ?_
      refine Ends.of (r_op (s_indexAddr (ev_tmp (g_skip rfl (g_here))) (ev_tmp (g_here)) (ix25a harg hx))) ?_
      refine Ends.of (r_op (s_fieldAddr (ev_tmp (g_here)) fa30_0)) ?_
      refine Ends.of (r_op (s_load (ev_tmp (g_here)) ld3 (by intro l; simp))) ?_
      refine Ends.of (r_op (s_bin (ev_tmp (g_here)) rfl (neq_f h2))) ?_
      refine Ends.of (r_op (s_move (ev_tmp (g_here)))) ?_
      refine Ends.of (r_skip rfl (g_here) rfl) ?_
      refine Ends.of (r_skip rfl (g_skip rfl (g_here)) rfl) ?_
      refine Ends.of (r_skip rfl (g_skip rfl (g_skip rfl (g_here))) rfl) ?_
      refine Ends.of (r_skip rfl (g_skip rfl (g_skip rfl (g_skip rfl (g_here)))) rfl) ?_
      refine Ends.of (r_skip rfl (g_skip rfl (g_skip rfl (g_skip rfl (g_skip rfl (g_here))))) rfl) ?_
      refine Ends.of (r_skip rfl (g_skip rfl (g_skip rfl (g_skip rfl (g_skip rfl (g_skip rfl (g_here)))))) rfl) ?_
      refine Ends.of (r_op (s_pick0 (ev_tmp (g_skip rfl (g_skip rfl (g_skip rfl (g_skip rfl (g_skip rfl (g_skip rfl (g_here)))))))) rfl)) ?_
      refine Ends.of r_nil ?_
      dsimp only
      refine Ends.of (e_cond0 (ev_tmp g_here)) ?_
      refine Ends.of e_skip ?_
      dsimp only
      refine Ends.of (e_region 3 (prm_id 7 _ _ _ (by decide)) (nre 7 _ (.inr (.inr (.inl rfl)))) rfl) ?_
      refine Ends.of (r_op (s_move (ev_tmp (g_skip rfl (g_skip rfl (g_skip rfl (g_skip rfl (g_skip rfl (g_skip rfl (g_skip rfl (g_skip rfl (g_skip rfl (g_skip rfl (g_skip rfl (g_skip rfl (g_skip rfl (g_skip rfl (g_skip rfl (g_skip rfl (g_skip rfl (g_skip rfl (h4)))))))))))))))))))))) ?_
      refine Ends.of (r_op (s_bin (ev_tmp (g_here)) rfl (inc (n := n) (by omega)))) ?_
      refine Ends.of (r_op (s_assign (ev_tmp (g_here)))) ?_
      refine Ends.of r_nil ?_
      have ho3 : OutIs (Heap.mk (h.next + 4 + 14 + 3) h.objs) out ((l.take (n + 1)).filter keep) := by
        rw [htk, List.filter_append, List.filter_cons_of_neg (by simp [hkp]), List.filter_nil, List.append_nil]
        exact ho.mono (by show h.next ≤ h.next + 4 + 14 + 3; omega) (fun _ _ => rfl)
      dsimp only
      have mono : ∀ x : Option ρ, Ends k (l.filter keep) (h.next + 4 + 14 + 3) x → Ends k (l.filter keep) h.next x := by
        rintro x ⟨t3, h3', o3, e1, e2, e3, e4⟩
        skip
        exact ⟨t3, h3', o3, e1, e2, e3, by omega⟩
      refine mono _ (ih (n + 1) (by omega) m (by omega) _ (Heap.mk (h.next + 4 + 14 + 3) h.objs) out ?_ ?_ ?_ ho3)
      · exact (g_skip rfl (g_skip rfl (g_skip rfl (g_skip rfl (g_skip rfl (g_skip rfl (g_skip rfl (g_skip rfl (g_skip rfl (g_skip rfl (g_skip rfl (g_skip rfl (g_skip rfl (g_skip rfl (g_skip rfl (g_skip rfl (g_skip rfl (g_skip rfl (g_skip rfl (g_skip rfl (g_skip rfl (h0))))))))))))))))))))))
      · exact (g_skip rfl (g_skip rfl (g_skip rfl (g_skip rfl (g_skip rfl (g_skip rfl (g_skip rfl (g_skip rfl (g_skip rfl (g_skip rfl (g_skip rfl (g_skip rfl (g_skip rfl (g_skip rfl (g_skip rfl (g_skip rfl (g_skip rfl (g_skip rfl (g_skip rfl (g_skip rfl (g_skip rfl (h3))))))))))))))))))))))
      · exact (g_here)
    by_cases h33 : a = 3
    · have hkp : keep (a, b, c) = false := by simp [keep, h33]
      refine Ends.of (e_region 14 (prm_id 7 _ _ _ (by decide)) (nre 7 _ (.inr (.inr (.inl rfl)))) rfl) ?_
      refine Ends.of (r_op (s_move (ev_tmp (g_skip rfl (g_skip rfl (g_skip rfl (g_skip rfl (h0)))))))) ?_
      refine Ends.of (r_op (s_move (ev_tmp (g_skip rfl (g_skip rfl (g_skip rfl (g_skip rfl (g_skip rfl (h4))))))))) ?_
      refine Ends.of (r_op (s_indexAddr (ev_tmp (g_skip rfl (g_here))) (ev_tmp (g_here)) (ix25a harg hx))) ?_
      refine Ends.of (r_op (s_fieldAddr (ev_tmp (g_here)) fa30_0)) ?_
      refine Ends.of (r_op (s_load (ev_tmp (g_here)) ld3 (by intro l; simp))) ?_
      refine Ends.of (r_op (s_bin (ev_tmp (g_here)) rfl (neq_t h2))) ?_
      refine Ends.of (r_op (s_move (ev_tmp (g_here)))) ?_
      refine Ends.of (r_opg rfl (g_here) (s_move (ev_tmp (g_skip rfl (g_skip rfl (g_skip rfl (g_skip rfl (g_skip rfl (g_skip rfl (g_skip rfl (g_skip rfl (g_skip rfl (g_skip rfl (g_skip rfl (h0))))))))))))))) ?_
      refine Ends.of (r_opg rfl (g_skip rfl (g_here)) (s_move (ev_tmp (g_skip rfl (g_skip rfl (g_skip rfl (g_skip rfl (g_skip rfl (g_skip rfl (g_skip rfl (g_skip rfl (g_skip rfl (g_skip rfl (g_skip rfl (g_skip rfl (h4)))))))))))))))) ?_
      refine Ends.of (r_opg rfl (g_skip rfl (g_skip rfl (g_here))) (s_indexAddr (ev_tmp (g_skip rfl (g_here))) (ev_tmp (g_here)) (ix25a harg hx))) ?_
      refine Ends.of (r_opg rfl (g_skip rfl (g_skip rfl (g_skip rfl (g_here)))) (s_fieldAddr (ev_tmp (g_here)) fa30_0)) ?_
      refine Ends.of (r_opg rfl (g_skip rfl (g_skip rfl (g_skip rfl (g_skip rfl (g_here))))) (s_load (ev_tmp (g_here)) ld3 (by intro l; simp))) ?_
      refine Ends.of (r_opg rfl ((g_skip rfl (g_skip rfl (g_skip rfl (g_skip rfl (g_skip rfl (g_here))))))) (s_bin (ev_tmp (g_here)) rfl (neq_f h33))) ?_
      refine Ends.of (r_op (s_pick1 (ev_tmp (g_skip rfl (g_skip rfl (g_skip rfl (g_skip rfl (g_skip rfl (g_skip rfl (g_here)))))))) (ev_tmp (g_here)))) ?_
      refine Ends.of r_nil ?_
      dsimp only
      refine Ends.of (e_cond0 (ev_tmp g_here)) ?_
      refine Ends.of e_skip ?_
      dsimp only
      refine Ends.of (e_region 3 (prm_id 7 _ _ _ (by decide)) (nre 7 _ (.inr (.inr (.inl rfl)))) rfl) ?_
      refine Ends.of (r_op (s_move (ev_tmp (g_skip rfl (g_skip rfl (g_skip rfl (g_skip rfl (g_skip rfl (g_skip rfl (g_skip rfl (g_skip rfl (g_skip rfl (g_skip rfl (g_skip rfl (g_skip rfl (g_skip rfl (g_skip rfl (g_skip rfl (g_skip rfl (g_skip rfl (g_skip rfl (h4)))))))))))))))))))))) ?_
      refine Ends.of (r_op (s_bin (ev_tmp (g_here)) rfl (inc (n := n) (by omega)))) ?_
      refine Ends.of (r_op (s_assign (ev_tmp (g_here)))) ?_
      refine Ends.of r_nil ?_
      have ho3 : OutIs (Heap.mk (h.next + 4 + 14 + 3) h.objs) out ((l.take (n + 1)).filter keep) := by
        rw [htk, List.filter_append, List.filter_cons_of_neg (by simp [hkp]), List.filter_nil, List.append_nil]
        exact ho.mono (by show h.next ≤ h.next + 4 + 14 + 3; omega) (fun _ _ => rfl)
      dsimp only
      have mono : ∀ x : Option ρ, Ends k (l.filter keep) (h.next + 4 + 14 + 3) x → Ends k (l.filter keep) h.next x := by
        rintro x ⟨t3, h3', o3, e1, e2, e3, e4⟩
        skip
        exact ⟨t3, h3', o3, e1, e2, e3, by omega⟩
      refine mono _ (ih (n + 1) (by omega) m (by omega) _ (Heap.mk (h.next + 4 + 14 + 3) h.objs) out ?_ ?_ ?_ ho3)
      · exact (g_skip rfl (g_skip rfl (g_skip rfl (g_skip rfl (g_skip rfl (g_skip rfl (g_skip rfl (g_skip rfl (g_skip rfl (g_skip rfl (g_skip rfl (g_skip rfl (g_skip rfl (g_skip rfl (g_skip rfl (g_skip rfl (g_skip rfl (g_skip rfl (g_skip rfl (g_skip rfl (g_skip rfl (h0))))))))))))))))))))))
      · exact (g_skip rfl (g_skip rfl (g_skip rfl (g_skip rfl (g_skip rfl (g_skip rfl (g_skip rfl (g_skip rfl (g_skip rfl (g_skip rfl (g_skip rfl (g_skip rfl (g_skip rfl (g_skip rfl (g_skip rfl (g_skip rfl (g_skip rfl (g_skip rfl (g_skip rfl (g_skip rfl (g_skip rfl (h3))))))))))))))))))))))
      · exact (g_here)
    · have hkp : keep (a, b, c) = true := by simp [keep, h2, h33]
      refine Ends.of (e_region 14 (prm_id 7 _ _ _ (by decide)) (nre 7 _ (.inr (.inr (.inl rfl)))) rfl) ?_
      refine Ends.of (r_op (s_move (ev_tmp (g_skip rfl (g_skip rfl (g_skip rfl (g_skip rfl (h0)))))))) ?_
      refine Ends.of (r_op (s_move (ev_tmp (g_skip rfl (g_skip rfl (g_skip rfl (g_skip rfl (g_skip rfl (h4))))))))) ?_
      refine Ends.of (r_op (s_indexAddr (ev_tmp (g_skip rfl (g_here))) (ev_tmp (g_here)) (ix25a harg hx))) ?_
      refine Ends.of (r_op (s_fieldAddr (ev_tmp (g_here)) fa30_0)) ?_
      refine Ends.of (r_op (s_load (ev_tmp (g_here)) ld3 (by intro l; simp))) ?_
      refine Ends.of (r_op (s_bin (ev_tmp (g_here)) rfl (neq_t h2))) ?_
      refine Ends.of (r_op (s_move (ev_tmp (g_here)))) ?_
      refine Ends.of (r_opg rfl (g_here) (s_move (ev_tmp (g_skip rfl (g_skip rfl (g_skip rfl (g_skip rfl (g_skip rfl (g_skip rfl (g_skip rfl (g_skip rfl (g_skip rfl (g_skip rfl (g_skip rfl (h0))))))))))))))) ?_
      refine Ends.of (r_opg rfl (g_skip rfl (g_here)) (s_move (ev_tmp (g_skip rfl (g_skip rfl (g_skip rfl (g_skip rfl (g_skip rfl (g_skip rfl (g_skip rfl (g_skip rfl (g_skip rfl (g_skip rfl (g_skip rfl (g_skip rfl (h4)))))))))))))))) ?_
      refine Ends.of (r_opg rfl (g_skip rfl (g_skip rfl (g_here))) (s_indexAddr (ev_tmp (g_skip rfl (g_here))) (ev_tmp (g_here)) (ix25a harg hx))) ?_
      refine Ends.of (r_opg rfl (g_skip rfl (g_skip rfl (g_skip rfl (g_here)))) (s_fieldAddr (ev_tmp (g_here)) fa30_0)) ?_
      refine Ends.of (r_opg rfl (g_skip rfl (g_skip rfl (g_skip rfl (g_skip rfl (g_here))))) (s_load (ev_tmp (g_here)) ld3 (by intro l; simp))) ?_
      refine Ends.of (r_opg rfl ((g_skip rfl (g_skip rfl (g_skip rfl (g_skip rfl (g_skip rfl (g_here))))))) (s_bin (ev_tmp (g_here)) rfl (neq_t h33))) ?_
      refine Ends.of (r_op (s_pick1 (ev_tmp (g_skip rfl (g_skip rfl (g_skip rfl (g_skip rfl (g_skip rfl (g_skip rfl (g_here)))))))) (ev_tmp (g_here)))) ?_
      refine Ends.of r_nil ?_
      dsimp only
      refine Ends.of (e_cond1 (ev_tmp g_here)) ?_
      refine Ends.of (e_region 8 (prm_id 7 _ _ _ (by decide)) (nre 7 _ (.inr (.inr (.inl rfl)))) rfl) ?_
      refine Ends.of (r_op (s_move (ev_tmp (g_skip rfl (g_skip rfl (g_skip rfl (g_skip rfl (g_skip rfl (g_skip rfl (g_skip rfl (g_skip rfl (g_skip rfl (g_skip rfl (g_skip rfl (g_skip rfl (g_skip rfl (g_skip rfl (g_skip rfl (g_skip rfl (g_skip rfl (g_skip rfl (h3)))))))))))))))))))))) ?_
      refine Ends.of (r_op (s_move (ev_tmp (g_skip rfl (g_skip rfl (g_skip rfl (g_skip rfl (g_skip rfl (g_skip rfl (g_skip rfl (g_skip rfl (g_skip rfl (g_skip rfl (g_skip rfl (g_skip rfl (g_skip rfl (g_skip rfl (g_skip rfl (g_skip rfl (g_skip rfl (g_skip rfl (g_skip rfl (h0))))))))))))))))))))))) ?_
      refine Ends.of (r_op (s_move (ev_tmp (g_skip rfl (g_skip rfl (g_skip rfl (g_skip rfl (g_skip rfl (g_skip rfl (g_skip rfl (g_skip rfl (g_skip rfl (g_skip rfl (g_skip rfl (g_skip rfl (g_skip rfl (g_skip rfl (g_skip rfl (g_skip rfl (g_skip rfl (g_skip rfl (g_skip rfl (g_skip rfl (h4)))))))))))))))))))))))) ?_
      refine Ends.of (r_op (s_indexAddr (ev_tmp (g_skip rfl (g_here))) (ev_tmp (g_here)) (ix25a harg hx))) ?_
      refine Ends.of (r_op (s_load (ev_tmp (g_here)) ld30 (by intro l; simp))) ?_
      refine Ends.of (r_op (s_buildSlice (ep_cons (ev_tmp (g_here)) (by intro l; simp) ep_nil) bs25)) ?_
      have hfr : ∀ id, out = .slice id 0 ((l.take n).filter keep).length ((l.take n).filter keep).length false 3 → id ≠ h.next + 4 + 14 + 6 := by
        intro id e
        rcases ho with ⟨_, h2⟩ | ⟨_, id2, h2, h3, _⟩
        · rw [h2] at e; cases e
        · rw [h2] at e
          simp only [AVal.slice.injEq] at e
          omega
      obtain ⟨v2, h2', ha, hn2, ho2⟩ := app_ 25 i30v aty hs30 hb30 (a := a) (b := b) (c := c) (nid := h.next + 4 + 14 + 6) (eid := h.next + 4 + 14 + 5) (ho.mono (h' := (Heap.mk (h.next + 4 + 14 + 8) h.objs).put (h.next + 4 + 14 + 5) (.arr [.int .i64 a, .int .i64 b, .int .i64 c] 0 false)) (by simp only [Heap.next_put]; omega) (fun id hid => by rw [Heap.get_put, if_neg (by omega)]; rfl)) (by omega) (by simp only [Heap.next_put]; omega) hfr (by rw [Heap.get_put, if_pos rfl])
      refine Ends.of (r_op ((s_append (ev_tmp (g_skip rfl (g_skip rfl (g_skip rfl (g_skip rfl (g_skip rfl (g_here))))))) (ev_tmp (g_here))).trans ha)) ?_
      refine Ends.of (r_op (s_assign (ev_tmp (g_here)))) ?_
      refine Ends.of r_nil ?_
      dsimp only
      refine Ends.of (e_region 3 (prm_id 7 _ _ _ (by decide)) (nre 7 _ (.inr (.inr (.inl rfl)))) rfl) ?_
      refine Ends.of (r_op (s_move (ev_tmp (g_skip rfl (g_skip rfl (g_skip rfl (g_skip rfl (g_skip rfl (g_skip rfl (g_skip rfl (g_skip rfl (g_skip rfl (g_skip rfl (g_skip rfl (g_skip rfl (g_skip rfl (g_skip rfl (g_skip rfl (g_skip rfl (g_skip rfl (g_skip rfl (g_skip rfl (g_skip rfl (g_skip rfl (g_skip rfl (g_skip rfl (g_skip rfl (g_skip rfl (g_skip rfl (h4)))))))))))))))))))))))))))))) ?_
      refine Ends.of (r_op (s_bin (ev_tmp (g_here)) rfl (inc (n := n) (by omega)))) ?_
      refine Ends.of (r_op (s_assign (ev_tmp (g_here)))) ?_
      refine Ends.of r_nil ?_
      have ho3 : OutIs (Heap.mk (h2'.next + 3) h2'.objs) v2 ((l.take (n + 1)).filter keep) := by
        rw [htk, List.filter_append, List.filter_cons_of_pos (by simp [hkp]), List.filter_nil]
        exact ho2.mono (Nat.le_add_right _ _) (fun _ _ => rfl)
      dsimp only
      have mono : ∀ x : Option ρ, Ends k (l.filter keep) (h2'.next + 3) x → Ends k (l.filter keep) h.next x := by
        rintro x ⟨t3, h3', o3, e1, e2, e3, e4⟩
        have : h2'.next = h.next + 4 + 14 + 8 := hn2
        exact ⟨t3, h3', o3, e1, e2, e3, by omega⟩
      refine mono _ (ih (n + 1) (by omega) m (by omega) _ (Heap.mk (h2'.next + 3) h2'.objs) v2 ?_ ?_ ?_ ho3)
      · exact (g_skip rfl (g_skip rfl (g_skip rfl (g_skip rfl (g_skip rfl (g_skip rfl (g_skip rfl (g_skip rfl (g_skip rfl (g_skip rfl (g_skip rfl (g_skip rfl (g_skip rfl (g_skip rfl (g_skip rfl (g_skip rfl (g_skip rfl (g_skip rfl (g_skip rfl (g_skip rfl (g_skip rfl (g_skip rfl (g_skip rfl (g_skip rfl (g_skip rfl (g_skip rfl (g_skip rfl (g_skip rfl (g_skip rfl (h0))))))))))))))))))))))))))))))
      · exact (g_skip rfl (g_skip rfl (g_skip rfl (g_here))))
      · exact (g_here)
end Go.Den
