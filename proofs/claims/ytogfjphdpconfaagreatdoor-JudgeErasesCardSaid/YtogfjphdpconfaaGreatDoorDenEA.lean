import Derived.Test.YtogfjphdpconfaaGreatDoorDenE9
namespace Go.Den
open Go Go.Proofs
set_option maxHeartbeats 1000000
set_option maxRecDepth 20000
def Yes (x : Option (AVal × Heap)) : Prop := ∃ h', x = some (.bool true, h')
theorem Yes.of {x y : Option (AVal × Heap)} (e : x = y) (h : Yes y) : Yes x := e ▸ h
theorem Ends3.yes {k : Ex → Tmps → Heap → Option (AVal × Heap)} {x : Option (AVal × Heap)} (h : Ends3 k x) (hk : ∀ t' h', Yes (k (.exit 0) t' h')) : Yes x := by
  obtain ⟨t', h', rfl⟩ := h
  exact hk t' h'
theorem ok3 : Cz.ok 3 = true := by kernel_rfl
theorem fn3 : Cz.P.funcs[3]? = some Tryz.f3 := Tryz.func3
theorem erases_ok (l : List Act3) (arg : AVal) (harg : ArgIs arg l) (h : Heap) (N : Nat) (hN : N = 100000) : Yes (callH Cz (N + 1) 3 [arg] h) := by
  have h0 : (initT [arg] 0 .nil).get 0 = some arg := by rw [initT_get]; simp
  simp only [callH, ok3, cond_true, fn3]
  simp only [Tryz.f3]
  refine Yes.of e_seq ?_
  refine Yes.of (e_region 1 (prm_id 3 _ _ _ (by decide)) (nre 3 _ (.inr (.inr (.inr rfl)))) rfl) ?_
  refine Yes.of (r_op (s_assign rfl)) ?_
  refine Yes.of r_nil ?_
  dsimp only
  refine Yes.of e_seq ?_
  refine Yes.of e_seq ?_
  refine Yes.of (e_region 2 (prm_id 3 _ _ _ (by decide)) (nre 3 _ (.inr (.inr (.inr rfl)))) rfl) ?_
  refine Yes.of (r_op (s_call rfl rfl (call5 hN))) ?_
  refine Yes.of (r_op (s_un (ev_tmp (g_here)) rfl)) ?_
  refine Yes.of r_nil ?_
  dsimp only
  refine Yes.of (e_cond0 (ev_tmp g_here)) ?_
  refine Yes.of e_skip ?_
  dsimp only
  refine Yes.of e_seq ?_
  refine Yes.of e_seq ?_
  by_cases hl : (2000 : Int) < (l.length : Int)
  · refine Yes.of (e_region 3 (prm_id 3 _ _ _ (by decide)) (nre 3 _ (.inr (.inr (.inr rfl)))) rfl) ?_
    refine Yes.of (r_op (s_move (ev_tmp (g_skip rfl (g_skip rfl (g_skip rfl (h0))))))) ?_
    refine Yes.of (r_op (s_len nm22 (ev_tmp (g_here)) (len22a harg))) ?_
    refine Yes.of (r_op (s_bin (ev_tmp (g_here)) rfl (gtr_t hl))) ?_
    refine Yes.of r_nil ?_
    dsimp only
    refine Yes.of (e_cond1 (ev_tmp g_here)) ?_
    refine Yes.of e_seq ?_
    refine Yes.of (e_region 2 (prm_id 3 _ _ _ (by decide)) (nre 3 _ (.inr (.inr (.inr rfl)))) rfl) ?_
    refine Yes.of (r_op (s_call rfl rfl (call5 hN))) ?_
    refine Yes.of (r_op (s_assign (ev_tmp (g_here)))) ?_
    refine Yes.of r_nil ?_
    dsimp only
    refine Yes.of e_ret ?_
    refine ⟨?_, ?_⟩
    rotate_left
    simp only [resultsA, mapO, resA, packA, g_here]
    rfl
  · refine Yes.of (e_region 3 (prm_id 3 _ _ _ (by decide)) (nre 3 _ (.inr (.inr (.inr rfl)))) rfl) ?_
    refine Yes.of (r_op (s_move (ev_tmp (g_skip rfl (g_skip rfl (g_skip rfl (h0))))))) ?_
    refine Yes.of (r_op (s_len nm22 (ev_tmp (g_here)) (len22a harg))) ?_
    refine Yes.of (r_op (s_bin (ev_tmp (g_here)) rfl (gtr_f hl))) ?_
    refine Yes.of r_nil ?_
    dsimp only
    refine Yes.of (e_cond0 (ev_tmp g_here)) ?_
    refine Yes.of e_skip ?_
    dsimp only
    have hl2 : l.length ≤ 2000 := by omega
    obtain ⟨va, ca, ha⟩ := pcall hN (h := ⟨((h.next + 1) + 2) + 3 + 7, h.objs⟩) mode6 harg (erase6_ok l hl2 arg harg 99999 (by omega) .empty)
    obtain ⟨vc, cc, hc⟩ := pcall hN (h := ⟨((h.next + 1) + 2) + 3 + 7, h.objs⟩) mode8 harg (acts_ok l hl2 arg harg 99999 (by omega) .empty)
    obtain ⟨vb, cb, hb⟩ := pcall hN (h := ⟨((h.next + 1) + 2) + 3 + 7, h.objs⟩) mode7 hc (erase7_ok l hl2 vc hc 99999 (by omega) .empty)
    have hfl : (l.filter keep).length ≤ 2000 := Nat.le_trans (List.length_filter_le _ _) hl2
    refine Yes.of e_seq ?_
    refine Yes.of (e_region 7 (prm_id 3 _ _ _ (by decide)) (nre 3 _ (.inr (.inr (.inr rfl)))) rfl) ?_
    refine Yes.of (r_op (s_move (ev_tmp (g_skip rfl (g_skip rfl (g_skip rfl (g_skip rfl (g_skip rfl (g_skip rfl (h0)))))))))) ?_
    refine Yes.of (r_op (s_call rfl (evL1 (ev_tmp (g_here))) ca)) ?_
    refine Yes.of (r_op (s_move (ev_tmp (g_skip rfl (g_skip rfl (g_skip rfl (g_skip rfl (g_skip rfl (g_skip rfl (g_skip rfl (g_skip rfl (h0)))))))))))) ?_
    refine Yes.of (r_op (s_call rfl (evL1 (ev_tmp (g_here))) cc)) ?_
    refine Yes.of (r_op (s_call rfl (evL1 (ev_tmp (g_here))) cb)) ?_
    refine Yes.of (r_op (s_assign (ev_tmp (g_skip rfl (g_skip rfl (g_skip rfl (g_here))))))) ?_
    refine Yes.of (r_op (s_assign (ev_tmp (g_skip rfl (g_here))))) ?_
    refine Yes.of r_nil ?_
    dsimp only
    refine Yes.of e_seq ?_
    refine Yes.of e_seq ?_
    refine Yes.of (e_region 5 (prm_id 3 _ _ _ (by decide)) (nre 3 _ (.inr (.inr (.inr rfl)))) rfl) ?_
    refine Yes.of (r_op (s_move (ev_tmp (g_skip rfl (g_here))))) ?_
    refine Yes.of (r_op (s_len nm22 (ev_tmp (g_here)) (len22a ha))) ?_
    refine Yes.of (r_op (s_move (ev_tmp (g_skip rfl (g_skip rfl (g_here)))))) ?_
    refine Yes.of (r_op (s_len nm25 (ev_tmp (g_here)) (len25a hb))) ?_
    refine Yes.of (r_op (s_bin (ev_tmp (g_skip rfl (g_skip rfl (g_here)))) (ev_tmp (g_here)) neq_s)) ?_
    refine Yes.of r_nil ?_
    dsimp only
    refine Yes.of (e_cond0 (ev_tmp g_here)) ?_
    refine Yes.of e_skip ?_
    dsimp only
    refine Yes.of e_seq ?_
    refine Yes.of e_seq ?_
    refine Yes.of (e_region 1 (prm_id 3 _ _ _ (by decide)) (nre 3 _ (.inr (.inr (.inr rfl)))) rfl) ?_
    refine Yes.of (r_op (s_assign rfl)) ?_
    refine Yes.of r_nil ?_
    dsimp only
    refine Yes.of e_block ?_
    refine Yes.of e_loop ?_
    refine Ends3.yes (loop3 (l.filter keep) hfl va vb ha hb _ (l.filter keep).length 0 (by omega) N (by omega) _ _ ?_ ?_ ?_) (fun t' h' => ?_)
    · exact (g_skip rfl (g_skip rfl (g_skip rfl (g_skip rfl (g_skip rfl (g_skip rfl (g_skip rfl (g_here))))))))
    · exact (g_skip rfl (g_skip rfl (g_skip rfl (g_skip rfl (g_skip rfl (g_skip rfl (g_here)))))))
    · exact (g_here)
    refine Yes.of e_seq ?_
    refine Yes.of (e_region 2 (prm_id 3 _ _ _ (by decide)) (nre 3 _ (.inr (.inr (.inr rfl)))) rfl) ?_
    refine Yes.of (r_op (s_call rfl rfl (call5 hN))) ?_
    refine Yes.of (r_op (s_assign (ev_tmp (g_here)))) ?_
    refine Yes.of r_nil ?_
    dsimp only
    refine Yes.of e_ret ?_
    refine ⟨?_, ?_⟩
    rotate_left
    simp only [resultsA, mapO, resA, packA, g_here]
    rfl
end Go.Den
