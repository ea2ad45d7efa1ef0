import Derived.Test.YtogfjphdpconfaaGreatDoorDenE5
namespace Go.Den
open Go Go.Proofs
set_option maxHeartbeats 1000000
set_option maxRecDepth 20000
theorem ok7 : Cz.ok 7 = true := by kernel_rfl
theorem fn7 : Cz.P.funcs[7]? = some Tryz.f7 := Tryz.func7
theorem erase7_ok (l : List Act3) (hl : l.length ≤ 2000) (arg : AVal) (harg : ArgIs arg l) (N : Nat) (hN : 2001 ≤ N) (h : Heap) : Ret (ρ := Nat) (l.filter keep) h.next (callH Cz (N + 1) 7 [arg] h) := by
  have h0 : (initT [arg] 0 .nil).get 0 = some arg := by rw [initT_get]; simp
  simp only [callH, ok7, cond_true, fn7]
  simp only [Tryz.f7]
  refine Ret.of e_seq ?_
  refine Ret.of (e_region 1 (prm_id 7 _ _ _ (by decide)) (nre 7 _ (.inr (.inr (.inl rfl)))) rfl) ?_
  refine Ret.of (r_op (s_assign rfl)) ?_
  refine Ret.of r_nil ?_
  refine Ret.of e_seq ?_
  refine Ret.of (e_region 1 (prm_id 7 _ _ _ (by decide)) (nre 7 _ (.inr (.inr (.inl rfl)))) rfl) ?_
  refine Ret.of (r_op (s_assign rfl)) ?_
  refine Ret.of r_nil ?_
  refine Ret.of e_seq ?_
  refine Ret.of e_seq ?_
  refine Ret.of (e_region 1 (prm_id 7 _ _ _ (by decide)) (nre 7 _ (.inr (.inr (.inl rfl)))) rfl) ?_
  refine Ret.of (r_op (s_assign rfl)) ?_
  refine Ret.of r_nil ?_
  refine Ret.of e_block ?_
  refine Ret.of e_loop ?_
  refine Ends.ret (loop7 l hl arg harg _ l.length 0 (by omega) N (by omega) _ _ .nilslice ?_ ?_ ?_ (.inl ⟨by simp, rfl⟩)) (fun t' h' o' e2 e3 e4 => ?_)
  · exact (g_skip rfl (g_skip rfl (g_skip rfl (h0))))
  · exact (g_skip rfl (g_here))
  · exact (g_here)
  refine Ret.of e_seq ?_
  refine Ret.of (e_region 2 (prm_id 7 _ _ _ (by decide)) (nre 7 _ (.inr (.inr (.inl rfl)))) rfl) ?_
  refine Ret.of (r_op (s_move (ev_tmp (e2)))) ?_
  refine Ret.of (r_op (s_assign (ev_tmp (g_here)))) ?_
  refine Ret.of r_nil ?_
  refine Ret.of e_ret ?_
  refine ⟨o', Heap.mk (h'.next + 2) h'.objs, ?_, e3.mono (Nat.le_add_right _ _) (fun _ _ => rfl), ?_⟩
  · simp only [resultsA, mapO, resA, packA, g_here]
  · have : h.next + 1 + 1 + 1 ≤ h'.next := e4
    show h.next ≤ h'.next + 2
    omega
end Go.Den
