import Derived.Test.YtogfjphdpconfaaGreatDoorDenE6
namespace Go.Den
open Go Go.Proofs
variable {F : FuncId → List AVal → Heap → Option (AVal × Heap)} {lf : Nat} {ρ : Type}
set_option maxHeartbeats 1000000
set_option maxRecDepth 20000
theorem z29 : zeroA Cz 29 = some (.agg [.int .i64 0, .int .i64 0, .int .i64 0]) := by kernel_rfl
theorem fp29 {id : Nat} : fieldAddrA Cz 29 (.ptr id 0) 0 = some (.ptr id 0) := by kernel_rfl
theorem lp3 {h : Heap} {id : Nat} {x y z : Int} {e : Nat} {g : Bool} (hg : h.get id = some (.arr [.int .i64 x, .int .i64 y, .int .i64 z] e g)) : loadA Cz 3 h (.ptr id 0) = some (.int .i64 x) := by
  have : cellsAt h (.ptr id 0) = some [.int .i64 x, .int .i64 y, .int .i64 z] := by simp only [cellsAt, hg]; rfl
  have h2 : loadA Cz 3 h (.fptr [.int .i64 x, .int .i64 y, .int .i64 z]) = some (.int .i64 x) := ld3
  simp only [loadA, this] at h2 ⊢
  exact h2
theorem lp29 {h : Heap} {id : Nat} {x y z : Int} {e : Nat} {g : Bool} (hg : h.get id = some (.arr [.int .i64 x, .int .i64 y, .int .i64 z] e g)) : loadA Cz 29 h (.ptr id 0) = some (.agg [.int .i64 x, .int .i64 y, .int .i64 z]) := by
  have : cellsAt h (.ptr id 0) = some [.int .i64 x, .int .i64 y, .int .i64 z] := by simp only [cellsAt, hg]; rfl
  have h2 : loadA Cz 29 h (.fptr [.int .i64 x, .int .i64 y, .int .i64 z]) = some (.agg [.int .i64 x, .int .i64 y, .int .i64 z]) := ld29
  simp only [loadA, this] at h2 ⊢
  exact h2
theorem st29 {h : Heap} {id : Nat} {x y z : AVal} {a b c : Int} {e : Nat} {g : Bool} (hg : h.get id = some (.arr [x, y, z] e g)) : storeA Cz 29 h (.ptr id 0) (.agg [.int .i64 a, .int .i64 b, .int .i64 c]) = some (h.put id (.arr [.int .i64 a, .int .i64 b, .int .i64 c] e g)) := by
  obtain ⟨i, hi, hs, _⟩ := i29
  simp only [storeA, hi, hg, cellsOf, hs]
  rfl
noncomputable def c6x : Code := (theLoop ((Tryz.f6.body).getD .skip)).getD .skip
theorem loop6 (l : List Act3) (hl : l.length ≤ 2000) (arg : AVal) (harg : ArgIs arg l) (k : Ex → Tmps → Heap → Option ρ) : ∀ (j n : Nat), n + j = l.length → ∀ (m : Nat), j < m → ∀ (t : Tmps) (h : Heap) (out : AVal), t.get 6 = some arg → t.get 7 = some (.int .i64 (l.length : Int)) → t.get 3 = some out → t.get 8 = some (.int .i64 (n : Int)) → OutIs h out ((l.take n).filter keep) →
    Ends k (l.filter keep) h.next (loopN (ρ := ρ) (exec Cz F lf 6 c6) (fun _ _ => none) k m t h) := by
  intro j
  induction j with
  | zero =>
    intro n hn m hm t h out h6 h7 h3 h8 ho
    obtain ⟨m, rfl⟩ : ∃ m', m = m' + 1 := ⟨m - 1, by omega⟩
    have hnl : n = l.length := by omega
    have hlt : ¬ (n : Int) < (l.length : Int) := by omega
    unfold loopN
    simp only [c6, Tryz.f6, theLoop, Option.getD_some]
    refine Ends.of e_seq ?_
    refine Ends.of (e_region 1 (prm_id 6 _ _ _ (by decide)) (nre 6 _ (.inr (.inl rfl))) rfl) ?_
    refine Ends.of (r_op (s_bin (ev_tmp (h8)) (ev_tmp (h7)) (lss_f hlt))) ?_
    refine Ends.of r_nil ?_
    refine Ends.of e_seq ?_
    refine Ends.of (e_cond0 (ev_tmp g_here)) ?_
    refine Ends.of e_exit ?_
    refine ⟨_, _, out, rfl, ?_, ?_, Nat.le_add_right _ _⟩
    · exact (g_skip rfl (h3))
    · rw [hnl, List.take_length] at ho
      exact ho.mono (Nat.le_add_right _ _) (fun _ _ => rfl)
  | succ j ih =>
    intro n hn m hm t h out h6 h7 h3 h8 ho
    obtain ⟨m, rfl⟩ : ∃ m', m = m' + 1 := ⟨m - 1, by omega⟩
    have hnl : n < l.length := by omega
    have hlt : (n : Int) < (l.length : Int) := by omega
    obtain ⟨⟨a, b, c⟩, hx⟩ : ∃ x, l[n]? = some x := ⟨l[n], List.getElem?_eq_getElem hnl⟩
    obtain ⟨i29v, hi29, hs29, hb29⟩ := i29
    have aty : appendTy Cz 22 22 = some i29v := by rw [aty22, hi29]
    have htl : ((l.take n).filter keep).length ≤ n := Nat.le_trans (List.length_filter_le _ _) (by rw [List.length_take]; omega)
    have htk : l.take (n + 1) = l.take n ++ [(a, b, c)] := by rw [List.take_add_one, hx]; rfl
    unfold loopN
    simp only [c6, Tryz.f6, theLoop, Option.getD_some]
    refine Ends.of e_seq ?_
    refine Ends.of (e_region 1 (prm_id 6 _ _ _ (by decide)) (nre 6 _ (.inr (.inl rfl))) rfl) ?_
    refine Ends.of (r_op (s_bin (ev_tmp (h8)) (ev_tmp (h7)) (lss_t hlt))) ?_
    refine Ends.of r_nil ?_
    refine Ends.of e_seq ?_
    refine Ends.of (e_cond1 (ev_tmp g_here)) ?_
    refine Ends.of e_skip ?_
    refine Ends.of e_seq ?_
    refine Ends.of e_block ?_
    refine Ends.of e_seq ?_
    refine Ends.of (e_region 4 (prm_id 6 _ _ _ (by decide)) (nre 6 _ (.inr (.inl rfl))) rfl) ?_
    refine Ends.of (r_op (s_indexAddr (ev_tmp (g_skip rfl (h6))) (ev_tmp (g_skip rfl (h8))) (ix22a harg hx))) ?_
    refine Ends.of (r_op (s_load (ev_tmp (g_here)) ld29 (by intro l; simp))) ?_
    refine Ends.of (r_op (s_alloc z29 rfl)) ?_
    refine Ends.of (r_op (s_store (ev_tmp (g_here)) (ev_tmp (g_skip rfl (g_here))) (st29 (by rw [Heap.get_put, if_pos rfl]; rfl)))) ?_
    refine Ends.of r_nil ?_
    dsimp only
    generalize hH4 : (Heap.put (Heap.put _ _ _) _ _) = H4
    have hn4 : H4.next = h.next + 1 + 4 := by rw [← hH4]; rfl
    have hG : H4.get (h.next + 1 + 2) = some (.arr [.int .i64 a, .int .i64 b, .int .i64 c] 0 false) := by rw [← hH4, Heap.get_put]; exact if_pos rfl
    have ho4 : OutIs H4 out ((l.take n).filter keep) := ho.mono (by rw [hn4]; omega) (fun id hid => by
      rw [← hH4, Heap.get_put, if_neg (by show id ≠ h.next + 1 + 2; omega), Heap.get_put, if_neg (by show id ≠ h.next + 1 + 2; omega)]; rfl)
    clear hH4
    refine Ends.of e_seq ?_
    by_cases h2 : a = 2
    · have hkp : keep (a, b, c) = false := by simp [keep, h2]
      refine Ends.of (e_region 8 (prm_id 6 _ _ _ (by decide)) (nre 6 _ (.inr (.inl rfl))) rfl) ?_
      refine Ends.of (r_op (s_fieldAddr (ev_tmp (g_none (g_here))) fp29)) ?_
      refine Ends.of (r_op (s_load (ev_tmp (g_here)) (lp3 hG) (by intro l; simp))) ?_
      refine Ends.of (r_op (s_bin (ev_tmp (g_here)) rfl (neq_f h2))) ?_
      refine Ends.of (r_op (s_move (ev_tmp (g_here)))) ?_
      refine Ends.of (r_skip rfl (g_here) rfl) ?_
      refine Ends.of (r_skip rfl (g_skip rfl (g_here)) rfl) ?_
      refine Ends.of (r_skip rfl (g_skip rfl (g_skip rfl (g_here))) rfl) ?_
      refine Ends.of (r_op (s_pick0 (ev_tmp (g_skip rfl (g_skip rfl (g_skip rfl (g_here))))) rfl)) ?_
      refine Ends.of r_nil ?_
      dsimp only
      refine Ends.of (e_cond0 (ev_tmp g_here)) ?_
      refine Ends.of e_skip ?_
      dsimp only
      refine Ends.of (e_region 2 (prm_id 6 _ _ _ (by decide)) (nre 6 _ (.inr (.inl rfl))) rfl) ?_
      refine Ends.of (r_op (s_bin (ev_tmp (g_skip rfl (g_skip rfl (g_skip rfl (g_skip rfl (g_skip rfl (g_skip rfl (g_skip rfl (g_skip rfl (g_none (g_skip rfl (g_skip rfl (g_skip rfl (g_skip rfl (h8))))))))))))))) rfl (inc (n := n) (by omega)))) ?_
      refine Ends.of (r_op (s_move (ev_tmp (g_here)))) ?_
      refine Ends.of r_nil ?_
      have ho3 : OutIs (Heap.mk (H4.next + 8 + 2) H4.objs) out ((l.take (n + 1)).filter keep) := by
        rw [htk, List.filter_append, List.filter_cons_of_neg (by simp [hkp]), List.filter_nil, List.append_nil]
        exact ho4.mono (by show H4.next ≤ H4.next + 8 + 2; omega) (fun _ _ => rfl)
      dsimp only
      have mono : ∀ x : Option ρ, Ends k (l.filter keep) (H4.next + 8 + 2) x → Ends k (l.filter keep) h.next x := by
        rintro x ⟨t3, h3', o3, e1, e2, e3, e4⟩
        skip
        exact ⟨t3, h3', o3, e1, e2, e3, by omega⟩
      refine mono _ (ih (n + 1) (by omega) m (by omega) _ (Heap.mk (H4.next + 8 + 2) H4.objs) out ?_ ?_ ?_ ?_ ho3)
      · exact (g_skip rfl (g_skip rfl (g_skip rfl (g_skip rfl (g_skip rfl (g_skip rfl (g_skip rfl (g_skip rfl (g_skip rfl (g_skip rfl (g_none (g_skip rfl (g_skip rfl (g_skip rfl (g_skip rfl (h6))))))))))))))))
      · exact (g_skip rfl (g_skip rfl (g_skip rfl (g_skip rfl (g_skip rfl (g_skip rfl (g_skip rfl (g_skip rfl (g_skip rfl (g_skip rfl (g_none (g_skip rfl (g_skip rfl (g_skip rfl (g_skip rfl (h7))))))))))))))))
      · exact (g_skip rfl (g_skip rfl (g_skip rfl (g_skip rfl (g_skip rfl (g_skip rfl (g_skip rfl (g_skip rfl (g_skip rfl (g_skip rfl (g_none (g_skip rfl (g_skip rfl (g_skip rfl (g_skip rfl (h3))))))))))))))))
      · exact (g_here)
    by_cases h33 : a = 3
    · have hkp : keep (a, b, c) = false := by simp [keep, h33]
      refine Ends.of (e_region 8 (prm_id 6 _ _ _ (by decide)) (nre 6 _ (.inr (.inl rfl))) rfl) ?_
      refine Ends.of (r_op (s_fieldAddr (ev_tmp (g_none (g_here))) fp29)) ?_
      refine Ends.of (r_op (s_load (ev_tmp (g_here)) (lp3 hG) (by intro l; simp))) ?_
      refine Ends.of (r_op (s_bin (ev_tmp (g_here)) rfl (neq_t h2))) ?_
      refine Ends.of (r_op (s_move (ev_tmp (g_here)))) ?_
      refine Ends.of (r_opg rfl ((g_here)) (s_fieldAddr (ev_tmp (g_skip rfl (g_skip rfl (g_skip rfl (g_skip rfl (g_none (g_here))))))) fp29)) ?_
      refine Ends.of (r_opg rfl ((g_skip rfl (g_here))) (s_load (ev_tmp (g_here)) (lp3 hG) (by intro l; simp))) ?_
      refine Ends.of (r_opg rfl ((g_skip rfl (g_skip rfl (g_here)))) (s_bin (ev_tmp (g_here)) rfl (neq_f h33))) ?_
      refine Ends.of (r_op (s_pick1 (ev_tmp (g_skip rfl (g_skip rfl (g_skip rfl (g_here))))) (ev_tmp (g_here)))) ?_
      refine Ends.of r_nil ?_
      dsimp only
      refine Ends.of (e_cond0 (ev_tmp g_here)) ?_
      refine Ends.of e_skip ?_
      dsimp only
      refine Ends.of (e_region 2 (prm_id 6 _ _ _ (by decide)) (nre 6 _ (.inr (.inl rfl))) rfl) ?_
      refine Ends.of (r_op (s_bin (ev_tmp (g_skip rfl (g_skip rfl (g_skip rfl (g_skip rfl (g_skip rfl (g_skip rfl (g_skip rfl (g_skip rfl (g_none (g_skip rfl (g_skip rfl (g_skip rfl (g_skip rfl (h8))))))))))))))) rfl (inc (n := n) (by omega)))) ?_
      refine Ends.of (r_op (s_move (ev_tmp (g_here)))) ?_
      refine Ends.of r_nil ?_
      have ho3 : OutIs (Heap.mk (H4.next + 8 + 2) H4.objs) out ((l.take (n + 1)).filter keep) := by
        rw [htk, List.filter_append, List.filter_cons_of_neg (by simp [hkp]), List.filter_nil, List.append_nil]
        exact ho4.mono (by show H4.next ≤ H4.next + 8 + 2; omega) (fun _ _ => rfl)
      dsimp only
      have mono : ∀ x : Option ρ, Ends k (l.filter keep) (H4.next + 8 + 2) x → Ends k (l.filter keep) h.next x := by
        rintro x ⟨t3, h3', o3, e1, e2, e3, e4⟩
        skip
        exact ⟨t3, h3', o3, e1, e2, e3, by omega⟩
      refine mono _ (ih (n + 1) (by omega) m (by omega) _ (Heap.mk (H4.next + 8 + 2) H4.objs) out ?_ ?_ ?_ ?_ ho3)
      · exact (g_skip rfl (g_skip rfl (g_skip rfl (g_skip rfl (g_skip rfl (g_skip rfl (g_skip rfl (g_skip rfl (g_skip rfl (g_skip rfl (g_none (g_skip rfl (g_skip rfl (g_skip rfl (g_skip rfl (h6))))))))))))))))
      · exact (g_skip rfl (g_skip rfl (g_skip rfl (g_skip rfl (g_skip rfl (g_skip rfl (g_skip rfl (g_skip rfl (g_skip rfl (g_skip rfl (g_none (g_skip rfl (g_skip rfl (g_skip rfl (g_skip rfl (h7))))))))))))))))
      · exact (g_skip rfl (g_skip rfl (g_skip rfl (g_skip rfl (g_skip rfl (g_skip rfl (g_skip rfl (g_skip rfl (g_skip rfl (g_skip rfl (g_none (g_skip rfl (g_skip rfl (g_skip rfl (g_skip rfl (h3))))))))))))))))
      · exact (g_here)
    · have hkp : keep (a, b, c) = true := by simp [keep, h2, h33]
      refine Ends.of (e_region 8 (prm_id 6 _ _ _ (by decide)) (nre 6 _ (.inr (.inl rfl))) rfl) ?_
      refine Ends.of (r_op (s_fieldAddr (ev_tmp (g_none (g_here))) fp29)) ?_
      refine Ends.of (r_op (s_load (ev_tmp (g_here)) (lp3 hG) (by intro l; simp))) ?_
      refine Ends.of (r_op (s_bin (ev_tmp (g_here)) rfl (neq_t h2))) ?_
      refine Ends.of (r_op (s_move (ev_tmp (g_here)))) ?_
      refine Ends.of (r_opg rfl ((g_here)) (s_fieldAddr (ev_tmp (g_skip rfl (g_skip rfl (g_skip rfl (g_skip rfl (g_none (g_here))))))) fp29)) ?_
      refine Ends.of (r_opg rfl ((g_skip rfl (g_here))) (s_load (ev_tmp (g_here)) (lp3 hG) (by intro l; simp))) ?_
      refine Ends.of (r_opg rfl ((g_skip rfl (g_skip rfl (g_here)))) (s_bin (ev_tmp (g_here)) rfl (neq_t h33))) ?_
      refine Ends.of (r_op (s_pick1 (ev_tmp (g_skip rfl (g_skip rfl (g_skip rfl (g_here))))) (ev_tmp (g_here)))) ?_
      refine Ends.of r_nil ?_
      dsimp only
      refine Ends.of (e_cond1 (ev_tmp g_here)) ?_
      refine Ends.of (e_region 5 (prm_id 6 _ _ _ (by decide)) (nre 6 _ (.inr (.inl rfl))) rfl) ?_
      refine Ends.of (r_op (s_move (ev_tmp (g_skip rfl (g_skip rfl (g_skip rfl (g_skip rfl (g_skip rfl (g_skip rfl (g_skip rfl (g_skip rfl (g_none (g_skip rfl (g_skip rfl (g_skip rfl (g_skip rfl (h3))))))))))))))))) ?_
      refine Ends.of (r_op (s_load (ev_tmp (g_skip rfl (g_skip rfl (g_skip rfl (g_skip rfl (g_skip rfl (g_skip rfl (g_skip rfl (g_skip rfl (g_skip rfl (g_none (g_here)))))))))))) (lp29 hG) (by intro l; simp))) ?_
      refine Ends.of (r_op (s_buildSlice (ep_cons (ev_tmp (g_here)) (by intro l; simp) ep_nil) bs22)) ?_
      have hfr : ∀ id, out = .slice id 0 ((l.take n).filter keep).length ((l.take n).filter keep).length false 3 → id ≠ H4.next + 8 + 3 := by
        intro id e
        rcases ho4 with ⟨_, h2⟩ | ⟨_, id2, h2, h3, _⟩
        · rw [h2] at e; cases e
        · rw [h2] at e
          simp only [AVal.slice.injEq] at e
          omega
      obtain ⟨v2, h2', ha, hn2, ho2⟩ := app_ 22 i29v aty hs29 hb29 (a := a) (b := b) (c := c) (nid := H4.next + 8 + 3) (eid := H4.next + 8 + 2) (ho4.mono (h' := (Heap.mk (H4.next + 8 + 5) H4.objs).put (H4.next + 8 + 2) (.arr [.int .i64 a, .int .i64 b, .int .i64 c] 0 false)) (by simp only [Heap.next_put]; omega) (fun id hid => by rw [Heap.get_put, if_neg (by omega)]; rfl)) (by omega) (by simp only [Heap.next_put]; omega) hfr (by rw [Heap.get_put, if_pos rfl])
      refine Ends.of (r_op ((s_append (ev_tmp (g_skip rfl (g_skip rfl (g_here)))) (ev_tmp (g_here))).trans ha)) ?_
      refine Ends.of (r_op (s_assign (ev_tmp (g_here)))) ?_
      refine Ends.of r_nil ?_
      dsimp only
      refine Ends.of (e_region 2 (prm_id 6 _ _ _ (by decide)) (nre 6 _ (.inr (.inl rfl))) rfl) ?_
      refine Ends.of (r_op (s_bin (ev_tmp (g_skip rfl (g_skip rfl (g_skip rfl (g_skip rfl (g_skip rfl (g_skip rfl (g_skip rfl (g_skip rfl (g_skip rfl (g_skip rfl (g_skip rfl (g_skip rfl (g_skip rfl (g_none (g_skip rfl (g_skip rfl (g_skip rfl (g_skip rfl (h8)))))))))))))))))))) rfl (inc (n := n) (by omega)))) ?_
      refine Ends.of (r_op (s_move (ev_tmp (g_here)))) ?_
      refine Ends.of r_nil ?_
      have ho3 : OutIs (Heap.mk (h2'.next + 2) h2'.objs) v2 ((l.take (n + 1)).filter keep) := by
        rw [htk, List.filter_append, List.filter_cons_of_pos (by simp [hkp]), List.filter_nil]
        exact ho2.mono (Nat.le_add_right _ _) (fun _ _ => rfl)
      dsimp only
      have mono : ∀ x : Option ρ, Ends k (l.filter keep) (h2'.next + 2) x → Ends k (l.filter keep) h.next x := by
        rintro x ⟨t3, h3', o3, e1, e2, e3, e4⟩
        have : h2'.next = H4.next + 8 + 5 := hn2
        exact ⟨t3, h3', o3, e1, e2, e3, by omega⟩
      refine mono _ (ih (n + 1) (by omega) m (by omega) _ (Heap.mk (h2'.next + 2) h2'.objs) v2 ?_ ?_ ?_ ?_ ho3)
      · exact (g_skip rfl (g_skip rfl (g_skip rfl (g_skip rfl (g_skip rfl (g_skip rfl (g_skip rfl (g_skip rfl (g_skip rfl (g_skip rfl (g_skip rfl (g_skip rfl (g_skip rfl (g_skip rfl (g_skip rfl (g_none (g_skip rfl (g_skip rfl (g_skip rfl (g_skip rfl (h6)))))))))))))))))))))
      · exact (g_skip rfl (g_skip rfl (g_skip rfl (g_skip rfl (g_skip rfl (g_skip rfl (g_skip rfl (g_skip rfl (g_skip rfl (g_skip rfl (g_skip rfl (g_skip rfl (g_skip rfl (g_skip rfl (g_skip rfl (g_none (g_skip rfl (g_skip rfl (g_skip rfl (g_skip rfl (h7)))))))))))))))))))))
      · exact (g_skip rfl (g_skip rfl (g_here)))
      · exact (g_here)
end Go.Den
