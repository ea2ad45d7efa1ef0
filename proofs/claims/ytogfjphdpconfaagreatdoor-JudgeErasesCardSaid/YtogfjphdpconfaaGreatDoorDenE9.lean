import Derived.Test.YtogfjphdpconfaaGreatDoorDenE8
import Derived.Test.YtogfjphdpconfaaGreatDoorDenK
import Derived.Test.YtogfjphdpconfaaGreatDoorDenK2
namespace Go.Den
open Go Go.Proofs
set_option maxHeartbeats 1000000
set_option maxRecDepth 20000
theorem mapO_cells3 {h : Heap} {n : Nat} : ∀ l, mapO (freeze h (n + 1)) (cells3 l) = some (cells3 l) := by
  intro l
  induction l with
  | nil => rfl
  | cons x l ih =>
    obtain ⟨a, b, c⟩ := x
    have e : ∀ k i, freeze h (n + 1) (.int k i) = some (.int k i) := fun _ _ => rfl
    simp only [cells3, mapO, e, ih]
theorem freeze_slice {h : Heap} {n id off len cap esz : Nat} {full : Bool} : freeze h (n + 1) (.slice id off len cap full esz) = (match h.get id with
    | some (.arr cs _ _) =>
      bif Nat.ble (off + len * esz) cs.length then
        match mapO (freeze h n) ((cs.drop off).take (len * esz)) with
        | some cs => some (.list cs len (full && Nat.beq cap len))
        | none => none
      else none
    | _ => none) := rfl
theorem frz_arg {h : Heap} {arg : AVal} {l : List Act3} (ha : ArgIs arg l) : freeze h 8 arg = some arg := by
  rcases ha with ⟨rfl, rfl⟩ | ⟨ex, rfl⟩ <;> rfl
theorem reach_arg {h : Heap} {arg : AVal} {l : List Act3} (ha : ArgIs arg l) : reach h 8 arg = [] := by
  rcases ha with ⟨rfl, rfl⟩ | ⟨ex, rfl⟩ <;> rfl
theorem frz_out {h : Heap} {v : AVal} {l : List Act3} (o : OutIs h v l) : ∃ v', freeze h 8 v = some v' ∧ ArgIs v' l := by
  rcases o with ⟨rfl, rfl⟩ | ⟨hl, id, rfl, _, h3⟩
  · exact ⟨.nilslice, rfl, .inl ⟨rfl, rfl⟩⟩
  · refine ⟨.list (cells3 l) l.length false, ?_, .inr ⟨false, rfl⟩⟩
    have q1 : Nat.ble (0 + l.length * 3) (cells3 l).length = true := by rw [natBle, cells3_len]; simp
    have q2 : ((cells3 l).drop 0).take (l.length * 3) = cells3 l := by rw [List.drop_zero, ← cells3_len, List.take_length]
    have q3 := mapO_cells3 (h := h) (n := 6) l
    rw [show (8 : Nat) = 7 + 1 from rfl, freeze_slice]
    simp only [h3, q1, q2, cond_true, Bool.false_and]
    rw [show (7 : Nat) = 6 + 1 from rfl, q3]
theorem mode5 : Cz.mode 3 5 = .pure := by kernel_rfl
theorem mode6 : Cz.mode 3 6 = .pure := by kernel_rfl
theorem mode7 : Cz.mode 3 7 = .pure := by kernel_rfl
theorem mode8 : Cz.mode 3 8 = .pure := by kernel_rfl
theorem callP_some {C : Cfg} {n : Nat} {f : FuncId} {args : List AVal} {r : AVal} (h : callP C n f args = some r) : ∃ v hc, callH C n f args .empty = some (v, hc) ∧ freeze hc 8 v = some r := by
  unfold callP at h
  split at h
  · rename_i v hc e; exact ⟨v, hc, e, h⟩
  · cases h
theorem doPure {C : Cfg} {F : FuncId → List AVal → Heap → Option (AVal × Heap)} {caller f : FuncId} {args : List AVal} {h hc : Heap} {v r : AVal} (hm : C.mode caller f = .pure) (ha : mapO (freeze h 8) args = some args) (hr : args.flatMap (reach h 8) = []) (e : F f args .empty = some (v, hc)) (k : freeze hc 8 v = some r) :
    doCall C F caller f args h = some (r, h) := by
  simp only [doCall, hm, ha, e, k, hr, Heap.dels, Bool.cond_self]
theorem call5 {N : Nat} (hN : N = 100000) {h : Heap} : doCall Cz (callH Cz N) 3 5 [] h = some (.bool true, h) := by
  subst hN
  obtain ⟨v, hc, e, k⟩ := callP_some kfirst
  exact doPure mode5 rfl rfl e k
theorem pcall {N : Nat} (hN : N = 100000) {f : FuncId} {arg : AVal} {l m : List Act3} {h : Heap} (hm : Cz.mode 3 f = .pure) (ha : ArgIs arg l) (hr : Ret (ρ := Nat) m Heap.empty.next (callH Cz (99999 + 1) f [arg] .empty)) :
    ∃ v, doCall Cz (callH Cz N) 3 f [arg] h = some (v, h) ∧ ArgIs v m := by
  subst hN
  obtain ⟨v, hc, e, o, _⟩ := hr
  obtain ⟨v', e2, o2⟩ := frz_out o
  exact ⟨v', doPure hm (by simp only [mapO, frz_arg ha]) (by simp only [List.flatMap_cons, List.flatMap_nil, reach_arg ha, List.append_nil]) e e2, o2⟩
theorem evL1 {C : Cfg} {t : Tmps} {x : Operand} {v : AVal} (h : ev C t x = some v) : evL C t [x] = some [v] := by simp only [evL, mapO, h]
theorem neq_s {a : Int} : binA Cz .neq 3 false (.int .i64 a) (.int .i64 a) = some (.bool false) := by
  have : binA Cz .neq 3 false (.int .i64 a) (.int .i64 a) = some (.bool (a != a)) := rfl
  rw [this]; simp
theorem gtr_t {a b : Int} (h : b < a) : binA Cz .gtr 3 true (.int .i64 a) (.int .i64 b) = some (.bool true) := by
  have : binA Cz .gtr 3 true (.int .i64 a) (.int .i64 b) = some (.bool (decide (b < a))) := rfl
  rw [this, decide_eq_true h]
theorem gtr_f {a b : Int} (h : ¬ b < a) : binA Cz .gtr 3 true (.int .i64 a) (.int .i64 b) = some (.bool false) := by
  have : binA Cz .gtr 3 true (.int .i64 a) (.int .i64 b) = some (.bool (decide (b < a))) := rfl
  rw [this, decide_eq_false h]
noncomputable def c3 : Code := (theLoop ((Tryz.f3.body).getD .skip)).getD .skip
variable {F : FuncId → List AVal → Heap → Option (AVal × Heap)} {lf : Nat} {ρ : Type}
def Ends3 (k : Ex → Tmps → Heap → Option ρ) (x : Option ρ) : Prop := ∃ t' h', x = k (.exit 0) t' h'
theorem Ends3.of {k : Ex → Tmps → Heap → Option ρ} {x y : Option ρ} (e : x = y) (h : Ends3 k y) : Ends3 k x := e ▸ h
theorem loop3 (l : List Act3) (hl : l.length ≤ 2000) (va vb : AVal) (ha : ArgIs va l) (hb : ArgIs vb l) (k : Ex → Tmps → Heap → Option ρ) : ∀ (j n : Nat), n + j = l.length → ∀ (m : Nat), j < m → ∀ (t : Tmps) (h : Heap), t.get 3 = some va → t.get 4 = some vb → t.get 5 = some (.int .i64 (n : Int)) →
    Ends3 k (loopN (ρ := ρ) (exec Cz F lf 3 c3) (fun _ _ => none) k m t h) := by
  intro j
  induction j with
  | zero =>
    intro n hn m hm t h h3 h4 h5
    obtain ⟨m, rfl⟩ : ∃ m', m = m' + 1 := ⟨m - 1, by omega⟩
    have hlt : ¬ (n : Int) < (l.length : Int) := by omega
    unfold loopN
    simp only [c3, Tryz.f3, theLoop, Option.getD_some]
    refine Ends3.of e_seq ?_
    refine Ends3.of e_seq ?_
    refine Ends3.of (e_region 4 (prm_id 3 _ _ _ (by decide)) (nre 3 _ (.inr (.inr (.inr rfl)))) rfl) ?_
    refine Ends3.of (r_op (s_move (ev_tmp (h5)))) ?_
    refine Ends3.of (r_op (s_move (ev_tmp (g_skip rfl (h3))))) ?_
    refine Ends3.of (r_op (s_len nm22 (ev_tmp (g_here)) (len22a ha))) ?_
    refine Ends3.of (r_op (s_bin (ev_tmp (g_skip rfl (g_skip rfl (g_here)))) (ev_tmp (g_here)) (lss_f hlt))) ?_
    refine Ends3.of r_nil ?_
    refine Ends3.of (e_cond0 (ev_tmp g_here)) ?_
    refine Ends3.of e_exit ?_
    exact ⟨_, _, rfl⟩
  | succ j ih =>
    intro n hn m hm t h h3 h4 h5
    obtain ⟨m, rfl⟩ : ∃ m', m = m' + 1 := ⟨m - 1, by omega⟩
    have hnl : n < l.length := by omega
    have hlt : (n : Int) < (l.length : Int) := by omega
    obtain ⟨⟨a, b, c⟩, hx⟩ : ∃ x, l[n]? = some x := ⟨l[n], List.getElem?_eq_getElem hnl⟩
    unfold loopN
    simp only [c3, Tryz.f3, theLoop, Option.getD_some]
    refine Ends3.of e_seq ?_
    refine Ends3.of e_seq ?_
    refine Ends3.of (e_region 4 (prm_id 3 _ _ _ (by decide)) (nre 3 _ (.inr (.inr (.inr rfl)))) rfl) ?_
    refine Ends3.of (r_op (s_move (ev_tmp (h5)))) ?_
    refine Ends3.of (r_op (s_move (ev_tmp (g_skip rfl (h3))))) ?_
    refine Ends3.of (r_op (s_len nm22 (ev_tmp (g_here)) (len22a ha))) ?_
    refine Ends3.of (r_op (s_bin (ev_tmp (g_skip rfl (g_skip rfl (g_here)))) (ev_tmp (g_here)) (lss_t hlt))) ?_
    refine Ends3.of r_nil ?_
    refine Ends3.of (e_cond1 (ev_tmp g_here)) ?_
    refine Ends3.of e_skip ?_
    refine Ends3.of e_seq ?_
    refine Ends3.of e_block ?_
    refine Ends3.of e_seq ?_
    refine Ends3.of (e_region 37 (prm_id 3 _ _ _ (by decide)) (nre 3 _ (.inr (.inr (.inr rfl)))) rfl) ?_
    refine Ends3.of (r_op (s_move (ev_tmp (g_skip rfl (g_skip rfl (g_skip rfl (g_skip rfl (h3)))))))) ?_
    refine Ends3.of (r_op (s_move (ev_tmp (g_skip rfl (g_skip rfl (g_skip rfl (g_skip rfl (g_skip rfl (h5))))))))) ?_
    refine Ends3.of (r_op (s_indexAddr (ev_tmp (g_skip rfl (g_here))) (ev_tmp (g_here)) (ix22a ha hx))) ?_
    refine Ends3.of (r_op (s_fieldAddr (ev_tmp (g_here)) fa29_0)) ?_
    refine Ends3.of (r_op (s_load (ev_tmp (g_here)) ld3 (by intro l; simp))) ?_
    refine Ends3.of (r_op (s_move (ev_tmp (g_skip rfl (g_skip rfl (g_skip rfl (g_skip rfl (g_skip rfl (g_skip rfl (g_skip rfl (g_skip rfl (g_skip rfl (h4))))))))))))) ?_
    refine Ends3.of (r_op (s_move (ev_tmp (g_skip rfl (g_skip rfl (g_skip rfl (g_skip rfl (g_skip rfl (g_skip rfl (g_skip rfl (g_skip rfl (g_skip rfl (g_skip rfl (h5)))))))))))))) ?_
    refine Ends3.of (r_op (s_indexAddr (ev_tmp (g_skip rfl (g_here))) (ev_tmp (g_here)) (ix25a hb hx))) ?_
    refine Ends3.of (r_op (s_fieldAddr (ev_tmp (g_here)) fa30_0)) ?_
    refine Ends3.of (r_op (s_load (ev_tmp (g_here)) ld3 (by intro l; simp))) ?_
    refine Ends3.of (r_op (s_bin (ev_tmp (g_skip rfl (g_skip rfl (g_skip rfl (g_skip rfl (g_skip rfl (g_here))))))) (ev_tmp (g_here)) neq_s)) ?_
    refine Ends3.of (r_op (s_move (ev_tmp (g_here)))) ?_
    refine Ends3.of (r_opg rfl (g_here) (s_move (ev_tmp (g_skip rfl (g_skip rfl (g_skip rfl (g_skip rfl (g_skip rfl (g_skip rfl (g_skip rfl (g_skip rfl (g_skip rfl (g_skip rfl (g_skip rfl (g_skip rfl (g_skip rfl (g_skip rfl (g_skip rfl (g_skip rfl (h3)))))))))))))))))))) ?_
    refine Ends3.of (r_opg rfl (g_skip rfl (g_here)) (s_move (ev_tmp (g_skip rfl (g_skip rfl (g_skip rfl (g_skip rfl (g_skip rfl (g_skip rfl (g_skip rfl (g_skip rfl (g_skip rfl (g_skip rfl (g_skip rfl (g_skip rfl (g_skip rfl (g_skip rfl (g_skip rfl (g_skip rfl (g_skip rfl (h5))))))))))))))))))))) ?_
    refine Ends3.of (r_opg rfl (g_skip rfl (g_skip rfl (g_here))) (s_indexAddr (ev_tmp (g_skip rfl (g_here))) (ev_tmp (g_here)) (ix22a ha hx))) ?_
    refine Ends3.of (r_opg rfl (g_skip rfl (g_skip rfl (g_skip rfl (g_here)))) (s_fieldAddr (ev_tmp (g_here)) fa29_1)) ?_
    refine Ends3.of (r_opg rfl (g_skip rfl (g_skip rfl (g_skip rfl (g_skip rfl (g_here))))) (s_load (ev_tmp (g_here)) ld3 (by intro l; simp))) ?_
    refine Ends3.of (r_opg rfl (g_skip rfl (g_skip rfl (g_skip rfl (g_skip rfl (g_skip rfl (g_here)))))) (s_move (ev_tmp (g_skip rfl (g_skip rfl (g_skip rfl (g_skip rfl (g_skip rfl (g_skip rfl (g_skip rfl (g_skip rfl (g_skip rfl (g_skip rfl (g_skip rfl (g_skip rfl (g_skip rfl (g_skip rfl (g_skip rfl (g_skip rfl (g_skip rfl (g_skip rfl (g_skip rfl (g_skip rfl (g_skip rfl (h4))))))))))))))))))))))))) ?_
    refine Ends3.of (r_opg rfl (g_skip rfl (g_skip rfl (g_skip rfl (g_skip rfl (g_skip rfl (g_skip rfl (g_here))))))) (s_move (ev_tmp (g_skip rfl (g_skip rfl (g_skip rfl (g_skip rfl (g_skip rfl (g_skip rfl (g_skip rfl (g_skip rfl (g_skip rfl (g_skip rfl (g_skip rfl (g_skip rfl (g_skip rfl (g_skip rfl (g_skip rfl (g_skip rfl (g_skip rfl (g_skip rfl (g_skip rfl (g_skip rfl (g_skip rfl (g_skip rfl (h5)))))))))))))))))))))))))) ?_
    refine Ends3.of (r_opg rfl (g_skip rfl (g_skip rfl (g_skip rfl (g_skip rfl (g_skip rfl (g_skip rfl (g_skip rfl (g_here)))))))) (s_indexAddr (ev_tmp (g_skip rfl (g_here))) (ev_tmp (g_here)) (ix25a hb hx))) ?_
    refine Ends3.of (r_opg rfl (g_skip rfl (g_skip rfl (g_skip rfl (g_skip rfl (g_skip rfl (g_skip rfl (g_skip rfl (g_skip rfl (g_here))))))))) (s_fieldAddr (ev_tmp (g_here)) fa30_1)) ?_
    refine Ends3.of (r_opg rfl (g_skip rfl (g_skip rfl (g_skip rfl (g_skip rfl (g_skip rfl (g_skip rfl (g_skip rfl (g_skip rfl (g_skip rfl (g_here)))))))))) (s_load (ev_tmp (g_here)) ld3 (by intro l; simp))) ?_
    refine Ends3.of (r_opg rfl ((g_skip rfl (g_skip rfl (g_skip rfl (g_skip rfl (g_skip rfl (g_skip rfl (g_skip rfl (g_skip rfl (g_skip rfl (g_skip rfl (g_here)))))))))))) (s_bin (ev_tmp (g_skip rfl (g_skip rfl (g_skip rfl (g_skip rfl (g_skip rfl (g_here))))))) (ev_tmp (g_here)) neq_s)) ?_
    refine Ends3.of (r_op (s_pick0 (ev_tmp (g_skip rfl (g_skip rfl (g_skip rfl (g_skip rfl (g_skip rfl (g_skip rfl (g_skip rfl (g_skip rfl (g_skip rfl (g_skip rfl (g_skip rfl (g_here))))))))))))) (ev_tmp (g_here)))) ?_
    refine Ends3.of (r_op (s_move (ev_tmp (g_here)))) ?_
    refine Ends3.of (r_opg rfl (g_here) (s_move (ev_tmp (g_skip rfl (g_skip rfl (g_skip rfl (g_skip rfl (g_skip rfl (g_skip rfl (g_skip rfl (g_skip rfl (g_skip rfl (g_skip rfl (g_skip rfl (g_skip rfl (g_skip rfl (g_skip rfl (g_skip rfl (g_skip rfl (g_skip rfl (g_skip rfl (g_skip rfl (g_skip rfl (g_skip rfl (g_skip rfl (g_skip rfl (g_skip rfl (g_skip rfl (g_skip rfl (g_skip rfl (g_skip rfl (g_skip rfl (h3))))))))))))))))))))))))))))))))) ?_
    refine Ends3.of (r_opg rfl (g_skip rfl (g_here)) (s_move (ev_tmp (g_skip rfl (g_skip rfl (g_skip rfl (g_skip rfl (g_skip rfl (g_skip rfl (g_skip rfl (g_skip rfl (g_skip rfl (g_skip rfl (g_skip rfl (g_skip rfl (g_skip rfl (g_skip rfl (g_skip rfl (g_skip rfl (g_skip rfl (g_skip rfl (g_skip rfl (g_skip rfl (g_skip rfl (g_skip rfl (g_skip rfl (g_skip rfl (g_skip rfl (g_skip rfl (g_skip rfl (g_skip rfl (g_skip rfl (g_skip rfl (h5)))))))))))))))))))))))))))))))))) ?_
    refine Ends3.of (r_opg rfl (g_skip rfl (g_skip rfl (g_here))) (s_indexAddr (ev_tmp (g_skip rfl (g_here))) (ev_tmp (g_here)) (ix22a ha hx))) ?_
    refine Ends3.of (r_opg rfl (g_skip rfl (g_skip rfl (g_skip rfl (g_here)))) (s_fieldAddr (ev_tmp (g_here)) fa29_2)) ?_
    refine Ends3.of (r_opg rfl (g_skip rfl (g_skip rfl (g_skip rfl (g_skip rfl (g_here))))) (s_load (ev_tmp (g_here)) ld3 (by intro l; simp))) ?_
    refine Ends3.of (r_opg rfl (g_skip rfl (g_skip rfl (g_skip rfl (g_skip rfl (g_skip rfl (g_here)))))) (s_move (ev_tmp (g_skip rfl (g_skip rfl (g_skip rfl (g_skip rfl (g_skip rfl (g_skip rfl (g_skip rfl (g_skip rfl (g_skip rfl (g_skip rfl (g_skip rfl (g_skip rfl (g_skip rfl (g_skip rfl (g_skip rfl (g_skip rfl (g_skip rfl (g_skip rfl (g_skip rfl (g_skip rfl (g_skip rfl (g_skip rfl (g_skip rfl (g_skip rfl (g_skip rfl (g_skip rfl (g_skip rfl (g_skip rfl (g_skip rfl (g_skip rfl (g_skip rfl (g_skip rfl (g_skip rfl (g_skip rfl (h4)))))))))))))))))))))))))))))))))))))) ?_
    refine Ends3.of (r_opg rfl (g_skip rfl (g_skip rfl (g_skip rfl (g_skip rfl (g_skip rfl (g_skip rfl (g_here))))))) (s_move (ev_tmp (g_skip rfl (g_skip rfl (g_skip rfl (g_skip rfl (g_skip rfl (g_skip rfl (g_skip rfl (g_skip rfl (g_skip rfl (g_skip rfl (g_skip rfl (g_skip rfl (g_skip rfl (g_skip rfl (g_skip rfl (g_skip rfl (g_skip rfl (g_skip rfl (g_skip rfl (g_skip rfl (g_skip rfl (g_skip rfl (g_skip rfl (g_skip rfl (g_skip rfl (g_skip rfl (g_skip rfl (g_skip rfl (g_skip rfl (g_skip rfl (g_skip rfl (g_skip rfl (g_skip rfl (g_skip rfl (g_skip rfl (h5))))))))))))))))))))))))))))))))))))))) ?_
    refine Ends3.of (r_opg rfl (g_skip rfl (g_skip rfl (g_skip rfl (g_skip rfl (g_skip rfl (g_skip rfl (g_skip rfl (g_here)))))))) (s_indexAddr (ev_tmp (g_skip rfl (g_here))) (ev_tmp (g_here)) (ix25a hb hx))) ?_
    refine Ends3.of (r_opg rfl (g_skip rfl (g_skip rfl (g_skip rfl (g_skip rfl (g_skip rfl (g_skip rfl (g_skip rfl (g_skip rfl (g_here))))))))) (s_fieldAddr (ev_tmp (g_here)) fa30_2)) ?_
    refine Ends3.of (r_opg rfl (g_skip rfl (g_skip rfl (g_skip rfl (g_skip rfl (g_skip rfl (g_skip rfl (g_skip rfl (g_skip rfl (g_skip rfl (g_here)))))))))) (s_load (ev_tmp (g_here)) ld3 (by intro l; simp))) ?_
    refine Ends3.of (r_opg rfl ((g_skip rfl (g_skip rfl (g_skip rfl (g_skip rfl (g_skip rfl (g_skip rfl (g_skip rfl (g_skip rfl (g_skip rfl (g_skip rfl (g_here)))))))))))) (s_bin (ev_tmp (g_skip rfl (g_skip rfl (g_skip rfl (g_skip rfl (g_skip rfl (g_here))))))) (ev_tmp (g_here)) neq_s)) ?_
    refine Ends3.of (r_op (s_pick0 (ev_tmp (g_skip rfl (g_skip rfl (g_skip rfl (g_skip rfl (g_skip rfl (g_skip rfl (g_skip rfl (g_skip rfl (g_skip rfl (g_skip rfl (g_skip rfl (g_here))))))))))))) (ev_tmp (g_here)))) ?_
    refine Ends3.of r_nil ?_
    dsimp only
    refine Ends3.of (e_cond0 (ev_tmp g_here)) ?_
    refine Ends3.of e_skip ?_
    dsimp only
    refine Ends3.of (e_region 3 (prm_id 3 _ _ _ (by decide)) (nre 3 _ (.inr (.inr (.inr rfl)))) rfl) ?_
    refine Ends3.of (r_op (s_move (ev_tmp (g_skip rfl (g_skip rfl (g_skip rfl (g_skip rfl (g_skip rfl (g_skip rfl (g_skip rfl (g_skip rfl (g_skip rfl (g_skip rfl (g_skip rfl (g_skip rfl (g_skip rfl (g_skip rfl (g_skip rfl (g_skip rfl (g_skip rfl (g_skip rfl (g_skip rfl (g_skip rfl (g_skip rfl (g_skip rfl (g_skip rfl (g_skip rfl (g_skip rfl (g_skip rfl (g_skip rfl (g_skip rfl (g_skip rfl (g_skip rfl (g_skip rfl (g_skip rfl (g_skip rfl (g_skip rfl (g_skip rfl (g_skip rfl (g_skip rfl (g_skip rfl (g_skip rfl (g_skip rfl (g_skip rfl (h5))))))))))))))))))))))))))))))))))))))))))))) ?_
    refine Ends3.of (r_op (s_bin (ev_tmp (g_here)) rfl (inc (n := n) (by omega)))) ?_
    refine Ends3.of (r_op (s_assign (ev_tmp (g_here)))) ?_
    refine Ends3.of r_nil ?_
    dsimp only
    refine ih (n + 1) (by omega) m (by omega) _ _ ?_ ?_ ?_
    · exact (g_skip rfl (g_skip rfl (g_skip rfl (g_skip rfl (g_skip rfl (g_skip rfl (g_skip rfl (g_skip rfl (g_skip rfl (g_skip rfl (g_skip rfl (g_skip rfl (g_skip rfl (g_skip rfl (g_skip rfl (g_skip rfl (g_skip rfl (g_skip rfl (g_skip rfl (g_skip rfl (g_skip rfl (g_skip rfl (g_skip rfl (g_skip rfl (g_skip rfl (g_skip rfl (g_skip rfl (g_skip rfl (g_skip rfl (g_skip rfl (g_skip rfl (g_skip rfl (g_skip rfl (g_skip rfl (g_skip rfl (g_skip rfl (g_skip rfl (g_skip rfl (g_skip rfl (g_skip rfl (g_skip rfl (g_skip rfl (g_skip rfl (g_skip rfl (h3)))))))))))))))))))))))))))))))))))))))))))))
    · exact (g_skip rfl (g_skip rfl (g_skip rfl (g_skip rfl (g_skip rfl (g_skip rfl (g_skip rfl (g_skip rfl (g_skip rfl (g_skip rfl (g_skip rfl (g_skip rfl (g_skip rfl (g_skip rfl (g_skip rfl (g_skip rfl (g_skip rfl (g_skip rfl (g_skip rfl (g_skip rfl (g_skip rfl (g_skip rfl (g_skip rfl (g_skip rfl (g_skip rfl (g_skip rfl (g_skip rfl (g_skip rfl (g_skip rfl (g_skip rfl (g_skip rfl (g_skip rfl (g_skip rfl (g_skip rfl (g_skip rfl (g_skip rfl (g_skip rfl (g_skip rfl (g_skip rfl (g_skip rfl (g_skip rfl (g_skip rfl (g_skip rfl (g_skip rfl (h4)))))))))))))))))))))))))))))))))))))))))))))
    · exact (g_here)
end Go.Den
