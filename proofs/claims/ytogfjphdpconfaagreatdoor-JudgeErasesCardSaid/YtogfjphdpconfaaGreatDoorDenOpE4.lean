/- What is left of the operations but calls: what each says, the model says. -/
import Derived.Test.YtogfjphdpconfaaGreatDoorDenOpE3
namespace Go.Den
open Go
variable {C : Cfg} {K A : Nat → Prop} {μ : Mu} {w : World} {nx : Nat}

theorem copyA_ok {t ty : TypeId} {ts : Array TypeId} (ht : ts[0]? = some t) {h h' : Heap} {d s : AVal} {v : Option AVal} {dv sv : Value} {new : Nat → Prop} (hc : copyA C t h d s = some (v, h')) (hr : R K A μ h.get nx w)
    (hd : V (Bad K μ) w μ A d dv) (hs : V (Bad K μ) w μ A s sv) :
    ∃ z w', (Builtin.copy_ ts ty #[dv, sv]).run C.P w = .ok z w' ∧ Came K A μ w nx new v h'.get nx (.value z) w' ∧ h'.next = h.next := by
  unfold copyA at hc
  split at hc
  · rename_i elem hu
    split at hc
    · rename_i i hi
      split at hc
      · cases hc
      rename_i src m hel
      obtain ⟨hlen, hnl, hnc, hnf⟩ := elemsOf_ok hel hr hs C.P
      split at hc
      · cases hc
        cases hd
        obtain ⟨ys, hys, hyf⟩ := hnf 0 (Nat.zero_le _)
        rw [Nat.zero_mul] at hys
        obtain rfl := VL.nil_inv hys
        refine ⟨_, w, ?_, Came.same hr ⟨_, rfl, .int _ _ _⟩, rfl⟩
        unfold Builtin.copy_
        simp [ht, r_underlying hu, hlen, r_size hi, hyf, goInt]
      · rename_i id off len cap full e
        split at hc
        · rename_i cs e' gr hg
          simp only at hc
          by_cases hle : off + Nat.min m len * i.size ≤ cs.length
          · simp only [natBle, hle, decide_true, cond_true, Option.some.injEq, Prod.mk.injEq] at hc
            obtain ⟨rfl, rfl⟩ := hc
            obtain ⟨im, him⟩ := img_of hr hg
            have hd0 := hd
            cases hd with | slice _ _ _ _ _ _ _ ad c g1 g2 g3 g4 g5 =>
            obtain ⟨ys, hys, hyf⟩ := hnf (Nat.min m len) (Nat.min_le_left _ _)
            have hms : Nat.min m len * i.size ≤ m * i.size := Nat.mul_le_mul_right _ (Nat.min_le_left _ _)
            have hsl : (src.take (Nat.min m len * i.size)).length = Nat.min m len * i.size := by simp; omega
            obtain ⟨w', k1, k2, k3⟩ := hr.stores him hg (off := off) (by rw [hsl]; exact hle) hys (fun a ha => hnc a (List.mem_of_mem_take ha)) C.P
            refine ⟨.int .i64 (Nat.min m len : Nat), w', ?_, ⟨A, μ, k2.congr fun j => Heap.get_put _ _ _ _, k3, fun id h => .inl h, _, rfl, .int _ _ _⟩, rfl⟩
            unfold Builtin.copy_
            rw [(g2 im him).1]
            simp only [ht, List.getElem?_toArray, List.getElem?_cons_zero, List.getElem?_cons_succ, Sem.run_bind, r_underlying hu, Result.andThen_ok, hlen, r_size hi, hyf, k1, Sem.run_pure, goInt]
          · simp only [natBle, hle, decide_false, cond_false] at hc; cases hc
        · cases hc
      · cases hc
    · cases hc
  · cases hc

theorem clearA_ok {t ty : TypeId} {ts : Array TypeId} (ht : ts[0]? = some t) {h h' : Heap} {d : AVal} {dv : Value} {new : Nat → Prop} (hc : clearA C t h d = some h') (hr : R K A μ h.get nx w) (hd : V (Bad K μ) w μ A d dv) :
    ∃ z w', (Builtin.clear_ ts ty #[dv]).run C.P w = .ok z w' ∧ Came K A μ w nx new (some (.tuple [])) h'.get nx (.value z) w' ∧ h'.next = h.next := by
  have ht0 : V (Bad K μ) w μ A (.tuple []) (.tuple #[]) := .tuple _ _ _ rfl (by simp)
  unfold clearA at hc
  split at hc
  · rename_i elem hu
    split at hc
    · rename_i i z hi hz
      split at hc
      · cases hc
        cases hd
        refine ⟨.tuple #[], w, ?_, Came.same hr ⟨_, rfl, ht0⟩, rfl⟩
        unfold Builtin.clear_
        simp [ht, r_underlying hu]
      · rename_i id off len cap full e
        split at hc
        · rename_i cs e' gr hg
          cases hcc : (Nat.ble (off + len * i.size) cs.length && Nat.beq (cellsOf z).length i.size)
          · rw [hcc, cond_false] at hc; cases hc
          · rw [hcc, cond_true] at hc
            cases hc
            simp only [natBle, natBeq, Bool.and_eq_true, decide_eq_true_eq] at hcc
            obtain ⟨im, him⟩ := img_of hr hg
            obtain ⟨i', zv, hi', hz', hv, hnt⟩ := zeroA_ok (bad := Bad K μ) (w := w) (μ := μ) (A := A) hz
            have : i' = i := by have := hi'.symm.trans hi; simpa using this
            subst this
            obtain ⟨v1, v2⟩ := V.cells_inv hv hnt
            have hzs : zv.cells.size = i'.size := by rw [← hcc.2, v1.1]; simp
            have hd0 := hd
            cases hd with | slice _ _ _ _ _ _ _ ad c g1 g2 g3 g4 g5 =>
            have hzz := zeros_VL v1 len
            rw [hzs] at hzz
            have hll : (repl (cellsOf z) len).length = len * i'.size := by rw [repl_len, hcc.2]
            obtain ⟨w', k1, k2, k3⟩ := hr.stores him hg (off := off) (by rw [hll]; exact hcc.1) hzz (repl_cells v2 len) C.P
            refine ⟨.tuple #[], w', ?_, ⟨A, μ, k2.congr fun j => Heap.get_put _ _ _ _, k3, fun id h => .inl h, _, rfl, .tuple _ _ _ rfl (by simp)⟩, rfl⟩
            have hk1 : (storeCells ⟨im.b, im.o + off, none⟩ (Builtin.zeroCells zv.cells len).toList).run C.P w = .ok () w' := by
              rw [← k1]; simp only [Builtin.zeroCells, hzs]
            unfold Builtin.clear_
            rw [(g2 im him).1]
            cases len with
            | zero =>
              simp only [ht, List.getElem?_toArray, List.getElem?_cons_zero, Sem.run_bind, r_underlying hu, Result.andThen_ok, Sem.run_pure]
              have : w' = w := by
                have h0 : (Builtin.zeroCells zv.cells 0).toList = [] := by
                  apply List.eq_nil_of_length_eq_zero; simp [Builtin.zeroCells]
                rw [h0] at hk1
                simp [storeCells] at hk1
                exact hk1.symm
              rw [this]
            | succ len =>
              simp only [ht, List.getElem?_toArray, List.getElem?_cons_zero, Sem.run_bind, r_underlying hu, Result.andThen_ok, Sem.run_pure, r_zero hi' hz', hk1]
        · cases hc
      · cases hc
        cases hd with | list _ _ _ _ ad c o f g1 g2 g3 g4 g5 =>
        refine ⟨.tuple #[], w, ?_, Came.same hr ⟨_, rfl, ht0⟩, rfl⟩
        unfold Builtin.clear_
        simp [ht, r_underlying hu]
      · cases hc
    · cases hc
  · cases hc

theorem lenM_ok {t ty : TypeId} {ts : Array TypeId} (ht : ts[0]? = some t) {h : Heap} {a v : AVal} {x : Value} (hl : lenM C t h a = some v) (hr : R K A μ h.get nx w) (hx : V (Bad K μ) w μ A a x) (xs : Array Value) (hxs : xs[0]? = some x) :
    ∃ z, (Builtin.len_ ts ty xs).run C.P w = .ok z w ∧ V (Bad K μ) w μ A v z := by
  unfold lenM at hl
  split at hl
  · rename_i hu
    cases hl; cases hx
    exact ⟨.int .i64 0, by simp only [Builtin.len_, ht, hxs]; simp [r_underlying hu, goInt], .int _ _ _⟩
  · rename_i id hu
    split at hl
    · rename_i es hg
      cases hl
      obtain ⟨im, him⟩ := img_of hr hg
      obtain ⟨ents, clock, h1, h2, h3⟩ := hr.map id im es him hg
      cases hx with | map _ _ r g1 g2 =>
      have hb := g2 im him
      subst hb
      have hget : (getObj im.b).run C.P w = .ok (.map ents clock) w := by simp only [getObj, Sem.run, h1]
      exact ⟨.int .i64 ents.size, by simp only [Builtin.len_, ht, hxs]; simp [r_underlying hu, hget, goInt], by rw [h2]; exact .int _ _ _⟩
    · cases hl
  · cases hl

theorem builtinE_ok {b : Builtin} {ts : Array TypeId} {args : List AVal} {xs : List Value} {h h' : Heap} {nid : Nat} {v : Option AVal} (ty : TypeId) (cs : Array Bool) (he : builtinE C b ts.toList h nid args = some (v, h')) (hr : R K A μ h.get nx w)
    (hx : VL (Bad K μ) w μ A args xs) (hn : ¬ A nid) (hnx : nid < nx) (hk : ∀ b, w.heap.size ≤ b → ¬ K b) :
    ∃ r w', (builtin b ts ty cs xs.toArray).run C.P w = .ok r w' ∧ Came K A μ w nx (· = nid) v h'.get nx r w' ∧ h'.next = h.next := by
  unfold builtinE at he
  split at he
  · rename_i t l a l' ht
    obtain ⟨x, ys, rfl, hx1, hx2⟩ := hx.cons_inv
    split at he
    · rename_i r hlen
      cases he
      obtain ⟨z, h1, h2⟩ := lenM_ok (ty := ty) (ts := ts) (by rw [← Array.getElem?_toList, ht]; rfl) hlen hr hx1 (x :: ys).toArray (by simp)
      exact ⟨.value z, w, by simp [builtin, h1], Came.same hr ⟨z, rfl, h2⟩, rfl⟩
    · cases he
  · rename_i st xt s x ht
    obtain ⟨sv, ys, rfl, hx1, hx2⟩ := hx.cons_inv
    obtain ⟨xv, ys, rfl, hx3, hx4⟩ := hx2.cons_inv
    obtain rfl := hx4.nil_inv
    obtain ⟨z, w', h1, h2, h3⟩ := appendA_ok (ty := ty) he hr hx1 hx3 hn hnx hk
    have hts : ts = #[st, xt] := by apply Array.ext'; simpa using ht
    subst hts
    exact ⟨.value z, w', by simp [builtin, h1], h2, h3⟩
  · rename_i t l d s ht
    obtain ⟨sv, ys, rfl, hx1, hx2⟩ := hx.cons_inv
    obtain ⟨xv, ys, rfl, hx3, hx4⟩ := hx2.cons_inv
    obtain rfl := hx4.nil_inv
    obtain ⟨z, w', h1, h2, h3⟩ := copyA_ok (ty := ty) (ts := ts) (by rw [← Array.getElem?_toList, ht]; rfl) he hr hx1 hx3
    exact ⟨.value z, w', by simp [builtin, h1], h2, h3⟩
  · rename_i t l d ht
    obtain ⟨sv, ys, rfl, hx1, hx2⟩ := hx.cons_inv
    obtain rfl := hx2.nil_inv
    split at he
    · rename_i hh hcl
      cases he
      obtain ⟨z, w', h1, h2, h3⟩ := clearA_ok (ty := ty) (ts := ts) (by rw [← Array.getElem?_toList, ht]; rfl) hcl hr hx1
      exact ⟨.value z, w', by simp [builtin, h1], h2, h3⟩
    · cases he
  · cases he

theorem opE_ok {o : Oper} {t : Tmps} {a : Act} {h h' : Heap} {nid : Nat} {v : Option AVal} (he : opE C o t h nid = some (v, h')) (hg : GlobOk C (Bad K μ) w μ) (ht : TR (Bad K μ) w μ A t a.tmps)
    (hr : R K A μ h.get nx w) (hn : ¬ A nid) (hnx : nid < nx) (hk : ∀ b, w.heap.size ≤ b → ¬ K b) :
    ∃ r w', (execOp a.eval o).run C.P w = .ok r w' ∧ Came K A μ w nx (· = nid) v h'.get nx r w' ∧ h'.next = h.next := by
  unfold opE at he
  unfold execOp
  split at he
  · rename_i ty x y ho
    rw [ho]
    split at he
    · rename_i p q hp hq
      split at he
      · rename_i hh hs
        cases he
        obtain ⟨w', h1, h2, h3, h4⟩ := storeA_ok hs hr (ev_V hg ht hp) (ev_V hg ht hq)
        exact ⟨.skip, w', by simp [h1], ⟨A, μ, h2, h3, fun id h => .inl h, rfl⟩, h4⟩
      · cases he
    · cases he
  · rename_i s d x ho
    rw [ho]
    split at he
    · rename_i p hp
      obtain ⟨z, w', h1, h2, h3⟩ := convE_ok he hr (ev_V hg ht hp) hn hnx hk
      exact ⟨.value z, w', by simp [h1], h2, h3⟩
    · cases he
  · rename_i c ho
    rw [ho]
    split at he
    · rename_i b hb
      split at he
      · rename_i args ha
        have hv := evL_V hg ht ha
        obtain ⟨r, w', h1, h2, h3⟩ := builtinE_ok o.type (c.args.map fun | .const _ => true | _ => false) he hr hv hn hnx hk
        refine ⟨r, w', ?_, h2, h3⟩
        simp only [resolve, hb, Sem.run_bind, Sem.run_pure, Result.andThen_ok, invoke]
        rw [← Array.toList_map] at h1
        exact h1
      · cases he
    · cases he
  · cases he
end Go.Den
