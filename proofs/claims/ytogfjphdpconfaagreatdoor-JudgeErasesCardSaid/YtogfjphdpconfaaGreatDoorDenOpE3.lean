/- append, copy, clear, maps: the whole. -/
import Derived.Test.YtogfjphdpconfaaGreatDoorDenOpE2
namespace Go.Den
open Go
variable {C : Cfg} {K A : Nat → Prop} {μ : Mu} {w : World} {nx : Nat}

theorem appendTy_ok' {st xt : TypeId} {i : TypeInfo} (h : appendTy C st xt = some i) : ∃ elem d z, C.P.underlying st = some (.slice elem) ∧ C.P.info? elem = some i ∧ C.P.underlying xt = some d ∧ notInt d = false ∧
    i.zero = some z ∧ z.cells.size = i.size ∧ 0 < i.size := by
  obtain ⟨elem, d, z, h1, h2, h3, h4, h5⟩ := appendTy_ok h
  exact ⟨elem, d, z, h1, h2, h3, notInt_of h4, h5⟩

theorem size_zeroCells (z : Array Value) (n : Nat) : (Builtin.zeroCells z n).size = n * z.size := by simp [Builtin.zeroCells]

/-- What a slice that has grown is: a new block. -/
theorem grown_ok {h h' : Heap} {i : TypeInfo} {nid len n : Nat} {old new : List AVal} {v : Option AVal} {olds news : List Value} {cap : Nat} {z : Array Value} {e : TypeId}
    (hg : grownA i nid old new len n h = some (v, h')) (hr : R K A μ h.get nx w) (hn : ¬ A nid) (hnx : nid < nx) (hk : ∀ b, w.heap.size ≤ b → ¬ K b)
    (ho : VL (Bad K μ) w μ A old olds) (hoc : Cells old) (hol : old.length = len * i.size) (hv : VL (Bad K μ) w μ A new news) (hvc : Cells new) (hvl : new.length = n * i.size) (hcap : len + n ≤ cap) (hz : z.size = i.size) :
    Came K A μ w nx (· = nid) v h'.get nx (.value (.slice (some ⟨w.heap.size, 0, none⟩) (len + n) cap)) (w.drew.alloc (.cells (olds.toArray ++ news.toArray ++ Builtin.zeroCells z (cap - (len + n))) e)) ∧
    h'.next = h.next ∧ len + n ≤ 9223372036854775807 ∧ (len + n) * i.bytes ≤ 140737488355328 := by
  unfold grownA at hg
  cases hc : (Nat.ble (len + n) maxLenN && Nat.ble ((len + n) * i.bytes) roomN)
  · rw [hc, cond_false] at hg; cases hg
  · rw [hc, cond_true] at hg
    cases hg
    simp only [natBle, Bool.and_eq_true, decide_eq_true_eq, maxLenN, roomN] at hc
    have hVL := ho.append hv
    have hsz : (olds.toArray ++ news.toArray ++ Builtin.zeroCells z (cap - (len + n))).size = cap * i.size := by
      have h1 := ho.1
      have h2 := hv.1
      simp only [Array.size_append, List.size_toArray, size_zeroCells, hz]
      rw [← h1, ← h2, hol, hvl, ← Nat.add_mul, ← Nat.add_mul]
      congr 1; omega
    obtain ⟨p, q⟩ := (hr.of_heap (w' := w.drew) rfl).alloc (w' := w.drew.alloc (.cells (olds.toArray ++ news.toArray ++ Builtin.zeroCells z (cap - (len + n))) e)) (T := e) (cs := old ++ new) (e := i.size) (gr := true) (n := 0) hn hnx rfl ⟨rfl, rfl⟩
      (by rw [hsz, List.length_append, hol, hvl, ← Nat.add_mul]; exact Nat.mul_le_mul_right _ hcap) (fun j a hj => by
        refine ⟨?_, ?_⟩
        · rcases List.mem_append.1 (List.mem_of_getElem? hj) with hm | hm
          · exact hoc a hm
          · exact hvc a hm
        · obtain ⟨y, hy, hvy⟩ := hVL.get hj
          refine ⟨y, ?_, hvy.mono (w' := w.drew) (fun b _ hb => ⟨hb, rfl⟩) _ (fun id h => ⟨h, .inl rfl⟩)⟩
          rw [Array.getElem?_append_left (by
            have := (List.getElem?_eq_some_iff.1 hy).1
            simpa using this)]
          rw [← Array.getElem?_toList]
          simpa using hy) (hk _ (Nat.le_refl _))
    refine ⟨⟨_, _, p.congr fun j => Heap.get_put _ _ _ _, (Ext.of_heap (w := w) (w' := w.drew) rfl ⟨rfl, rfl⟩).trans q, fun id h => h, _, rfl, ?_⟩, rfl, hc⟩
    exact V.fresh_slice rfl _ _ _ _ _ (fun h => by cases h) (fun _ => ⟨by simp only [hsz], rfl⟩) (Nat.le_refl _) hcap

theorem VL.drew {old : List AVal} {olds : List Value} (h : VL (Bad K μ) w.drew μ A old olds) : VL (Bad K μ) w μ A old olds :=
  ⟨h.1, fun i a x ha hx => (h.2 i a x ha hx).mono (w' := w) (fun b _ hb => ⟨hb, rfl⟩) _ (fun id h => ⟨h, .inl rfl⟩)⟩

theorem V.drew {a : AVal} {x : Value} (h : V (Bad K μ) w μ A a x) : V (Bad K μ) w.drew μ A a x := h.mono (w' := w.drew) (fun b _ hb => ⟨hb, rfl⟩) _ (fun id h => ⟨h, .inl rfl⟩)

theorem appendA_ok {st xt ty : TypeId} {h h' : Heap} {nid : Nat} {s x : AVal} {v : Option AVal} {sv xv : Value} (ha : appendA C st xt h nid s x = some (v, h')) (hr : R K A μ h.get nx w)
    (hs : V (Bad K μ) w μ A s sv) (hx : V (Bad K μ) w μ A x xv) (hn : ¬ A nid) (hnx : nid < nx) (hk : ∀ b, w.heap.size ≤ b → ¬ K b) :
    ∃ z w', (Builtin.append_ #[st, xt] ty #[sv, xv]).run C.P w = .ok z w' ∧ Came K A μ w nx (· = nid) v h'.get nx (.value z) w' ∧ h'.next = h.next := by
  unfold appendA at ha
  split at ha
  · cases ha
  rename_i i hty
  obtain ⟨elem, d, z, hu, hi, hux, hd, hz, hzs, hpos⟩ := appendTy_ok' hty
  split at ha
  · cases ha
  rename_i new n hel
  obtain ⟨hlen, hnl, hnc, hnf⟩ := elemsOf_ok hel hr hx C.P
  obtain ⟨hlen', -, -, hnf'⟩ := elemsOf_ok hel (hr.of_heap (w' := w.drew) rfl) hx.drew C.P
  obtain ⟨ys, hys, hyf⟩ := hnf n (Nat.le_refl _)
  obtain ⟨ys', hys', hyf'⟩ := hnf' n (Nat.le_refl _)
  rw [List.take_of_length_le (by omega)] at hys hys'
  have hys'' := hys'.drew
  -- a slice that grows
  have grow : ∀ {base : Option Addr} {len c : Nat} {old : List AVal} {hh : Heap} {A1 : Nat → Prop} {μ1 : Mu} {v : Option AVal} {h' : Heap}, grownA i nid old new len n hh = some (v, h') → c < len + n → hh.next = h.next →
      R K A1 μ1 hh.get nx w → Ext K A μ w A1 μ1 w → (∀ id, A1 id → A id ∨ id = nid) → ¬ A1 nid →
      Cells old → old.length = len * i.size → (∃ olds : List Value, VL (Bad K μ) w.drew μ A old olds ∧ (Builtin.firstCells i.size len (.slice base len c)).run C.P w.drew = .ok olds.toArray w.drew) →
      ∃ z w', (Builtin.append_ #[st, xt] ty #[.slice base len c, xv]).run C.P w = .ok z w' ∧ Came K A μ w nx (· = nid) v h'.get nx (.value z) w' ∧ h'.next = h.next := by
    intro base len c old hh A1 μ1 v h' hg hroom hnext hr1 hx1 hA1 hn1 hoc hol hold
    obtain ⟨olds, ho1, ho2⟩ := hold
    have ho1' := ho1.drew
    have hb : len + n ≤ grownCap w (len + n) c elem := by simp [grownCap, Question.cut]
    obtain ⟨p, q, q1, q2⟩ := grown_ok (e := elem) hg hr1 hn1 hnx hk ⟨ho1'.1, fun j a y ha hy => hx1.V (ho1'.2 j a y ha hy)⟩ hoc hol ⟨hys''.1, fun j a y ha hy => hx1.V (hys''.2 j a y ha hy)⟩ hnc hnl hb hzs
    obtain ⟨A2, μ2, p1, p2, p3, p4⟩ := p
    refine ⟨_, _, append_new hu hux hd hi hz hlen hroom q1 q2 ho2 hyf', ⟨A2, μ2, p1, hx1.trans p2, fun id h => ?_, p4⟩, q.trans hnext⟩
    rcases p3 id h with h | h
    · exact hA1 id h
    · exact .inr h
  split at ha
  · cases hs
    by_cases h0 : n = 0
    · simp only [natBeq, h0, decide_true, cond_true] at ha
      cases ha
      subst h0
      have : new = [] := by simpa using hnl
      subst this
      obtain rfl := VL.nil_inv hys
      exact ⟨_, _, append_room (base := none) hu hux hd hi hlen (by omega) hyf (by simp), Came.same hr ⟨_, rfl, .nilslice _⟩, rfl⟩
    · simp only [natBeq, h0, decide_false, cond_false] at ha
      exact grow ha (by omega) rfl hr Ext.refl (fun id h => .inl h) hn (fun a h => by cases h) (by simp) ⟨[], VL.nil, by simp [Builtin.firstCells]⟩
  · rename_i cs len ex
    have hs0 := hs
    cases hs with | list _ _ _ _ ad c o f g1 g2 g3 g4 g5 =>
    by_cases h0 : n = 0
    · simp only [natBeq, h0, decide_true, cond_true] at ha
      cases ha
      subst h0
      have : new = [] := by simpa using hnl
      subst this
      obtain rfl := VL.nil_inv hys
      exact ⟨_, _, append_room (base := some ad) (len := len) (c := c) hu hux hd hi hlen (by omega) hyf (by simp [storeCells]), Came.same hr ⟨_, rfl, hs0⟩, rfl⟩
    · simp only [natBeq, h0, decide_false, cond_false] at ha
      cases hc : (ex && decide (cs.length = len * i.size))
      · rw [hc, cond_false] at ha; cases ha
      · rw [hc, cond_true] at ha
        simp only [Bool.and_eq_true, decide_eq_true_eq] at hc
        have hcl := g4 hc.1
        subst hcl
        have hel2 : elemsOf h i.size (.list cs c ex) = some (cs, c) := by simp [elemsOf, natBeq, hc.2]
        obtain ⟨-, -, hcc, hof⟩ := elemsOf_ok hel2 (hr.of_heap (w' := w.drew) rfl) hs0.drew C.P
        obtain ⟨olds, ho1, ho2⟩ := hof c (Nat.le_refl _)
        rw [List.take_of_length_le (by omega)] at ho1
        exact grow ha (by omega) rfl hr Ext.refl (fun id h => .inl h) hn hcc hc.2 ⟨olds, ho1, ho2⟩
  · rename_i id off len cap full e
    have hs0 := hs
    cases hs with | slice _ _ _ _ _ _ _ ad c g1 g2 g3 g4 g5 =>
    split at ha
    · rename_i cs e' gr hg
      obtain ⟨im, him⟩ := img_of hr hg
      obtain ⟨hadr, hend⟩ := g2 im him
      by_cases hroom : len + n ≤ cap
      · simp only [natBle, hroom, decide_true, cond_true] at ha
        by_cases hfit : off + (len + n) * i.size ≤ cs.length
        · simp only [hfit, decide_true, cond_true] at ha
          cases ha
          have hfit' : off + len * i.size + new.length ≤ cs.length := by rw [hnl]; rw [Nat.add_mul] at hfit; omega
          obtain ⟨w', k1, k2, k3⟩ := hr.stores him hg hfit' hys hnc C.P
          refine ⟨_, w', append_room (base := some ad) (len := len) (c := c) hu hux hd hi hlen (by omega) hyf (w' := w') ?_, ⟨A, μ, k2.congr fun j => Heap.get_put _ _ _ _, k3, fun id h => .inl h, _, rfl, ?_⟩, rfl⟩
          · show (storeCells (ad.add (len * i.size)) ys).run C.P w = _
            rw [hadr, add_none, Nat.add_assoc]; exact k1
          · exact k3.V (.slice _ _ _ _ _ _ _ _ _ g1 g2 g3 hroom g5)
        · simp only [hfit, decide_false, cond_false] at ha; cases ha
      · simp only [natBle, hroom, decide_false, cond_false] at ha
        by_cases hold : off + len * i.size ≤ cs.length
        · simp only [hold, decide_true, cond_true] at ha
          have hel2 : elemsOf h i.size (.slice id off len cap full e) = some ((cs.drop off).take (len * i.size), len) := by simp [elemsOf, hg, natBle, hold]
          obtain ⟨-, hcl, hcc, hof⟩ := elemsOf_ok hel2 (hr.of_heap (w' := w.drew) rfl) hs0.drew C.P
          obtain ⟨olds, ho1, ho2⟩ := hof len (Nat.le_refl _)
          rw [List.take_of_length_le (by omega)] at ho1
          cases full with
          | true =>
            simp only [cond_true] at ha
            have := g3 rfl
            exact grow ha (by omega) rfl hr Ext.refl (fun id h => .inl h) hn hcc hcl ⟨olds, ho1, ho2⟩
          | false =>
            simp only [cond_false] at ha
            cases hgc : (gr && Nat.beq e' i.size)
            · rw [hgc, cond_false] at ha; cases ha
            · rw [hgc, cond_true] at ha
              simp only [natBeq, Bool.and_eq_true, decide_eq_true_eq] at hgc
              obtain ⟨rfl, rfl⟩ := hgc
              by_cases hin : len + n ≤ c
              · -- there was room: the same block, called anew
                unfold grownA at ha
                cases hbd : (Nat.ble (len + n) maxLenN && Nat.ble ((len + n) * i.bytes) roomN)
                · rw [hbd, cond_false] at ha; cases ha
                · rw [hbd, cond_true] at ha
                  cases ha
                  obtain ⟨hend1, -⟩ := hend rfl
                  obtain ⟨p, q⟩ := hr.rename him hg hn hnx (off := off) (by omega)
                  have him' : (fun j => if j = nid then some (⟨im.b, im.o + off, im.esz, im.n⟩ : Img) else if j = id then none else μ j) nid = some ⟨im.b, im.o + off, im.esz, im.n⟩ := by simp
                  obtain ⟨xs, T, lo, hi', b1, b2, b3, b4, b5, b6⟩ := p.arr nid _ (cs.drop off) i.size true him' (by simp)
                  have hesz : im.esz = i.size := b5 rfl
                  rw [hesz] at hend1
                  have hfit : im.o + off + (len + n) * i.size ≤ im.n := by
                    have := Nat.mul_le_mul_right i.size hin
                    omega
                  have hnl' : ys.length = n * i.size := by rw [← hys.1, hnl]
                  have hone : ∀ v ∈ ys, v.oneCell' = true := by
                    intro v hvm
                    obtain ⟨j, hj, rfl⟩ := List.getElem_of_mem hvm
                    have hj' : j < new.length := by rw [hys.1]; exact hj
                    exact oneCell_of (hys.2 j new[j] ys[j] (by simp [hj']) (by simp [hj])) (hnc _ (List.getElem_mem hj'))
                  simp only at b1 b2 b3 b4 b6
                  obtain ⟨w', k1, ke, k2, k3, zs, k4, k5, k6⟩ := run_stores (P := C.P) (b := im.b) (o := im.o + off + len * i.size) ys 0 w xs b1 (by rw [b2]; rw [Nat.add_mul] at hfit; omega) (by omega) hone
                  obtain ⟨p', q'⟩ := p.turn (o' := .arr (((cs.drop off).take (len * i.size)) ++ new) i.size true) (id := nid) him' k2 ke k3 (fun hxt => by
                    refine ⟨zs, T, lo, hi', k4, by rw [k5, b2], by simp only [List.length_append, hcl, hnl, ← Nat.add_mul]; exact hfit, b4, fun _ => hesz, fun j a hj => ?_⟩
                    by_cases hjo : j < len * i.size
                    · rw [List.getElem?_append_left (by omega), List.getElem?_take, if_pos hjo] at hj
                      obtain ⟨r1, x', r2, r3⟩ := b6 j a hj
                      refine ⟨r1, x', ?_, hxt.V r3⟩
                      show zs[im.o + off + j]? = some x'
                      rw [k6, if_neg (by omega)]
                      exact r2
                    · rw [List.getElem?_append_right (by omega), hcl] at hj
                      obtain ⟨x', r1, r2⟩ := hys.get hj
                      have hjn : j - len * i.size < new.length := (List.getElem?_eq_some_iff.1 hj).1
                      refine ⟨hnc a (List.mem_of_getElem? hj), x', ?_, hxt.V (q.V r2)⟩
                      show zs[im.o + off + j]? = some x'
                      have hyl := hys.1
                      rw [k6, if_pos (by omega), ← r1]
                      congr 1; omega)
                  refine ⟨.slice (some ad) (len + n) c, w', append_room (base := some ad) (len := len) (c := c) hu hux hd hi hlen hin hyf (w' := w') ?_, ⟨_, _, p'.congr fun j => ?_, q.trans q', fun j h => h, _, rfl, ?_⟩, rfl⟩
                  · show (storeCells (ad.add (len * i.size)) ys).run C.P w = _
                    rw [hadr, add_none]; exact k1
                  · simp only [Heap.get_put, Heap.get_del]
                    by_cases hj : j = nid <;> simp [hj]
                  · refine .slice _ _ _ _ _ _ _ _ _ (.inr rfl) (fun im' him'' => ?_) (fun h => by cases h) (Nat.le_refl _) hin
                    simp only [if_true, Option.some.injEq] at him''
                    subst him''
                    exact ⟨by simp [hadr], fun _ => ⟨by simp only; rw [hesz]; omega, hesz.symm⟩⟩
              · obtain ⟨p, q⟩ := hr.drop (id := id) (fun _ _ => trivial)
                exact grow ha (by omega) rfl (p.congr fun j => Heap.get_del _ _ _) q (fun id h => .inl h) hn hcc hcl ⟨olds, ho1, ho2⟩
        · simp only [hold, decide_false, cond_false] at ha; cases ha
    · cases ha
  · cases ha
end Go.Den
