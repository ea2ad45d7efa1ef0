/- Operations that read and write memory: what each says, the model says. -/
import Derived.Test.YtogfjphdpconfaaGreatDoorDenOpN
import Derived.Laws.BytesString
namespace Go.Den
open Go
variable {C : Cfg} {K A : Nat → Prop} {μ : Mu} {w : World} {g : Nat → Option HObj} {nx : Nat}

theorem R.stores {id off e : Nat} {im : Img} {cs vs : List AVal} {gr : Bool} {xs : List Value} (hr : R K A μ g nx w) (him : μ id = some im) (hg : g id = some (.arr cs e gr)) (hle : off + vs.length ≤ cs.length)
    (hv : VL (Bad K μ) w μ A vs xs) (hc : Cells vs) (P : Program) :
    ∃ w', (storeCells ⟨im.b, im.o + off, none⟩ xs).run P w = .ok () w' ∧ R K A μ (fun i => if i = id then some (.arr (setRange cs off vs) e gr) else g i) nx w' ∧ Ext K A μ w A μ w' := by
  obtain ⟨ys, T, lo, hi, h1, h2, h3, h4, h5, h6⟩ := hr.arr id im cs e gr him hg
  have hone : ∀ v ∈ xs, v.oneCell' = true := by
    intro v hvm
    obtain ⟨i, hi, rfl⟩ := List.getElem_of_mem hvm
    have hi' : i < vs.length := by rw [hv.1]; exact hi
    exact oneCell_of (hv.2 i vs[i] xs[i] (by simp [hi']) (by simp [hi])) (hc _ (List.getElem_mem hi'))
  have hlen := hv.1
  obtain ⟨w', k1, ke, k2, k3, zs, k4, k5, k6⟩ := run_stores (P := P) (b := im.b) (o := im.o + off) xs 0 w ys h1 (by omega) (by omega) hone
  obtain ⟨p, q⟩ := hr.turn (o' := .arr (setRange cs off vs) e gr) him k2 ke k3 (fun hx => by
    refine ⟨zs, T, lo, hi, k4, by rw [k5, h2], by rw [setRange_len hle]; exact h3, h4, h5, fun i a hi => ?_⟩
    rw [setRange_get hle] at hi
    split at hi
    · rename_i hin
      obtain ⟨x, hx1, hx2⟩ := hv.get hi
      refine ⟨hc a (List.mem_of_getElem? hi), x, ?_, hx.V hx2⟩
      rw [k6, if_pos (by omega), ← hx1]
      congr 1; omega
    · rename_i hin
      obtain ⟨p, x, q, r⟩ := h6 i a hi
      refine ⟨p, x, ?_, hx.V r⟩
      have hil : i < cs.length := (List.getElem?_eq_some_iff.1 hi).1
      rw [k6, if_neg (by omega), q])
  exact ⟨w', k1, p, q⟩

/-- The cells that a slice's elements are. -/
theorem elemsOf_ok {h : Heap} {size n : Nat} {a : AVal} {cs : List AVal} {x : Value} (he : elemsOf h size a = some (cs, n)) (hr : R K A μ h.get nx w) (hx : V (Bad K μ) w μ A a x) (P : Program) :
    (Builtin.lenOf x).run P w = .ok n w ∧ cs.length = n * size ∧ Cells cs ∧ ∀ m, m ≤ n → ∃ ys : List Value, VL (Bad K μ) w μ A (cs.take (m * size)) ys ∧ (Builtin.firstCells size m x).run P w = .ok ys.toArray w := by
  unfold elemsOf at he
  split at he
  · cases he; cases hx
    exact ⟨by simp [Builtin.lenOf], by simp, fun a ha => by simp at ha, fun m hm => ⟨[], by simp [VL.nil], by simp [Builtin.firstCells]⟩⟩
  · rename_i id off len c full e
    split at he
    · rename_i bs e' gr hg
      by_cases hle : off + len * size ≤ bs.length
      · simp only [natBle, hle, decide_true, cond_true, Option.some.injEq, Prod.mk.injEq] at he
        obtain ⟨rfl, rfl⟩ := he
        cases hx with | slice _ _ _ _ _ _ _ ad c' g1 g2 g3 g4 g5 =>
        have hs : (μ id).isSome = true := by rw [hr.dom, hg]; rfl
        obtain ⟨im, him⟩ := Option.isSome_iff_exists.1 hs
        obtain ⟨xs, T, lo, hi, h1, h2, h3, h4, h5, h6⟩ := hr.arr id im bs e' gr him hg
        have hlen : ((bs.drop off).take (len * size)).length = len * size := by simp; omega
        refine ⟨by simp [Builtin.lenOf], hlen, fun a ha => ?_, fun m hm => ?_⟩
        · obtain ⟨i, hi, rfl⟩ := List.getElem_of_mem (List.mem_of_mem_drop (List.mem_of_mem_take ha))
          exact (h6 i _ (List.getElem?_eq_getElem hi)).1
        · have hms : m * size ≤ len * size := Nat.mul_le_mul_right _ hm
          let ys := (xs.toList.drop (im.o + off)).take (m * size)
          have hyl : ys.length = m * size := by simp [ys]; omega
          have hyc : ∀ (j : Nat) (v : Value), ys[j]? = some v → xs[im.o + (off + j)]? = some v := by
            intro j v hj
            simp only [ys] at hj
            rw [List.getElem?_take] at hj
            split at hj
            · rw [List.getElem?_drop] at hj
              rw [← hj, Array.getElem?_toList]; congr 1; omega
            · cases hj
          refine ⟨ys, ⟨by rw [hyl]; simp; omega, fun i a y ha hy => ?_⟩, ?_⟩
          · rw [List.getElem?_take] at ha
            split at ha
            · rw [List.getElem?_take] at ha
              split at ha
              · rw [List.getElem?_drop] at ha
                obtain ⟨p, x, q, r⟩ := h6 _ _ ha
                rw [hyc i y hy] at q
                cases q; exact r
              · cases ha
            · cases ha
          · rw [(g2 im him).1]
            exact run_firstCells_some (P := P) (w := w) size m ⟨im.b, im.o + off, none⟩ len c' ys hyl (fun j v hj => by rw [add_none, cell_of_heap h1, ← hyc j v hj]; congr 1; omega)
      · simp [natBle, hle] at he
    · cases he
  · rename_i bs len ex
    by_cases hl : bs.length = len * size
    · simp only [natBeq, hl, decide_true, cond_true, Option.some.injEq, Prod.mk.injEq] at he
      obtain ⟨rfl, rfl⟩ := he
      cases hx with | list _ _ _ _ ad c' o f g1 g2 g3 g4 g5 =>
      refine ⟨by simp [Builtin.lenOf], hl, fun a ha => ?_, fun m hm => ?_⟩
      · obtain ⟨i, hi, rfl⟩ := List.getElem_of_mem ha
        exact (g2 i _ (List.getElem?_eq_getElem hi)).1
      · have hms : m * size ≤ len * size := Nat.mul_le_mul_right _ hm
        let ys := (List.range (m * size)).map f
        have hyl : ys.length = m * size := by simp [ys]
        have hyf : ∀ (j : Nat) (v : Value), ys[j]? = some v → v = f j ∧ j < m * size := by
          intro j v hj
          have hlt : j < m * size := by rw [← hyl]; exact (List.getElem?_eq_some_iff.1 hj).1
          simp only [ys, List.getElem?_map] at hj
          rw [List.getElem?_eq_getElem (by simpa using hlt)] at hj
          exact ⟨by simpa using hj.symm, hlt⟩
        refine ⟨ys, ⟨by rw [hyl]; simp; omega, fun i a y ha hy => ?_⟩, ?_⟩
        · obtain ⟨rfl, hlt⟩ := hyf i y hy
          rw [List.getElem?_take, if_pos hlt] at ha
          exact (g3 i a ha).weaken
        · refine run_firstCells_some (P := P) (w := w) size m ad len c' ys hyl (fun j v hj => ?_)
          obtain ⟨rfl, hlt⟩ := hyf j v hj
          have hjl : j < bs.length := by omega
          have hne : bs ≠ [] := by rintro rfl; simp at hjl
          rw [(g1 hne).1, add_none]
          exact (g2 j _ (List.getElem?_eq_getElem hjl)).2
    · simp [natBeq, hl] at he
  · rename_i s
    by_cases hs : size = 1
    · subst hs
      simp only [natBeq, decide_true, cond_true, Option.some.injEq, Prod.mk.injEq] at he
      obtain ⟨rfl, rfl⟩ := he
      obtain ⟨b, rfl, rfl⟩ := V.str_inv hx
      refine ⟨by simp [Builtin.lenOf, size_data], by simp, fun a ha => ?_, fun m hm => ?_⟩
      · simp only [List.mem_map] at ha
        obtain ⟨c, -, rfl⟩ := ha; rfl
      · refine ⟨(b.data.toList.take m).map fun b => .int .u8 b.toNat, ⟨by simp, fun i a y ha hy => ?_⟩, ?_⟩
        · rw [Nat.mul_one, List.getElem?_take] at ha
          rw [List.getElem?_map, List.getElem?_take] at hy
          split at ha
          · rename_i hlt
            rw [if_pos hlt] at hy
            rw [List.getElem?_map] at ha
            cases hb : b.data.toList[i]? with
            | none => rw [hb] at ha; cases ha
            | some c => rw [hb] at ha hy; cases ha; cases hy; exact .int _ _ _
          · cases ha
        · simp only [Builtin.firstCells, Sem.run_pure]
          congr 1
          apply Array.ext'
          simp [ByteArray.data_extract, List.extract_eq_take_drop]
    · simp [natBeq, hs] at he
  · cases he
theorem Came.same {v : Option AVal} {r : Next} {new : Nat → Prop} (hr : R K A μ g nx w) (h : match v with | some v => ∃ x, r = .value x ∧ V (Bad K μ) w μ A v x | none => r = .skip) : Came K A μ w nx new v g nx r w :=
  ⟨A, μ, hr, Ext.refl, fun id h => .inl h, h⟩

theorem img_of {h : Heap} (hr : R K A μ h.get nx w) {id : Nat} {o : HObj} (hg : h.get id = some o) : ∃ im, μ id = some im := by
  have hs : (μ id).isSome = true := by rw [hr.dom, hg]; rfl
  exact Option.isSome_iff_exists.1 hs

theorem storeA_ok {t : TypeId} {h h' : Heap} {a v : AVal} {x y : Value} (hs : storeA C t h a v = some h') (hr : R K A μ h.get nx w) (hx : V (Bad K μ) w μ A a x) (hy : V (Bad K μ) w μ A v y) :
    ∃ w', (Instr.storeAt t x y).run C.P w = .ok () w' ∧ R K A μ h'.get nx w' ∧ Ext K A μ w A μ w' ∧ h'.next = h.next := by
  unfold storeA at hs
  split at hs
  · cases hs
  · rename_i v0 x1 a0 v1 i id off hi hnt
    split at hs
    · rename_i cs e gr hg
      cases hc : (Nat.beq (cellsOf v0).length i.size && Nat.ble (off + (cellsOf v0).length) cs.length)
      · simp only [hc, cond_false] at hs; cases hs
      · simp only [hc, cond_true, Option.some.injEq] at hs
        subst hs
        simp only [natBeq, natBle, Bool.and_eq_true, decide_eq_true_eq] at hc
        obtain ⟨im, him⟩ := img_of hr hg
        obtain ⟨h1, h2⟩ := V.cells_inv hy (fun l e => hnt l e)
        cases hx with | ptr _ _ _ ad g1 g2 =>
        obtain ⟨w', k1, k2, k3⟩ := hr.stores him hg hc.2 h1 h2 C.P
        have hsz : y.cells.size = i.size := by rw [← hc.1, h1.1]; simp
        refine ⟨w', ?_, k2.congr fun j => Heap.get_put _ _ _ _, k3, rfl⟩
        rw [g2 im him]
        simp [Instr.storeAt, Instr.sureAddr, storeVar, r_size hi, hsz, k1]
    · cases hs
  · cases hs

theorem bytesOf_spec : ∀ {cs : List AVal} {s : List UInt8}, bytesOf cs = some s → ∃ ns : List Int, cs = ns.map (.int .u8) ∧ s = ns.map fun n => UInt8.ofNat n.toNat := by
  intro cs
  induction cs with
  | nil => intro s h; cases h; exact ⟨[], rfl, rfl⟩
  | cons c cs ih =>
    intro s h
    cases c with
    | int k n =>
      cases k <;> simp only [bytesOf] at h <;> try (cases h; done)
      split at h
      · rename_i r hr
        cases h
        obtain ⟨ns, rfl, rfl⟩ := ih hr
        exact ⟨n :: ns, rfl, rfl⟩
      · cases h
    | _ => simp [bytesOf] at h

theorem VL.ints {bad : Nat → Prop} {k : IntKind} : ∀ {ns : List Int} {ys : List Value}, VL bad w μ A (ns.map (.int k)) ys → ys = ns.map (.int k) := by
  intro ns
  induction ns with
  | nil => intro ys h; exact VL.nil_inv h
  | cons n ns ih =>
    intro ys h
    obtain ⟨y, ys, rfl, hy, hys⟩ := VL.cons_inv h
    rw [V.int_inv hy, ih hys]; rfl

theorem foldl_push : ∀ (ns : List Int) (acc : ByteArray), ns.foldl (fun r n => r.push (UInt8.ofNat n.toNat)) acc = ⟨⟨acc.data.toList ++ ns.map fun n => UInt8.ofNat n.toNat⟩⟩ := by
  intro ns
  induction ns with
  | nil => intro acc; simp
  | cons n ns ih =>
    intro acc
    simp only [List.foldl_cons, ih, List.map_cons]
    congr 2
    simp [ByteArray.push]

theorem freeze_env {a : Addr} {n : Nat} : (w.freeze a n).os = w.os ∧ (w.freeze a n).output = w.output := by unfold World.freeze; split <;> exact ⟨rfl, rfl⟩

theorem freeze_run_ok {b n : Nat} {xs : Array Value} {T : TypeId} {lo hi : Nat} (h : w.heap[b]? = some (.cells xs T (lo, hi))) (hf : lo = hi ∨ n ≤ lo) :
    ∃ lo' hi', (lo' = hi' ∨ n ≤ lo') ∧ (w.freeze ⟨b, n, none⟩ 1).heap[b]? = some (.cells xs T (lo', hi')) ∧ (∀ k, k ≠ b → (w.freeze ⟨b, n, none⟩ 1).heap[k]? = w.heap[k]?) ∧ (w.freeze ⟨b, n, none⟩ 1).heap.size = w.heap.size := by
  have e : (w.freeze ⟨b, n, none⟩ 1).heap = w.heap.modify b fun
      | .cells c elem (lo, hi) => .cells c elem (if lo == hi then (n, n + 1) else (min lo n, max hi (n + 1)))
      | o => o := by unfold World.freeze; rw [if_neg (by decide)]; rfl
  refine ⟨(if lo == hi then (n, n + 1) else (min lo n, max hi (n + 1))).1, (if lo == hi then (n, n + 1) else (min lo n, max hi (n + 1))).2, ?_, ?_, fun k hk => ?_, ?_⟩
  · by_cases hl : lo = hi
    · simp [hl]
    · have : n ≤ lo := by rcases hf with h | h; exact (hl h).elim; exact h
      simp [hl]; omega
  · rw [e, Array.getElem?_modify]; simp [h]
  · rw [e, Array.getElem?_modify]; simp [Ne.symm hk]
  · rw [e]; simp

theorem convE_ok {s d : TypeId} {h : Heap} {nid : Nat} {a : AVal} {x : Value} {v : Option AVal} {h' : Heap} (hc : convE C s d h nid a = some (v, h')) (hr : R K A μ h.get nx w) (hx : V (Bad K μ) w μ A a x)
    (hn : ¬ A nid) (hnx : nid < nx) (hk : ∀ b, w.heap.size ≤ b → ¬ K b) :
    ∃ z w', (convert s d x).run C.P w = .ok z w' ∧ Came K A μ w nx (· = nid) v h'.get nx (.value z) w' ∧ h'.next = h.next := by
  unfold convE at hc
  split at hc
  · rename_i e0 e id off len cap full esz hs hd
    split at hc
    · rename_i bs e' gr hb he hg
      cases hc
      rw [natBeq, decide_eq_true_eq] at hb
      subst hb
      obtain ⟨im, him⟩ := img_of hr hg
      obtain ⟨xs, T, lo, hi, h1, h2, h3, h4, h5, h6⟩ := hr.arr id im bs e' gr him hg
      have hx0 := hx
      cases hx with | slice _ _ _ _ _ _ _ ad c' g1 g2 g3 g4 g5 =>
      obtain ⟨lo', hi', f1, f2, f3, f4⟩ := freeze_run_ok (n := xs.size) h1 (by omega)
      obtain ⟨p, q⟩ := hr.turn (o' := .arr bs e' gr) him f4 freeze_env f3 (fun hxt => ⟨xs, T, lo', hi', f2, h2, h3, by omega, h5, fun i a hi => let ⟨p, x, q, r⟩ := h6 i a hi; ⟨p, x, q, hxt.V r⟩⟩)
      refine ⟨_, _, ?_, ⟨A, μ, p.congr fun j => ?_, q, fun id h => .inl h, _, rfl, q.V hx0⟩, rfl⟩
      · have hsh : w.shape? im.b = some (T, xs.size) := by simp [World.shape?, h1]
        have hb : ad.block = im.b := by rw [(g2 im him).1]
        simp [convert, r_underlying hd, he, r_underlying he, markStringish, hb, hsh]
      · by_cases hj : j = id
        · subst hj; simp [hg]
        · simp [hj]
    · cases hc
  · rename_i e hs hd
    split at hc
    · rename_i he
      split at hc
      · cases hc
      · rename_i hns
        split at hc
        · rename_i cs n hel
          split at hc
          · rename_i str hstr
            cases hc
            obtain ⟨k1, k2, k3, k4⟩ := elemsOf_ok hel hr hx C.P
            obtain ⟨ys, k5, k6⟩ := k4 n (Nat.le_refl _)
            rw [Nat.mul_one] at k2 k5
            rw [List.take_of_length_le (by omega)] at k5
            obtain ⟨ns, rfl, rfl⟩ := bytesOf_spec hstr
            obtain rfl := k5.ints
            refine ⟨.string ⟨⟨ns.map fun n => UInt8.ofNat n.toNat⟩⟩, w, ?_, Came.same hr ⟨_, rfl, V.mk_str _⟩, rfl⟩
            cases x <;> simp [Builtin.lenOf] at k1
            case slice ad l c =>
              subst k1
              rw [run_convert_bytes_string w s d e ad l c hs he hd]
              cases ad with
              | none =>
                simp [Builtin.firstCells] at k6
                subst k6
                simp [Conv.bytesToString]; rfl
              | some ad =>
                simp only [Builtin.firstCells, Nat.mul_one] at k6
                rw [run_bytesToString w ad l c ns k6, foldl_push]
                rfl
            case string => cases hx; exact (hns _ rfl).elim
          · cases hc
        · cases hc
    · cases hc
  · rename_i e str hs hd
    split at hc
    · rename_i he
      cases hc
      obtain ⟨b, rfl, rfl⟩ := V.str_inv hx
      have hcut : ∃ cap, (choose (.appendCap b.size 0 e)).run C.P w = .ok cap w.drew ∧ b.size ≤ cap := by
        exact ⟨(Question.appendCap b.size 0 e).cut (w.tape w.drawn (.appendCap b.size 0 e)), by simp [Question.forced], by simp [Question.cut]⟩
      obtain ⟨cap, hcap, hle⟩ := hcut
      let xs : Array Value := b.data.map (fun b => Value.int .u8 b.toNat) ++ Array.replicate (cap - b.size) (.int .u8 0)
      have hxs : xs.size = cap := by
        have : b.data.size = b.size := rfl
        simp [xs, this]; omega
      obtain ⟨p, q⟩ := (hr.of_heap (w' := w.drew) rfl).alloc (w' := w.drew.alloc (.cells xs e)) (xs := xs) (T := e) (cs := b.data.toList.map fun b => .int .u8 b.toNat) (e := 1) (gr := true) (n := 0) hn hnx rfl ⟨rfl, rfl⟩
        (by have : b.data.size = b.size := rfl
            simp [hxs, this, hle]) (fun i a hi => by
          rw [List.getElem?_map, Option.map_eq_some_iff] at hi
          obtain ⟨c, hc, rfl⟩ := hi
          refine ⟨rfl, .int .u8 c.toNat, ?_, .int _ _ _⟩
          have hil : i < b.data.size := by simpa using (List.getElem?_eq_some_iff.1 hc).1
          simp only [xs]
          rw [Array.getElem?_append_left (by simpa using hil), Array.getElem?_map, ← Array.getElem?_toList, hc]
          rfl) (hk _ (Nat.le_refl _))
      have hhp : (w.drew.alloc (.cells xs e)).heap[w.heap.size]? = some (.cells xs e (0, 0)) := by
        show (w.heap.push (.cells xs e))[w.heap.size]? = _
        simp
      obtain ⟨lo', hi', f1, f2, f3, f4⟩ := freeze_run_ok (n := xs.size) hhp (.inl rfl)
      have him : (fun i => if i = nid then some (⟨w.drew.heap.size, 0, 1, xs.size⟩ : Img) else μ i) nid = some ⟨w.drew.heap.size, 0, 1, xs.size⟩ := by simp
      obtain ⟨ys, T, lo, hi, h1, h2, h3, h4, h5, h6⟩ := p.arr nid _ (b.data.toList.map fun b => .int .u8 b.toNat) 1 true him (by simp)
      obtain ⟨p', q'⟩ := p.turn (o' := .arr (b.data.toList.map fun b => .int .u8 b.toNat) 1 true) (id := nid) him f4 freeze_env f3 (fun hxt => by
        have hh : ys = xs ∧ T = e := by
          have : (w.drew.alloc (.cells xs e)).heap[w.heap.size]? = some (.cells ys T (lo, hi)) := h1
          rw [hhp] at this
          simp only [Option.some.injEq, Obj.cells.injEq] at this
          exact ⟨this.1.symm, this.2.1.symm⟩
        obtain ⟨rfl, rfl⟩ := hh
        exact ⟨xs, _, lo', hi', f2, h2, h3, f1, h5, fun i a hi => let ⟨p, x, q, r⟩ := h6 i a hi; ⟨p, x, q, hxt.V r⟩⟩)
      refine ⟨.slice (some ⟨w.heap.size, 0, none⟩) b.size cap, _, ?_, ⟨_, _, p'.congr fun j => ?_, (Ext.of_heap (w := w) (w' := w.drew) rfl ⟨rfl, rfl⟩).trans (q.trans q'), fun id h => h, _, rfl, ?_⟩, rfl⟩
      · have hsh : (w.drew.alloc (.cells xs e)).shape? w.heap.size = some (e, xs.size) := by simp only [World.shape?, hhp]
        simp only [convert, Sem.run_bind, r_underlying hs, r_underlying hd, Result.andThen_ok, r_underlying he, Conv.stringToBytes, hcap, newRow_run, markStringish, run_shape]
        rw [show (b.data.map fun b => Value.int .u8 ↑b.toNat) ++ Array.replicate (cap - b.size) (.int .u8 0) = xs from rfl]
        rw [show w.drew.heap.size = w.heap.size from rfl, hsh]
        simp
      · by_cases hj : j = nid
        · simp [Heap.get_put, hj]
        · simp [Heap.get_put, hj]
      · rw [size_data]
        refine .slice _ _ _ _ _ _ _ _ _ (.inr rfl) (fun im him' => ?_) (fun h => by cases h) (Nat.le_refl _) hle
        simp only [if_true, Option.some.injEq] at him'
        subst him'
        exact ⟨by simp, fun _ => ⟨by simp [hxs], rfl⟩⟩
    · cases hc
  · cases hc
end Go.Den
