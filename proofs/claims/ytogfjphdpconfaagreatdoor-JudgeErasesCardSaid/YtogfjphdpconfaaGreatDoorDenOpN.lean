/- Operations that make a new place: what each says, the model says. -/
import Derived.Test.YtogfjphdpconfaaGreatDoorDenMem
import Derived.IntWalk
namespace Go.Den
open Go
variable {C : Cfg} {K A : Nat → Prop} {μ : Mu} {w : World} {g : Nat → Option HObj} {nx : Nat}

theorem repl_len (z : List AVal) (n : Nat) : (repl z n).length = n * z.length := by
  induction n with
  | zero => simp [repl]
  | succ n ih => simp only [repl, List.length_append, ih, Nat.succ_mul]; omega
theorem repl_get (z : List AVal) : ∀ (n i : Nat), i < n * z.length → (repl z n)[i]? = z[i % z.length]? := by
  intro n
  induction n with
  | zero => intro i h; simp at h
  | succ n ih =>
    intro i h
    simp only [repl]
    by_cases hi : i < z.length
    · rw [List.getElem?_append_left hi, Nat.mod_eq_of_lt hi]
    · have h2 : i - z.length < n * z.length := by rw [Nat.succ_mul] at h; omega
      rw [List.getElem?_append_right (by omega), ih _ h2]
      congr 1
      rw [Nat.mod_eq_sub_mod (by omega : i ≥ z.length)]
theorem repl_cells {z : List AVal} (h : Cells z) (n : Nat) : Cells (repl z n) := by
  induction n with
  | zero => intro a ha; simp [repl] at ha
  | succ n ih => intro a ha; simp only [repl, List.mem_append] at ha; rcases ha with ha | ha; exact h a ha; exact ih a ha

theorem zeros_VL {bad : Nat → Prop} {zs : List AVal} {z : Array Value} (h : VL bad w μ A zs z.toList) (n : Nat) :
    VL bad w μ A (repl zs n) ((Array.range (n * z.size)).map fun i => z[i % z.size]!).toList := by
  have hl : zs.length = z.size := by rw [h.1]; simp
  refine ⟨by simp [repl_len, hl], fun i a x ha hx => ?_⟩
  have hi : i < n * zs.length := by rw [← repl_len]; exact (List.getElem?_eq_some_iff.1 ha).1
  rw [repl_get _ _ _ hi] at ha
  have hpos : 0 < zs.length := by rcases Nat.eq_zero_or_pos zs.length with h0 | h0; rw [h0] at hi; omega; exact h0
  have hm : i % zs.length < zs.length := Nat.mod_lt _ hpos
  have hx' : x = z[i % z.size]! := by
    rw [Array.getElem?_toList, Array.getElem?_map, Array.getElem?_range] at hx
    rw [if_pos (by rw [← hl]; exact hi)] at hx
    simpa using hx.symm
  refine h.2 (i % zs.length) a x ha ?_
  rw [hx', hl, Array.getElem?_toList]
  rw [hl] at hm
  rw [getElem!_pos z _ hm, Array.getElem?_eq_getElem hm]

/-- What an operation has come to: its value, the heap, the memory. -/
def Came (K A : Nat → Prop) (μ : Mu) (w : World) (nx : Nat) (new : Nat → Prop) (v : Option AVal) (g' : Nat → Option HObj) (nx' : Nat) (r : Next) (w' : World) : Prop :=
  ∃ A' μ', R K A' μ' g' nx' w' ∧ Ext K A μ w A' μ' w' ∧ (∀ id, A' id → A id ∨ new id) ∧
    match v with
    | some v => ∃ x, r = .value x ∧ V (Bad K μ') w' μ' A' v x
    | none => r = .skip

theorem newRow_run {P : Program} (T : TypeId) (cs : Array Value) (w : World) : (newRow T cs).run P w = .ok ⟨w.heap.size, 0, none⟩ (w.alloc (.cells cs T)) := by
  simp [newRow]

theorem V.fresh_ptr {bad : Nat → Prop} {nid : Nat} {im : Img} (h0 : im.o = 0) : V bad w (fun i => if i = nid then some im else μ i) (fun i => A i ∨ i = nid) (.ptr nid 0) (.pointer (some ⟨im.b, 0, none⟩)) :=
  .ptr _ _ _ _ (.inr rfl) fun im' him => by
    simp only [if_true, Option.some.injEq] at him
    subst him
    simp [h0]

theorem V.fresh_slice {bad : Nat → Prop} {nid : Nat} {im : Img} (h0 : im.o = 0) (len cap c : Nat) (full : Bool) (e : Nat) (hf : full = true → c = cap) (hf' : full = false → c * im.esz = im.n ∧ e = im.esz) (hl : len ≤ cap) (hc : cap ≤ c) :
    V bad w (fun i => if i = nid then some im else μ i) (fun i => A i ∨ i = nid) (.slice nid 0 len cap full e) (.slice (some ⟨im.b, 0, none⟩) len c) :=
  .slice _ _ _ _ _ _ _ _ _ (.inr rfl) (fun im' him => by
    simp only [if_true, Option.some.injEq] at him
    subst him
    exact ⟨by simp [h0], fun h => ⟨by rw [h0]; have := (hf' h).1; omega, (hf' h).2⟩⟩) hf hl hc

theorem boxA_ok {v : AVal} {mk : Nat → AVal} {ob : HObj} (h : boxA v = some (mk, ob)) : (∀ l, v ≠ .tuple l) ∧ mk = (fun id => .ptr id 0) ∧ ob = .arr (cellsOf v) 0 false := by
  cases v <;> simp only [boxA, Option.some.injEq, Prod.mk.injEq] at h <;> first | (cases h; done) | (obtain ⟨h1, h2⟩ := h; exact ⟨fun l e => (by cases e), h1.symm, h2.symm⟩)

theorem box_came {v : AVal} {x : Value} (T : TypeId) (hx : V (Bad K μ) w μ A v x) (ht : ∀ l, v ≠ .tuple l) (hr : R K A μ g nx w) {nid : Nat} (hn : ¬ A nid) (hnx : nid < nx) (hk : ¬ K w.heap.size) :
    Came K A μ w nx (· = nid) (some (.ptr nid 0)) (fun i => if i = nid then some (.arr (cellsOf v) 0 false) else g i) nx (.value (.pointer (some ⟨w.heap.size, 0, none⟩))) (w.alloc (.cells x.cells T)) := by
  obtain ⟨h1, h2⟩ := V.cells_inv hx ht
  obtain ⟨p, q⟩ := hr.alloc (w' := w.alloc (.cells x.cells T)) (xs := x.cells) (T := T) (cs := cellsOf v) (e := 0) (gr := false) (n := 0) hn hnx rfl ⟨rfl, rfl⟩ (by rw [h1.1]; simp)
    (fun i a hi => ⟨h2 a (List.mem_of_getElem? hi), let ⟨y, hy, hv⟩ := h1.get hi; ⟨y, by simpa using hy, hv⟩⟩) hk
  exact ⟨_, _, p, q, fun id h => h, _, rfl, V.fresh_ptr rfl⟩

theorem wrap_in {n : Int} (h0 : -9223372036854775808 ≤ n) (h1 : n ≤ 9223372036854775807) : IntKind.i64.wrap n = n := IntWalk.i64_in n ⟨h0, h1⟩

theorem opN_ok {o : Oper} {t : Tmps} {a : Act} {mk : Nat → AVal} {ob : HObj} {nid : Nat} (h : opN C o t = some (mk, ob)) (hg : GlobOk C (Bad K μ) w μ) (ht : TR (Bad K μ) w μ A t a.tmps)
    (hr : R K A μ g nx w) (hn : ¬ A nid) (hnx : nid < nx) (hk : ¬ K w.heap.size) :
    ∃ r w', (execOp a.eval o).run C.P w = .ok r w' ∧ Came K A μ w nx (· = nid) (some (mk nid)) (fun i => if i = nid then some ob else g i) nx r w' := by
  unfold opN at h
  unfold execOp
  split at h
  · rename_i e ho
    rw [ho]
    split at h
    · rename_i z hz
      obtain ⟨h1, rfl, rfl⟩ := boxA_ok h
      obtain ⟨i, zv, hi, hz', hv, -⟩ := zeroA_ok (bad := Bad K μ) (w := w) (μ := μ) (A := A) hz
      refine ⟨_, _, ?_, box_came e hv h1 hr hn hnx hk⟩
      simp [Instr.alloc, r_zero hi hz', newVar, newRow_run]
    · cases h
  · rename_i e x ho
    rw [ho]
    split at h
    · rename_i v hv
      obtain ⟨h1, rfl, rfl⟩ := boxA_ok h
      refine ⟨_, _, ?_, box_came e (ev_V hg ht hv) h1 hr hn hnx hk⟩
      simp [Instr.box, newVar, newRow_run]
    · cases h
  · rename_i ty len ps ho
    rw [ho]
    split at h
    · rename_i parts hp
      unfold buildSliceA at h
      split at h
      · rename_i elem hu
        split at h
        · rename_i n z hn' hz
          cases hc : (Nat.ble (len * n.size) 16777216 && Nat.beq (cellsOf z).length n.size && Nat.ble 1 n.size)
          · rw [hc, cond_false] at h; cases h
          · rw [hc, cond_true] at h
            simp only [natBle, natBeq, Bool.and_eq_true, decide_eq_true_eq] at hc
            obtain ⟨⟨hc1, hc2⟩, hc3⟩ := hc
            split at h
            · rename_i cs hcs
              cases h
              obtain ⟨i, zv, hi, hz', hv, hnt⟩ := zeroA_ok (bad := Bad K μ) (w := w) (μ := μ) (A := A) hz
              obtain ⟨v1, v2⟩ := V.cells_inv hv hnt
              have hzs : zv.cells.size = n.size := by rw [← hc2, v1.1]; simp
              obtain ⟨e1, e2⟩ := evParts_ok hg ht hp
              have hzz := zeros_VL v1 len
              obtain ⟨r', f1, f2, f3, f4⟩ := fillA_ok (bad := Bad K μ) (w := w) (μ := μ) (A := A) (place' := fun i => some (i * n.size, n.size)) (fun i r hr => hr) parts (ps.toList.map fun (i, x) => (i, a.eval x)) _ cs _ hcs e1 (fun i p q hp hq => e2 i p q hp hq) hzz (repl_cells v2 len)
              have hrl : r'.size = len * n.size := by
                have := f2.1
                rw [f4, repl_len, hc2] at this
                simpa using this.symm
              obtain ⟨p, q⟩ := hr.alloc (w' := w.alloc (.cells r' elem)) (xs := r') (T := elem) (cs := cs) (e := 0) (gr := false) (n := 0) hn hnx rfl ⟨rfl, rfl⟩ (by rw [f2.1]; simp)
                (fun i a hi => ⟨f3 a (List.mem_of_getElem? hi), let ⟨y, hy, hv⟩ := f2.get hi; ⟨y, by simpa using hy, hv⟩⟩) hk
              refine ⟨.value (.slice (some ⟨w.heap.size, 0, none⟩) len len), w.alloc (.cells r' elem), ?_, _, _, p, q, fun id h => h, _, rfl, V.fresh_slice rfl _ _ _ _ _ (fun _ => rfl) (fun h => by cases h) (Nat.le_refl _) (Nat.le_refl _)⟩
              have hle : ¬ len * n.size > 2 ^ 24 := by omega
              by_cases h0 : len * n.size = 0
              · have hz0 : (Array.range (len * zv.cells.size)).map (fun i => zv.cells[i % zv.cells.size]!) = #[] := by
                  rw [hzs, h0]; simp
                rw [hz0] at f1
                have hl0 : len = 0 := by rcases Nat.mul_eq_zero.1 h0 with h | h; exact h; omega
                subst hl0
                have hr0 : Array.map (fun (_ : Nat) => (default : Value)) (Array.range 0) = #[] := by
                  apply Array.eq_empty_of_size_eq_zero; simp
                simp [Instr.buildSlice, r_underlying hu, r_size hn']
                simp only [hr0]
                have f1' : Instr.fill (fun i => some (i * n.size, n.size)) #[] (List.map (fun x => (x.fst, a.eval x.snd)) ps.toList) = some r' := f1
                simp [f1', newRow_run]
              · rw [hzs] at f1
                have hsame : i = n := by have := hi.symm.trans hn'; simpa using this
                subst hsame
                have h0' : ¬ (len = 0 ∨ i.size = 0) := fun h => h0 (Nat.mul_eq_zero.2 h)
                simp only [Nat.reducePow] at hle
                simp [Instr.buildSlice, r_underlying hu, r_size hn', hle, h0', r_zero hi hz', hzs, f1, newRow_run]
                exact fun h => absurd h h0
            · cases h
        · cases h
      · cases h
    · cases h
  · rename_i ty ho
    rw [ho]
    cases h
    obtain ⟨p, q⟩ := hr.allocMap (w' := w.alloc (.map #[] 0)) (clock := 0) hn hnx rfl ⟨rfl, rfl⟩ hk
    refine ⟨.value (.map (some w.heap.size)), w.alloc (.map #[] 0), by simp [Instr.makeMap], _, _, p, q, fun id h => h, _, rfl, .map _ _ _ (.inr rfl) fun im him => ?_⟩
    simp only [if_true, Option.some.injEq] at him
    subst him; rfl
  · rename_i ty l c ho
    rw [ho]
    split at h
    · rename_i p q hp hq
      unfold makeSliceA at h
      split at h
      · rename_i elem k n k' m hu
        split at h
        · rename_i i z hi hz
          cases hc : (decide (0 ≤ n) && decide (n ≤ m) && decide (m ≤ 9223372036854775807) && Nat.ble (i.bytes * m.toNat) roomN && Nat.beq (cellsOf z).length i.size && Nat.ble 1 i.size)
          · rw [hc, cond_false] at h; cases h
          · rw [hc, cond_true] at h
            simp only [natBle, natBeq, Bool.and_eq_true, decide_eq_true_eq, roomN] at hc
            obtain ⟨⟨⟨⟨⟨hc1, hc2⟩, hc3⟩, hc4⟩, hc5⟩, hc6⟩ := hc
            cases h
            obtain ⟨i', zv, hi', hz', hv, hnt⟩ := zeroA_ok (bad := Bad K μ) (w := w) (μ := μ) (A := A) hz
            have hsame : i = i' := by have := hi.symm.trans hi'; simpa using this
            subst hsame
            have hx := V.int_inv (ev_V hg ht hp)
            have hy := V.int_inv (ev_V hg ht hq)
            obtain ⟨v1, v2⟩ := V.cells_inv hv hnt
            have hzs : zv.cells.size = i.size := by rw [← hc5, v1.1]; simp
            have hzz := zeros_VL v1 m.toNat
            rw [hzs] at hzz
            obtain ⟨p, q⟩ := hr.alloc (w' := w.alloc (.cells ((Array.range (m.toNat * i.size)).map fun j => zv.cells[j % i.size]!) elem)) (T := elem) (cs := repl (cellsOf z) m.toNat) (e := 0) (gr := false) (n := 0) hn hnx rfl ⟨rfl, rfl⟩ (by rw [hzz.1]; simp)
              (fun j a hj => ⟨repl_cells v2 _ a (List.mem_of_getElem? hj), let ⟨y, hy, hv⟩ := hzz.get hj; ⟨y, by rw [← Array.getElem?_toList]; exact hy, hv⟩⟩) hk
            refine ⟨.value (.slice (some ⟨w.heap.size, 0, none⟩) n.toNat m.toNat), _, ?_, _, _, p, q, fun id h => h, _, rfl, V.fresh_slice rfl _ _ _ _ _ (fun _ => rfl) (fun h => by cases h) (by omega) (Nat.le_refl _)⟩
            have hwn : IntKind.i64.wrap n = n := wrap_in (by omega) (by omega)
            have hwm : IntKind.i64.wrap m = m := wrap_in (by omega) (by omega)
            have hb : ¬ 281474976710656 < (i.bytes : Int) * m := by
              have h1 : ((i.bytes * m.toNat : Nat) : Int) ≤ ((140737488355328 : Nat) : Int) := Int.ofNat_le.2 hc4
              rw [Int.natCast_mul, Int.toNat_of_nonneg (by omega)] at h1
              omega
            have hm0 : ¬ m < 0 := by omega
            have hn0 : ¬ n < 0 := by omega
            have hnm : ¬ n > m := by omega
            by_cases h0 : m.toNat * i.size = 0
            · have hz0 : (Array.range (m.toNat * i.size)).map (fun j => zv.cells[j % i.size]!) = #[] := by rw [h0]; simp
              rw [hz0]
              have h0' : m.toNat = 0 ∨ i.size = 0 := Nat.mul_eq_zero.1 h0
              simp [Instr.makeSlice, r_underlying hu, hx, hy, asInt, asIntOf, r_info hi, hwn, hwm, hb, hm0, hn0, hnm, r_size hi, newRow_run]
              have hr0 : Array.map (fun (_ : Nat) => (default : Value)) (Array.range 0) = #[] := by
                apply Array.eq_empty_of_size_eq_zero; simp
              rw [if_pos h0, h0, hr0]
            · have h0' : ¬ (m.toNat = 0 ∨ i.size = 0) := fun h => h0 (Nat.mul_eq_zero.2 h)
              simp [Instr.makeSlice, r_underlying hu, hx, hy, asInt, asIntOf, r_info hi, hwn, hwm, hb, hm0, hn0, hnm, r_size hi, r_zero hi hz', hzs, newRow_run]
              exact fun h => absurd h h0
        · cases h
      · cases h
    · cases h
  · cases h
end Go.Den
