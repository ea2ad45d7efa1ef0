/- Arguments that are read, opened as the interpreter's values: numbers, truth values, strings, slices, structs and arrays of these. -/
import Derived.Test.YtogfjphdpconfaaGreatDoorDenRel
import Derived.ChangeArms
import Derived.OpenShut
namespace Go.Den
open Go

/-- What cells of a type may be. -/
def HasTy (P : Program) : Nat → TypeId → List AVal → Prop
  | 0, _, _ => False
  | n + 1, t, cs => match P.underlying t with
    | some .bool => ∃ b, cs = [.bool b]
    | some (.int k) => ∃ i, cs = [.int k i] ∧ (Lit.int k i).wf = true
    | some .string => ∃ s, cs = [.str s] ∧ s.length ≤ maxLen
    | some (.slice e) => cs = [.nilslice] ∨ ∃ els len ex, cs = [.list els len ex] ∧ len ≤ maxLen ∧ els.length = len * P.cellsOf e ∧ ∀ i, i < len → HasTy P n e ((els.drop (i * P.cellsOf e)).take (P.cellsOf e))
    | some (.struct fs) => cs.length = P.cellsOf t ∧ ∀ f ∈ fs.toList, HasTy P n f.type ((cs.drop f.offset).take (P.cellsOf f.type))
    | some (.array m e) => cs.length = P.cellsOf t ∧ ∀ i, i < m → HasTy P n e ((cs.drop (i * P.cellsOf e)).take (P.cellsOf e))
    | _ => False

/-- Fields that lie one behind the other, from a place to an end. -/
def tiles (P : Program) : Nat → List Field → Nat → Bool
  | off, [], tot => Nat.beq off tot
  | off, f :: fs, tot => Nat.beq f.offset off && tiles P (off + P.cellsOf f.type) fs tot

def plainTy (P : Program) : Nat → TypeId → Bool
  | 0, _ => false
  | n + 1, t => match P.underlying t with
    | some .bool | some (.int _) | some .string => true
    | some (.slice e) => plainTy P n e
    | some (.struct fs) => tiles P 0 fs.toList (P.cellsOf t) && fs.toList.all fun f => plainTy P n f.type
    | some (.array m e) => Nat.beq (P.cellsOf t) (m * P.cellsOf e) && plainTy P n e
    | _ => false

theorem tiles_le {P : Program} : ∀ (fs : List Field) (off tot : Nat), tiles P off fs tot = true → off ≤ tot ∧ ∀ f ∈ fs, off ≤ f.offset ∧ f.offset + P.cellsOf f.type ≤ tot := by
  intro fs
  induction fs with
  | nil => intro off tot h; simp only [tiles, natBeq, decide_eq_true_eq] at h; subst h; simp
  | cons f fs ih =>
    intro off tot h
    simp only [tiles, natBeq, Bool.and_eq_true, decide_eq_true_eq] at h
    obtain ⟨h1, h2⟩ := h
    obtain ⟨h3, h4⟩ := ih _ _ h2
    refine ⟨by omega, fun g hg => ?_⟩
    rcases List.mem_cons.1 hg with rfl | hg
    · omega
    · have := h4 g hg; omega

/-- A row of parts of one size: the parts by their number. -/
def rowOf (sz : Nat) (g : Nat → List AVal) (n : Nat) : List AVal := (List.range (n * sz)).map fun i => ((g (i / sz))[i % sz]?).getD .niliface
theorem rowOf_length {sz n : Nat} {g : Nat → List AVal} : (rowOf sz g n).length = n * sz := by simp [rowOf]
theorem rowOf_get {sz n : Nat} {g : Nat → List AVal} (i : Nat) (hi : i < n * sz) : (rowOf sz g n)[i]? = some (((g (i / sz))[i % sz]?).getD .niliface) := by
  simp [rowOf, List.getElem?_map, List.getElem?_range hi]
theorem rowOf_part {sz n : Nat} {g : Nat → List AVal} (hg : ∀ j, j < n → (g j).length = sz) (j : Nat) (hj : j < n) : ((rowOf sz g n).drop (j * sz)).take sz = g j := by
  have hle : j * sz + sz ≤ n * sz := by have := Nat.mul_le_mul_right sz (show j + 1 ≤ n by omega); rw [Nat.add_mul] at this; omega
  apply List.ext_getElem?
  intro r
  by_cases hr : r < sz
  · have h1 : (j * sz + r) / sz = j := by rw [Nat.mul_comm, Nat.mul_add_div (by omega), Nat.div_eq_of_lt hr]; rfl
    have h2 : (j * sz + r) % sz = r := by rw [Nat.mul_comm, Nat.mul_add_mod, Nat.mod_eq_of_lt hr]
    have h3 : r < (g j).length := by rw [hg j hj]; exact hr
    rw [List.getElem?_take, if_pos hr, List.getElem?_drop, rowOf_get _ (by omega), h1, h2, List.getElem?_eq_getElem h3]
    rfl
  · rw [List.getElem?_take, if_neg hr, List.getElem?_eq_none (by rw [hg j hj]; omega)]

section
variable {H : Type} {enc : TypeId × Value → H} {P : Program} {w : World} {base : Nat} {spare : Nat → Bool} {held : Bool} {A : Nat → Prop} {μ : Mu} {bad : Nat → Prop}

theorem addr_eta {a : Addr} (h : a.spot = none) : a = ⟨a.block, a.off, none⟩ := by
  cases a with | mk x y z => simp only at h; rw [h]
/-- Cells that are the model's. -/
structure Cs (P : Program) (bad : Nat → Prop) (w : World) (μ : Mu) (A : Nat → Prop) (n : Nat) (t : TypeId) (as : List AVal) (cs : List Value) : Prop where
  ty : HasTy P n t as
  len : as.length = cs.length
  cell : ∀ a ∈ as, isCell a = true
  v : ∀ (i : Nat) (a : AVal) (x : Value), as[i]? = some a → cs[i]? = some x → V bad w μ A a x

theorem Cs.one {n : Nat} {t : TypeId} {a : AVal} {x : Value} (ht : HasTy P n t [a]) (hc : isCell a = true) (hv : V bad w μ A a x) : Cs P bad w μ A n t [a] [x] := by
  refine ⟨ht, rfl, fun b hb => by simp at hb; subst hb; exact hc, fun i b y hb hy => ?_⟩
  cases i with
  | zero => simp at hb hy; subst hb; subst hy; exact hv
  | succ i => simp at hb

theorem tile_build {n tot : Nat} {cs : List Value} (hl : cs.length = tot) : ∀ (fs : List Field) (off : Nat), tiles P off fs tot = true →
    (∀ f ∈ fs, ∃ as, Cs P bad w μ A n f.type as ((cs.drop f.offset).take (P.cellsOf f.type))) →
    ∃ as : List AVal, as.length = tot - off ∧ (∀ a ∈ as, isCell a = true) ∧ (∀ (i : Nat) (a : AVal) (x : Value), as[i]? = some a → cs[off + i]? = some x → V bad w μ A a x) ∧
      ∀ f ∈ fs, HasTy P n f.type ((as.drop (f.offset - off)).take (P.cellsOf f.type)) := by
  intro fs
  induction fs with
  | nil =>
    intro off h _
    simp only [tiles, natBeq, decide_eq_true_eq] at h
    exact ⟨[], by simp; omega, by simp, by simp, by simp⟩
  | cons f fs ih =>
    intro off h hf
    have hle := tiles_le _ _ _ h
    simp only [tiles, natBeq, Bool.and_eq_true, decide_eq_true_eq] at h
    obtain ⟨h1, h2⟩ := h
    have hle2 := tiles_le _ _ _ h2
    obtain ⟨a1, c1⟩ := hf f (by simp)
    obtain ⟨a2, l2, k2, v2, t2⟩ := ih _ h2 (fun g hg => hf g (by simp [hg]))
    have l1 : a1.length = P.cellsOf f.type := by
      rw [c1.len, List.length_take, List.length_drop]
      have := (hle.2 f (by simp)).2
      omega
    refine ⟨a1 ++ a2, by rw [List.length_append, l1, l2]; omega, fun a ha => ?_, fun i a x ha hx => ?_, fun g hg => ?_⟩
    · rcases List.mem_append.1 ha with ha | ha
      · exact c1.cell a ha
      · exact k2 a ha
    · by_cases hi : i < a1.length
      · rw [List.getElem?_append_left hi] at ha
        refine c1.v i a x ha ?_
        rw [List.getElem?_take, if_pos (by omega), List.getElem?_drop, h1]; exact hx
      · rw [List.getElem?_append_right (by omega)] at ha
        refine v2 (i - a1.length) a x ha ?_
        rw [show off + P.cellsOf f.type + (i - a1.length) = off + i by omega]; exact hx
    · rcases List.mem_cons.1 hg with rfl | hg
      · rw [h1, Nat.sub_self, List.drop_zero, ← l1, List.take_left']
        · exact c1.ty
        · rfl
      · have := hle2.2 g hg
        rw [show g.offset - off = a1.length + (g.offset - (off + P.cellsOf f.type)) by omega, ← List.drop_drop, List.drop_left']
        · exact t2 g hg
        · rfl

/-- What is read as data, of a type without pointers, maps, functions and interfaces, is a value of the interpreter's. -/
theorem open_ty : ∀ (n : Nat) (t : TypeId) (fuel : Nat) (cs : List Value) (x : DataW H × List MemPlace), plainTy P n t = true → DataW.trod enc P w base spare held fuel t cs = some x →
    ∀ A, ∃ as, Cs P (fun _ => False) w μ A n t as cs := by
  intro n
  induction n with
  | zero => intro t fuel cs x hp; simp [plainTy] at hp
  | succ n ih =>
    intro t fuel cs x hp h A
    unfold plainTy at hp
    split at hp
    · rename_i ht
      obtain ⟨b, rfl, _⟩ := DataW.trod_bool ht h
      exact ⟨[.bool b], .one (by unfold HasTy; rw [ht]; exact ⟨b, rfl⟩) rfl (.bool _ b)⟩
    · rename_i k ht
      obtain ⟨i, rfl, _, hw⟩ := DataW.trod_int ht h
      exact ⟨[.int k i], .one (by unfold HasTy; rw [ht]; exact ⟨i, rfl, hw⟩) rfl (.int _ k i)⟩
    · rename_i ht
      obtain ⟨s, rfl, _, hs⟩ := DataW.trod_string ht h
      exact ⟨[.str s.data.toList], .one (by unfold HasTy; rw [ht]; exact ⟨_, rfl, by simpa using hs⟩) rfl (.str _ s)⟩
    · rename_i e ht
      rcases DataW.trod_slice ht h with ⟨rfl, _⟩ | ⟨a, len, cap, elems, rest, m, _, rfl, _, _, hlc, hcm, hel, hc, _, _⟩
      · exact ⟨[.nilslice], .one (by unfold HasTy; rw [ht]; exact .inl rfl) rfl (.nilslice _)⟩
      · have hex : ∀ i, ∃ as cs', i < len → w.cells? base (a.add (i * P.cellsOf e)) (P.cellsOf e) = some cs' ∧ Cs P (fun _ => False) w μ (fun _ => False) n e as cs' := by
          intro i
          by_cases hi : i < len
          · have := hc i hi
            rw [List.getElem?_eq_getElem (by omega)] at this
            obtain ⟨cs', h1, h2⟩ := Option.bind_eq_some_iff.1 this
            obtain ⟨as, has⟩ := ih e m cs' _ hp h2 (fun _ => False)
            exact ⟨as, cs', fun _ => ⟨h1, has⟩⟩
          · exact ⟨[], [], fun h => absurd h hi⟩
        let g : Nat → List AVal := fun i => Classical.choose (hex i)
        have hg : ∀ i, i < len → ∃ cs', w.cells? base (a.add (i * P.cellsOf e)) (P.cellsOf e) = some cs' ∧ Cs P (fun _ => False) w μ (fun _ => False) n e (g i) cs' := fun i hi => by
          obtain ⟨cs', h1⟩ := Classical.choose_spec (hex i)
          exact ⟨cs', h1 hi⟩
        have hgl : ∀ i, i < len → (g i).length = P.cellsOf e := fun i hi => by
          obtain ⟨cs', h1, h2⟩ := hg i hi
          rw [h2.len, (World.cells?_some h1).2.1]
        have hcell : ∀ i, i < len * P.cellsOf e → ∃ v y, (rowOf (P.cellsOf e) g len)[i]? = some v ∧ isCell v = true ∧ w.cell? ⟨a.block, a.off + i, none⟩ = some y ∧ a.spot = none ∧ V (fun _ => False) w μ (fun _ => False) v y := by
          intro i hi
          have hs : 0 < P.cellsOf e := by
            rcases Nat.eq_zero_or_pos (P.cellsOf e) with h0 | h0
            · rw [h0] at hi; omega
            · exact h0
          have hj : i / P.cellsOf e < len := Nat.div_lt_of_lt_mul (by rw [Nat.mul_comm]; exact hi)
          have hr : i % P.cellsOf e < P.cellsOf e := Nat.mod_lt _ hs
          obtain ⟨cs', h1, h2⟩ := hg _ hj
          obtain ⟨_, h3, h4⟩ := World.cells?_some h1
          have h5 : i % P.cellsOf e < (g (i / P.cellsOf e)).length := by rw [hgl _ hj]; exact hr
          have h6 : i % P.cellsOf e < cs'.length := by omega
          have h7 := h4 _ hr
          rw [List.getElem?_eq_getElem h6] at h7
          have hz : a.spot = none := by
            obtain ⟨cs0, h10, h20⟩ := hg 0 (Nat.lt_of_le_of_lt (Nat.zero_le _) hj)
            obtain ⟨_, h30, h40⟩ := World.cells?_some h10
            have h70 := h40 0 hs
            rw [List.getElem?_eq_getElem (by omega), Nat.zero_mul] at h70
            simp only [Addr.add, if_true, World.cell?] at h70
            split at h70
            · split at h70
              · cases h70
              · rename_i hh; simpa using hh
            · cases h70
          refine ⟨_, cs'[i % P.cellsOf e], ?_, h2.cell _ (List.getElem_mem h5), ?_, hz, h2.v (i % P.cellsOf e) _ _ (List.getElem?_eq_getElem h5) (List.getElem?_eq_getElem h6)⟩
          · rw [rowOf_get _ hi, List.getElem?_eq_getElem h5]; rfl
          · rw [← h7]
            congr 1
            have e1 : i / P.cellsOf e * P.cellsOf e + i % P.cellsOf e = i := by rw [Nat.mul_comm]; exact Nat.div_add_mod i _
            have key : ∀ p q : Nat, p + q = i → (⟨a.block, a.off + i, none⟩ : Addr) = (a.add p).add q := by
              intro p q hpq
              unfold Addr.add
              cases a with
              | mk ab ao asp =>
                simp only at hz
                subst hz
                by_cases hp0 : p = 0 <;> by_cases hq0 : q = 0 <;> simp [hp0, hq0] <;> omega
            exact key _ _ e1
        refine ⟨[.list (rowOf (P.cellsOf e) g len) len false], .one (by unfold HasTy; rw [ht]; exact .inr ⟨rowOf (P.cellsOf e) g len, len, false, rfl, by omega, rowOf_length, fun i hi => by
          rw [rowOf_part hgl i hi]
          obtain ⟨cs', _, h2⟩ := hg i hi
          exact h2.ty⟩) rfl
          (.list _ (rowOf (P.cellsOf e) g len) len false a cap a.off (fun i => (w.cell? ⟨a.block, a.off + i, none⟩).getD default) (fun hne => ⟨?_, fun h => h⟩) (fun i v hi => ?_) (fun i v hi => ?_) (fun h => by cases h) hlc)⟩
        · have hpos : 0 < len * P.cellsOf e := by
            rw [← rowOf_length (g := g)]; exact List.length_pos_iff.2 hne
          obtain ⟨_, _, _, _, _, hz, _⟩ := hcell 0 hpos
          exact addr_eta hz
        · have hlt : i < len * P.cellsOf e := by
            have := (List.getElem?_eq_some_iff.1 hi).1
            rwa [rowOf_length] at this
          obtain ⟨v', y, h1, h2, h3, _, h4⟩ := hcell i hlt
          rw [h1] at hi; cases hi
          exact ⟨h2, by rw [h3]; rfl⟩
        · have hlt : i < len * P.cellsOf e := by
            have := (List.getElem?_eq_some_iff.1 hi).1
            rwa [rowOf_length] at this
          obtain ⟨v', y, h1, h2, h3, _, h4⟩ := hcell i hlt
          rw [h1] at hi; cases hi
          rw [h3]; exact h4
    · rename_i fs ht
      simp only [Bool.and_eq_true, List.all_eq_true] at hp
      obtain ⟨xs, m, _, _, hl, hx, hf⟩ := DataW.trod_struct ht h
      obtain ⟨as, k1, k2, k3, k4⟩ := tile_build (bad := fun _ => False) (w := w) (μ := μ) (A := A) (n := n) hl fs.toList 0 hp.1 (fun f hfm => by
        obtain ⟨i, hi⟩ := List.mem_iff_getElem?.1 hfm
        have hi' : fs[i]? = some f := by rw [← Array.getElem?_toList]; exact hi
        have h1 := hf i f hi'
        have hlt : i < xs.length := by rw [hx]; exact (Array.getElem?_eq_some_iff.1 hi').1
        rw [List.getElem?_eq_getElem hlt] at h1
        exact ih f.type m _ _ (hp.2 f hfm) h1 A)
      refine ⟨as, ⟨by unfold HasTy; rw [ht]; exact ⟨by omega, fun f hfm => by simpa using k4 f hfm⟩, by omega, k2, fun i a y ha hy => k3 i a y ha (by rw [Nat.zero_add]; exact hy)⟩⟩
    · rename_i m e ht
      simp only [Bool.and_eq_true, natBeq, decide_eq_true_eq] at hp
      obtain ⟨xs, q, _, _, hl, hx, hf⟩ := DataW.trod_array ht h
      have hex : ∀ i, ∃ as, i < m → Cs P (fun _ => False) w μ A n e as ((cs.drop (i * P.cellsOf e)).take (P.cellsOf e)) := by
        intro i
        by_cases hi : i < m
        · have h1 := hf i hi
          rw [List.getElem?_eq_getElem (by omega)] at h1
          obtain ⟨as, has⟩ := ih e q _ _ hp.2 h1 A
          exact ⟨as, fun _ => has⟩
        · exact ⟨[], fun h => absurd h hi⟩
      let g : Nat → List AVal := fun i => Classical.choose (hex i)
      have hg : ∀ i, i < m → Cs P (fun _ => False) w μ A n e (g i) ((cs.drop (i * P.cellsOf e)).take (P.cellsOf e)) := fun i hi => Classical.choose_spec (hex i) hi
      have hgl : ∀ i, i < m → (g i).length = P.cellsOf e := fun i hi => by
        rw [(hg i hi).len, List.length_take, List.length_drop, hl, hp.1]
        have := Nat.mul_le_mul_right (P.cellsOf e) (show i + 1 ≤ m by omega); rw [Nat.add_mul] at this; omega
      have hcell : ∀ i, i < m * P.cellsOf e → ∃ v, (rowOf (P.cellsOf e) g m)[i]? = some v ∧ isCell v = true ∧ ∀ y, cs[i]? = some y → V (fun _ => False) w μ A v y := by
        intro i hi
        have hs : 0 < P.cellsOf e := by
          rcases Nat.eq_zero_or_pos (P.cellsOf e) with h0 | h0
          · rw [h0] at hi; omega
          · exact h0
        have hj : i / P.cellsOf e < m := Nat.div_lt_of_lt_mul (by rw [Nat.mul_comm]; exact hi)
        have hr : i % P.cellsOf e < P.cellsOf e := Nat.mod_lt _ hs
        have h2 := hg _ hj
        have h5 : i % P.cellsOf e < (g (i / P.cellsOf e)).length := by rw [hgl _ hj]; exact hr
        refine ⟨_, ?_, h2.cell _ (List.getElem_mem h5), fun y hy => h2.v (i % P.cellsOf e) _ _ (List.getElem?_eq_getElem h5) ?_⟩
        · rw [rowOf_get _ hi, List.getElem?_eq_getElem h5]; rfl
        · rw [List.getElem?_take, if_pos hr, List.getElem?_drop]
          have e1 : i / P.cellsOf e * P.cellsOf e + i % P.cellsOf e = i := by rw [Nat.mul_comm]; exact Nat.div_add_mod i _
          rw [e1]; exact hy
      refine ⟨rowOf (P.cellsOf e) g m, ⟨by unfold HasTy; rw [ht]; exact ⟨by rw [rowOf_length, hp.1], fun i hi => by rw [rowOf_part hgl i hi]; exact (hg i hi).ty⟩, by rw [rowOf_length, hl, hp.1], fun a ha => ?_, fun i a y ha hy => ?_⟩⟩
      · obtain ⟨i, hi⟩ := List.mem_iff_getElem?.1 ha
        have hlt : i < m * P.cellsOf e := by
          have := (List.getElem?_eq_some_iff.1 hi).1
          rwa [rowOf_length] at this
        obtain ⟨v', h1, h2, _⟩ := hcell i hlt
        rw [h1] at hi; cases hi
        exact h2
      · have hlt : i < m * P.cellsOf e := by
          have := (List.getElem?_eq_some_iff.1 ha).1
          rwa [rowOf_length] at this
        obtain ⟨v', h1, _, h3⟩ := hcell i hlt
        rw [h1] at ha; cases ha
        exact h3 y hy
    · cases hp
end
end Go.Den
