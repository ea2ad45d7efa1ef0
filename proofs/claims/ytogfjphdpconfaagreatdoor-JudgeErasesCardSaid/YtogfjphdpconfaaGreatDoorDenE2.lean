import Derived.Test.YtogfjphdpconfaaGreatDoorDenE1
import Derived.Test.YtogfjphdpconfaaGreatDoorDenOpN
import Derived.Test.YtogfjphdpconfaaGreatDoorDenWalk
namespace Go.Den
open Go Go.Proofs

abbrev Act3 := Int × Int × Int
def cells3 : List Act3 → List AVal
  | [] => []
  | (a, b, c) :: l => .int .i64 a :: .int .i64 b :: .int .i64 c :: cells3 l
theorem cells3_len : ∀ l, (cells3 l).length = l.length * 3 := by
  intro l
  induction l with
  | nil => rfl
  | cons x l ih => obtain ⟨a, b, c⟩ := x; simp only [cells3, List.length_cons, ih]; omega
theorem cells3_append : ∀ l m, cells3 (l ++ m) = cells3 l ++ cells3 m := by
  intro l m
  induction l with
  | nil => rfl
  | cons x l ih => obtain ⟨a, b, c⟩ := x; simp only [cells3, List.cons_append, ih]
theorem cells3_drop : ∀ (l : List Act3) (n : Nat) (a b c : Int), l[n]? = some (a, b, c) → (cells3 l).drop (n * 3) = .int .i64 a :: .int .i64 b :: .int .i64 c :: cells3 (l.drop (n + 1)) := by
  intro l
  induction l with
  | nil => intro n a b c h; simp at h
  | cons x l ih =>
    intro n a b c h
    obtain ⟨p, q, r⟩ := x
    cases n with
    | zero => simp at h; obtain ⟨rfl, rfl, rfl⟩ := h; simp [cells3]
    | succ n =>
      have := ih n a b c (by simpa using h)
      rw [show (n + 1) * 3 = n * 3 + 1 + 1 + 1 by omega]
      simpa [cells3] using this

theorem i29 : ∃ i, Cz.P.info? 29 = some i ∧ i.size = 3 ∧ i.bytes = 24 := by
  cases h : Cz.P.info? 29 with
  | none => have : (Cz.P.info? 29).isSome = true := by kernel_rfl
            rw [h] at this; cases this
  | some i =>
    refine ⟨i, rfl, ?_, ?_⟩
    · have : (Cz.P.info? 29).map (·.size) = some 3 := by kernel_rfl
      rw [h] at this; simpa using this
    · have : (Cz.P.info? 29).map (·.bytes) = some 24 := by kernel_rfl
      rw [h] at this; simpa using this
theorem i30 : ∃ i, Cz.P.info? 30 = some i ∧ i.size = 3 ∧ i.bytes = 24 := by
  cases h : Cz.P.info? 30 with
  | none => have : (Cz.P.info? 30).isSome = true := by kernel_rfl
            rw [h] at this; cases this
  | some i =>
    refine ⟨i, rfl, ?_, ?_⟩
    · have : (Cz.P.info? 30).map (·.size) = some 3 := by kernel_rfl
      rw [h] at this; simpa using this
    · have : (Cz.P.info? 30).map (·.bytes) = some 24 := by kernel_rfl
      rw [h] at this; simpa using this

theorem ix_ (T E : TypeId) (i : TypeInfo) (hu : Cz.P.underlying T = some (.slice E)) (hi : Cz.P.info? E = some i) (hs : i.size = 3) {l : List Act3} {ex : Bool} {n : Nat} {a b c : Int} (h : l[n]? = some (a, b, c)) :
    indexAddrA Cz T (.list (cells3 l) l.length ex) (.int .i64 (n : Int)) = some (.fptr (.int .i64 a :: .int .i64 b :: .int .i64 c :: cells3 (l.drop (n + 1)))) := by
  have hlt : n < l.length := (List.getElem?_eq_some_iff.1 h).1
  simp only [indexAddrA, hu, hi, hs, Int.toNat_natCast, natBlt, cells3_drop l n a b c h, cells3_len]
  have h1 : decide ((0 : Int) ≤ n) = true := by simp
  have h2 : decide ((n : Int) < l.length) = true := by simp; omega
  have h3 : decide (n * 3 < l.length * 3) = true := by simp; omega
  simp only [h1, h2, h3, Bool.and_self, cond_true]
theorem ix22 {l : List Act3} {ex : Bool} {n : Nat} {a b c : Int} (h : l[n]? = some (a, b, c)) :
    indexAddrA Cz 22 (.list (cells3 l) l.length ex) (.int .i64 (n : Int)) = some (.fptr (.int .i64 a :: .int .i64 b :: .int .i64 c :: cells3 (l.drop (n + 1)))) := by
  obtain ⟨i, hi, hs, _⟩ := i29; exact ix_ 22 29 i u22 hi hs h
theorem ix25 {l : List Act3} {ex : Bool} {n : Nat} {a b c : Int} (h : l[n]? = some (a, b, c)) :
    indexAddrA Cz 25 (.list (cells3 l) l.length ex) (.int .i64 (n : Int)) = some (.fptr (.int .i64 a :: .int .i64 b :: .int .i64 c :: cells3 (l.drop (n + 1)))) := by
  obtain ⟨i, hi, hs, _⟩ := i30; exact ix_ 25 30 i u25 hi hs h

theorem fa29_0 {x y z : AVal} {l : List AVal} : fieldAddrA Cz 29 (.fptr (x :: y :: z :: l)) 0 = some (.fptr (x :: y :: z :: l)) := by kernel_rfl
theorem fa29_1 {x y z : AVal} {l : List AVal} : fieldAddrA Cz 29 (.fptr (x :: y :: z :: l)) 1 = some (.fptr (y :: z :: l)) := by kernel_rfl
theorem fa29_2 {x y z : AVal} {l : List AVal} : fieldAddrA Cz 29 (.fptr (x :: y :: z :: l)) 2 = some (.fptr (z :: l)) := by kernel_rfl
theorem ld3 {x : Int} {l : List AVal} {h : Heap} : loadA Cz 3 h (.fptr (.int .i64 x :: l)) = some (.int .i64 x) := by kernel_rfl
theorem ld30 {x y z : Int} {l : List AVal} {h : Heap} : loadA Cz 30 h (.fptr (.int .i64 x :: .int .i64 y :: .int .i64 z :: l)) = some (.agg [.int .i64 x, .int .i64 y, .int .i64 z]) := by kernel_rfl
theorem ld29 {x y z : Int} {l : List AVal} {h : Heap} : loadA Cz 29 h (.fptr (.int .i64 x :: .int .i64 y :: .int .i64 z :: l)) = some (.agg [.int .i64 x, .int .i64 y, .int .i64 z]) := by kernel_rfl
theorem bd30 {x y z : Int} : buildA Cz 30 [(0, .int .i64 x), (1, .int .i64 y), (2, .int .i64 z)] = some (.agg [.int .i64 x, .int .i64 y, .int .i64 z]) := by kernel_rfl
theorem bs25 {x y z : Int} : buildSliceA Cz 25 1 [(0, .agg [.int .i64 x, .int .i64 y, .int .i64 z])] = some (fun id => .slice id 0 1 1 true 3, .arr [.int .i64 x, .int .i64 y, .int .i64 z] 0 false) := by kernel_rfl
theorem bs22 {x y z : Int} : buildSliceA Cz 22 1 [(0, .agg [.int .i64 x, .int .i64 y, .int .i64 z])] = some (fun id => .slice id 0 1 1 true 3, .arr [.int .i64 x, .int .i64 y, .int .i64 z] 0 false) := by kernel_rfl
theorem len22 {l : List AVal} {n : Nat} {ex : Bool} : lenP Cz 22 (.list l n ex) = some (.int .i64 n) := by kernel_rfl
theorem len25 {l : List AVal} {n : Nat} {ex : Bool} : lenP Cz 25 (.list l n ex) = some (.int .i64 n) := by kernel_rfl
theorem nm22 : isMap Cz 22 = false := by kernel_rfl
theorem nm25 : isMap Cz 25 = false := by kernel_rfl
theorem aty25 : appendTy Cz 25 25 = Cz.P.info? 30 := by kernel_rfl
theorem aty22 : appendTy Cz 22 22 = Cz.P.info? 29 := by kernel_rfl

/-- What a slice that is being filled holds. -/
def OutIs (h : Heap) (v : AVal) (l : List Act3) : Prop :=
  (l = [] ∧ v = .nilslice) ∨ (l ≠ [] ∧ ∃ id, v = .slice id 0 l.length l.length false 3 ∧ id < h.next ∧ h.get id = some (.arr (cells3 l) 3 true))

theorem OutIs.mono {h h' : Heap} {v : AVal} {l : List Act3} (o : OutIs h v l) (hn : h.next ≤ h'.next) (hg : ∀ id, id < h.next → h'.get id = h.get id) : OutIs h' v l := by
  rcases o with o | ⟨hl, id, h1, h2, h3⟩
  · exact .inl o
  · exact .inr ⟨hl, id, h1, Nat.lt_of_lt_of_le h2 hn, by rw [hg id h2]; exact h3⟩

theorem grown_ (i : TypeInfo) (hs : i.size = 3) (hb : i.bytes = 24) {nid : Nat} {old : List AVal} {a b c : Int} {len : Nat} {h : Heap} (hl : len ≤ 100000) :
    grownA i nid old [.int .i64 a, .int .i64 b, .int .i64 c] len 1 h = some (some (.slice nid 0 (len + 1) (len + 1) false 3), h.put nid (.arr (old ++ [.int .i64 a, .int .i64 b, .int .i64 c]) 3 true)) := by
  unfold grownA
  have h1 : Nat.ble (len + 1) maxLenN = true := by rw [natBle, decide_eq_true_eq]; unfold maxLenN; omega
  have h2 : Nat.ble ((len + 1) * i.bytes) roomN = true := by rw [natBle, decide_eq_true_eq, hb]; unfold roomN; omega
  rw [h1, h2, hs]; rfl

theorem app_ (T : TypeId) (i : TypeInfo) (ht : appendTy Cz T T = some i) (hs : i.size = 3) (hb : i.bytes = 24) {h : Heap} {v : AVal} {l : List Act3} {nid eid : Nat} {a b c : Int} (o : OutIs h v l) (hl : l.length ≤ 100000) (hn : nid < h.next)
    (hfr : ∀ id, v = .slice id 0 l.length l.length false 3 → id ≠ nid) (he : h.get eid = some (.arr [.int .i64 a, .int .i64 b, .int .i64 c] 0 false)) :
    ∃ v' h', appendA Cz T T h nid v (.slice eid 0 1 1 true 3) = some (some v', h') ∧ h'.next = h.next ∧ OutIs h' v' (l ++ [(a, b, c)]) := by
  have hel : elemsOf h i.size (.slice eid 0 1 1 true 3) = some ([.int .i64 a, .int .i64 b, .int .i64 c], 1) := by
    simp only [elemsOf, he, hs, natBle]; rfl
  have h10 : Nat.beq 1 0 = false := rfl
  rcases o with ⟨rfl, rfl⟩ | ⟨hne, id, rfl, h2, h3⟩
  · refine ⟨.slice nid 0 1 1 false 3, h.put nid (.arr [.int .i64 a, .int .i64 b, .int .i64 c] 3 true), ?_, rfl, .inr ⟨by simp, nid, rfl, hn, by rw [Heap.get_put, if_pos rfl]; rfl⟩⟩
    simp only [appendA, ht, hel, h10, cond_false]
    exact grown_ i hs hb (by omega)
  · refine ⟨.slice nid 0 (l.length + 1) (l.length + 1) false 3, (h.del id).put nid (.arr (cells3 l ++ [.int .i64 a, .int .i64 b, .int .i64 c]) 3 true), ?_, rfl, .inr ⟨by simp, nid, by simp, hn, by rw [Heap.get_put, if_pos rfl, cells3_append]; rfl⟩⟩
    have q1 : Nat.ble (l.length + 1) l.length = false := by rw [natBle]; simp
    have q2 : Nat.ble (0 + l.length * i.size) (cells3 l).length = true := by rw [natBle, cells3_len, hs]; simp
    have q3 : Nat.beq 3 i.size = true := by rw [hs]; rfl
    have q4 : ((cells3 l).drop 0).take (l.length * i.size) = cells3 l := by rw [List.drop_zero, hs, ← cells3_len, List.take_length]
    simp only [appendA, ht, hel, h3, q1, q2, q3, q4, cond_false, cond_true, Bool.and_self]
    exact grown_ i hs hb hl
end Go.Den
