import Derived.Test.YtogfjphdpconfaaGreatDoorDenEA
import Derived.Test.YtogfjphdpconfaaGreatDoorDenRow
namespace Go.Den
open Go Go.Proofs
set_option maxRecDepth 20000
theorem cells29 : Cz.P.cellsOf 29 = 3 := by kernel_rfl
theorem cells3' : Cz.P.cellsOf 3 = 1 := by kernel_rfl
theorem int3 {n : Nat} {cs : List AVal} (h : HasTy Cz.P (n + 1) 3 cs) : ∃ i, cs = [.int .i64 i] := by
  unfold HasTy at h
  rw [u3] at h
  obtain ⟨i, hi, _⟩ := h
  exact ⟨i, hi⟩
theorem isAct {n : Nat} {cs : List AVal} (h : HasTy Cz.P (n + 2) 29 cs) : ∃ a b c, cs = [.int .i64 a, .int .i64 b, .int .i64 c] := by
  unfold HasTy at h
  have hu : Cz.P.underlying 29 = _ := Tryz.underlying29
  rw [hu] at h
  obtain ⟨hl, hf⟩ := h
  rw [cells29] at hl
  simp only [List.mem_cons, List.not_mem_nil, or_false, forall_eq_or_imp, forall_eq, cells3'] at hf
  obtain ⟨h1, h2, h3⟩ := hf
  obtain ⟨a, ha⟩ := int3 h1
  obtain ⟨b, hb⟩ := int3 h2
  obtain ⟨c, hc⟩ := int3 h3
  match cs, hl, ha, hb, hc with
  | [x, y, z], _, ha, hb, hc =>
    simp at ha hb hc
    exact ⟨a, b, c, by rw [ha, hb, hc]⟩
theorem actsOf {n : Nat} : ∀ (len : Nat) (els : List AVal), els.length = len * 3 → (∀ i, i < len → HasTy Cz.P (n + 2) 29 ((els.drop (i * 3)).take 3)) → ∃ l : List Act3, els = cells3 l ∧ l.length = len := by
  intro len
  induction len with
  | zero => intro els hl _; exact ⟨[], by rw [cells3]; exact List.length_eq_zero_iff.1 (by omega), rfl⟩
  | succ len ih =>
    intro els hl h
    obtain ⟨a, b, c, h0⟩ := isAct (h 0 (by omega))
    simp only [Nat.zero_mul, List.drop_zero] at h0
    obtain ⟨l, hl2, hlen⟩ := ih (els.drop 3) (by rw [List.length_drop]; omega) (fun i hi => by
      have := h (i + 1) (by omega)
      rw [List.drop_drop, show 3 + i * 3 = (i + 1) * 3 by omega]; exact this)
    refine ⟨(a, b, c) :: l, ?_, by simp [hlen]⟩
    rw [← List.take_append_drop 3 els, h0, hl2]
    rfl
theorem argOf {arg : AVal} (h : HasTy Cz.P 4 22 [arg]) : ∃ l, ArgIs arg l := by
  unfold HasTy at h
  rw [u22] at h
  rcases h with h | ⟨els, len, ex, h, _, hl, he⟩
  · simp only [List.cons.injEq, and_true] at h
    exact ⟨[], .inl ⟨rfl, h⟩⟩
  · rw [cells29] at hl he
    obtain ⟨l, h1, h2⟩ := actsOf len els hl he
    simp only [List.cons.injEq, and_true] at h
    exact ⟨l, .inr ⟨ex, by rw [h, h1, h2]⟩⟩
theorem erases_yes (xs : List AVal) (h : ArgsTy Cz.P 4 [22] xs) : ∃ h', callH Cz (100000 + 1) 3 xs .empty = some (.bool true, h') := by
  match xs, h with
  | [arg], h =>
    have h1 : ArgTy Cz.P 4 22 arg := h.1
    unfold ArgTy at h1
    rw [u22] at h1
    obtain ⟨l, hl⟩ := argOf h1
    exact erases_ok l arg hl .empty 100000 rfl
theorem soundz (N : Nat) : Sound Cz (callH Cz N) := callH_ok (fun _ => rfl) kmixed kcheck N
end Go.Den
