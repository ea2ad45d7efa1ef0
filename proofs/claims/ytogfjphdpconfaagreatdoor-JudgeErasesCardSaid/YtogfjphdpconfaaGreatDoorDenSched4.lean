/- The orders of a region: one step of any order. -/
import Derived.Test.YtogfjphdpconfaaGreatDoorDenSched3
namespace Go.Den
open Go
variable {C : Cfg} {F : FuncId → List AVal → Heap → Option (AVal × Heap)} {fid : FuncId} {ops : Array Oper} {re : List (Nat × Nat)} {base : Nat} {st : Nat → Tmps × Heap}
variable {S : Nat → Prop} {m : Nat} {t : Tmps} {h : Heap}

theorem same_opL {i : Nat} {o : Oper} {t1 t0 : Tmps} {h1 : Heap} {v : AVal} (ho : ops[i]? = some o) (hs : sameLoad C ops t1 h1 i = true) (hv : ∀ d, o.dst = some d → t1.get d = some v) (hvt : ∀ l, v ≠ .tuple l) (ha : Agree o t1 t0) : opL C o t0 h1 = some v := by
  rw [← opL_congr ha]
  unfold sameLoad at hs
  rw [ho] at hs
  simp only at hs
  unfold opL
  split at hs
  · rename_i ty a d hop hd
    rw [hv d hd] at hs
    rw [hop]
    split at hs
    · rename_i hn; cases hn
    · rename_i hn; cases hn; exact absurd rfl (hvt _)
    · rename_i v0 _ hv0
      cases hv0
      split at hs
      · rename_i a' ha'
        simp only [ha']
        split at hs
        · rename_i v' hl
          rw [hl, ← beq_eq hs]
          cases v with
          | tuple l => exact absurd rfl (hvt l)
          | _ => rfl
        · cases hs
      · cases hs
  · cases hs

theorem opL_tuple {o : Oper} {t : Tmps} {h : Heap} {v : AVal} (e : opL C o t h = some v) : ∀ l, v ≠ .tuple l := by
  unfold opL at e
  split at e
  · split at e
    · split at e
      · cases e
      · rename_i hnt; rintro l rfl; exact hnt l e
    · cases e
  · cases e

theorem kind_L {o : Oper} (h : kind C o = .L) : ∃ ty a, o.op = .load ty a := by
  have hb : ∀ b : Bool, (bif b then Kind.E else Kind.P) = Kind.L → False := by intro b hb; cases b <;> cases hb
  unfold kind at h
  split at h
  all_goals first
    | exact ⟨_, _, by assumption⟩
    | (cases h; done)
    | exact (hb _ h).elim
    | (split at h
       all_goals first
         | (cases h; done)
         | exact (hb _ h).elim)

theorem still_agree (T : Tr C F fid ops re base 0 [] st) (O : OrdOk C ops.toList re) {i b e : Nat} {o : Oper} (ho : ops[i]? = some o) (hk : kind C o = .L) (hr : (i, e) ∈ re) (hib : i ≤ b) (hb : b ≤ ops.size) : Agree o (st b).1 (st i).1 := by
  intro d hd
  have hst := O.still _ hr
  unfold reStill at hst
  simp only [Array.getElem?_toList, ho] at hst
  obtain ⟨ty, a, hop⟩ := kind_L hk
  rw [hop] at hd hst
  simp only [Op.operands, List.mem_singleton] at hd
  subst hd
  simp only at hst
  refine tr_tmps' T hib hb fun x o' h1 h2 h3 hd' => ?_
  have := zipIdx_all hst (show ops.toList[x]? = some o' by simpa using h3)
  simp only [natBlt, Bool.or_eq_true, decide_eq_true_eq, Bool.not_eq_true', beq_eq_false_iff_ne, ne_eq] at this
  rcases this with h | h
  · omega
  · exact h hd'

theorem inv_PL (I : Inv C ops base st S m t h) {i : Nat} {o : Oper} {v : Option AVal} {h' : Heap} (T : Tr C F fid ops re base 0 [] st) (O : OrdOk C ops.toList re) (ho : ops[i]? = some o) (hi : ¬ S i) (hk : kind C o = .P ∨ kind C o = .L)
    (hst : st (i + 1) = (putA (st i).1 o.dst v, h')) : Inv C ops base st (fun x => S x ∨ x = i) m (putA t o.dst v) h := by
  obtain ⟨t1, t2⟩ := inv_tmps T O I ho hi hst
  have hne : ∀ {k : Kind} {x : Nat}, k = .N ∨ k = .E → isK C ops k x → x ≠ i := by
    rintro k x hk' hx rfl
    have := isK_inj hx ⟨o, ho, rfl⟩
    rcases hk with hk | hk <;> rcases hk' with hk' | hk' <;> rw [hk, hk'] at this <;> cases this
  refine ⟨t1, t2, fun e he => ?_, fun x hx hlt => .inl (I.new x hx hlt), fun x h1 h2 h3 => ?_, fun id hid => ?_, I.next, I.last, I.le⟩
  · rw [← I.eff e he]; exact ⟨fun h => h.resolve_right (hne (.inr rfl) he), .inl⟩
  · exact I.h1 x h1 h2 (h3.resolve_right (hne (.inl rfl) h2))
  · exact I.h2 id fun x h1 h2 h3 => hid x h1 h2 (.inl h3)

theorem inv_step (hF : FrF F) (T : Tr C F fid ops re base 0 [] st) (S0 : Start base ops.size st) (O : OrdOk C ops.toList re) (I : Inv C ops base st S m t h) (hS : Closed ops.toList S) {i : Nat} {o : Oper} (ho : ops[i]? = some o) (hi : ¬ S i)
    (hS' : Closed ops.toList (fun x => S x ∨ x = i)) :
    (unwanted ops o t = true ∧ ∃ m', Inv C ops base st (fun x => S x ∨ x = i) m' (putA t o.dst none) h) ∨
    (wantedA ops o t = true ∧ ∃ v h', stepA C F fid o t h (base + i) = some (v, h') ∧ ∃ m', Inv C ops base st (fun x => S x ∨ x = i) m' (putA t o.dst v) h') := by
  have hil : i < ops.size := (Array.getElem?_eq_some_iff.1 ho).1
  have ho' : ops.toList[i]? = some o := by simpa using ho
  have look : ∀ d, d ∈ looks ops.toList o → t.get d = (st i).1.get d := fun d hd => inv_look T O hS I ho hi hS' hd
  have hw : wantedA ops o t = wantedA ops o (st i).1 := wanted_congr look
  have hag : Agree o t (st i).1 := agree_of look
  have pre : ∀ {x}, x < i → ahead (befs ops.toList []) x i = true → S x := fun {x} hx ha => (ahead_closed hS' ha (.inr rfl)).resolve_right (by omega)
  have pairs : ∀ {x o'}, ops[x]? = some o' → x < i → ¬ S x → pairOk C re (befs ops.toList []) x i o' o = true ∧ ahead (befs ops.toList []) x i = false := fun {x o'} hx hlt hns =>
    ⟨O.pair x i o' o (by simpa using hx) ho' hlt, by cases hb : ahead (befs ops.toList []) x i; rfl; exact absurd (pre hlt hb) hns⟩
  have hu : unwanted ops o t = unwanted ops o (st i).1 := unwanted_congr look
  rw [hw, hu]
  cases hk : kind C o
  case P =>
    rcases T.step i o (Nat.zero_le _) ho with ⟨w, v, h1, hs, hst⟩ | ⟨w, hst⟩
    · refine .inr ⟨w, v, h, ?_, m, inv_PL I T O ho hi (.inl hk) hst⟩
      rw [← stepA_congr hag] at hs
      simp only [stepA, hk] at hs ⊢
      split at hs
      · cases hs; rfl
      · cases hs
    · exact .inl ⟨w, m, inv_PL I T O ho hi (.inl hk) hst⟩
  case L =>
    rcases T.step i o (Nat.zero_le _) ho with ⟨w, v, h1, hs, hst⟩ | ⟨w, hst⟩
    · have newS : ∀ x, x < i → isK C ops .N x → S x := by
        intro x hx ⟨ox, hox, hkx⟩
        by_cases hSx : S x
        · exact hSx
        · obtain ⟨p1, p2⟩ := pairs hox hx hSx
          unfold pairOk at p1
          rw [p2, hkx, hk] at p1; cases p1
      simp only [stepA, hk] at hs
      split at hs
      · rename_i u hu'
        cases hs
        have hget : ∀ b, i + 1 ≤ b → b ≤ ops.size → ∀ d, o.dst = some d → (st b).1.get d = some u := by
          intro b hb hbn d hd
          rw [tr_tmps' T hb hbn fun x o' h1 h2 h3 => (O.slot x i o' o d (by simpa using h3) ho' hd).1 (by omega), hst]
          simp only [get_putA, hd, if_true, Option.getD_some]
        have hval : opL C o t h = some u := by
          rw [opL_congr hag]
          by_cases him : i < m
          · -- an effect, later in the text, has been
            rcases I.last with h0 | ⟨e, rfl, he⟩
            · omega
            · have hne : i ≠ e := by rintro rfl; have := isK_inj he ⟨o, ho, hk⟩; cases this
              obtain ⟨oe, hoe, hke⟩ := he
              have hSe : S e := (I.eff e ⟨oe, hoe, hke⟩).2 (by omega)
              have p1 := O.pair i e o oe ho' (by simpa using hoe) (by omega)
              unfold pairOk at p1
              have p2 : ahead (befs ops.toList []) i e = false := by
                cases hb : ahead (befs ops.toList []) i e
                · rfl
                · exact absurd (ahead_closed hS hb hSe) hi
              rw [p2, hk, hke] at p1
              simp only [Bool.false_or, List.contains_eq_mem, decide_eq_true_eq] at p1
              have := T.re1 _ p1 (by simp only; omega) (Nat.zero_le _) (by have := I.le; simp only; omega)
              refine opL_le (inv_le hF T S0 I (Nat.le_refl _) I.le (fun x h1 h2 => by omega) (fun x h1 h2 => by omega)) ?_
              exact same_opL ho this (hget _ (by simp only; omega) (by have := I.le; simp only; omega)) (opL_tuple hu') (still_agree T O ho hk p1 (by simp only; omega) (by have := I.le; simp only; omega))
          · by_cases hex : ∃ e, m ≤ e ∧ e < i ∧ isK C ops .E e
            · -- an effect, earlier in the text, is still to come: the first such
              have : ∃ e, (m ≤ e ∧ e < i ∧ isK C ops .E e) ∧ ∀ y, m ≤ y → y < e → ¬ isK C ops .E y := by
                obtain ⟨e, he⟩ := hex
                induction e using Nat.strongRecOn with
                | _ e ih =>
                  by_cases hmin : ∃ y, m ≤ y ∧ y < e ∧ isK C ops .E y
                  · obtain ⟨y, y1, y2, y3⟩ := hmin
                    exact ih y y2 ⟨y1, by omega, y3⟩
                  · exact ⟨e, he, fun y y1 y2 y3 => hmin ⟨y, y1, y2, y3⟩⟩
              obtain ⟨e, ⟨e1, e2, oe, hoe, hke⟩, e4⟩ := this
              have hSe : ¬ S e := fun hs => by have := (I.eff e ⟨oe, hoe, hke⟩).1 hs; omega
              obtain ⟨p1, p2⟩ := pairs hoe e2 hSe
              unfold pairOk at p1
              rw [p2, hke, hk] at p1
              simp only [Bool.false_or, List.contains_eq_mem, decide_eq_true_eq] at p1
              have := (T.re2 _ p1 (by simp only; omega) (Nat.zero_le _) (by simp only; omega)).2 (Nat.zero_le _)
              refine opL_le (inv_le hF T S0 I e1 (by omega) e4 (fun x h1 h2 hx => newS x (by omega) hx)) ?_
              exact same_opL ho this (hget _ (by simp only; omega) (by simp only; omega)) (opL_tuple hu') (still_agree T O ho hk p1 (by simp only; omega) (by simp only; omega))
            · exact opL_le (inv_le hF T S0 I (by omega) (by omega) (fun x h1 h2 h3 => hex ⟨x, h1, h2, h3⟩) (fun x h1 h2 hx => newS x h2 hx)) hu'
        exact .inr ⟨w, some u, h, by simp only [stepA, hk, hval], m, inv_PL I T O ho hi (.inr hk) hst⟩
      · cases hs
    · exact .inl ⟨w, m, inv_PL I T O ho hi (.inr hk) hst⟩
  case N =>
    have hmi : m ≤ i := by
      by_cases hlt : i < m
      · exact absurd (I.new i ⟨o, ho, hk⟩ hlt) hi
      · omega
    have fin : ∀ (v : Option AVal) (h' h1 : Heap), st (i + 1) = (putA (st i).1 o.dst v, h1) → h'.next = h.next → (∀ id, id ≠ base + i → h'.get id = h.get id) → h'.get (base + i) = h1.get (base + i) →
        Inv C ops base st (fun x => S x ∨ x = i) m (putA t o.dst v) h' := by
      intro v h' h1 hst hn hg1 hg2
      obtain ⟨t1, t2⟩ := inv_tmps T O I ho hi hst
      refine ⟨t1, t2, fun e he => ?_, fun x hx hlt => .inl (I.new x hx hlt), fun x h1 h2 h3 => ?_, fun id hid => ?_, hn.trans I.next, I.last, I.le⟩
      · rw [← I.eff e he]
        refine ⟨fun h => h.resolve_right ?_, .inl⟩
        rintro rfl
        have := isK_inj he ⟨o, ho, hk⟩; cases this
      · by_cases hxi : x = i
        · subst hxi; rw [hg2, hst]
        · rw [hg1 _ (by omega)]; exact I.h1 x h1 h2 (h3.resolve_right hxi)
      · rw [hg1 _ (hid i hmi ⟨o, ho, hk⟩ (.inr rfl))]
        exact I.h2 id fun x h1 h2 h3 => hid x h1 h2 (.inl h3)
    rcases T.step i o (Nat.zero_le _) ho with ⟨w, v, h1, hs, hst⟩ | ⟨w, hst⟩
    · simp only [stepA, hk] at hs
      split at hs
      · rename_i mk ob hop
        cases hs
        refine .inr ⟨w, some (mk (base + i)), h.put (base + i) ob, ?_, m, fin _ _ _ hst rfl (fun id hne => by rw [Heap.get_put, if_neg hne]) (by rw [Heap.get_put, Heap.get_put, if_pos rfl, if_pos rfl])⟩
        rw [← opN_congr hag] at hop
        simp only [stepA, hk, hop]
      · cases hs
    · refine .inl ⟨w, m, fin _ _ _ hst rfl (fun _ _ => rfl) ?_⟩
      have hno : ∀ x, m ≤ x → isK C ops .N x → S x → base + i ≠ base + x := fun x h1 h2 h3 e => hi ((show x = i by omega) ▸ h3)
      rw [tr_none hF T S0 i i (Nat.le_refl _) hil, I.h2 _ hno]
      exact tr_none hF T S0 m i hmi hil
  case E =>
    have hke : isK C ops .E i := ⟨o, ho, hk⟩
    have hmi : m ≤ i := by
      by_cases hlt : i < m
      · exact absurd ((I.eff i hke).2 hlt) hi
      · omega
    have noE : ∀ x, m ≤ x → x < i → ¬ isK C ops .E x := by
      intro x h1 h2 ⟨ox, hox, hkx⟩
      have hns : ¬ S x := fun hs => by have := (I.eff x ⟨ox, hox, hkx⟩).1 hs; omega
      obtain ⟨p1, p2⟩ := pairs hox h2 hns
      unfold pairOk at p1
      rw [p2, hkx, hk] at p1; cases p1
    have newS : ∀ x, x < i → isK C ops .N x → S x := by
      intro x hx ⟨ox, hox, hkx⟩
      by_cases hSx : S x
      · exact hSx
      · obtain ⟨p1, p2⟩ := pairs hox hx hSx
        unfold pairOk at p1
        rw [p2, hkx, hk] at p1; cases p1
    have f := inv_fr hF T S0 I hmi hil hke noE newS
    have fin : ∀ (v : Option AVal) (h' h1 : Heap), st (i + 1) = (putA (st i).1 o.dst v, h1) → Fr (fun id => ∃ x, i < x ∧ isK C ops .N x ∧ S x ∧ id = base + x) h.get h1 h' →
        Inv C ops base st (fun x => S x ∨ x = i) (i + 1) (putA t o.dst v) h' := by
      intro v h' h1 hst f'
      obtain ⟨t1, t2⟩ := inv_tmps T O I ho hi hst
      refine ⟨t1, t2, fun e he => ⟨fun h => ?_, fun h => ?_⟩, fun x hx hlt => ?_, fun x h1 h2 h3 => ?_, fun id hid => ?_, by rw [hst]; exact f'.next, .inr ⟨i, rfl, hke⟩, hil⟩
      · rcases h with h | h
        · have := (I.eff e he).1 h; omega
        · omega
      · by_cases hem : e < m
        · exact .inl ((I.eff e he).2 hem)
        · by_cases hei : e = i
          · exact .inr hei
          · exact absurd he (noE e (by omega) (by omega))
      · by_cases hxi : x = i
        · exact .inr hxi
        · exact .inl (newS x (by omega) hx)
      · have hxi : x ≠ i := by omega
        rw [(f'.out _ ⟨x, by omega, h2, h3.resolve_right hxi, rfl⟩).2]
        exact I.h1 x (by omega) h2 (h3.resolve_right hxi)
      · rw [hst]
        refine f'.same id ?_
        rintro ⟨x, x1, x2, x3, x4⟩
        exact hid x (by omega) x2 (.inl x3) x4
    rcases T.step i o (Nat.zero_le _) ho with ⟨w, v, h1, hs, hst⟩ | ⟨w, hst⟩
    · rw [← stepA_congr hag] at hs
      obtain ⟨h', hs', f'⟩ := (stepA_fr hF hs).2 _ _ _ f (by rintro ⟨x, x1, x2, x3, x4⟩; omega)
      exact .inr ⟨w, v, h', hs', i + 1, fin v h' h1 hst f'⟩
    · exact .inl ⟨w, i + 1, fin none h _ hst f⟩

/-- When all have been, all stands as the text has it. -/
theorem inv_end (hF : FrF F) (T : Tr C F fid ops re base 0 [] st) (O : OrdOk C ops.toList re) (I : Inv C ops base st S m t h) (hall : ∀ x, x < ops.size → S x) :
    (∀ d, t.get d = (st ops.size).1.get d) ∧ (∀ id, h.get id = (st ops.size).2.get id) ∧ h.next = (st ops.size).2.next := by
  have noE : ∀ x, m ≤ x → x < ops.size → ¬ isK C ops .E x := fun x h1 h2 hx => by have := (I.eff x hx).1 (hall x h2); omega
  obtain ⟨g0, g1, g2⟩ := tr_heap' hF T I.le (Nat.le_refl _) noE
  refine ⟨fun d => ?_, fun id => ?_, by rw [I.next, g0]⟩
  · by_cases hy : ∃ (y : Nat) (oy : Oper), ops[y]? = some oy ∧ oy.dst = some d
    · obtain ⟨y, oy, hoy, hdy⟩ := hy
      have hyl : y < ops.size := (Array.getElem?_eq_some_iff.1 hoy).1
      rw [I.t1 y oy d (hall y hyl) hoy hdy]
      exact (tr_tmps' T (show y + 1 ≤ ops.size by omega) (Nat.le_refl _) fun x o' h1 h2 h3 => (O.slot x y o' oy d (by simpa using h3) (by simpa using hoy) hdy).1 (by omega)).symm
    · have hn : ∀ (x : Nat) (o' : Oper), ops[x]? = some o' → o'.dst ≠ some d := fun x o' hx hd' => hy ⟨x, o', hx, hd'⟩
      rw [I.t2 d fun x o' _ hx => hn x o' hx]
      exact (tr_tmps' T (Nat.zero_le _) (Nat.le_refl _) fun x o' _ _ hx3 => hn x o' hx3).symm
  · by_cases hx : ∃ x, m ≤ x ∧ isK C ops .N x ∧ id = base + x
    · obtain ⟨x, x1, x2, rfl⟩ := hx
      rw [I.h1 x x1 x2 (hall x (isK_lt x2)), g1 x x1 (isK_lt x2) x2]
    · rw [I.h2 id fun x x1 x2 x3 e => hx ⟨x, x1, x2, e⟩, g2 id fun x x1 x2 x3 e => hx ⟨x, x1, x3, e⟩]
end Go.Den
