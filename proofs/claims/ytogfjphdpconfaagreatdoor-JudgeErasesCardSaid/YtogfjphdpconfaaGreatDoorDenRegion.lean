/- A region: in the text's order, and in any order that may be drawn. -/
import Derived.Test.YtogfjphdpconfaaGreatDoorDenStep
import Derived.Orders
import Derived.Test.YtogfjphdpconfaaGreatDoorDenPerm
namespace Go.Den
open Go
variable {C : Cfg} {K A : Nat → Prop} {μ : Mu} {w : World} {F : FuncId → List AVal → Heap → Option (AVal × Heap)} {nt : Nat} {t : Tmps} {h h' : Heap} {a : Act}

theorem R.raise {g : Nat → Option HObj} {nx nx' : Nat} (hr : R K A μ g nx w) (hn : nx ≤ nx') : R K A μ g nx' w :=
  ⟨hr.dom, hr.lt, fun id ha => Nat.lt_of_lt_of_le (hr.alt id ha) hn, hr.inj, hr.arr, hr.map⟩

theorem text_ok (hF : Sound C F) (hext : ∀ f, C.ext f = none) {fid : FuncId} {ops : Array Oper} {re : List (Nat × Nat)} {base : Nat} {st : Nat → Tmps × Heap} (T : Tr C F fid ops re base 0 [] st) (hfr : FrF F) (S0 : Start base ops.size st)
    (hd : ∀ o ∈ ops, ∀ d, o.dst = some d → d < nt) (hA : ∀ id, A id → id < base) {Q : Exit → Act → World → Prop}
    (hQ : ∀ A' μ' a' w', Rel C nt K A' μ' (st ops.size).1 (st ops.size).2 a' w' → Ext K A μ w A' μ' w' → (∀ id, A' id → A id ∨ base ≤ id) → Q .normal a' w') :
    ∀ (j k : Nat), k + j = ops.size → ∀ A' μ' a' w', Rel C nt K A' μ' (st k).1 (st k).2 a' w' → Ext K A μ w A' μ' w' → (∀ id, A' id → A id ∨ (∃ x, x < k ∧ id = base + x) ∨ base + ops.size ≤ id) →
    wpOps C.P ops Q (List.range' k j) a' w' := by
  intro j
  induction j with
  | zero =>
    intro k hk A' μ' a' w' hr hx hb
    obtain rfl : k = ops.size := by omega
    refine hQ A' μ' a' w' hr hx fun id hid => ?_
    rcases hb id hid with h | ⟨x, _, rfl⟩ | h
    · exact .inl h
    · exact .inr (by omega)
    · exact .inr (by omega)
  | succ j ih =>
    intro k hk A' μ' a' w' hr hx hb
    have hlt : k < ops.size := by omega
    have ho : ops[k]? = some ops[k] := Array.getElem?_eq_getElem hlt
    have hdk : ∀ d, ops[k].dst = some d → d < nt := hd _ (Array.getElem_mem hlt)
    simp only [List.range'_succ, wpOps, ho]
    rcases T.step k _ (Nat.zero_le _) ho with ⟨hw, v, h1, hs, he⟩ | ⟨hw, he⟩
    · rw [if_pos (wanted_ok hr.tr hw)]
      refine .inl (stepA_ok hF hext hs hr (fun hm => ?_) ?_ hdk fun A2 μ2 a2 w2 hr2 hx2 hb2 => ?_)
      · rcases hb _ hm with h | ⟨x, h, h2⟩ | h
        · have := hA _ h; omega
        · omega
        · omega
      · have := tr_next hfr T S0 k (by omega); omega
      · refine ih (k + 1) (by omega) A2 μ2 a2 w2 (by rw [he]; exact hr2) (hx.trans hx2) fun id hid => ?_
        have hnk := tr_next hfr T S0 k (by omega)
        rcases hb2 id hid with h | rfl | h
        · rcases hb id h with h | ⟨x, h, rfl⟩ | h
          · exact .inl h
          · exact .inr (.inl ⟨x, by omega, rfl⟩)
          · exact .inr (.inr h)
        · exact .inr (.inl ⟨k, by omega, rfl⟩)
        · exact .inr (.inr (by omega))
    · rw [if_neg (by rw [unwanted_ok hr.tr hw]; simp)]
      refine ih (k + 1) (by omega) A' μ' _ w' (by rw [he]; exact hr.next hr.r Ext.refl hdk rfl) hx fun id hid => ?_
      rcases hb id hid with h | ⟨x, h, rfl⟩ | h
      · exact .inl h
      · exact .inr (.inl ⟨x, by omega, rfl⟩)
      · exact .inr (.inr h)

theorem any_ok (hF : Sound C F) (hext : ∀ f, C.ext f = none) {fid : FuncId} {ops : Array Oper} {re : List (Nat × Nat)} {base : Nat} {st : Nat → Tmps × Heap} (T : Tr C F fid ops re base 0 [] st) (hfr : FrF F) (S0 : Start base ops.size st) (O : OrdOk C ops.toList re)
    (hd : ∀ o ∈ ops, ∀ d, o.dst = some d → d < nt) (hA : ∀ id, A id → id < base) {Q : Exit → Act → World → Prop}
    (hQ : ∀ t' h' A' μ' a' w', (∀ d, t'.get d = (st ops.size).1.get d) → (∀ id, h'.get id = (st ops.size).2.get id) → h'.next = (st ops.size).2.next → Rel C nt K A' μ' t' h' a' w' → Ext K A μ w A' μ' w' → (∀ id, A' id → A id ∨ base ≤ id) → Q .normal a' w') :
    ∀ (fuel : Nat) (listed : Array Bool) (U : List Nat) (m : Nat) (t' : Tmps) (h' : Heap) (A' : Nat → Prop) (μ' : Mu) (a' : Act) (w' : World), listed.size = ops.size → (∀ x, x < ops.size → listed.getD x false = false → x ∈ U) → U.length ≤ fuel →
    Closed ops.toList (fun x => listed.getD x false = true) → Inv C ops base st (fun x => listed.getD x false = true) m t' h' → Rel C nt K A' μ' t' h' a' w' → Ext K A μ w A' μ' w' →
    (∀ id, A' id → A id ∨ (∃ x, listed.getD x false = true ∧ id = base + x) ∨ base + ops.size ≤ id) → wpAny C.P .any ops Q fuel listed a' w' := by
  have fin : ∀ (listed : Array Bool) (m : Nat) (t' : Tmps) (h' : Heap) (A' : Nat → Prop) (μ' : Mu) (a' : Act) (w' : World), (∀ x, x < ops.size → listed.getD x false = true) → Inv C ops base st (fun x => listed.getD x false = true) m t' h' → Rel C nt K A' μ' t' h' a' w' → Ext K A μ w A' μ' w' →
      (∀ id, A' id → A id ∨ (∃ x, listed.getD x false = true ∧ id = base + x) ∨ base + ops.size ≤ id) → Q .normal a' w' := by
    intro listed m t' h' A' μ' a' w' hall I hr hx hb
    obtain ⟨e1, e2, e3⟩ := inv_end hfr T O I hall
    refine hQ t' h' A' μ' a' w' e1 e2 e3 hr hx fun id hid => ?_
    rcases hb id hid with h | ⟨x, _, rfl⟩ | h
    · exact .inl h
    · exact .inr (by omega)
    · exact .inr (by omega)
  intro fuel
  induction fuel with
  | zero =>
    intro listed U m t' h' A' μ' a' w' hsz hU hlen hcl I hr hx hb
    have hall : ∀ x, x < ops.size → listed.getD x false = true := by
      intro x hx
      cases hl : listed.getD x false
      · have := hU x hx hl
        have hn : U = [] := List.eq_nil_of_length_eq_zero (by omega)
        rw [hn] at this; cases this
      · rfl
    refine ⟨?_, fin listed m t' h' A' μ' a' w' hall I hr hx hb⟩
    unfold Region.ready
    rw [List.filter_eq_nil_iff]
    intro i hi
    have hlt : i < ops.size := by simpa using hi
    have := hall i hlt
    have : listed.getD i true = true := by
      simp only [Array.getD_eq_getD_getElem?, Array.getElem?_eq_getElem (hsz ▸ hlt), Option.getD_some] at this ⊢; exact this
    simp [this]
  | succ fuel ih =>
    intro listed U m t' h' A' μ' a' w' hsz hU hlen hcl I hr hx hb
    refine ⟨fun hnil => ?_, fun i hi => ?_⟩
    · refine fin listed m t' h' A' μ' a' w' ?_ I hr hx hb
      -- were one left, the first of them would be ready
      intro x
      induction x using Nat.strongRecOn with
      | _ x ihx =>
        intro hxl
        cases hl : listed.getD x false
        · exfalso
          have hm : x ∈ Region.ready .any ops listed := by
            rw [mem_ready]
            refine ⟨?_, ops[x], Array.getElem?_eq_getElem hxl, fun e he hbe => ?_⟩
            · simp only [Array.getD_eq_getD_getElem?, Array.getElem?_eq_getElem (hsz ▸ hxl : x < listed.size), Option.getD_some] at hl ⊢; exact hl
            · have := O.edge x ops[x] e (by simp [hxl]) he hbe
              exact ihx _ this (by omega)
          rw [hnil] at hm; cases hm
        · rfl
    · rw [mem_ready] at hi
      obtain ⟨hi0, o, ho, hpre⟩ := hi
      have hil : i < ops.size := (Array.getElem?_eq_some_iff.1 ho).1
      have hni : ¬ listed.getD i false = true := by
        simp only [Array.getD_eq_getD_getElem?, Array.getElem?_eq_getElem (hsz ▸ hil : i < listed.size), Option.getD_some] at hi0 ⊢; simp [hi0]
      have hset : (fun x => (listed.setIfInBounds i true).getD x false = true) = fun x => listed.getD x false = true ∨ x = i := by
        funext x
        apply propext
        by_cases hxi : x = i
        · subst hxi
          simp [Array.getD_eq_getD_getElem?, hsz, hil]
        · rw [getD_set_ne false (Ne.symm hxi)]
          simp [hxi]
      have hcl' : Closed ops.toList (fun x => listed.getD x false = true ∨ x = i) := by
        rintro j oj (hj | rfl) hoj e he hbe
        · exact .inl (hcl j oj hj hoj e he hbe)
        · have : oj = o := by
            have h2 : ops[j]? = some oj := by simpa using hoj
            rw [ho] at h2; cases h2; rfl
          subst this
          exact .inl (hpre e he hbe)
      have hdi : ∀ d, o.dst = some d → d < nt := hd o (by rw [Array.mem_iff_getElem?]; exact ⟨i, ho⟩)
      have hmem : i ∈ U := hU i hil (by simpa using hni)
      have next : ∀ (m2 : Nat) (t2 : Tmps) (h2 : Heap) (A2 : Nat → Prop) (μ2 : Mu) (a2 : Act) (w2 : World), Inv C ops base st (fun x => listed.getD x false = true ∨ x = i) m2 t2 h2 → Rel C nt K A2 μ2 t2 h2 a2 w2 → Ext K A μ w A2 μ2 w2 →
          (∀ id, A2 id → A id ∨ (∃ x, (listed.getD x false = true ∨ x = i) ∧ id = base + x) ∨ base + ops.size ≤ id) → wpAny C.P .any ops Q fuel (listed.setIfInBounds i true) a2 w2 := by
        intro m2 t2 h2 A2 μ2 a2 w2 I2 hr2 hx2 hb2
        refine ih (listed.setIfInBounds i true) (U.erase i) m2 t2 h2 A2 μ2 a2 w2 (by simpa using hsz) (fun x hxl hx0 => ?_) ?_ (by rw [hset]; exact hcl') (by rw [hset]; exact I2) hr2 hx2 (fun id hid => ?_)
        · have hxi : x ≠ i := by
            rintro rfl
            simp [Array.getD_eq_getD_getElem?, hsz, hxl] at hx0
          rw [getD_set_ne false (Ne.symm hxi)] at hx0
          exact (List.mem_erase_of_ne hxi).2 (hU x hxl hx0)
        · rw [List.length_erase_of_mem hmem]; omega
        · rcases hb2 id hid with h | ⟨x, h, h3⟩ | h
          · exact .inl h
          · exact .inr (.inl ⟨x, by have := congrFun hset x; simp only [eq_iff_iff] at this; exact this.2 h, h3⟩)
          · exact .inr (.inr h)
      unfold wpOp
      simp only [ho]
      rcases inv_step hfr T S0 O I hcl ho hni hcl' with ⟨hw, m2, I2⟩ | ⟨hw, v, h2, hs, m2, I2⟩
      · rw [if_neg (by rw [unwanted_ok hr.tr hw]; simp)]
        refine next m2 _ _ A' μ' _ w' I2 (hr.next hr.r Ext.refl hdi rfl) hx fun id hid => ?_
        rcases hb id hid with h | ⟨x, h, h3⟩ | h
        · exact .inl h
        · exact .inr (.inl ⟨x, .inl h, h3⟩)
        · exact .inr (.inr h)
      · rw [if_pos (wanted_ok hr.tr hw)]
        have hnx : base + ops.size ≤ h'.next := by
          rw [I.next]; exact tr_next hfr T S0 m I.le
        refine .inl (stepA_ok hF hext hs hr (fun hm => ?_) (by omega) hdi fun A2 μ2 a2 w2 hr2 hx2 hb2 => ?_)
        · rcases hb _ hm with h | ⟨x, h, h3⟩ | h
          · have := hA _ h; omega
          · have : x = i := by omega
            exact hni (this ▸ h)
          · omega
        · refine next m2 _ _ A2 μ2 a2 w2 I2 hr2 (hx.trans hx2) fun id hid => ?_
          rcases hb2 id hid with h | rfl | h
          · rcases hb id h with h | ⟨x, h, h3⟩ | h
            · exact .inl h
            · exact .inr (.inl ⟨x, .inl h, h3⟩)
            · exact .inr (.inr h)
          · exact .inr (.inl ⟨i, .inr rfl, rfl⟩)
          · exact .inr (.inr (by omega))

theorem region_ok (hF : Sound C F) (hfr : FrF F) (hext : ∀ f, C.ext f = none) (hm : C.P.follows .mixedOrders = true) {fid : FuncId} {id : Nat} {ops : Array Oper} {draw : Bool} (hc : codeOk C fid nt (.region id ops draw) = true) {ρ : Type} {k : Tmps → Heap → Option ρ} {r : ρ} {lf : Nat}
    (e : exec C F lf fid (.region id ops draw) (fun | .normal => k | _ => fun _ _ => none) t h = some r) (hr : Rel C nt K A μ t h a w) {Q : Exit → Act → World → Prop}
    (hQ : ∀ t' h' A' μ' a' w', k t' h' = some r → Rel C nt K A' μ' t' h' a' w' → Ext K A μ w A' μ' w' → (∀ id, A' id → A id ∨ h.next ≤ id) → h.next ≤ h'.next → Q .normal a' w') : (Code.region id ops draw).wp C.P Q a w := by
  simp only [codeOk, Bool.and_eq_true, Bool.or_eq_true, Bool.not_eq_true'] at hc
  obtain ⟨hc1, hc2⟩ := hc
  have hd : ∀ o ∈ ops, ∀ d, o.dst = some d → d < nt := by
    intro o ho d hod
    rw [List.all_eq_true] at hc1
    have := hc1 o (by simpa using ho)
    rw [hod] at this
    simpa [natBlt] using this
  simp only [exec] at e
  -- the run over whatever order it is that the interpreter takes
  have run : ∀ (ops' : Array Oper), runOps C F fid ops' (C.re fid id) h.next k ops'.toList 0 [] t ⟨h.next + ops'.toList.length, h.objs⟩ = some r →
      ∃ st, Tr C F fid ops' (C.re fid id) h.next 0 [] st ∧ Start h.next ops'.size st ∧ k (st ops'.size).1 (st ops'.size).2 = some r ∧ h.next ≤ (st ops'.size).2.next ∧ ∀ {w' : World}, w'.heap = w.heap → (w'.os = w.os ∧ w'.output = w.output) → Rel C nt K A μ (st 0).1 (st 0).2 a w' := by
    intro ops' e
    obtain ⟨st, s1, T, hk⟩ := runOps_trace ops'.toList 0 [] t _ (fun j => by simp) (by simp) e
    have hlen : ops'.toList.length = ops'.size := by simp
    have S0 : Start h.next ops'.size st := by
      refine ⟨by rw [s1, hlen]; exact Nat.le_refl _, fun x => ?_⟩
      rw [s1]
      show h.get (h.next + x) = none
      cases hg : h.get (h.next + x) with
      | none => rfl
      | some o =>
        obtain ⟨im, him⟩ := img_of hr.r hg
        have := hr.r.alt _ (hr.r.lt _ im him).1
        omega
    have hnx : h.next ≤ (st ops'.size).2.next := by have := tr_next hfr T S0 ops'.size (Nat.le_refl _); omega
    refine ⟨st, T, S0, hk, hnx, fun {w'} hw he => ?_⟩
    rw [s1]
    exact ⟨Ext.TR (Ext.of_heap hw he) hr.tr, (hr.r.of_heap hw).raise (by simp), Ext.glob (A := A) (A' := A) (Ext.of_heap hw he) hr.gl, hr.df, hr.sz, by rw [hw]; exact hr.kb⟩
  cases draw with
  | false =>
    obtain ⟨st, T, S0, hk, hnx, hr0⟩ := run ops e
    apply wp_region
    rw [List.range_eq_range']
    refine text_ok (A := A) (μ := μ) (w := w) hF hext T hfr S0 hd hr.r.alt (fun A' μ' a' w' hr' hx hb => hQ _ _ A' μ' a' w' hk hr' hx hb hnx) ops.size 0 (by simp) A μ a w (hr0 rfl ⟨rfl, rfl⟩) Ext.refl fun id hid => .inl hid
  | true =>
    have hc3 := hc2.resolve_left (by simp)
    obtain ⟨hc4, hc5⟩ := hc3
    have any : ∀ (ops' : Array Oper), OrdOk C ops'.toList (C.re fid id) → (∀ o ∈ ops', ∀ d, o.dst = some d → d < nt) → runOps C F fid ops' (C.re fid id) h.next k ops'.toList 0 [] t ⟨h.next + ops'.toList.length, h.objs⟩ = some r →
        wpAny C.P .any ops' Q ops'.size (Array.replicate ops'.size false) a { w with drawn := w.drawn + 1 } := by
      intro ops' O hd' e
      obtain ⟨st, T, S0, hk, hnx, hr0⟩ := run ops' e
      have hS : (fun x => (Array.replicate ops'.size false).getD x false = true) = fun _ => False := by
        funext x; apply propext
        simp only [Array.getD_eq_getD_getElem?, Array.getElem?_replicate]
        split <;> simp
      refine any_ok (A := A) (μ := μ) (w := w) hF hext T hfr S0 O hd' hr.r.alt (fun t' h' A' μ' a' w' e1 e2 e3 hr' hx hb => ?_) ops'.size _ (List.range ops'.size) 0 (st 0).1 (st 0).2 A μ a _ (by simp) (fun x hx _ => by simpa using hx) (by simp) ?_ ?_ (hr0 rfl ⟨rfl, rfl⟩) (Ext.of_heap rfl ⟨rfl, rfl⟩) fun id hid => .inl hid
      · refine hQ _ _ A' μ' a' w' hk ?_ hx hb hnx
        refine ⟨fun i v hi => hr'.tr i v (by rw [e1]; exact hi), ?_, hr'.gl, hr'.df, hr'.sz, hr'.kb⟩
        rw [← e3]
        exact hr'.r.congr fun i => (e2 i).symm
      · rw [hS]; rintro j o hj; exact hj.elim
      · rw [hS]; exact inv_start
    apply wp_region_any hm
    cases hp : C.perm fid id with
    | nil =>
      simp only [prm, hp] at e hc4
      exact any ops (ordOk_spec hc4) hd e
    | cons p l =>
      simp only [prm, hp] at e hc4 hc5
      rw [Bool.and_eq_true] at hc5
      have hl := permOk_spec hc5.1
      have hg : ∀ (i : Nat) (o : Oper), ops[i]? = some o → (∀ j b, o.guard = some (j, b) → j < ops.size) ∧ ∀ e ∈ o.after, e.on < ops.size := by
        intro i o ho
        have := hc5.2
        rw [List.all_eq_true] at this
        have := this o (by rw [Array.mem_toList_iff, Array.mem_iff_getElem?]; exact ⟨i, ho⟩)
        rw [Bool.and_eq_true, List.all_eq_true] at this
        refine ⟨fun j b hjb => ?_, fun e he => ?_⟩
        · have h1 := this.1; rw [hjb] at h1; simpa [natBlt] using h1
        · simpa [natBlt] using this.2 e (by simpa using he)
      refine wpAny_relabel hl hg ops.size _ (Array.replicate ops.size false) a _ (by simp) (by simp) (fun q i hq => ?_) ?_
      · have h1 := hl.lt q i hq
        have h2 : q < ops.size := by rw [← hl.len]; exact (List.getElem?_eq_some_iff.1 hq).1
        simp [h1, h2]
      · have := any (relabel (p :: l) ops) (ordOk_spec hc4) (fun o ho d hod => ?_) e
        · rw [relabel_size hl] at this; exact this
        · rw [Array.mem_iff_getElem?] at ho
          obtain ⟨q, hq⟩ := ho
          have hql : q < (p :: l).length := by rw [hl.len, ← relabel_size hl]; exact (Array.getElem?_eq_some_iff.1 hq).1
          rw [relabel_get hl (List.getElem?_eq_getElem hql)] at hq
          rw [Option.map_eq_some_iff] at hq
          obtain ⟨o0, ho0, rfl⟩ := hq
          exact hd o0 (by rw [Array.mem_iff_getElem?]; exact ⟨_, ho0⟩) d hod
end Go.Den
