/- From a run of the interpreter to a row: a function that answers true, and leaves all that was there as it was. -/
import Derived.Test.YtogfjphdpconfaaGreatDoorDenSound
import Derived.Test.YtogfjphdpconfaaGreatDoorDenOpen
import Derived.ProofKit
import Derived.ChangeSame
import Derived.WideKeyArgs
namespace Go.Den
open Go Go.ChangeShapes Go.WideShapes Go.RowKit Go.ChangeAt

section
variable {H : Type} {enc : TypeId × Value → H} {P : Program} {W W' : World}

theorem kept_same (hk : W.kept W') {p : MemPlace} (hp : p.block < W.heap.size) : W.sameAt W' p := by
  cases p with
  | cell b off => show W'.cell? _ = W.cell? _; unfold World.cell?; rw [hk.2.2 b hp]
  | map b => exact hk.2.2 b hp
theorem kept_frozen (hk : W.kept W') {b off : Nat} (hb : b < W.heap.size) : W'.frozen? ⟨b, off, none⟩ = W.frozen? ⟨b, off, none⟩ := by
  unfold World.frozen?; rw [hk.2.2 b hb]

theorem trodAll_kept (hl : laidOutB P = true) (hk : W.kept W') {sp : Nat → Bool} : ∀ {ts : List TypeId} {vs : List Value} {ds : List (DataW H)} {ps : List MemPlace}, (∀ t ∈ ts, P.readableRec t = true ∧ t < P.types.size) →
    DataW.TrodAll enc P W 0 (fun _ => true) true ts vs ds ps → (∀ p ∈ ps, sp p.block = true) → DataW.TrodAll enc P W' 0 sp true ts vs ds ps
  | [], [], [], _, _, h, _ => h
  | t :: ts, v :: vs, d :: ds, ps, hr, h, hs => by
    have hlt := DataW.TrodAll.lt h
    obtain ⟨p, q, h1, h2, e⟩ := h
    refine ⟨p, q, WideElems.Trod_stays hl (hr t (by simp)).1 (hr t (by simp)).2 h1 (fun x hx => kept_same hk (hlt x (by rw [e]; exact List.mem_append_left _ hx))) (fun x hx => hs x (by rw [e]; exact List.mem_append_left _ hx)),
      trodAll_kept hl hk (fun u hu => hr u (by simp [hu])) h2 (fun x hx => hs x (by rw [e]; exact List.mem_append_right _ hx)), e⟩

/-- What a law that answers true leaves. -/
theorem post_true {fn : Func} {s : ChangeSpec} {T : TypeId} {apart fresh handsOn again : Bool} {args : Array Value} {ds gs : List (DataW H)} {before : List MemPlace}
    (hl : laidOutB P = true) (hpt : ∀ t ∈ fn.params.toList, P.readableRec t = true ∧ t < P.types.size) (hr : fn.resultTypes = #[T]) (hT : P.underlying T = some .bool) (hs : s.vars = [])
    (hres : s.fn H ds = { results := [.lit (.bool true)], args := ds }) (hW : DataW.Whole enc P fn.params.toList s.vars apart W args.toList ds gs before) (hk : W.kept W') :
    s.post enc P fn apart fresh handsOn again W args (.bool true) W' := by
  have hlt := hW.lt
  have hW0 := hW
  obtain ⟨p, q, h1, h2, e, hz, hn⟩ := hW
  rw [hs] at h2
  obtain ⟨rfl, rfl⟩ := trodVars_none h2
  rw [List.append_nil] at e
  subst e
  have hargs : ∀ sp : Nat → Bool, (∀ x ∈ before, sp x.block = true) → DataW.TrodAll enc P W' 0 sp true fn.params.toList args.toList ds before := fun sp hsp => trodAll_kept hl hk hpt h1 hsp
  have hres2 : ∀ (b : Nat) (sp : Nat → Bool) (hd : Bool), DataW.TrodAll enc P W' b sp hd fn.resultTypes.toList ((Value.bool true).resultList fn.resultTypes.size) [.lit (.bool true)] [] := by
    intro b sp hd
    rw [hr]
    exact trodAll_mk1 (shut_bool hT true)
  refine ⟨ds, [], before, [], before, [], hW0, ?_, ?_, ?_, ?_, fun _ => ⟨?_, ?_⟩⟩
  · rw [List.append_nil, hres]; exact hres2 _ _ _
  · rw [List.append_nil, hres]; exact hargs _ (fun x hx => by simpa using hlt x hx)
  · rw [List.append_nil, hres, hs]; rfl
  · exact World.keptBut_mono (fun _ h => h.elim) (World.keptBut_none_iff.2 hk)
  · rw [hr]
    intro j t r h3 h4
    match j, h3, h4 with
    | 0, h3, h4 =>
      simp [Value.resultList] at h3 h4
      subst h3; subst h4
      simp [Value.okWide, hT, Cell.okWide, Cell.ok]
  · refine ⟨[.lit (.bool true)] ++ ds, [], [] ++ before ++ [], ⟨[] ++ before, [], ?_, ?_, rfl, ?_, ?_⟩, ?_⟩
    · exact trodAll_append (hargs _ (fun _ _ => rfl)) (hres2 _ _ _)
    · rw [hs]; rfl
    · intro b off hp
      simp only [List.nil_append, List.append_nil] at hp
      rw [kept_frozen hk (show b < W.heap.size from hlt _ hp)]
      exact hz b off hp
    · intro ha
      simpa using hn ha
    · intro x hx _
      simpa using hx

/-- What a value is, by its type. -/
def ArgTy (P : Program) (n : Nat) (t : TypeId) (a : AVal) : Prop :=
  match P.underlying t with
  | some (.struct _) | some (.array _ _) => ∃ cs, a = .agg cs ∧ HasTy P n t cs
  | _ => HasTy P n t [a]

def ArgsTy (P : Program) (n : Nat) : List TypeId → List AVal → Prop
  | [], [] => True
  | t :: ts, a :: as => ArgTy P n t a ∧ ArgsTy P n ts as
  | _, _ => False

theorem open_arg {n : Nat} {t : TypeId} {v : Value} {d : DataW H} {ps : List MemPlace} {base : Nat} {spare : Nat → Bool} {μ : Mu} (hp : plainTy P n t = true) (hv : Value.okWide P W .any base t v)
    (h : DataW.Trod enc P W 0 spare true t v d ps) : ∃ a, ArgTy P n t a ∧ V (fun _ => False) W μ (fun _ => False) a v := by
  obtain ⟨fuel, h⟩ := h
  obtain ⟨as, c⟩ := open_ty n t fuel _ _ hp h (fun _ => False) (w := W) (μ := μ)
  by_cases hag : ∃ cs : Array Value, v = .agg cs
  · obtain ⟨cs, rfl⟩ := hag
    refine ⟨.agg as, ?_, .agg _ as cs (by have := c.len; simpa [Value.cells] using this) c.cell (fun i a x ha hx => c.v i a x ha (by simpa [Value.cells] using hx))⟩
    unfold ArgTy
    unfold Value.okWide at hv
    split
    · exact ⟨as, rfl, c.ty⟩
    · exact ⟨as, rfl, c.ty⟩
    · exfalso
      rename_i h1 h2
      cases n with
      | zero => simp [plainTy] at hp
      | succ n =>
        unfold plainTy at hp
        split at hp
        · rename_i ht; rw [ht] at hv; simp [Cell.okWide, Cell.ok, ht] at hv
        · rename_i ht; rw [ht] at hv; simp [Cell.okWide, Cell.ok, ht] at hv
        · rename_i ht; rw [ht] at hv; simp [Cell.okWide, Cell.ok, ht] at hv
        · rename_i ht; rw [ht] at hv; simp [Cell.okWide, Cell.ok, ht] at hv
        · rename_i ht; exact h1 _ ht
        · rename_i ht; exact h2 _ _ ht
        · cases hp
  · have hcs : v.cells.toList = [v] := by
      cases v <;> first | rfl | exact absurd ⟨_, rfl⟩ hag
    rw [hcs] at c
    have hlen := c.len
    match as, hlen, c with
    | [a], _, c =>
      refine ⟨a, ?_, c.v 0 a v rfl rfl⟩
      unfold ArgTy
      unfold Value.okWide at hv
      split
      · rename_i hu
        rw [hu] at hv
        obtain ⟨cs, h1, _⟩ := hv
        exact absurd ⟨cs, h1⟩ hag
      · rename_i hu
        rw [hu] at hv
        obtain ⟨cs, h1, _⟩ := hv
        exact absurd ⟨cs, h1⟩ hag
      · exact c.ty

theorem open_args {n : Nat} {μ : Mu} {base : Nat} {spare : Nat → Bool} : ∀ {ts : List TypeId} {vs : List Value} {ds : List (DataW H)} {ps : List MemPlace}, (∀ t ∈ ts, plainTy P n t = true) →
    (∀ (j : Nat) t v, ts[j]? = some t → vs[j]? = some v → Value.okWide P W .any base t v) → DataW.TrodAll enc P W 0 spare true ts vs ds ps →
    ∃ as, ArgsTy P n ts as ∧ VL (fun _ => False) W μ (fun _ => False) as vs
  | [], [], [], _, _, _, _ => ⟨[], trivial, rfl, fun i a x h => by simp at h⟩
  | t :: ts, v :: vs, d :: ds, ps, hp, hv, h => by
    obtain ⟨p, q, h1, h2, e⟩ := h
    obtain ⟨a, ha, va⟩ := open_arg (μ := μ) (hp t (by simp)) (hv 0 t v rfl rfl) h1
    obtain ⟨as, has, vas⟩ := open_args (μ := μ) (fun u hu => hp u (by simp [hu])) (fun j u x hu hx => hv (j + 1) u x (by simpa using hu) (by simpa using hx)) h2
    refine ⟨a :: as, ⟨ha, has⟩, by simp [vas.1], fun i b x hb hx => ?_⟩
    cases i with
    | zero => simp at hb hx; subst hb; subst hx; exact va
    | succ i => exact vas.2 i b x (by simpa using hb) (by simpa using hx)
end

/-- The contract of a law. -/
theorem law_calls {C : Cfg} {f : FuncId} {fn : Func} {s : ChangeSpec} {T : TypeId} {n N : Nat} {H : Type} {enc : TypeId × Value → H} {apart fresh handsOn again : Bool} {W : World} {base : Nat} {args : Array Value} {ds gs : List (DataW H)} {before : List MemPlace}
    (hg : ∀ g, C.glob g = none) (hS : Sound C (callH C N)) (hl : laidOutB C.P = true) (hpt : ∀ t ∈ fn.params.toList, C.P.readableRec t = true ∧ t < C.P.types.size ∧ plainTy C.P n t = true) (hr : fn.resultTypes = #[T]) (hT : C.P.underlying T = some .bool) (hs : s.vars = [])
    (hres : ∀ ds : List (DataW H), ds.length = fn.params.size → s.fn H ds = { results := [.lit (.bool true)], args := ds })
    (hyes : ∀ as, ArgsTy C.P n fn.params.toList as → ∃ h', callH C N f as .empty = some (.bool true, h'))
    (hval : ∀ (j : Nat) t v, fn.params[j]? = some t → args[j]? = some v → Value.okWide C.P W .any base t v)
    (hW : DataW.Whole enc C.P fn.params.toList s.vars apart W args.toList ds gs before) :
    Calls C.P f args W fun e W' => ∃ v, e = .returned v ∧ s.post enc C.P fn apart fresh handsOn again W args v W' := by
  have hW0 := hW
  obtain ⟨p, q, h1, h2, e, hz, hn⟩ := hW
  obtain ⟨as, a1, a2⟩ := open_args (μ := fun _ => none) (fun t ht => (hpt t ht).2.2) (fun j t v ht hv => hval j t v (by simpa using ht) (by simpa using hv)) h1
  obtain ⟨h', e'⟩ := hyes as a1
  have bad : Bad (fun _ => False) (fun _ => none) = fun _ => False := by
    funext b
    simp [Bad]
  obtain ⟨_, hc⟩ := hS _ _ _ _ _ e'
  refine (hc (fun _ => False) (fun _ => False) (fun _ => none) W args R.empty (fun g cs hgc => by rw [hg] at hgc; cases hgc) (by rw [bad]; exact a2) (fun _ _ h => h)).mono fun en W' hen => ?_
  cases en with
  | panicked _ => exact hen.elim
  | returned v =>
    obtain ⟨A', μ', _, hx, _, hv⟩ := hen
    cases hv with
    | bool =>
      have hlen : ds.length = fn.params.size := by
        have : ∀ {ts : List TypeId} {vs : List Value} {ds : List (DataW H)} {ps : List MemPlace}, DataW.TrodAll enc C.P W 0 (fun _ => true) true ts vs ds ps → ds.length = ts.length := by
          intro ts
          induction ts with
          | nil => intro vs ds ps h; cases vs <;> cases ds <;> simp_all [DataW.TrodAll]
          | cons t ts ih =>
            intro vs ds ps h
            cases vs <;> cases ds <;> simp only [DataW.TrodAll] at h
            obtain ⟨p, q, _, h2, _⟩ := h
            simp [ih h2]
        simpa using this h1
      exact ⟨_, rfl, post_true hl (fun t ht => ⟨(hpt t ht).1, (hpt t ht).2.1⟩) hr hT hs (hres ds hlen) hW0 ⟨hx.env.1, hx.env.2, fun i hi => (hx.old i hi (by rw [bad]; exact fun h => h)).2⟩⟩
  | _ => exact hen.elim
end Go.Den
