/- The ghost machine's regions that draw their order are the model's (3). -/
import Derived.Test.YtloflflapneheaaGreatDoorGhT
set_option linter.unusedSectionVars false
set_option linter.unusedVariables false
set_option linter.unusedSimpArgs false
namespace Go.Gh
variable [Sym]
variable {P : Program}

abbrev Lst (listed : Array Bool) (i : Nat) : Prop := listed.getD i false = true

/-- what the ghost machine did and the model did not yet: it comes to the same -/
def Pend (P : Program) (ops : List Oper) (a : GAct) (h : Heap) (o : Oper) : Prop :=
  (gwant o ops a.tmps = true → ∃ v, gop P o (a.evIn (tmpsOf o)) h = some (.val v h) ∧ ∀ d, o.dst = some d → a.tmps.getD d undef = v ∨ a.tmps.length ≤ d) ∧
  (gwant o ops a.tmps = false → ∀ d, o.dst = some d → a.tmps.getD d undef = undef)

structure Inv (P : Program) (ops : List Oper) (m : List Nat) (sm : Nat) (listed : Array Bool) (done : Nat) (a : GAct) (h : Heap) (ρ : Ren) (α : Act) (w : World) : Prop where
  size : listed.size = ops.length
  sub : ∀ i : Nat, Lst listed i → done.testBit i = true
  pend : ∀ (i : Nat) (o : Oper), ops[i]? = some o → done.testBit i = true → ¬ Lst listed i → sm.testBit i = true ∧ Pend P ops a h o
  closed : ∀ i j : Nat, Lst listed i → (m.getD i 0).testBit j = true → Lst listed j
  closedG : ∀ (i j : Nat), i < ops.length → done.testBit i = true → (m.getD i 0).testBit j = true → done.testBit j = true
  sim : HSim P ρ h w.heap
  tmps : ∀ t, (∀ (i : Nat) (o : Oper), ops[i]? = some o → done.testBit i = true → ¬ Lst listed i → o.dst ≠ some t) → VR ρ (a.tmps.getD t undef) (α.tmps.getD t undef)
  len : α.tmps.size = a.tmps.length
  defers : α.defers = []

theorem getD_put {a : GAct} {d : Option Tmp} {v : Value} {t : Tmp} (h : d ≠ some t) : (a.put d v).tmps.getD t undef = a.tmps.getD t undef := by
  cases d with
  | none => rfl
  | some d =>
    have : d ≠ t := fun e => h (by rw [e])
    simp [GAct.put, List.getD_eq_getElem?_getD, List.getElem?_set_ne this]
theorem getD_put_self {a : GAct} {d : Tmp} {v : Value} : (a.put (some d) v).tmps.getD d undef = v ∨ a.tmps.length ≤ d := by
  by_cases hl : d < a.tmps.length
  · left; simp [GAct.put, List.getD_eq_getElem?_getD, hl]
  · right; exact Nat.le_of_not_lt hl
theorem len_put {a : GAct} {d : Option Tmp} {v : Value} : (a.put d v).tmps.length = a.tmps.length := by
  cases d <;> simp [GAct.put]
theorem getD_aput {a : Act} {d : Option Tmp} {v : Value} {t : Tmp} (h : d ≠ some t) : (a.put d v).tmps.getD t undef = a.tmps.getD t undef := by
  cases d with
  | none => rfl
  | some d =>
    have : d ≠ t := fun e => h (by rw [e])
    simp [Act.put, Array.getD_eq_getD_getElem?, Array.getElem?_setIfInBounds_ne this]
theorem getD_aput_self {a : Act} {d : Tmp} {v : Value} : (a.put (some d) v).tmps.getD d undef = if d < a.tmps.size then v else undef := by
  simp only [Act.put, Array.getD_eq_getD_getElem?, Array.getElem?_setIfInBounds, if_true]
  split <;> rfl
theorem size_aput {a : Act} {d : Option Tmp} {v : Value} : (a.put d v).tmps.size = a.tmps.size := by
  cases d <;> simp [Act.put]
theorem VRs_of {ρ : Ren} : ∀ {l k : List Value}, k.length = l.length → (∀ t, VR ρ (l.getD t undef) (k.getD t undef)) → VRs ρ l k
  | [], k, hl, _ => by simp at hl; subst hl; exact .nil
  | x :: l, [], hl, _ => by simp at hl
  | x :: l, y :: k, hl, h => .cons (by simpa using h 0) (VRs_of (by simpa using hl) fun t => by simpa using h (t + 1))
theorem getD_out {l : List Value} {d : Nat} (h : l.length ≤ d) : l.getD d undef = undef := by
  simp [List.getD_eq_getElem?_getD, List.getElem?_eq_none h]

/-- a guard's temporary is related: both want the same -/
theorem gwant_one {ρ : Ren} {a : GAct} {α : Act} {ops : List Oper} {o : Oper} (hlen : α.tmps.size = a.tmps.length) (h : ∀ j want, o.guard = some (j, want) → ∀ d, (ops[j]?).bind (·.dst) = some d → VR ρ (a.tmps.getD d undef) (α.tmps.getD d undef)) :
    Region.wanted o (yielded ops.toArray α.tmps) = gwant o ops a.tmps := by
  unfold Region.wanted gwant
  cases hg : o.guard with
  | none => rfl
  | some g =>
    obtain ⟨j, want⟩ := g
    have key : yielded ops.toArray α.tmps j = gyield ops a.tmps j := by
      unfold yielded gyield
      have : ops.toArray[j]? = ops[j]? := by simp
      rw [this]
      cases hd : (ops[j]?).bind (·.dst) with
      | none => rfl
      | some d =>
        have k := h j want hg d hd
        simp only [Option.bind_some]
        by_cases hl : d < a.tmps.length
        · have h1 : a.tmps[d]? = some (a.tmps.getD d undef) := by simp [List.getD_eq_getElem?_getD, hl]
          have h2 : α.tmps[d]? = some (α.tmps.getD d undef) := by
            have : d < α.tmps.size := by rw [hlen]; exact hl
            simp [Array.getD_eq_getD_getElem?, this]
          rw [h1, h2]
          revert k
          generalize a.tmps.getD d undef = x
          generalize α.tmps.getD d undef = y
          intro k
          cases y with
          | bool b => rw [k.bool]
          | _ =>
            cases x with
            | bool b => simp [VR] at k
            | _ => rfl
        · have h1 : a.tmps[d]? = none := List.getElem?_eq_none (Nat.le_of_not_lt hl)
          have h2 : α.tmps[d]? = none := Array.getElem?_eq_none (by rw [hlen]; exact Nat.le_of_not_lt hl)
          rw [h1, h2]
    simp only [key]

theorem gwant_put {a : GAct} {ops : List Oper} {o : Oper} {d : Option Tmp} {v : Value} (h : ∀ t, d = some t → t ∉ readsOf ops o) : gwant o ops (a.put d v).tmps = gwant o ops a.tmps := by
  unfold gwant
  cases hg : o.guard with
  | none => rfl
  | some g =>
    obtain ⟨j, want⟩ := g
    have key : gyield ops (a.put d v).tmps j = gyield ops a.tmps j := by
      unfold gyield
      cases hd : (ops[j]?).bind (·.dst) with
      | none => rfl
      | some x =>
        simp only [Option.bind_some]
        have : (a.put d v).tmps[x]? = a.tmps[x]? := by
          cases d with
          | none => rfl
          | some y =>
            have hne : y ≠ x := fun e => by
              subst e
              apply h y rfl
              unfold readsOf
              rw [hg]
              simp [hd]
            simp [GAct.put, List.getElem?_set_ne hne]
        rw [this]
    simp only [key]
theorem evIn_put {a : GAct} {l : List Tmp} {d : Option Tmp} {v : Value} (h : ∀ t, d = some t → t ∉ l) : (a.put d v).evIn l = a.evIn l := by
  funext x
  cases x with
  | tmp t =>
    simp only [GAct.evIn]
    cases hh : hasN l t with
    | false => rfl
    | true =>
      have : d ≠ some t := fun e => h t e (hasN_iff.1 hh)
      rw [cond_true, cond_true, getD_put this]
  | const c => rfl
  | global g => rfl
  | func f => rfl
theorem evIn_ok {ρ : Ren} {a : GAct} {α : Act} {l : List Tmp} (h : ∀ t, t ∈ l → VR ρ (a.tmps.getD t undef) (α.tmps.getD t undef)) : EvOK ρ (a.evIn l) α.eval := by
  intro x v e
  cases x with
  | tmp t =>
    simp only [GAct.evIn] at e
    cases hh : hasN l t with
    | false => rw [hh] at e; cases e
    | true => rw [hh] at e; cases e; exact h t (hasN_iff.1 hh)
  | const c =>
    simp only [GAct.evIn, GAct.ev] at e
    split at e
    · rename_i hp; cases e; exact VR.of_plain _ hp
    · cases e
  | global g => simp [GAct.evIn, GAct.ev] at e
  | func f => simp only [GAct.evIn, GAct.ev, Option.some.injEq] at e; subst e; exact VR.func.2 ⟨[], [], rfl, .nil, .nil⟩

theorem Pend.put {ops : List Oper} {a : GAct} {h : Heap} {o : Oper} {d : Option Tmp} {v : Value} (k : Pend P ops a h o) (h1 : ∀ t, d = some t → t ∉ readsOf ops o) (h2 : ∀ t, d = some t → o.dst ≠ some t) : Pend P ops (a.put d v) h o := by
  have hr : ∀ t, d = some t → t ∉ tmpsOf o := fun t ht hm => h1 t ht (by unfold readsOf; exact List.mem_append_left _ hm)
  have hd : ∀ x, o.dst = some x → d ≠ some x := fun x hx e => h2 x e hx
  refine ⟨fun hw => ?_, fun hw x hx => ?_⟩
  · rw [gwant_put h1] at hw
    obtain ⟨u, e1, e2⟩ := k.1 hw
    refine ⟨u, by rw [evIn_put hr]; exact e1, fun x hx => ?_⟩
    rw [getD_put (hd x hx), len_put]; exact e2 x hx
  · rw [gwant_put h1] at hw
    rw [getD_put (hd x hx)]; exact k.2 hw x hx

theorem bit_add {done i j : Nat} : (done ||| 2 ^ i).testBit j = true ↔ done.testBit j = true ∨ j = i := by
  rw [Nat.testBit_or, Nat.testBit_two_pow, Bool.or_eq_true, decide_eq_true_eq]
  constructor
  · rintro (h | h)
    · exact .inl h
    · exact .inr h.symm
  · rintro (h | h)
    · exact .inl h
    · exact .inr h.symm

theorem Lst.set {listed : Array Bool} {i j : Nat} (hi : i < listed.size) : Lst (listed.setIfInBounds i true) j ↔ Lst listed j ∨ j = i := by
  unfold Lst
  by_cases e : i = j
  · subst e; simp [Array.getD_eq_getD_getElem?, hi]
  · rw [getD_set_ne _ e]
    constructor
    · exact .inl
    · rintro (h | h)
      · exact h
      · exact absurd h.symm e

section
variable {ops : List Oper} {m : List Nat} {sm : Nat} {listed : Array Bool} {done : Nat} {a : GAct} {h : Heap} {ρ : Ren} {α : Act} {w : World}

/-- an operation whose like stand ahead names nothing that is pending -/
theorem Inv.reads (F : Facts ops m sm) (I : Inv P ops m sm listed done a h ρ α w) {i : Nat} {o : Oper} (ho : ops[i]? = some o) (hm : ∀ j, (m.getD i 0).testBit j = true → Lst listed j) {t : Tmp} (ht : t ∈ tmpsOf o) :
    VR ρ (a.tmps.getD t undef) (α.tmps.getD t undef) := by
  apply I.tmps
  intro j o' ho' hd hnl hdst
  by_cases e : i = j
  · subst e; rw [ho] at ho'; cases ho'; exact F.self i o t ho hdst ht
  · have hs := (I.pend j o' ho' hd hnl).1
    rcases F.named j o' t i o ho' hdst ho e (by unfold readsOf; exact List.mem_append_left _ ht) with h1 | ⟨h1, _⟩
    · exact hnl (hm j h1)
    · rw [hs] at h1; cases h1
theorem Inv.want (F : Facts ops m sm) (I : Inv P ops m sm listed done a h ρ α w) {i : Nat} {o : Oper} (ho : ops[i]? = some o) (hm : ∀ j, (m.getD i 0).testBit j = true → Lst listed j) :
    Region.wanted o (yielded ops.toArray α.tmps) = gwant o ops a.tmps := by
  refine gwant_one (ρ := ρ) I.len fun j want hg d hd => ?_
  apply I.tmps
  intro j' o' ho' hdn hnl hdst
  obtain ⟨oj, hoj, hdj⟩ := bind_some_eq hd
  by_cases e : j' = j
  · subst e; exact hnl (hm j' (F.guard i o j' want ho hg))
  · exact F.uniq j oj d j' o' hoj hdj ho' e hdst

/-- the ghost machine carries out a soft operation -/
theorem Inv.soft (F : Facts ops m sm) (I : Inv P ops m sm listed done a h ρ α w) {i : Nat} {o : Oper} {v : Value} (ho : ops[i]? = some o) (hs : sm.testBit i = true) (hnd : done.testBit i = false)
    (hm : ∀ j, (m.getD i 0).testBit j = true → done.testBit j = true)
    (hv : (gwant o ops a.tmps = true ∧ ∃ g, gop P o (a.evIn (tmpsOf o)) h = some (.val v g)) ∨ (gwant o ops a.tmps = false ∧ v = undef)) :
    Inv P ops m sm listed (done ||| 2 ^ i) (a.put o.dst v) h ρ α w := by
  have hil : i < ops.length := (List.getElem?_eq_some_iff.1 ho).1
  have hnr : ∀ t, o.dst = some t → t ∉ readsOf ops o := fun t ht hr => by
    unfold readsOf at hr
    rcases List.mem_append.1 hr with h1 | h1
    · exact F.self i o t ho ht h1
    · cases hg : o.guard with
      | none => rw [hg] at h1; simp at h1
      | some g =>
        obtain ⟨j, want⟩ := g
        rw [hg] at h1
        simp only [Option.mem_toList] at h1
        obtain ⟨oj, hoj, hdj⟩ := bind_some_eq (Option.mem_def.1 h1)
        have hb := F.guard i o j want ho hg
        have hji : j < i := by
          have := F.back i o ho
          rcases Nat.lt_or_ge j i with hlt | hge
          · exact hlt
          · have := Nat.testBit_lt_two_pow (Nat.lt_of_lt_of_le this (Nat.pow_le_pow_right (by omega) hge))
            rw [hb] at this; cases this
        exact F.uniq i o t j oj ho ht hoj (by omega) hdj
  refine ⟨I.size, fun j hj => bit_add.2 (.inl (I.sub j hj)), fun j o' ho' hd hnl => ?_, I.closed, fun j k hj hd hk => ?_, I.sim, fun t ht => ?_, by rw [len_put]; exact I.len, I.defers⟩
  · by_cases e : j = i
    · subst e
      rw [ho] at ho'; cases ho'
      refine ⟨hs, ?_⟩
      rcases hv with ⟨hw, g, hg⟩ | ⟨hw, rfl⟩
      · refine ⟨fun _ => ⟨v, ?_, fun d hd => ?_⟩, fun hw' => ?_⟩
        · rw [evIn_put (fun t ht => F.self j o t ho ht)]
          obtain ⟨u, hu⟩ := soft_heap (F.soft j o ho hs) hg
          cases hu; exact hg
        · rw [hd, len_put]; exact getD_put_self
        · rw [gwant_put hnr, hw] at hw'; cases hw'
      · refine ⟨fun hw' => ?_, fun _ d hd => ?_⟩
        · rw [gwant_put hnr, hw] at hw'; cases hw'
        · rw [hd]
          rcases getD_put_self (a := a) (d := d) (v := undef) with h1 | h1
          · exact h1
          · exact getD_out (by rw [len_put]; exact h1)
    · have hd' : done.testBit j = true := (bit_add.1 hd).resolve_right e
      obtain ⟨h1, h2⟩ := I.pend j o' ho' hd' hnl
      have hjl : j < ops.length := (List.getElem?_eq_some_iff.1 ho').1
      refine ⟨h1, h2.put (fun t ht hr => ?_) (fun t ht => F.uniq i o t j o' ho ht ho' e)⟩
      rcases F.named i o t j o' ho ht ho' e hr with h3 | ⟨h3, _⟩
      · have := I.closedG j i hjl hd' h3
        rw [hnd] at this; cases this
      · rw [hs] at h3; cases h3
  · rcases bit_add.1 hd with h1 | rfl
    · exact bit_add.2 (.inl (I.closedG j k hj h1 hk))
    · exact bit_add.2 (.inl (hm k hk))
  · have hne : o.dst ≠ some t := by
      by_cases hli : Lst listed i
      · have := I.sub i hli; rw [hnd] at this; cases this
      · exact ht i o ho (bit_add.2 (.inr rfl)) hli
    rw [getD_put hne]
    exact I.tmps t fun j o' ho' hd hnl => ht j o' ho' (bit_add.2 (.inl hd)) hnl

/-- the model carries out an operation that the ghost machine did, or both do -/
theorem Inv.real (I : Inv P ops m sm listed done a h ρ α w) {i : Nat} {o : Oper} {v v' : Value} {h' : Heap} {ρ' : Ren} {w' : World} {a' : GAct} {done' : Nat} (ho : ops[i]? = some o)
    (hm : ∀ j, (m.getD i 0).testBit j = true → Lst listed j) (hs' : HSim P ρ' h' w'.heap) (hle : ρ.le ρ') (kv : VR ρ' v v')
    (hd' : ∀ j, done'.testBit j = true ↔ done.testBit j = true ∨ j = i)
    (ha : a' = a.put o.dst v ∨ (a' = a ∧ ∀ d, o.dst = some d → a.tmps.getD d undef = v ∨ a.tmps.length ≤ d))
    (hp : ∀ (j : Nat) (o' : Oper), ops[j]? = some o' → done.testBit j = true → ¬ Lst listed j → j ≠ i → Pend P ops a' h' o') :
    Inv P ops m sm (listed.setIfInBounds i true) done' a' h' ρ' (α.put o.dst v') w' := by
  have hil : i < ops.length := (List.getElem?_eq_some_iff.1 ho).1
  have hi : i < listed.size := by rw [I.size]; exact hil
  have hlen : a'.tmps.length = a.tmps.length := by
    rcases ha with rfl | ⟨rfl, _⟩
    · exact len_put
    · rfl
  refine ⟨by simpa using I.size, fun j hj => ?_, fun j o' ho' hd hnl => ?_, fun j k hj hk => ?_, fun j k hj hd hk => ?_, hs', fun t ht => ?_, by rw [size_aput, I.len, hlen], ?_⟩
  · rcases (Lst.set hi).1 hj with h1 | h1
    · exact (hd' j).2 (.inl (I.sub j h1))
    · exact (hd' j).2 (.inr h1)
  · have hne : j ≠ i := fun e => hnl ((Lst.set hi).2 (.inr e))
    have hnl' : ¬ Lst listed j := fun e => hnl ((Lst.set hi).2 (.inl e))
    have hd1 := ((hd' j).1 hd).resolve_right hne
    exact ⟨(I.pend j o' ho' hd1 hnl').1, hp j o' ho' hd1 hnl' hne⟩
  · rcases (Lst.set hi).1 hj with h1 | rfl
    · exact (Lst.set hi).2 (.inl (I.closed j k h1 hk))
    · exact (Lst.set hi).2 (.inl (hm k hk))
  · rcases (hd' j).1 hd with h1 | rfl
    · exact (hd' k).2 (.inl (I.closedG j k hj h1 hk))
    · exact (hd' k).2 (.inl (I.sub k (hm k hk)))
  · by_cases e : o.dst = some t
    · rw [e, getD_aput_self]
      by_cases hlt : t < a.tmps.length
      · rw [if_pos (by rw [I.len]; exact hlt)]
        rcases ha with rfl | ⟨rfl, ha⟩
        · rw [e]
          rcases getD_put_self (a := a) (d := t) (v := v) with h1 | h1
          · rw [h1]; exact kv
          · exact absurd hlt (Nat.not_lt_of_le h1)
        · rcases ha t e with h1 | h1
          · rw [h1]; exact kv
          · exact absurd hlt (Nat.not_lt_of_le h1)
      · rw [if_neg (by rw [I.len]; exact hlt), getD_out (by rw [hlen]; exact Nat.le_of_not_lt hlt)]
        exact VR.undef
    · rw [getD_aput e]
      have : a'.tmps.getD t undef = a.tmps.getD t undef := by
        rcases ha with rfl | ⟨rfl, _⟩
        · exact getD_put e
        · rfl
      rw [this]
      refine VR.mono hle _ _ (I.tmps t fun j o' ho' hd hnl hdst => ?_)
      by_cases ej : j = i
      · subst ej; rw [ho] at ho'; cases ho'; exact e hdst
      · refine ht j o' ho' ((hd' j).2 (.inl hd)) (fun hl => ?_) hdst
        rcases (Lst.set hi).1 hl with h1 | h1
        · exact hnl h1
        · exact ej h1
  · cases hdd : o.dst <;> exact I.defers

/-- the ghost machine goes ahead with what is soft -/
theorem Inv.ahead {call : Callee} {G : GQ} (F : Facts ops m sm) : ∀ {f : Nat} {done : Nat} {a : GAct}, Inv P ops m sm listed done a h ρ α w → gdr P call ops m sm G f done a h →
    ∃ f' done' a', Inv P ops m sm listed done' a' h ρ α w ∧ gdr P call ops m sm G f' done' a' h ∧ (f' = 0 ∨ readySoft m sm done' ops 0 = none)
  | 0, done, a, I, g => ⟨0, done, a, I, g, .inl rfl⟩
  | f + 1, done, a, I, g => by
    cases hr : readySoft m sm done ops 0 with
    | none => exact ⟨f + 1, done, a, I, g, .inr hr⟩
    | some x =>
      obtain ⟨i, o⟩ := x
      obtain ⟨j, hj, rfl, hs, hnd, hm⟩ := readySoft_some hr
      simp only [Nat.zero_add] at hs hnd hm
      simp only [gdr, hr, Nat.zero_add] at g
      split at g
      · rename_i hw
        exact Inv.ahead F (I.soft F hj hs hnd hm (.inr ⟨hw, rfl⟩)) g
      · rename_i hw
        split at g
        · rename_i v g' hg
          exact Inv.ahead F (I.soft F hj hs hnd hm (.inl ⟨hw, _, hg⟩)) g
        · exact g.elim

theorem count_unlisted (listed : Array Bool) {i : Nat} (hi : i < listed.size) (hl : ¬ Lst listed i) : (listed.setIfInBounds i true).toList.count false + 1 = listed.toList.count false := by
  have hf : listed.toList[i]'(by simpa using hi) = false := by
    unfold Lst at hl
    rw [Array.getD_eq_getD_getElem?] at hl
    simp [hi] at hl
    simpa using hl
  have hpos : 0 < listed.toList.count false := List.count_pos_iff.2 (by rw [← hf]; exact List.getElem_mem _)
  have := List.count_set (a := true) (b := false) (l := listed.toList) (i := i) (by simpa using hi)
  rw [Array.toList_setIfInBounds, this, hf]
  have e1 : (false == false) = true := rfl
  have e2 : (true == false) = false := rfl
  rw [e1, e2, if_pos rfl, if_neg (by decide)]
  generalize listed.toList.count false = c at hpos ⊢
  omega
theorem all_listed (listed : Array Bool) (h : listed.toList.count false = 0) {i : Nat} (hi : i < listed.size) : Lst listed i := by
  have h1 := List.count_eq_zero.1 h
  unfold Lst
  rw [Array.getD_eq_getD_getElem?]
  simp only [hi, Array.getElem?_eq_getElem, Option.getD_some]
  cases hb : listed[i] with
  | true => rfl
  | false =>
    exfalso; apply h1
    rw [← hb, ← Array.getElem_toList]; exact List.getElem_mem _
end

theorem gdr_sound {call : Callee} (hc : CallSound P call) {ops : List Oper} {m : List Nat} {sm : Nat} (F : Facts ops m sm) {G : GQ} {Q : Exit → Act → World → Prop} : ∀ (k : Nat) {f : Nat} {listed : Array Bool} {done : Nat} {a : GAct} {h : Heap} {ρ : Ren} {α : Act} {w : World},
    listed.toList.count false = k → Inv P ops m sm listed done a h ρ α w → gdr P call ops m sm G f done a h → Goes P G Q ρ h w → wpAny P .any ops.toArray Q k listed α w := by
  intro k
  induction k with
  | zero =>
    intro f listed done a h ρ α w hk I g hq
    have hall : ∀ i, i < ops.length → Lst listed i := fun i hi => all_listed listed hk (by rw [I.size]; exact hi)
    refine ⟨?_, ?_⟩
    · apply List.eq_nil_iff_forall_not_mem.2
      intro j hj
      obtain ⟨h0, o, ho, _⟩ := mem_ready.1 hj
      have hj' : j < ops.length := by simpa using (Array.getElem?_eq_some_iff.1 ho).1
      have := hall j hj'
      unfold Lst at this
      rw [Array.getD_eq_getD_getElem?] at this h0
      cases hx : listed[j]? with
      | none => rw [hx] at this; simp at this
      | some b => rw [hx] at this h0; simp at this h0; rw [this] at h0; cases h0
    · cases f with
      | zero =>
        simp only [gdr] at g
        split at g
        · refine hq _ _ _ _ _ _ g (Post.refl I.sim) ⟨VRs_of (by simpa using I.len) fun t => ?_, I.defers⟩
          have := I.tmps t fun i o ho _ hnl => absurd (hall i (List.getElem?_eq_some_iff.1 ho).1) hnl
          rw [Array.getD_eq_getD_getElem?] at this
          rw [List.getD_eq_getElem?_getD (l := α.tmps.toList), Array.getElem?_toList]
          exact this
        · exact g.elim
      | succ f =>
        exfalso
        have hs : readySoft m sm done ops 0 = none := by
          cases hr : readySoft m sm done ops 0 with
          | none => rfl
          | some x =>
            obtain ⟨i, o⟩ := x
            obtain ⟨j, hj, rfl, _, hnd, _⟩ := readySoft_some hr
            have := I.sub _ (hall _ (List.getElem?_eq_some_iff.1 hj).1)
            simp only [Nat.zero_add] at hnd
            rw [hnd] at this; cases this
        have hlo : readyLoud m sm done ops 0 = [] := by
          cases hr : readyLoud m sm done ops 0 with
          | nil => rfl
          | cons x l =>
            obtain ⟨j, hj, e, hnd⟩ := readyLoud_ok (x := x) (m := m) (sm := sm) (done := done) (l := ops) (k := 0) (by rw [hr]; exact List.mem_cons_self)
            have := I.sub _ (hall _ (List.getElem?_eq_some_iff.1 hj).1)
            rw [e, Nat.zero_add] at hnd
            rw [hnd] at this; cases this
        simp only [gdr, hs, hlo, gand] at g
  | succ k ih =>
    intro f listed done a h ρ α w hk I g hq
    -- something is not listed, so something is ready
    have hun : ∃ i, i < ops.length ∧ ¬ Lst listed i := by
      have hmem : false ∈ listed.toList := List.count_pos_iff.1 (by omega)
      obtain ⟨i, hi, he⟩ := List.mem_iff_getElem.1 hmem
      refine ⟨i, by rw [← I.size]; simpa using hi, fun hl => ?_⟩
      unfold Lst at hl
      have hi' : i < listed.size := by simpa using hi
      have he' : listed[i] = false := by simpa using he
      rw [Array.getD_eq_getD_getElem?] at hl
      simp [hi', he'] at hl
    refine ⟨fun hnil => ?_, fun i hi => ?_⟩
    · exfalso
      obtain ⟨i, hi, hl⟩ := hun
      have key : ∀ n i, i < n → i < ops.length → ¬ Lst listed i → False := by
        intro n
        induction n with
        | zero => intro i hn; omega
        | succ n ihn =>
          intro i hn hi hl
          have ho : ops[i]? = some ops[i] := by simp [hi]
          by_cases hall : ∀ e ∈ ops[i].after.toList, Region.binds .any e = true → Lst listed e.on
          · have : i ∈ Region.ready .any ops.toArray listed := by
              refine mem_ready.2 ⟨?_, ops[i], by simp [hi], fun e he hb => hall e (by simpa using he) hb⟩
              have hi' : i < listed.size := by rw [I.size]; exact hi
              unfold Lst at hl
              rw [Array.getD_eq_getD_getElem?] at hl ⊢
              simp only [hi', Array.getElem?_eq_getElem, Option.getD_some] at hl ⊢
              simpa using hl
            rw [hnil] at this; cases this
          · simp only [Classical.not_forall] at hall
            obtain ⟨e, he, hb, hne⟩ := hall
            have h1 := maskOf_edge (m := m) he hb
            rw [← F.mask i _ ho] at h1
            have h2 : e.on < i := by
              rcases Nat.lt_or_ge e.on i with hlt | hge
              · exact hlt
              · have := Nat.testBit_lt_two_pow (Nat.lt_of_lt_of_le (F.back i _ ho) (Nat.pow_le_pow_right (by omega) hge))
                rw [h1] at this; cases this
            exact ihn e.on (by omega) (by omega) hne
      exact key (i + 1) i (by omega) hi hl
    · obtain ⟨h0, o, ho', hedges⟩ := mem_ready.1 hi
      have ho : ops[i]? = some o := by simpa using ho'
      have hil : i < ops.length := (List.getElem?_eq_some_iff.1 ho).1
      have his : i < listed.size := by rw [I.size]; exact hil
      have hnl : ¬ Lst listed i := fun hl => by
        unfold Lst at hl
        rw [Array.getD_eq_getD_getElem?] at hl h0
        simp only [his, Array.getElem?_eq_getElem, Option.getD_some] at hl h0
        rw [hl] at h0; cases h0
      have hm : ∀ j, (m.getD i 0).testBit j = true → Lst listed j := fun j hj => by
        rw [F.mask i o ho] at hj
        obtain ⟨e, he, hb, hor⟩ := maskOf_bit hj
        have hl := hedges e (by simpa using he) hb
        rcases hor with rfl | h1
        · exact hl
        · exact I.closed e.on j hl h1
      obtain ⟨f, done, a, I, g, hf⟩ := I.ahead F g
      have hw := I.want F ho hm
      have hcnt := count_unlisted listed his hnl
      have hk' : (listed.setIfInBounds i true).toList.count false = k := by omega
      unfold wpOp
      rw [ho']
      simp only [hw]
      by_cases hd : done.testBit i = true
      · -- the ghost machine did it
        obtain ⟨hsm, hp1, hp2⟩ := I.pend i o ho hd hnl
        have hdd : ∀ j, done.testBit j = true ↔ done.testBit j = true ∨ j = i := fun j => ⟨.inl, fun h => h.elim id fun e => e ▸ hd⟩
        cases hgw : gwant o ops a.tmps with
        | false =>
          simp only [Bool.false_eq_true, if_false]
          exact ih hk' (I.real ho hm I.sim (Ren.le_refl _) (VR.undef) hdd (.inr ⟨rfl, fun d hd => .inl (hp2 hgw d hd)⟩) (fun j o' h1 h2 h3 _ => (I.pend j o' h1 h2 h3).2)) g hq
        | true =>
          simp only [if_true]
          obtain ⟨v, hv, hv2⟩ := hp1 hgw
          left
          unfold Oper.wp
          rcases gop_sound I.sim (evIn_ok fun t ht => I.reads F ho hm ht) hv with ⟨v', w', ρ', e, p, kv⟩ | ⟨w', ρ', e, rfl, p⟩
          · rw [e, Oper.upon_value]
            exact ih hk' (I.real ho hm p.sim p.le kv hdd (.inr ⟨rfl, hv2⟩) (fun j o' h1 h2 h3 _ => (I.pend j o' h1 h2 h3).2)) g (hq.after p)
          · rw [e, Oper.upon_skip]
            exact ih hk' (I.real ho hm p.sim p.le VR.undef hdd (.inr ⟨rfl, hv2⟩) (fun j o' h1 h2 h3 _ => (I.pend j o' h1 h2 h3).2)) g (hq.after p)
      · -- both do it now
        have hd' : done.testBit i = false := by simpa using hd
        have hdd : ∀ j, (done ||| 2 ^ i).testBit j = true ↔ done.testBit j = true ∨ j = i := fun j => bit_add
        cases f with
        | zero =>
          exfalso
          simp only [gdr] at g
          split at g
          · rename_i hb
            have := Nat.eq_of_beq_eq_true hb
            rw [this, Nat.testBit_two_pow_sub_one] at hd'
            simp at hd'; omega
          · exact g.elim
        | succ f =>
          have hf := hf.resolve_left (by omega)
          have hmd : ∀ x, (m.getD i 0).testBit x = true → done.testBit x = true := fun x hx => I.sub x (hm x hx)
          have hsm : sm.testBit i = false := by
            have := readySoft_none hf i o ho (by simpa using hd') (by simpa using hmd)
            simpa using this
          have hmem : (i, o) ∈ readyLoud m sm done ops 0 := by
            have := readyLoud_mem (m := m) (sm := sm) (done := done) (l := ops) (k := 0) i o ho (by simpa using hd') (by simpa using hsm) (by simpa using hmd)
            simpa using this
          simp only [gdr, hf] at g
          have g := gand_mem g _ hmem
          simp only at g
          -- what is pending does not look at what is written
          have hother : ∀ (j : Nat) (o' : Oper), ops[j]? = some o' → done.testBit j = true → ¬ Lst listed j → j ≠ i → ∀ t, o.dst = some t → t ∉ readsOf ops o' ∧ o'.dst ≠ some t := by
            intro j o' h1 h2 h3 h4 t ht
            refine ⟨fun hr => ?_, F.uniq i o t j o' ho ht h1 h4⟩
            rcases F.named i o t j o' ho ht h1 h4 hr with h5 | ⟨_, h5⟩
            · exact hd (I.closedG j i (List.getElem?_eq_some_iff.1 h1).1 h2 h5)
            · exact h3 (hm j h5)
          have hpend : ∀ (v : Value) (h' : Heap), steady P ops sm done (m.getD i 0) (a.put o.dst v) h' ops 0 = true → ∀ (j : Nat) (o' : Oper), ops[j]? = some o' → done.testBit j = true → ¬ Lst listed j → j ≠ i → Pend P ops (a.put o.dst v) h' o' := by
            intro v h' hst j o' h1 h2 h3 h4
            obtain ⟨h5, h6⟩ := I.pend j o' h1 h2 h3
            have hnm : (m.getD i 0).testBit j = false := by
              cases hb : (m.getD i 0).testBit j with
              | false => rfl
              | true => exact absurd (hm j hb) h3
            have h7 := steady_at hst j o' h1 (by simpa using h5) (by simpa using h2) (by simpa using hnm)
            have h8 := h6.put (d := o.dst) (v := v) (fun t ht => (hother j o' h1 h2 h3 h4 t ht).1) (fun t ht => (hother j o' h1 h2 h3 h4 t ht).2)
            refine ⟨fun hw' => ?_, h8.2⟩
            unfold steady1 at h7
            rw [hw'] at h7
            simp only at h7
            split at h7
            · rename_i u g' hu
              obtain ⟨u', hu'⟩ := soft_heap (F.soft j o' h1 h5) hu
              cases hu'
              refine ⟨u, hu, fun d hd => .inl ?_⟩
              rw [hd] at h7
              exact veq_eq _ _ h7
            · cases h7
          cases hgw : gwant o ops a.tmps with
          | false =>
            rw [hgw] at g
            simp only [Bool.false_eq_true, if_false]
            exact ih hk' (I.real ho hm I.sim (Ren.le_refl _) VR.undef hdd (.inl rfl) (fun j o' h1 h2 h3 h4 => (I.pend j o' h1 h2 h3).2.put (fun t ht => (hother j o' h1 h2 h3 h4 t ht).1) (fun t ht => (hother j o' h1 h2 h3 h4 t ht).2))) g hq
          | true =>
            rw [hgw] at g
            simp only at g
            simp only [if_true]
            left
            unfold Oper.wp
            have hev : EvOK ρ (a.evIn (tmpsOf o)) α.eval := evIn_ok fun t ht => I.reads F ho hm ht
            split at g
            · rename_i v h' hg
              split at g
              · rename_i hst
                rcases gop_sound I.sim hev hg with ⟨v', w', ρ', e, p, kv⟩ | ⟨w', ρ', e, rfl, p⟩
                · rw [e, Oper.upon_value]
                  exact ih hk' (I.real ho hm p.sim p.le kv hdd (.inl rfl) (hpend v h' hst)) g (hq.after p)
                · rw [e, Oper.upon_skip]
                  exact ih hk' (I.real ho hm p.sim p.le VR.undef hdd (.inl rfl) (hpend _ h' hst)) g (hq.after p)
              · exact g.elim
            · rename_i fn args hg
              obtain ⟨args', e, kargs⟩ := gop_sound I.sim hev hg
              rw [e]
              refine (hc fn args _ h ρ args' w (fun v' w' => wpAny P .any ops.toArray Q k (listed.setIfInBounds i true) (α.put o.dst v') w') g I.sim kargs fun v h' v' w' ρ' kg p kv => ?_).upon fun v w' r => r
              split at kg
              · rename_i hst
                exact ih hk' (I.real ho hm p.sim p.le kv hdd (.inl rfl) (hpend v h' hst)) kg (hq.after p)
              · exact kg.elim
            · exact g.elim

theorem gregion_sound {call : Callee} (hc : CallSound P call) {id : Nat} {ops : List Oper} {m : List Nat} {sm : Nat} {G : GQ} {Q : Exit → Act → World → Prop} {a : GAct} {h : Heap} {ρ : Ren} {α : Act} {w : World}
    (hmix : P.follows .mixedOrders = true) (s : HSim P ρ h w.heap) (ka : AR ρ a α) (g : gregion P call ops G a h m sm) (hq : Goes P G Q ρ h w) : (Code.region id ops.toArray true).wp P Q α w := by
  unfold gregion at g
  split at g
  case h_2 => exact g.elim
  rename_i hok
  have F := drOk_facts hok
  refine wp_region_any hmix ?_
  have hs : (ops.toArray.size) = ops.length := by simp
  have hno : ∀ i : Nat, ¬ Lst (Array.replicate ops.toArray.size false) i := fun i hl => by
    unfold Lst at hl
    rw [Array.getD_eq_getD_getElem?] at hl
    rw [Array.getElem?_replicate] at hl
    split at hl <;> simp at hl
  refine gdr_sound hc F (G := G) ops.toArray.size (f := ops.length) (done := 0) (a := a) (h := h) (ρ := ρ) (by simp) ⟨by simp, fun i hl => absurd hl (hno i), fun i o _ hd => by simp at hd, fun i j hl => absurd hl (hno i), fun i j _ hd => by simp at hd, s, fun t _ => ka.tmp t, ?_, ka.defers⟩ g ?_
  · have := ka.tmps.length; simpa using this
  · intro e a' h' α' w' ρ' g' p r
    exact hq e a' h' α' w' ρ' g' (p.world (w₁ := w) (w₁' := w') rfl rfl rfl rfl rfl rfl rfl rfl) r
end Go.Gh
