/- The ghost machine's regions that draw their order are the model's. -/
import Derived.Test.YtloflflapneheaaGreatDoorGhR
set_option linter.unusedSectionVars false
set_option linter.unusedVariables false
set_option linter.unusedSimpArgs false
namespace Go.Gh
variable [Sym]
variable {P : Program}

/-! ### what the check says -/
theorem maskOf_bit {m : List Nat} {o : Oper} {j : Nat} (h : (maskOf m o).testBit j = true) : ∃ e ∈ o.after.toList, Region.binds .any e = true ∧ (e.on = j ∨ (m.getD e.on 0).testBit j = true) := by
  have key : ∀ (l : List Edge) (s : Nat), (l.foldl (fun s e => bif Region.binds .any e then s ||| 2 ^ e.on ||| m.getD e.on 0 else s) s).testBit j = true →
      s.testBit j = true ∨ ∃ e ∈ l, Region.binds .any e = true ∧ (e.on = j ∨ (m.getD e.on 0).testBit j = true) := by
    intro l
    induction l with
    | nil => intro s hs; exact .inl hs
    | cons e l ih =>
      intro s hs
      rw [List.foldl_cons] at hs
      rcases ih _ hs with h1 | ⟨e', h1, h2⟩
      · cases hb : Region.binds .any e with
        | false => rw [hb, cond_false] at h1; exact .inl h1
        | true =>
          rw [hb, cond_true, Nat.testBit_or, Nat.testBit_or, Nat.testBit_two_pow] at h1
          simp only [Bool.or_eq_true, decide_eq_true_eq] at h1
          rcases h1 with (h1 | h1) | h1
          · exact .inl h1
          · exact .inr ⟨e, by simp, hb, .inl h1⟩
          · exact .inr ⟨e, by simp, hb, .inr h1⟩
      · exact .inr ⟨e', by simp [h1], h2⟩
  rcases key o.after.toList 0 h with h1 | h1
  · simp at h1
  · exact h1

theorem maskOf_edge {m : List Nat} {o : Oper} {e : Edge} (he : e ∈ o.after.toList) (hb : Region.binds .any e = true) : (maskOf m o).testBit e.on = true := by
  have key : ∀ (l : List Edge) (s : Nat), (s.testBit e.on = true ∨ e ∈ l) → (l.foldl (fun s e => bif Region.binds .any e then s ||| 2 ^ e.on ||| m.getD e.on 0 else s) s).testBit e.on = true := by
    intro l
    induction l with
    | nil => intro s hs; rcases hs with h | h
             · exact h
             · cases h
    | cons x l ih =>
      intro s hs
      rw [List.foldl_cons]
      apply ih
      rcases hs with h | h
      · left
        cases Region.binds .any x with
        | false => exact h
        | true => rw [cond_true, Nat.testBit_or, Nat.testBit_or, h]; rfl
      · rcases List.mem_cons.1 h with rfl | h
        · left; rw [hb, cond_true, Nat.testBit_or, Nat.testBit_or, Nat.testBit_two_pow_self]; simp
        · exact .inr h
  exact key _ 0 (.inr he)

structure Facts (ops : List Oper) (m : List Nat) (sm : Nat) : Prop where
  mask : ∀ (i : Nat) (o : Oper), ops[i]? = some o → m.getD i 0 = maskOf m o
  back : ∀ (i : Nat) (o : Oper), ops[i]? = some o → m.getD i 0 < 2 ^ i
  self : ∀ (i : Nat) (o : Oper) (d : Tmp), ops[i]? = some o → o.dst = some d → d ∉ tmpsOf o
  uniq : ∀ (i : Nat) (o : Oper) (d : Tmp) (j : Nat) (o' : Oper), ops[i]? = some o → o.dst = some d → ops[j]? = some o' → j ≠ i → o'.dst ≠ some d
  named : ∀ (i : Nat) (o : Oper) (d : Tmp) (j : Nat) (o' : Oper), ops[i]? = some o → o.dst = some d → ops[j]? = some o' → j ≠ i → d ∈ readsOf ops o' → (m.getD j 0).testBit i = true ∨ (sm.testBit i = false ∧ (m.getD i 0).testBit j = true)
  guard : ∀ (i : Nat) (o : Oper) (j : Nat) (want : Bool), ops[i]? = some o → o.guard = some (j, want) → (m.getD i 0).testBit j = true
  soft : ∀ (i : Nat) (o : Oper), ops[i]? = some o → sm.testBit i = true → isSoft o.op = true

theorem pairOk_at {ops : List Oper} {m : List Nat} {sm i : Nat} {d : Tmp} : ∀ {l : List Oper} {k : Nat}, pairOk ops m sm i d l k = true → ∀ (j : Nat) (o : Oper), l[j]? = some o → k + j ≠ i →
    o.dst ≠ some d ∧ (d ∈ readsOf ops o → (m.getD (k + j) 0).testBit i = true ∨ (sm.testBit i = false ∧ (m.getD i 0).testBit (k + j) = true))
  | [], _, _, j, o, h, _ => by simp at h
  | x :: l, k, h, j, o, ho, hne => by
    simp only [pairOk, Bool.and_eq_true] at h
    cases j with
    | succ j =>
      have := pairOk_at h.2 j o (by simpa using ho) (by omega)
      rwa [show k + 1 + j = k + (j + 1) by omega] at this
    | zero =>
      simp only [List.getElem?_cons_zero, Option.some.injEq] at ho
      subst ho
      have h1 := h.1
      have hb : k.beq i = false := by
        cases hbb : k.beq i with
        | false => rfl
        | true => exact absurd (Nat.eq_of_beq_eq_true hbb) (by simpa using hne)
      simp only [hb, Bool.false_or, Bool.and_eq_true, Bool.or_eq_true, Bool.not_eq_true'] at h1
      refine ⟨?_, fun hd => ?_⟩
      · intro e
        rw [e] at h1
        have := h1.1
        simp at this
      · rcases h1.2 with h2 | h2 | h2
        · rw [hasN_iff.2 hd] at h2; cases h2
        · exact .inl h2
        · exact .inr h2

theorem drOk_facts {ops : List Oper} {m : List Nat} {sm : Nat} (h : drOk ops m sm = true) : Facts ops m sm := by
  have key : ∀ (l : List Oper) (k : Nat), drOkFrom ops m sm l k = true → ∀ (j : Nat) (o : Oper), l[j]? = some o → oneOk ops m sm (k + j) o = true := by
    intro l
    induction l with
    | nil => intro k _ j o ho; simp at ho
    | cons x l ih =>
      intro k hk j o ho
      simp only [drOkFrom, Bool.and_eq_true] at hk
      cases j with
      | zero => simp only [List.getElem?_cons_zero, Option.some.injEq] at ho; subst ho; exact hk.1
      | succ j => have := ih (k + 1) hk.2 j o (by simpa using ho); rwa [show k + 1 + j = k + (j + 1) by omega] at this
  have one : ∀ (i : Nat) (o : Oper), ops[i]? = some o → oneOk ops m sm i o = true := fun i o ho => by simpa using key ops 0 h i o ho
  have all : ∀ (i : Nat) (o : Oper), ops[i]? = some o → m.getD i 0 = maskOf m o ∧ m.getD i 0 < 2 ^ i ∧ (∀ d, o.dst = some d → d ∉ tmpsOf o ∧ pairOk ops m sm i d ops 0 = true) ∧
      (∀ j want, o.guard = some (j, want) → (m.getD i 0).testBit j = true) ∧ (sm.testBit i = true → isSoft o.op = true) := by
    intro i o ho
    have h1 := one i o ho
    unfold oneOk at h1
    simp only [Bool.and_eq_true] at h1
    obtain ⟨⟨⟨⟨h1, h2⟩, h3⟩, h4⟩, h5⟩ := h1
    refine ⟨Nat.eq_of_beq_eq_true h1, by simpa [Nat.blt_eq] using h2, fun d hd => ?_, fun j want hg => ?_, fun hs => ?_⟩
    · rw [hd] at h3
      simp only [Bool.and_eq_true, Bool.not_eq_true'] at h3
      exact ⟨fun hm => (by rw [hasN_iff.2 hm] at h3; exact absurd h3.1 (by decide)), h3.2⟩
    · rw [hg] at h4; exact h4
    · rw [hs] at h5; simpa using h5
  refine ⟨fun i o ho => (all i o ho).1, fun i o ho => (all i o ho).2.1, fun i o d ho hd => ((all i o ho).2.2.1 d hd).1, fun i o d j o' ho hd ho' hne => ?_, fun i o d j o' ho hd ho' hne hr => ?_, fun i o j want ho hg => (all i o ho).2.2.2.1 j want hg, fun i o ho hs => (all i o ho).2.2.2.2 hs⟩
  · exact (pairOk_at ((all i o ho).2.2.1 d hd).2 j o' ho' (by omega)).1
  · simpa using (pairOk_at ((all i o ho).2.2.1 d hd).2 j o' ho' (by omega)).2 hr

theorem sub_bits {a b : Nat} (h : (a &&& b).beq a = true) {j : Nat} (hj : a.testBit j = true) : b.testBit j = true := by
  have e := Nat.eq_of_beq_eq_true h
  rw [← e, Nat.testBit_and] at hj
  simp at hj; exact hj.2
theorem sub_bits_of {a b : Nat} (h : ∀ j, a.testBit j = true → b.testBit j = true) : (a &&& b).beq a = true := by
  have : a &&& b = a := by
    apply Nat.eq_of_testBit_eq
    intro j
    rw [Nat.testBit_and]
    cases hj : a.testBit j with
    | false => rfl
    | true => rw [h j hj]; rfl
  rw [this]; exact Nat.beq_refl a

theorem readySoft_some {m : List Nat} {sm done : Nat} {i : Nat} {o : Oper} : ∀ {l : List Oper} {k : Nat}, readySoft m sm done l k = some (i, o) →
    ∃ j, l[j]? = some o ∧ i = k + j ∧ sm.testBit i = true ∧ done.testBit i = false ∧ ∀ x, (m.getD i 0).testBit x = true → done.testBit x = true
  | [], k, h => by simp [readySoft] at h
  | x :: l, k, h => by
    simp only [readySoft, cond_eq_ite] at h
    split at h
    · rename_i hc
      cases h
      simp only [Bool.and_eq_true, Bool.not_eq_true'] at hc
      exact ⟨0, by simp, rfl, hc.1, hc.2.1, fun x hx => sub_bits hc.2.2 hx⟩
    · obtain ⟨j, h1, h2, h3⟩ := readySoft_some h
      exact ⟨j + 1, by simpa using h1, by omega, h3⟩
theorem readySoft_none {m : List Nat} {sm done : Nat} : ∀ {l : List Oper} {k : Nat}, readySoft m sm done l k = none → ∀ (j : Nat) (o : Oper), l[j]? = some o → done.testBit (k + j) = false →
    (∀ x, (m.getD (k + j) 0).testBit x = true → done.testBit x = true) → sm.testBit (k + j) = false
  | [], k, _, j, o, ho, _, _ => by simp at ho
  | x :: l, k, h, j, o, ho, hd, hm => by
    simp only [readySoft, cond_eq_ite] at h
    split at h
    · cases h
    · rename_i hc
      cases j with
      | succ j =>
        have := readySoft_none h j o (by simpa using ho) (by rwa [show k + 1 + j = k + (j + 1) by omega]) (by rwa [show k + 1 + j = k + (j + 1) by omega])
        rwa [show k + 1 + j = k + (j + 1) by omega] at this
      | zero =>
        cases hs : sm.testBit (k + 0) with
        | false => rfl
        | true =>
          exfalso; apply hc
          have h3 := sub_bits_of hm
          simp only [Nat.add_zero] at hs hd h3
          simp only [hs, hd, h3, Bool.not_false, Bool.and_self]
theorem readyLoud_mem {m : List Nat} {sm done : Nat} : ∀ {l : List Oper} {k : Nat}, ∀ (j : Nat) (o : Oper), l[j]? = some o → done.testBit (k + j) = false → sm.testBit (k + j) = false →
    (∀ x, (m.getD (k + j) 0).testBit x = true → done.testBit x = true) → (k + j, o) ∈ readyLoud m sm done l k
  | [], k, j, o, ho, _, _, _ => by simp at ho
  | x :: l, k, j, o, ho, hd, hs, hm => by
    simp only [readyLoud, cond_eq_ite]
    cases j with
    | zero =>
      have h3 := sub_bits_of hm
      simp only [List.getElem?_cons_zero, Option.some.injEq] at ho
      subst ho
      simp only [Nat.add_zero] at hd hs h3 ⊢
      simp only [hs, hd, h3, Bool.not_false, Bool.and_self, if_true]
      exact List.mem_cons_self
    | succ j =>
      have := readyLoud_mem (m := m) (sm := sm) (done := done) (k := k + 1) j o (by simpa using ho) (by rwa [show k + 1 + j = k + (j + 1) by omega]) (by rwa [show k + 1 + j = k + (j + 1) by omega]) (by rwa [show k + 1 + j = k + (j + 1) by omega])
      rw [show k + 1 + j = k + (j + 1) by omega] at this
      split
      · exact List.mem_cons_of_mem _ this
      · exact this
theorem readyLoud_ok {m : List Nat} {sm done : Nat} {x : Nat × Oper} : ∀ {l : List Oper} {k : Nat}, x ∈ readyLoud m sm done l k → ∃ j, l[j]? = some x.2 ∧ x.1 = k + j ∧ done.testBit x.1 = false
  | [], k, h => by simp [readyLoud] at h
  | y :: l, k, h => by
    simp only [readyLoud, cond_eq_ite] at h
    have tail : x ∈ readyLoud m sm done l (k + 1) → ∃ j, (y :: l)[j]? = some x.2 ∧ x.1 = k + j ∧ done.testBit x.1 = false := fun h => by
      obtain ⟨j, h1, h2, h3⟩ := readyLoud_ok h
      exact ⟨j + 1, by simpa using h1, by omega, h3⟩
    split at h
    · rename_i hc
      simp only [Bool.and_eq_true, Bool.not_eq_true'] at hc
      rcases List.mem_cons.1 h with rfl | h
      · exact ⟨0, by simp, rfl, hc.2.1⟩
      · exact tail h
    · exact tail h

theorem steady_at {ops : List Oper} {sm done mask : Nat} {a : GAct} {h : Heap} : ∀ {l : List Oper} {k : Nat}, steady P ops sm done mask a h l k = true → ∀ (j : Nat) (o : Oper), l[j]? = some o →
    sm.testBit (k + j) = true → done.testBit (k + j) = true → mask.testBit (k + j) = false → steady1 P ops a h o = true
  | [], k, _, j, o, ho, _, _, _ => by simp at ho
  | x :: l, k, hh, j, o, ho, hs, hd, hm => by
    simp only [steady, Bool.and_eq_true] at hh
    cases j with
    | zero =>
      simp only [List.getElem?_cons_zero, Option.some.injEq] at ho
      subst ho
      simp only [Nat.add_zero] at hs hd hm
      have := hh.1
      simpa [hs, hd, hm] using this
    | succ j =>
      exact steady_at hh.2 j o (by simpa using ho) (by rwa [show k + 1 + j = k + (j + 1) by omega]) (by rwa [show k + 1 + j = k + (j + 1) by omega]) (by rwa [show k + 1 + j = k + (j + 1) by omega])
end Go.Gh
