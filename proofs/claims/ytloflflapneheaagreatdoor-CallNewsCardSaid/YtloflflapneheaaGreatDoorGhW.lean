/- The ghost machine is the model's: code and calls. -/
import Derived.Test.YtloflflapneheaaGreatDoorGhU
set_option linter.unusedSectionVars false
set_option linter.unusedVariables false
set_option linter.unusedSimpArgs false
namespace Go.Gh
variable [Sym]
variable {P : Program}

/-- functions that are taken as a whole answer so -/
def IntrOK (P : Program) (I : Intr) : Prop := ∀ f g, I f = some g → ∀ args h v h', g args h = some (v, h') → ∀ ρ args' w, HSim P ρ h w.heap → VRs ρ args (args' : Array Value).toList →
  Ans P f args' w fun v' w' => ∃ ρ', Post P ρ h w ρ' h' w' ∧ VR ρ' v v'

structure Fit (P : Program) (I : Intr) : Prop where
  mixed : P.follows .mixedOrders = true
  name : ∀ (f : FuncId) fn, P.funcs[f]? = some fn → fn.body.isSome = true → (fn.name == "runtime.NumGoroutine") = false
  intr : IntrOK P I

/-- code that is gone on with inside a scope -/
def wpIn (P : Program) (body c : Code) (Q : Exit → Act → World → Prop) (a : Act) (w : World) : Prop :=
  ∀ (b : Frame) (k : List Item) (cs : List Frame), ∃ e a' w', Q e a' w' ∧ Arrives P (lone (b.at a (.code c :: .inScope body :: k)) cs w) b k cs e a' w'

def scopeQ (P : Program) (body : Code) (Q : Exit → Act → World → Prop) : Exit → Act → World → Prop
  | .goto l, a, w => match findLabel body l with
    | some rest => wpIn P body rest Q a w
    | none => Q (.goto l) a w
  | e, a, w => Q e a w

theorem wpIn_of {body c : Code} {Q : Exit → Act → World → Prop} {a : Act} {w : World} (h : c.wp P (scopeQ P body Q) a w) : wpIn P body c Q a w := by
  intro b k cs
  obtain ⟨e, a₁, w₁, hq, harr⟩ := h b (.inScope body :: k) cs
  cases e with
  | normal => exact ⟨.normal, a₁, w₁, hq, Steps.trans harr (.one step_inScope)⟩
  | exit id => exact ⟨.exit id, a₁, w₁, hq, fun k' hk => harr k' (by simp [exitTo, hk])⟩
  | goto l =>
    simp only [scopeQ] at hq
    cases hf : findLabel body l with
    | none =>
      rw [hf] at hq
      exact ⟨.goto l, a₁, w₁, hq, fun k' hk => harr k' (by simp [gotoIn, hf, hk])⟩
    | some rest =>
      rw [hf] at hq
      obtain ⟨e₂, a₂, w₂, hq₂, harr₂⟩ := hq b k cs
      exact ⟨e₂, a₂, w₂, hq₂, .of_steps (harr (.code rest :: .inScope body :: k) (by simp [gotoIn, hf])) harr₂⟩
  | ret => exact ⟨_, a₁, w₁, hq, harr⟩
  | panic ch => exact ⟨_, a₁, w₁, hq, harr⟩
  | outgrown => exact ⟨_, a₁, w₁, hq, harr⟩
theorem wp_scope_in {c : Code} {Q : Exit → Act → World → Prop} {a : Act} {w : World} (h : wpIn P c c Q a w) : (Code.scope c).wp P Q a w := by
  intro b k cs
  obtain ⟨e, a₁, w₁, hq, harr⟩ := h b k cs
  exact ⟨e, a₁, w₁, hq, .of_steps (.one step_scope) harr⟩

theorem callFunc_enter {f : FuncId} {fn : Func} {args : Array Value} {w : World} (hf : P.funcs[f]? = some fn) (hb : fn.body.isSome = true) (hn : (fn.name == "runtime.NumGoroutine") = false) :
    (callFunc f args).run P w = .ok (.enter f args) w := by
  have hb' : fn.body.isNone = false := by cases h : fn.body <;> simp_all
  simp only [callFunc, Sem.run_bind, run_program, Result.andThen_ok, hf, hn, hb', Bool.false_eq_true, if_false]
  rfl

def resOne (tmps : Array Value) : ResultVar → Sem Value
  | .tmp t => pure (tmps.getD t undef)
  | .cell a t => do loadVar t (← asAddr (tmps.getD a undef))
theorem results_eq (fn : Func) (tmps : Array Value) : results fn tmps = (do let vs ← fn.results.mapM (resOne tmps); pure (if h : vs.size = 1 then vs[0] else .tuple vs) : Sem Value) := rfl

theorem results_sound {ρ : Ren} {a : GAct} {α : Act} {h : Heap} {w : World} {fn : Func} {v : Value} (s : HSim P ρ h w.heap) (ka : AR ρ a α) (e : gresults P fn a h = some v) :
    ∃ v', (results fn α.tmps).run P w = .ok v' w ∧ VR ρ v v' := by
  unfold gresults at e
  obtain ⟨vs, hvs, rfl⟩ := map_some_eq e
  have key : ∀ (l : List ResultVar) (vs : List Value), gresultsL P a h l = some vs → ∃ vs' : List Value, VRs ρ vs vs' ∧ (l.mapM (resOne α.tmps)).run P w = .ok vs' w := by
    intro l
    induction l with
    | nil => intro vs e; simp [gresultsL] at e; subst e; exact ⟨[], .nil, rfl⟩
    | cons r l ih =>
      intro vs e
      simp only [gresultsL] at e
      obtain ⟨x, hx, e⟩ := bind_some_eq e
      obtain ⟨xs, hxs, rfl⟩ := map_some_eq e
      obtain ⟨ys, k2, e2⟩ := ih xs hxs
      have h1 : ∃ y, VR ρ x y ∧ (resOne α.tmps r).run P w = .ok y w := by
        cases r with
        | tmp t =>
          simp only [gresult, Option.some.injEq] at hx
          subst hx
          exact ⟨_, ka.tmp t, rfl⟩
        | cell c t =>
          simp only [gresult] at hx
          have kc := ka.tmp c
          have : ∃ b, a.tmps.getD c undef = .pointer (some b) := by
            unfold gload at hx; split at hx
            · exact ⟨_, by assumption⟩
            · cases hx
          obtain ⟨b, hb⟩ := this
          rw [hb] at kc hx
          have kc' := kc
          simp only [VR] at kc'
          obtain ⟨lc, hr, hsp, hy⟩ := kc'
          obtain ⟨y, h1, h2⟩ := run_loadVar_ (w := w) s hx kc hy
          exact ⟨y, h2, by simp [resOne, hy, asAddr, h1]⟩
      obtain ⟨y, ky, e1⟩ := h1
      refine ⟨y :: ys, .cons ky k2, ?_⟩
      rw [List.mapM_cons]
      simp only [Sem.run_bind, e1, Result.andThen_ok, e2]
      rfl
  obtain ⟨vs', k, e1⟩ := key _ _ hvs
  have hm : (fn.results.mapM (resOne α.tmps)).run P w = .ok vs'.toArray w := by
    rw [Array.mapM_eq_mapM_toList]
    simp [e1]
  have hl := k.length
  refine ⟨if h : vs'.toArray.size = 1 then vs'.toArray[0] else .tuple vs'.toArray, ?_, ?_⟩
  · rw [results_eq]
    simp only [Sem.run_bind, hm, Result.andThen_ok]
    rfl
  · cases vs with
    | nil => simp [VRs] at k; subst k; simp; exact VR.tuple.2 ⟨[], rfl, .nil⟩
    | cons x r =>
      cases r with
      | nil =>
        simp only [VRs] at k
        obtain ⟨y, ys, rfl, ky, rfl⟩ := k
        simpa using ky
      | cons y r =>
        have : vs'.toArray.size ≠ 1 := by simp at hl ⊢; omega
        rw [dif_neg this]
        exact VR.tuple.2 ⟨vs', rfl, k⟩
end Go.Gh
