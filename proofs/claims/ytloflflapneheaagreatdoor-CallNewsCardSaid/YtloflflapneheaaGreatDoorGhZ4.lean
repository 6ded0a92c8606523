/- Part of the proof of vistalaw15.CallNews: a step by step evaluation of its body. -/
import Derived.Test.YtloflflapneheaaGreatDoorGhZ2
import Derived.Test.YtloflflapneheaaGreatDoorGhZ3
import Derived.Test.YtloflflapneheaaGreatDoorChecked
import Derived.Eval
set_option linter.unusedSectionVars false
set_option linter.unusedVariables false
set_option linter.unusedSimpArgs false
namespace Go.Gh
open Go.Proofs

theorem lib_ok [Sym] : IntrOK Tryz.prog lib0 := by
  intro f g hI
  unfold lib0 at hI
  split at hI <;> cases hI <;> exact gext_ok
theorem wake' [Sym] : callIs lib0 3000 5 [] K3 := by rw [wake]; exact ⟨rfl, rfl⟩
theorem fit_of [Sym] {I : Intr} (h : IntrOK Tryz.prog I) : Fit Tryz.prog I where
  mixed := Tryz.checked.mixed
  name := fun f fn hf hb => by
    have h1 := List.all_eq_true.1 named fn (by simpa using Array.mem_of_getElem? hf)
    have h2 : fn.body.isNone = false := by cases h : fn.body <;> simp_all
    rw [h2] at h1
    simpa using h1
  intr := h
theorem fit0 [Sym] : Fit Tryz.prog lib0 := fit_of lib_ok

theorem Ans.mono {P : Program} {f : FuncId} {args : Array Value} {w : World} {R R' : Value → World → Prop} (h : Ans P f args w R) (hr : ∀ v w', R v w' → R' v w') : Ans P f args w R' := by
  rcases h with ⟨v, w', e, r⟩ | ⟨e, c⟩
  · exact .inl ⟨v, w', e, hr _ _ r⟩
  · exact .inr ⟨e, c.mono fun e w' r => by cases e <;> first | exact hr _ _ r | exact r⟩

theorem callIs_sound [Sym] {I : Intr} {n f : Nat} {args : List Value} {K : Value → Heap → Prop} (F : Fit Tryz.prog I) (g : callIs I n f args K) (args' : Array Value) (w : World) (R : Value → World → Prop)
    (ka : VRs (fun _ => none) args args'.toList) (hR : ∀ v h' v' w' ρ', K v h' → Post Tryz.prog (fun _ => none) Heap.empty w ρ' h' w' → VR ρ' v v' → R v' w') : Ans Tryz.prog f args' w R :=
  gcall_sound F n f args K Heap.empty _ args' w R (callIs_eq I n f args K g) HSim.empty ka hR

theorem awake_ok [Sym] : ∀ args h v h', awake0 args h = some (v, h') → ∀ ρ args' w, HSim Tryz.prog ρ h w.heap → VRs ρ args (args' : Array Value).toList →
    Ans Tryz.prog 5 args' w fun v' w' => ∃ ρ', Post Tryz.prog ρ h w ρ' h' w' ∧ VR ρ' v v' := by
  intro args h v h' e ρ args' w s ka
  unfold awake0 at e
  split at e
  · cases e
    have ha : args'.toList = [] := by simpa [VRs] using ka
    refine callIs_sound fit0 wake' args' w _ (by rw [ha]; exact .nil) ?_
    intro u h'' v' w' ρ' hu p kv
    subst hu
    exact ⟨ρ, Post.frame s p, by have : v' = .bool true := by simpa [VR] using kv
                                 subst this; simp [VR]⟩
  · cases e
theorem i1_ok [Sym] : IntrOK Tryz.prog I1 := by
  intro f g hI
  unfold I1 at hI
  split at hI
  · cases hI; exact awake_ok
  · exact lib_ok f g hI
theorem fit1 [Sym] : Fit Tryz.prog I1 := fit_of i1_ok

theorem args_any [Sym] {ρ ρ' : Ren} {l : List Value} (h : VRs ρ args0 l) : VRs ρ' args0 l := by
  simpa only [args0, VRs, VR] using h

theorem i2_ok [Sym] (hb4 : callIs I1 200 4 args0 K4) : IntrOK Tryz.prog I2 := by
  intro f g hI
  unfold I2 at hI
  split at hI
  · cases hI; exact awake_ok
  · cases hI
    intro args h0 v h' e ρ args' w s ka
    unfold bad0 at e
    split at e
    · rename_i hv
      cases e
      have ha : args = args0 := veqs_eq _ _ hv
      subst ha
      refine callIs_sound fit1 hb4 args' w _ (args_any ka) ?_
      intro u h'' v' w' ρ' hu p kv
      cases hu
      refine ⟨ρ, Post.frame s p, ?_⟩
      simpa only [VR, VRs] using kv
    · cases e
  · exact lib_ok f g hI

section
variable {c0 c1 c2 c3 c4 c5 c6 c7 c8 : Cl} {b : Bool} {x : Nat → Int} {hc : ∀ i, cls c0 c1 c2 c3 c4 c5 c6 c7 c8 i = Cl.of (sp0 i).lo (sp0 i).hi (x i)} {hb : b = decide (x 0 > x 2)}

theorem bad4 (h : ¬ (c0 = .ok ∧ c1 = .ok ∧ c2 = .ok ∧ c3 = .ok ∧ c4 = .ok ∧ c5 = .ok ∧ c6 = .ok ∧ c7 = .ok ∧ c8 = .ok ∧ b = false)) :
    @callIs (S0 c0 c1 c2 c3 c4 c5 c6 c7 c8 b x hc hb) I1 200 4 args0 K4 := by
  cases c0 with
  | lo => exact of_eqt _ (n4_c0_lo ..)
  | hi => exact of_eqt _ (n4_c0_hi ..)
  | ok =>
  cases c1 with
  | lo => exact of_eqt _ (n4_c1_lo ..)
  | hi => exact of_eqt _ (n4_c1_hi ..)
  | ok =>
  cases c8 with
  | lo => exact of_eqt _ (n4_c8_lo ..)
  | hi => exact of_eqt _ (n4_c8_hi ..)
  | ok =>
  cases c2 with
  | lo => exact of_eqt _ (n4_c2_lo ..)
  | hi => exact of_eqt _ (n4_c2_hi ..)
  | ok =>
  cases c3 with
  | lo => exact of_eqt _ (n4_c3_lo ..)
  | hi => exact of_eqt _ (n4_c3_hi ..)
  | ok =>
  cases c4 with
  | lo => exact of_eqt _ (n4_c4_lo ..)
  | hi => exact of_eqt _ (n4_c4_hi ..)
  | ok =>
  cases c5 with
  | lo => exact of_eqt _ (n4_c5_lo ..)
  | hi => exact of_eqt _ (n4_c5_hi ..)
  | ok =>
  cases c6 with
  | lo => exact of_eqt _ (n4_c6_lo ..)
  | hi => exact of_eqt _ (n4_c6_hi ..)
  | ok =>
  cases c7 with
  | lo => exact of_eqt _ (n4_c7_lo ..)
  | hi => exact of_eqt _ (n4_c7_hi ..)
  | ok =>
  cases b with
  | true => exact of_eqt _ (n4_b ..)
  | false => exact absurd ⟨rfl, rfl, rfl, rfl, rfl, rfl, rfl, rfl, rfl, rfl⟩ h

theorem fit2 (h : ¬ (c0 = .ok ∧ c1 = .ok ∧ c2 = .ok ∧ c3 = .ok ∧ c4 = .ok ∧ c5 = .ok ∧ c6 = .ok ∧ c7 = .ok ∧ c8 = .ok ∧ b = false)) :
    @Fit (S0 c0 c1 c2 c3 c4 c5 c6 c7 c8 b x hc hb) Tryz.prog I2 :=
  @fit_of (S0 c0 c1 c2 c3 c4 c5 c6 c7 c8 b x hc hb) I2 (@i2_ok (S0 c0 c1 c2 c3 c4 c5 c6 c7 c8 b x hc hb) (bad4 h))

theorem all3 : ∃ I n, @Fit (S0 c0 c1 c2 c3 c4 c5 c6 c7 c8 b x hc hb) Tryz.prog I ∧ @callIs (S0 c0 c1 c2 c3 c4 c5 c6 c7 c8 b x hc hb) I n 3 args0 K3 := by
  by_cases h : (c0 = .ok ∧ c1 = .ok ∧ c2 = .ok ∧ c3 = .ok ∧ c4 = .ok ∧ c5 = .ok ∧ c6 = .ok ∧ c7 = .ok ∧ c8 = .ok ∧ b = false)
  · obtain ⟨rfl, rfl, rfl, rfl, rfl, rfl, rfl, rfl, rfl, rfl⟩ := h
    exact ⟨I1, 300, @fit1 (S0 .ok .ok .ok .ok .ok .ok .ok .ok .ok false x hc hb), of_eqt (.bool true) (good x hc hb)⟩
  · refine ⟨I2, 200, fit2 h, ?_⟩
    cases c2 with
    | lo => exact of_eqt _ (n3_c2_lo ..)
    | hi => exact of_eqt _ (n3_c2_hi ..)
    | ok =>
    cases c3 with
    | lo => exact of_eqt _ (n3_c3_lo ..)
    | hi => exact of_eqt _ (n3_c3_hi ..)
    | ok =>
    cases c4 with
    | lo => exact of_eqt _ (n3_c4_lo ..)
    | hi => exact of_eqt _ (n3_c4_hi ..)
    | ok =>
    cases c5 with
    | lo => exact of_eqt _ (n3_c5_lo ..)
    | hi => exact of_eqt _ (n3_c5_hi ..)
    | ok =>
    cases c6 with
    | lo => exact of_eqt _ (n3_c6_lo ..)
    | hi => exact of_eqt _ (n3_c6_hi ..)
    | ok =>
    cases c7 with
    | lo => exact of_eqt _ (n3_c7_lo ..)
    | hi => exact of_eqt _ (n3_c7_hi ..)
    | ok =>
    cases c8 with
    | lo => exact of_eqt _ (n3_c8_lo ..)
    | hi => exact of_eqt _ (n3_c8_hi ..)
    | ok =>
    have key : c0 = .hi → b = true := by
      intro e
      subst e
      have h0 := hc 0
      have h2 := hc 2
      simp only [cls, sp0, Cl.of] at h0 h2
      rw [hb]
      apply decide_eq_true
      split at h0
      · cases h0
      · split at h0
        · split at h2
          · cases h2
          · split at h2
            · cases h2
            · omega
        · cases h0
    cases c0 with
    | lo => exact of_eqt _ (n3_c0_lo ..)
    | hi =>
      cases b with
      | true => exact of_eqt _ (n3_b_hi ..)
      | false => exact absurd (key rfl) (by decide)
    | ok =>
      cases b with
      | true => exact of_eqt _ (n3_b_ok ..)
      | false =>
        cases c1 with
        | lo => exact of_eqt _ (n3_c1_lo ..)
        | hi => exact of_eqt _ (n3_c1_hi ..)
        | ok => exact absurd ⟨rfl, rfl, rfl, rfl, rfl, rfl, rfl, rfl, rfl, rfl⟩ h
end

/-- CallNews answers true, whatever it is given, and leaves what stood before -/
theorem callNews_walk (id life a0 a1 a2 a3 a4 a5 a6 : Int) (w : World) :
    Calls Tryz.prog 3 #[.int .i64 id, .int .i64 life, .agg #[.int .i64 a0, .int .i64 a1, .int .i64 a2, .int .i64 a3, .int .i64 a4, .int .i64 a5, .int .i64 a6]] w fun
      | .returned v, w' => v = .bool true ∧ w'.os = w.os ∧ w'.output = w.output ∧ w'.tape = w.tape ∧ w.heap.size ≤ w'.heap.size ∧ (∀ a, w'.frozen? a = w.frozen? a) ∧ ∀ k, k < w.heap.size → w'.heap[k]? = w.heap[k]?
      | _, _ => False := by
  let x : Nat → Int := fun i => match i with
    | 0 => id
    | 1 => life
    | 2 => a0
    | 3 => a1
    | 4 => a2
    | 5 => a3
    | 6 => a4
    | 7 => a5
    | _ => a6
  have hc : ∀ i, cls (Cl.of 1 4 id) (Cl.of 1 1099511627776 life) (Cl.of 1 4 a0) (Cl.of 1 64 a1) (Cl.of 1 16 a2) (Cl.of 0 8 a3) (Cl.of 1 32 a4) (Cl.of 1 16 a5) (Cl.of 0 8 a6) i = Cl.of (sp0 i).lo (sp0 i).hi (x i) := by
    intro i
    match i with
    | 0 | 1 | 2 | 3 | 4 | 5 | 6 | 7 => rfl
    | n + 8 => rfl
  obtain ⟨I, n, F, g⟩ := @all3 _ _ _ _ _ _ _ _ _ (decide (x 0 > x 2)) x hc rfl
  letI : Sym := S0 _ _ _ _ _ _ _ _ _ (decide (x 0 > x 2)) x hc rfl
  have h := callIs_sound F g
    #[.int .i64 id, .int .i64 life, .agg #[.int .i64 a0, .int .i64 a1, .int .i64 a2, .int .i64 a3, .int .i64 a4, .int .i64 a5, .int .i64 a6]] w
    (fun v w' => v = .bool true ∧ w'.os = w.os ∧ w'.output = w.output ∧ w'.tape = w.tape ∧ w.heap.size ≤ w'.heap.size ∧ (∀ a, w'.frozen? a = w.frozen? a) ∧ ∀ k, k < w.heap.size → w'.heap[k]? = w.heap[k]?)
    ?_ ?_
  · rcases h with ⟨v', w', e, _⟩ | ⟨_, h⟩
    · exfalso
      have h3 : ∃ fn, Tryz.prog.funcs[3]? = some fn ∧ fn.body.isSome = true := by
        refine ⟨Tryz.f3, Tryz.func3, by kernel_rfl⟩
      obtain ⟨fn, hf, hbd⟩ := h3
      rw [callFunc_enter hf hbd (F.name 3 fn hf hbd)] at e
      cases e
    · exact h
  · simp only [args0, VRs, VR]
    exact ⟨_, _, rfl, rfl, _, _, rfl, rfl, _, _, rfl, ⟨_, rfl, _, _, rfl, rfl, _, _, rfl, rfl, _, _, rfl, rfl, _, _, rfl, rfl, _, _, rfl, rfl, _, _, rfl, rfl, _, _, rfl, rfl, rfl⟩, rfl⟩
  · intro v h' v' w' ρ' hv p kv
    cases hv
    refine ⟨by simpa [VR] using kv, p.os, p.output, p.tape, p.size, fun a => by rw [frozen_iced, frozen_iced]; exact p.ice _ _, fun k hk => p.keep k hk ?_⟩
    rintro ⟨b, o, l, g, _⟩
    have : Heap.empty.get b = none := rfl
    rw [this] at g; cases g
#print axioms callNews_walk
end Go.Gh
