/- The ghost machine's steps are the model's: what a text comes to. -/
import Derived.Test.YtloflflapneheaaGreatDoorGhQ
import Derived.Test.YtloflflapneheaaGreatDoorGhM
import Derived.Tactics
import Derived.Scope
import Derived.LoopN
set_option linter.unusedSectionVars false
set_option linter.unusedVariables false
set_option linter.unusedSimpArgs false
namespace Go.Gh
variable [Sym]
variable {P : Program}

structure AR (ρ : Ren) (a : GAct) (α : Act) : Prop where
  tmps : VRs ρ a.tmps α.tmps.toList
  defers : α.defers = []

theorem VR.undef {ρ : Ren} : VR ρ undef undef := VR.tuple.2 ⟨[], rfl, .nil⟩
theorem AR.mono {ρ ρ' : Ren} {a : GAct} {α : Act} (k : AR ρ a α) (h : ρ.le ρ') : AR ρ' a α := ⟨VRs.mono h _ _ k.tmps, k.defers⟩
theorem AR.put {ρ : Ren} {a : GAct} {α : Act} (k : AR ρ a α) {d : Option Tmp} {v v' : Value} (kv : VR ρ v v') : AR ρ (a.put d v) (α.put d v') := by
  cases d with
  | none => exact k
  | some d =>
    refine ⟨?_, k.defers⟩
    simp only [GAct.put, Act.put, Array.toList_setIfInBounds]
    exact k.tmps.set kv
theorem AR.tmp {ρ : Ren} {a : GAct} {α : Act} (k : AR ρ a α) (t : Tmp) : VR ρ (a.tmps.getD t undef) (α.tmps.getD t undef) := by
  cases h : a.tmps[t]? with
  | none =>
    have h2 := k.tmps.get_none h
    rw [Array.getElem?_toList] at h2
    rw [List.getD_eq_getElem?_getD, h]
    have : α.tmps.getD t undef = undef := by rw [Array.getD_eq_getD_getElem?, h2]; rfl
    rw [this]; exact VR.undef
  | some v =>
    obtain ⟨y, hy, ky⟩ := k.tmps.get h
    rw [Array.getElem?_toList] at hy
    rw [List.getD_eq_getElem?_getD, h, Array.getD_eq_getD_getElem?, hy]
    exact ky
theorem AR.ev {ρ : Ren} {a : GAct} {α : Act} (k : AR ρ a α) : EvOK ρ a.ev α.eval := by
  intro x v e
  cases x with
  | tmp t => simp only [GAct.ev, Option.some.injEq] at e; subst e; exact k.tmp t
  | const c =>
    simp only [GAct.ev] at e
    split at e
    · rename_i hp; cases e; exact VR.of_plain _ hp
    · cases e
  | global g => simp [GAct.ev] at e
  | func f => simp only [GAct.ev, Option.some.injEq] at e; subst e; exact VR.func.2 ⟨[], [], rfl, .nil, .nil⟩

theorem VR.bool {ρ : Ren} {v : Value} {b : Bool} (k : VR ρ v (.bool b)) : v = .bool b := by
  cases v with
  | bool c => simp only [VR] at k; exact k.symm
  | int => simp [VR] at k
  | float => simp [VR] at k
  | complex => simp [VR] at k
  | string => simp [VR] at k
  | pointer a => cases a <;> simp [VR] at k
  | slice a => cases a <;> simp [VR] at k
  | map a => cases a <;> simp [VR] at k
  | chan a =>
    cases a with
    | none => simp [VR] at k
    | some i => simp only [VR] at k; obtain ⟨kk, n, hk⟩ := Sym.one i; rw [hk] at k; cases k
  | func f a b => obtain ⟨x, y, e, _⟩ := VR.func.1 k; cases e
  | nilFunc => simp [VR] at k
  | iface => simp [VR] at k
  | nilIface => simp [VR] at k
  | agg => obtain ⟨x, e, _⟩ := VR.agg.1 k; cases e
  | tuple => obtain ⟨x, e, _⟩ := VR.tuple.1 k; cases e

theorem gyield_eq {ρ : Ren} {a : GAct} {α : Act} (k : AR ρ a α) (ops : List Oper) (j : Nat) : yielded ops.toArray α.tmps j = gyield ops a.tmps j := by
  unfold yielded gyield
  have : ops.toArray[j]? = ops[j]? := by simp
  rw [this]
  cases (ops[j]?).bind (·.dst) with
  | none => rfl
  | some d =>
    simp only [Option.bind_some]
    cases h : a.tmps[d]? with
    | none =>
      have h2 := k.tmps.get_none h
      rw [Array.getElem?_toList] at h2
      rw [h2]
    | some v =>
      obtain ⟨y, hy, ky⟩ := k.tmps.get h
      rw [Array.getElem?_toList] at hy
      rw [hy]
      cases y with
      | bool b => rw [ky.bool]
      | _ =>
        cases v with
        | bool b => simp [VR] at ky
        | _ => rfl
theorem gwant_eq {ρ : Ren} {a : GAct} {α : Act} (k : AR ρ a α) (ops : List Oper) (o : Oper) : Region.wanted o (yielded ops.toArray α.tmps) = gwant o ops a.tmps := by
  unfold Region.wanted gwant
  cases o.guard with
  | none => rfl
  | some g => obtain ⟨j, want⟩ := g; simp only [gyield_eq k]

/-- how a call answers -/
def Ans (P : Program) (f : FuncId) (args : Array Value) (w : World) (R : Value → World → Prop) : Prop :=
  (∃ v' w', (callFunc f args).run P w = .ok (.value v') w' ∧ R v' w') ∨
  ((callFunc f args).run P w = .ok (.enter f args) w ∧ Calls P f args w fun | .returned v, w' => R v w' | _, _ => False)

def CallSound (P : Program) (call : Callee) : Prop := ∀ f args K h ρ args' w R, call f args K h → HSim P ρ h w.heap → VRs ρ args (args' : Array Value).toList →
  (∀ v h' v' w' ρ', K v h' → Post P ρ h w ρ' h' w' → VR ρ' v v' → R v' w') → Ans P f args' w R

theorem Ans.upon {f : FuncId} {args : Array Value} {w : World} {R : Value → World → Prop} {o : Oper} {α : Act} {K : Act → World → Prop} {Q : Exit → Act → World → Prop} (h : Ans P f args w R)
    (hR : ∀ v w', R v w' → K (α.put o.dst v) w') : o.upon P α K Q ((callFunc f args).run P w) := by
  rcases h with ⟨v', w', e, r⟩ | ⟨e, c⟩
  · rw [e]; exact hR _ _ r
  · rw [e, Oper.upon_enter]
    exact c.mono fun e w' r => by cases e <;> first | exact hR _ _ r | exact r.elim

/-- what holds at the end -/
def Goes (P : Program) (G : GQ) (Q : Exit → Act → World → Prop) (ρ : Ren) (h : Heap) (w : World) : Prop :=
  ∀ e a' h' α' w' ρ', G e a' h' → Post P ρ h w ρ' h' w' → AR ρ' a' α' → Q e α' w'
theorem Goes.after {G : GQ} {Q : Exit → Act → World → Prop} {ρ ρ' : Ren} {h h' : Heap} {w w' : World} (k : Goes P G Q ρ h w) (p : Post P ρ h w ρ' h' w') : Goes P G Q ρ' h' w' :=
  fun e a' h'' α' w'' ρ'' g q r => k e a' h'' α' w'' ρ'' g (p.trans q) r

/-- one operation, whatever comes behind it -/
theorem op_sound {call : Callee} (hc : CallSound P call) {o : Oper} {a : GAct} {α : Act} {h : Heap} {w : World} {ρ : Ren} {G : GAct → Heap → Prop} {K : Act → World → Prop} {Q : Exit → Act → World → Prop} (s : HSim P ρ h w.heap) (ka : AR ρ a α)
    (g : match gop P o a.ev h with
      | none => False
      | some (.val v h') => G (a.put o.dst v) h'
      | some (.call f args) => call f args (fun v h' => G (a.put o.dst v) h') h
      | some (.alts l) => galt (fun x => G (a.put o.dst x.1) x.2) l)
    (hK : ∀ a' h' α' w' ρ', G a' h' → Post P ρ h w ρ' h' w' → AR ρ' a' α' → K α' w') : o.wp P α w K Q := by
  unfold Oper.wp
  split at g
  · exact g.elim
  · rename_i v h' hg
    rcases gop_sound s ka.ev hg with ⟨v', w', ρ', e, p, kv⟩ | ⟨w', ρ', e, rfl, p⟩
    · rw [e, Oper.upon_value]; exact hK _ _ _ _ _ g p ((ka.mono p.le).put kv)
    · rw [e, Oper.upon_skip]; exact hK _ _ _ _ _ g p ((ka.mono p.le).put VR.undef)
  · rename_i f args hg
    obtain ⟨args', e, kargs⟩ := gop_sound s ka.ev hg
    rw [e]
    refine (hc f args _ h ρ args' w (fun v' w' => K (α.put o.dst v') w') g s kargs fun v h' v' w' ρ' kg p kv => hK _ _ _ _ _ kg p ((ka.mono p.le).put kv)).upon fun v w' r => r
  · rename_i l hg
    obtain ⟨x, hx, v', w', ρ', e, p, kv⟩ := gop_sound s ka.ev hg
    rw [e, Oper.upon_value]
    exact hK _ _ _ _ _ (galt_mem g x hx) p ((ka.mono p.le).put kv)

theorem gops_sound {call : Callee} (hc : CallSound P call) {ops : List Oper} {G : GQ} {Q : Exit → Act → World → Prop} : ∀ {rest : List Oper} {a : GAct} {h : Heap} {ρ : Ren} {α : Act} {w : World},
    gops P call ops G rest a h → HSim P ρ h w.heap → AR ρ a α → Goes P G Q ρ h w → wpList P ops.toArray Q rest α w
  | [], a, h, ρ, α, w, g, s, ka, hq => hq _ _ _ _ _ _ g (Post.refl s) ka
  | o :: rest, a, h, ρ, α, w, g, s, ka, hq => by
    simp only [gops] at g
    simp only [wpList, gwant_eq ka]
    split at g
    · rename_i hw
      simp only [hw, Bool.false_eq_true, if_false]
      exact gops_sound hc g s (ka.put VR.undef) hq
    · rename_i hw
      simp only [hw, if_true]
      refine .inl (op_sound hc (G := gops P call ops G rest) s ka ?_ fun a' h' α' w' ρ' g' p k' => gops_sound hc g' p.sim k' (hq.after p))
      split at g <;> first | exact g.elim | (rename_i e; rw [e]; exact g)
end Go.Gh
