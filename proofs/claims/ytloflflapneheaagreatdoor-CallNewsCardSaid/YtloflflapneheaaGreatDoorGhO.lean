/- The ghost machine's operations are the model's (9): all of them. -/
import Derived.Test.YtloflflapneheaaGreatDoorGhN
set_option linter.unusedSectionVars false
set_option linter.unusedVariables false
set_option linter.unusedSimpArgs false
namespace Go.Gh
variable [Sym]
variable {P : Program} {ρ : Ren} {h : Heap} {w : World}

theorem bind_some_eq {α β : Type} {o : Option α} {f : α → Option β} {b : β} (e : o.bind f = some b) : ∃ a, o = some a ∧ f a = some b := by
  cases o with
  | none => cases e
  | some a => exact ⟨a, rfl, e⟩
theorem map_some_eq {α β : Type} {o : Option α} {f : α → β} {b : β} (e : o.map f = some b) : ∃ a, o = some a ∧ f a = b := by
  cases o with
  | none => cases e
  | some a => exact ⟨a, rfl, by simpa using e⟩

theorem toInts_ok {ev : Ev} {re : Operand → Value} (hev : EvOK ρ ev re) {o : Option Operand} {r : Option Int} (e : toInts ev o = some r) : optInt r (o.map re) := by
  cases o with
  | none => simp [toInts] at e; subst e; simp [optInt]
  | some x =>
    simp only [toInts] at e
    obtain ⟨v, hv, e⟩ := bind_some_eq e
    obtain ⟨n, hn, rfl⟩ := map_some_eq e
    obtain ⟨k, rfl⟩ := asI_some hn
    have := (hev _ _ hv).int
    simp [optInt, this]

theorem callv_ok {f f' : Value} {args args' : List Value} {g : GN} (kf : VR ρ f f') (ka : VRs ρ args args') (e : gcallv f args = some g) :
    OpOK P ρ h w ((do let d ← Deferred.ofValue f' args'.toArray; invoke d.target d.args : Sem Next).run P w) g := by
  unfold gcallv at e
  split at e
  case h_2 => cases e
  rename_i id first captured kf
  cases e
  obtain ⟨a, b, rfl, k1, k2⟩ := VR.func.1 kf
  refine ⟨a.toArray ++ args'.toArray ++ b.toArray, ?_, ?_⟩
  · simp [Deferred.ofValue, invoke]
  · simp only [Array.toList_append, List.append_assoc]
    exact k1.append (ka.append k2)

theorem invoke_ok {x x' : Value} {name : String} {args args' : List Value} {g : GN} (kx : VR ρ x x') (ka : VRs ρ args args') (e : ginvoke P x name args = some g) :
    OpOK P ρ h w ((invoke (.fn (.method name) #[]) (#[x'] ++ args'.toArray) : Sem Next).run P w) g := by
  unfold ginvoke at e
  split at e
  case h_2 => cases e
  rename_i t v
  split at e
  case h_2 => cases e
  rename_i i hi
  split at e
  case h_2 => cases e
  rename_i m hm
  simp only [VR] at kx
  obtain ⟨v', rfl, kv⟩ := kx
  have hd : P.types.size + Made.depth = (P.types.size + (Made.depth - 1)) + 1 := by
    have : 0 < Made.depth := by decide
    omega
  have key : ∀ f pr, m.path.isEmpty = true → m.func = some (f, pr) → ((pr = true ∧ ∃ e, P.underlying t = some (.pointer e)) ∨ (pr = false ∧ ∃ d, P.underlying t = some d ∧ ∀ e, d ≠ .pointer e)) →
      (invoke (.fn (.method name) #[]) (#[Value.iface t v'] ++ args'.toArray) : Sem Next).run P w = (callFunc f (#[v'] ++ args'.toArray)).run P w := by
    intro f pr hp hf hu
    have h1 := run_method_ (w := w) (v := v') (n := P.types.size + (Made.depth - 1)) hi hm hp hf hu
    have hex : (#[Value.iface t v'] ++ args'.toArray).extract 1 (#[Value.iface t v'] ++ args'.toArray).size = args'.toArray := by
      apply Array.ext_getElem?
      intro j
      simp
    have hg0 : (#[Value.iface t v'] ++ args'.toArray)[0]? = some (.iface t v') := by simp
    simp only [invoke, hg0, callMethod, Sem.run_bind, run_program, Result.andThen_ok, hd, h1, hex]
  split at e
  · rename_i f _ hp hf hu
    cases e
    exact ⟨#[v'] ++ args'.toArray, key f true hp hf (.inl ⟨rfl, _, hu⟩), by simpa using VRs.cons kv ka⟩
  · cases e
  · rename_i f d hne hp hf hu
    cases e
    exact ⟨#[v'] ++ args'.toArray, key f false hp hf (.inr ⟨rfl, d, hu, fun e he => hne e (by rw [he])⟩), by simpa using VRs.cons kv ka⟩
  · cases e

theorem array1 {α β : Type} {a : Array α} {f : α → β} {l : List β} (h : a.toList.map f = l) : a.map f = l.toArray := by
  apply Array.ext'; simp [← h]

theorem gbuiltin_ok {o : Oper} {b : Builtin} {c : Call} {ev : Ev} {re : Operand → Value} {args : List Value} {g : GN} (s : HSim P ρ h w.heap) (hev : EvOK ρ ev re) (ho : o.op = .call c) (hb : c.callee = .builtin b)
    (ha : VRs ρ args (c.args.toList.map re)) (e : gbuiltin P o b c.argTypes args ev h = some g) : OpOK P ρ h w ((execOp re o).run P w) g := by
  have hargs : c.args.map re = (c.args.toList.map re).toArray := array1 rfl
  have hex : execOp re o = builtin b c.argTypes o.type (c.args.map fun | .const _ => true | _ => false) (c.args.map re) := by
    have : execOp re o = (do let d ← resolve re c o.type; invoke d.target d.args : Sem Next) := by unfold execOp; rw [ho]
    rw [this]
    simp only [resolve, hb]
    rfl
  have hat : ∀ {t : TypeId}, c.argTypes[0]? = some t → ∃ r : List TypeId, c.argTypes.toList = t :: r := fun {t} ht => by
    cases hl : c.argTypes.toList with
    | nil => rw [← Array.getElem?_toList, hl] at ht; cases ht
    | cons a r => rw [← Array.getElem?_toList, hl] at ht; cases ht; exact ⟨r, rfl⟩
  unfold gbuiltin at e
  split at e
  · -- append
    rename_i sv x
    split at e
    case h_2 => cases e
    rename_i t tx h0 h1
    simp only [VRs] at ha
    obtain ⟨s', _, ha, ks, x', _, rfl, kx, rfl⟩ := ha
    have h2 := ok_append (ty := o.type) s ks kx e
    have : (Builtin.append_ c.argTypes o.type #[s', x']) = (Builtin.append_ #[t, tx] o.type #[s', x']) := by
      simp [Builtin.append_, h0, h1]
    rw [hex, hargs, ha]
    simp only [builtin, this]
    exact h2
  · -- copy
    rename_i d x
    obtain ⟨t, h0, e⟩ := bind_some_eq e
    simp only [VRs] at ha
    obtain ⟨d', _, ha, kd, x', _, rfl, kx, rfl⟩ := ha
    have h2 := ok_copy (tx := t) (ty := o.type) s kd kx e
    have : (Builtin.copy_ c.argTypes o.type #[d', x']) = (Builtin.copy_ #[t, t] o.type #[d', x']) := by
      simp [Builtin.copy_, h0]
    rw [hex, hargs, ha]
    simp only [builtin, this]
    exact h2
  · -- len
    rename_i x
    simp only [VRs] at ha
    obtain ⟨x', _, ha, kx, rfl⟩ := ha
    have hpure : gpure P o ev h = some g → OpOK P ρ h w ((execOp re o).run P w) g := ok_pure s hev
    have hlen : ∀ t, c.argTypes[0]? = some t → OpOK P ρ h w ((do let x ← Builtin.len_ #[t] o.type #[x']; pure (.value x) : Sem Next).run P w) g → OpOK P ρ h w ((execOp re o).run P w) g := by
      intro t h0 h2
      have : (Builtin.len_ c.argTypes o.type #[x']) = (Builtin.len_ #[t] o.type #[x']) := by
        simp [Builtin.len_, h0]
      rw [hex, hargs, ha]
      simp only [builtin, this]
      exact h2
    split at e
    · rename_i el hu
      obtain ⟨t, h0, hu⟩ := bind_some_eq hu
      split at e
      · cases e
        exact hlen t h0 (ok_len s kx (.inl ⟨_, _, _, _, hu, rfl, rfl⟩))
      · cases e
    · rename_i a b hu
      obtain ⟨t, h0, hu⟩ := bind_some_eq hu
      split at e
      · cases e
        exact hlen t h0 (ok_len s kx (.inr ⟨_, _, hu, .inl ⟨rfl, rfl⟩⟩))
      · obtain ⟨v, hv, rfl⟩ := map_some_eq e
        exact hlen t h0 (ok_len s kx (.inr ⟨_, _, hu, .inr ⟨v, hv, ⟨_, rfl⟩, rfl⟩⟩))
      · cases e
    · exact hpure e
  · -- clear
    rename_i x
    obtain ⟨t, h0, e⟩ := bind_some_eq e
    obtain ⟨h', e2, rfl⟩ := map_some_eq e
    simp only [VRs] at ha
    obtain ⟨x', _, ha, kx, rfl⟩ := ha
    have h2 := ok_clear (ty := o.type) s kx e2
    have : (Builtin.clear_ c.argTypes o.type #[x']) = (Builtin.clear_ #[t] o.type #[x']) := by
      simp [Builtin.clear_, h0]
    rw [hex, hargs, ha]
    simp only [builtin, this]
    exact h2
  all_goals first | exact ok_pure s hev e | cases e
end Go.Gh
