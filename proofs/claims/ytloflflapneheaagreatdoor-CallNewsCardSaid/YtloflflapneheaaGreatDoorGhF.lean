/- The ghost machine's operations are the model's (1): what asks nothing of memory, new blocks, loads, stores. -/
import Derived.Test.YtloflflapneheaaGreatDoorGhE
set_option linter.unusedSectionVars false
set_option linter.unusedVariables false
set_option linter.unusedSimpArgs false
namespace Go.Gh
variable [Sym]
variable {P : Program} {ρ : Ren} {h : Heap} {w : World}

/-- what the model does at an operation, held against what the ghost machine does -/
def OpOK (P : Program) (ρ : Ren) (h : Heap) (w : World) (r : Result Next) : GN → Prop
  | .val v h' => (∃ v' w' ρ', r = .ok (.value v') w' ∧ Post P ρ h w ρ' h' w' ∧ VR ρ' v v') ∨ (∃ w' ρ', r = .ok .skip w' ∧ v = undef ∧ Post P ρ h w ρ' h' w')
  | .call f args => ∃ args' : Array Value, r = (callFunc f args').run P w ∧ VRs ρ args args'.toList
  | .alts l => ∃ x ∈ l, ∃ v' w' ρ', r = .ok (.value v') w' ∧ Post P ρ h w ρ' x.2 w' ∧ VR ρ' x.1 v'

theorem OpOK.same {v v' : Value} {r : Result Next} (s : HSim P ρ h w.heap) (hr : r = .ok (.value v') w) (k : VR ρ v v') : OpOK P ρ h w r (.val v h) :=
  .inl ⟨v', w, ρ, hr, Post.refl s, k⟩

abbrev EvOK (ρ : Ren) (ev : Ev) (re : Operand → Value) : Prop := ∀ x v, ev x = some v → VR ρ v (re x)

theorem ok_pure {o : Oper} {ev : Ev} {re : Operand → Value} {g : GN} (s : HSim P ρ h w.heap) (hev : EvOK ρ ev re) (e : gpure P o ev h = some g) :
    OpOK P ρ h w ((execOp re o).run P w) g := by
  unfold gpure at e
  split at e
  case isFalse => cases e
  rename_i hp
  have hsame : ∀ x ∈ o.op.operands, re x = evD ev x := fun x hx => by
    have := (List.all_eq_true.1 hp) x (by simpa using hx)
    cases hx' : ev x with
    | none => simp [hx'] at this
    | some v => simp [hx'] at this; rw [VR.plain_eq v _ this (hev x v hx')]; simp [evD, hx']
  have key : (∀ cs b, o.op ≠ .select cs b) → (match sp P (execOp (evD ev) o) with | some (.value v) => if plain v then some (GN.val v h) else none | _ => none) = some g → OpOK P ρ h w ((execOp re o).run P w) g := by
    intro hs e
    split at e
    · rename_i v hsp
      split at e
      · rename_i hv
        cases e
        refine OpOK.same s (v' := v) ?_ (VR.of_plain v hv)
        rw [execOp_congr o hs hsame]; exact sp_run w _ _ hsp
      · cases e
    · cases e
  split at e
  · cases e
  · rename_i hne; exact key (fun cs b hb => hne cs b hb) e

theorem upd_le (s : HSim P ρ h w.heap) (l : Loc) : ρ.le (ρ.upd h.next l) := fun b l' e => by
  have : b ≠ h.next := fun x => by subst x; rw [s.fresh _ (Nat.le_refl _)] at e; cases e
  simp [Ren.upd, this, e]

/-- a new block of cells without marks -/
theorem Post.cells {t : TypeId} {c c' : List Value} (s : HSim P ρ h w.heap) (k : VRs ρ c c') :
    Post P ρ h w (ρ.upd h.next ⟨w.heap.size, 0, 0⟩) (h.new (.cells c t .ex)) { w with heap := w.heap.push (.cells c'.toArray t) } :=
  Post.new s _ _ _ rfl ⟨c'.toArray, (0, 0), [], c', [], by simp, by simp, rfl, VRs.mono (upd_le s _) _ _ k, fun _ i _ _ => by simp, fun h => by cases h⟩

theorem ok_alloc {t : TypeId} {z : Value} (s : HSim P ρ h w.heap) (e : zeroOf P t = some z) : OpOK P ρ h w ((do let x ← Instr.alloc t true (.tuple #[]); pure (.value x) : Sem Next).run P w) (gnew h t (vcells z)) := by
  obtain ⟨hz, hp⟩ := run_zeroValue_ (w := w) e
  refine .inl ⟨.pointer (some ⟨w.heap.size, 0, none⟩), { w with heap := w.heap.push (.cells z.cells t) }, ρ.upd h.next ⟨w.heap.size, 0, 0⟩, ?_, ?_, ?_⟩
  · simp [Instr.alloc, hz, newVar, newRow]
  · have := Post.cells (t := t) s (VR.cells (VR.of_plain (ρ := ρ) z hp))
    have hv : (vcells z).toArray = z.cells := by rw [← vcells_eq]
    rwa [hv] at this
  · simp only [VR]; exact ⟨⟨w.heap.size, 0, 0⟩, by simp [Ren.upd], trivial, by simp [Loc.addr]⟩
theorem ok_box {t : TypeId} {v v' : Value} (s : HSim P ρ h w.heap) (k : VR ρ v v') : OpOK P ρ h w ((do let x ← Instr.box t v'; pure (.value x) : Sem Next).run P w) (gnew h t (vcells v)) := by
  refine .inl ⟨.pointer (some ⟨w.heap.size, 0, none⟩), { w with heap := w.heap.push (.cells v'.cells t) }, ρ.upd h.next ⟨w.heap.size, 0, 0⟩, ?_, ?_, ?_⟩
  · simp [Instr.box, newVar, newRow]
  · have := Post.cells (t := t) s k.cells
    have hv : (vcells v').toArray = v'.cells := by rw [← vcells_eq]
    rwa [hv] at this
  · simp only [VR]; exact ⟨⟨w.heap.size, 0, 0⟩, by simp [Ren.upd], trivial, by simp [Loc.addr]⟩

theorem ok_load {t : TypeId} {a a' v : Value} (s : HSim P ρ h w.heap) (k : VR ρ a a') (e : gload P t h a = some v) :
    OpOK P ρ h w ((do let x ← Instr.loadAt t a'; pure (.value x) : Sem Next).run P w) (.val v h) := by
  have : ∃ b, a = .pointer (some b) := by
    unfold gload at e; split at e
    · exact ⟨_, rfl⟩
    · cases e
  obtain ⟨b, rfl⟩ := this
  have k' := k
  simp only [VR] at k'
  obtain ⟨l, hr, hsp, rfl⟩ := k'
  obtain ⟨v', h1, h2⟩ := run_loadVar_ (w := w) s e k rfl
  exact OpOK.same s (by simp [Instr.loadAt, Instr.sureAddr, h1]) h2

theorem ok_store {t : TypeId} {a a' v v' : Value} {h' : Heap} (s : HSim P ρ h w.heap) (k : VR ρ a a') (kv : VR ρ v v') (e : gstore P t h a v = some h') :
    OpOK P ρ h w ((do Instr.storeAt t a' v'; pure .skip : Sem Next).run P w) (.val undef h') := by
  unfold gstore at e
  split at e
  case h_2 => cases e
  rename_i v0 a0
  simp only [VR] at k
  obtain ⟨l, hr, hsp, rfl⟩ := k
  cases hz : szOf P t with
  | none => simp [hz] at e
  | some n =>
    simp only [hz, Option.bind_some] at e
    split at e
    case isFalse => cases e
    rename_i hn
    have kc := kv.cells
    obtain ⟨w', h1, h2⟩ := HSim.puts s e hr kc
    refine .inr ⟨w', ρ, ?_, rfl, h2⟩
    have hsz : v'.cells.size = n := by rw [← Array.length_toList, vcells_eq, kc.length, hn]
    have h1' : (storeCells (l.addr a0) v'.cells.toList 0).run P w = .ok () w' := by rw [vcells_eq]; exact h1
    simp [Instr.storeAt, Instr.sureAddr, storeVar, run_sizeOf_ hz, hsz, h1']

end Go.Gh
