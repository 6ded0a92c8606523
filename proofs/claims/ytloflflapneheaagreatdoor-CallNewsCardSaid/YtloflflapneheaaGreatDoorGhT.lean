/- The ghost machine's regions that draw their order are the model's (2). -/
import Derived.Test.YtloflflapneheaaGreatDoorGhS
import Derived.Orders
set_option linter.unusedSectionVars false
set_option linter.unusedVariables false
set_option linter.unusedSimpArgs false
namespace Go.Gh
variable [Sym]
variable {P : Program}

theorem gpure_heap {o : Oper} {ev : Ev} {h : Heap} {g : GN} (e : gpure P o ev h = some g) : ∃ v, g = .val v h := by
  unfold gpure at e
  split at e
  case isFalse => cases e
  split at e
  · cases e
  · split at e
    · split at e
      · cases e; exact ⟨_, rfl⟩
      · cases e
    · cases e

/-- a soft operation leaves memory alone -/
theorem soft_heap {o : Oper} {ev : Ev} {h : Heap} {g : GN} (hs : isSoft o.op = true) (e : gop P o ev h = some g) : ∃ v, g = .val v h := by
  have hp : gpure P o ev h = some g → ∃ v, g = .val v h := gpure_heap
  cases hop : o.op with
  | move x => simp only [gop, hop] at e; obtain ⟨v, _, rfl⟩ := map_some_eq e; exact ⟨_, rfl⟩
  | assign x => simp only [gop, hop] at e; obtain ⟨v, _, rfl⟩ := map_some_eq e; exact ⟨_, rfl⟩
  | pick c a b =>
    simp only [gop, hop] at e
    obtain ⟨v, _, e⟩ := bind_some_eq e
    split at e
    · obtain ⟨u, _, rfl⟩ := map_some_eq e; exact ⟨_, rfl⟩
    · cases e
  | build t ps =>
    simp only [gop, hop] at e
    obtain ⟨v, _, e⟩ := bind_some_eq e
    obtain ⟨u, _, rfl⟩ := map_some_eq e; exact ⟨_, rfl⟩
  | nilCheck x =>
    simp only [gop, hop] at e
    obtain ⟨v, _, e⟩ := bind_some_eq e
    split at e
    · cases e; exact ⟨_, rfl⟩
    · cases e
  | binOp op t x y ty =>
    simp only [gop, hop] at e
    obtain ⟨v, _, e⟩ := bind_some_eq e
    obtain ⟨u, _, e⟩ := bind_some_eq e
    split at e
    · exact hp e
    · split at e <;> (obtain ⟨u, _, rfl⟩ := map_some_eq e; exact ⟨_, rfl⟩)
  | unOp a b c => simp only [gop, hop] at e; exact hp e
  | convert a b c => simp only [gop, hop] at e; exact hp e
  | makeInterface t x =>
    simp only [gop, hop] at e
    obtain ⟨v, _, e⟩ := bind_some_eq e
    split at e <;> cases e
    exact ⟨_, rfl⟩
  | makeFunc f a b =>
    simp only [gop, hop] at e
    split at e
    · obtain ⟨v, _, e⟩ := bind_some_eq e
      obtain ⟨u, _, rfl⟩ := map_some_eq e; exact ⟨_, rfl⟩
    · cases e
  | slice t x lo hi mx =>
    simp only [gop, hop] at e
    obtain ⟨v, _, e⟩ := bind_some_eq e
    split at e
    · exact hp e
    · obtain ⟨a, _, e⟩ := bind_some_eq e
      obtain ⟨b, _, e⟩ := bind_some_eq e
      obtain ⟨c, _, e⟩ := bind_some_eq e
      obtain ⟨u, _, rfl⟩ := map_some_eq e; exact ⟨_, rfl⟩
  | fieldAddr t x i =>
    simp only [gop, hop] at e
    obtain ⟨v, _, e⟩ := bind_some_eq e
    obtain ⟨u, _, rfl⟩ := map_some_eq e; exact ⟨_, rfl⟩
  | field t x i =>
    simp only [gop, hop] at e
    obtain ⟨v, _, e⟩ := bind_some_eq e
    obtain ⟨u, _, rfl⟩ := map_some_eq e; exact ⟨_, rfl⟩
  | indexAddr t x i =>
    simp only [gop, hop] at e
    obtain ⟨v, _, e⟩ := bind_some_eq e
    obtain ⟨k, _, e⟩ := bind_some_eq e
    obtain ⟨u, _, rfl⟩ := map_some_eq e; exact ⟨_, rfl⟩
  | index t x i =>
    simp only [gop, hop] at e
    obtain ⟨v, _, e⟩ := bind_some_eq e
    obtain ⟨k, _, e⟩ := bind_some_eq e
    split at e
    · exact hp e
    · obtain ⟨u, _, rfl⟩ := map_some_eq e; exact ⟨_, rfl⟩
  | load t x =>
    simp only [gop, hop] at e
    obtain ⟨v, _, e⟩ := bind_some_eq e
    obtain ⟨u, _, rfl⟩ := map_some_eq e; exact ⟨_, rfl⟩
  | lookup t m k ok =>
    simp only [gop, hop] at e
    obtain ⟨v, _, e⟩ := bind_some_eq e
    obtain ⟨k, _, e⟩ := bind_some_eq e
    obtain ⟨u, _, rfl⟩ := map_some_eq e; exact ⟨_, rfl⟩
  | extract t i =>
    simp only [gop, hop] at e
    obtain ⟨v, _, e⟩ := bind_some_eq e
    split at e
    · obtain ⟨u, _, rfl⟩ := map_some_eq e; exact ⟨_, rfl⟩
    · cases e
  | call c =>
    obtain ⟨callee, args, ats⟩ := c
    cases callee with
    | builtin b =>
      simp only [gop, hop] at e
      obtain ⟨as, _, e⟩ := bind_some_eq e
      rw [hop] at hs
      cases b with
      | len =>
        unfold gbuiltin at e
        split at e
        case h_3 =>
          split at e
          · split at e <;> cases e
            exact ⟨_, rfl⟩
          · split at e
            · cases e; exact ⟨_, rfl⟩
            · obtain ⟨u, _, rfl⟩ := map_some_eq e; exact ⟨_, rfl⟩
            · cases e
          · exact hp e
        all_goals first | exact hp e | (cases e; done) | (rename_i hb _; cases hb; done) | contradiction
      | max => unfold gbuiltin at e; split at e <;> first | exact hp e | contradiction
      | min => unfold gbuiltin at e; split at e <;> first | exact hp e | contradiction
      | real => unfold gbuiltin at e; split at e <;> first | exact hp e | contradiction
      | imag => unfold gbuiltin at e; split at e <;> first | exact hp e | contradiction
      | complex => unfold gbuiltin at e; split at e <;> first | exact hp e | contradiction
      | _ => simp [isSoft] at hs
    | _ => rw [hop] at hs; simp [isSoft] at hs
  | _ => rw [hop] at hs; simp [isSoft] at hs

mutual
theorem veq_eq : ∀ (a b : Value), veq a b = true → a = b
  | .bool a, b, h => by cases b <;> simp [veq] at h; simp [h]
  | .int k a, b, h => by cases b <;> simp [veq] at h; simp [h]
  | .float k a, b, h => by cases b <;> simp [veq] at h; simp [h]
  | .complex k a c, b, h => by cases b <;> simp [veq] at h; simp [h]
  | .string a, b, h => by cases b <;> simp [veq] at h; simp [h]
  | .pointer a, b, h => by cases b <;> simp [veq] at h; simp [h]
  | .slice a n c, b, h => by cases b <;> simp [veq] at h; simp [h]
  | .map a, b, h => by cases b <;> simp [veq] at h; simp [h]
  | .chan a, b, h => by cases b <;> simp [veq] at h; simp [h]
  | .func f ⟨a⟩ ⟨c⟩, b, h => by
    cases b <;> try (simp [veq] at h; done)
    rename_i g x y
    obtain ⟨x⟩ := x
    obtain ⟨y⟩ := y
    simp only [veq, Bool.and_eq_true, decide_eq_true_eq] at h
    rw [h.1.1, veqs_eq a x h.1.2, veqs_eq c y h.2]
  | .nilFunc, b, h => by cases b <;> simp [veq] at h; rfl
  | .iface t a, b, h => by
    cases b <;> try (simp [veq] at h; done)
    rename_i u x
    simp only [veq, Bool.and_eq_true, beq_iff_eq] at h
    rw [h.1, veq_eq a x h.2]
  | .nilIface, b, h => by cases b <;> simp [veq] at h; rfl
  | .agg ⟨a⟩, b, h => by
    cases b <;> try (simp [veq] at h; done)
    rename_i x
    obtain ⟨x⟩ := x
    simp only [veq] at h; rw [veqs_eq a x h]
  | .tuple ⟨a⟩, b, h => by
    cases b <;> try (simp [veq] at h; done)
    rename_i x
    obtain ⟨x⟩ := x
    simp only [veq] at h; rw [veqs_eq a x h]
theorem veqs_eq : ∀ (a b : List Value), veqs a b = true → a = b
  | [], [], _ => rfl
  | a :: r, b :: s, h => by
    simp only [veqs, Bool.and_eq_true] at h
    rw [veq_eq a b h.1, veqs_eq r s h.2]
  | [], _ :: _, h => by simp [veqs] at h
  | _ :: _, [], h => by simp [veqs] at h
end
end Go.Gh
