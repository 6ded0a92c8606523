/- Lists of related values; plain values; the ghost heap; how it stands for the model's; what a step leaves. -/
import Derived.Test.YtloflflapneheaaGreatDoorGhA
set_option linter.unusedSectionVars false
set_option linter.unusedVariables false
set_option linter.unusedSimpArgs false
namespace Go.Gh
variable [Sym]

theorem VRs.length {ρ : Ren} : ∀ {a b : List Value}, VRs ρ a b → b.length = a.length
  | [], _, h => by simp [VRs] at h; simp [h]
  | x :: xs, _, h => by
    simp only [VRs] at h; obtain ⟨y, ys, rfl, _, h2⟩ := h; simp [VRs.length h2]
theorem VRs.nil {ρ : Ren} : VRs ρ [] [] := by simp [VRs]
theorem VRs.cons {ρ : Ren} {x y : Value} {xs ys : List Value} (h : VR ρ x y) (k : VRs ρ xs ys) : VRs ρ (x :: xs) (y :: ys) := by
  simp only [VRs]; exact ⟨y, ys, rfl, h, k⟩
theorem VRs.one {ρ : Ren} {x y : Value} (h : VR ρ x y) : VRs ρ [x] [y] := .cons h .nil
theorem VRs.get {ρ : Ren} : ∀ {a b : List Value} {i : Nat} {x : Value}, VRs ρ a b → a[i]? = some x → ∃ y, b[i]? = some y ∧ VR ρ x y
  | [], _, i, x, _, e => by simp at e
  | a :: as, _, 0, x, h, e => by
    simp only [VRs] at h; obtain ⟨y, ys, rfl, h1, _⟩ := h
    simp at e; subst e; exact ⟨y, by simp, h1⟩
  | a :: as, _, i + 1, x, h, e => by
    simp only [VRs] at h; obtain ⟨y, ys, rfl, _, h2⟩ := h
    simp at e; obtain ⟨z, h3, h4⟩ := VRs.get h2 e; exact ⟨z, by simpa using h3, h4⟩
theorem VRs.get_none {ρ : Ren} {a b : List Value} {i : Nat} (h : VRs ρ a b) (e : a[i]? = none) : b[i]? = none := by
  have := h.length; simp at e ⊢; omega
theorem VRs.append {ρ : Ren} : ∀ {a b c d : List Value}, VRs ρ a b → VRs ρ c d → VRs ρ (a ++ c) (b ++ d)
  | [], _, c, d, h, k => by simp [VRs] at h; subst h; simpa using k
  | x :: xs, _, c, d, h, k => by
    simp only [VRs] at h; obtain ⟨y, ys, rfl, h1, h2⟩ := h
    exact .cons h1 (VRs.append h2 k)
theorem VRs.take {ρ : Ren} : ∀ (n : Nat) {a b : List Value}, VRs ρ a b → VRs ρ (a.take n) (b.take n)
  | 0, a, b, _ => by simp [VRs]
  | n + 1, [], _, h => by simp [VRs] at h; subst h; simp [VRs]
  | n + 1, x :: xs, _, h => by
    simp only [VRs] at h; obtain ⟨y, ys, rfl, h1, h2⟩ := h
    simp only [List.take_succ_cons]; exact .cons h1 (VRs.take n h2)
theorem VRs.drop {ρ : Ren} : ∀ (n : Nat) {a b : List Value}, VRs ρ a b → VRs ρ (a.drop n) (b.drop n)
  | 0, a, b, h => by simpa using h
  | n + 1, [], _, h => by simp [VRs] at h; subst h; simp [VRs]
  | n + 1, x :: xs, _, h => by
    simp only [VRs] at h; obtain ⟨y, ys, rfl, h1, h2⟩ := h
    simp only [List.drop_succ_cons]; exact VRs.drop n h2
theorem VRs.set {ρ : Ren} {x y : Value} (hx : VR ρ x y) : ∀ {n : Nat} {a b : List Value}, VRs ρ a b → VRs ρ (a.set n x) (b.set n y)
  | _, [], _, h => by simp [VRs] at h; subst h; simp [VRs]
  | 0, u :: us, _, h => by
    simp only [VRs] at h; obtain ⟨y', ys, rfl, h1, h2⟩ := h
    exact .cons hx h2
  | n + 1, u :: us, _, h => by
    simp only [VRs] at h; obtain ⟨y', ys, rfl, h1, h2⟩ := h
    simp only [List.set_cons_succ]; exact .cons h1 (VRs.set hx h2)
theorem VRs.replicate {ρ : Ren} {x y : Value} (h : VR ρ x y) : ∀ n, VRs ρ (List.replicate n x) (List.replicate n y)
  | 0 => by simp [VRs]
  | n + 1 => by simp only [List.replicate_succ]; exact .cons h (VRs.replicate h n)

theorem VR.agg {ρ : Ren} {a : Array Value} {v : Value} : VR ρ (.agg a) v ↔ ∃ ys : List Value, v = .agg ys.toArray ∧ VRs ρ a.toList ys := by
  cases a; simp [VR]
theorem VR.tuple {ρ : Ren} {a : Array Value} {v : Value} : VR ρ (.tuple a) v ↔ ∃ ys : List Value, v = .tuple ys.toArray ∧ VRs ρ a.toList ys := by
  cases a; simp [VR]
theorem VR.func {ρ : Ren} {f : Fn} {a b : Array Value} {v : Value} : VR ρ (.func f a b) v ↔ ∃ x y : List Value, v = .func f x.toArray y.toArray ∧ VRs ρ a.toList x ∧ VRs ρ b.toList y := by
  cases a; cases b; simp [VR]

mutual
/-- no address in it -/
def plain : Value → Bool
  | .bool _ | .int _ _ | .float _ _ | .complex _ _ _ | .string _ | .pointer none | .map none | .nilFunc | .nilIface => true
  | .slice none n c => n == 0 && c == 0
  | .iface _ v => plain v
  | .agg ⟨l⟩ | .tuple ⟨l⟩ => plains l
  | _ => false
def plains : List Value → Bool
  | [] => true
  | x :: xs => plain x && plains xs
end
mutual
theorem VR.of_plain {ρ : Ren} : ∀ (v : Value), plain v = true → VR ρ v v
  | .bool _, _ => by simp [VR]
  | .int _ _, _ => by simp [VR]
  | .float _ _, _ => by simp [VR]
  | .complex _ _ _, _ => by simp [VR]
  | .string _, _ => by simp [VR]
  | .pointer none, _ => by simp [VR]
  | .pointer (some a), h => by simp [plain] at h
  | .slice none n c, h => by simp [plain] at h; simp [VR, h]
  | .slice (some a) _ _, h => by simp [plain] at h
  | .map none, _ => by simp [VR]
  | .map (some r), h => by simp [plain] at h
  | .chan _, h => by simp [plain] at h
  | .func _ _ _, h => by simp [plain] at h
  | .nilFunc, _ => by simp [VR]
  | .iface _ x, h => by simp [plain] at h; simp only [VR]; exact ⟨x, rfl, VR.of_plain x h⟩
  | .nilIface, _ => by simp [VR]
  | .agg ⟨a⟩, h => by simp [plain] at h; simp only [VR]; exact ⟨a, rfl, VRs.of_plain a h⟩
  | .tuple ⟨a⟩, h => by simp [plain] at h; simp only [VR]; exact ⟨a, rfl, VRs.of_plain a h⟩
theorem VRs.of_plain {ρ : Ren} : ∀ (v : List Value), plains v = true → VRs ρ v v
  | [], _ => .nil
  | x :: xs, h => by simp [plains] at h; exact .cons (VR.of_plain x h.1) (VRs.of_plain xs h.2)
end
mutual
theorem VR.plain_eq {ρ : Ren} : ∀ (v v' : Value), plain v = true → VR ρ v v' → v' = v
  | .bool _, _, _, k => by simpa [VR] using k
  | .int _ _, _, _, k => by simpa [VR] using k
  | .float _ _, _, _, k => by simpa [VR] using k
  | .complex _ _ _, _, _, k => by simpa [VR] using k
  | .string _, _, _, k => by simpa [VR] using k
  | .pointer none, _, _, k => by simpa [VR] using k
  | .pointer (some a), _, h, _ => by simp [plain] at h
  | .slice none n c, _, h, k => by simp [VR] at k; exact k.1
  | .slice (some a) _ _, _, h, _ => by simp [plain] at h
  | .map none, _, _, k => by simpa [VR] using k
  | .map (some r), _, h, _ => by simp [plain] at h
  | .chan _, _, h, _ => by simp [plain] at h
  | .func _ _ _, _, h, _ => by simp [plain] at h
  | .nilFunc, _, _, k => by simpa [VR] using k
  | .iface _ x, _, h, k => by
    simp [plain] at h; simp only [VR] at k; obtain ⟨x', rfl, k⟩ := k; rw [VR.plain_eq x x' h k]
  | .nilIface, _, _, k => by simpa [VR] using k
  | .agg ⟨a⟩, _, h, k => by simp [plain] at h; simp only [VR] at k; obtain ⟨a', rfl, k⟩ := k; rw [VRs.plain_eq a a' h k]
  | .tuple ⟨a⟩, _, h, k => by simp [plain] at h; simp only [VR] at k; obtain ⟨a', rfl, k⟩ := k; rw [VRs.plain_eq a a' h k]
theorem VRs.plain_eq {ρ : Ren} : ∀ (v v' : List Value), plains v = true → VRs ρ v v' → v' = v
  | [], _, _, k => by simpa [VRs] using k
  | x :: xs, _, h, k => by
    simp [plains] at h; simp only [VRs] at k; obtain ⟨y, ys, rfl, k1, k2⟩ := k
    rw [VR.plain_eq x y h.1 k1, VRs.plain_eq xs ys h.2 k2]
end

/-- a value's cells -/
def vcells : Value → List Value
  | .agg cs => cs.toList
  | v => [v]
theorem vcells_eq (v : Value) : v.cells.toList = vcells v := by cases v <;> simp [Value.cells, vcells]
theorem VR.cells {ρ : Ren} {v v' : Value} (h : VR ρ v v') : VRs ρ (vcells v) (vcells v') := by
  cases v
  case agg a => obtain ⟨ys, rfl, k⟩ := VR.agg.1 h; simpa [vcells] using k
  all_goals
    have e : vcells v' = [v'] := by
      cases v' <;> try rfl
      exfalso
      first
        | (simp [VR] at h; done)
        | (rename_i a; rename_i i; cases i <;> simp [VR] at h; rename_i i; obtain ⟨kk, n, hk⟩ := Sym.one i; rw [hk] at h; cases h)
        | (rename_i a b; cases a <;> cases b <;> simp [VR] at h; done)
        | (rename_i a _ _ b; cases a <;> simp [VR] at h; done)
        | (rename_i a b; cases a <;> simp [VR] at h; done)
        | (rename_i f a b c; cases a; cases b; simp [VR] at h; done)
    change VRs ρ [_] (vcells v')
    rw [e]; exact .one h
#print axioms VR.cells
end Go.Gh
