/- Values of the ghost machine, how they stand for the model's, and its heap. -/
import Derived.Calls
import Derived.Orders
set_option linter.unusedSectionVars false
set_option linter.unusedVariables false
set_option linter.unusedSimpArgs false
namespace Go.Gh

/-- where a ghost block lies: the model's block, the first cell, and (of one that may grow) how many elements there is room for -/
structure Loc where
  blk : Nat
  sh : Nat
  room : Nat

abbrev Ren := Nat → Option Loc

/-- the room of a slice that may grow is told from here down -/
def VC : Nat := 4611686018427387904
def VH : Nat := 2305843009213693952

def Loc.addr (l : Loc) (a : Addr) : Addr := ⟨l.blk, l.sh + a.off, none⟩

/-- what stands for what, among untold values and integers -/
def symRel (env : Nat → Value) : Value → Value → Prop
  | .chan (some i), v => v = env i
  | .int k n, v => v = .int k n
  | _, _ => True
class Sym where
  env : Nat → Value
  one : ∀ i, ∃ k n, env i = .int k n
  bin : BinOp → Value → Value → Option Bool
  ok : ∀ op x y r, bin op x y = some r → op ≠ .eql ∧ op ≠ .neq ∧ ∀ x' y', symRel env x x' → symRel env y y' → ∀ P t w, (binOp op t x' y').run P w = .ok (.bool r) w
/-- nothing is untold -/
@[reducible] def Sym.none : Sym := { env := fun _ => .int .i64 0, one := fun _ => ⟨_, _, rfl⟩, bin := fun _ _ _ => Option.none, ok := fun _ _ _ _ h => by cases h }
variable [Sym]

mutual
def VR (ρ : Ren) : Value → Value → Prop
  | .bool a, v => v = .bool a
  | .int k n, v => v = .int k n
  | .float k n, v => v = .float k n
  | .complex k n m, v => v = .complex k n m
  | .string s, v => v = .string s
  | .pointer none, v => v = .pointer none
  | .pointer (some a), v => ∃ l, ρ a.block = some l ∧ a.spot = none ∧ v = .pointer (some (l.addr a))
  | .slice none n c, v => v = .slice none n c ∧ n = 0 ∧ c = 0
  | .slice (some a) n c, v => ∃ l a' c', ρ a.block = some l ∧ a.spot = none ∧ v = .slice (some a') n c' ∧
      ((c < VH ∧ c' = c ∧ n ≤ c ∧ a'.spot = none ∧ (a' = l.addr a ∨ (n = 0 ∧ c = 0))) ∨
       (VH ≤ c ∧ a' = l.addr a ∧ c' + VC = c + l.room ∧ n ≤ c') ∨ (VH ≤ c ∧ n = 0 ∧ c' = 0 ∧ a'.spot = none))
  | .map none, v => v = .map none
  | .map (some r), v => ∃ l, ρ r = some l ∧ l.sh = 0 ∧ v = .map (some l.blk)
  | .chan none, _ => False
  | .chan (some i), v => v = Sym.env i
  | .func f ⟨a⟩ ⟨b⟩, v => ∃ a' b', v = .func f ⟨a'⟩ ⟨b'⟩ ∧ VRs ρ a a' ∧ VRs ρ b b'
  | .nilFunc, v => v = .nilFunc
  | .iface t x, v => ∃ x', v = .iface t x' ∧ VR ρ x x'
  | .nilIface, v => v = .nilIface
  | .agg ⟨a⟩, v => ∃ a', v = .agg ⟨a'⟩ ∧ VRs ρ a a'
  | .tuple ⟨a⟩, v => ∃ a', v = .tuple ⟨a'⟩ ∧ VRs ρ a a'
def VRs (ρ : Ren) : List Value → List Value → Prop
  | [], l => l = []
  | x :: xs, l => ∃ y ys, l = y :: ys ∧ VR ρ x y ∧ VRs ρ xs ys
end

def Ren.le (ρ ρ' : Ren) : Prop := ∀ b l, ρ b = some l → ρ' b = some l
theorem Ren.le_refl (ρ : Ren) : ρ.le ρ := fun _ _ h => h
theorem Ren.le_trans {a b c : Ren} (h : a.le b) (k : b.le c) : a.le c := fun x l e => k x l (h x l e)

mutual
theorem VR.mono {ρ ρ' : Ren} (h : ρ.le ρ') : ∀ (v v' : Value), VR ρ v v' → VR ρ' v v'
  | .bool _, _, k => by simpa [VR] using k
  | .int _ _, _, k => by simpa [VR] using k
  | .float _ _, _, k => by simpa [VR] using k
  | .complex _ _ _, _, k => by simpa [VR] using k
  | .string _, _, k => by simpa [VR] using k
  | .pointer none, _, k => by simpa [VR] using k
  | .pointer (some a), _, k => by
    simp only [VR] at k ⊢; obtain ⟨l, h1, h2⟩ := k; exact ⟨l, h _ _ h1, h2⟩
  | .slice none _ _, _, k => by simpa [VR] using k
  | .slice (some a) _ _, _, k => by
    simp only [VR] at k ⊢; obtain ⟨l, a', c', h1, h2⟩ := k; exact ⟨l, a', c', h _ _ h1, h2⟩
  | .map none, _, k => by simpa [VR] using k
  | .map (some r), _, k => by
    simp only [VR] at k ⊢; obtain ⟨l, h1, h2⟩ := k; exact ⟨l, h _ _ h1, h2⟩
  | .chan none, _, k => by simp [VR] at k
  | .chan (some _), _, k => by simpa [VR] using k
  | .func _ ⟨a⟩ ⟨b⟩, _, k => by
    simp only [VR] at k ⊢; obtain ⟨a', b', e, h1, h2⟩ := k; exact ⟨a', b', e, VRs.mono h a a' h1, VRs.mono h b b' h2⟩
  | .nilFunc, _, k => by simpa [VR] using k
  | .iface _ x, _, k => by
    simp only [VR] at k ⊢; obtain ⟨x', e, h1⟩ := k; exact ⟨x', e, VR.mono h x x' h1⟩
  | .nilIface, _, k => by simpa [VR] using k
  | .agg ⟨a⟩, _, k => by
    simp only [VR] at k ⊢; obtain ⟨a', e, h1⟩ := k; exact ⟨a', e, VRs.mono h a a' h1⟩
  | .tuple ⟨a⟩, _, k => by
    simp only [VR] at k ⊢; obtain ⟨a', e, h1⟩ := k; exact ⟨a', e, VRs.mono h a a' h1⟩
theorem VRs.mono {ρ ρ' : Ren} (h : ρ.le ρ') : ∀ (v v' : List Value), VRs ρ v v' → VRs ρ' v v'
  | [], _, k => by simpa [VRs] using k
  | x :: xs, _, k => by
    simp only [VRs] at k ⊢; obtain ⟨y, ys, e, h1, h2⟩ := k; exact ⟨y, ys, e, VR.mono h x y h1, VRs.mono h xs ys h2⟩
end
#print axioms VR.mono
end Go.Gh
