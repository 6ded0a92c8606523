/- Untold numbers that lie below, in, or above a span. -/
import Derived.Test.YtloflflapneheaaGreatDoorGhX
set_option linter.unusedSectionVars false
set_option linter.unusedVariables false
set_option linter.unusedSimpArgs false
namespace Go.Gh

inductive Cl where
  | lo | ok | hi
def Cl.isLo : Cl → Bool
  | .lo => true
  | _ => false
def Cl.isHi : Cl → Bool
  | .hi => true
  | _ => false
/-- where an integer lies -/
def Cl.of (l h x : Int) : Cl := if x < l then .lo else if h < x then .hi else .ok

structure Span where
  lo : Int
  hi : Int
/-- what the comparisons come to: of the i-th untold with its bounds; 'b': whether the first is more than the third -/
def tbl (sp : Nat → Span) (c : Nat → Cl) (b : Bool) : BinOp → Value → Value → Option Bool
  | .lss, .chan (some i), .int .i64 n => if n = (sp i).lo then some (c i).isLo else none
  | .geq, .chan (some i), .int .i64 n => if n = (sp i).lo then some (!(c i).isLo) else none
  | .gtr, .chan (some i), .int .i64 n => if n = (sp i).hi ∧ (sp i).lo ≤ n then some (c i).isHi else none
  | .leq, .chan (some i), .int .i64 n => if n = (sp i).hi ∧ (sp i).lo ≤ n then some (!(c i).isHi) else none
  | .gtr, .chan (some i), .chan (some j) => match i, j with
    | 0, 2 => some b
    | _, _ => none
  | _, _, _ => none

theorem run_cmp {P : Program} {t : TypeId} {w : World} (x y : Int) :
    (binOp .lss t (.int .i64 x) (.int .i64 y)).run P w = .ok (.bool (decide (x < y))) w ∧ (binOp .leq t (.int .i64 x) (.int .i64 y)).run P w = .ok (.bool (decide (x ≤ y))) w ∧
    (binOp .gtr t (.int .i64 x) (.int .i64 y)).run P w = .ok (.bool (decide (x > y))) w ∧ (binOp .geq t (.int .i64 x) (.int .i64 y)).run P w = .ok (.bool (decide (x ≥ y))) w := by
  refine ⟨?_, ?_, ?_, ?_⟩ <;> simp [binOp, Op.intCmp]

theorem tbl_ok {sp : Nat → Span} {c : Nat → Cl} {b : Bool} {x : Nat → Int} (hc : ∀ i, c i = Cl.of (sp i).lo (sp i).hi (x i)) (hb : b = decide (x 0 > x 2)) :
    ∀ op u v r, tbl sp c b op u v = some r → op ≠ .eql ∧ op ≠ .neq ∧ ∀ x' y', symRel (fun i => .int .i64 (x i)) u x' → symRel (fun i => .int .i64 (x i)) v y' → ∀ P t w, (binOp op t x' y').run P w = .ok (.bool r) w := by
  intro op u v r e
  unfold tbl at e
  split at e
  · rename_i i n
    split at e
    · rename_i hn
      cases e
      refine ⟨by decide, by decide, fun x' y' h1 h2 P t w => ?_⟩
      simp only [symRel] at h1 h2
      subst h1; subst h2; subst hn
      rw [(run_cmp _ _).1, hc]
      congr 2
      unfold Cl.of
      by_cases h1 : x i < (sp i).lo
      · simp [h1, Cl.isLo]
      · by_cases h2 : (sp i).hi < x i <;> simp [h1, h2, Cl.isLo]
    · cases e
  · rename_i i n
    split at e
    · rename_i hn
      cases e
      refine ⟨by decide, by decide, fun x' y' h1 h2 P t w => ?_⟩
      simp only [symRel] at h1 h2
      subst h1; subst h2; subst hn
      rw [(run_cmp _ _).2.2.2, hc]
      congr 2
      unfold Cl.of
      by_cases h1 : x i < (sp i).lo
      · have : ¬ x i ≥ (sp i).lo := by omega
        simp [h1, this, Cl.isLo]
      · have : x i ≥ (sp i).lo := by omega
        by_cases h2 : (sp i).hi < x i <;> simp [h1, h2, this, Cl.isLo]
    · cases e
  · rename_i i n
    split at e
    · rename_i hn
      obtain ⟨hn, hle⟩ := hn
      cases e
      refine ⟨by decide, by decide, fun x' y' h1 h2 P t w => ?_⟩
      simp only [symRel] at h1 h2
      subst h1; subst h2; subst hn
      rw [(run_cmp _ _).2.2.1, hc]
      congr 2
      unfold Cl.of
      by_cases h1 : x i < (sp i).lo
      · have : ¬ x i > (sp i).hi := by omega
        simp [h1, this, Cl.isHi]
      · by_cases h2 : (sp i).hi < x i <;> simp [h1, h2, Cl.isHi]
    · cases e
  · rename_i i n
    split at e
    · rename_i hn
      obtain ⟨hn, hle⟩ := hn
      cases e
      refine ⟨by decide, by decide, fun x' y' h1 h2 P t w => ?_⟩
      simp only [symRel] at h1 h2
      subst h1; subst h2; subst hn
      rw [(run_cmp _ _).2.1, hc]
      congr 2
      unfold Cl.of
      by_cases h1 : x i < (sp i).lo
      · have : x i ≤ (sp i).hi := by omega
        simp [h1, this, Cl.isHi]
      · by_cases h2 : (sp i).hi < x i
        · have : ¬ x i ≤ (sp i).hi := by omega
          simp [h1, h2, this, Cl.isHi]
        · have : x i ≤ (sp i).hi := by omega
          simp [h1, h2, this, Cl.isHi]
    · cases e
  · rename_i i j
    split at e
    · cases e
      refine ⟨by decide, by decide, fun x' y' h1 h2 P t w => ?_⟩
      simp only [symRel] at h1 h2
      subst h1; subst h2
      rw [(run_cmp _ _).2.2.1, hb]
    · cases e
  · cases e

/-- such untold numbers -/
@[reducible] def spans (sp : Nat → Span) (c : Nat → Cl) (b : Bool) (x : Nat → Int) (hc : ∀ i, c i = Cl.of (sp i).lo (sp i).hi (x i)) (hb : b = decide (x 0 > x 2)) : Sym where
  env := fun i => .int .i64 (x i)
  one := fun _ => ⟨_, _, rfl⟩
  bin := tbl sp c b
  ok := tbl_ok hc hb

/-- what is not the call's own stands as it did -/
theorem Post.frame [Sym] {P : Program} {ρ ρ' ρ0 : Ren} {h h' : Heap} {w w' : World} (s : HSim P ρ h w.heap) (p : Post P ρ0 Heap.empty w ρ' h' w') : Post P ρ h w ρ h w' := by
  have hk : ∀ k, k < w.heap.size → w'.heap[k]? = w.heap[k]? := fun k hk => p.keep k hk (by
    rintro ⟨b, o, l, g, _⟩
    have : Heap.empty.get b = none := rfl
    rw [this] at g; cases g)
  exact ⟨ρ.le_refl, ⟨s.fresh, s.dom, fun b o l g r => (s.sim b o l g r).congr (hk _ (s.sim b o l g r).lt), s.inj⟩, p.os, p.output, p.tape, p.size, fun k h1 _ => hk k h1, fun k h => .inl h, Nat.le_refl _, fun b _ e => ⟨e, rfl⟩, p.ice⟩
theorem HSim.empty [Sym] {P : Program} {H : Array Obj} : HSim P (fun _ => none) Heap.empty H :=
  ⟨fun _ _ => rfl, fun _ _ => rfl, fun b o l g r => (by cases r), fun b b' o o' l l' g r => (by cases r)⟩
end Go.Gh
