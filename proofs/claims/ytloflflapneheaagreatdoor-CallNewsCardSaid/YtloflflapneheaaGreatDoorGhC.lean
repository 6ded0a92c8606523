/- The ghost heap; how it stands for the model's; what a step leaves. -/
import Derived.Test.YtloflflapneheaaGreatDoorGhB
set_option linter.unusedSectionVars false
set_option linter.unusedVariables false
set_option linter.unusedSimpArgs false
namespace Go.Gh
variable [Sym]

inductive Tr (α : Type) where
  | nil
  | node (v : Option α) (l r : Tr α)

def Tr.get {α : Type} : Tr α → Nat → Option α
  | .nil, _ => none
  | .node v l r, k => bif k.beq 0 then v else bif (k % 2).beq 1 then l.get (k / 2) else r.get (k / 2 - 1)
def Tr.val {α : Type} : Tr α → Option α
  | .nil => none
  | .node v _ _ => v
def Tr.left {α : Type} : Tr α → Tr α
  | .nil => .nil
  | .node _ l _ => l
def Tr.right {α : Type} : Tr α → Tr α
  | .nil => .nil
  | .node _ _ r => r
def Tr.setF {α : Type} (x : Option α) : Nat → Tr α → Nat → Tr α
  | 0, t, _ => t
  | f + 1, t, k =>
    bif k.beq 0 then .node x t.left t.right
    else bif (k % 2).beq 1 then .node t.val (setF x f t.left (k / 2)) t.right
    else .node t.val t.left (setF x f t.right (k / 2 - 1))
def Tr.set {α : Type} (t : Tr α) (k : Nat) (x : Option α) : Tr α := t.setF x (k + 1) k

theorem Tr.get_node {α : Type} (v : Option α) (l r : Tr α) (k : Nat) : (Tr.node v l r).get k = if k = 0 then v else if k % 2 = 1 then l.get (k / 2) else r.get (k / 2 - 1) := by
  simp only [Tr.get, cond_eq_ite, Nat.beq_eq]
theorem Tr.get_any {α : Type} (t : Tr α) (k : Nat) : t.get k = if k = 0 then t.val else if k % 2 = 1 then t.left.get (k / 2) else t.right.get (k / 2 - 1) := by
  cases t with
  | nil => simp [Tr.get, Tr.val, Tr.left, Tr.right]
  | node v l r => exact Tr.get_node v l r k
theorem Tr.get_setF {α : Type} (x : Option α) : ∀ (f : Nat) (t : Tr α) (k j : Nat), k < f → (t.setF x f k).get j = if j = k then x else t.get j := by
  intro f
  induction f with
  | zero => intro t k j h; omega
  | succ f ih =>
    intro t k j h
    rw [Tr.get_any t j]
    simp only [Tr.setF, cond_eq_ite, Nat.beq_eq]
    by_cases h0 : k = 0
    · rw [if_pos h0, Tr.get_node]
      by_cases hj : j = 0
      · simp [hj, h0]
      · simp [hj, h0]
    · rw [if_neg h0]
      by_cases h1 : k % 2 = 1
      · rw [if_pos h1, Tr.get_node]
        by_cases hj : j = 0
        · rw [if_pos hj, if_pos hj, if_neg (by omega)]
        · rw [if_neg hj, if_neg hj]
          by_cases hj1 : j % 2 = 1
          · rw [if_pos hj1, if_pos hj1, ih _ _ _ (by omega)]
            by_cases e : j = k
            · rw [if_pos (by omega), if_pos e]
            · rw [if_neg (by omega), if_neg e]
          · rw [if_neg hj1, if_neg hj1, if_neg (by intro e; subst e; exact hj1 h1)]
      · rw [if_neg h1, Tr.get_node]
        by_cases hj : j = 0
        · rw [if_pos hj, if_pos hj, if_neg (by omega)]
        · rw [if_neg hj, if_neg hj]
          by_cases hj1 : j % 2 = 1
          · rw [if_pos hj1, if_pos hj1, if_neg (by intro e; subst e; exact h1 hj1)]
          · rw [if_neg hj1, if_neg hj1, ih _ _ _ (by omega)]
            by_cases e : j = k
            · rw [if_pos (by omega), if_pos e]
            · rw [if_neg (by omega), if_neg e]
theorem Tr.get_set {α : Type} (t : Tr α) (k j : Nat) (x : Option α) : (t.set k x).get j = if j = k then x else t.get j :=
  Tr.get_setF x (k + 1) t k j (by omega)

inductive Md where
  | ex | op | ro
inductive GO where
  | cells (c : List Value) (elem : TypeId) (md : Md)
  | map (es : List MapEntry) (clock : Nat)
  | siter (s : ByteArray) (pos : Nat)
  | miter (m : Option Nat) (since : Nat) (seen : List Nat) (stepped : Nat)
def GO.isRo : GO → Bool
  | .cells _ _ .ro => true
  | _ => false

structure Heap where
  next : Nat
  tr : Tr GO
def Heap.get (h : Heap) (b : Nat) : Option GO := h.tr.get b
def Heap.set (h : Heap) (b : Nat) (x : Option GO) : Heap := ⟨h.next, h.tr.set b x⟩
/-- a new block: its number is 'next' -/
def Heap.new (h : Heap) (x : GO) : Heap := ⟨h.next + 1, h.tr.set h.next (some x)⟩
def Heap.empty : Heap := ⟨0, .nil⟩
theorem Heap.get_set (h : Heap) (b j : Nat) (x : Option GO) : (h.set b x).get j = if j = b then x else h.get j := Tr.get_set _ _ _ _
theorem Heap.get_new (h : Heap) (j : Nat) (x : GO) : (h.new x).get j = if j = h.next then some x else h.get j := Tr.get_set _ _ _ _
@[simp] theorem Heap.next_set (h : Heap) (b : Nat) (x : Option GO) : (h.set b x).next = h.next := rfl
@[simp] theorem Heap.next_new (h : Heap) (x : GO) : (h.new x).next = h.next + 1 := rfl

/-- a map's entries, one by one: the same key without an address, the same birth -/
def ER (ρ : Ren) (e e' : MapEntry) : Prop := plain e.key = true ∧ e'.key = e.key ∧ e'.born = e.born ∧ VR ρ e.val e'.val
def ERs (ρ : Ren) : List MapEntry → List MapEntry → Prop
  | [], l => l = []
  | x :: xs, l => ∃ y ys, l = y :: ys ∧ ER ρ x y ∧ ERs ρ xs ys
theorem ERs.mono {ρ ρ' : Ren} (h : ρ.le ρ') : ∀ {a b : List MapEntry}, ERs ρ a b → ERs ρ' a b
  | [], _, k => by simpa [ERs] using k
  | x :: xs, _, k => by
    simp only [ERs] at k ⊢; obtain ⟨y, ys, e, ⟨p, q, r, s⟩, h2⟩ := k
    exact ⟨y, ys, e, ⟨p, q, r, VR.mono h _ _ s⟩, ERs.mono h h2⟩

/-- a ghost object at its place -/
def OSim (P : Program) (ρ : Ren) (l : Loc) (H : Array Obj) : GO → Prop
  | .cells c t md => ∃ C fz pre mid post, H[l.blk]? = some (.cells C t fz) ∧ C.toList = pre ++ (mid ++ post) ∧ pre.length = l.sh ∧ VRs ρ c mid ∧
      (md ≠ .ro → ∀ i, l.sh ≤ i → i < C.size → ¬ (fz.1 ≤ i ∧ i < fz.2)) ∧
      (md = .op → ∃ ti, P.info? t = some ti ∧ 0 < ti.size ∧ C.size = l.sh + l.room * ti.size)
  | .map es ck => l.sh = 0 ∧ ∃ es' : List MapEntry, H[l.blk]? = some (.map es'.toArray ck) ∧ ERs ρ es es'
  | .siter s p => l.sh = 0 ∧ H[l.blk]? = some (.stringIter s p)
  | .miter m since seen stepped => l.sh = 0 ∧ ∃ m', VR ρ (.map m) (.map m') ∧ H[l.blk]? = some (.mapIter m' since seen.toArray stepped)

theorem OSim.mono {P : Program} {ρ ρ' : Ren} (h : ρ.le ρ') {l : Loc} {H : Array Obj} {o : GO} (k : OSim P ρ l H o) : OSim P ρ' l H o := by
  cases o with
  | cells c t md =>
    obtain ⟨C, fz, pre, mid, post, h1, h2, h3, h4, h5⟩ := k
    exact ⟨C, fz, pre, mid, post, h1, h2, h3, VRs.mono h _ _ h4, h5⟩
  | map es ck => obtain ⟨h0, es', h1, h2⟩ := k; exact ⟨h0, es', h1, h2.mono h⟩
  | siter s p => exact k
  | miter m since seen stepped => obtain ⟨h0, m', h1, h2⟩ := k; exact ⟨h0, m', VR.mono h _ _ h1, h2⟩
theorem OSim.congr {P : Program} {ρ : Ren} {l : Loc} {H H' : Array Obj} (h : H'[l.blk]? = H[l.blk]?) {o : GO} (k : OSim P ρ l H o) : OSim P ρ l H' o := by
  cases o <;> simpa only [OSim, h] using k
theorem OSim.lt {P : Program} {ρ : Ren} {l : Loc} {H : Array Obj} {o : GO} (k : OSim P ρ l H o) : l.blk < H.size := by
  have : ∃ x, H[l.blk]? = some x := by
    cases o with
    | cells c t md => obtain ⟨C, fz, pre, mid, post, h1, _⟩ := k; exact ⟨_, h1⟩
    | map es ck => obtain ⟨_, es', h1, _⟩ := k; exact ⟨_, h1⟩
    | siter s p => exact ⟨_, k.2⟩
    | miter m since seen stepped => obtain ⟨_, m', _, h2⟩ := k; exact ⟨_, h2⟩
  obtain ⟨x, hx⟩ := this
  exact (Array.getElem?_eq_some_iff.1 hx).1

structure HSim (P : Program) (ρ : Ren) (h : Heap) (H : Array Obj) : Prop where
  fresh : ∀ b, h.next ≤ b → ρ b = none
  dom : ∀ b, h.next ≤ b → h.get b = none
  sim : ∀ b o l, h.get b = some o → ρ b = some l → OSim P ρ l H o
  inj : ∀ b b' o o' l l', h.get b = some o → ρ b = some l → h.get b' = some o' → ρ b' = some l' → l.blk = l'.blk → b = b' ∨ (o.isRo = true ∧ o'.isRo = true)

def own (ρ : Ren) (h : Heap) (k : Nat) : Prop := ∃ b o l, h.get b = some o ∧ o.isRo = false ∧ ρ b = some l ∧ l.blk = k

/-- whether a cell bears a mark against writes -/
def iced (o : Option Obj) (off : Nat) : Bool :=
  match o with
  | some (.cells _ _ (lo, hi)) => decide (lo ≤ off) && decide (off < hi)
  | _ => false
theorem frozen_iced (w : World) (a : Addr) : w.frozen? a = iced w.heap[a.block]? a.off := by
  unfold World.frozen? iced
  rfl
theorem iced_none {c : Array Value} {t : TypeId} {off : Nat} : iced (some (.cells c t (0, 0))) off = false := by simp [iced]

structure Post (P : Program) (ρ : Ren) (h : Heap) (w : World) (ρ' : Ren) (h' : Heap) (w' : World) : Prop where
  le : ρ.le ρ'
  sim : HSim P ρ' h' w'.heap
  os : w'.os = w.os
  output : w'.output = w.output
  tape : w'.tape = w.tape
  size : w.heap.size ≤ w'.heap.size
  keep : ∀ k, k < w.heap.size → ¬ own ρ h k → w'.heap[k]? = w.heap[k]?
  own : ∀ k, own ρ' h' k → own ρ h k ∨ w.heap.size ≤ k
  next : h.next ≤ h'.next
  idle : ∀ b, b < h.next → ρ b = none → ρ' b = none ∧ h'.get b = h.get b
  ice : ∀ (k off : Nat), iced w'.heap[k]? off = iced w.heap[k]? off

theorem Post.refl {P : Program} {ρ : Ren} {h : Heap} {w : World} (s : HSim P ρ h w.heap) : Post P ρ h w ρ h w :=
  ⟨ρ.le_refl, s, rfl, rfl, rfl, Nat.le_refl _, fun _ _ _ => rfl, fun _ h => .inl h, Nat.le_refl _, fun _ _ e => ⟨e, rfl⟩, fun _ _ => rfl⟩
theorem Post.trans {P : Program} {ρ ρ' ρ'' : Ren} {h h' h'' : Heap} {w w' w'' : World} (a : Post P ρ h w ρ' h' w') (b : Post P ρ' h' w' ρ'' h'' w'') :
    Post P ρ h w ρ'' h'' w'' where
  le := Ren.le_trans a.le b.le
  sim := b.sim
  os := b.os.trans a.os
  output := b.output.trans a.output
  tape := b.tape.trans a.tape
  size := Nat.le_trans a.size b.size
  keep := fun k hk hn => by
    rw [b.keep k (Nat.lt_of_lt_of_le hk a.size) (fun ho => (a.own k ho).elim hn (fun h => absurd hk (by omega))), a.keep k hk hn]
  own := fun k hk => by
    rcases b.own k hk with h | h
    · exact a.own k h
    · exact .inr (Nat.le_trans a.size h)
  next := Nat.le_trans a.next b.next
  idle := fun k hk e => by
    obtain ⟨e1, g1⟩ := a.idle k hk e
    obtain ⟨e2, g2⟩ := b.idle k (Nat.lt_of_lt_of_le hk a.next) e1
    exact ⟨e2, g2.trans g1⟩
  ice := fun k off => (b.ice k off).trans (a.ice k off)
/-- draws turn nothing -/
theorem Post.world {P : Program} {ρ ρ' : Ren} {h h' : Heap} {w w' w₁ w₁' : World} (a : Post P ρ h w ρ' h' w') (e : w₁.heap = w.heap) (e' : w₁'.heap = w'.heap)
    (o : w₁.os = w.os) (o' : w₁'.os = w'.os) (p : w₁.output = w.output) (p' : w₁'.output = w'.output) (t : w₁.tape = w.tape) (t' : w₁'.tape = w'.tape) : Post P ρ h w₁ ρ' h' w₁' :=
  ⟨a.le, e' ▸ a.sim, by rw [o', o]; exact a.os, by rw [p', p]; exact a.output, by rw [t', t]; exact a.tape, by rw [e, e']; exact a.size, by rw [e, e']; exact a.keep, by rw [e]; exact a.own, a.next, a.idle, by rw [e, e']; exact a.ice⟩

def Ren.upd (ρ : Ren) (b : Nat) (l : Loc) : Ren := fun x => if x = b then some l else ρ x

/-- a new block of the model's for a new ghost block -/
theorem Post.new {P : Program} {ρ : Ren} {h : Heap} {w : World} (s : HSim P ρ h w.heap) (o : GO) (ob : Obj) (l : Loc) (hl : l.blk = w.heap.size)
    (ho : OSim P (ρ.upd h.next l) l (w.heap.push ob) o) (hf : ∀ c t f, ob = .cells c t f → f = (0, 0) := by intro c t f h; cases h <;> rfl) :
    Post P ρ h w (ρ.upd h.next l) (h.new o) { w with heap := w.heap.push ob } := by
  have hle : ρ.le (ρ.upd h.next l) := fun b l' e => by
    have : b ≠ h.next := fun x => by subst x; rw [s.fresh _ (Nat.le_refl _)] at e; cases e
    simp [Ren.upd, this, e]
  have hpush : ∀ k, k < w.heap.size → (w.heap.push ob)[k]? = w.heap[k]? := fun k hk => by
    rw [Array.getElem?_push, if_neg (by omega)]
  refine ⟨hle, ⟨?_, ?_, ?_, ?_⟩, rfl, rfl, rfl, by simp, fun k hk _ => hpush k hk, ?_, by simp, ?_, ?_⟩
  · intro b hb; simp at hb
    have : b ≠ h.next := by omega
    simp [Ren.upd, this, s.fresh b (by omega)]
  · intro b hb; simp at hb; rw [Heap.get_new, if_neg (by omega)]; exact s.dom b (by omega)
  · intro b o' l' hb hl'
    rw [Heap.get_new] at hb
    by_cases e : b = h.next
    · subst e; simp at hb; subst hb; simp [Ren.upd] at hl'; subst hl'; exact ho
    · rw [if_neg e] at hb; simp [Ren.upd, e] at hl'
      have h1 := s.sim b o' l' hb hl'
      exact (h1.congr (hpush _ h1.lt)).mono hle
  · intro b b' o₁ o₂ l₁ l₂ g1 r1 g2 r2 he
    rw [Heap.get_new] at g1 g2
    by_cases e1 : b = h.next <;> by_cases e2 : b' = h.next
    · exact .inl (e1.trans e2.symm)
    · subst e1; rw [if_neg e2] at g2; simp [Ren.upd] at r1; simp [Ren.upd, e2] at r2; subst r1
      have := (s.sim b' o₂ l₂ g2 r2).lt; omega
    · subst e2; rw [if_neg e1] at g1; simp [Ren.upd] at r2; simp [Ren.upd, e1] at r1; subst r2
      have := (s.sim b o₁ l₁ g1 r1).lt; omega
    · rw [if_neg e1] at g1; rw [if_neg e2] at g2; simp [Ren.upd, e1] at r1; simp [Ren.upd, e2] at r2
      exact s.inj b b' o₁ o₂ l₁ l₂ g1 r1 g2 r2 he
  · rintro k ⟨b, o', l', g, hr, r, rfl⟩
    rw [Heap.get_new] at g
    by_cases e : b = h.next
    · subst e; simp [Ren.upd] at r; subst r; right; omega
    · rw [if_neg e] at g; simp [Ren.upd, e] at r; exact .inl ⟨b, o', l', g, hr, r, rfl⟩
  · intro b hb e
    have : b ≠ h.next := by omega
    exact ⟨by simp [Ren.upd, this, e], by rw [Heap.get_new, if_neg this]⟩
  · intro k off
    rcases Nat.lt_trichotomy k w.heap.size with h1 | h1 | h1
    · rw [hpush k h1]
    · subst h1
      have e1 : (w.heap.push ob)[w.heap.size]? = some ob := by simp
      have e2 : w.heap[w.heap.size]? = none := by simp
      show iced (w.heap.push ob)[w.heap.size]? off = iced w.heap[w.heap.size]? off
      rw [e1, e2]
      cases ob with
      | cells c t f => rw [hf c t f rfl, iced_none]; rfl
      | _ => rfl
    · have e1 : (w.heap.push ob)[k]? = none := by simp; omega
      have e2 : w.heap[k]? = none := by simp; omega
      show iced (w.heap.push ob)[k]? off = iced w.heap[k]? off
      rw [e1, e2]

/-- one of the call's own blocks is written -/
theorem Post.upd {P : Program} {ρ : Ren} {h : Heap} {w : World} (s : HSim P ρ h w.heap) {b : Nat} {o o' : GO} {l : Loc} (hg : h.get b = some o) (hr : ρ b = some l)
    (hro : o.isRo = false) (_hro' : o'.isRo = false) (H' : Array Obj) (hsz : H'.size = w.heap.size) (hk : ∀ k, k ≠ l.blk → H'[k]? = w.heap[k]?) (ho : OSim P ρ l H' o') (hf : ∀ off, iced H'[l.blk]? off = iced w.heap[l.blk]? off) :
    Post P ρ h w ρ (h.set b (some o')) { w with heap := H' } := by
  have hbn : b < h.next := by
    rcases Nat.lt_or_ge b h.next with h1 | h1
    · exact h1
    · rw [s.dom b h1] at hg; cases hg
  have hice : ∀ (k off : Nat), iced H'[k]? off = iced w.heap[k]? off := fun k off => by
    by_cases e : k = l.blk
    · rw [e]; exact hf off
    · rw [hk k e]
  refine ⟨ρ.le_refl, ⟨?_, ?_, ?_, ?_⟩, rfl, rfl, rfl, by simp [hsz], ?_, ?_, by simp, ?_, hice⟩
  · intro b' hb'; exact s.fresh b' hb'
  · intro b' hb'; simp at hb'; rw [Heap.get_set, if_neg (by omega)]; exact s.dom b' hb'
  · intro b' o₁ l₁ g r
    rw [Heap.get_set] at g
    by_cases e : b' = b
    · subst e; simp at g; subst g; rw [hr] at r; cases r; exact ho
    · rw [if_neg e] at g
      refine (s.sim b' o₁ l₁ g r).congr (hk _ fun e' => ?_)
      rcases s.inj b' b o₁ o l₁ l g r hg hr e' with h1 | h1
      · exact e h1
      · simp [hro] at h1
  · intro b₁ b₂ o₁ o₂ l₁ l₂ g1 r1 g2 r2 he
    rw [Heap.get_set] at g1 g2
    by_cases e1 : b₁ = b <;> by_cases e2 : b₂ = b
    · exact .inl (e1.trans e2.symm)
    · subst e1; rw [if_neg e2] at g2
      rcases s.inj b₁ b₂ o o₂ l₁ l₂ hg r1 g2 r2 he with h1 | h1
      · exact .inl h1
      · simp [hro] at h1
    · subst e2; rw [if_neg e1] at g1
      rcases s.inj b₁ b₂ o₁ o l₁ l₂ g1 r1 hg r2 he with h1 | h1
      · exact .inl h1
      · simp [hro] at h1
    · rw [if_neg e1] at g1; rw [if_neg e2] at g2; exact s.inj b₁ b₂ o₁ o₂ l₁ l₂ g1 r1 g2 r2 he
  · intro k hk' hn
    exact hk k fun e => hn ⟨b, o, l, hg, hro, hr, e.symm⟩
  · rintro k ⟨b₁, o₁, l₁, g, hr1, r, rfl⟩
    rw [Heap.get_set] at g
    by_cases e : b₁ = b
    · subst e; rw [hr] at r; cases r; exact .inl ⟨b₁, o, l, hg, hro, hr, rfl⟩
    · rw [if_neg e] at g; exact .inl ⟨b₁, o₁, l₁, g, hr1, r, rfl⟩
  · intro b₁ _ e
    refine ⟨e, ?_⟩
    rw [Heap.get_set, if_neg]; rintro rfl; rw [hr] at e; cases e
/-- a ghost block is given up -/
theorem Post.drop {P : Program} {ρ : Ren} {h : Heap} {w : World} (s : HSim P ρ h w.heap) {b : Nat} {l : Loc} (hr : ρ b = some l) : Post P ρ h w ρ (h.set b none) w := by
  refine ⟨ρ.le_refl, ⟨s.fresh, ?_, ?_, ?_⟩, rfl, rfl, rfl, Nat.le_refl _, fun _ _ _ => rfl, ?_, by simp, ?_, fun _ _ => rfl⟩
  · intro b' hb'; simp at hb'; rw [Heap.get_set]; split
    · rfl
    · exact s.dom b' hb'
  · intro b' o₁ l₁ g r
    rw [Heap.get_set] at g
    split at g
    · cases g
    · exact s.sim b' o₁ l₁ g r
  · intro b₁ b₂ o₁ o₂ l₁ l₂ g1 r1 g2 r2 he
    rw [Heap.get_set] at g1 g2
    split at g1
    · cases g1
    split at g2
    · cases g2
    exact s.inj b₁ b₂ o₁ o₂ l₁ l₂ g1 r1 g2 r2 he
  · rintro k ⟨b₁, o₁, l₁, g, hr1, r, rfl⟩
    rw [Heap.get_set] at g
    split at g
    · cases g
    · exact .inl ⟨b₁, o₁, l₁, g, hr1, r, rfl⟩
  · intro b₁ _ e
    refine ⟨e, ?_⟩
    rw [Heap.get_set, if_neg]; rintro rfl; rw [hr] at e; cases e

/-- a ghost block is given up, its place becomes another one's -/
theorem Post.move {P : Program} {ρ : Ren} {h : Heap} {w : World} (s : HSim P ρ h w.heap) {b : Nat} {o o' : GO} {l l' : Loc} (hg : h.get b = some o) (hr : ρ b = some l)
    (hro : o.isRo = false) (hb : l'.blk = l.blk) (H' : Array Obj) (hsz : H'.size = w.heap.size) (hk : ∀ k, k ≠ l.blk → H'[k]? = w.heap[k]?) (ho : OSim P (ρ.upd h.next l') l' H' o') (hf : ∀ off, iced H'[l.blk]? off = iced w.heap[l.blk]? off) :
    Post P ρ h w (ρ.upd h.next l') ((h.set b none).new o') { w with heap := H' } := by
  have hbn : b < h.next := by
    rcases Nat.lt_or_ge b h.next with h1 | h1
    · exact h1
    · rw [s.dom b h1] at hg; cases hg
  have hle : ρ.le (ρ.upd h.next l') := fun b l' e => by
    have : b ≠ h.next := fun x => by subst x; rw [s.fresh _ (Nat.le_refl _)] at e; cases e
    simp [Ren.upd, this, e]
  have hother : ∀ b' o₁ l₁, b' ≠ b → h.get b' = some o₁ → ρ b' = some l₁ → l₁.blk ≠ l.blk := fun b' o₁ l₁ hne g r e => by
    rcases s.inj b' b o₁ o l₁ l g r hg hr e with h1 | h1
    · exact hne h1
    · simp [hro] at h1
  have hget : ∀ j, ((h.set b none).new o').get j = if j = h.next then some o' else if j = b then none else h.get j := fun j => by
    rw [Heap.get_new, Heap.get_set]; rfl
  have hice : ∀ (k off : Nat), iced H'[k]? off = iced w.heap[k]? off := fun k off => by
    by_cases e : k = l.blk
    · rw [e]; exact hf off
    · rw [hk k e]
  refine ⟨hle, ⟨?_, ?_, ?_, ?_⟩, rfl, rfl, rfl, by simp [hsz], ?_, ?_, by simp, ?_, hice⟩
  · intro b' hb'; simp at hb'
    have : b' ≠ h.next := by omega
    simp [Ren.upd, this, s.fresh b' (by omega)]
  · intro b' hb'; simp at hb'; rw [hget, if_neg (by omega), if_neg (by omega)]; exact s.dom b' (by omega)
  · intro b' o₁ l₁ g r
    rw [hget] at g
    by_cases e : b' = h.next
    · subst e; simp at g; subst g; simp [Ren.upd] at r; subst r; exact ho
    · rw [if_neg e] at g
      split at g
      · cases g
      rename_i hne
      simp [Ren.upd, e] at r
      exact ((s.sim b' o₁ l₁ g r).congr (hk _ (hother b' o₁ l₁ hne g r))).mono hle
  · intro b₁ b₂ o₁ o₂ l₁ l₂ g1 r1 g2 r2 he
    rw [hget] at g1 g2
    by_cases e1 : b₁ = h.next <;> by_cases e2 : b₂ = h.next
    · exact .inl (e1.trans e2.symm)
    · subst e1; simp [Ren.upd] at r1; subst r1
      rw [if_neg e2] at g2
      split at g2
      · cases g2
      rename_i hne
      simp [Ren.upd, e2] at r2
      exact absurd (he.symm.trans hb) (hother b₂ o₂ l₂ hne g2 r2)
    · subst e2; simp [Ren.upd] at r2; subst r2
      rw [if_neg e1] at g1
      split at g1
      · cases g1
      rename_i hne
      simp [Ren.upd, e1] at r1
      exact absurd (he.trans hb) (hother b₁ o₁ l₁ hne g1 r1)
    · rw [if_neg e1] at g1; rw [if_neg e2] at g2
      split at g1
      · cases g1
      split at g2
      · cases g2
      simp [Ren.upd, e1] at r1; simp [Ren.upd, e2] at r2
      exact s.inj b₁ b₂ o₁ o₂ l₁ l₂ g1 r1 g2 r2 he
  · intro k hk' hn
    exact hk k fun e => hn ⟨b, o, l, hg, hro, hr, e.symm⟩
  · rintro k ⟨b₁, o₁, l₁, g, hr1, r, rfl⟩
    rw [hget] at g
    by_cases e : b₁ = h.next
    · subst e; simp [Ren.upd] at r; subst r; exact .inl ⟨b, o, l, hg, hro, hr, hb.symm⟩
    · rw [if_neg e] at g
      split at g
      · cases g
      simp [Ren.upd, e] at r
      exact .inl ⟨b₁, o₁, l₁, g, hr1, r, rfl⟩
  · intro b₁ hb₁ e
    have : b₁ ≠ h.next := by omega
    refine ⟨by simp [Ren.upd, this, e], ?_⟩
    rw [hget, if_neg this, if_neg]; rintro rfl; rw [hr] at e; cases e
#print axioms Post.move
#print axioms Post.new
#print axioms Post.upd
end Go.Gh
