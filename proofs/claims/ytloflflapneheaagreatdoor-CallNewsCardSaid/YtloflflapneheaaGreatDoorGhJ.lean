/- The ghost machine's operations are the model's (5): copy, clear, maps, ranges. -/
import Derived.Test.YtloflflapneheaaGreatDoorGhI
set_option linter.unusedSectionVars false
set_option linter.unusedVariables false
set_option linter.unusedSimpArgs false
namespace Go.Gh
variable [Sym]
variable {P : Program} {ρ : Ren} {h : Heap} {w : World}

theorem ok_copy {t tx ty : TypeId} {d d' x x' : Value} {g : GN} (hs : HSim P ρ h w.heap) (kd : VR ρ d d') (kx : VR ρ x x') (e : gcopy P t d x h = some g) :
    OpOK P ρ h w ((do let x ← Builtin.copy_ #[t, tx] ty #[d', x']; pure (.value x) : Sem Next).run P w) g := by
  unfold gcopy at e
  cases he : elOf P t with
  | none => simp [he] at e
  | some el =>
  simp only [he, Option.bind_some] at e
  cases hz : szOf P el with
  | none => simp [hz] at e
  | some z =>
  simp only [hz, Option.bind_some] at e
  split at e
  case h_2 => cases e
  rename_i base n cap
  cases hx : gsrc z h x with
  | none => simp [hx] at e
  | some r =>
  obtain ⟨k, l⟩ := r
  simp only [hx, Option.bind_some] at e
  split at e
  · cases e
  rename_i hz0
  have hu := elOf_some he
  obtain ⟨r1, r2, ys, r3, r4⟩ := src_ok hs kx hx
  obtain ⟨b', c', hd'⟩ : ∃ b' c', d' = .slice b' n c' := by
    cases base with
    | none => simp only [VR] at kd; exact ⟨_, _, kd.1⟩
    | some a => simp only [VR] at kd; obtain ⟨lc, a', c', hr, hsp, rfl, hcc⟩ := kd; exact ⟨_, _, rfl⟩
  split at e
  · rename_i h0
    cases e
    subst hd'
    have hf : (Builtin.firstCells z 0 x').run P w = .ok #[] w := by
      cases x' with
      | string b => simp [Builtin.firstCells]
      | slice b m c => cases b <;> simp [Builtin.firstCells, loadCells, loadCellsFrom]
      | _ => simp [Builtin.lenOf] at r1
    have hm : Nat.min k n = 0 := h0
    refine OpOK.same hs (v' := goInt 0) ?_ (by simp [VR, goInt])
    cases b' with
    | none => simp [Builtin.copy_, run_underlying_ hu, r1, run_sizeOf_ hz, hm, hf]
    | some a => simp [Builtin.copy_, run_underlying_ hu, r1, run_sizeOf_ hz, hm, hf, storeCells]
  · rename_i h0
    cases base with
    | none => cases e
    | some a =>
      simp only at e
      cases hp : gput h a.block a.off (l.take (min k n * z)) with
      | none => simp [hp] at e
      | some h' =>
        simp only [hp, Option.map_some, Option.some.injEq] at e
        subst e
        simp only [VR] at kd
        obtain ⟨lc, a', c'', hr, hsp, hd2, hcc⟩ := kd
        rw [hd'] at hd2
        cases hd2
        have ha : a' = lc.addr a := by
          rcases hcc with ⟨_, _, _, _, h1 | h1⟩ | ⟨_, h1, _⟩ | ⟨_, h1, _⟩
          · exact h1
          · have := h1.1; omega
          · exact h1
          · omega
        subst ha
        subst hd'
        obtain ⟨w', e1, p⟩ := HSim.puts hs hp hr (r3.take (min k n * z))
        have e1' : (storeCells (lc.addr a) (ys.take (min k n * z)) 0).run P w = .ok () w' := e1
        have hf := (r4 w rfl).2 (min k n) (Nat.min_le_left _ _) h0
        refine .inl ⟨goInt (min k n : Nat), w', ρ, ?_, p, by simp [VR, goInt]⟩
        have hmm : Nat.min k n = min k n := rfl
        simp [Builtin.copy_, run_underlying_ hu, r1, run_sizeOf_ hz, hmm, hf, e1']

/-! ### maps -/
theorem mapTy_some {t k e : TypeId} (h : mapTy P t = some (k, e)) : P.underlying t = some (.map k e) := by
  unfold mapTy at h; split at h <;> simp_all
theorem VR.map_some {ρ : Ren} {r : Nat} {v : Value} (k : VR ρ (.map (some r)) v) : ∃ l, ρ r = some l ∧ v = .map (some l.blk) := by
  simp only [VR] at k; obtain ⟨l, h1, _, h2⟩ := k; exact ⟨l, h1, h2⟩

theorem HSim.map (s : HSim P ρ h w.heap) {r ck : Nat} {es : List MapEntry} {l : Loc} (g : h.get r = some (.map es ck)) (hr : ρ r = some l) :
    l.sh = 0 ∧ ∃ es' : List MapEntry, w.heap[l.blk]? = some (.map es'.toArray ck) ∧ ERs ρ es es' := s.sim r _ l g hr
theorem run_getObj_ {o : Obj} {r : Nat} (e : w.heap[r]? = some o) (hc : ∀ c t f, o ≠ .cells c t f) : (getObj r).run P w = .ok o w := by
  simp only [getObj, Sem.run, e]
  all_goals (cases o <;> first | rfl | exact absurd rfl (hc _ _ _))
theorem run_setObj_ {o o' : Obj} {r : Nat} (e : w.heap[r]? = some o) (hc : ∀ c t f, o ≠ .cells c t f) : (setObj r o').run P w = .ok () { w with heap := w.heap.setIfInBounds r o' } := by
  simp only [setObj, Sem.run, e]
  all_goals (cases o <;> first | rfl | exact absurd rfl (hc _ _ _))

theorem ERs.length : ∀ {a b : List MapEntry}, ERs ρ a b → b.length = a.length
  | [], _, h => by simp [ERs] at h; simp [h]
  | x :: xs, _, h => by simp only [ERs] at h; obtain ⟨y, ys, rfl, _, h2⟩ := h; simp [h2.length]
theorem ERs.cons {x y : MapEntry} {xs ys : List MapEntry} (h : ER ρ x y) (k : ERs ρ xs ys) : ERs ρ (x :: xs) (y :: ys) := by
  simp only [ERs]; exact ⟨y, ys, rfl, h, k⟩
theorem ERs.get : ∀ {a b : List MapEntry} {i : Nat} {x : MapEntry}, ERs ρ a b → a[i]? = some x → ∃ y, b[i]? = some y ∧ ER ρ x y
  | [], _, i, x, _, e => by simp at e
  | a :: as, _, 0, x, h, e => by
    simp only [ERs] at h; obtain ⟨y, ys, rfl, h1, _⟩ := h
    simp at e; subst e; exact ⟨y, by simp, h1⟩
  | a :: as, _, i + 1, x, h, e => by
    simp only [ERs] at h; obtain ⟨y, ys, rfl, _, h2⟩ := h
    simp at e; obtain ⟨z, h3, h4⟩ := h2.get e; exact ⟨z, by simpa using h3, h4⟩
theorem ERs.set {x y : MapEntry} (hx : ER ρ x y) : ∀ {n : Nat} {a b : List MapEntry}, ERs ρ a b → ERs ρ (a.set n x) (b.set n y)
  | _, [], _, h => by simp [ERs] at h; subst h; simp [ERs]
  | 0, u :: us, _, h => by simp only [ERs] at h; obtain ⟨y', ys, rfl, h1, h2⟩ := h; exact .cons hx h2
  | n + 1, u :: us, _, h => by
    simp only [ERs] at h; obtain ⟨y', ys, rfl, h1, h2⟩ := h
    simp only [List.set_cons_succ]; exact .cons h1 (ERs.set hx h2)
theorem ERs.append : ∀ {a b c d : List MapEntry}, ERs ρ a b → ERs ρ c d → ERs ρ (a ++ c) (b ++ d)
  | [], _, c, d, h, k => by simp [ERs] at h; subst h; simpa using k
  | x :: xs, _, c, d, h, k => by
    simp only [ERs] at h; obtain ⟨y, ys, rfl, h1, h2⟩ := h
    exact .cons h1 (ERs.append h2 k)
theorem ERs.erase : ∀ {n : Nat} {a b : List MapEntry}, ERs ρ a b → ERs ρ (a.eraseIdx n) (b.eraseIdx n)
  | _, [], _, h => by simp [ERs] at h; subst h; simp [ERs]
  | 0, u :: us, _, h => by simp only [ERs] at h; obtain ⟨y', ys, rfl, h1, h2⟩ := h; simpa using h2
  | n + 1, u :: us, _, h => by
    simp only [ERs] at h; obtain ⟨y', ys, rfl, h1, h2⟩ := h
    simp only [List.eraseIdx_cons_succ]; exact .cons h1 (ERs.erase h2)
theorem ERs.nil : ERs ρ [] [] := by simp [ERs]

/-- a key is looked for as the model does -/
theorem run_findAsking {kt : TypeId} {k : Value} : ∀ {es es' : List MapEntry} {i : Nat} {r : Option Nat}, ERs ρ es es' → gkey k es (keq P kt) i = some r →
    ∃ r', (Instr.findAsking kt k es' i).run P w = .ok r' w ∧ (r = none → r' = none) ∧ (∀ j, r = some j → ∃ e', es'[j - i]? = some e' ∧ i ≤ j ∧ r' = some (j, e'.val))
  | [], _, i, r, h, e => by
    simp [ERs] at h; subst h
    simp [gkey] at e; subst e
    exact ⟨none, by simp [Instr.findAsking], by simp, by simp⟩
  | x :: xs, _, i, r, h, e => by
    simp only [ERs] at h; obtain ⟨y, ys, rfl, ⟨p, q, _, _⟩, h2⟩ := h
    simp only [gkey] at e
    cases hk : keq P kt k x.key with
    | none => simp [hk] at e
    | some b =>
      have hrun : (Op.equal kt k y.key).run P w = .ok b w := by
        unfold keq at hk
        split at hk
        · rw [q]; exact sp_run w _ _ hk
        · cases hk
      cases b with
      | true =>
        simp only [hk, Option.some.injEq] at e
        subst e
        exact ⟨some (i, y.val), by simp [Instr.findAsking, hrun], by simp, fun j hj => by cases hj; exact ⟨y, by simp, Nat.le_refl _, rfl⟩⟩
      | false =>
        simp only [hk] at e
        obtain ⟨r', r1, r2, r3⟩ := run_findAsking (i := i + 1) h2 e
        refine ⟨r', by simp [Instr.findAsking, hrun, r1], r2, fun j hj => ?_⟩
        obtain ⟨e', q1, q2, q3⟩ := r3 j hj
        refine ⟨e', ?_, by omega, q3⟩
        rw [show j - i = (j - (i + 1)) + 1 by omega]; simpa using q1

theorem findNow_eq {d : TypeDesc} {k : Value} {P : Program} {kt : TypeId} (w : World) (hd : P.underlying kt = some d) : ∀ {es : List MapEntry} {i : Nat} {r : Option (Nat × Value)}, Instr.findNow d k es i = some r →
    (Instr.findAsking kt k es i).run P w = .ok r w
  | [], i, r, e => by simp [Instr.findNow] at e; subst e; simp [Instr.findAsking]
  | x :: xs, i, r, e => by
    simp only [Instr.findNow] at e
    have key : ∀ b kk, Instr.sameNow d k kk = some b → (Op.equal kt k kk).run P w = .ok b w := by
      intro b kk hb
      have e0 : Op.equal kt k kk = Op.equalIn (9999 + 1) kt k kk := rfl
      rw [e0]
      generalize 9999 = dd
      unfold Instr.sameNow at hb
      split at hb
      · split at hb
        · rename_i hkk
          cases hb
          simp only [Op.equalIn, Sem.run_bind, run_underlying_ hd, Result.andThen_ok]
          simp [hkk]
        · cases hb
      · cases hb
        simp only [Op.equalIn, Sem.run_bind, run_underlying_ hd, Result.andThen_ok]
        simp
      · cases hb
        simp only [Op.equalIn, Sem.run_bind, run_underlying_ hd, Result.andThen_ok]
        simp
      · cases hb
    cases hsn : Instr.sameNow d k x.key with
    | none => simp [hsn] at e
    | some b =>
      cases b with
      | true => simp [hsn] at e; subst e; simp [Instr.findAsking, key true _ hsn]
      | false => simp [hsn] at e; simp [Instr.findAsking, key false _ hsn, findNow_eq w hd e]

theorem run_findKey_ {kt : TypeId} {d : TypeDesc} {k : Value} {es es' : List MapEntry} {r : Option Nat} (hd : P.underlying kt = some d) (hE : ERs ρ es es') (e : gkey k es (keq P kt) 0 = some r) :
    ∃ r', (Instr.findKey kt k es').run P w = .ok r' w ∧ (r = none → r' = none) ∧ (∀ j, r = some j → ∃ e', es'[j]? = some e' ∧ r' = some (j, e'.val)) := by
  obtain ⟨r', r1, r2, r3⟩ := run_findAsking (w := w) hE e
  refine ⟨r', ?_, r2, fun j hj => by obtain ⟨e', q1, _, q3⟩ := r3 j hj; exact ⟨e', by simpa using q1, q3⟩⟩
  cases hn : Instr.findNow d k es' 0 with
  | none => simp [Instr.findKey, run_underlying_ hd, hn, r1]
  | some r'' =>
    have := findNow_eq w hd hn
    rw [r1] at this
    cases this
    simp [Instr.findKey, run_underlying_ hd, hn]
end Go.Gh
