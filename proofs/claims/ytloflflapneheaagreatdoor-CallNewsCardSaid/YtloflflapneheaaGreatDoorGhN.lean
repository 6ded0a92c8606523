/- The ghost machine's operations are the model's (8): all of them. -/
import Derived.Test.YtloflflapneheaaGreatDoorGhL
set_option linter.unusedSectionVars false
set_option linter.unusedVariables false
set_option linter.unusedSimpArgs false
namespace Go.Gh
variable [Sym]
variable {P : Program} {ρ : Ren} {h : Heap} {w : World}

theorem ok_entry {it it' v : Value} (s : HSim P ρ h w.heap) (k : VR ρ it it') (e : gentry it h = some v) :
    OpOK P ρ h w ((do let x ← Instr.entry it'; pure (.value x) : Sem Next).run P w) (.val v h) := by
  unfold gentry at e
  split at e
  case h_2 => cases e
  rename_i a
  split at e
  case isFalse => cases e
  rename_i ha
  obtain ⟨ha0, ha1⟩ := ha
  simp only [VR] at k
  obtain ⟨l, hr, _, rfl⟩ := k
  split at e
  case h_2 => cases e
  rename_i m since seen stepped hg
  obtain ⟨hl, m', hm, hh⟩ := s.sim _ _ l hg hr
  obtain ⟨lm, hrm, hm2⟩ := hm.map_some
  cases hm2
  have hget := run_getObj_ (P := P) hh (by intros; simp)
  have hla : l.addr a = ⟨l.blk, 0, none⟩ := by simp [Loc.addr, hl, ha0]
  rw [hla]
  split at e
  case h_2 => cases e
  rename_i stamp es ck hst hgm
  obtain ⟨_, es', hhm, hE⟩ := s.map hgm hrm
  have hgetm := run_getObj_ (P := P) hhm (by intros; simp)
  split at e
  case isFalse => cases e
  rename_i hck
  subst hck
  cases hf : es.find? (fun e => e.born == stamp) with
  | none => simp [hf] at e
  | some x =>
    simp only [hf, Option.map_some, Option.some.injEq] at e
    subst e
    obtain ⟨y, hy, kp, ky, kb, kv⟩ := hE.find (fun b => b == stamp) hf
    have hb : seen.toArray.back? = some stamp := by simp [hst]
    refine OpOK.same s (v' := .tuple #[y.key, y.val]) ?_ (VR.tuple.2 ⟨_, rfl, .cons (by rw [ky]; exact VR.of_plain _ kp) (.one kv)⟩)
    simp only [Instr.entry, Sem.run_bind, hget, Result.andThen_ok, hb, hgetm]
    simp [hy]

theorem gisNil_ok {t : TypeId} {x y x' y' : Value} {b : Bool} (kx : VR ρ x x') (ky : VR ρ y y') (e : gisNil P t x y = some b) :
    (Op.equal t x' y').run P w = .ok b w ∧ (∀ o p q, (eqGuard o t p q x' y').run P w = .ok () w) ∧ (binOp .eql t x' y' = (do let b ← Op.equal t x' y'; pure (.bool b) : Sem Value)) ∧ (binOp .neq t x' y' = (do let b ← Op.equal t x' y'; pure (.bool (!b)) : Sem Value)) := by
  have hop : Op.equal t x' y' = Op.equalIn (9999 + 1) t x' y' := rfl
  unfold gisNil at e
  split at e
  · split at e
    · rename_i a _ el hu
      cases e
      simp only [VR] at kx ky
      obtain ⟨l, _, _, rfl⟩ := kx
      subst ky
      refine ⟨by rw [hop]; generalize 9999 = dd; simp [Op.equalIn, run_underlying_ hu], fun o p q => by simp [eqGuard], rfl, rfl⟩
    · cases e
  · split at e
    · rename_i a n c m d _ el hu
      cases e
      simp only [VR] at kx ky
      obtain ⟨l, a', c', _, _, rfl, _⟩ := kx
      obtain ⟨rfl, _⟩ := ky
      refine ⟨by rw [hop]; generalize 9999 = dd; simp [Op.equalIn, run_underlying_ hu], fun o p q => by simp [eqGuard], rfl, rfl⟩
    · cases e
  · split at e
    · rename_i r _ a b hu
      cases e
      obtain ⟨l, _, rfl⟩ := kx.map_some
      have : y' = .map none := by simpa [VR] using ky
      subst this
      refine ⟨by rw [hop]; generalize 9999 = dd; simp [Op.equalIn, run_underlying_ hu], fun o p q => by simp [eqGuard], rfl, rfl⟩
    · cases e
  · split at e
    · rename_i f a b _ p q r hu
      cases e
      obtain ⟨u, v, rfl, _⟩ := VR.func.1 kx
      have : y' = .nilFunc := by simpa [VR] using ky
      subst this
      refine ⟨by rw [hop]; generalize 9999 = dd; simp [Op.equalIn, run_underlying_ hu], fun o p q => by simp [eqGuard], rfl, rfl⟩
    · cases e
  · split at e
    · rename_i u v _ ms hu
      cases e
      simp only [VR] at kx ky
      obtain ⟨v', rfl, _⟩ := kx
      subst ky
      refine ⟨by rw [hop]; generalize 9999 = dd; simp [Op.equalIn, run_underlying_ hu], fun o p q => by simp [eqGuard], rfl, rfl⟩
    · cases e
  · cases e

theorem VR.symRel {x x' : Value} (k : VR ρ x x') : symRel Sym.env x x' := by
  cases x with
  | chan r =>
    cases r with
    | none => trivial
    | some i => simpa only [VR, Go.Gh.symRel] using k
  | int a b => simpa only [VR, Go.Gh.symRel] using k
  | _ => trivial

theorem ok_extract {t t' : Value} {i : Nat} {g : GN} (s : HSim P ρ h w.heap) (e : (match t with | .tuple vs => (vs.toList[i]?).map fun v => GN.val v h | _ => none) = some g) (k : VR ρ t t') :
    OpOK P ρ h w ((do let x ← Instr.extract t' i; pure (.value x) : Sem Next).run P w) g := by
  split at e
  case h_2 => cases e
  rename_i vs
  cases hv : vs.toList[i]? with
  | none => rw [hv] at e; cases e
  | some v =>
    rw [hv] at e
    simp only [Option.map_some, Option.some.injEq] at e
    subst e
    obtain ⟨ys, rfl, k2⟩ := VR.tuple.1 k
    obtain ⟨y, hy, ky⟩ := k2.get hv
    exact OpOK.same s (v' := y) (by simp [Instr.extract, hy]) ky

theorem ok_len {t ty : TypeId} {x x' : Value} {g : GN} (s : HSim P ρ h w.heap) (k : VR ρ x x')
    (e : (∃ el b n c, P.underlying t = some (.slice el) ∧ x = .slice b n c ∧ g = .val (goInt n) h) ∨
      (∃ a b, P.underlying t = some (.map a b) ∧ ((x = .map none ∧ g = .val (goInt 0) h) ∨ ∃ v, glen h x = some v ∧ (∃ r, x = .map (some r)) ∧ g = .val v h))) :
    OpOK P ρ h w ((do let x ← Builtin.len_ #[t] ty #[x']; pure (.value x) : Sem Next).run P w) g := by
  rcases e with ⟨el, b, n, c, hu, rfl, rfl⟩ | ⟨a, b, hu, h1⟩
  · obtain ⟨b', c', rfl⟩ : ∃ b' c', x' = .slice b' n c' := by
      cases b with
      | none => simp only [VR] at k; exact ⟨_, _, k.1⟩
      | some a => simp only [VR] at k; obtain ⟨lc, a', c', hr, hsp, rfl, hcc⟩ := k; exact ⟨_, _, rfl⟩
    exact OpOK.same s (v' := goInt n) (by simp [Builtin.len_, run_underlying_ hu]) (by simp [VR, goInt])
  · rcases h1 with ⟨rfl, rfl⟩ | ⟨v, hv, ⟨r, rfl⟩, rfl⟩
    · have : x' = .map none := by simpa [VR] using k
      subst this
      exact OpOK.same s (v' := goInt 0) (by simp [Builtin.len_, run_underlying_ hu]) (by simp [VR, goInt])
    · obtain ⟨l, hr, rfl⟩ := k.map_some
      unfold glen at hv
      simp only at hv
      split at hv
      · rename_i es ck hg
        cases hv
        obtain ⟨_, es', hh, hE⟩ := s.map hg hr
        have hget := run_getObj_ (P := P) hh (by intros; simp)
        refine OpOK.same s (v' := goInt es'.length) (by simp [Builtin.len_, run_underlying_ hu, hget]) ?_
        rw [hE.length]; simp [VR, goInt]
      · cases hv

theorem run_method_ {t : TypeId} {v : Value} {name : String} {n : Nat} {i : TypeInfo} {m : Method} {f : FuncId} {pr : Bool} (hi : P.info? t = some i) (hm : i.methods.find? (·.name == name) = some m)
    (hp : m.path.isEmpty = true) (hf : m.func = some (f, pr)) (hu : (pr = true ∧ ∃ e, P.underlying t = some (.pointer e)) ∨ (pr = false ∧ ∃ d, P.underlying t = some d ∧ ∀ e, d ≠ .pointer e)) :
    (method (n + 1) t v name).run P w = .ok (f, v) w := by
  have hpl : m.path.toList = [] := by
    cases hpp : m.path with
    | mk l => cases l with
      | nil => rfl
      | cons a l => simp [hpp] at hp
  rcases hu with ⟨rfl, el, hu⟩ | ⟨rfl, d, hu, hd⟩
  · simp [method, run_typeInfo_ hi, hm, hpl, follow, hf, receiverAt, run_underlying_ hu, Place.get]
  · have : (receiverAt t (.val v) false (if m.path.isEmpty then some ((name.splitOn ".").getLastD name) else none)).run P w = .ok v w := by
      simp only [receiverAt, Sem.run_bind, run_underlying_ hu, Result.andThen_ok]
      cases d <;> first | rfl | exact absurd rfl (hd _)
    simp only [method, Sem.run_bind, run_typeInfo_ hi, Result.andThen_ok, hm, hpl, follow, Sem.run_pure, hf, this]
end Go.Gh
