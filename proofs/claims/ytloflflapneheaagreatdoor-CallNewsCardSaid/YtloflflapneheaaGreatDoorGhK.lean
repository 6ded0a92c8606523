/- The ghost machine's operations are the model's (6): maps, ranges, and the small ones. -/
import Derived.Test.YtloflflapneheaaGreatDoorGhJ
set_option linter.unusedSectionVars false
set_option linter.unusedVariables false
set_option linter.unusedSimpArgs false
namespace Go.Gh
variable [Sym]
variable {P : Program} {ρ : Ren} {h : Heap} {w : World}

theorem checkKey_under {e : Bool} {n : Nat} {t : TypeId} {k : Value} {u : Unit} (h : sp P (Instr.checkKey e (n + 1) t k) = some u) : ∃ d, P.underlying t = some d := by
  cases hu : P.underlying t with
  | some d => exact ⟨d, rfl⟩
  | none =>
    have := sp_run (P := P) ⟨#[], fun _ _ => 0, 0, default, #[]⟩ _ _ h
    simp [Instr.checkKey, underlying, hu] at this

theorem checkKey_run {e : Bool} {t : TypeId} {k : Value} {u : Unit} (h : sp P (Instr.checkKey e 10000 t k) = some u) :
    (Instr.checkKey e 10000 t k).run P w = .ok () w ∧ ∃ d, P.underlying t = some d :=
  ⟨sp_run w _ _ h, checkKey_under (n := 9999) h⟩

theorem gmapAt_some {h : Heap} {m : Value} {r ck : Nat} {es : List MapEntry} (e : gmapAt h m = some (r, es, ck)) : m = .map (some r) ∧ h.get r = some (.map es ck) := by
  unfold gmapAt at e
  split at e
  · rename_i r'
    split at e
    · rename_i es' ck' hg
      cases e; exact ⟨rfl, hg⟩
    · cases e
  · cases e

theorem ERs.isEmpty {a b : List MapEntry} (h : ERs ρ a b) : b.isEmpty = a.isEmpty := by
  have := h.length
  cases a <;> cases b <;> simp_all

theorem gfind_ok {kt : TypeId} {k k' : Value} {es es' : List MapEntry} {r : Option Nat} (hE : ERs ρ es es') (kk : VR ρ k k') (e : gfind P kt k es = some r) :
    k' = k ∧ (Instr.checkKey es'.toArray.isEmpty 10000 kt k).run P w = .ok () w ∧ ∃ r', (Instr.findKey kt k es').run P w = .ok r' w ∧ (r = none → r' = none) ∧ (∀ j, r = some j → ∃ e', es'[j]? = some e' ∧ r' = some (j, e'.val)) := by
  unfold gfind at e
  split at e
  case isFalse => cases e
  rename_i hp
  cases hc : sp P (Instr.checkKey es.isEmpty 10000 kt k) with
  | none => simp [hc] at e
  | some u =>
    simp only [hc, Option.bind_some] at e
    obtain ⟨h1, d, hd⟩ := checkKey_run (w := w) hc
    refine ⟨VR.plain_eq _ _ hp kk, ?_, run_findKey_ hd hE e⟩
    have : es'.toArray.isEmpty = es.isEmpty := by rw [← hE.isEmpty]; cases es' <;> simp
    rw [this]; exact h1

theorem ok_lookup {t : TypeId} {m m' k k' v : Value} {ok : Bool} (s : HSim P ρ h w.heap) (km : VR ρ m m') (kk : VR ρ k k') (e : glookup P t m k ok h = some v) :
    OpOK P ρ h w ((do let x ← Instr.lookup t m' k' ok; pure (.value x) : Sem Next).run P w) (.val v h) := by
  unfold glookup at e
  cases ht : mapTy P t with
  | none => simp [ht] at e
  | some x =>
  obtain ⟨kt, et⟩ := x
  simp only [ht, Option.bind_some] at e
  have hu := mapTy_some ht
  cases hz : zeroOf P et with
  | none => simp [hz] at e
  | some z =>
  simp only [hz, Option.bind_some] at e
  obtain ⟨hz1, hz2⟩ := run_zeroValue_ (w := w) hz
  have kz : VR ρ z z := VR.of_plain z hz2
  split at e
  · have hm : m' = .map none := by simpa [VR] using km
    subst hm
    cases hf : gfind P kt k [] with
    | none => simp [hf] at e
    | some r =>
      simp only [hf, Option.map_some, Option.some.injEq] at e
      obtain ⟨rfl, h1, r', h2, h3, h4⟩ := gfind_ok (w := w) (ρ := ρ) ERs.nil kk hf
      have hr : r = none := by
        unfold gfind at hf
        split at hf
        · simp only [gkey] at hf
          generalize sp P (Instr.checkKey ([] : List MapEntry).isEmpty 10000 kt k') = q at hf
          cases q with
          | none => simp at hf
          | some u => simp at hf; exact hf.symm
        · cases hf
      have h3' := h3 hr
      subst h3'
      have h1' : (Instr.checkKey true 10000 kt k').run P w = .ok () w := h1
      subst e
      refine OpOK.same s (v' := if ok then .tuple #[z, .bool false] else z) ?_ ?_
      · simp [Instr.lookup, run_underlying_ hu, h1', h2, hz1]
      · split
        · exact VR.tuple.2 ⟨[z, .bool false], rfl, .cons kz (.one (by simp [VR]))⟩
        · exact kz
  · cases hg : gmapAt h m with
    | none => simp [hg] at e
    | some x =>
      obtain ⟨r, es, ck⟩ := x
      obtain ⟨rfl, hg2⟩ := gmapAt_some hg
      simp only [hg, Option.bind_some] at e
      obtain ⟨l, hr, rfl⟩ := km.map_some
      obtain ⟨_, es', hh, hE⟩ := s.map hg2 hr
      have hget := run_getObj_ (P := P) hh (by intros; simp)
      cases hf : gfind P kt k es with
      | none => simp [hf] at e
      | some q =>
        simp only [hf, Option.bind_some] at e
        obtain ⟨rfl, h1, r', h2, h3, h4⟩ := gfind_ok (w := w) hE kk hf
        cases q with
        | some i =>
          simp only at e
          cases hi : es[i]? with
          | none => simp [hi] at e
          | some en =>
            simp only [hi, Option.map_some, Option.some.injEq] at e
            obtain ⟨e', he1, rfl⟩ := h4 i rfl
            obtain ⟨y, hy, _, _, _, hv⟩ := hE.get hi
            rw [he1] at hy
            cases hy
            subst e
            refine OpOK.same s (v' := if ok then .tuple #[e'.val, .bool true] else e'.val) ?_ ?_
            · simp [Instr.lookup, run_underlying_ hu, hget] at h1 ⊢
              simp [h1, h2]
            · split
              · exact VR.tuple.2 ⟨[e'.val, .bool true], rfl, .cons hv (.one (by simp [VR]))⟩
              · exact hv
        | none =>
          simp only [Option.some.injEq] at e
          have h3' := h3 rfl
          subst h3'
          subst e
          refine OpOK.same s (v' := if ok then .tuple #[z, .bool false] else z) ?_ ?_
          · simp [Instr.lookup, run_underlying_ hu, hget] at h1 ⊢
            simp [h1, h2, hz1]
          · split
            · exact VR.tuple.2 ⟨[z, .bool false], rfl, .cons kz (.one (by simp [VR]))⟩
            · exact kz

/-- a map that is written -/
theorem HSim.mapPost (s : HSim P ρ h w.heap) {r ck ck' : Nat} {es es2 es2' : List MapEntry} {l : Loc} (g : h.get r = some (.map es ck)) (hr : ρ r = some l) (k : ERs ρ es2 es2') :
    Post P ρ h w ρ (h.set r (some (.map es2 ck'))) { w with heap := w.heap.setIfInBounds l.blk (.map es2'.toArray ck') } := by
  obtain ⟨h0, es', hh, _⟩ := s.map g hr
  have hlt := (Array.getElem?_eq_some_iff.1 hh).1
  refine Post.upd s g hr rfl rfl _ (by simp) (fun j hj => by rw [Array.getElem?_setIfInBounds, if_neg (Ne.symm hj)]) ⟨h0, es2', ?_, k⟩ (fun off => by rw [Array.getElem?_setIfInBounds, if_pos rfl, if_pos hlt, hh]; rfl)
  rw [Array.getElem?_setIfInBounds, if_pos rfl, if_pos hlt]

theorem ok_update {t : TypeId} {m m' k k' v v' : Value} {h' : Heap} (s : HSim P ρ h w.heap) (km : VR ρ m m') (kk : VR ρ k k') (kv : VR ρ v v') (e : gupdate P t m k v h = some h') :
    OpOK P ρ h w ((do Instr.mapUpdate t m' k' v'; pure .skip : Sem Next).run P w) (.val undef h') := by
  unfold gupdate at e
  cases ht : mapTy P t with
  | none => simp [ht] at e
  | some x =>
  obtain ⟨kt, et⟩ := x
  simp only [ht, Option.bind_some] at e
  have hu := mapTy_some ht
  cases hg : gmapAt h m with
  | none => simp [hg] at e
  | some x =>
  obtain ⟨r, es, ck⟩ := x
  obtain ⟨rfl, hg2⟩ := gmapAt_some hg
  simp only [hg, Option.bind_some] at e
  split at e
  case isFalse => cases e
  rename_i hp
  have hkk := VR.plain_eq _ _ hp kk
  subst hkk
  cases hc : sp P (Instr.checkKey false 10000 kt k') with
  | none => simp [hc] at e
  | some u =>
  simp only [hc, Option.bind_some] at e
  obtain ⟨h1, d, hd⟩ := checkKey_run (w := w) hc
  obtain ⟨l, hr, rfl⟩ := km.map_some
  obtain ⟨_, es', hh, hE⟩ := s.map hg2 hr
  have hget := run_getObj_ (P := P) hh (by intros; simp)
  cases hf : gkey k' es (keq P kt) 0 with
  | none => simp [hf] at e
  | some q =>
    simp only [hf, Option.bind_some] at e
    obtain ⟨r', h2, h3, h4⟩ := run_findKey_ (w := w) hd hE hf
    cases q with
    | none =>
      simp only [Option.some.injEq] at e
      subst e
      have h3' := h3 rfl
      subst h3'
      have hset := run_setObj_ (P := P) (o' := .map (es' ++ [({ key := k', val := v', born := ck } : MapEntry)]).toArray (ck + 1)) hh (by intros; simp)
      refine .inr ⟨_, ρ, ?_, rfl, s.mapPost hg2 hr (es2' := es' ++ [({ key := k', val := v', born := ck } : MapEntry)]) (hE.append (.cons ⟨hp, rfl, rfl, kv⟩ .nil))⟩
      simp only [List.push_toArray, Instr.mapUpdate, Sem.run_bind, run_underlying_ hu, hget, h1, h2, Result.andThen_ok, hset]
      simp
    | some i =>
      simp only at e
      cases hi : es[i]? with
      | none => simp [hi] at e
      | some en =>
        simp only [hi, Option.bind_some] at e
        split at e
        case isFalse => cases e
        rename_i hsb
        cases e
        obtain ⟨e', he1, rfl⟩ := h4 i rfl
        obtain ⟨y, hy, kp, ky, kb, hv⟩ := hE.get hi
        rw [he1] at hy
        cases hy
        have hmod : (es'.toArray.modify i fun e => { e with key := k', val := v' }) = (es'.set i ({ e' with key := k', val := v' } : MapEntry)).toArray := by
          apply Array.ext_getElem?
          intro j
          rw [Array.getElem?_modify]
          simp only [List.getElem?_toArray, List.getElem?_set]
          by_cases hij : i = j
          · subst hij
            have hlt := (List.getElem?_eq_some_iff.1 he1).1
            simp only [he1, if_true, hlt, Option.map_some]
          · simp only [hij, if_false]
        have hset := run_setObj_ (P := P) (o' := .map (es'.set i ({ e' with key := k', val := v' } : MapEntry)).toArray ck) hh (by intros; simp)
        have hk2 : (Instr.keyThatStays e'.key k').run P w = .ok k' w := by
          rw [ky]; simp [Instr.keyThatStays, hsb]
        refine .inr ⟨_, ρ, ?_, rfl, s.mapPost hg2 hr (es2' := es'.set i ({ e' with key := k', val := v' } : MapEntry)) (hE.set (x := { en with key := k', val := v }) (y := { e' with key := k', val := v' }) ⟨hp, rfl, kb, kv⟩)⟩
        simp only [Instr.mapUpdate, Sem.run_bind, run_underlying_ hu, hget, h1, h2, Result.andThen_ok, List.getElem?_toArray, he1, Option.map_some, Option.getD_some, hk2, hmod, hset]
        simp

theorem ok_clear {t ty : TypeId} {x x' : Value} {h' : Heap} (s : HSim P ρ h w.heap) (kx : VR ρ x x') (e : gclear P t x h = some h') :
    OpOK P ρ h w ((do let x ← Builtin.clear_ #[t] ty #[x']; pure (.value x) : Sem Next).run P w) (.val (.tuple #[]) h') := by
  have kt : VR ρ (.tuple #[]) (.tuple #[]) := VR.tuple.2 ⟨[], rfl, .nil⟩
  unfold gclear at e
  split at e
  · rename_i a b r hu
    split at e
    · rename_i es ck hg
      cases e
      obtain ⟨l, hr, rfl⟩ := kx.map_some
      obtain ⟨_, es', hh, hE⟩ := s.map hg hr
      have hget := run_getObj_ (P := P) hh (by intros; simp)
      have hset := run_setObj_ (P := P) (o' := .map #[] ck) hh (by intros; simp)
      refine .inl ⟨.tuple #[], _, ρ, ?_, s.mapPost hg hr (es2' := []) ERs.nil, kt⟩
      simp [Builtin.clear_, run_underlying_ hu, hget, hset]
    · cases e
  · rename_i hu
    cases e
    have hm : x' = .map none := by simpa [VR] using kx
    subst hm
    exact OpOK.same s (v' := .tuple #[]) (by simp [Builtin.clear_, run_underlying_ hu]) kt
  · rename_i el a n c hu
    split at e
    · rename_i hn
      cases e
      subst hn
      simp only [VR] at kx
      obtain ⟨l, a', c', hr, hsp, rfl, hcc⟩ := kx
      exact OpOK.same s (v' := .tuple #[]) (by simp [Builtin.clear_, run_underlying_ hu]) kt
    · rename_i hn
      cases hz : zeroOf P el with
      | none => simp [hz] at e
      | some z =>
        cases hs : szOf P el with
        | none => simp [hz, hs] at e
        | some sz =>
          simp only [hz, hs, Option.bind_some] at e
          split at e
          case isFalse => cases e
          rename_i hl
          obtain ⟨hz1, hz2⟩ := run_zeroValue_ (w := w) hz
          simp only [VR] at kx
          obtain ⟨l, a', c', hr, hsp, rfl, hcc⟩ := kx
          have ha : a' = l.addr a := by
            rcases hcc with ⟨_, _, _, _, h1 | h1⟩ | ⟨_, h1, _⟩ | ⟨_, h1, _⟩
            · exact h1
            · exact absurd h1.1 hn
            · exact h1
            · exact absurd h1 hn
          subst ha
          have hzc : (Builtin.zeroCells z.cells n).toList = repeats (vcells z) n := by
            have h1 : z.cells.toList = vcells z := vcells_eq z
            have h2 : 0 < z.cells.size := by rw [← Array.length_toList, h1]; omega
            unfold Builtin.zeroCells
            rw [range_repeats _ h2, h1]
          obtain ⟨w', e1, p⟩ := HSim.puts s e hr (repeats_VRs (VR.cells (VR.of_plain (ρ := ρ) z hz2)) n)
          have e1' : (storeCells (l.addr a) (Builtin.zeroCells z.cells n).toList 0).run P w = .ok () w' := by rw [hzc]; exact e1
          refine .inl ⟨.tuple #[], w', ρ, ?_, p, kt⟩
          cases n with
          | zero => exact absurd rfl hn
          | succ n => simp [Builtin.clear_, run_underlying_ hu, hz1, e1']
  · rename_i el n c hu
    cases e
    have hm : x' = .slice none n c := by simp only [VR] at kx; exact kx.1
    subst hm
    exact OpOK.same s (v' := .tuple #[]) (by simp [Builtin.clear_, run_underlying_ hu]) kt
  · cases e
end Go.Gh
