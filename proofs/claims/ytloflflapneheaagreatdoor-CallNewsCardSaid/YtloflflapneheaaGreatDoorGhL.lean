/- The ghost machine's operations are the model's (7): ranges, and the small ones. -/
import Derived.Test.YtloflflapneheaaGreatDoorGhK
set_option linter.unusedSectionVars false
set_option linter.unusedVariables false
set_option linter.unusedSimpArgs false
namespace Go.Gh
variable [Sym]
variable {P : Program} {ρ : Ren} {h : Heap} {w : World}

theorem VR.ptrNew {l : Loc} (hl : l.sh = 0) : VR (ρ.upd h.next l) (.pointer (some ⟨h.next, 0, none⟩)) (.pointer (some ⟨l.blk, 0, none⟩)) := by
  simp only [VR]; exact ⟨l, by simp [Ren.upd], trivial, by simp [Loc.addr, hl]⟩

theorem ok_makeMap {t : TypeId} {r r' : Option Value} {g : GN} (s : HSim P ρ h w.heap)
    (kr : match r with | none => r' = none | some v => ∃ v', r' = some v' ∧ VR ρ v v')
    (e : (match r with
      | none => some (.val (.map (some h.next)) (h.new (.map [] 0)))
      | some v => (asI v).bind fun _ => (mapTy P t).map fun _ => .val (.map (some h.next)) (h.new (.map [] 0))) = some g) :
    OpOK P ρ h w ((do let x ← Instr.makeMap t r'; pure (.value x) : Sem Next).run P w) g := by
  have key : OpOK P ρ h w (.ok (.value (.map (some w.heap.size))) { w with heap := w.heap.push (.map #[] 0) }) (.val (.map (some h.next)) (h.new (.map [] 0))) := by
    refine .inl ⟨_, _, ρ.upd h.next ⟨w.heap.size, 0, 0⟩, rfl, Post.new s _ _ _ rfl ⟨rfl, [], by simp, ERs.nil⟩, ?_⟩
    simp only [VR]; exact ⟨⟨w.heap.size, 0, 0⟩, by simp [Ren.upd], rfl, rfl⟩
  cases r with
  | none =>
    simp only at kr e
    cases e
    subst kr
    have : (do let x ← Instr.makeMap t none; pure (.value x) : Sem Next).run P w = .ok (.value (.map (some w.heap.size))) { w with heap := w.heap.push (.map #[] 0) } := by
      simp [Instr.makeMap, -run_newObj, newObj, Sem.run]
    rw [this]; exact key
  | some v =>
    simp only at kr e
    obtain ⟨v', rfl, kv⟩ := kr
    cases hi : asI v with
    | none => simp [hi] at e
    | some n =>
      cases hm : mapTy P t with
      | none => simp [hi, hm] at e
      | some q =>
        simp only [hi, hm, Option.bind_some, Option.map_some, Option.some.injEq] at e
        subst e
        obtain ⟨k, rfl⟩ := asI_some hi
        have := kv.int
        subst this
        have hu := mapTy_some (k := q.1) (e := q.2) hm
        have : (do let x ← Instr.makeMap t (some (.int k n)); pure (.value x) : Sem Next).run P w = .ok (.value (.map (some w.heap.size))) { w with heap := w.heap.push (.map #[] 0) } := by
          simp [Instr.makeMap, run_underlying_ hu, asInt, asIntOf, -run_newObj, newObj, Sem.run]
        rw [this]; exact key

theorem ok_range {t : TypeId} {x x' : Value} {g : GN} (s : HSim P ρ h w.heap) (k : VR ρ x x') (e : grange P t x h = some g) :
    OpOK P ρ h w ((do let x ← Instr.range t x'; pure (.value x) : Sem Next).run P w) g := by
  have key : ∀ (o : GO) (ob : Obj), OSim P (ρ.upd h.next ⟨w.heap.size, 0, 0⟩) ⟨w.heap.size, 0, 0⟩ (w.heap.push ob) o → (∀ c t f, ob = .cells c t f → f = (0, 0)) →
      OpOK P ρ h w (.ok (.value (.pointer (some ⟨w.heap.size, 0, none⟩))) { w with heap := w.heap.push ob }) (.val (.pointer (some ⟨h.next, 0, none⟩)) (h.new o)) := fun o ob ho hf =>
    .inl ⟨_, _, ρ.upd h.next ⟨w.heap.size, 0, 0⟩, rfl, Post.new s o ob _ rfl ho hf, VR.ptrNew rfl⟩
  unfold grange at e
  split at e
  · rename_i b hu
    cases e
    have : x' = .string b := by simpa [VR] using k
    subst this
    have : (do let x ← Instr.range t (.string b); pure (.value x) : Sem Next).run P w = .ok (.value (.pointer (some ⟨w.heap.size, 0, none⟩))) { w with heap := w.heap.push (.stringIter b 0) } := by
      simp [Instr.range, run_underlying_ hu]
    rw [this]; exact key _ _ ⟨rfl, by simp⟩ (fun c t f h => by cases h)
  · rename_i a b hu
    cases e
    have : x' = .map none := by simpa [VR] using k
    subst this
    have : (do let x ← Instr.range t (.map none); pure (.value x) : Sem Next).run P w = .ok (.value (.pointer (some ⟨w.heap.size, 0, none⟩))) { w with heap := w.heap.push (.mapIter none 0 #[] 0) } := by
      simp [Instr.range, run_underlying_ hu]
    rw [this]; exact key _ _ ⟨rfl, none, by simp [VR], by simp⟩ (fun c t f h => by cases h)
  · rename_i a b m hu
    split at e
    · rename_i es ck hg
      cases e
      obtain ⟨l, hr, rfl⟩ := k.map_some
      obtain ⟨hl0, es', hh, _⟩ := s.map hg hr
      have hget := run_getObj_ (P := P) hh (by intros; simp)
      have : (do let x ← Instr.range t (.map (some l.blk)); pure (.value x) : Sem Next).run P w = .ok (.value (.pointer (some ⟨w.heap.size, 0, none⟩))) { w with heap := w.heap.push (.mapIter (some l.blk) ck #[] ck) } := by
        simp [Instr.range, run_underlying_ hu, hget]
      rw [this]
      refine key _ _ ⟨rfl, some l.blk, ?_, by simp⟩ (fun c t f h => by cases h)
      simp only [VR]; exact ⟨l, upd_le s _ _ _ hr, hl0, rfl⟩
    · cases e
  · cases e

theorem ERs.filter (p : Nat → Bool) : ∀ {a b : List MapEntry}, ERs ρ a b → ERs ρ (a.filter fun e => p e.born) (b.filter fun e => p e.born)
  | [], _, h => by simp [ERs] at h; subst h; simpa using ERs.nil
  | x :: xs, _, h => by
    simp only [ERs] at h; obtain ⟨y, ys, rfl, h1, h2⟩ := h
    simp only [List.filter_cons, h1.2.2.1]
    split
    · exact .cons h1 (ERs.filter p h2)
    · exact ERs.filter p h2
theorem ERs.all (p : Nat → Bool) : ∀ {a b : List MapEntry}, ERs ρ a b → (b.all fun e => p e.born) = a.all fun e => p e.born
  | [], _, h => by simp [ERs] at h; subst h; rfl
  | x :: xs, _, h => by
    simp only [ERs] at h; obtain ⟨y, ys, rfl, h1, h2⟩ := h
    simp only [List.all_cons, h1.2.2.1, ERs.all p h2]
theorem ERs.find (p : Nat → Bool) {x : MapEntry} : ∀ {a b : List MapEntry}, ERs ρ a b → (a.find? fun e => p e.born) = some x → ∃ y, (b.find? fun e => p e.born) = some y ∧ ER ρ x y
  | [], _, h, e => by simp at e
  | a :: as, _, h, e => by
    simp only [ERs] at h; obtain ⟨y, ys, rfl, h1, h2⟩ := h
    simp only [List.find?_cons, h1.2.2.1] at e ⊢
    split at e
    · cases e; exact ⟨y, by simp, h1⟩
    · exact ERs.find p h2 e

/-- an iterator that is written -/
theorem HSim.iterPost (s : HSim P ρ h w.heap) {b : Nat} {o o' : GO} {ob : Obj} {l : Loc} (g : h.get b = some o) (hr : ρ b = some l) (h1 : o.isRo = false) (h2 : o'.isRo = false)
    (ho : ∀ H : Array Obj, H[l.blk]? = some ob → OSim P ρ l H o') (hf : ∀ off, iced (some ob) off = iced w.heap[l.blk]? off) :
    Post P ρ h w ρ (h.set b (some o')) { w with heap := w.heap.setIfInBounds l.blk ob } := by
  have hlt := (s.sim b o l g hr).lt
  refine Post.upd s g hr h1 h2 _ (by simp) (fun j hj => by rw [Array.getElem?_setIfInBounds, if_neg (Ne.symm hj)]) (ho _ ?_) (fun off => by rw [Array.getElem?_setIfInBounds, if_pos rfl, if_pos hlt]; exact hf off)
  rw [Array.getElem?_setIfInBounds, if_pos rfl, if_pos hlt]

theorem ok_next {it it' : Value} {str : Bool} {ty : TypeId} {g : GN} (s : HSim P ρ h w.heap) (k : VR ρ it it') (e : gnext it str h = some g) :
    OpOK P ρ h w ((do let x ← Instr.next it' str ty; pure (.value x) : Sem Next).run P w) g := by
  have kover : VR ρ (.tuple #[.bool false]) (.tuple #[.bool false]) := VR.tuple.2 ⟨[.bool false], rfl, .one (by simp [VR])⟩
  unfold gnext at e
  split at e
  case h_2 => cases e
  rename_i a
  split at e
  case isFalse => cases e
  rename_i ha
  obtain ⟨ha0, ha1⟩ := ha
  simp only [VR] at k
  obtain ⟨l, hr, _, rfl⟩ := k
  split at e
  · rename_i b p hg
    obtain ⟨hl, hh⟩ := s.sim _ _ l hg hr
    have hget := run_getObj_ (P := P) hh (by intros; simp)
    have hla : l.addr a = ⟨l.blk, 0, none⟩ := by simp [Loc.addr, hl, ha0]
    rw [hla]
    split at e
    · rename_i hp
      cases e
      have hset := run_setObj_ (P := P) (o' := .stringIter b (p + (Utf8.decode b p).2)) hh (by intros; simp)
      refine .inl ⟨.tuple #[.bool true, goInt p, .int .i32 (Utf8.decode b p).1], _, ρ, ?_, s.iterPost hg hr rfl rfl (fun H hH => ⟨hl, hH⟩) (fun off => by rw [hh]; rfl), ?_⟩
      · simp [Instr.next, hget, hp, hset]
      · exact VR.tuple.2 ⟨_, rfl, .cons (by simp [VR]) (.cons (by simp [VR, goInt]) (.one (by simp [VR])))⟩
    · rename_i hp
      cases e
      exact OpOK.same s (v' := .tuple #[.bool false]) (by simp [Instr.next, hget, hp]) kover
  · rename_i since seen last hg
    cases e
    obtain ⟨hl, m', hm, hh⟩ := s.sim _ _ l hg hr
    have hm' : m' = none := by simpa [VR] using hm
    subst hm'
    have hget := run_getObj_ (P := P) hh (by intros; simp)
    have hla : l.addr a = ⟨l.blk, 0, none⟩ := by simp [Loc.addr, hl, ha0]
    rw [hla]
    exact OpOK.same s (v' := .tuple #[.bool false]) (by simp [Instr.next, hget]) kover
  · rename_i m since seen last hg
    obtain ⟨hl, m', hm, hh⟩ := s.sim _ _ l hg hr
    obtain ⟨lm, hrm, hm2⟩ := hm.map_some
    cases hm2
    have hget := run_getObj_ (P := P) hh (by intros; simp)
    have hla : l.addr a = ⟨l.blk, 0, none⟩ := by simp [Loc.addr, hl, ha0]
    rw [hla]
    split at e
    case h_2 => cases e
    rename_i es ck hgm
    obtain ⟨_, es', hhm, hE⟩ := s.map hgm hrm
    have hgetm := run_getObj_ (P := P) hhm (by intros; simp)
    split at e
    case isTrue => cases e
    rename_i hcond
    simp only [Option.some.injEq] at e
    subst e
    have hset : ∀ (w₁ : World) (b : Nat), w₁.heap = w.heap → (setObj l.blk (.mapIter (some lm.blk) since (seen ++ [b]).toArray ck)).run P w₁ = .ok () { w₁ with heap := w₁.heap.setIfInBounds l.blk (.mapIter (some lm.blk) since (seen ++ [b]).toArray ck) } :=
      fun w₁ b e => run_setObj_ (P := P) (by rw [e]; exact hh) (by intros; simp)
    have hE1 := hE.filter (fun b => !seen.contains b)
    have hE2 := hE1.filter (fun b => Nat.blt b since)
    have hE3 := hE1.filter (fun b => Nat.ble since b)
    generalize hold : ((es.filter fun e => !seen.contains e.born).filter fun e => Nat.blt e.born since) = old at hE2
    generalize hnew : ((es.filter fun e => !seen.contains e.born).filter fun e => Nat.ble since e.born) = new at hE3
    generalize hold' : ((es'.filter fun e => !seen.contains e.born).filter fun e => Nat.blt e.born since) = old' at hE2
    generalize hnew' : ((es'.filter fun e => !seen.contains e.born).filter fun e => Nat.ble since e.born) = new' at hE3
    have hcond' : (!seen.toArray.isEmpty && !es'.toArray.isEmpty && es'.toArray.all (fun e => decide (e.born ≥ last))) = false := by
      have h1 := hE.all (fun b => Nat.ble last b)
      have h2 : (es'.toArray.all fun e => decide (e.born ≥ last)) = es'.all fun e => Nat.ble last e.born := by
        simp only [List.all_toArray]
        congr 1; funext e
        apply Bool.eq_iff_iff.2; simp [Nat.ble_eq]
      have h3 : es'.toArray.isEmpty = es.isEmpty := by rw [← hE.isEmpty]; cases es' <;> simp
      have h4 : seen.toArray.isEmpty = seen.isEmpty := by cases seen <;> simp
      rw [h2, h1, h3, h4]; exact Bool.eq_false_iff.2 hcond
    have hfo : (es'.toArray.filter (fun e => !seen.toArray.contains e.born)).filter (fun e => decide (e.born < since)) = old'.toArray := by
      rw [← hold']
      simp only [List.filter_toArray, List.contains_toArray]
      congr 2; funext e; apply Bool.eq_iff_iff.2; simp [Nat.blt_eq]
    have hfn : (es'.toArray.filter (fun e => !seen.toArray.contains e.born)).filter (fun e => decide (e.born ≥ since)) = new'.toArray := by
      rw [← hnew']
      simp only [List.filter_toArray, List.contains_toArray]
      congr 2; funext e; apply Bool.eq_iff_iff.2; simp [Nat.ble_eq]
    -- the draw
    generalize hcand : ((if old'.toArray.isEmpty then #[none] else #[]) ++ (old'.toArray ++ new'.toArray).map some : Array (Option MapEntry)) = cand
    have hpos : 0 < cand.size := by
      rw [← hcand]; cases old' <;> simp
    obtain ⟨j, w₁, hj, hw, ho, hop, ht, hch⟩ : ∃ j w₁, j < cand.size ∧ w₁.heap = w.heap ∧ w₁.os = w.os ∧ w₁.output = w.output ∧ w₁.tape = w.tape ∧ (choose (.mapNext cand.size)).run P w = .ok j w₁ := by
      rw [run_choose]
      by_cases hf : (Question.mapNext cand.size).forced = true
      · rw [if_pos hf]; exact ⟨0, w, hpos, rfl, rfl, rfl, rfl, rfl⟩
      · rw [if_neg hf]; exact ⟨(w.tape w.drawn (.mapNext cand.size)) % cand.size, { w with drawn := w.drawn + 1 }, Nat.mod_lt _ hpos, rfl, rfl, rfl, rfl, rfl⟩
    have hrun : ∀ r : Result Next, ((match cand[j]? with
        | some (some e) => (do setObj l.blk (.mapIter (some lm.blk) since (seen.toArray.push e.born) ck); pure (.tuple #[.bool true, e.key, e.val]) : Sem Value)
        | some none => (pure (.tuple #[.bool false]) : Sem Value)
        | none => stuck "Next: no such candidate").run P w₁).andThen (fun x w => (pure (.value x) : Sem Next).run P w) = r →
        (do let x ← Instr.next (.pointer (some ⟨l.blk, 0, none⟩)) false ty; pure (.value x) : Sem Next).run P w = r := by
      intro r hr'
      rw [← hr']
      simp only [Sem.run_bind, Instr.next, hget, Result.andThen_ok, hgetm, hcond', Bool.false_eq_true, if_false, hfo, hfn, hcand, hch]
      rfl
    -- the candidates, one by one
    have hgo : ∀ (xs xs' : List MapEntry), ERs ρ xs xs' → ∀ (i : Nat) (y : MapEntry), xs'[i]? = some y → ∃ x, xs[i]? = some x ∧ ER ρ x y := by
      intro xs
      induction xs with
      | nil => intro xs' hx i y hy; simp [ERs] at hx; subst hx; simp at hy
      | cons x xs ih =>
        intro xs' hx i y hy
        simp only [ERs] at hx; obtain ⟨y', ys, rfl, h1, h2⟩ := hx
        cases i with
        | zero => simp at hy; subst hy; exact ⟨x, by simp, h1⟩
        | succ i => simp at hy; obtain ⟨x', q1, q2⟩ := ih ys h2 i y hy; exact ⟨x', by simpa using q1, q2⟩
    have hpost : ∀ b : Nat, Post P ρ h w₁ ρ (h.set a.block (some (.miter (some m) since (seen ++ [b]) ck))) { w₁ with heap := w₁.heap.setIfInBounds l.blk (.mapIter (some lm.blk) since (seen ++ [b]).toArray ck) } := fun b => by
      have hs1 : HSim P ρ h w₁.heap := hw ▸ s
      exact hs1.iterPost hg hr rfl rfl (fun H hH => ⟨hl, some lm.blk, hm, hH⟩) (fun off => by rw [hw, hh]; rfl)
    have hone : ∀ (i : Nat) (y : MapEntry), (old' ++ new')[i]? = some y → cand[j]? = some (some y) →
        OpOK P ρ h w ((do let x ← Instr.next (.pointer (some ⟨l.blk, 0, none⟩)) false ty; pure (.value x) : Sem Next).run P w)
          (.alts (if old.isEmpty then ((.tuple #[.bool false] : Value), h) :: ((old ++ new).map fun e => ((.tuple #[.bool true, e.key, e.val] : Value), h.set a.block (some (.miter (some m) since (seen ++ [e.born]) ck))))
            else (old ++ new).map fun e => ((.tuple #[.bool true, e.key, e.val] : Value), h.set a.block (some (.miter (some m) since (seen ++ [e.born]) ck))))) := by
      intro i y hy hc
      obtain ⟨x, hx, kp, ky, kb, kv⟩ := hgo _ _ (hE2.append hE3) i y hy
      have hmem : ((.tuple #[.bool true, x.key, x.val] : Value), h.set a.block (some (.miter (some m) since (seen ++ [x.born]) ck))) ∈
          (old ++ new).map (fun e => ((.tuple #[.bool true, e.key, e.val] : Value), h.set a.block (some (.miter (some m) since (seen ++ [e.born]) ck)))) :=
        List.mem_map.2 ⟨x, List.mem_of_getElem? hx, rfl⟩
      refine ⟨((.tuple #[.bool true, x.key, x.val] : Value), h.set a.block (some (.miter (some m) since (seen ++ [x.born]) ck))), ?_, .tuple #[.bool true, y.key, y.val], _, ρ, hrun _ ?_, (hpost x.born).world hw.symm rfl ho.symm rfl hop.symm rfl ht.symm rfl, ?_⟩
      · split
        · exact List.mem_cons_of_mem _ hmem
        · exact hmem
      · simp only [hc, Sem.run_bind, List.push_toArray, kb, hset w₁ x.born hw, Result.andThen_ok]
        rfl
      · exact VR.tuple.2 ⟨_, rfl, .cons (by simp [VR]) (.cons (by rw [ky]; exact VR.of_plain _ kp) (.one kv))⟩
    have hcs : cand = (if old'.isEmpty then [none] else []).toArray ++ ((old' ++ new').map some).toArray := by
      rw [← hcand]; cases old' <;> simp
    cases hcj : cand[j]? with
    | none => simp at hcj; omega
    | some c =>
      cases c with
      | none =>
        have hoe : old.isEmpty = true := by
          rw [← hE2.isEmpty]
          cases hoe : old'.isEmpty with
          | true => rfl
          | false =>
            have hmem := Array.mem_of_getElem? hcj
            rw [hcs] at hmem; simp [hoe] at hmem
        rw [if_pos hoe]
        refine ⟨((.tuple #[.bool false] : Value), h), List.mem_cons_self, .tuple #[.bool false], w₁, ρ, hrun _ ?_, (Post.refl (hw ▸ s)).world hw.symm rfl ho.symm rfl hop.symm rfl ht.symm rfl, kover⟩
        simp only [hcj]
        rfl
      | some y =>
        have : ∃ i : Nat, (old' ++ new')[i]? = some y := by
          have hmem : (some y) ∈ cand := Array.mem_of_getElem? hcj
          rw [hcs] at hmem
          simp only [List.append_toArray, List.mem_toArray, List.mem_append, List.mem_map] at hmem
          have : y ∈ old' ++ new' := by
            rcases hmem with h1 | ⟨z, h1, h2⟩
            · by_cases hq : old'.isEmpty = true
              · rw [if_pos hq] at h1; rcases List.mem_singleton.1 h1 with h2; cases h2
              · rw [if_neg hq] at h1; cases h1
            · cases h2; first | exact h1 | exact List.mem_append.2 h1
          obtain ⟨i, hi, he⟩ := List.mem_iff_getElem.1 this
          exact ⟨i, (List.getElem?_eq_some_iff).2 ⟨hi, he⟩⟩
        obtain ⟨i, hi⟩ := this
        exact hone i y hi hcj
  · cases e
end Go.Gh
