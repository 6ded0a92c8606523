/- The ghost machine's reads and writes of cells, and the model's. -/
import Derived.Test.YtloflflapneheaaGreatDoorGhD
import Derived.Laws.CopyRow
import Derived.Laws.Cells
set_option linter.unusedSectionVars false
set_option linter.unusedVariables false
set_option linter.unusedSimpArgs false
namespace Go.Gh
variable [Sym]
variable {P : Program} {ρ : Ren} {h : Heap} {w : World}

theorem add_none {a : Addr} (e : a.spot = none) (j : Nat) : a.add j = ⟨a.block, a.off + j, none⟩ := by
  unfold Addr.add; split
  · subst_vars; cases a; simp_all
  · simp
theorem addr_add (l : Loc) {a : Addr} (e : a.spot = none) (j : Nat) : l.addr (a.add j) = (l.addr a).add j := by
  rw [add_none e, add_none (a := l.addr a) rfl]; simp [Loc.addr, Nat.add_assoc]
theorem addr_spot (l : Loc) (a : Addr) : (l.addr a).spot = none := rfl
theorem add_spot {a : Addr} (e : a.spot = none) (j : Nat) : (a.add j).spot = none := by rw [add_none e]
theorem add_block (a : Addr) (j : Nat) : (a.add j).block = a.block := by unfold Addr.add; split <;> rfl
theorem add_off {a : Addr} (e : a.spot = none) (j : Nat) : (a.add j).off = a.off + j := by rw [add_none e]

theorem run_underlying_ {t : TypeId} {d : TypeDesc} (e : P.underlying t = some d) : (underlying t).run P w = .ok d w := by
  simp [underlying, e]
theorem run_typeInfo_ {t : TypeId} {d : TypeInfo} (e : P.info? t = some d) : (typeInfo t).run P w = .ok d w := by
  simp [typeInfo, e]
theorem run_sizeOf_ {t : TypeId} {n : Nat} (e : szOf P t = some n) : (sizeOf t).run P w = .ok n w := by
  unfold szOf at e
  cases hi : P.info? t with
  | none => simp [hi] at e
  | some i => simp [hi] at e; simp [sizeOf, run_typeInfo_ hi, e]
theorem run_isAgg_ {t : TypeId} {b : Bool} (e : isAg P t = some b) : (isAgg t).run P w = .ok b w := by
  unfold isAg at e
  cases hu : P.underlying t with
  | none => simp [hu] at e
  | some d => cases d <;> simp [hu] at e <;> subst e <;> simp [isAgg, run_underlying_ hu]
theorem run_zeroValue_ {t : TypeId} {z : Value} (e : zeroOf P t = some z) : (zeroValue t).run P w = .ok z w ∧ plain z = true := by
  unfold zeroOf at e
  cases hi : P.info? t with
  | none => simp [hi] at e
  | some i =>
    cases hz : i.zero with
    | none => simp [hi, hz] at e
    | some v =>
      simp [hi, hz] at e
      obtain ⟨e1, rfl⟩ := e
      exact ⟨by simp [zeroValue, run_typeInfo_ hi, hz], e1⟩

/-- what stands at a ghost block's place -/
theorem HSim.cells (s : HSim P ρ h w.heap) {b : Nat} {c : List Value} {t : TypeId} {md : Md} {l : Loc} (g : h.get b = some (.cells c t md)) (r : ρ b = some l) :
    ∃ C fz pre mid post, w.heap[l.blk]? = some (.cells C t fz) ∧ C.toList = pre ++ (mid ++ post) ∧ pre.length = l.sh ∧ VRs ρ c mid ∧
      (md ≠ .ro → ∀ i, l.sh ≤ i → i < C.size → ¬ (fz.1 ≤ i ∧ i < fz.2)) ∧
      (md = .op → ∃ ti, P.info? t = some ti ∧ 0 < ti.size ∧ C.size = l.sh + l.room * ti.size) := s.sim b _ l g r

theorem cut_len {c l : List Value} {off n : Nat} (e : cut c off n = some l) : l.length = n ∧ off + n ≤ c.length ∧ l = (c.drop off).take n := by
  unfold cut at e; split at e
  · cases e; refine ⟨?_, by assumption, rfl⟩; simp; omega
  · cases e

/-- cells that are read -/
theorem HSim.reads (s : HSim P ρ h w.heap) {b : Nat} {c xs : List Value} {t : TypeId} {md : Md} {l : Loc} {off n : Nat} (g : h.get b = some (.cells c t md)) (r : ρ b = some l) (e : cut c off n = some xs) :
    ∃ ys : List Value, VRs ρ xs ys ∧ ys.length = n ∧ ∀ j v, ys[j]? = some v → w.cell? ((⟨l.blk, l.sh + off, none⟩ : Addr).add j) = some v := by
  obtain ⟨C, fz, pre, mid, post, h1, h2, h3, h4, _⟩ := s.cells g r
  obtain ⟨e1, e2, rfl⟩ := cut_len e
  have hm := h4.length
  refine ⟨(mid.drop off).take n, (h4.drop off).take n, by simp; omega, fun j v hv => ?_⟩
  rw [add_none rfl]
  have hj : j < n := by
    have := (List.getElem?_eq_some_iff.1 hv).1; simp at this; omega
  have hv' : mid[off + j]? = some v := by
    rw [List.getElem?_take, if_pos hj, List.getElem?_drop] at hv; exact hv
  simp only [World.cell?, h1, Option.isSome_none, Bool.false_eq_true, if_false]
  rw [← Array.getElem?_toList, h2, List.getElem?_append_right (by omega), List.getElem?_append_left]
  · rw [show l.sh + off + j - pre.length = off + j by omega]; exact hv'
  · have := (List.getElem?_eq_some_iff.1 hv').1; omega
theorem HSim.read1 (s : HSim P ρ h w.heap) {b : Nat} {c : List Value} {x : Value} {t : TypeId} {md : Md} {l : Loc} {off : Nat} (g : h.get b = some (.cells c t md)) (r : ρ b = some l) (e : c[off]? = some x) :
    ∃ y, VR ρ x y ∧ w.cell? ⟨l.blk, l.sh + off, none⟩ = some y := by
  have hlt := (List.getElem?_eq_some_iff.1 e).1
  have hc : cut c off 1 = some [x] := by
    unfold cut; rw [if_pos (by omega)]
    congr 1
    apply List.ext_getElem?
    intro i
    cases i with
    | zero => simp [e]
    | succ i => simp; omega
  obtain ⟨ys, h1, h2, h3⟩ := s.reads g r hc
  match ys, h2 with
  | [y], _ =>
    simp only [VRs] at h1; obtain ⟨y', ys', e1, h1, e2⟩ := h1
    cases e1
    refine ⟨y, h1, ?_⟩
    have := h3 0 y rfl; rw [add_none rfl] at this; exact this

theorem run_loadVar_ {t : TypeId} {a : Addr} {x v' : Value} (s : HSim P ρ h w.heap) (e : gload P t h x = some v') {y : Value} (hx : VR ρ x y) (ha : y = .pointer (some a)) :
    ∃ v, (loadVar t a).run P w = .ok v w ∧ VR ρ v' v := by
  unfold gload at e
  split at e
  · rename_i a0
    simp only [VR] at hx
    obtain ⟨l, hr, hsp, hy⟩ := hx
    rw [ha] at hy; cases hy
    split at e
    · rename_i c et md hg
      cases hag : isAg P t with
      | none => simp [hag] at e
      | some b =>
        cases b with
        | true =>
          simp only [hag] at e
          cases hz : szOf P t with
          | none => simp [hz] at e
          | some n =>
            simp only [hz, Option.bind_some] at e
            cases hc : cut c a0.off n with
            | none => simp [hc] at e
            | some xs =>
              simp only [hc, Option.map_some, Option.some.injEq] at e
              subst e
              obtain ⟨ys, h1, h2, h3⟩ := s.reads hg hr hc
              refine ⟨.agg ys.toArray, ?_, VR.agg.2 ⟨ys, rfl, h1⟩⟩
              have := run_loadCells_list (P := P) w (l.addr a0) ys h3
              rw [h2] at this
              simp [loadVar, run_isAgg_ hag, run_sizeOf_ hz, this]
        | false =>
          simp only [hag] at e
          obtain ⟨y, h1, h2⟩ := s.read1 hg hr e
          exact ⟨y, by simp [loadVar, run_isAgg_ hag, h2, Loc.addr], h1⟩
    · cases e
  · cases e

theorem oneCell_VR {x y : Value} (k : VR ρ x y) (e : x.oneCell' = true) : y.oneCell' = true := by
  cases x <;> simp [Value.oneCell'] at e
  case bool => simp [VR] at k; subst k; rfl
  case int => simp [VR] at k; subst k; rfl
  case float => simp [VR] at k; subst k; rfl
  case complex => simp [VR] at k; subst k; rfl
  case string => simp [VR] at k; subst k; rfl
  case pointer a =>
    cases a with
    | none => simp [VR] at k; subst k; rfl
    | some a => simp only [VR] at k; obtain ⟨l, _, _, rfl⟩ := k; rfl
  case slice a n c =>
    cases a with
    | none => simp only [VR] at k; rw [k.1]; rfl
    | some a => simp only [VR] at k; obtain ⟨l, a', c', _, _, rfl, _⟩ := k; rfl
  case map a =>
    cases a with
    | none => simp [VR] at k; subst k; rfl
    | some a => simp only [VR] at k; obtain ⟨l, _, _, rfl⟩ := k; rfl
  case chan r =>
    cases r with
    | none => simp [VR] at k
    | some i =>
      simp only [VR] at k
      obtain ⟨kk, n, hk⟩ := Sym.one i
      rw [k, hk]; rfl
  case func f a b => obtain ⟨x, y, rfl, _⟩ := VR.func.1 k; rfl
  case nilFunc => simp [VR] at k; subst k; rfl
  case iface => simp only [VR] at k; obtain ⟨x', rfl, _⟩ := k; rfl
  case nilIface => simp [VR] at k; subst k; rfl
theorem ones_VRs : ∀ {a b : List Value}, VRs ρ a b → ones a = true → ∀ v ∈ b, v.oneCell' = true
  | [], _, k, _ => by simp [VRs] at k; subst k; simp
  | x :: xs, _, k, e => by
    simp only [VRs] at k; obtain ⟨y, ys, rfl, k1, k2⟩ := k
    simp [ones] at e
    intro v hv
    rcases List.mem_cons.1 hv with rfl | hv
    · exact oneCell_VR k1 e.1
    · exact ones_VRs k2 (by simpa [ones] using e.2) v hv

theorem lay_len {c l : List Value} {off : Nat} (e : off + l.length ≤ c.length) : (lay c off l).length = c.length := by
  simp [lay]; omega
theorem lay_VRs {c d l k : List Value} {off : Nat} (a : VRs ρ c d) (b : VRs ρ l k) : VRs ρ (lay c off l) (lay d off k) := by
  unfold lay; rw [b.length]; exact (a.take off).append (b.append (a.drop _))

/-- cells of a block whose mark stands beyond them -/
theorem run_storeCells_fz (g o : Nat) (t : TypeId) (fz : Nat × Nat) : ∀ (vs : List Value) (i : Nat) (cur : Array Value) (w : World), w.heap[g]? = some (.cells cur t fz) → o + i + vs.length ≤ cur.size →
    (∀ j, o ≤ j → j < cur.size → ¬ (fz.1 ≤ j ∧ j < fz.2)) → (∀ v ∈ vs, v.oneCell' = true) →
    ∃ w', (storeCells ⟨g, o, none⟩ vs i).run P w = .ok () w' ∧ w'.heap = w.heap.setIfInBounds g (.cells (lay cur.toList (o + i) vs).toArray t fz) ∧ w'.os = w.os ∧ w'.output = w.output ∧ w'.tape = w.tape
  | [], i, cur, w, hg, hl, _, _ => by
    refine ⟨w, rfl, ?_, rfl, rfl, rfl⟩
    have : (lay cur.toList (o + i) []).toArray = cur := by simp [lay]
    rw [this]
    apply Array.ext_getElem?
    intro k
    rw [Array.getElem?_setIfInBounds]
    split
    · subst_vars; rw [hg, if_pos (Array.getElem?_eq_some_iff.1 hg).1]
    · rfl
  | v :: rest, i, cur, w, hg, hl, hf, h1 => by
    have hi : o + i < cur.size := by simp at hl; omega
    have hgs := (Array.getElem?_eq_some_iff.1 hg).1
    have hcell : w.cell? ⟨g, o + i, none⟩ = some cur[o + i] := by simp [World.cell?, hg, hi]
    have hfro : w.frozen? ⟨g, o + i, none⟩ = false := by
      obtain ⟨lo, hi'⟩ := fz
      simp only [World.frozen?, hg]
      have := hf (o + i) (by omega) hi
      simp at this ⊢; omega
    have hst : (store ((⟨g, o, none⟩ : Addr).add i) v).run P w = .ok () (w.setCell ⟨g, o + i, none⟩ v) := by
      rw [add_none rfl, run_store P w _ v _ (h1 v (by simp)), hcell]
      simp [hfro]
    have hh : (w.setCell ⟨g, o + i, none⟩ v).heap = w.heap.setIfInBounds g (.cells (cur.setIfInBounds (o + i) v) t fz) := by
      apply Array.ext_getElem?
      intro k
      simp only [World.setCell, Array.getElem?_modify, Array.getElem?_setIfInBounds]
      by_cases e : g = k
      · subst e; obtain ⟨lo, hi'⟩ := fz; simp [hgs, (Array.getElem?_eq_some_iff.1 hg).2]
      · simp [e]
    have hg2 : (w.setCell ⟨g, o + i, none⟩ v).heap[g]? = some (.cells (cur.setIfInBounds (o + i) v) t fz) := by
      rw [hh, Array.getElem?_setIfInBounds, if_pos rfl, if_pos hgs]
    obtain ⟨w', e1, e2, e3, e4, e5⟩ := run_storeCells_fz g o t fz rest (i + 1) (cur.setIfInBounds (o + i) v) (w.setCell ⟨g, o + i, none⟩ v) hg2 (by simp at hl ⊢; omega) (by simpa using hf) (fun x hx => h1 x (by simp [hx]))
    refine ⟨w', ?_, ?_, e3.trans rfl, e4.trans rfl, e5.trans rfl⟩
    · simp only [storeCells, Sem.run_bind, hst, Result.andThen_ok, e1]
    · rw [e2, hh]
      apply Array.ext_getElem?
      intro k
      simp only [Array.getElem?_setIfInBounds, Array.size_setIfInBounds]
      by_cases e : g = k
      · subst e
        simp only [if_true, hgs]
        congr 3
        have htl : cur.toList.length = cur.size := by simp
        have hl' : o + i + (rest.length + 1) ≤ cur.size := by simpa using hl
        have e9 := list_seg_step cur.toList (o + i) v rest (by omega)
        simp only [lay, Array.toList_setIfInBounds, List.length_cons]
        simpa [Nat.add_assoc] using e9
      · simp [e]

/-- a store of cells, and what the ghost heap becomes -/
theorem HSim.puts (s : HSim P ρ h w.heap) {b off : Nat} {xs ys : List Value} {h' : Heap} {l : Loc} (e : gput h b off xs = some h') (r : ρ b = some l) (k : VRs ρ xs ys) :
    ∃ w', (storeCells (⟨l.blk, l.sh + off, none⟩ : Addr) ys 0).run P w = .ok () w' ∧ Post P ρ h w ρ h' w' := by
  unfold gput at e
  split at e
  case h_2 => cases e
  rename_i c et md hg
  obtain ⟨C, fz, pre, mid, post, h1, h2, h3, h4, h5, h6⟩ := s.cells hg r
  have key : md ≠ .ro → (if ones xs && Nat.ble (off + xs.length) c.length then some (h.set b (some (.cells (lay c off xs) et md))) else none) = some h' →
      ∃ w', (storeCells (⟨l.blk, l.sh + off, none⟩ : Addr) ys 0).run P w = .ok () w' ∧ Post P ρ h w ρ h' w' := by
    intro hmd e
    split at e
    case isFalse => cases e
    rename_i hc
    simp at hc
    obtain ⟨hc1, hc2⟩ := hc
    cases e
    have hml := h4.length
    have hyl := k.length
    have hsz : C.size = pre.length + (mid.length + post.length) := by rw [← Array.length_toList, h2]; simp
    have hgs := (Array.getElem?_eq_some_iff.1 h1).1
    obtain ⟨w', e1, e2, e3, e4, e5⟩ := run_storeCells_fz (P := P) l.blk (l.sh + off) et fz ys 0 C w h1 (by omega) (fun j a b => h5 hmd j (by omega) b) (ones_VRs k hc1)
    refine ⟨w', e1, ?_⟩
    have hmid : (lay C.toList (l.sh + off + 0) ys) = pre ++ (lay mid off ys ++ post) := by
      simp only [lay, h2, Nat.add_zero]
      rw [List.take_append, List.drop_append, h3, List.take_of_length_le (by omega)]
      rw [show l.sh + off - l.sh = off by omega, show l.sh + off + ys.length - l.sh = off + ys.length by omega]
      rw [List.drop_of_length_le (by omega), List.take_append_of_le_length (by omega), List.drop_append_of_le_length (by omega)]
      simp
    refine (Post.upd s hg r (by cases md <;> simp_all [GO.isRo]) (by cases md <;> simp_all [GO.isRo]) w'.heap (by rw [e2]; simp) (fun j hj => by rw [e2, Array.getElem?_setIfInBounds, if_neg (Ne.symm hj)]) ?_ (fun o => by rw [e2, Array.getElem?_setIfInBounds, if_pos rfl, if_pos hgs, h1]; rfl)).world rfl rfl rfl e3 rfl e4 rfl e5
    refine ⟨(lay C.toList (l.sh + off + 0) ys).toArray, fz, pre, lay mid off ys, post, ?_, ?_, h3, lay_VRs h4 k, ?_, ?_⟩
    · rw [e2, Array.getElem?_setIfInBounds, if_pos rfl, if_pos hgs]
    · simpa using hmid
    · intro _ j a b
      have : (lay C.toList (l.sh + off) ys).length = C.size := by rw [lay_len (by simp; omega)]; simp
      exact h5 hmd j a (by simpa [this] using b)
    · intro hop
      obtain ⟨ti, q1, q2, q3⟩ := h6 hop
      have : (lay C.toList (l.sh + off) ys).length = C.size := by rw [lay_len (by simp; omega)]; simp
      exact ⟨ti, q1, q2, by simpa [this] using q3⟩
  cases md with
  | ro => cases e
  | ex => exact key (by simp) e
  | op => exact key (by simp) e
#print axioms HSim.puts
end Go.Gh
