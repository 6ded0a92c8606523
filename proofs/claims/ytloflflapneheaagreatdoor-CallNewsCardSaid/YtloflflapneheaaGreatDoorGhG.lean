/- The ghost machine's operations are the model's (2): structs, parts, places. -/
import Derived.Test.YtloflflapneheaaGreatDoorGhF
set_option linter.unusedSectionVars false
set_option linter.unusedVariables false
set_option linter.unusedSimpArgs false
namespace Go.Gh
variable [Sym]
variable {P : Program} {ρ : Ren} {h : Heap} {w : World}

theorem run_part_ {t : TypeId} {c c' : List Value} {off : Nat} {v : Value} (k : VRs ρ c c') (e : gpart P t c off = some v) :
    ∃ v', (part t c'.toArray off).run P w = .ok v' w ∧ VR ρ v v' := by
  unfold gpart at e
  cases hag : isAg P t with
  | none => simp [hag] at e
  | some b =>
    cases b with
    | true =>
      simp only [hag] at e
      cases hz : szOf P t with
      | none => simp [hz] at e
      | some n =>
        simp only [hz, Option.map_some, Option.some.injEq] at e
        subst e
        refine ⟨.agg ((c'.drop off).take n).toArray, ?_, VR.agg.2 ⟨_, rfl, (k.drop off).take n⟩⟩
        simp [part, run_isAgg_ hag, run_sizeOf_ hz]
    | false =>
      simp only [hag] at e
      obtain ⟨y, h1, h2⟩ := k.get e
      exact ⟨y, by simp [part, run_isAgg_ hag, h1], h2⟩

theorem ok_field {t : TypeId} {x x' v : Value} {i : Nat} (s : HSim P ρ h w.heap) (k : VR ρ x x') (e : gfield P t i x = some v) :
    OpOK P ρ h w ((do let x ← Instr.field t x' i; pure (.value x) : Sem Next).run P w) (.val v h) := by
  unfold gfield at e
  split at e
  case h_2 => cases e
  rename_i cs
  split at e
  case h_2 => cases e
  rename_i fs hu
  cases hf : fs[i]? with
  | none => simp [hf] at e
  | some f =>
    simp only [hf, Option.bind_some] at e
    obtain ⟨ys, rfl, k2⟩ := VR.agg.1 k
    obtain ⟨v', h1, h2⟩ := run_part_ (w := w) k2 e
    exact OpOK.same s (by simp [Instr.field, run_underlying_ hu, hf, asAgg, h1]) h2

theorem VR.ptr {ρ : Ren} {a : Addr} {l : Loc} (hr : ρ a.block = some l) (hs : a.spot = none) : VR ρ (.pointer (some a)) (.pointer (some (l.addr a))) := by
  simp only [VR]; exact ⟨l, hr, hs, rfl⟩
theorem VR.ptr_add {ρ : Ren} {a : Addr} {l : Loc} (hr : ρ a.block = some l) (hs : a.spot = none) (n : Nat) : VR ρ (.pointer (some (a.add n))) (.pointer (some ((l.addr a).add n))) := by
  rw [← addr_add l hs]; exact VR.ptr (by rw [add_block]; exact hr) (add_spot hs n)

theorem ok_fieldAddr {t : TypeId} {x x' v : Value} {i : Nat} (s : HSim P ρ h w.heap) (k : VR ρ x x') (e : gfieldAddr P t i x = some v) :
    OpOK P ρ h w ((do let x ← Instr.fieldAt t x' i; pure (.value x) : Sem Next).run P w) (.val v h) := by
  unfold gfieldAddr at e
  split at e
  case h_2 => cases e
  rename_i a
  split at e
  case h_2 => cases e
  rename_i fs hu
  cases hf : fs[i]? with
  | none => simp [hf] at e
  | some f =>
    simp only [hf, Option.bind_some] at e
    cases hz : szOf P f.type with
    | none => simp [hz] at e
    | some n =>
      simp only [hz, Option.bind_some] at e
      split at e
      · cases e
      rename_i hn
      cases e
      simp only [VR] at k
      obtain ⟨l, hr, hsp, rfl⟩ := k
      exact OpOK.same s (by simp [Instr.fieldAt, run_underlying_ hu, hf, Instr.sureAddr, fieldPlace, run_sizeOf_ hz, hn]) (VR.ptr_add hr hsp f.offset)

theorem asI_some {v : Value} {n : Int} (e : asI v = some n) : ∃ k, v = .int k n := by
  cases v <;> simp [asI] at e
  subst e; exact ⟨_, rfl⟩
theorem VR.int {ρ : Ren} {k : IntKind} {n : Int} {v : Value} (e : VR ρ (.int k n) v) : v = .int k n := by simpa [VR] using e

theorem ok_indexAddr {t : TypeId} {x x' i i' v : Value} (s : HSim P ρ h w.heap) (k : VR ρ x x') (ki : VR ρ i i') (e : gindexAddr P t x i = some v) :
    OpOK P ρ h w ((do let x ← Instr.indexAt t x' i'; pure (.value x) : Sem Next).run P w) (.val v h) := by
  unfold gindexAddr at e
  cases hi : asI i with
  | none => simp [hi] at e
  | some n =>
    simp only [hi, Option.bind_some] at e
    obtain ⟨kd, rfl⟩ := asI_some hi
    cases ki.int
    split at e
    case h_3 => cases e
    · rename_i len el a hu
      cases hz : szOf P el with
      | none => simp [hz] at e
      | some z =>
        simp only [hz, Option.bind_some] at e
        split at e
        case isFalse => cases e
        rename_i hn
        cases e
        simp only [VR] at k
        obtain ⟨l, hr, hsp, rfl⟩ := k
        exact OpOK.same s (by simp [Instr.indexAt, asIntOf, run_underlying_ hu, Instr.sureAddr, run_sizeOf_ hz, hn]) (VR.ptr_add hr hsp _)
    · rename_i el a len cap hu
      cases hz : szOf P el with
      | none => simp [hz] at e
      | some z =>
        simp only [hz, Option.bind_some] at e
        split at e
        case isFalse => cases e
        rename_i hn
        cases e
        simp only [VR] at k
        obtain ⟨l, a', c', hr, hsp, rfl, hc⟩ := k
        have ha : a' = l.addr a := by
          rcases hc with ⟨_, _, _, _, h1 | h1⟩ | ⟨_, h1, _⟩ | ⟨_, h1, _⟩
          · exact h1
          · have := h1.1; omega
          · exact h1
          · omega
        subst ha
        exact OpOK.same s (by simp [Instr.indexAt, asIntOf, run_underlying_ hu, run_sizeOf_ hz, hn]) (VR.ptr_add hr hsp _)

theorem ok_index {t : TypeId} {x x' i i' v : Value} (s : HSim P ρ h w.heap) (k : VR ρ x x') (ki : VR ρ i i') (e : gindex P t x i = some v) :
    OpOK P ρ h w ((do let x ← Instr.index t x' i'; pure (.value x) : Sem Next).run P w) (.val v h) := by
  unfold gindex at e
  cases hi : asI i with
  | none => simp [hi] at e
  | some n =>
    simp only [hi, Option.bind_some] at e
    obtain ⟨kd, rfl⟩ := asI_some hi
    cases ki.int
    split at e
    case h_2 => cases e
    rename_i len el cs hu
    cases hz : szOf P el with
    | none => simp [hz] at e
    | some z =>
      simp only [hz, Option.bind_some] at e
      split at e
      case isFalse => cases e
      rename_i hn
      obtain ⟨ys, rfl, k2⟩ := VR.agg.1 k
      obtain ⟨v', h1, h2⟩ := run_part_ (w := w) k2 e
      exact OpOK.same s (by simp [Instr.index, asIntOf, run_underlying_ hu, hn, run_sizeOf_ hz, h1]) h2

/-! ### parts laid into cells -/
def PRs (ρ : Ren) : List (Nat × Value) → List (Nat × Value) → Prop
  | [], l => l = []
  | x :: xs, l => ∃ y ys, l = (x.1, y) :: ys ∧ VR ρ x.2 y ∧ PRs ρ xs ys
theorem evParts_ok {ev : Ev} {re : Operand → Value} (hev : EvOK ρ ev re) : ∀ {ps : List (Nat × Operand)} {l : List (Nat × Value)}, evParts ev ps = some l → PRs ρ l (ps.map fun x => (x.1, re x.2))
  | [], l, e => by simp [evParts] at e; subst e; simp [PRs]
  | (i, x) :: r, l, e => by
    simp only [evParts] at e
    cases hx : ev x with
    | none => simp [hx] at e
    | some v =>
      simp only [hx, Option.bind_some] at e
      cases hr : evParts ev r with
      | none => simp [hr] at e
      | some l' =>
        simp only [hr, Option.map_some, Option.some.injEq] at e
        subst e
        simp only [PRs, List.map_cons]
        exact ⟨_, _, rfl, hev x v hx, evParts_ok hev hr⟩
theorem evAll_ok {ev : Ev} {re : Operand → Value} (hev : EvOK ρ ev re) : ∀ {ps : List Operand} {l : List Value}, evAll ev ps = some l → VRs ρ l (ps.map re)
  | [], l, e => by simp [evAll] at e; subst e; simp [VRs]
  | x :: r, l, e => by
    simp only [evAll] at e
    cases hx : ev x with
    | none => simp [hx] at e
    | some v =>
      simp only [hx, Option.bind_some] at e
      cases hr : evAll ev r with
      | none => simp [hr] at e
      | some l' =>
        simp only [hr, Option.map_some, Option.some.injEq] at e
        subst e
        exact .cons (hev x v hx) (evAll_ok hev hr)

theorem fold_lay : ∀ (l : List Value) (k : Nat) (off : Nat) (c : Array Value), off + k + l.length ≤ c.size →
    ((l.zipIdx k).foldl (fun cs (x : Value × Nat) => cs.setIfInBounds (off + x.2) x.1) c).toList = lay c.toList (off + k) l
  | [], k, off, c, _ => by simp [lay]
  | v :: r, k, off, c, hl => by
    have htl : c.toList.length = c.size := by simp
    have hl' : off + k + (r.length + 1) ≤ c.size := by simpa using hl
    simp only [List.zipIdx_cons, List.foldl_cons]
    rw [fold_lay r (k + 1) off _ (by simp; omega)]
    have e9 := list_seg_step c.toList (off + k) v r (by omega)
    simp only [lay, Array.toList_setIfInBounds, List.length_cons]
    simpa [Nat.add_assoc] using e9

theorem fill_lay {place : Nat → Option (Nat × Nat)} : ∀ {ps qs : List (Nat × Value)} {c r d : List Value}, glay place c ps = some r → PRs ρ ps qs → VRs ρ c d →
    ∃ r', Instr.fill place d.toArray qs = some r'.toArray ∧ VRs ρ r r'
  | [], qs, c, r, d, e, kp, kc => by
    simp [PRs] at kp; subst kp
    simp [glay] at e; subst e
    exact ⟨d, by simp [Instr.fill], kc⟩
  | (i, v) :: ps, qs, c, r, d, e, kp, kc => by
    simp only [PRs] at kp
    obtain ⟨y, ys, rfl, k1, k2⟩ := kp
    simp only [glay] at e
    split at e
    · cases e
    rename_i off n hpl
    split at e
    case isFalse => cases e
    rename_i hc
    have kcells := k1.cells
    have hlen := kcells.length
    have hsz : y.cells.size = n := by rw [← Array.length_toList, vcells_eq, hlen, hc.1]
    have hdl := kc.length
    obtain ⟨r', e1, e2⟩ := fill_lay e k2 (lay_VRs (off := off) kc kcells)
    refine ⟨r', ?_, e2⟩
    simp only [Instr.fill, hpl, hsz, ne_eq, not_true_eq_false]
    rw [if_neg (by simp; omega)]
    rw [← e1]
    congr 1
    apply Array.toList_inj.1
    have := fold_lay y.cells.toList 0 off d.toArray (by simp; omega)
    rw [vcells_eq] at this
    rw [← Array.foldl_toList, Array.toList_zipIdx, vcells_eq]
    exact this

theorem run_places {fs : List Field} {pl : List (Nat × Nat)} (e : placesOf P fs = some pl) :
    (fs.mapM fun f => (do pure (f.offset, ← sizeOf f.type) : Sem (Nat × Nat))).run P w = .ok pl w := by
  induction fs generalizing pl with
  | nil => simp [placesOf] at e; subst e; simp
  | cons f r ih =>
    simp only [placesOf] at e
    cases hz : szOf P f.type with
    | none => simp [hz] at e
    | some n =>
      simp only [hz, Option.bind_some] at e
      cases hr : placesOf P r with
      | none => simp [hr] at e
      | some l' =>
        simp only [hr, Option.map_some, Option.some.injEq] at e
        subst e
        have := ih hr
        simp at this
        simp [List.mapM_cons, run_sizeOf_ hz, this]

theorem ok_build {t : TypeId} {ps qs : List (Nat × Value)} {v : Value} (s : HSim P ρ h w.heap) (k : PRs ρ ps qs) (e : gbuild P t ps = some v) :
    OpOK P ρ h w ((do let x ← Instr.build t qs.toArray; pure (.value x) : Sem Next).run P w) (.val v h) := by
  unfold gbuild at e
  cases hz : zeroOf P t with
  | none => simp [hz] at e
  | some z =>
    simp only [hz, Option.bind_some] at e
    obtain ⟨rz, pz⟩ := run_zeroValue_ (w := w) hz
    have kz := VR.cells (VR.of_plain (ρ := ρ) z pz)
    have hza : (vcells z).toArray = z.cells := by rw [← vcells_eq]
    split at e
    case h_3 => cases e
    · rename_i fs hu
      cases hp : placesOf P fs.toList with
      | none => simp [hp] at e
      | some pl =>
        simp only [hp, Option.bind_some] at e
        cases hg : glay (pl[·]?) (vcells z) ps with
        | none => simp [hg] at e
        | some c =>
          simp only [hg, Option.map_some, Option.some.injEq] at e
          subst e
          obtain ⟨r', e1, e2⟩ := fill_lay hg k kz
          rw [hza] at e1
          have hpl := run_places (w := w) hp
          have hpl' : (fs.mapM fun f => (do pure (f.offset, ← sizeOf f.type) : Sem (Nat × Nat))).run P w = .ok pl.toArray w := by
            rw [Array.mapM_eq_mapM_toList, Sem.run_map, hpl]; rfl
          refine OpOK.same s ?_ (VR.agg.2 ⟨r', rfl, e2⟩)
          simp only [Instr.build, Sem.run_bind, rz, Result.andThen_ok, run_underlying_ hu, hpl']
          simp [e1]
    · rename_i el n hu
      cases hn : szOf P n with
      | none => simp [hn] at e
      | some m =>
        simp only [hn, Option.bind_some] at e
        cases hg : glay (fun i => some (i * m, m)) (vcells z) ps with
        | none => simp [hg] at e
        | some c =>
          simp only [hg, Option.map_some, Option.some.injEq] at e
          subst e
          obtain ⟨r', e1, e2⟩ := fill_lay hg k kz
          rw [hza] at e1
          refine OpOK.same s ?_ (VR.agg.2 ⟨r', rfl, e2⟩)
          simp [Instr.build, rz, run_underlying_ hu, run_sizeOf_ hn, e1]

theorem repeats_len (c : List Value) : ∀ n, (repeats c n).length = n * c.length
  | 0 => by simp [repeats]
  | n + 1 => by simp [repeats, repeats_len c n, Nat.add_mul]; omega
theorem range_repeats (c : Array Value) (_hc : 0 < c.size) : ∀ n, (Array.range (n * c.size)).map (fun i => c[i % c.size]!) = (repeats c.toList n).toArray := by
  intro n
  apply Array.ext_getElem?
  intro i
  have key : ∀ n i, (repeats c.toList n)[i]? = if i < n * c.size then some (c[i % c.size]!) else none := by
    intro n
    induction n with
    | zero => intro i; simp [repeats]
    | succ n ih =>
      intro i
      simp only [repeats]
      by_cases h1 : i < c.size
      · have h3 : i < (n + 1) * c.size := by rw [Nat.add_mul]; omega
        rw [List.getElem?_append_left (by simpa using h1), if_pos h3, Nat.mod_eq_of_lt h1]
        simp [h1]
      · rw [List.getElem?_append_right (by simpa using h1), ih]
        have e1 : i % c.size = (i - c.size) % c.size := by rw [Nat.mod_eq_sub_mod (by omega)]
        have e2 : (i - c.toList.length < n * c.size) ↔ i < (n + 1) * c.size := by rw [Nat.add_mul]; simp; omega
        by_cases h4 : i < (n + 1) * c.size
        · rw [if_pos (e2.2 h4), if_pos h4, e1]; simp
        · rw [if_neg (fun x => h4 (e2.1 x)), if_neg h4]
  rw [show (repeats c.toList n).toArray[i]? = (repeats c.toList n)[i]? from by simp, key]
  by_cases h1 : i < n * c.size
  · rw [if_pos h1]; simp [h1]
  · rw [if_neg h1]; simp; omega
theorem repeats_VRs {c d : List Value} (k : VRs ρ c d) : ∀ n, VRs ρ (repeats c n) (repeats d n)
  | 0 => by simp [repeats, VRs]
  | n + 1 => by simp only [repeats]; exact k.append (repeats_VRs k n)

theorem elOf_some {t e : TypeId} (h : elOf P t = some e) : P.underlying t = some (.slice e) := by
  unfold elOf at h; split at h <;> simp_all

theorem slice_new (l : Loc) (hl : l.sh = 0) {n c : Nat} (hc : c < VH) (hn : n ≤ c) : VR (ρ.upd h.next l) (.slice (some ⟨h.next, 0, none⟩) n c) (.slice (some ⟨l.blk, 0, none⟩) n c) := by
  simp only [VR]
  exact ⟨l, _, _, by simp [Ren.upd], trivial, rfl, .inl ⟨hc, rfl, hn, rfl, .inl (by simp [Loc.addr, hl])⟩⟩

theorem ok_buildSlice {t : TypeId} {len : Nat} {ps qs : List (Nat × Value)} {g : GN} (s : HSim P ρ h w.heap) (k : PRs ρ ps qs) (e : gbuildSlice P t len ps h = some g) :
    OpOK P ρ h w ((do let x ← Instr.buildSlice t len qs.toArray; pure (.value x) : Sem Next).run P w) g := by
  unfold gbuildSlice at e
  cases he : elOf P t with
  | none => simp [he] at e
  | some el =>
    simp only [he, Option.bind_some] at e
    cases hn : szOf P el with
    | none => simp [hn] at e
    | some n =>
      simp only [hn, Option.bind_some] at e
      split at e
      case isFalse => cases e
      rename_i hb
      cases hz : zeroOf P el with
      | none => simp [hz] at e
      | some z =>
        simp only [hz, Option.bind_some] at e
        split at e
        case isFalse => cases e
        rename_i hzl
        cases hg : glay (fun i => some (i * n, n)) (repeats (vcells z) len) ps with
        | none => simp [hg] at e
        | some c =>
          simp only [hg, Option.map_some, Option.some.injEq] at e
          subst e
          obtain ⟨rz, pz⟩ := run_zeroValue_ (w := w) hz
          have kz := VR.cells (VR.of_plain (ρ := ρ) z pz)
          obtain ⟨r', e1, e2⟩ := fill_lay hg k (repeats_VRs kz len)
          have hzs : z.cells.size = n := by rw [← Array.length_toList, vcells_eq, hzl]
          have hrep : (Array.range (len * n)).map (fun i => z.cells[i % z.cells.size]!) = (repeats (vcells z) len).toArray := by
            have := range_repeats z.cells (by omega) len
            rw [vcells_eq, hzs] at this; rw [hzs]; exact this
          have hu := elOf_some he
          have hlen : len < VH := by
            have : len ≤ len * n := Nat.le_mul_of_pos_right _ hb.2
            unfold VH; omega
          have hrun : (Instr.buildSlice t len qs.toArray).run P w = .ok (.slice (some ⟨w.heap.size, 0, none⟩) len len) { w with heap := w.heap.push (.cells r'.toArray el) } := by
            have hz0 : (if len * n = 0 then (pure #[] : Sem (Array Value)) else do pure (← zeroValue el).cells).run P w = .ok (if len * n = 0 then #[] else z.cells) w := by
              split <;> simp [rz]
            simp only [Instr.buildSlice, Sem.run_bind, run_underlying_ hu, Result.andThen_ok, run_sizeOf_ hn]
            rw [if_neg (by omega)]
            by_cases h0 : len * n = 0
            · have hr0 : repeats (vcells z) len = [] := by
                have := repeats_len (vcells z) len
                rw [hzl, h0] at this
                exact List.length_eq_zero_iff.1 this
              rw [hr0] at e1
              have hx : (Array.map (fun _ => (default : Value)) (Array.range 0)) = #[] := Array.eq_empty_of_size_eq_zero (by simp)
              simp [h0, newRow]
              rw [hx, e1]
              simp
            · have e1' := e1
              rw [← hrep] at e1'
              simp [h0, rz, newRow]
              rw [e1']
              simp
          refine .inl ⟨_, _, _, by simp only [Sem.run_bind, hrun, Result.andThen_ok]; rfl, Post.cells s e2, slice_new ⟨w.heap.size, 0, 0⟩ rfl hlen (Nat.le_refl _)⟩

theorem ok_makeSlice {t : TypeId} {l l' c c' : Value} {g : GN} (s : HSim P ρ h w.heap) (kl : VR ρ l l') (kc : VR ρ c c') (e : gmakeSlice P t l c h = some g) :
    OpOK P ρ h w ((do let x ← Instr.makeSlice t l' c'; pure (.value x) : Sem Next).run P w) g := by
  unfold gmakeSlice at e
  cases he : elOf P t with
  | none => simp [he] at e
  | some el =>
    simp only [he, Option.bind_some] at e
    cases hi : P.info? el with
    | none => simp [hi] at e
    | some i =>
      simp only [hi, Option.bind_some] at e
      cases hl : asI l with
      | none => simp [hl] at e
      | some ln =>
        simp only [hl, Option.bind_some] at e
        cases hc : asI c with
        | none => simp [hc] at e
        | some cn =>
          simp only [hc, Option.bind_some] at e
          cases hz : zeroOf P el with
          | none => simp [hz] at e
          | some z =>
            simp only [hz, Option.bind_some] at e
            split at e
            case isFalse => cases e
            rename_i hb
            cases e
            obtain ⟨k1, rfl⟩ := asI_some hl
            obtain ⟨k2, rfl⟩ := asI_some hc
            cases kl.int; cases kc.int
            obtain ⟨b1, b2, b3, b4, b5, b6⟩ := hb
            obtain ⟨rz, pz⟩ := run_zeroValue_ (w := w) hz
            have kz := VR.cells (VR.of_plain (ρ := ρ) z pz)
            have hzs : z.cells.size = i.size := by rw [← Array.length_toList, vcells_eq, b6]
            have hu := elOf_some he
            have hsz : szOf P el = some i.size := by simp [szOf, hi]
            have hrep : (Array.range (cn.toNat * i.size)).map (fun j => z.cells[j % z.cells.size]!) = (repeats (vcells z) cn.toNat).toArray := by
              have := range_repeats z.cells (by omega) cn.toNat
              rw [vcells_eq, hzs] at this; rw [hzs]; exact this
            have wl : IntKind.i64.wrap ln = ln := by unfold IntKind.wrap; simp [IntKind.bits, IntKind.signed]; omega
            have wc : IntKind.i64.wrap cn = cn := by unfold IntKind.wrap; simp [IntKind.bits, IntKind.signed]; omega
            have hbytes : (i.bytes : Int) * cn ≤ 65536 * 4294967296 := by
              have : (i.bytes : Int) ≤ 65536 := by omega
              exact Int.mul_le_mul this b3 (by omega) (by omega)
            have hbn : ¬ ((2 : Int) ^ 48 < (i.bytes : Int) * cn) := by omega
            have hrun : (Instr.makeSlice t (.int k1 ln) (.int k2 cn)).run P w = .ok (.slice (some ⟨w.heap.size, 0, none⟩) ln.toNat cn.toNat) { w with heap := w.heap.push (.cells (repeats (vcells z) cn.toNat).toArray el) } := by
              simp only [Instr.makeSlice, Sem.run_bind, run_underlying_ hu, Result.andThen_ok, asInt, asIntOf, Sem.run_pure, run_typeInfo_ hi, wl, wc]
              rw [if_neg (by simp; omega)]
              by_cases h0 : cn.toNat * i.size = 0
              · have hr0 : repeats (vcells z) cn.toNat = [] := by
                  have := repeats_len (vcells z) cn.toNat
                  rw [b6, h0] at this
                  exact List.length_eq_zero_iff.1 this
                have hx : (Array.map (fun _ => (default : Value)) (Array.range 0)) = #[] := Array.eq_empty_of_size_eq_zero (by simp)
                simp [run_sizeOf_ hsz, h0, hr0, newRow]
                rw [hx]
              · simp [run_sizeOf_ hsz, h0, rz, newRow, hrep]
            refine .inl ⟨_, _, _, by simp only [Sem.run_bind, hrun, Result.andThen_ok]; rfl, Post.cells s (repeats_VRs kz _), slice_new ⟨w.heap.size, 0, 0⟩ rfl ?_ (by omega)⟩
            unfold VH; omega
end Go.Gh
