/- The ghost machine's operations are the model's (10): one for all. -/
import Derived.Test.YtloflflapneheaaGreatDoorGhO
set_option linter.unusedSectionVars false
set_option linter.unusedVariables false
set_option linter.unusedSimpArgs false
namespace Go.Gh
variable [Sym]
variable {P : Program} {ρ : Ren} {h : Heap} {w : World}

theorem parts_map {re : Operand → Value} {ps : Array (Nat × Operand)} : (ps.map fun (i, x) => (i, re x)) = (ps.toList.map fun x => (x.1, re x.2)).toArray := by
  apply Array.ext'; simp

theorem gop_sound {o : Oper} {ev : Ev} {re : Operand → Value} {g : GN} (s : HSim P ρ h w.heap) (hev : EvOK ρ ev re) (e : gop P o ev h = some g) :
    OpOK P ρ h w ((execOp re o).run P w) g := by
  have hpure : gpure P o ev h = some g → OpOK P ρ h w ((execOp re o).run P w) g := ok_pure s hev
  cases hop : o.op with
  | move x =>
    simp only [gop, hop] at e; simp only [execOp, hop]
    obtain ⟨v, hv, rfl⟩ := map_some_eq e
    exact OpOK.same s rfl (hev _ _ hv)
  | assign x =>
    simp only [gop, hop] at e; simp only [execOp, hop]
    obtain ⟨v, hv, rfl⟩ := map_some_eq e
    exact OpOK.same s rfl (hev _ _ hv)
  | pick c a b =>
    simp only [gop, hop] at e; simp only [execOp, hop]
    obtain ⟨v, hv, e⟩ := bind_some_eq e
    split at e
    · rename_i t
      obtain ⟨u, hu, rfl⟩ := map_some_eq e
      have hc : re c = .bool t := by simpa [VR] using hev _ _ hv
      refine OpOK.same s (v' := re (bif t then a else b)) ?_ (hev _ _ hu)
      cases t <;> simp [hc, asBool]
    · cases e
  | alloc t =>
    simp only [gop, hop] at e; simp only [execOp, hop]
    obtain ⟨z, hz, rfl⟩ := map_some_eq e
    exact ok_alloc s hz
  | box t x =>
    simp only [gop, hop] at e; simp only [execOp, hop]
    obtain ⟨z, hz, rfl⟩ := map_some_eq e
    exact ok_box s (hev _ _ hz)
  | build t ps =>
    simp only [gop, hop] at e; simp only [execOp, hop, parts_map]
    obtain ⟨l, hl, e⟩ := bind_some_eq e
    obtain ⟨v, hv, rfl⟩ := map_some_eq e
    exact ok_build s (evParts_ok hev hl) hv
  | buildSlice t n ps =>
    simp only [gop, hop] at e; simp only [execOp, hop, parts_map]
    obtain ⟨l, hl, e⟩ := bind_some_eq e
    exact ok_buildSlice s (evParts_ok hev hl) e
  | load t x =>
    simp only [gop, hop] at e; simp only [execOp, hop]
    obtain ⟨a, ha, e⟩ := bind_some_eq e
    obtain ⟨v, hv, rfl⟩ := map_some_eq e
    exact ok_load s (hev _ _ ha) hv
  | store t x y =>
    simp only [gop, hop] at e; simp only [execOp, hop]
    obtain ⟨a, ha, e⟩ := bind_some_eq e
    obtain ⟨v, hv, e⟩ := bind_some_eq e
    obtain ⟨h', hh, rfl⟩ := map_some_eq e
    exact ok_store s (hev _ _ ha) (hev _ _ hv) hh
  | nilCheck x =>
    simp only [gop, hop] at e; simp only [execOp, hop]
    obtain ⟨a, ha, e⟩ := bind_some_eq e
    split at e
    · cases e
      have k := hev _ _ ha
      have k' := k
      simp only [VR] at k'
      obtain ⟨l, h1, h2, h3⟩ := k'
      rw [h3]
      rw [h3] at k
      exact OpOK.same s rfl k
    · cases e
  | binOp op t x y ty =>
    simp only [gop, hop] at e
    obtain ⟨a, ha, e⟩ := bind_some_eq e
    obtain ⟨b, hb, e⟩ := bind_some_eq e
    split at e
    · exact hpure e
    · have ka := hev _ _ ha
      have kb := hev _ _ hb
      have hex : execOp re o = (do let v ← (do eqGuard op t x y (re x) (re y); binOp op t (re x) (re y) : Sem Value); pure (.value v) : Sem Next) := by
        simp only [execOp, hop]
      rw [hex]
      split at e
      · obtain ⟨r, hr, rfl⟩ := map_some_eq e
        obtain ⟨h1, h2, h3, h4⟩ := gisNil_ok (w := w) ka kb hr
        refine OpOK.same s (v' := .bool r) ?_ (by simp [VR])
        simp [h2, h3, h1]
      · obtain ⟨r, hr, rfl⟩ := map_some_eq e
        obtain ⟨h1, h2, h3, h4⟩ := gisNil_ok (w := w) ka kb hr
        refine OpOK.same s (v' := .bool (!r)) ?_ (by simp [VR])
        simp [h2, h4, h1]
      · obtain ⟨r, hr, rfl⟩ := map_some_eq e
        obtain ⟨h1, h2, h3⟩ := Sym.ok _ _ _ _ hr
        have h4 := h3 _ _ ka.symRel kb.symRel P t w
        refine OpOK.same s (v' := .bool r) ?_ (by simp [VR])
        have hg : (eqGuard op t x y (re x) (re y)).run P w = .ok () w := by
          cases op <;> first | rfl | exact absurd rfl h1 | exact absurd rfl h2
        simp [hg, h4]
  | unOp a b c => simp only [gop, hop] at e; exact hpure e
  | convert a b c => simp only [gop, hop] at e; exact hpure e
  | makeInterface t x =>
    simp only [gop, hop] at e; simp only [execOp, hop]
    obtain ⟨v, hv, e⟩ := bind_some_eq e
    split at e
    · cases e
    · rename_i d hu hne
      cases e
      refine OpOK.same s (v' := .iface t (re x)) ?_ (by simp only [VR]; exact ⟨_, rfl, hev _ _ hv⟩)
      simp only [Instr.makeInterface, Sem.run_bind, run_underlying_ hne, Result.andThen_ok]
      cases d <;> first | rfl | exact absurd rfl (hu _)
    · cases e
  | makeFunc f a b =>
    simp only [gop, hop] at e; simp only [execOp, hop]
    split at e
    · obtain ⟨l, hl, e⟩ := bind_some_eq e
      obtain ⟨k, hk, rfl⟩ := map_some_eq e
      refine OpOK.same s (v' := .func _ (a.map re) (b.map re)) rfl (VR.func.2 ⟨_, _, ?_, evAll_ok hev hl, evAll_ok hev hk⟩)
      rw [array1 rfl, array1 rfl]
    · cases e
  | makeMap t r =>
    simp only [gop, hop] at e; simp only [execOp, hop]
    cases r with
    | none => exact ok_makeMap (r := none) s rfl e
    | some x =>
      simp only at e
      obtain ⟨v, hv, e⟩ := bind_some_eq e
      exact ok_makeMap (r := some v) s ⟨_, rfl, hev _ _ hv⟩ e
  | makeSlice t l c =>
    simp only [gop, hop] at e; simp only [execOp, hop]
    obtain ⟨v, hv, e⟩ := bind_some_eq e
    obtain ⟨u, hu, e⟩ := bind_some_eq e
    exact ok_makeSlice s (hev _ _ hv) (hev _ _ hu) e
  | slice t x lo hi mx =>
    simp only [gop, hop] at e
    obtain ⟨v, hv, e⟩ := bind_some_eq e
    split at e
    · exact hpure e
    · simp only [execOp, hop]
      obtain ⟨a, ha, e⟩ := bind_some_eq e
      obtain ⟨b, hb, e⟩ := bind_some_eq e
      obtain ⟨c, hc, e⟩ := bind_some_eq e
      obtain ⟨u, hu, rfl⟩ := map_some_eq e
      exact ok_slice s (hev _ _ hv) (toInts_ok hev ha) (toInts_ok hev hb) (toInts_ok hev hc) hu
  | fieldAddr t x i =>
    simp only [gop, hop] at e; simp only [execOp, hop]
    obtain ⟨v, hv, e⟩ := bind_some_eq e
    obtain ⟨u, hu, rfl⟩ := map_some_eq e
    exact ok_fieldAddr s (hev _ _ hv) hu
  | field t x i =>
    simp only [gop, hop] at e; simp only [execOp, hop]
    obtain ⟨v, hv, e⟩ := bind_some_eq e
    obtain ⟨u, hu, rfl⟩ := map_some_eq e
    exact ok_field s (hev _ _ hv) hu
  | indexAddr t x i =>
    simp only [gop, hop] at e; simp only [execOp, hop]
    obtain ⟨v, hv, e⟩ := bind_some_eq e
    obtain ⟨k, hk, e⟩ := bind_some_eq e
    obtain ⟨u, hu, rfl⟩ := map_some_eq e
    exact ok_indexAddr s (hev _ _ hv) (hev _ _ hk) hu
  | index t x i =>
    simp only [gop, hop] at e
    obtain ⟨v, hv, e⟩ := bind_some_eq e
    obtain ⟨k, hk, e⟩ := bind_some_eq e
    split at e
    · exact hpure e
    · simp only [execOp, hop]
      obtain ⟨u, hu, rfl⟩ := map_some_eq e
      exact ok_index s (hev _ _ hv) (hev _ _ hk) hu
  | lookup t m k ok =>
    simp only [gop, hop] at e; simp only [execOp, hop]
    obtain ⟨v, hv, e⟩ := bind_some_eq e
    obtain ⟨k, hk, e⟩ := bind_some_eq e
    obtain ⟨u, hu, rfl⟩ := map_some_eq e
    exact ok_lookup s (hev _ _ hv) (hev _ _ hk) hu
  | mapUpdate t m k x =>
    simp only [gop, hop] at e; simp only [execOp, hop]
    obtain ⟨v, hv, e⟩ := bind_some_eq e
    obtain ⟨k, hk, e⟩ := bind_some_eq e
    obtain ⟨x, hx, e⟩ := bind_some_eq e
    obtain ⟨u, hu, rfl⟩ := map_some_eq e
    exact ok_update s (hev _ _ hv) (hev _ _ hk) (hev _ _ hx) hu
  | insert t m k x =>
    simp only [gop, hop] at e; simp only [execOp, hop]
    obtain ⟨v, hv, e⟩ := bind_some_eq e
    obtain ⟨k, hk, e⟩ := bind_some_eq e
    obtain ⟨x, hx, e⟩ := bind_some_eq e
    obtain ⟨u, hu, rfl⟩ := map_some_eq e
    exact ok_update s (hev _ _ hv) (hev _ _ hk) (hev _ _ hx) hu
  | range t x =>
    simp only [gop, hop] at e; simp only [execOp, hop]
    obtain ⟨v, hv, e⟩ := bind_some_eq e
    exact ok_range s (hev _ _ hv) e
  | next it str =>
    simp only [gop, hop] at e; simp only [execOp, hop]
    obtain ⟨v, hv, e⟩ := bind_some_eq e
    exact ok_next s (hev _ _ hv) e
  | entry it =>
    simp only [gop, hop] at e; simp only [execOp, hop]
    obtain ⟨v, hv, e⟩ := bind_some_eq e
    obtain ⟨u, hu, rfl⟩ := map_some_eq e
    exact ok_entry s (hev _ _ hv) hu
  | extract t i =>
    simp only [gop, hop] at e; simp only [execOp, hop]
    obtain ⟨v, hv, e⟩ := bind_some_eq e
    exact ok_extract s e (hev _ _ hv)
  | call c =>
    simp only [gop, hop] at e
    obtain ⟨args, ha, e⟩ := bind_some_eq e
    have ka := evAll_ok hev ha
    split at e
    · rename_i f hc
      obtain ⟨fv, hf, e⟩ := bind_some_eq e
      have hex : execOp re o = (do let d ← Deferred.ofValue (re f) (c.args.toList.map re).toArray; invoke d.target d.args : Sem Next) := by
        have : execOp re o = (do let d ← resolve re c o.type; invoke d.target d.args : Sem Next) := by simp only [execOp, hop]
        rw [this]; simp only [resolve, hc, array1 rfl]
      rw [hex]
      exact callv_ok (hev _ _ hf) ka e
    · rename_i r m hc
      obtain ⟨rv, hf, e⟩ := bind_some_eq e
      have hex : execOp re o = (invoke (.fn (.method m) #[]) (#[re r] ++ (c.args.toList.map re).toArray) : Sem Next) := by
        have : execOp re o = (do let d ← resolve re c o.type; invoke d.target d.args : Sem Next) := by simp only [execOp, hop]
        rw [this]; simp only [resolve, hc, array1 rfl]; rfl
      rw [hex]
      exact invoke_ok (hev _ _ hf) ka e
    · rename_i b hc
      exact gbuiltin_ok s hev hop hc ka e
  | _ => simp only [gop, hop] at e; cases e
end Go.Gh
