/- The card CallNewsCardSaid of vistalaw15.CallNews is proved: for every id, life and settings the law returns true and its arguments read as they did. Conditions: the two listed tables of unicode/utf8 read as the program's text lays them (the card's tie); tables' owner text is a pruned copy; the library's bodyless functions are the model's own. -/
import Derived.Test.YtloflflapneheaaGreatDoorGhZ4
import Derived.Test.YtloflflapneheaaGreatDoorCards
import Derived.Test.YtloflflapneheaaGreatDoorTie
import Derived.ProofKit
import Derived.OpenShut
import Derived.Deep.DeepHandedRow
import Derived.Lib.LaidTab
set_option linter.unusedSectionVars false
set_option linter.unusedVariables false
set_option linter.unusedSimpArgs false
namespace Go.Proofs.YtloflflapneheaaGreatDoor.CallNews
open Go.ChangeShapes Go.WideShapes Go.ChangeAt Go.RowKit
set_option maxRecDepth 100000

theorem own : ownKnob Tryz.prog.godebug = none := by kernel_rfl
theorem cells23 : Tryz.prog.cellsOf 23 = 7 := by kernel_rfl
theorem cells3 : Tryz.prog.cellsOf 3 = 1 := by kernel_rfl

theorem list7 {l : List Value} (h : l.length = 7) : ∃ a b c d e f g, l = [a, b, c, d, e, f, g] := by
  match l, h with
  | [a, b, c, d, e, f, g], _ => exact ⟨a, b, c, d, e, f, g, rfl⟩
theorem list7' {α : Type} {l : List α} (h : l.length = 7) : ∃ a b c d e f g, l = [a, b, c, d, e, f, g] := by
  match l, h with
  | [a, b, c, d, e, f, g], _ => exact ⟨a, b, c, d, e, f, g, rfl⟩

section
variable {H : Type} {enc : TypeId × Value → H} {w : World} {base : Nat} {sp : Nat → Bool} {held : Bool} {v : Value} {d : DataW H} {p : List MemPlace}
/-- the settings: seven integers; they read the same wherever -/
theorem open23 {r : Reach} {b0 : Nat} (hv : Value.okWide Tryz.prog w r b0 23 v) (h : DataW.Trod enc Tryz.prog w base sp held 23 v d p) :
    ∃ a0 a1 a2 a3 a4 a5 a6 : Int, v = .agg #[.int .i64 a0, .int .i64 a1, .int .i64 a2, .int .i64 a3, .int .i64 a4, .int .i64 a5, .int .i64 a6] ∧ p = [] ∧
      ∀ (w' : World) (base' : Nat) (sp' : Nat → Bool) (held' : Bool), DataW.Trod enc Tryz.prog w' base' sp' held' 23 v d [] := by
  obtain ⟨cs, rfl, hsz⟩ := okWide_struct Tryz.underlying23 hv
  obtain ⟨c0, c1, c2, c3, c4, c5, c6, hcs⟩ := list7 (Array.length_toList.trans (hsz.trans cells23))
  obtain rfl : cs = #[c0, c1, c2, c3, c4, c5, c6] := Array.ext' hcs
  obtain ⟨fuel, hf⟩ := h
  obtain ⟨xs, n, _, hx, hl, hlen, hfs⟩ := DataW.trod_struct Tryz.underlying23 hf
  obtain ⟨y0, y1, y2, y3, y4, y5, y6, rfl⟩ := list7' (show xs.length = 7 from hlen)
  have k : ∀ (i : Nat) (c : Value) (y : DataW H × List MemPlace) (t : List Value), t = [c] → DataW.trod enc Tryz.prog w base sp held n 3 t = some y → ∃ a, c = .int .i64 a ∧ y = (.lit (.int .i64 a), []) ∧ (Lit.int .i64 a).wf = true := by
    intro i c y t ht h
    obtain ⟨a, e1, e2, e3⟩ := DataW.trod_int Tryz.underlying3 h
    rw [ht] at e1
    exact ⟨a, by simpa using e1, e2, e3⟩
  obtain ⟨a0, rfl, rfl, w0⟩ := k 0 c0 y0 _ (by simp [cells3, Value.cells]) (hfs 0 _ rfl)
  obtain ⟨a1, rfl, rfl, w1⟩ := k 1 c1 y1 _ (by simp [cells3, Value.cells]) (hfs 1 _ rfl)
  obtain ⟨a2, rfl, rfl, w2⟩ := k 2 c2 y2 _ (by simp [cells3, Value.cells]) (hfs 2 _ rfl)
  obtain ⟨a3, rfl, rfl, w3⟩ := k 3 c3 y3 _ (by simp [cells3, Value.cells]) (hfs 3 _ rfl)
  obtain ⟨a4, rfl, rfl, w4⟩ := k 4 c4 y4 _ (by simp [cells3, Value.cells]) (hfs 4 _ rfl)
  obtain ⟨a5, rfl, rfl, w5⟩ := k 5 c5 y5 _ (by simp [cells3, Value.cells]) (hfs 5 _ rfl)
  obtain ⟨a6, rfl, rfl, w6⟩ := k 6 c6 y6 _ (by simp [cells3, Value.cells]) (hfs 6 _ rfl)
  simp only [Prod.mk.injEq] at hx
  obtain ⟨rfl, rfl⟩ := hx
  refine ⟨a0, a1, a2, a3, a4, a5, a6, rfl, rfl, fun w' base' sp' held' => ?_⟩
  have t3 : ∀ a : Int, (Lit.int .i64 a).wf = true → DataW.trod enc Tryz.prog w' base' sp' held' 1 3 [.int .i64 a] = some (.lit (.int .i64 a), []) := fun a ha => trod_int_mk 0 Tryz.underlying3 ha
  have := trod_struct_mk (enc := enc) (w := w') (base := base') (spare := sp') (held := held') (n := 1) (cs := [.int .i64 a0, .int .i64 a1, .int .i64 a2, .int .i64 a3, .int .i64 a4, .int .i64 a5, .int .i64 a6])
    (xs := [(.lit (.int .i64 a0), []), (.lit (.int .i64 a1), []), (.lit (.int .i64 a2), []), (.lit (.int .i64 a3), []), (.lit (.int .i64 a4), []), (.lit (.int .i64 a5), []), (.lit (.int .i64 a6), [])])
    Tryz.underlying23 (by simp [cells23]) (by simp [cells3, t3 _ w0, t3 _ w1, t3 _ w2, t3 _ w3, t3 _ w4, t3 _ w5, t3 _ w6])
  exact ⟨2, by simpa [Value.cells] using this⟩
end

/-- what stood before stands -/
theorem grown {w w' : World} (ho : w'.os = w.os) (hp : w'.output = w.output) (hk : ∀ k, k < w.heap.size → w'.heap[k]? = w.heap[k]?) : w.keptBut w' (fun _ => False) := by
  refine ⟨ho, hp, fun i hi => ?_⟩
  rw [hk i hi]
  cases w.heap[i]? with
  | none => rfl
  | some o => cases o <;> simp


/-- WHAT THE WALK GIVES -/
theorem contract (H : Type) (enc : TypeId × Value → H) (W : World) (base : Nat) (args : Array Value) (ds gs : List (DataW H)) (before : List MemPlace)
    (hval : ∀ (j : Nat) t v, Tryz.f3.params[j]? = some t → args[j]? = some v → Value.okWide Tryz.prog W .any base t v)
    (hW : DataW.Whole enc Tryz.prog Tryz.f3.params.toList Rows.callNewsSpec.vars false W args.toList ds gs before) :
    Calls Tryz.prog 3 args W fun e W' => ∃ v, e = .returned v ∧ Rows.callNewsSpec.post enc Tryz.prog Tryz.f3 false true false false W args v W' := by
  have hW' := hW
  obtain ⟨p, q, hA0, hV, rfl, hfz, hnd⟩ := hW
  have hA : DataW.TrodAll enc Tryz.prog W 0 (fun _ => true) true Tryz.f3.params.toList args.toList ds p := hA0
  rw [Tryz.params3] at hA hval
  obtain ⟨v0, vs0, d0, ds0, p0, q0, hargs, rfl, rfl, h0, r0⟩ := trodAll_cons hA
  obtain ⟨v1, vs1, d1, ds1, p1, q1, rfl, rfl, rfl, h1, r1⟩ := trodAll_cons r0
  obtain ⟨v2, vs2, d2, ds2, p2, q2, rfl, rfl, rfl, h2, r2⟩ := trodAll_cons r1
  obtain ⟨rfl, rfl, rfl⟩ := trodAll_nil r2
  obtain rfl : args = #[v0, v1, v2] := Array.ext' hargs
  obtain ⟨rfl, rfl⟩ := trodVars_none hV
  obtain ⟨id, rfl, rfl, rfl, w0⟩ := open_int Tryz.underlying3 (hval 0 3 v0 rfl rfl) h0
  obtain ⟨life, rfl, rfl, rfl, w1⟩ := open_int Tryz.underlying3 (hval 1 3 v1 rfl rfl) h1
  obtain ⟨a0, a1, a2, a3, a4, a5, a6, rfl, rfl, h23⟩ := open23 (hval 2 23 v2 rfl rfl) h2
  clear hA0 hval
  simp only [List.append_nil] at hW'
  refine (Gh.callNews_walk id life a0 a1 a2 a3 a4 a5 a6 W).mono fun e W' he => ?_
  cases e with
  | panicked ch => exact he.elim
  | outgrown => exact he.elim
  | returned v =>
    obtain ⟨rfl, ho, hp, _, _, hf, hk⟩ := he
    refine ⟨_, rfl, post_of_same (pa := []) (pv := []) hW' (fun _ _ _ => trodAll_cons_mk (shut_bool Tryz.underlying4 _) trodAll_mk0)
      (fun _ _ => trodAll_cons_mk (shut_int Tryz.underlying3 w0) (trodAll_cons_mk (shut_int Tryz.underlying3 w1) (trodAll_cons_mk (h23 _ _ _ _) trodAll_mk0))) (fun _ _ => rfl) rfl
      (World.keptBut_mono (fun _ f => f.elim) (grown ho hp hk)) hf (ok_one (by kernel_rfl) rfl (okWide_bool_mk Tryz.underlying4 _))⟩

/-- a table's cells -/
def flat : DataW Unit → List Value
  | .lit (.int k n) => [.int k n]
  | .agg l => flats l
  | _ => []
where flats : List (DataW Unit) → List Value
  | [] => []
  | d :: r => flat d ++ flats r
noncomputable def lay (b : Nat) (l : List Value) (w : World) : World :=
  { w with heap := w.heap.modify b fun
      | .cells _ t frozen => .cells l.toArray t frozen
      | o => o }
/-- A WORLD FOR THE WITNESS: the settled one, the two tables laid -/
noncomputable def laidWorld (os : Os) : World := lay 2 (flat Rows.laid_unicode_utf8_first) (lay 3 (flat Rows.laid_unicode_utf8_acceptRanges) (World.holding Tryz.prog os ⟨#[], #[], []⟩))
abbrev zeros : Array Value := #[.int .i64 0, .int .i64 0, .agg #[.int .i64 0, .int .i64 0, .int .i64 0, .int .i64 0, .int .i64 0, .int .i64 0, .int .i64 0]]

theorem laid_met (os : Os) : laidMet Tryz.prog Rows.callNewsRow.laid ((laidWorld os).forCall (fun _ _ => 0) ⟨#[], zeros, []⟩).memory :=
  laidMet_of_run' 8 (by kernel_rfl) (by kernel_rfl)
theorem reads (os : Os) {H : Type} (enc : TypeId × Value → H) : ∃ places, DataW.whole enc Tryz.prog ((laidWorld os).forCall (fun _ _ => 0) ⟨#[], zeros, []⟩).memory Tryz.f3.params.toList Rows.callNewsSpec.vars false zeros.toList 8 =
    some ([.lit (.int .i64 0), .lit (.int .i64 0), .agg [.lit (.int .i64 0), .lit (.int .i64 0), .lit (.int .i64 0), .lit (.int .i64 0), .lit (.int .i64 0), .lit (.int .i64 0), .lit (.int .i64 0)]], [], places) :=
  ⟨[], by kernel_rfl⟩

theorem lifted (os : Os) (started : os.Started) (H : Type) (enc : TypeId × Value → H) (F : Stop.Interp) :
    ReturnsInHanded {} Tryz.checked os 3 .any ((OpenSpec.ofChange Rows.callNewsSpec).preRow enc Tryz.prog Tryz.f3 Rows.callNewsRow.domain false Rows.callNewsRow.laid) (((OpenSpec.ofChange Rows.callNewsSpec).at F).post enc Tryz.prog Tryz.f3 false true false false) := by
  obtain ⟨places, hx⟩ := reads os enc
  refine returnsInHanded_of_row (C := Tryz.checked) (s := OpenSpec.ofChange Rows.callNewsSpec) own started (by kernel_rfl) Tryz.func3
    (witness_row_at (enc := enc) (C := Tryz.checked) false (laidWorld os) zeros rfl (by kernel_rfl) (by kernel_rfl) (by kernel_rfl)
      (OpenSpec.preRow_of_cond 8 hx (by kernel_rfl) (fun k hk => by cases hk) (by kernel_rfl) (laid_met os))) ?_
  intro W base args ds gs before hval hW _ _ _ _ _ _
  exact contract H enc W base args ds gs before hval hW

theorem said : Rows.CallNewsSaid :=
  OpenClaim.holds_of_cond 3 Tryz.f3 rfl rfl rfl rfl rfl rfl rfl ⟨rfl, rfl, rfl, rfl, rfl⟩ rfl rfl rfl rfl rfl (by kernel_rfl) Tryz.func3 (by kernel_rfl)
    (of_decide_eq_true (by kernel_rfl)) (by unfold Func.isWrapper; first | (rw [if_pos (by decide +kernel)]; kernel_rfl) | (rw [if_neg (by decide +kernel)]; exact ⟨rfl, rfl⟩))
    (fun os started H enc _ F => by rw [OpenClaim.pre_eq_preRow]; exact lifted os started H enc F)

/-- No parameter wants a stand-in; the program's own looks are off -/
theorem plain (f : FuncId) (fn : Func) (hf : Tryz.pinned.checked.prog.funcNamed "vista/vistalaw15.CallNews" = some f) (hfn : Tryz.pinned.checked.prog.funcs[f]? = some fn) :
    false = Tryz.pinned.checked.prog.looks [] ∧ ∀ (j : Nat) t, fn.params[j]? = some t → Tryz.pinned.checked.prog.wantsStandIn t = false := by
  obtain rfl : f = 3 := Option.some.inj ((show Tryz.prog.funcNamed "vista/vistalaw15.CallNews" = some 3 by kernel_rfl).symm.trans hf) |>.symm
  obtain rfl : fn = Tryz.f3 := (Option.some.inj (Tryz.func3.symm.trans hfn)).symm
  refine ⟨by kernel_rfl, fun j t ht => ?_⟩
  rw [Tryz.params3] at ht
  have hm : t ∈ [3, 3, 23] := by simpa using Array.mem_of_getElem? ht
  have hall : ([3, 3, 23].all fun u => !Tryz.prog.wantsStandIn u) = true := by kernel_rfl
  exact (show Tryz.prog.wantsStandIn t = false by simpa using List.all_eq_true.1 hall t hm)

/-- ████ THE CARD ████ -/
theorem card : Rows.CallNewsCardSaid :=
  Claim7.holds_tied_plain_at .later [] _ _ _ _ said (fun _ h => by cases h) (by kernel_rfl) (fun _ h => by cases h) callNews_row_tie rfl ⟨rfl, rfl⟩ (by kernel_rfl) rfl plain (by kernel_rfl)
#print axioms card
end Go.Proofs.YtloflflapneheaaGreatDoor.CallNews
