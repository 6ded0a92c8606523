/- The ghost machine's operations are the model's (3): slices. -/
import Derived.Test.YtloflflapneheaaGreatDoorGhG
set_option linter.unusedSectionVars false
set_option linter.unusedVariables false
set_option linter.unusedSimpArgs false
namespace Go.Gh
variable [Sym]
variable {P : Program} {ρ : Ren} {h : Heap} {w : World}

def optInt : Option Int → Option Value → Prop
  | none, none => True
  | some n, some v => ∃ k, v = .int k n
  | _, _ => False

theorem run_sliceBound {v : Value} {k : IntKind} {n : Int} {y : Nat} {c : BoundsCode} (e : v = .int k n) (h0 : 0 ≤ n) (h1 : n ≤ y) : (Instr.sliceBound v y c).run P w = .ok n.toNat w := by
  subst e; simp [Instr.sliceBound, asIntOf, h0, h1]

/-- the bounds, with what is known of the capacity: 'B' for sure, 'cap' in fact -/
theorem run_bounds {isS : Bool} {len B cap capR y z m : Nat} {lo hi mx : Option Int} {lo' hi' mx' : Option Value} (kl : optInt lo lo') (kh : optInt hi hi') (km : optInt mx mx')
    (hB : B ≤ capR) (e : gbounds len B cap lo hi mx = some (y, z, m)) :
    (Instr.sliceBounds isS len capR lo' hi' mx').run P w = .ok (y, z, if mx.isSome then m else capR) w ∧ y ≤ z ∧ (mx = none → m = cap) ∧ (mx.isSome = true → z ≤ m ∧ m ≤ B) ∧ (mx = none → z ≤ max len B) := by
  unfold gbounds at e
  cases mx with
  | some mv =>
    obtain ⟨km', rfl⟩ : ∃ k, mx' = some (.int k mv) := by
      cases mx' <;> simp [optInt] at km
      obtain ⟨k, rfl⟩ := km; exact ⟨k, rfl⟩
    simp only at e
    by_cases c1 : 0 ≤ mv ∧ mv ≤ (B : Int)
    · rw [if_pos c1] at e; simp only at e
      cases hi with
      | none => simp at e
      | some hv =>
        obtain ⟨kh', rfl⟩ : ∃ k, hi' = some (.int k hv) := by
          cases hi' <;> simp [optInt] at kh
          obtain ⟨k, rfl⟩ := kh; exact ⟨k, rfl⟩
        simp only at e
        by_cases c2 : 0 ≤ hv ∧ hv ≤ (mv.toNat : Int)
        · rw [if_pos c2] at e; simp only at e
          cases lo with
          | none =>
            have : lo' = none := by cases lo' <;> simp_all [optInt]
            subst this
            simp only [Option.some.injEq, Prod.mk.injEq] at e
            obtain ⟨rfl, rfl, rfl⟩ := e
            refine ⟨?_, by omega, by simp, fun _ => ⟨by omega, by omega⟩, by simp⟩
            simp [Instr.sliceBounds, run_sliceBound (P := P) (w := w) rfl c1.1 (show mv ≤ (capR : Int) by omega), run_sliceBound (P := P) (w := w) rfl c2.1 c2.2]
          | some lv =>
            obtain ⟨kl', rfl⟩ : ∃ k, lo' = some (.int k lv) := by
              cases lo' <;> simp [optInt] at kl
              obtain ⟨k, rfl⟩ := kl; exact ⟨k, rfl⟩
            simp only at e
            by_cases c3 : 0 ≤ lv ∧ lv ≤ (hv.toNat : Int)
            · rw [if_pos c3] at e
              simp only [Option.some.injEq, Prod.mk.injEq] at e
              obtain ⟨rfl, rfl, rfl⟩ := e
              refine ⟨?_, by omega, by simp, fun _ => ⟨by omega, by omega⟩, by simp⟩
              simp [Instr.sliceBounds, run_sliceBound (P := P) (w := w) rfl c1.1 (show mv ≤ (capR : Int) by omega), run_sliceBound (P := P) (w := w) rfl c2.1 c2.2, run_sliceBound (P := P) (w := w) rfl c3.1 c3.2]
            · rw [if_neg c3] at e; cases e
        · rw [if_neg c2] at e; cases e
    · rw [if_neg c1] at e; cases e
  | none =>
    have : mx' = none := by cases mx' <;> simp_all [optInt]
    subst this
    simp only at e
    cases hi with
    | none =>
      have : hi' = none := by cases hi' <;> simp_all [optInt]
      subst this
      simp only at e
      cases lo with
      | none =>
        have : lo' = none := by cases lo' <;> simp_all [optInt]
        subst this
        simp only [Option.some.injEq, Prod.mk.injEq] at e
        obtain ⟨rfl, rfl, rfl⟩ := e
        exact ⟨by simp [Instr.sliceBounds], by omega, by simp, by simp, fun _ => by omega⟩
      | some lv =>
        obtain ⟨kl', rfl⟩ : ∃ k, lo' = some (.int k lv) := by
          cases lo' <;> simp [optInt] at kl
          obtain ⟨k, rfl⟩ := kl; exact ⟨k, rfl⟩
        simp only at e
        by_cases c3 : 0 ≤ lv ∧ lv ≤ (len : Int)
        · rw [if_pos c3] at e
          simp only [Option.some.injEq, Prod.mk.injEq] at e
          obtain ⟨rfl, rfl, rfl⟩ := e
          exact ⟨by simp [Instr.sliceBounds, run_sliceBound (P := P) (w := w) rfl c3.1 c3.2], by omega, by simp, by simp, fun _ => by omega⟩
        · rw [if_neg c3] at e; cases e
    | some hv =>
      obtain ⟨kh', rfl⟩ : ∃ k, hi' = some (.int k hv) := by
        cases hi' <;> simp [optInt] at kh
        obtain ⟨k, rfl⟩ := kh; exact ⟨k, rfl⟩
      simp only at e
      by_cases c2 : 0 ≤ hv ∧ hv ≤ (B : Int)
      · rw [if_pos c2] at e; simp only at e
        cases lo with
        | none =>
          have : lo' = none := by cases lo' <;> simp_all [optInt]
          subst this
          simp only [Option.some.injEq, Prod.mk.injEq] at e
          obtain ⟨rfl, rfl, rfl⟩ := e
          refine ⟨?_, by omega, by simp, by simp, fun _ => by omega⟩
          simp [Instr.sliceBounds, run_sliceBound (P := P) (w := w) rfl c2.1 (show hv ≤ (capR : Int) by omega)]
        | some lv =>
          obtain ⟨kl', rfl⟩ : ∃ k, lo' = some (.int k lv) := by
            cases lo' <;> simp [optInt] at kl
            obtain ⟨k, rfl⟩ := kl; exact ⟨k, rfl⟩
          simp only at e
          by_cases c3 : 0 ≤ lv ∧ lv ≤ (hv.toNat : Int)
          · rw [if_pos c3] at e
            simp only [Option.some.injEq, Prod.mk.injEq] at e
            obtain ⟨rfl, rfl, rfl⟩ := e
            refine ⟨?_, by omega, by simp, by simp, fun _ => by omega⟩
            simp [Instr.sliceBounds, run_sliceBound (P := P) (w := w) rfl c2.1 (show hv ≤ (capR : Int) by omega), run_sliceBound (P := P) (w := w) rfl c3.1 c3.2]
          · rw [if_neg c3] at e; cases e
      · rw [if_neg c2] at e; cases e

/-- a slice whose capacity is known -/
theorem VR.slice_ex {ρ : Ren} {a : Addr} {l : Loc} (hr : ρ a.block = some l) (hs : a.spot = none) {n c : Nat} (hc : c < VH) (hn : n ≤ c) : VR ρ (.slice (some a) n c) (.slice (some (l.addr a)) n c) := by
  simp only [VR]; exact ⟨l, _, _, hr, hs, rfl, .inl ⟨hc, rfl, hn, rfl, .inl rfl⟩⟩

/-- an open block: how far it goes for sure, and in fact -/
theorem sure_room (s : HSim P ρ h w.heap) {a : Addr} {l : Loc} {e : TypeId} {z n B cap capR : Nat} (hr : ρ a.block = some l) (hz : szOf P e = some z)
    (hB : sure h a e z n cap = some B) (hcap : capR + VC = cap + l.room) :
    (n ≠ 0 → B ≤ capR) ∧ (n = 0 → B = 0) ∧ cap ≤ VC ∧ a.off = (VC - cap) * z ∧ 0 < z ∧ ∃ c, h.get a.block = some (.cells c e .op) ∧ a.off ≤ c.length ∧ c.length ≤ l.room * z ∧
      (∃ C fz, w.heap[l.blk]? = some (.cells C e fz) ∧ C.size = l.sh + l.room * z) ∧ a.off + capR * z = l.room * z := by
  unfold sure at hB
  split at hB
  case h_2 => cases hB
  rename_i c e' hg
  split at hB
  case isFalse => cases hB
  rename_i hc
  obtain ⟨rfl, c1, c2, c3, c4⟩ := hc
  obtain ⟨C, fz, pre, mid, post, h1, h2, h3, h4, h5, h6⟩ := s.cells hg hr
  obtain ⟨ti, q1, q2, q3⟩ := h6 rfl
  have hz' : ti.size = z := by simpa [szOf, q1] using hz
  rw [hz'] at q3
  have hm := h4.length
  have hsz : C.size = pre.length + (mid.length + post.length) := by rw [← Array.length_toList, h2]; simp
  have hroom : a.off + capR * z = l.room * z := by
    have : l.room = capR + (VC - cap) := by omega
    rw [this, Nat.add_mul]; omega
  refine ⟨fun hn => ?_, fun hn => ?_, c1, c2, c4, c, hg, c3, by omega, ⟨C, fz, h1, q3⟩, hroom⟩
  · rw [if_neg hn] at hB; cases hB
    have : (c.length - a.off) ≤ capR * z := by omega
    exact Nat.div_le_of_le_mul (by rw [Nat.mul_comm]; exact this)
  · rw [if_pos hn] at hB; cases hB; rfl

theorem ite_block {c : Prop} [Decidable c] (a : Addr) (n : Nat) : (if c then a else a.add n).block = a.block := by
  split
  · rfl
  · exact add_block a n
theorem ite_spot {c : Prop} [Decidable c] {a : Addr} (e : a.spot = none) (n : Nat) : (if c then a else a.add n).spot = none := by
  split
  · exact e
  · exact add_spot e n
theorem ite_addr {c : Prop} [Decidable c] (l : Loc) {a : Addr} (e : a.spot = none) (n : Nat) : l.addr (if c then a else a.add n) = if c then l.addr a else (l.addr a).add n := by
  split
  · rfl
  · exact addr_add l e n

theorem run_slice_at {t el : TypeId} {z y z' m c' len : Nat} {a' : Addr} {lo' hi' mx' : Option Value} (hu : P.underlying t = some (.slice el)) (hz : szOf P el = some z)
    (r1 : (Instr.sliceBounds true len c' lo' hi' mx').run P w = .ok (y, z', m) w) :
    (do let x ← Instr.sliceAt t (.slice (some a') len c') lo' hi' mx'; pure (.value x) : Sem Next).run P w = .ok (.value (.slice (some (if m = y then a' else a'.add (y * z))) (z' - y) (m - y))) w := by
  by_cases hmy : m = y
  · simp [Instr.sliceAt, run_underlying_ hu, Instr.slice, r1, run_sizeOf_ hz, hmy]
  · simp [Instr.sliceAt, run_underlying_ hu, Instr.slice, r1, run_sizeOf_ hz, hmy]

theorem ok_slice {t : TypeId} {x x' v : Value} {lo hi mx : Option Int} {lo' hi' mx' : Option Value} (s : HSim P ρ h w.heap) (k : VR ρ x x') (kl : optInt lo lo') (kh : optInt hi hi') (km : optInt mx mx')
    (e : gslice P t x lo hi mx h = some v) :
    OpOK P ρ h w ((do let x ← Instr.sliceAt t x' lo' hi' mx'; pure (.value x) : Sem Next).run P w) (.val v h) := by
  unfold gslice at e
  split at e
  case h_3 => cases e
  · rename_i el a len cap hu
    cases hz : szOf P el with
    | none => simp [hz] at e
    | some z =>
      simp only [hz, Option.bind_some] at e
      split at e
      · cases e
      rename_i hz0
      simp only [VR] at k
      obtain ⟨l, a', c', hr, hsp, rfl, hc⟩ := k
      by_cases hcap : cap < VH
      · rw [if_pos hcap] at e
        have hex : c' = cap ∧ len ≤ cap ∧ a'.spot = none ∧ (a' = l.addr a ∨ (len = 0 ∧ cap = 0)) := by
          rcases hc with ⟨_, h1, h2, h3, h4⟩ | ⟨h1, _⟩ | ⟨h1, _⟩
          · exact ⟨h1, h2, h3, h4⟩
          · omega
          · omega
        obtain ⟨rfl, hlen, hsp', haddr⟩ := hex
        cases hb : gbounds len c' c' lo hi mx with
        | none => simp [hb] at e
        | some r =>
          obtain ⟨y, z', m⟩ := r
          simp only [hb, Option.map_some, Option.some.injEq] at e
          subst e
          obtain ⟨r1, r2, r3, r4, r5⟩ := run_bounds (P := P) (w := w) (isS := true) kl kh km (Nat.le_refl _) hb
          have hm : (if mx.isSome then m else c') = m := by
            cases mx with
            | none => simp [r3 rfl]
            | some _ => rfl
          rw [hm] at r1
          have hmle : m ≤ c' := by
            cases mx with
            | none => simp [r3 rfl]
            | some _ => exact (r4 rfl).2
          have hzm : z' ≤ m := by
            cases mx with
            | none => have := r5 rfl; have := r3 rfl; omega
            | some _ => exact (r4 rfl).1
          refine OpOK.same s (run_slice_at hu hz r1) ?_
          simp only [VR]
          refine ⟨l, _, _, by rw [ite_block]; exact hr, ite_spot hsp _, rfl, .inl ⟨by omega, rfl, by omega, ite_spot hsp' _, ?_⟩⟩
          rcases haddr with rfl | ⟨h1, h2⟩
          · exact .inl (ite_addr l hsp _).symm
          · right; omega
      · rw [if_neg hcap] at e
        cases hB : sure h a el z len cap with
        | none => simp [hB] at e
        | some B =>
          simp only [hB, Option.bind_some] at e
          cases hb : gbounds len B cap lo hi mx with
          | none => simp [hb] at e
          | some r =>
            obtain ⟨y, z', m⟩ := r
            simp only [hb, Option.bind_some] at e
            rcases hc with ⟨h1, _⟩ | ⟨hv, rfl, hcr, hlen⟩ | ⟨hv, h0, h1, hsp'⟩
            · omega
            · obtain ⟨g1, g2, _⟩ := sure_room s hr hz hB hcr
              have hBc : B ≤ c' := by
                by_cases hn : len = 0
                · rw [g2 hn]; omega
                · exact g1 hn
              obtain ⟨r1, r2, r3, r4, r5⟩ := run_bounds (P := P) (w := w) (isS := true) (capR := c') kl kh km hBc hb
              cases mx with
              | some mv =>
                simp only [Option.isSome_some, if_true] at r1 e
                split at e
                case isFalse => cases e
                rename_i hm
                cases e
                obtain ⟨q1, q2⟩ := r4 rfl
                refine OpOK.same s (run_slice_at hu hz r1) ?_
                simp only [VR]
                exact ⟨l, _, _, by rw [ite_block]; exact hr, ite_spot hsp _, rfl, .inl ⟨by omega, rfl, by omega, ite_spot rfl _, .inl (ite_addr l hsp _).symm⟩⟩
              | none =>
                simp only [Option.isSome_none, Bool.false_eq_true, if_false] at r1 e
                split at e
                case isFalse => cases e
                rename_i hm
                cases e
                have q := r5 rfl
                have q' := r3 rfl
                subst q'
                refine OpOK.same s (run_slice_at hu hz r1) ?_
                simp only [VR]
                by_cases hcy : c' = y
                · refine ⟨l, _, _, by rw [add_block]; exact hr, add_spot hsp _, rfl, .inr (.inr ⟨by omega, by omega, by omega, ite_spot rfl _⟩)⟩
                · refine ⟨l, _, _, by rw [add_block]; exact hr, add_spot hsp _, rfl, .inr (.inl ⟨by omega, ?_, by omega, by omega⟩)⟩
                  rw [if_neg hcy, addr_add l hsp]
            · have hB0 : B = 0 := by
                unfold sure at hB
                split at hB
                · split at hB
                  · simp at hB; exact hB.symm
                  · cases hB
                · cases hB
              subst hB0; subst h0; subst h1
              obtain ⟨r1, r2, r3, r4, r5⟩ := run_bounds (P := P) (w := w) (isS := true) (capR := 0) kl kh km (Nat.le_refl _) hb
              cases mx with
              | some mv =>
                simp only [Option.isSome_some, if_true] at r1 e
                split at e
                case isFalse => cases e
                rename_i hm
                cases e
                obtain ⟨q1, q2⟩ := r4 rfl
                refine OpOK.same s (run_slice_at hu hz r1) ?_
                simp only [VR]
                exact ⟨l, _, _, by rw [ite_block]; exact hr, ite_spot hsp _, rfl, .inl ⟨by omega, rfl, by omega, ite_spot hsp' _, .inr (by omega)⟩⟩
              | none =>
                simp only [Option.isSome_none, Bool.false_eq_true, if_false] at r1 e
                split at e
                case isFalse => cases e
                rename_i hm
                cases e
                have q := r5 rfl
                have q' := r3 rfl
                subst q'
                refine OpOK.same s (run_slice_at hu hz r1) ?_
                simp only [VR]
                exact ⟨l, _, _, by rw [add_block]; exact hr, add_spot hsp _, rfl, .inr (.inr ⟨by omega, by omega, by omega, ite_spot hsp' _⟩)⟩
  · rename_i n el a hu
    cases hz : szOf P el with
    | none => simp [hz] at e
    | some z =>
      simp only [hz, Option.bind_some] at e
      split at e
      · cases e
      rename_i hz0
      simp only [VR] at k
      obtain ⟨l, hr, hsp, rfl⟩ := k
      cases hb : gbounds n n n lo hi mx with
      | none => simp [hb] at e
      | some r =>
        obtain ⟨y, z', m⟩ := r
        simp only [hb, Option.map_some, Option.some.injEq] at e
        subst e
        obtain ⟨r1, r2, r3, r4, r5⟩ := run_bounds (P := P) (w := w) (isS := false) kl kh km (Nat.le_refl _) hb
        have hm : (if mx.isSome then m else n) = m := by
          cases mx with
          | none => simp [r3 rfl]
          | some _ => rfl
        rw [hm] at r1
        have hmle : m ≤ n := by
          cases mx with
          | none => simp [r3 rfl]
          | some _ => exact (r4 rfl).2
        have hzm : z' ≤ m := by
          cases mx with
          | none => have := r5 rfl; have := r3 rfl; omega
          | some _ => exact (r4 rfl).1
        refine OpOK.same s (v' := .slice (some (if m = y then l.addr a else (l.addr a).add (y * z))) (z' - y) (m - y)) ?_ ?_
        · by_cases hmy : m = y
          · simp [Instr.sliceAt, run_underlying_ hu, Instr.sureAddr, r1, run_sizeOf_ hz, hmy]
          · simp [Instr.sliceAt, run_underlying_ hu, Instr.sureAddr, r1, run_sizeOf_ hz, hmy]
        · simp only [VR]
          exact ⟨l, _, _, by rw [ite_block]; exact hr, ite_spot hsp _, rfl, .inl ⟨by omega, rfl, by omega, ite_spot rfl _, .inl (ite_addr l hsp _).symm⟩⟩
end Go.Gh
