/- The ghost machine's operations are the model's (4): append, copy. -/
import Derived.Test.YtloflflapneheaaGreatDoorGhH
import Derived.Deep.AppendSrc
import Derived.Deep.Upon
set_option linter.unusedSectionVars false
set_option linter.unusedVariables false
set_option linter.unusedSimpArgs false
namespace Go.Gh
variable [Sym]
variable {P : Program} {ρ : Ren} {h : Heap} {w : World}

/-- what is read of a slice or a string -/
theorem src_ok {z : Nat} {x x' : Value} {k : Nat} {xs : List Value} (s : HSim P ρ h w.heap) (kx : VR ρ x x') (e : gsrc z h x = some (k, xs)) :
    (Builtin.lenOf x').run P w = .ok k w ∧ (k ≠ 0 → xs.length = k * z) ∧
    ∃ ys, VRs ρ xs ys ∧ ∀ w' : World, w'.heap = w.heap → (k ≠ 0 → (Builtin.firstCells z k x').run P w' = .ok ys.toArray w') ∧ (∀ n, n ≤ k → n ≠ 0 → (Builtin.firstCells z n x').run P w' = .ok (ys.take (n * z)).toArray w') := by
  unfold gsrc at e
  split at e
  · rename_i b
    split at e
    case isFalse => cases e
    rename_i hz
    subst hz
    simp only [Option.some.injEq, Prod.mk.injEq] at e
    obtain ⟨rfl, rfl⟩ := e
    have : x' = .string b := by simpa [VR] using kx
    subst this
    have hpl : plains (b.data.toList.map fun x => Value.int .u8 x.toNat) = true := by
      generalize b.data.toList = l
      induction l with
      | nil => rfl
      | cons a r ih => simp [plains, plain, ih]
    have key : ∀ (w' : World) n, n ≤ b.size → (Builtin.firstCells 1 n (.string b)).run P w' = .ok ((b.data.toList.map fun x => Value.int .u8 x.toNat).take (n * 1)).toArray w' := by
      intro w' n hn
      have : ((b.extract 0 n).data.map fun b => Value.int .u8 b.toNat) = ((b.data.toList.map fun x => Value.int .u8 x.toNat).take (n * 1)).toArray := by
        apply Array.toList_inj.1
        simp [ByteArray.data_extract]
      simp only [Builtin.firstCells, Sem.run_pure, this]
    have hbs : b.data.size = b.size := rfl
    refine ⟨by simp [Builtin.lenOf], fun _ => by rw [List.length_map, Array.length_toList, hbs, Nat.mul_one], _, VRs.of_plain _ hpl, fun w' _ => ⟨fun _ => ?_, fun n hn _ => key w' n hn⟩⟩
    rw [key w' _ (Nat.le_refl _), List.take_of_length_le (by rw [List.length_map, Array.length_toList, hbs, Nat.mul_one]; exact Nat.le_refl _)]
  · rename_i n c
    simp only [Option.some.injEq, Prod.mk.injEq] at e
    obtain ⟨rfl, rfl⟩ := e
    simp only [VR] at kx
    obtain ⟨rfl, rfl, rfl⟩ := kx
    exact ⟨by simp [Builtin.lenOf], by simp, [], .nil, fun _ _ => ⟨by simp, fun n hn h0 => by omega⟩⟩
  · rename_i a n c
    simp only [VR] at kx
    obtain ⟨l, a', c', hr, hsp, rfl, hc⟩ := kx
    split at e
    · rename_i h0
      simp only [Option.some.injEq, Prod.mk.injEq] at e
      obtain ⟨rfl, rfl⟩ := e
      subst h0
      exact ⟨by simp [Builtin.lenOf], by simp, [], .nil, fun _ _ => ⟨by simp, fun n hn h0 => by omega⟩⟩
    · rename_i h0
      split at e
      case h_2 => cases e
      rename_i cs et md hg
      cases hcut : cut cs a.off (n * z) with
      | none => simp [hcut] at e
      | some l' =>
        simp only [hcut, Option.map_some, Option.some.injEq, Prod.mk.injEq] at e
        obtain ⟨rfl, rfl⟩ := e
        have ha : a' = l.addr a := by
          rcases hc with ⟨_, _, _, _, h1 | h1⟩ | ⟨_, h1, _⟩ | ⟨_, h1, _⟩
          · exact h1
          · exact absurd h1.1 h0
          · exact h1
          · exact absurd h1 h0
        subst ha
        obtain ⟨ys, k1, k2, k3⟩ := s.reads hg hr hcut
        have key : ∀ w' : World, w'.heap = w.heap → ∀ m, m ≤ n → (Builtin.firstCells z m (.slice (some (l.addr a)) n c')).run P w' = .ok (ys.take (m * z)).toArray w' := by
          intro w' hw m hm
          have hmz : m * z ≤ n * z := Nat.mul_le_mul_right z hm
          have := run_loadCells_list (P := P) w' (l.addr a) (ys.take (m * z)) (fun j v hv => by
            rw [List.getElem?_take] at hv
            split at hv
            · rw [show w'.cell? = w.cell? from funext fun b => by simp [World.cell?, hw]]; exact k3 j v hv
            · cases hv)
          rw [List.length_take, k2, Nat.min_eq_left hmz] at this
          simpa [Builtin.firstCells] using this
        refine ⟨by simp [Builtin.lenOf], fun _ => (cut_len hcut).1, ys, k1, fun w' hw => ⟨fun _ => ?_, fun m hm _ => key w' hw m hm⟩⟩
        rw [key w' hw n (Nat.le_refl _), List.take_of_length_le (by omega)]
  · cases e

theorem old_ok {z : Nat} {x x' : Value} {xs : List Value} (s : HSim P ρ h w.heap) (kx : VR ρ x x') (e : gold h z x = some xs) :
    ∃ n ys, (∃ b c, x' = .slice b n c) ∧ VRs ρ xs ys ∧ xs.length = n * z ∧ ∀ w' : World, w'.heap = w.heap → (Builtin.firstCells z n x').run P w' = .ok ys.toArray w' := by
  unfold gold at e
  split at e
  · cases e
    simp only [VR] at kx
    obtain ⟨rfl, rfl, rfl⟩ := kx
    exact ⟨0, [], ⟨_, _, rfl⟩, .nil, by simp, fun _ _ => by simp [Builtin.firstCells]⟩
  · rename_i a n c
    simp only [VR] at kx
    obtain ⟨l, a', c', hr, hsp, rfl, hc⟩ := kx
    split at e
    · rename_i h0
      cases e
      refine ⟨n, [], ⟨_, _, rfl⟩, .nil, by simp [h0], fun w' _ => ?_⟩
      have := run_loadCells_list (P := P) w' a' [] (by simp)
      simpa [Builtin.firstCells, h0] using this
    · rename_i h0
      split at e
      case h_2 => cases e
      rename_i cs et md hg
      have ha : a' = l.addr a := by
        rcases hc with ⟨_, _, _, _, h1 | h1⟩ | ⟨_, h1, _⟩ | ⟨_, h1, _⟩
        · exact h1
        · exact absurd h1.1 h0
        · exact h1
        · exact absurd h1 h0
      subst ha
      obtain ⟨ys, k1, k2, k3⟩ := s.reads hg hr e
      refine ⟨n, ys, ⟨_, _, rfl⟩, k1, (cut_len e).1, fun w' hw => ?_⟩
      have := run_loadCells_list (P := P) w' (l.addr a) ys (fun j v hv => by
        rw [show w'.cell? = w.cell? from funext fun b => by simp [World.cell?, hw]]; exact k3 j v hv)
      rw [k2] at this
      simpa [Builtin.firstCells] using this
  · cases e

theorem growBy_le (need : Nat) : ∀ (r c : Nat), c ≤ 2 * need + 1024 → Builtin.growBy need r c ≤ 2 * need + 1024
  | 0, c, h => h
  | r + 1, c, h => by
    unfold Builtin.growBy
    split
    · exact h
    · exact growBy_le need r _ (by omega)
theorem nextcap_le {need c : Nat} (h : c < need) : Builtin.nextslicecap need c ≤ 2 * need + 1024 := by
  unfold Builtin.nextslicecap
  split
  · omega
  · split
    · omega
    · exact growBy_le need 4 c (by omega)

theorem HSim.heap_eq {w' : World} (s : HSim P ρ h w.heap) (e : w'.heap = w.heap) : HSim P ρ h w'.heap := e ▸ s

theorem strOrSlice_some {t : TypeId} (e : strOrSlice P t = true) : (∃ e', P.underlying t = some (.slice e')) ∨ P.underlying t = some .string := by
  unfold strOrSlice at e
  split at e
  · rename_i e' hu; exact .inl ⟨e', hu⟩
  · rename_i hu; exact .inr hu
  · cases e

theorem src_Src {tx : TypeId} {z : Nat} {x x' : Value} {k : Nat} {xs : List Value} (s : HSim P ρ h w.heap) (kx : VR ρ x x') (e : gsrc z h x = some (k, xs)) (hk : k ≠ 0) (hone : ones xs = true) (ht : strOrSlice P tx = true) :
    ∃ ys, VRs ρ xs ys ∧ Src P z tx x' k ys w := by
  obtain ⟨h1, h2, ys, h3, h4⟩ := src_ok s kx e
  refine ⟨ys, h3, strOrSlice_some ht, fun w' => ?_, (h4 w rfl).1 hk, (h4 w.drew rfl).1 hk, by rw [h3.length]; exact h2 hk, ones_VRs h3 hone⟩
  have : (∃ b n c, x' = .slice b n c) ∨ (∃ b, x' = .string b) := by
    cases x' <;> first | exact .inl ⟨_, _, _, rfl⟩ | exact .inr ⟨_, rfl⟩ | (simp [Builtin.lenOf] at h1)
  rcases this with ⟨b, n, c, rfl⟩ | ⟨b, rfl⟩
  · simp [Builtin.lenOf] at h1 ⊢; exact h1
  · simp [Builtin.lenOf] at h1 ⊢; exact h1

theorem run_append_room_ {t tx ty e : TypeId} {i : TypeInfo} {a : Addr} {n c k : Nat} {x : Value} {ys : List Value} {w' : World} (ht : P.underlying t = some (.slice e)) (hi : P.info? e = some i) (hs : Src P i.size tx x k ys w)
    (hroom : n + k ≤ c) (hst : (storeCells (a.add (n * i.size)) ys 0).run P w = .ok () w') :
    (Builtin.append_ #[t, tx] ty #[.slice (some a) n c, x]).run P w = .ok (.slice (some a) (n + k) c) w' := by
  rcases hs.kind with ⟨e', hk⟩ | hk <;> simp [Builtin.append_, run_underlying ht, run_underlying hk, sizeOf, typeInfo, hi, hs.len, hroom, hs.cells, hst]

theorem OSim.grown {e : TypeId} {i : TypeInfo} {z : Value} {c c' : List Value} {R : Nat} {H : Array Obj} {b : Nat} (k : VRs ρ c c') (hi : P.info? e = some i) (hi0 : 0 < i.size) (hz : (vcells z).length = i.size)
    {m : Nat} (hc : c.length = m * i.size) (hm : m ≤ R) (hH : H[b]? = some (.cells (c'.toArray ++ Builtin.zeroCells z.cells (R - m)) e (0, 0))) : OSim P ρ ⟨b, 0, R⟩ H (.cells c e .op) := by
  refine ⟨_, (0, 0), [], c', (Builtin.zeroCells z.cells (R - m)).toList, hH, by simp, rfl, k, fun _ i _ _ => by simp, fun _ => ⟨i, hi, hi0, ?_⟩⟩
  have hzs : z.cells.size = i.size := by rw [← Array.length_toList, vcells_eq, hz]
  have h1 := k.length
  simp only [Array.size_append, List.size_toArray, size_zeroCells, hzs, h1, hc]
  rw [← Nat.add_mul, show m + (R - m) = R from by omega]; simp

theorem ok_append_grow {t tx ty e : TypeId} {i : TypeInfo} {z : Value} {s s' x x' : Value} {n k : Nat} {b : Option Addr} {cap : Nat} {o l : List Value} {h1 : Heap} (hs : HSim P ρ h w.heap)
    (ht : P.underlying t = some (.slice e)) (hi : P.info? e = some i) (hz : i.zero = some z) (hzl : (vcells z).length = i.size) (hi0 : 0 < i.size) (hb1 : i.bytes ≤ 65536)
    (ks : VR ρ s s') (kx : VR ρ x x') (hs' : s' = .slice b n cap) (hg : gold h i.size s = some o) (hx : gsrc i.size h x = some (k, l)) (hk : k ≠ 0) (hone : ones l = true) (htx : strOrSlice P tx = true)
    (hnk : n + k ≤ 1073741824) (hcap : cap < n + k) (p1 : Post P ρ h w ρ h1 w) :
    OpOK P ρ h w ((do let x ← Builtin.append_ #[t, tx] ty #[s', x']; pure (.value x) : Sem Next).run P w) (.val (.slice (some ⟨h1.next, 0, none⟩) (n + k) VC) (h1.new (.cells (o ++ l) e .op))) := by
  obtain ⟨ys, kys, hS⟩ := src_Src hs kx hx hk hone htx
  obtain ⟨n', os, ⟨b', c', hs''⟩, kos, hol, hrun⟩ := old_ok hs ks hg
  subst hs'
  cases hs''
  have hlim : Builtin.nextslicecap (n + k) cap * i.bytes ≤ 281474976710656 := by
    have h1 := nextcap_le hcap
    have : Builtin.nextslicecap (n + k) cap * i.bytes ≤ (2 * 1073741824 + 1024) * 65536 := Nat.mul_le_mul (by omega) hb1
    omega
  have hr := run_append_grow_src (P := P) w t tx ty e i z ht hi hz b n cap os (hrun w.drew rfl) x' k ys hS hcap (by omega) hlim
  have hR := grownCap_ge w (n + k) cap e
  have hlen : (o ++ l).length = (n + k) * i.size := by
    rw [List.length_append, hol, ← kys.length, hS.newsLen, Nat.add_mul]
  have p2 : Post P ρ h1 w (ρ.upd h1.next ⟨w.heap.size, 0, grownCap w (n + k) cap e⟩) (h1.new (.cells (o ++ l) e .op))
      { w with heap := w.heap.push (.cells ((os ++ ys).toArray ++ Builtin.zeroCells z.cells (grownCap w (n + k) cap e - (n + k))) e) } := by
    refine Post.new p1.sim _ _ _ rfl (OSim.grown (z := z) (VRs.mono (upd_le p1.sim _) _ _ (kos.append kys)) hi hi0 hzl hlen hR ?_)
    simp
  refine .inl ⟨_, w.drew.alloc (.cells ((os ++ ys).toArray ++ Builtin.zeroCells z.cells (grownCap w (n + k) cap e - (n + k))) e), _, by simp only [Sem.run_bind, hr, Result.andThen_ok]; rfl, (p1.trans p2).world rfl rfl rfl rfl rfl rfl rfl rfl, ?_⟩
  simp only [VR]
  exact ⟨⟨w.heap.size, 0, grownCap w (n + k) cap e⟩, _, _, by simp [Ren.upd], trivial, rfl, .inr (.inl ⟨by decide, by simp [Loc.addr], Nat.add_comm _ _, hR⟩)⟩

theorem ok_append {t tx ty : TypeId} {s s' x x' : Value} {g : GN} (hs : HSim P ρ h w.heap) (ks : VR ρ s s') (kx : VR ρ x x') (e : gappend P t tx s x h = some g) :
    OpOK P ρ h w ((do let x ← Builtin.append_ #[t, tx] ty #[s', x']; pure (.value x) : Sem Next).run P w) g := by
  unfold gappend at e
  cases he : elOf P t with
  | none => simp [he] at e
  | some el =>
  simp only [he, Option.bind_some] at e
  cases hi : P.info? el with
  | none => simp [hi] at e
  | some i =>
  simp only [hi, Option.bind_some] at e
  cases hz : i.zero with
  | none => simp [hz] at e
  | some z =>
  simp only [hz, Option.bind_some] at e
  split at e
  case isFalse => cases e
  rename_i hc
  obtain ⟨hzl, hi0, hb0, hb1⟩ := hc
  split at e
  case isFalse => cases e
  rename_i htx
  split at e
  case h_2 => cases e
  rename_i base n cap
  cases hx : gsrc i.size h x with
  | none => simp [hx] at e
  | some r =>
  obtain ⟨k, l⟩ := r
  simp only [hx, Option.bind_some] at e
  have ht := elOf_some he
  have hsz : szOf P el = some i.size := by simp [szOf, hi]
  by_cases hk : k = 0
  · rw [if_pos hk] at e
    cases e
    subst hk
    obtain ⟨r1, r2, ys, r3, r4⟩ := src_ok hs kx hx
    obtain ⟨b', c', hs', hle⟩ : ∃ b' c', s' = .slice b' n c' ∧ n ≤ c' := by
      cases base with
      | none => simp only [VR] at ks; obtain ⟨rfl, rfl, rfl⟩ := ks; exact ⟨_, _, rfl, Nat.le_refl _⟩
      | some a =>
        simp only [VR] at ks
        obtain ⟨lc, a', c', hr, hsp, rfl, hcc⟩ := ks
        refine ⟨_, _, rfl, ?_⟩
        rcases hcc with ⟨_, h1, h2, _⟩ | ⟨_, _, _, h1⟩ | ⟨_, h1, _⟩ <;> omega
    subst hs'
    have hf : ∀ w' : World, (Builtin.firstCells i.size 0 x').run P w' = .ok #[] w' := fun w' => by
      cases x' with
      | string b => simp [Builtin.firstCells]
      | slice b m c => cases b <;> simp [Builtin.firstCells, loadCells, loadCellsFrom]
      | _ => simp [Builtin.lenOf] at r1
    have hlen : ∀ w' : World, (Builtin.lenOf x').run P w' = .ok 0 w' := fun w' => by
      cases x' with
      | string b => simp [Builtin.lenOf] at r1 ⊢; exact r1
      | slice b m c => simp [Builtin.lenOf] at r1 ⊢; exact r1
      | _ => simp [Builtin.lenOf] at r1
    have hS : Src P i.size tx x' 0 [] w := ⟨strOrSlice_some htx, hlen, by simpa using hf w, by simpa using hf w.drew, by simp, fun _ h => by cases h⟩
    exact OpOK.same hs (by simp only [Sem.run_bind, run_append_nothing w t tx ty el i ht hi b' n c' hle x' hS, Result.andThen_ok]; rfl) ks
  rw [if_neg hk] at e
  split at e
  · cases e
  rename_i hnk
  split at e
  · cases e
  rename_i hone
  simp only [Bool.not_eq_true, Bool.not_eq_false'] at hone
  have hone' : ones l = true := by cases ho : ones l <;> simp_all
  by_cases hcap : cap < VH
  · rw [if_pos hcap] at e
    by_cases hroom : n + k ≤ cap
    · rw [if_pos hroom] at e
      cases base with
      | none => cases e
      | some a =>
        simp only at e
        cases hp : gput h a.block (a.off + n * i.size) l with
        | none => simp [hp] at e
        | some h' =>
          simp only [hp, Option.map_some, Option.some.injEq] at e
          subst e
          simp only [VR] at ks
          obtain ⟨lc, a', c', hr, hsp, rfl, hcc⟩ := ks
          have hex : c' = cap ∧ a' = lc.addr a := by
            rcases hcc with ⟨_, h1, h2, h3, h4 | h4⟩ | ⟨h1, _⟩ | ⟨h1, _⟩
            · exact ⟨h1, h4⟩
            · omega
            · omega
            · omega
          obtain ⟨rfl, rfl⟩ := hex
          obtain ⟨ys, kys, hS⟩ := src_Src hs kx hx hk hone' htx
          obtain ⟨w', e1, p⟩ := HSim.puts hs hp hr kys
          have e1' : (storeCells ((lc.addr a).add (n * i.size)) ys 0).run P w = .ok () w' := by
            rw [add_none rfl]; simp only [Loc.addr]; rw [Nat.add_assoc]; exact e1
          refine .inl ⟨_, w', ρ, by simp only [Sem.run_bind, run_append_room_ ht hi hS hroom e1', Result.andThen_ok]; rfl, p, VR.slice_ex hr hsp hcap hroom⟩
    · rw [if_neg hroom] at e
      cases hg : gold h i.size (.slice base n cap) with
      | none => simp [hg] at e
      | some o =>
        simp only [hg, Option.map_some, Option.some.injEq] at e
        subst e
        obtain ⟨b', hs'⟩ : ∃ b', s' = .slice b' n cap := by
          cases base with
          | none => simp only [VR] at ks; exact ⟨_, ks.1⟩
          | some a =>
            simp only [VR] at ks
            obtain ⟨lc, a', c', hr, hsp, rfl, hcc⟩ := ks
            refine ⟨some a', ?_⟩
            rcases hcc with ⟨_, h1, _⟩ | ⟨h1, _⟩ | ⟨h1, _⟩
            · rw [h1]
            · omega
            · omega
        exact ok_append_grow hs ht hi hz hzl hi0 hb1 ks kx hs' hg hx hk hone' htx (by omega) (by omega) (Post.refl hs)
  · rw [if_neg hcap] at e
    cases base with
    | none => cases e
    | some a =>
      simp only at e
      cases hB : sure h a el i.size n cap with
      | none => simp [hB] at e
      | some B =>
        simp only [hB, Option.bind_some] at e
        have ks0 := ks
        simp only [VR] at ks
        obtain ⟨lc, a', c', hr, hsp, rfl, hcc⟩ := ks
        by_cases hroom : n + k ≤ B
        · rw [if_pos hroom] at e
          cases hp : gput h a.block (a.off + n * i.size) l with
          | none => simp [hp] at e
          | some h' =>
            simp only [hp, Option.map_some, Option.some.injEq] at e
            subst e
            rcases hcc with ⟨h1, _⟩ | ⟨hv, rfl, hcr, hlen⟩ | ⟨hv, h0, h1, hsp'⟩
            · omega
            · obtain ⟨g1, g2, g3, g4, g5, _⟩ := sure_room hs hr hsz hB hcr
              have hn0 : n ≠ 0 := fun x => by have := g2 x; omega
              have hBc := g1 hn0
              obtain ⟨ys, kys, hS⟩ := src_Src hs kx hx hk hone' htx
              obtain ⟨w', e1, p⟩ := HSim.puts hs hp hr kys
              have e1' : (storeCells ((lc.addr a).add (n * i.size)) ys 0).run P w = .ok () w' := by
                rw [add_none rfl]; simp only [Loc.addr]; rw [Nat.add_assoc]; exact e1
              have hfit : n + k ≤ c' := by omega
              refine .inl ⟨_, w', ρ, by simp only [Sem.run_bind, run_append_room_ ht hi hS hfit e1', Result.andThen_ok]; rfl, p, ?_⟩
              simp only [VR]
              exact ⟨lc, _, _, hr, hsp, rfl, .inr (.inl ⟨hv, rfl, hcr, by omega⟩)⟩
            · have hB0 : B = 0 := by
                unfold sure at hB
                split at hB
                · split at hB
                  · simp at hB; exact hB.symm
                  · cases hB
                · cases hB
              omega
        · rw [if_neg hroom] at e
          cases hg : gold h i.size (.slice (some a) n cap) with
          | none => simp [hg] at e
          | some o =>
            simp only [hg, Option.map_some, Option.some.injEq] at e
            subst e
            have p1 : Post P ρ h w ρ (h.set a.block none) w := Post.drop hs hr
            by_cases hfit : n + k ≤ c'
            · -- in place
              rcases hcc with ⟨h1, _⟩ | ⟨hv, rfl, hcr, hlen⟩ | ⟨hv, h0, h1, hsp'⟩
              · omega
              · obtain ⟨g1, g2, g3, g4, g5, cc, g6, g7, g8, ⟨C, fz, g9, g10⟩, g11⟩ := sure_room hs hr hsz hB hcr
                obtain ⟨ys, kys, hS⟩ := src_Src hs kx hx hk hone' htx
                obtain ⟨n', os, ⟨b', c'', hs''⟩, kos, hol, hrun⟩ := old_ok hs ks0 hg
                cases hs''
                obtain ⟨C', fz', pre, mid, post, q1, q2, q3, q4, q5, q6⟩ := hs.cells g6 hr
                rw [g9] at q1; cases q1
                have hyl := hS.newsLen
                have hle : (n + k) * i.size ≤ c' * i.size := Nat.mul_le_mul_right _ hfit
                rw [Nat.add_mul] at hle
                obtain ⟨w', e1, e2, e3, e4, e5⟩ := run_storeCells_fz (P := P) lc.blk (lc.sh + a.off + n * i.size) el fz ys 0 C w g9 (by omega) (fun j u v => q5 (by simp) j (by omega) v) hS.one
                have e1' : (storeCells ((lc.addr a).add (n * i.size)) ys 0).run P w = .ok () w' := by
                  rw [add_none rfl]; simp only [Loc.addr]; exact e1
                have hCl : C.toList.length = C.size := by simp
                -- the old cells stand ahead of the new ones
                have hos : os = (C.toList.drop (lc.sh + a.off)).take (n * i.size) := by
                  have hx1 := hrun w rfl
                  have hx2 := run_loadCells_list (P := P) w (lc.addr a) ((C.toList.drop (lc.sh + a.off)).take (n * i.size)) (fun j v hv => by
                    rw [List.getElem?_take] at hv
                    split at hv
                    · rw [add_none rfl]
                      simp only [World.cell?, Loc.addr, g9, Option.isSome_none, Bool.false_eq_true, if_false]
                      rw [List.getElem?_drop] at hv
                      rw [← Array.getElem?_toList]; exact hv
                    · cases hv)
                  rw [List.length_take, List.length_drop, Nat.min_eq_left (by omega)] at hx2
                  simp only [Builtin.firstCells] at hx1
                  rw [hx2] at hx1
                  cases hx1
                  rfl
                have hlay : (lay C.toList (lc.sh + a.off + n * i.size + 0) ys) = C.toList.take (lc.sh + a.off) ++ ((os ++ ys) ++ C.toList.drop (lc.sh + a.off + (n * i.size + k * i.size))) := by
                  rw [hos]
                  simp only [lay, Nat.add_zero, hyl]
                  rw [List.take_add]
                  simp [Nat.add_assoc]
                have hgs := (Array.getElem?_eq_some_iff.1 g9).1
                have hsim : OSim P (ρ.upd h.next ⟨lc.blk, lc.sh + a.off, c'⟩) ⟨lc.blk, lc.sh + a.off, c'⟩ w'.heap (.cells (o ++ l) el .op) := by
                  refine ⟨_, fz, C.toList.take (lc.sh + a.off), os ++ ys, C.toList.drop (lc.sh + a.off + (n * i.size + k * i.size)), by rw [e2, Array.getElem?_setIfInBounds, if_pos rfl, if_pos hgs], by simpa using hlay, ?_,
                    VRs.mono (upd_le hs _) _ _ (kos.append kys), ?_, fun _ => ⟨i, hi, hi0, ?_⟩⟩
                  · show (List.take (lc.sh + a.off) C.toList).length = lc.sh + a.off
                    rw [List.length_take]; omega
                  · intro _ j u v
                    have u' : lc.sh + a.off ≤ j := u
                    have : (lay C.toList (lc.sh + a.off + n * i.size) ys).length = C.size := by rw [lay_len (by rw [hyl]; omega)]; simp
                    exact q5 (by simp) j (by omega) (by simpa [this] using v)
                  · have : (lay C.toList (lc.sh + a.off + n * i.size + 0) ys).length = C.size := by rw [lay_len (by rw [hyl]; omega)]; simp
                    show (lay C.toList (lc.sh + a.off + n * i.size + 0) ys).toArray.size = lc.sh + a.off + c' * i.size
                    simp only [List.size_toArray, this]; omega
                have p := Post.move hs g6 hr (by rfl) (l' := ⟨lc.blk, lc.sh + a.off, c'⟩) rfl w'.heap (by rw [e2]; simp) (fun j hj => by rw [e2, Array.getElem?_setIfInBounds, if_neg (Ne.symm hj)]) hsim (fun o => by rw [e2, Array.getElem?_setIfInBounds, if_pos rfl, if_pos (Array.getElem?_eq_some_iff.1 g9).1, g9]; rfl)
                have hrr := run_append_room_ (ty := ty) ht hi hS hfit e1'
                refine .inl ⟨.slice (some (lc.addr a)) (n + k) c', w', _, by simp only [Sem.run_bind, hrr, Result.andThen_ok]; rfl, p.world rfl rfl rfl e3 rfl e4 rfl e5, ?_⟩
                simp only [VR]
                exact ⟨⟨lc.blk, lc.sh + a.off, c'⟩, _, _, by simp [Ren.upd], trivial, rfl, .inr (.inl ⟨by decide, by simp [Loc.addr], Nat.add_comm _ _, hfit⟩)⟩
              · omega
            · exact ok_append_grow hs ht hi hz hzl hi0 hb1 ks0 kx rfl hg hx hk hone' htx (by omega) (by omega) p1
end Go.Gh
