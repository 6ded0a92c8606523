/- The ghost machine is the model's (2). -/
import Derived.Test.YtloflflapneheaaGreatDoorGhW
set_option linter.unusedSectionVars false
set_option linter.unusedVariables false
set_option linter.unusedSimpArgs false
namespace Go.Gh
variable [Sym]
variable {P : Program}

def CodeSound (P : Program) (rec : Rec) : Prop := ∀ (c : Code) (G : GQ) (a : GAct) (h : Heap) (ρ : Ren) (α : Act) (w : World) (Q : Exit → Act → World → Prop),
  rec c G a h → HSim P ρ h w.heap → AR ρ a α → Goes P G Q ρ h w → c.wp P Q α w

theorem callee_sound {I : Intr} {rec : Rec} (F : Fit P I) (hr : CodeSound P rec) : CallSound P (gcallee P I rec) := by
  intro f args K h ρ args' w R g s ka hR
  unfold gcallee at g
  split at g
  · rename_i gi hI
    split at g
    · rename_i v h' hg
      rcases F.intr f gi hI args h v h' hg ρ args' w s ka with ⟨v', w', e, ρ', p, kv⟩ | ⟨e, c⟩
      · exact .inl ⟨v', w', e, hR _ _ _ _ _ g p kv⟩
      · exact .inr ⟨e, c.mono fun e w' r => by
          cases e with
          | returned v' => obtain ⟨ρ', p, kv⟩ := r; exact hR _ _ _ _ _ g p kv
          | panicked ch => exact r
          | outgrown => exact r⟩
    · exact g.elim
  · split at g
    · rename_i fn hf
      split at g
      · rename_i c hb
        refine .inr ⟨callFunc_enter hf (by rw [hb]; rfl) (F.name f fn hf (by rw [hb]; rfl)), calls_of_wp hf hb (hr c _ _ h ρ _ w _ g s ⟨?_, rfl⟩ ?_)⟩
        · have hl := ka.length
          have hl' : args'.size = args.length := by simpa using hl
          simp only [gact, Array.toList_append, Array.toList_replicate, hl']
          exact ka.append (VRs.replicate VR.undef _)
        · intro e a' h' α' w' ρ' g' p k'
          have key : (match gresults P fn a' h' with | some v => K v h' | none => False) → α'.defers = [] ∧ ∃ v, (results fn α'.tmps).run P w' = .ok v w' ∧ R v w' := by
            intro g'
            split at g'
            · rename_i v hv
              obtain ⟨v', e1, kv⟩ := results_sound p.sim k' hv
              exact ⟨k'.defers, v', e1, hR _ _ _ _ _ g' p kv⟩
            · exact g'.elim
          cases e with
          | normal => exact key g'
          | ret => exact key g'
          | exit id => exact g'.elim
          | goto l => exact g'.elim
          | panic ch => exact g'.elim
          | outgrown => exact g'.elim
      · exact g.elim
    · exact g.elim

theorem code_sound {I : Intr} (F : Fit P I) : ∀ n,
    CodeSound P (gcode P I n) ∧
    (∀ (c : Code) (G : GQ) (a : GAct) (h : Heap) (ρ : Ren) (α : Act) (w : World) (Q : Exit → Act → World → Prop), gcode P I n (.loop c) G a h → HSim P ρ h w.heap → AR ρ a α → Goes P G Q ρ h w → Code.rounds P c Q n α w) ∧
    (∀ (body c : Code) (G : GQ) (a : GAct) (h : Heap) (ρ : Ren) (α : Act) (w : World) (Q : Exit → Act → World → Prop), (gboth P I n).2 body c G a h → HSim P ρ h w.heap → AR ρ a α → Goes P G Q ρ h w → wpIn P body c Q α w) := by
  intro n
  induction n with
  | zero => exact ⟨fun c G a h ρ α w Q g => g.elim, fun c G a h ρ α w Q g => g.elim, fun body c G a h ρ α w Q g => g.elim⟩
  | succ n ih =>
    obtain ⟨ih1, ih2, ih3⟩ := ih
    have hc : CallSound P (gcallee P I (gcode P I n)) := callee_sound F ih1
    have hthen : ∀ {y : Code} {G : GQ} {Q : Exit → Act → World → Prop} {K : Act → World → Prop} {ρ : Ren} {h : Heap} {w : World}, Goes P G Q ρ h w →
        (∀ a' h' α' w' ρ', gcode P I n y G a' h' → Post P ρ h w ρ' h' w' → AR ρ' a' α' → K α' w') → Goes P (gthen (gcode P I n) y G) (Exit.then K Q) ρ h w := by
      intro y G Q K ρ h w hq hK e a' h' α' w' ρ' g p k
      cases e with
      | normal => exact hK _ _ _ _ _ g p k
      | exit id => exact hq _ _ _ _ _ _ g p k
      | goto l => exact hq _ _ _ _ _ _ g p k
      | ret => exact hq _ _ _ _ _ _ g p k
      | panic ch => exact hq _ _ _ _ _ _ g p k
      | outgrown => exact hq _ _ _ _ _ _ g p k
    have hround : ∀ (c : Code) (G : GQ) (a : GAct) (h : Heap) (ρ : Ren) (α : Act) (w : World) (Q : Exit → Act → World → Prop), gcode P I n c (gthen (gcode P I n) (.loop c) G) a h → HSim P ρ h w.heap → AR ρ a α → Goes P G Q ρ h w → Code.rounds P c Q (n + 1) α w := by
      intro c G a h ρ α w Q g s ka hq
      exact ih1 c _ a h ρ α w _ g s ka (hthen hq fun a' h' α' w' ρ' g' p k => ih2 c G a' h' ρ' α' w' Q g' p.sim k (hq.after p))
    have hscope : ∀ {body : Code} {G : GQ} {Q : Exit → Act → World → Prop} {ρ : Ren} {h : Heap} {w : World}, Goes P G Q ρ h w → Goes P (gscope (gboth P I n).2 body G) (scopeQ P body Q) ρ h w := by
      intro body G Q ρ h w hq e a' h' α' w' ρ' g p k
      cases e with
      | goto l =>
        simp only [gscope] at g
        simp only [scopeQ]
        split at g
        · rename_i c hf
          rw [hf]
          exact ih3 body c G a' h' ρ' α' w' Q g p.sim k (hq.after p)
        · rename_i hf
          rw [hf]
          exact hq _ _ _ _ _ _ g p k
      | normal => exact hq _ _ _ _ _ _ g p k
      | exit id => exact hq _ _ _ _ _ _ g p k
      | ret => exact hq _ _ _ _ _ _ g p k
      | panic ch => exact hq _ _ _ _ _ _ g p k
      | outgrown => exact hq _ _ _ _ _ _ g p k
    refine ⟨?_, fun c G a h ρ α w Q g => hround c G a h ρ α w Q g, fun body c G a h ρ α w Q g s ka hq => wpIn_of (ih1 c _ a h ρ α w _ g s ka (hscope hq))⟩
    intro c G a h ρ α w Q g s ka hq
    change gstep P I (gcode P I n) (gboth P I n).2 c G a h at g
    cases c with
    | skip => exact wp_skip (hq _ _ _ _ _ _ g (Post.refl s) ka)
    | label l => exact wp_label (hq _ _ _ _ _ _ g (Post.refl s) ka)
    | exit i => exact wp_exit (hq _ _ _ _ _ _ g (Post.refl s) ka)
    | goto l => exact wp_goto (hq _ _ _ _ _ _ g (Post.refl s) ka)
    | ret => exact wp_ret (hq _ _ _ _ _ _ g (Post.refl s) ka)
    | region id ops draw =>
      cases draw with
      | false =>
        have := gops_sound hc (Q := Q) g s ka hq
        exact wp_region_list (by simpa using this)
      | true =>
        have := gregion_sound (id := id) hc F.mixed s ka g hq
        simpa using this
    | seq x y => exact wp_seq (ih1 x _ a h ρ α w _ g s ka (hthen hq fun a' h' α' w' ρ' g' p k => ih1 y G a' h' ρ' α' w' Q g' p.sim k (hq.after p)))
    | cond c x y =>
      simp only [gstep] at g
      split at g
      · rename_i b hb
        have hcv : α.eval c = .bool b := by simpa [VR] using ka.ev _ _ hb
        split at g
        · exact wp_cond_true hcv (ih1 x G a h ρ α w Q g s ka hq)
        · exact wp_cond_false hcv (ih1 y G a h ρ α w Q g s ka hq)
      · exact g.elim
    | block id b =>
      refine wp_block (ih1 b _ a h ρ α w _ g s ka ?_)
      intro e a' h' α' w' ρ' g' p k
      cases e with
      | exit i =>
        simp only [gblock] at g'
        simp only [Exit.inBlock]
        split at g'
        · rename_i hb
          rw [if_pos (Nat.eq_of_beq_eq_true hb)]
          exact hq _ _ _ _ _ _ g' p k
        · rename_i hb
          rw [if_neg (fun e => by subst e; rw [Nat.beq_refl] at hb; cases hb)]
          exact hq _ _ _ _ _ _ g' p k
      | normal => exact hq _ _ _ _ _ _ g' p k
      | goto l => exact hq _ _ _ _ _ _ g' p k
      | ret => exact hq _ _ _ _ _ _ g' p k
      | panic ch => exact hq _ _ _ _ _ _ g' p k
      | outgrown => exact hq _ _ _ _ _ _ g' p k
    | loop b => exact wp_loop_rounds (n + 1) (hround b G a h ρ α w Q g s ka hq)
    | scope b => exact wp_scope_in (wpIn_of (ih1 b _ a h ρ α w _ g s ka (hscope hq)))
    | _ => exact g.elim

/-- a call that the ghost machine carries out is the model's -/
theorem gcall_sound {I : Intr} (F : Fit P I) (n : Nat) : CallSound P (gcall P I n) := callee_sound F (code_sound F n).1

theorem gext_ok {f : FuncId} : ∀ args h v h', gext P f args h = some (v, h') → ∀ ρ args' w, HSim P ρ h w.heap → VRs ρ args (args' : Array Value).toList →
    Ans P f args' w fun v' w' => ∃ ρ', Post P ρ h w ρ' h' w' ∧ VR ρ' v v' := by
  intro args h v h' e ρ args' w s ka
  unfold gext at e
  split at e
  case isFalse => cases e
  rename_i hp
  have ha : args' = args.toArray := by
    have := VRs.plain_eq _ _ hp ka
    rw [← this]
  split at e
  · rename_i u hsp
    split at e
    · rename_i hv
      cases e
      exact .inl ⟨v, w, by rw [ha]; exact sp_run w _ _ hsp, ρ, Post.refl s, VR.of_plain _ hv⟩
    · cases e
  · cases e
#print axioms gcall_sound
end Go.Gh
