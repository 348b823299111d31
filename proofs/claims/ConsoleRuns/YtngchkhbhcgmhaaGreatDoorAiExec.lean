/- A part of the proof of ConsoleRuns: AiExec. -/
import Derived.Test.YtngchkhbhcgmhaaGreatDoorAiRun
set_option linter.unusedVariables false
set_option linter.unusedSimpArgs false
set_option linter.unusedSectionVars false
set_option linter.unnecessarySimpa false
/- Bodies. -/
namespace Go.Ai

section
variable {P : Program} {X : Cx} {K : CallK} {ι κ : Emb} {w w' : World} {h h' : H} {nt N : Nat}

/-- regions that draw their order -/
def DrawSound (P : Program) (X : Cx) (K : CallK) (nt : Nat) : Prop :=
  ∀ (id : Nat) (ops : Array Oper) (a : AAct) (h : H) (e : AExit) (a' : AAct) (h' : H), staticOk P ops.toList = true → drawOps P X K ops.toList a ops.toList [] a.t h = some (e, a', h') →
    ∀ (ι : Emb) (b : Act) (w : World) (Q : Exit → Act → World → Prop), ARel P h ι w nt a b → (∀ o ∈ ops.toList, ∀ d, o.dst = some d → d < nt) → Post P h ι w nt e a' h' Q → (Code.region id ops true).wp P Q b w

theorem dst_all {nt : Nat} {ops : List Oper} (hd : (ops.all fun o => match o.dst with | some d => Nat.blt d nt | none => true) = true) : ∀ o ∈ ops, ∀ d, o.dst = some d → d < nt := by
  intro o ho d hod
  have := List.all_eq_true.1 hd o ho
  rw [hod] at this
  have this' : Nat.blt d nt = true := this
  rw [Nat.blt_eq] at this'
  exact this'

theorem exec_sound (hx : ExtOk P X) (hK : KOk P K) (hD : DrawSound P X K nt) : ∀ (c : Code) (a : AAct) (h : H) (e : AExit) (a' : AAct) (h' : H), exec P X K N c a h = some (e, a', h') →
    ∀ (ι : Emb) (b : Act) (w : World) (Q : Exit → Act → World → Prop), ARel P h ι w nt a b → dstOk nt c = true → Post P h ι w nt e a' h' Q → c.wp P Q b w := by
  intro c
  induction c with
  | skip =>
    intro a h e a' h' hr ι b w Q ha hd hp
    simp only [exec, Option.some.injEq, Prod.mk.injEq] at hr
    obtain ⟨rfl, rfl, rfl⟩ := hr
    exact wp_skip (hp ι b w .normal (.refl ha.st) ha .normal)
  | region id ops draw =>
    intro a h e a' h' hr ι b w Q ha hd hp
    have hdd := dst_all (nt := nt) (ops := ops.toList) hd
    cases draw with
    | false =>
      simp only [exec] at hr
      exact wp_region_list (runOps_sound hx hK ops.toList a h e a' h' hr ι b w ha hdd hp)
    | true =>
      simp only [exec] at hr
      split at hr
      · rename_i hst
        exact hD id ops a h e a' h' hst hr ι b w Q ha hdd hp
      · cases hr
  | seq x y ihx ihy =>
    intro a h e a' h' hr ι b w Q ha hd hp
    simp only [dstOk, Bool.and_eq_true] at hd
    simp only [exec] at hr
    apply wp_seq
    split at hr
    · rename_i a1 h1 h1e
      refine ihx a h _ _ _ h1e ι b w _ ha hd.1 ?_
      intro κ b1 w1 E hd1 ha1 hE
      cases hE
      exact ihy a1 h1 e a' h' hr κ b1 w1 Q ha1 hd.2 (hd1.post hp)
    · rename_i hne
      refine ihx a h _ _ _ hr ι b w _ ha hd.1 ?_
      intro κ b1 w1 E hd1 ha1 hE
      have hq := hp κ b1 w1 E hd1 ha1 hE
      cases hE with
      | normal => exact absurd hr (hne _ _)
      | _ => exact hq
  | cond c x y ihx ihy =>
    intro a h e a' h' hr ι b w Q ha hd hp
    simp only [dstOk, Bool.and_eq_true] at hd
    simp only [exec] at hr
    split at hr
    · rename_i hc
      have hv := ev_rel ha.tr ha.st.glob hc
      generalize hcv : b.eval c = cv at hv
      cases hv
      exact wp_cond_true hcv (ihx a h e a' h' hr ι b w Q ha hd.1 hp)
    · rename_i hc
      have hv := ev_rel ha.tr ha.st.glob hc
      generalize hcv : b.eval c = cv at hv
      cases hv
      exact wp_cond_false hcv (ihy a h e a' h' hr ι b w Q ha hd.2 hp)
    · cases hr
  | block id x ihx =>
    intro a h e a' h' hr ι b w Q ha hd hp
    simp only [dstOk] at hd
    simp only [exec] at hr
    apply wp_block
    split at hr
    · rename_i i a1 h1 h1e
      refine ihx a h _ _ _ h1e ι b w _ ha hd ?_
      intro κ b1 w1 E hd1 ha1 hE
      cases hE
      split at hr
      · rename_i hi
        cases hr
        have : i = id := Nat.eq_of_beq_eq_true hi
        simp only [Exit.inBlock, this, if_true]
        exact hp κ b1 w1 .normal hd1 ha1 .normal
      · rename_i hi
        cases hr
        have : ¬ (i = id) := fun q => by rw [q, Nat.beq_refl] at hi; cases hi
        simp only [Exit.inBlock, this, if_false]
        exact hp κ b1 w1 _ hd1 ha1 (.exit i)
    · rename_i hne
      refine ihx a h _ _ _ hr ι b w _ ha hd ?_
      intro κ b1 w1 E hd1 ha1 hE
      have hq := hp κ b1 w1 E hd1 ha1 hE
      cases hE with
      | exit i => exact absurd hr (hne _ _ _)
      | _ => exact hq
  | loop x ihx =>
    intro a h e a' h' hr ι b w Q ha hd hp
    simp only [dstOk] at hd
    simp only [exec] at hr
    refine wp_loop_rounds N ?_
    have key : ∀ (n : Nat) (a : AAct) (h : H), iter (exec P X K N x) n a h = some (e, a', h') → ∀ (ι : Emb) (b : Act) (w : World), ARel P h ι w nt a b → Post P h ι w nt e a' h' Q → Code.rounds P x Q n b w := by
      intro n
      induction n with
      | zero => intro a h hi; simp [iter] at hi
      | succ n ih =>
        intro a h hi ι b w ha hp
        simp only [iter] at hi
        show x.wp P (Exit.then (Code.rounds P x Q n) Q) b w
        split at hi
        · rename_i a1 h1 h1e
          refine ihx a h _ _ _ h1e ι b w _ ha hd ?_
          intro κ b1 w1 E hd1 ha1 hE
          cases hE
          exact ih a1 h1 hi κ b1 w1 ha1 (hd1.post hp)
        · rename_i hne
          refine ihx a h _ _ _ hi ι b w _ ha hd ?_
          intro κ b1 w1 E hd1 ha1 hE
          have hq := hp κ b1 w1 E hd1 ha1 hE
          cases hE with
          | normal => exact absurd hi (hne _ _)
          | _ => exact hq
    exact key N a h hr ι b w ha hp
  | exit id =>
    intro a h e a' h' hr ι b w Q ha hd hp
    simp only [exec, Option.some.injEq, Prod.mk.injEq] at hr
    obtain ⟨rfl, rfl, rfl⟩ := hr
    exact wp_exit (hp ι b w _ (.refl ha.st) ha (.exit id))
  | ret =>
    intro a h e a' h' hr ι b w Q ha hd hp
    simp only [exec, Option.some.injEq, Prod.mk.injEq] at hr
    obtain ⟨rfl, rfl, rfl⟩ := hr
    exact wp_ret (hp ι b w _ (.refl ha.st) ha .ret)
  | _ => intro a h e a' h' hr; simp [exec] at hr
end
end Go.Ai
