/- A part of the proof of ConsoleRuns: AiDraw4. -/
import Derived.Test.YtngchkhbhcgmhaaGreatDoorAiDraw3
set_option linter.unusedVariables false
set_option linter.unusedSimpArgs false
set_option linter.unusedSectionVars false
set_option linter.unnecessarySimpa false
/- A drawn region's step, told of places: what the model's own step does. -/
namespace Go.Ai
open Classical

section
variable {P : Program} {X : Cx} {K : CallK} {ι κ : Emb} {w w' : World} {ob ob' ob2 : Nat → Option AO} {hs h' : H} {ops : List Oper}

/-- a step, as it goes on -/
def StepTo (P : Program) (o : Oper) (b : Act) (w : World) (R : Ending → World → Prop) : Prop :=
  (∃ z w', ((execOp b.eval o).run P w = .ok (.value z) w' ∨ ((execOp b.eval o).run P w = .ok .skip w' ∧ z = undef)) ∧ R (.returned z) w') ∨
  (∃ f xs, (execOp b.eval o).run P w = .ok (.enter f xs) w ∧ Calls P f xs w R)

theorem StepTo.mono {o : Oper} {b : Act} {R R' : Ending → World → Prop} (h : StepTo P o b w R) (hr : ∀ e w, R e w → R' e w) : StepTo P o b w R' := by
  rcases h with ⟨z, w', a, c⟩ | ⟨f, xs, a, c⟩
  · exact .inl ⟨z, w', a, hr _ _ c⟩
  · exact .inr ⟨f, xs, a, c.mono hr⟩

theorem StepTo.wp {o : Oper} {b : Act} {R : Ending → World → Prop} {next : Act → World → Prop} {Q : Exit → Act → World → Prop} (h : StepTo P o b w R)
    (h1 : ∀ z w', R (.returned z) w' → next (b.put o.dst z) w') (h2 : ∀ c w', R (.panicked c) w' → Q (.panic c) b w') (h3 : ∀ w', ¬ R .outgrown w') : o.wp P b w next Q := by
  unfold Oper.wp
  rcases h with ⟨z, w', a | ⟨a, rfl⟩, c⟩ | ⟨f, xs, a, c⟩
  · rw [a]; exact h1 z w' c
  · rw [a]; exact h1 _ w' c
  · rw [a]
    refine c.mono ?_
    intro e w' he
    cases e with
    | returned z => exact h1 z w' he
    | panicked c => exact h2 c w' he
    | outgrown => exact absurd he (h3 w')

theorem StepTo.ex {o : Oper} {b : Act} {R : Ending → World → Prop} (h : StepTo P o b w R) : ∃ e w', R e w' := by
  rcases h with ⟨z, w', a, c⟩ | ⟨f, xs, a, c⟩
  · exact ⟨_, _, c⟩
  · obtain ⟨e, w', _, r, _⟩ := c []
    exact ⟨e, w', r⟩

/-- where a step on a part of memory leads -/
structure Went (P : Program) (ob : Nat → Option AO) (ι : Emb) (w : World) (m n n' : Nat) (ob2 : Nat → Option AO) (κ : Emb) (w' : World) : Prop where
  rel : HRel P ob2 κ w'
  grow : Grow ob ι m w ob2 κ w'
  fit : ∀ F g L, κ F g = some L → L.p + L.m ≤ L.N
  new : ∀ F g, κ F g ≠ none → ι F 0 ≠ none ∨ (n ≤ F ∧ F < n')

theorem part_step {m : Nat} (whole : HRel P ob ι w) (fit : ∀ F g L, ι F g = some L → L.p + L.m ≤ L.N) (part : ∀ F o, hs.obj F = some o → F < hs.nx ∧ ob F = some o)
    (done : Done P hs (ι.cut hs.nx) w h' κ w') (gap : ∀ F, hs.nx ≤ F → F < h'.nx → ob F = none ∧ ∀ g, ι F g = none) (hm : m ≤ hs.nx) (hov : mergeO ob hs.obj h'.obj hs.nx h'.nx = ob2) :
    ∃ κ', Emb.le κ κ' ∧ Went P ob ι w m hs.nx h'.nx ob2 κ' w' := by
  have hS : Split P ob hs.obj h'.obj ι κ w w' hs.nx h'.nx := ⟨whole, part, done.rel, done.grow, fun F g h => done.bd F g h, gap⟩
  subst hov
  refine ⟨mergeE ι κ hs.obj hs.nx h'.nx, hS.le2, hS.merge, hS.growth hm, ?_, ?_⟩
  · intro F g L hl
    unfold mergeE at hl
    split at hl
    · exact done.fit F g L hl
    · exact fit F g L hl
  · intro F g hl
    unfold mergeE at hl
    split at hl
    · rename_i hp
      unfold inPart at hp
      split at hp
      · rename_i hlt
        cases ho : hs.obj F with
        | none => rw [ho] at hp; cases hp
        | some o => exact .inl (whole.emb F o (part F o ho).2)
      · exact .inr ⟨by omega, by simpa using hp⟩
    · cases hi : ι F g with
      | none => exact absurd hi hl
      | some L => exact .inl (whole.root F g L hi)

theorem OBd.sub {n : Nat} (hb : OBd n ob) (hp : ∀ F o, ob' F = some o → ob F = some o) : OBd n ob' :=
  ⟨fun F f ho => hb.cells F f (hp F _ ho), fun F es ck ho => hb.map F es ck (hp F _ ho)⟩

theorem OBd.of_none {n : Nat} (hn : ∀ F, ob F = none) : OBd n ob where
  cells F f ho := by rw [hn F] at ho; cases ho
  map F es ck ho := by rw [hn F] at ho; cases ho

/-- a part of the memory, as a state to run on -/
theorem St.part (whole : HRel P ob ι w) (fit : ∀ F g L, ι F g = some L → L.p + L.m ≤ L.N) (glob : GRel P ι) (gl : ∀ (g : Nat) (x : Global) (n : Nat), P.globals[g]? = some x → tsz P x.type = some n → g < hs.nx)
    (part : ∀ F o, hs.obj F = some o → F < hs.nx ∧ ob F = some o) (hb : OBd hs.nx hs.obj) : St P hs (ι.cut hs.nx) w where
  rel := whole.toPart part hb
  bd := fun F g h => Emb.cut_ge ι g h
  fit := fun F g L h => fit F g L (Emb.cut_le ι _ _ _ _ h)
  glob := fun g x n h1 h2 => by
    obtain ⟨L, a, b⟩ := glob g x n h1 h2
    exact ⟨L, by rw [Emb.cut_lt ι _ (gl g x n h1 h2)]; exact a, b⟩

/-- a temporary's look -/
def TF (P : Program) (ι : Emb) (t : Nat → Option AV) (m : Array Value) : Prop := ∀ d v, t d = some v → ∃ x, m[d]? = some x ∧ VRel P ι v x

theorem evF_rel {t : Nat → Option AV} {b : Act} (ht : TF P ι t b.tmps) (hg : GRel P ι) {y : Operand} {v : AV} (he : evF P t y = some v) : VRel P ι v (b.eval y) := by
  cases y with
  | tmp n =>
    obtain ⟨x, h1, h2⟩ := ht n v he
    simp only [Act.eval]
    rw [show b.tmps.getD n undef = x by rw [Array.getD_eq_getD_getElem?, h1]; rfl]
    exact h2
  | const c => exact ev_rel (t := .lf) (fun d v h => by cases h) hg he
  | global g => exact ev_rel (t := .lf) (fun d v h => by cases h) hg he
  | func f => exact ev_rel (t := .lf) (fun d v h => by cases h) hg he

noncomputable def only (e : Env) (op : Op) : Env := fun y => if y ∈ op.operands then e y else none

theorem only_opA {e : Env} {op : Op} {h : H} : opA P X h (only e op) op = opA P X h e op := opA_congr op (fun y hy => by unfold only; rw [if_pos hy])

/-- what a step says of its own heaps -/
structure Own1 (P : Program) (x : It) : Prop where
  le : x.i.h0.nx ≤ x.i.h1.nx
  lt1 : ∀ F o, x.i.h1.obj F = some o → F < x.i.h1.nx
  eq : over P x x.i.h0.obj = x.i.h1.obj

def stp (x : It) (M : Nat) : Nat × Nat := (x.i.h0.nx, x.i.h1.nx)

theorem step_core (hx : ExtOk P X) (hK : KOk P K) {x : It} {t : Nat → Option AV} {b : Act} {r : ARes} {m M : Nat}
    (opnds : ∀ y ∈ x.i.o.op.operands, evF P t y = ev P x.i.t y) (rd : clsOf P x.i.o.op = .load → Rd P x ob) (foot : ∀ F, Foot P x F → ob F = x.i.h0.obj F) (ran : x.i.ran = true)
    (hard0 : clsOf P x.i.o.op = .hard → ∀ F, F < x.i.h0.nx → ob F = x.i.h0.obj F)
    (hstep : drawStep P X K x.i.h0 x.i.t x.i.o = some (r, x.i.h1)) (hr' : clsOf P x.i.o.op ≠ .hard → r = .ret x.v)
    (eb : ∀ y v, ev P x.i.t y = some v → AVb x.i.h0.nx v) (b0 : OBd x.i.h0.nx x.i.h0.obj) (lt0 : ∀ F o, x.i.h0.obj F = some o → F < x.i.h0.nx)
    (whole : HRel P ob ι w) (tr : TF P ι t b.tmps) (glob : GRel P ι) (gl : ∀ (g : Nat) (y : Global) (n : Nat), P.globals[g]? = some y → tsz P y.type = some n → g < x.i.h0.nx)
    (fit : ∀ F g L, ι F g = some L → L.p + L.m ≤ L.N) (bd : ∀ F g, M ≤ F → ι F g = none) (gap : ∀ F, x.i.h0.nx ≤ F → F < x.i.h1.nx → ob F = none ∧ ∀ g, ι F g = none)
    (hm : m ≤ x.i.h0.nx) (hM : x.i.h0.nx ≤ M) :
    StepTo P x.i.o b w (fun en w' => ∃ κ, Went P ob ι w m x.i.h0.nx x.i.h1.nx (over P x ob) κ w' ∧ EndRel P κ r en ∧ Own1 P x) := by
  have he : ∀ (n : Nat), (∀ y v, ev P x.i.t y = some v → AVb n v) → ∀ y v, only (ev P x.i.t) x.i.o.op y = some v → VRel P (ι.cut n) v (b.eval y) := by
    intro n hn y v hv
    unfold only at hv
    split at hv
    · rename_i hy
      exact (evF_rel tr glob (by rw [opnds y hy]; exact hv)).cut (hn y v hv)
    · cases hv
  have ltM : ∀ F o, ob F = some o → F < M := by
    intro F o ho
    apply Nat.lt_of_not_le
    intro h
    exact whole.emb F o ho (bd F 0 h)
  have obM : OBd M ob := whole.bounds (fun F g L h => by
    apply Nat.lt_of_not_le
    intro h'
    rw [bd F g h'] at h
    cases h)
  have eM : ∀ y v, y ∈ x.i.o.op.operands → ev P x.i.t y = some v → VRel P (ι.cut M) v (b.eval y) := by
    intro y v hy hv
    have h1 := evF_rel tr glob (by rw [opnds y hy]; exact hv)
    exact h1.mono (fun F g L h => by
      unfold Emb.cut
      rw [if_pos]
      · exact h
      · apply Nat.lt_of_not_le
        intro h'
        rw [bd F g h'] at h
        cases h)
  have heM : ∀ y v, only (ev P x.i.t) x.i.o.op y = some v → VRel P (ι.cut M) v (b.eval y) := by
    intro y v hv
    unfold only at hv
    split at hv
    · rename_i hy; exact eM y v hy hv
    · cases hv
  have glM : ∀ (g : Nat) (y : Global) (n : Nat), P.globals[g]? = some y → tsz P y.type = some n → g < M := fun g y n h1 h2 => Nat.lt_of_lt_of_le (gl g y n h1 h2) hM
  cases hc : clsOf P x.i.o.op with
  | pure =>
    have hr2 := hr' (by rw [hc]; simp)
    subst hr2
    unfold drawStep at hstep
    rw [hc] at hstep
    simp only at hstep
    split at hstep
    · rename_i v h2 ho
      simp only [Option.some.injEq, Prod.mk.injEq] at hstep
      obtain ⟨hv, hh⟩ := hstep
      cases hv
      have := pure_heap hc ho
      subst this
      let hs : H := ⟨x.i.h0.nx, .lf⟩
      have hpart : ∀ F o, hs.obj F = some o → F < hs.nx ∧ ob F = some o := fun F o h => by cases h
      have hst : St P hs (ι.cut hs.nx) w := St.part (hs := hs) whole fit glob gl hpart (.of_none (fun F => rfl))
      rw [← only_opA] at ho
      obtain ⟨z, w', κ, q1, q2, q3⟩ := opA_sim hx hst (he _ eb) x.i.o ho
      have hno : ∀ F, ¬ Foot P x F := fun F hf => by have := hf.2; rw [hc] at this; exact this
      have hov : ∀ ob, over P x ob = ob := fun ob => funext fun F => over_ne (hno F)
      obtain ⟨κ', p1, p2⟩ := part_step (m := m) whole fit hpart q3 (fun F h1 h2 => absurd (Nat.lt_of_le_of_lt h1 h2) (Nat.lt_irrefl _)) hm (ob2 := ob) (by
        funext F
        unfold mergeO inPart
        by_cases hF : F < hs.nx
        · rw [if_neg]
          rw [if_pos hF]
          show ¬ ((Tr.lf.get F : Option AO).isSome = true)
          simp [Tr.get]
        · rw [if_neg]
          rw [if_neg hF]
          simpa using hF)
      refine .inl ⟨z, w', q1, κ', ?_, .ret (q2.mono p1), ⟨by rw [hh]; exact Nat.le_refl _, by rw [← hh]; exact lt0, by rw [hov, hh]⟩⟩
      rw [hov]
      exact ⟨p2.rel, p2.grow, p2.fit, fun F g h => (p2.new F g h).imp id (fun q => absurd q.2 (Nat.not_lt.2 q.1))⟩
    · cases hstep
  | load =>
    have hr2 := hr' (by rw [hc]; simp)
    subst hr2
    unfold drawStep at hstep
    rw [hc] at hstep
    simp only at hstep
    split at hstep
    · rename_i v ho
      simp only [Option.some.injEq, Prod.mk.injEq] at hstep
      obtain ⟨hv, hh⟩ := hstep
      cases hv
      have hrd := rd hc
      let tr0 : Tr AO := match addrL P x.i with
        | some F => match ob F with
          | some o => Tr.lf.set F o
          | none => .lf
        | none => .lf
      let hs : H := ⟨M, tr0⟩
      have hpart' : ∀ F o, hs.obj F = some o → ob F = some o := by
        intro F o h
        show ob F = some o
        have h' : tr0.get F = some o := h
        cases ha : addrL P x.i with
        | none => simp only [tr0, ha] at h'; cases h'
        | some G =>
          cases hG : ob G with
          | none => simp only [tr0, ha, hG] at h'; cases h'
          | some o' =>
            simp only [tr0, ha, hG, Tr.get_set] at h'
            split at h'
            · rename_i e; rw [e, hG]; exact h'
            · cases h'
      have hpart : ∀ F o, hs.obj F = some o → F < hs.nx ∧ ob F = some o := fun F o h => ⟨ltM F o (hpart' F o h), hpart' F o h⟩
      have hst : St P hs (ι.cut hs.nx) w := St.part (hs := hs) whole fit glob glM hpart (obM.sub hpart')
      have hread : readA P hs (ev P x.i.t) x.i.o.op = some x.v := hrd.to (fun F hF => by
        show tr0.get F = ob F
        cases hG : ob F with
        | none => simp only [tr0, hF, hG]; rfl
        | some o' => simp only [tr0, hF, hG, Tr.get_set]; simp)
      have ho2 := load_step (X := X) hc hread
      rw [← only_opA] at ho2
      obtain ⟨z, w', κ, q1, q2, q3⟩ := opA_sim hx hst heM x.i.o ho2
      have hno : ∀ F, ¬ Foot P x F := fun F hf => by have := hf.2; rw [hc] at this; exact this
      have hov : ∀ ob, over P x ob = ob := fun ob => funext fun F => over_ne (hno F)
      obtain ⟨κ', p1, p2⟩ := part_step (m := m) whole fit hpart q3 (fun F h1 h2 => absurd (Nat.lt_of_le_of_lt h1 h2) (Nat.lt_irrefl _)) (Nat.le_trans hm hM) (ob2 := ob) (by
        funext F
        unfold mergeO inPart
        by_cases hF : F < hs.nx
        · rw [if_pos hF]
          cases hO : hs.obj F with
          | none => simp
          | some o => simp [hpart' F o hO]
        · rw [if_neg]
          rw [if_neg hF]
          simpa using hF)
      refine .inl ⟨z, w', q1, κ', ?_, .ret (q2.mono p1), ⟨by rw [hh]; exact Nat.le_refl _, by rw [← hh]; exact lt0, by rw [hov, hh]⟩⟩
      rw [hov]
      exact ⟨p2.rel, p2.grow, p2.fit, fun F g h => (p2.new F g h).imp id (fun q => absurd q.2 (Nat.not_lt.2 q.1))⟩
    · cases hstep
  | store =>
    have hr2 := hr' (by rw [hc]; simp)
    subst hr2
    unfold drawStep at hstep
    rw [hc] at hstep
    simp only at hstep
    split at hstep
    · rename_i v h1 ho
      simp only [Option.some.injEq, Prod.mk.injEq] at hstep
      obtain ⟨hv, hh⟩ := hstep
      injection hv with hv
      obtain ⟨F, f, f', ⟨tt, aa, xx, gg, oo, nn, hop, hea⟩, hF, hq, hall⟩ := store_step hc ho
      injection hq with hq1 hq2
      rw [hq2] at hh
      have hadr : addrF P x.i = some F := by unfold addrF; rw [hop]; simp only [hea]
      have hfo : ∀ G, Foot P x G ↔ G = F := by
        intro G
        unfold Foot
        rw [hc]
        simp only [ran, true_and, hadr, Option.some.injEq]
        exact eq_comm
      have hobF : ob F = some (.cells f) := by rw [foot F ((hfo F).2 rfl)]; exact hF
      let hs : H := ⟨M, Tr.lf.set F (.cells f)⟩
      have hobj : ∀ G, hs.obj G = if G = F then some (.cells f) else none := fun G => Tr.get_set .lf F G _
      have hpart' : ∀ G o, hs.obj G = some o → ob G = some o := by
        intro G o h
        rw [hobj] at h
        split at h
        · rename_i e; rw [e, hobF]; exact h
        · cases h
      have hpart : ∀ F o, hs.obj F = some o → F < hs.nx ∧ ob F = some o := fun F o h => ⟨ltM F o (hpart' F o h), hpart' F o h⟩
      have hst : St P hs (ι.cut hs.nx) w := St.part (hs := hs) whole fit glob glM hpart (obM.sub hpart')
      have ho2 := hall hs (by rw [hobj, if_pos rfl])
      rw [← only_opA] at ho2
      obtain ⟨z, w', κ, q1, q2, q3⟩ := opA_sim hx hst heM x.i.o ho2
      have hput : ∀ G, x.i.h1.obj G = if G = F then some (.cells f') else x.i.h0.obj G := fun G => by rw [← hh, obj_put]
      obtain ⟨κ', p1, p2⟩ := part_step (m := m) whole fit hpart q3 (fun F h1 h2 => absurd (Nat.lt_of_le_of_lt h1 h2) (Nat.lt_irrefl _)) (Nat.le_trans hm hM) (ob2 := over P x ob) (by
        funext G
        unfold mergeO inPart over
        by_cases hG : G = F
        · subst hG
          have hlt : G < hs.nx := ltM G _ hobF
          rw [if_pos hlt, hobj, if_pos rfl, if_pos ((hfo G).2 rfl), if_pos (show (some (AO.cells f)).isSome = true from rfl), obj_put_self, hput, if_pos rfl]
        · rw [if_neg (fun q => hG ((hfo G).1 q))]
          by_cases hlt : G < hs.nx
          · rw [if_pos hlt, hobj, if_neg hG]; simp
          · rw [if_neg hlt, if_neg]
            have h3 : ¬ G < M := hlt
            show ¬ (decide (G < M) = true)
            simpa using h3)
      refine .inl ⟨z, w', q1, κ', ⟨p2.rel, p2.grow, p2.fit, fun F g h => (p2.new F g h).imp id (fun q => absurd q.2 (Nat.not_lt.2 q.1))⟩, .ret (by rw [← hv, hq1]; exact q2.mono p1), ⟨by rw [← hh]; exact Nat.le_refl _, ?_, ?_⟩⟩
      · intro G o hG
        rw [hput] at hG
        rw [← hh]
        show G < x.i.h0.nx
        split at hG
        · rename_i e; rw [e]; exact lt0 F _ hF
        · exact lt0 G o hG
      · funext G
        unfold over
        rw [hput]
        by_cases hG : G = F
        · rw [if_pos ((hfo G).2 hG), if_pos hG]
        · rw [if_neg (fun q => hG ((hfo G).1 q)), if_neg hG]
    · rename_i f args h1 ho
      obtain ⟨F, f2, f', _, _, hq, _⟩ := store_step hc ho
      cases hq
    · cases hstep
  | alloc =>
    have hr2 := hr' (by rw [hc]; simp)
    subst hr2
    unfold drawStep at hstep
    rw [hc] at hstep
    simp only at hstep
    split at hstep
    · rename_i v h1 ho
      simp only [Option.some.injEq, Prod.mk.injEq] at hstep
      obtain ⟨hv, hh⟩ := hstep
      injection hv with hv
      obtain ⟨v', o, hq, hall⟩ := alloc_step hc ho
      injection hq with hq1 hq2
      rw [hq2] at hh
      have hfo : ∀ G, Foot P x G ↔ G = x.i.h0.nx := by
        intro G
        unfold Foot
        rw [hc]
        simp only [ran, true_and]
      let hs : H := ⟨x.i.h0.nx, .lf⟩
      have hpart : ∀ F o, hs.obj F = some o → F < hs.nx ∧ ob F = some o := fun F o h => by cases h
      have hst : St P hs (ι.cut hs.nx) w := St.part (hs := hs) whole fit glob gl hpart (.of_none (fun F => rfl))
      have ho2 := hall hs rfl
      rw [← only_opA] at ho2
      obtain ⟨z, w', κ, q1, q2, q3⟩ := opA_sim hx hst (he _ eb) x.i.o ho2
      have hnx : x.i.h1.nx = x.i.h0.nx + 1 := by rw [← hh]; rfl
      have hput : ∀ G, x.i.h1.obj G = if G = x.i.h0.nx then some o else x.i.h0.obj G := fun G => by rw [← hh, obj_new]
      obtain ⟨κ', p1, p2⟩ := part_step (m := m) whole fit hpart q3 (fun F h1 h2 => gap F h1 (by rw [hnx]; exact h2)) hm (ob2 := over P x ob) (by
        funext G
        unfold mergeO inPart over
        by_cases hG : G = x.i.h0.nx
        · subst hG
          rw [if_neg (Nat.lt_irrefl _ : ¬ x.i.h0.nx < hs.nx), if_pos ((hfo _).2 rfl), hput, if_pos rfl]
          rw [if_pos (by simp [hs, H.new])]
          exact obj_new_self hs o
        · rw [if_neg (fun q => hG ((hfo G).1 q))]
          by_cases hlt : G < hs.nx
          · rw [if_pos hlt, if_neg]
            show ¬ ((Tr.lf.get G : Option AO).isSome = true)
            simp [Tr.get]
          · rw [if_neg hlt, if_neg]
            have h3 : ¬ G < x.i.h0.nx := hlt
            show ¬ (decide (G < x.i.h0.nx + 1) = true)
            simp only [decide_eq_true_eq]
            omega)
      refine .inl ⟨z, w', q1, κ', ⟨p2.rel, p2.grow, p2.fit, fun F g h => (p2.new F g h).imp id (fun q => ⟨q.1, by rw [hnx]; exact q.2⟩)⟩, .ret (by rw [← hv, hq1]; exact q2.mono p1), ⟨by omega, ?_, ?_⟩⟩
      · intro G o' hG
        rw [hput] at hG
        split at hG
        · omega
        · have := lt0 G o' hG; omega
      · funext G
        unfold over
        rw [hput]
        by_cases hG : G = x.i.h0.nx
        · rw [if_pos ((hfo G).2 hG), if_pos hG]
        · rw [if_neg (fun q => hG ((hfo G).1 q)), if_neg hG]
    · rename_i f args h1 ho
      obtain ⟨v', o, hq, hall⟩ := alloc_step hc ho
      cases hq
    · cases hstep
  | hard =>
    unfold drawStep at hstep
    rw [hc] at hstep
    simp only at hstep
    have hh0 := hard0 hc
    have hpart : ∀ F o, x.i.h0.obj F = some o → F < x.i.h0.nx ∧ ob F = some o := fun F o h => ⟨lt0 F o h, by rw [hh0 F (lt0 F o h)]; exact h⟩
    have hst : St P x.i.h0 (ι.cut x.i.h0.nx) w := St.part (hs := x.i.h0) whole fit glob gl hpart b0
    have fin : ∀ κ w', Done P x.i.h0 (ι.cut x.i.h0.nx) w x.i.h1 κ w' → ∃ κ', Emb.le κ κ' ∧ Went P ob ι w m x.i.h0.nx x.i.h1.nx (over P x ob) κ' w' ∧ Own1 P x := by
      intro κ w' q3
      have hle := q3.nx
      have hfo : ∀ G, Foot P x G ↔ G < x.i.h1.nx := by
        intro G
        unfold Foot
        rw [hc]
        simp only [ran, true_and]
      have hlt1 : ∀ F o, x.i.h1.obj F = some o → F < x.i.h1.nx := by
        intro F o ho
        apply Nat.lt_of_not_le
        intro h
        exact q3.rel.emb F o ho (q3.bd F 0 h)
      obtain ⟨κ', p1, p2⟩ := part_step (m := m) whole fit hpart q3 gap hm (ob2 := over P x ob) (by
        funext G
        unfold mergeO inPart over
        by_cases hlt : G < x.i.h0.nx
        · rw [if_pos hlt, if_pos ((hfo G).2 (by omega))]
          cases hO : x.i.h0.obj G with
          | none => simp [(q3.grow.absent G hlt hO).1, hh0 G hlt, hO]
          | some o => simp
        · rw [if_neg hlt]
          by_cases h2 : G < x.i.h1.nx
          · rw [if_pos ((hfo G).2 h2), if_pos (by simpa using h2)]
          · rw [if_neg (fun q => h2 ((hfo G).1 q)), if_neg (by simpa using h2)])
      refine ⟨κ', p1, p2, hle, hlt1, ?_⟩
      funext G
      unfold over
      by_cases h2 : G < x.i.h1.nx
      · rw [if_pos ((hfo G).2 h2)]
      · rw [if_neg (fun q => h2 ((hfo G).1 q))]
        cases ha : x.i.h0.obj G with
        | some o => have := lt0 G o ha; omega
        | none =>
          cases hb : x.i.h1.obj G with
          | none => rfl
          | some o => exact absurd (hlt1 G o hb) h2
    split at hstep
    · rename_i v h1 ho
      simp only [Option.some.injEq, Prod.mk.injEq] at hstep
      obtain ⟨hv, hh⟩ := hstep
      cases hv
      rw [← only_opA, hh] at ho
      obtain ⟨z, w', κ, q1, q2, q3⟩ := opA_sim hx hst (he _ eb) x.i.o ho
      obtain ⟨κ', p1, p2, p3⟩ := fin κ w' q3
      exact .inl ⟨z, w', q1, κ', p2, .ret (q2.mono p1), p3⟩
    · rename_i f args h1 ho
      rw [← only_opA] at ho
      obtain ⟨rfl, xs, q1, q2⟩ := opA_sim hx hst (he _ eb) x.i.o ho
      obtain ⟨fn, b1, b2⟩ := hK.body _ _ _ _ hstep
      refine .inr ⟨f, xs, q2 fn b1 b2, (hK.calls _ _ _ _ _ _ w xs hstep hst q1).mono ?_⟩
      rintro en w' ⟨κ, r1, r2⟩
      obtain ⟨κ', p1, p2, p3⟩ := fin κ w' r1
      refine ⟨κ', p2, ?_, p3⟩
      cases r2 with
      | ret hv => exact .ret (hv.mono p1)
      | panic hv => exact .panic (hv.mono p1)
    · cases hstep
end
end Go.Ai
