/- A part of the proof of ConsoleRuns: AiDraw6. -/
import Derived.Test.YtngchkhbhcgmhaaGreatDoorAiDraw5
set_option linter.unusedVariables false
set_option linter.unusedSimpArgs false
set_option linter.unusedSectionVars false
set_option linter.unnecessarySimpa false
/- Drawn regions: every allowed order leads where the text's own leads. -/
namespace Go.Ai
open Classical

section
variable {P : Program} {X : Cx} {K : CallK} {ι κ : Emb} {w w' : World}

/-- between two steps -/
structure Rl (P : Program) (all : List Oper) (a0 : AAct) (h : H) (ι0 : Emb) (w0 : World) (nt N : Nat) (L : List It) (t : Nat → Option AV) (ob : Nat → Option AO) (ι : Emb) (b : Act) (w : World) : Prop where
  rel : HRel P ob ι w
  tr : TF P ι t b.tmps
  glob : GRel P ι
  fit : ∀ F g L, ι F g = some L → L.p + L.m ≤ L.N
  bd : ∀ F g, N ≤ F → ι F g = none
  fresh : ∀ x ∈ L, ∀ F, x.i.h0.nx ≤ F → F < x.i.h1.nx → ob F = none ∧ ∀ g, ι F g = none
  grow : Grow h.obj ι0 h.nx w0 ob ι w
  sz : nt ≤ b.tmps.size
  ds : DsRel P ι a0.ds b.defers
  keepT : ∀ d, (∀ o ∈ all, o.dst ≠ some d) → t d = a0.t.get d

theorem wantedF_rel {ops : Array Oper} {t : Nat → Option AV} {m : Array Value} {o : Oper} {b : Bool} (ht : TF P ι t m) (hw : wantedF ops.toList t o = some b) : Region.wanted o (yielded ops m) = b := by
  unfold wantedF at hw
  unfold Region.wanted
  split at hw
  · rename_i hg
    cases hw
    rw [hg]
  · rename_i j want hg
    rw [hg]
    simp only
    have key : ∀ r, yieldF ops.toList t j = some r → yielded ops m j = r := by
      intro r hy
      unfold yieldF at hy
      split at hy
      · rename_i o' ho
        have ho' : ops[j]? = some o' := by simpa using ho
        split at hy
        · rename_i d hd
          split at hy
          · rename_i c hc
            cases hy
            obtain ⟨x, a, hx⟩ := ht d _ hc
            cases hx
            simp [yielded, ho', hd, a]
          · rename_i l hc
            cases hy
            obtain ⟨x, a, hx⟩ := ht d _ hc
            cases hx
            simp [yielded, ho', hd, a]
          · cases hy
        · cases hy
      · cases hy
    split at hw
    · rename_i c hy
      cases hw
      rw [key _ hy]
      cases c <;> cases want <;> rfl
    · rename_i hy
      cases hw
      rw [key _ hy]
      rfl
    · cases hw

theorem TF.put {t : Nat → Option AV} {b : Act} (ht : TF P ι t b.tmps) {d : Option Tmp} {v : AV} {z : Value} (hv : VRel P ι v z) (hd : ∀ e, d = some e → e < b.tmps.size) : TF P ι (updT t d v) (b.put d z).tmps := by
  cases d with
  | none => exact ht
  | some d =>
    intro e v' he
    simp only [updT] at he
    have hlt := hd d rfl
    simp only [Act.put]
    split at he
    · rename_i q
      subst q
      cases he
      exact ⟨z, by rw [Array.getElem?_setIfInBounds_self_of_lt hlt], hv⟩
    · rename_i q
      obtain ⟨x, h1, h2⟩ := ht e v' he
      exact ⟨x, by rw [Array.getElem?_setIfInBounds_ne (fun h => q h.symm)]; exact h1, h2⟩

theorem TF.mono {t : Nat → Option AV} {m : Array Value} (ht : TF P ι t m) (hk : Emb.le ι κ) : TF P κ t m := fun d v e => by
  obtain ⟨x, a, b⟩ := ht d v e
  exact ⟨x, a, b.mono hk⟩

theorem put_size (b : Act) (d : Option Tmp) (z : Value) : (b.put d z).tmps.size = b.tmps.size := by cases d <;> simp [Act.put]
theorem put_defers (b : Act) (d : Option Tmp) (z : Value) : (b.put d z).defers = b.defers := by cases d <;> rfl

/-- what the region is told of -/
structure Told (P : Program) (X : Cx) (K : CallK) (all : List Oper) (h : H) (its : List It) (N : Nat) : Prop where
  good : ∀ x ∈ its, Good P X K x ∧ h.nx ≤ x.i.h0.nx ∧ x.i.h1.nx ≤ N
  apart : its.Pairwise (fun a b => a.i.h1.nx ≤ b.i.h0.nx)
  pos : ∀ (j : Nat) (x : It), its[j]? = some x → x.k = j ∧ all[j]? = some x.i.o
  turn : ∀ (j i : Nat) (p q : It), j < i → its[j]? = some p → its[i]? = some q → Nat.testBit ((befores all).getD i 0) j = false → Turn P all p q
  le : h.nx ≤ N

theorem told_of {all : List Oper} {h : H} {its : List It} {N : Nat} (hst : Stat P all) (hdyn : dynOk P (befores all) (its.map (·.i)) = true) (good : ∀ x ∈ its, Good P X K x ∧ h.nx ≤ x.i.h0.nx ∧ x.i.h1.nx ≤ N)
    (apart : its.Pairwise (fun a b => a.i.h1.nx ≤ b.i.h0.nx)) (pos : ∀ (j : Nat) (x : It), its[j]? = some x → x.k = j ∧ all[j]? = some x.i.o) (le : h.nx ≤ N) : Told P X K all h its N := by
  refine ⟨good, apart, pos, ?_, le⟩
  intro j i p q hji hp hq hbit
  have hp' := (pos j p hp).2
  have hq' := (pos i q hq).2
  have hpi : (its.map (·.i))[j]? = some p.i := by rw [List.getElem?_map, hp]; rfl
  have hqi : (its.map (·.i))[i]? = some q.i := by rw [List.getElem?_map, hq]; rfl
  have hm : mayTurn P p.i.o q.i.o = true := by
    rcases hst.pair j i _ _ hji hp' hq' with h1 | h1
    · rw [hbit] at h1; cases h1
    · exact h1
  have hd : dynPair P p.i q.i = true := by
    rcases dyn_of hdyn hji hpi hqi with h1 | h1
    · rw [hbit] at h1; cases h1
    · exact h1
  have hap : p.i.h1.nx ≤ q.i.h0.nx := by
    have h1 := List.getElem?_eq_some_iff.1 hp
    have h2 := List.getElem?_eq_some_iff.1 hq
    obtain ⟨l1, e1⟩ := h1
    obtain ⟨l2, e2⟩ := h2
    have := List.pairwise_iff_getElem.1 apart j i l1 l2 hji
    rw [e1, e2] at this
    exact this
  refine Turn.of (good p (List.mem_of_getElem? hp)).1.fact (good q (List.mem_of_getElem? hq)).1.fact hap hm hd (fun d hd1 => hst.dst j i _ _ d (by omega) hp' hq' hd1) ?_ ?_
  · intro g b o d hg ho hod hjd
    obtain ⟨g1, g2⟩ := hst.guard i _ g b hq' hg
    have : g ≠ j := by
      rintro rfl
      rw [hbit] at g2
      cases g2
    exact hst.dst g j o _ d this ho hp' hod hjd
  · intro g b o d hg ho hod hid
    obtain ⟨g1, g2⟩ := hst.guard j _ g b hp' hg
    exact hst.dst g i o _ d (by omega) ho hq' hod hid

variable {all : List Oper} {a0 : AAct} {h : H} {ι0 : Emb} {w0 : World} {nt N : Nat}

/-- one step of the region's -/
theorem step_any (hx : ExtOk P X) (hK : KOk P K) {ops : Array Oper} {Q : Exit → Act → World → Prop} {Kn : Act → World → Prop} {l1 l2 : List It} {x : It} {t t' : Nat → Option AV} {ob ob' : Nat → Option AO} {b : Act}
    (hr : Rl P ops.toList a0 h ι0 w0 nt N (l1 ++ x :: l2) t ob ι b w) (hg : Good P X K x) (hlo : h.nx ≤ x.i.h0.nx) (hhi : x.i.h1.nx ≤ N) (hap : ∀ y ∈ l1 ++ l2, y.i.h1.nx ≤ x.i.h0.nx ∨ x.i.h1.nx ≤ y.i.h0.nx)
    (hat : ops[x.k]? = some x.i.o) (hgl : ∀ (g : Nat) (y : Global) (n : Nat), P.globals[g]? = some y → tsz P y.type = some n → g < h.nx) (hdn : ∀ d, x.i.o.dst = some d → d < nt)
    (hsp : Sp P ops.toList x t ob t' ob') (hK' : ∀ κ b' w', Rl P ops.toList a0 h ι0 w0 nt N (l1 ++ l2) t' ob' κ b' w' → Kn b' w') : wpOp P ops Q x.k Kn b w := by
  have hmem : x.i.o ∈ ops.toList := List.mem_of_getElem? (by simpa using hat)
  have hkeep : ∀ (t' : Nat → Option AV) (v : AV), t' = updT t x.i.o.dst v → ∀ d, (∀ o ∈ ops.toList, o.dst ≠ some d) → t' d = a0.t.get d := by
    intro t' v e d hd
    rw [e, updT_ne t v (hd _ hmem)]
    exact hr.keepT d hd
  have hdsz : ∀ d, x.i.o.dst = some d → d < b.tmps.size := fun d hd => Nat.lt_of_lt_of_le (hdn d hd) hr.sz
  unfold wpOp
  simp only [hat]
  have hwant := wantedF_rel hr.tr hsp.wanted
  rw [hwant]
  cases hran : x.i.ran with
  | false =>
    simp only [Bool.false_eq_true, if_false]
    have hno : ∀ F, ¬ Foot P x F := fun F hf => by have := hf.1; rw [hran] at this; cases this
    have hob : ob' = ob := by rw [hsp.obj]; exact funext fun F => over_ne (hno F)
    refine hK' ι _ w ⟨by rw [hob]; exact hr.rel, ?_, hr.glob, hr.fit, hr.bd, ?_, by rw [hob]; exact hr.grow, by rw [put_size]; exact hr.sz, by rw [put_defers]; exact hr.ds, hkeep t' _ hsp.tmps⟩
    · rw [hsp.tmps, (hg.undef hran).1]
      exact hr.tr.put (.tup .nil) hdsz
    · intro y hy F h1 h2
      rw [hob]
      exact hr.fresh y (by
        rcases List.mem_append.1 hy with h3 | h3
        · exact List.mem_append_left _ h3
        · exact List.mem_append_right _ (List.mem_cons_of_mem _ h3)) F h1 h2
  | true =>
    simp only [if_true]
    left
    have hle := hg.fact.le
    have hcore := step_core (ob := ob) (x := x) (t := t) (b := b) (r := .ret x.v) (m := h.nx) (M := N) hx hK (hsp.opnds hran) (hsp.rd hran) hsp.foot hran
      (fun hc F hF => hsp.foot F (by unfold Foot; rw [hc]; exact ⟨hran, by simp only; omega⟩)) (hg.step hran) (fun _ => rfl)
      hg.eb hg.b0 hg.fact.lt0 hr.rel hr.tr hr.glob (fun g y n h1 h2 => Nat.lt_of_lt_of_le (hgl g y n h1 h2) hlo) hr.fit hr.bd
      (fun F h1 h2 => hr.fresh x (by simp) F h1 h2) hlo (by omega)
    refine hcore.wp ?_ ?_ ?_
    · rintro z w1 ⟨κ, hwent, hend, hown⟩
      cases hend with
      | ret hv =>
        refine hK' κ _ w1 ⟨by rw [hsp.obj]; exact hwent.rel, ?_, hr.glob.mono hwent.grow.le, hwent.fit, ?_, ?_, ?_, by rw [put_size]; exact hr.sz, by rw [put_defers]; exact hr.ds.mono hwent.grow.le, hkeep t' _ hsp.tmps⟩
        · rw [hsp.tmps]
          exact (hr.tr.mono hwent.grow.le).put hv hdsz
        · intro F g hF
          cases hk : κ F g with
          | none => rfl
          | some L =>
            rcases hwent.new F g (by rw [hk]; simp) with h5 | h5
            · exact absurd (hr.bd F 0 hF) h5
            · omega
        · intro y hy F h1 h2
          have hy' : y ∈ l1 ++ x :: l2 := by
            rcases List.mem_append.1 hy with h3 | h3
            · exact List.mem_append_left _ h3
            · exact List.mem_append_right _ (List.mem_cons_of_mem _ h3)
          obtain ⟨f1, f2⟩ := hr.fresh y hy' F h1 h2
          have hout : ¬ (x.i.h0.nx ≤ F ∧ F < x.i.h1.nx) := by
            rcases hap y hy with h3 | h3 <;> omega
          have hκ : ∀ g, κ F g = none := by
            intro g
            cases hk : κ F g with
            | none => rfl
            | some L =>
              rcases hwent.new F g (by rw [hk]; simp) with h5 | h5
              · exact absurd (f2 0) h5
              · exact absurd h5 hout
          refine ⟨?_, hκ⟩
          rw [hsp.obj]
          cases ho : over P x ob F with
          | none => rfl
          | some o => exact absurd (hκ 0) (hwent.rel.emb F o ho)
        · rw [hsp.obj]
          exact hr.grow.trans hwent.grow (Nat.le_refl _)
    · rintro c w1 ⟨κ, hwent, hend, hown⟩
      cases hend
    · rintro w1 ⟨κ, hwent, hend, hown⟩
      cases hend

/-- the indexes that have been run -/
structure Lst (P : Program) (ops : Array Oper) (listed : Array Bool) (m : Nat) (L its : List It) : Prop where
  size : listed.size = ops.size
  iff : ∀ i, i < ops.size → (listed.getD i true = true ↔ i < m ∧ ∀ x ∈ L, x.k ≠ i)
  sub : L.Sublist its
  closed : ∀ k o, k < ops.size → listed.getD k true = true → ops[k]? = some o → ∀ e ∈ o.after.toList, Region.binds .any e = true → listed.getD e.on false = true

theorem getD_ft {a : Array Bool} {i : Nat} (h : i < a.size) : a.getD i false = a.getD i true := by
  simp [Array.getD, h]

theorem mem_ready {ops : Array Oper} {listed : Array Bool} {i : Nat} : i ∈ Region.ready .any ops listed ↔ i < ops.size ∧ listed.getD i true = false ∧ ∃ o, ops[i]? = some o ∧ ∀ e ∈ o.after.toList, Region.binds .any e = true → listed.getD e.on false = true := by
  unfold Region.ready
  rw [List.mem_filter, List.mem_range]
  constructor
  · rintro ⟨h1, h2⟩
    simp only [Bool.and_eq_true, Bool.not_eq_true'] at h2
    refine ⟨h1, h2.1, ops[i], by simp [h1], ?_⟩
    have h3 := h2.2
    simp only [Array.getElem?_eq_getElem h1, Option.map_some, Option.getD_some, Array.all_eq_true'] at h3
    intro e he hb
    have := h3 e (by simpa using he)
    simpa [hb] using this
  · rintro ⟨h1, h2, o, h3, h4⟩
    refine ⟨h1, ?_⟩
    simp only [h2, Bool.not_false, Bool.true_and, h3, Option.map_some, Option.getD_some, Array.all_eq_true']
    intro e he
    cases hb : Region.binds .any e with
    | false => rfl
    | true => simp [h4 e (by simpa using he) hb]

theorem Lst.bit {ops : Array Oper} {listed : Array Bool} {m : Nat} {L its : List It} (hl : Lst P ops listed m L its) {k : Nat} {o : Oper} (hk : ops[k]? = some o)
    (hp : ∀ e ∈ o.after.toList, Region.binds .any e = true → listed.getD e.on false = true) {i : Nat} (hi : Nat.testBit ((befores ops.toList).getD k 0) i = true) : listed.getD i false = true := by
  refine befores_closed (ops := ops.toList) (L := fun i => listed.getD i false = true) ?_ k o (by simpa using hk) hp i hi
  intro k o hk ho e he hb
  have hlt : k < ops.size := by
    have := (List.getElem?_eq_some_iff.1 ho).1
    simpa using this
  exact hl.closed k o hlt (by rw [← getD_ft (by rw [hl.size]; exact hlt)]; exact hk) (by simpa using ho) e he hb

theorem getD_false_lt {a : Array Bool} {i : Nat} (h : a.getD i false = true) : i < a.size := by
  unfold Array.getD at h
  split at h
  · assumption
  · cases h

theorem getD_set {a : Array Bool} {i k : Nat} (hi : i < a.size) (d : Bool) : (a.setIfInBounds i true).getD k d = if k = i then true else a.getD k d := by
  by_cases hk : k = i
  · subst hk
    rw [if_pos rfl, Array.getD_eq_getD_getElem?, Array.getElem?_setIfInBounds_self_of_lt hi]
    rfl
  · rw [if_neg hk, Array.getD_eq_getD_getElem?, Array.getD_eq_getD_getElem?, Array.getElem?_setIfInBounds_ne (fun h => hk h.symm)]

/-- the panic that ends a region, or none -/
def EndOk (P : Program) (X : Cx) (K : CallK) (all : List Oper) (m : Nat) (tE : Nat → Option AV) (obE : Nat → Option AO) (Qp : It → Prop) : Prop :=
  m = all.length ∨ ∃ (p : It), p.k = m ∧ all[m]? = some p.i.o ∧ p.i.ran = true ∧ clsOf P p.i.o.op = .hard ∧ p.i.t.get = tE ∧ p.i.h0.obj = obE ∧ wantedF all tE p.i.o = some true ∧ aloneOk P (befores all) all m = true ∧ Qp p

theorem any_sound (hx : ExtOk P X) (hK : KOk P K) {ops : Array Oper} {Q : Exit → Act → World → Prop} {its : List It} {tE : Nat → Option AV} {obE : Nat → Option AO} {Qp : It → Prop}
    (hst : Stat P ops.toList) (hT : Told P X K ops.toList h its N) (hE : EndOk P X K ops.toList its.length tE obE Qp)
    (hgl : ∀ (g : Nat) (y : Global) (n : Nat), P.globals[g]? = some y → tsz P y.type = some n → g < h.nx) (hdn : ∀ o ∈ ops.toList, ∀ d, o.dst = some d → d < nt)
    (hQ : its.length = ops.size → ∀ ι b w, Rl P ops.toList a0 h ι0 w0 nt N [] tE obE ι b w → Q .normal b w)
    (hP : ∀ p, Qp p → ∀ L t ι b w, Rl P ops.toList a0 h ι0 w0 nt N L t obE ι b w → (∀ y ∈ p.i.o.op.operands, evF P t y = evF P tE y) → p.i.o.wp P b w (fun _ _ => False) Q) :
    ∀ (n : Nat) (L : List It) (listed : Array Bool) (t : Nat → Option AV) (ob : Nat → Option AO) (ι : Emb) (b : Act) (w : World), Lst P ops listed its.length L its → n = L.length + (ops.size - its.length) →
      Chain P ops.toList L t ob tE obE → Rl P ops.toList a0 h ι0 w0 nt N L t ob ι b w → wpAny P .any ops Q n listed b w := by
  have hm : its.length ≤ ops.size := by
    rcases hE with h1 | ⟨p, h1, h2, _⟩
    · rw [h1]; simp
    · have := (List.getElem?_eq_some_iff.1 h2).1
      simp at this
      omega
  have hpos : ∀ x ∈ its, x.k < its.length ∧ its[x.k]? = some x ∧ ops[x.k]? = some x.i.o := by
    intro x hx
    obtain ⟨j, hj⟩ := List.mem_iff_getElem?.1 hx
    obtain ⟨e1, e2⟩ := hT.pos j x hj
    subst e1
    exact ⟨(List.getElem?_eq_some_iff.1 hj).1, hj, by simpa using e2⟩
  intro n
  induction n with
  | zero =>
    intro L listed t ob ι b w hl hn hc hr
    have hL : L = [] := List.length_eq_zero_iff.1 (by omega)
    have hsz : its.length = ops.size := by omega
    subst hL
    cases hc
    refine ⟨?_, hQ hsz ι b w hr⟩
    rw [List.eq_nil_iff_forall_not_mem]
    intro i hi
    obtain ⟨h1, h2, _⟩ := mem_ready.1 hi
    have := (hl.iff i h1).2 ⟨by omega, fun x hx => by cases hx⟩
    rw [h2] at this
    cases this
  | succ n ih =>
    intro L listed t ob ι b w hl hn hc hr
    have hLits : ∀ x ∈ L, x ∈ its := fun x hx => hl.sub.subset hx
    constructor
    · intro hnil
      exfalso
      cases hLc : L with
      | nil =>
        rcases hE with h1 | ⟨p, h1, h2, _⟩
        · subst hLc
          simp at hn h1
          omega
        · have hlt : its.length < ops.size := by
            have := (List.getElem?_eq_some_iff.1 h2).1
            simpa using this
          have : its.length ∈ Region.ready .any ops listed := by
            refine mem_ready.2 ⟨hlt, ?_, p.i.o, by simpa using h2, ?_⟩
            · cases hq : listed.getD its.length true with
              | false => rfl
              | true => have := ((hl.iff _ hlt).1 hq).1; omega
            · intro e he hb
              have hlt2 := hst.edge its.length _ h2 e he hb
              rw [getD_ft (by rw [hl.size]; omega)]
              exact (hl.iff e.on (by omega)).2 ⟨hlt2, by rw [hLc]; intro x hx; cases hx⟩
          rw [hnil] at this
          cases this
      | cons x L' =>
        obtain ⟨k1, k2, k3⟩ := hpos x (hLits x (by rw [hLc]; simp))
        have : x.k ∈ Region.ready .any ops listed := by
          refine mem_ready.2 ⟨by omega, ?_, x.i.o, k3, ?_⟩
          · cases hq : listed.getD x.k true with
            | false => rfl
            | true => exact absurd rfl (((hl.iff _ (by omega)).1 hq).2 x (by rw [hLc]; simp))
          · intro e he hb
            have hlt2 := hst.edge x.k x.i.o (by simpa using k3) e he hb
            rw [getD_ft (by rw [hl.size]; omega)]
            refine (hl.iff e.on (by omega)).2 ⟨by omega, ?_⟩
            intro y hy hye
            rw [hLc] at hy
            rcases List.mem_cons.1 hy with rfl | hy
            · omega
            · have hsub := hl.sub
              rw [hLc] at hsub
              have hord : (x :: L').Pairwise (fun a b => a.k < b.k) := by
                refine List.Pairwise.sublist hsub ?_
                rw [List.pairwise_iff_getElem]
                intro i j hi hj hij
                have e1 := (hT.pos i _ (List.getElem?_eq_getElem hi)).1
                have e2 := (hT.pos j _ (List.getElem?_eq_getElem hj)).1
                omega
              have := (List.pairwise_cons.1 hord).1 y hy
              omega
        rw [hnil] at this
        cases this
    · intro i hi
      obtain ⟨i1, i2, o, i3, i4⟩ := mem_ready.1 hi
      by_cases hlt : i < its.length
      · have hin : ∃ x ∈ L, x.k = i := by
          apply Classical.byContradiction
          intro hno
          have := (hl.iff i i1).2 ⟨hlt, fun x hx he => hno ⟨x, hx, he⟩⟩
          rw [i2] at this
          cases this
        obtain ⟨x, hxL, hxk⟩ := hin
        subst hxk
        obtain ⟨l1, l2, hLs⟩ := List.append_of_mem hxL
        subst hLs
        obtain ⟨k1, k2, k3⟩ := hpos x (hLits x hxL)
        rw [k3] at i3
        cases i3
        have hord : (l1 ++ x :: l2).Pairwise (fun a b => a.k < b.k ∧ a.i.h1.nx ≤ b.i.h0.nx) := by
          refine List.Pairwise.sublist hl.sub ?_
          rw [List.pairwise_iff_getElem]
          intro i j hi hj hij
          have e1 := (hT.pos i _ (List.getElem?_eq_getElem hi)).1
          have e2 := (hT.pos j _ (List.getElem?_eq_getElem hj)).1
          exact ⟨by omega, List.pairwise_iff_getElem.1 hT.apart i j hi hj hij⟩
        obtain ⟨p1, p2, p3⟩ := List.pairwise_append.1 hord
        have p4 := (List.pairwise_cons.1 p2).1
        have hturn : ∀ j ∈ l1, Turn P ops.toList j x := by
          intro j hj
          obtain ⟨j1, j2, j3⟩ := hpos j (hLits j (by simp [hj]))
          have hjx := (p3 j hj x (by simp)).1
          refine hT.turn j.k x.k j x hjx j2 k2 ?_
          cases hb : Nat.testBit ((befores ops.toList).getD x.k 0) j.k with
          | false => rfl
          | true =>
            have := hl.bit k3 i4 hb
            rw [getD_ft (by rw [hl.size]; omega)] at this
            exact absurd rfl (((hl.iff j.k (by omega)).1 this).2 j (by simp [hj]))
        obtain ⟨t', ob', hsp, hc'⟩ := hc.front hturn
        obtain ⟨g1, g2, g3⟩ := hT.good x (hLits x hxL)
        refine step_any hx hK hr g1 g2 g3 ?_ k3 hgl (hdn x.i.o (List.mem_of_getElem? (by simpa using k3))) hsp ?_
        · intro y hy
          rcases List.mem_append.1 hy with h3 | h3
          · exact .inl (p3 y h3 x (by simp)).2
          · exact .inr (p4 y h3).2
        · intro κ b' w' hr'
          refine ih (l1 ++ l2) _ t' ob' κ b' w' ⟨by simpa using hl.size, ?_, ?_, ?_⟩ (by simp at hn ⊢; omega) hc' hr'
          · intro k hk
            rw [getD_set (by rw [hl.size]; exact i1)]
            by_cases hkx : k = x.k
            · subst hkx
              rw [if_pos rfl]
              refine ⟨fun _ => ⟨k1, ?_⟩, fun _ => rfl⟩
              intro y hy he
              rcases List.mem_append.1 hy with h3 | h3
              · have := (p3 y h3 x (by simp)).1; omega
              · have := (p4 y h3).1; omega
            · rw [if_neg hkx, hl.iff k hk]
              constructor
              · rintro ⟨q1, q2⟩
                refine ⟨q1, fun y hy => q2 y ?_⟩
                rcases List.mem_append.1 hy with h3 | h3
                · exact List.mem_append_left _ h3
                · exact List.mem_append_right _ (List.mem_cons_of_mem _ h3)
              · rintro ⟨q1, q2⟩
                refine ⟨q1, fun y hy => ?_⟩
                rcases List.mem_append.1 hy with h3 | h3
                · exact q2 y (List.mem_append_left _ h3)
                · rcases List.mem_cons.1 h3 with rfl | h3
                  · exact fun e => hkx e.symm
                  · exact q2 y (List.mem_append_right _ h3)
          · exact (List.Sublist.append (List.Sublist.refl l1) (List.sublist_cons_self x l2)).trans hl.sub
          · intro k o hk hkl hko e he hb
            rw [getD_set (by rw [hl.size]; exact i1)] at hkl ⊢
            by_cases hex : e.on = x.k
            · rw [if_pos hex]
            · rw [if_neg hex]
              by_cases hkx : k = x.k
              · subst hkx
                rw [k3] at hko
                cases hko
                exact i4 e he hb
              · rw [if_neg hkx] at hkl
                exact hl.closed k o hk hkl hko e he hb
      · rcases hE with h1 | ⟨p, h1, h2, h3, h4, h5, h6, h7, h8, h9⟩
        · simp at h1
          omega
        · have hbit : ∀ k, k < its.length → (∀ x ∈ L, x.k ≠ k) → listed.getD k true = true := fun k hk hL => (hl.iff k (by omega)).2 ⟨hk, hL⟩
          have halone : ∀ k q, ops.toList[k]? = some q → (its.length < k → Nat.testBit ((befores ops.toList).getD k 0) its.length = true) ∧
              (k < its.length → clsOf P q.op = .pure ∨ clsOf P q.op = .load ∨ Nat.testBit ((befores ops.toList).getD its.length 0) k = true) := by
            intro k q hq
            unfold aloneOk at h8
            have := zipIdx_all h8 hq
            simp only at this
            constructor
            · intro hlt2
              have hb : Nat.blt its.length k = true := by rw [Nat.blt_eq]; exact hlt2
              rw [hb] at this
              exact this
            · intro hlt2
              have hb : Nat.blt its.length k = false := by
                cases hq : Nat.blt its.length k with
                | false => rfl
                | true => rw [Nat.blt_eq] at hq; omega
              rw [hb] at this
              simp only at this
              have hne : Nat.beq k its.length = false := by
                cases hq : Nat.beq k its.length with
                | false => rfl
                | true => have := Nat.eq_of_beq_eq_true hq; omega
              rw [hne] at this
              cases hcl : clsOf P q.op with
              | pure => exact .inl rfl
              | load => exact .inr (.inl rfl)
              | _ => rw [hcl] at this; exact .inr (.inr (by simpa using this))
          by_cases hie : i = its.length
          · subst hie
            have hq : o = p.i.o := by
              have : ops.toList[its.length]? = some o := by simpa using i3
              rw [h2] at this
              cases this
              rfl
            subst hq
            have hLcls : ∀ x ∈ L, (clsOf P x.i.o.op = .pure ∨ clsOf P x.i.o.op = .load) ∧ (∀ d, x.i.o.dst = some d → Operand.tmp d ∉ p.i.o.op.operands) ∧ Nat.testBit ((befores ops.toList).getD its.length 0) x.k = false := by
              intro x hxL
              obtain ⟨k1, k2, k3⟩ := hpos x (hLits x hxL)
              have hnb : Nat.testBit ((befores ops.toList).getD its.length 0) x.k = false := by
                cases hb : Nat.testBit ((befores ops.toList).getD its.length 0) x.k with
                | false => rfl
                | true =>
                  have := hl.bit i3 i4 hb
                  rw [getD_ft (by rw [hl.size]; omega)] at this
                  exact absurd rfl (((hl.iff x.k (by omega)).1 this).2 x hxL)
              refine ⟨?_, ?_, hnb⟩
              · rcases (halone x.k x.i.o (by simpa using k3)).2 k1 with h | h | h
                · exact .inl h
                · exact .inr h
                · rw [hnb] at h; cases h
              · intro d hd hop
                rcases hst.pair x.k its.length _ _ k1 (by simpa using k3) h2 with h | h
                · rw [hnb] at h; cases h
                · unfold mayTurn at h
                  simp only [Bool.and_eq_true, Bool.not_eq_true'] at h
                  exact hasDst_false h.1.1 hd (tmpsOf_mem (by simpa using hop))
            have hchain : ∀ (L : List It) (t : Nat → Option AV) (ob : Nat → Option AO), Chain P ops.toList L t ob tE obE → (∀ x ∈ L, clsOf P x.i.o.op = .pure ∨ clsOf P x.i.o.op = .load) →
                ob = obE ∧ ∀ d, (∀ x ∈ L, x.i.o.dst ≠ some d) → t d = tE d := by
              intro L
              induction L with
              | nil => intro t ob hc _; cases hc; exact ⟨rfl, fun _ _ => rfl⟩
              | cons x L ihL =>
                intro t ob hc hcl
                cases hc with
                | cons hs hl2 =>
                  obtain ⟨e1, e2⟩ := ihL _ _ hl2 (fun y hy => hcl y (by simp [hy]))
                  have hno : ∀ F, ¬ Foot P x F := by
                    intro F hf
                    have := hf.2
                    rcases hcl x (by simp) with h | h <;> rw [h] at this <;> exact this
                  refine ⟨?_, ?_⟩
                  · rw [← e1, hs.obj]
                    exact (funext fun F => over_ne (hno F)).symm
                  · intro d hd
                    rw [← e2 d (fun y hy => hd y (by simp [hy])), hs.tmps, updT_ne _ _ (hd x (by simp))]
            obtain ⟨e1, e2⟩ := hchain L t ob hc (fun x hx => (hLcls x hx).1)
            subst e1
            have hop : ∀ y ∈ p.i.o.op.operands, evF P t y = evF P tE y := by
              intro y hy
              cases y with
              | tmp d => exact e2 d (fun x hx he => (hLcls x hx).2.1 d he hy)
              | _ => rfl
            have hwt : wantedF ops.toList t p.i.o = some true := by
              rw [← h7]
              unfold wantedF
              cases hg : p.i.o.guard with
              | none => rfl
              | some q =>
                obtain ⟨g, bb⟩ := q
                obtain ⟨g1, g2⟩ := hst.guard its.length _ g bb h2 hg
                have : yieldF ops.toList t g = yieldF ops.toList tE g := by
                  unfold yieldF
                  cases ho : ops.toList[g]? with
                  | none => rfl
                  | some o' =>
                    simp only
                    cases hd : o'.dst with
                    | none => rfl
                    | some d =>
                      have : t d = tE d := by
                        refine e2 d (fun x hx he => ?_)
                        obtain ⟨k1, k2, k3⟩ := hpos x (hLits x hx)
                        have hne : g ≠ x.k := by
                          rintro rfl
                          rw [(hLcls x hx).2.2] at g2
                          cases g2
                        exact hst.dst g x.k o' _ d hne ho (by simpa using k3) hd he
                      simp only [this]
                simp only [this]
            unfold wpOp
            simp only [i3]
            rw [wantedF_rel hr.tr hwt]
            simp only [if_true]
            left
            have := hP p h9 L t ι b w hr hop
            exact Oper.wp_mono (fun _ _ h => h.elim) this
          · exfalso
            have := hl.bit i3 i4 ((halone i o (by simpa using i3)).1 (by omega))
            rw [getD_ft (by rw [hl.size]; omega)] at this
            have := ((hl.iff its.length (by omega)).1 this).1
            omega
end
end Go.Ai
