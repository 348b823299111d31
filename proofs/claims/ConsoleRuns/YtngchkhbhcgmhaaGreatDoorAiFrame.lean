/- A part of the proof of ConsoleRuns: AiFrame. -/
import Derived.Test.YtngchkhbhcgmhaaGreatDoorAiOps5
set_option linter.unusedVariables false
set_option linter.unusedSimpArgs false
set_option linter.unusedSectionVars false
set_option linter.unnecessarySimpa false
/- A step on a part of memory is a step on the whole. -/
namespace Go.Ai

section
variable {P : Program} {ι κ : Emb} {w w' : World} {ob ob' ob'' : Nat → Option AO}

/-- an embedding of the objects below a number -/
def Emb.cut (ι : Emb) (n : Nat) : Emb := fun F g => if F < n then ι F g else none

theorem Emb.cut_le (ι : Emb) (n : Nat) : Emb.le (ι.cut n) ι := fun F g L h => by
  unfold Emb.cut at h
  split at h
  · exact h
  · cases h
theorem Emb.cut_mono (ι : Emb) {n m : Nat} (h : n ≤ m) : Emb.le (ι.cut n) (ι.cut m) := fun F g L hh => by
  unfold Emb.cut at hh ⊢
  split at hh
  · rw [if_pos (by omega)]; exact hh
  · cases hh
theorem Emb.cut_lt (ι : Emb) {n F : Nat} (g : Nat) (h : F < n) : ι.cut n F g = ι F g := by unfold Emb.cut; rw [if_pos h]
theorem Emb.cut_ge (ι : Emb) {n F : Nat} (g : Nat) (h : n ≤ F) : ι.cut n F g = none := by unfold Emb.cut; rw [if_neg (by omega)]

/-- a part of the objects, below a number -/
structure Part (ob' ob : Nat → Option AO) (n : Nat) : Prop where
  eq : ∀ F o, ob' F = some o → F < n ∧ ob F = some o

theorem Own.part (hp : ∀ F o, ob' F = some o → ob F = some o) (hle : Emb.le κ ι) {F : Nat} {L : Loc} (h : Own ob' κ F L) : Own ob ι F L := by
  rcases h with ⟨f, g, a, b, c, d⟩ | ⟨a, b, c⟩
  · exact .inl ⟨f, g, hp _ _ a, b, c, hle _ _ _ d⟩
  · cases ho : ob' F with
    | none => exact absurd ho b
    | some o =>
      refine .inr ⟨fun f => ?_, ?_, hle _ _ _ c⟩
      · rw [hp _ _ ho]
        intro e
        cases e
        exact a f ho
      · rw [hp _ _ ho]; simp

mutual
/-- values that speak of objects below a number alone -/
def AVb (n : Nat) : AV → Prop
  | .ptr F _ _ _ => F < n
  | .slc F _ _ _ _ _ => F < n
  | .map F => F < n
  | .fn _ a b => AVbL n a ∧ AVbL n b
  | .ifc _ v => AVb n v
  | .agg l => AVbL n l
  | .tup l => AVbL n l
  | _ => True
def AVbL (n : Nat) : List AV → Prop
  | [] => True
  | v :: l => AVb n v ∧ AVbL n l
end

mutual
theorem VRel.bound {n : Nat} (hb : ∀ F g L, ι F g = some L → F < n) {v : AV} {x : Value} (h : VRel P ι v x) : AVb n v := by
  cases h with
  | ptr hi he => simp only [AVb]; exact hb _ _ _ hi
  | slc hi _ _ _ _ _ _ _ => simp only [AVb]; exact hb _ _ _ hi
  | map hi => simp only [AVb]; exact hb _ _ _ hi
  | fn ha hb' => simp only [AVb]; exact ⟨VRelL.bound hb ha, VRelL.bound hb hb'⟩
  | ifc h => simp only [AVb]; exact VRel.bound hb h
  | agg h => simp only [AVb]; exact VRelL.bound hb h
  | tup h => simp only [AVb]; exact VRelL.bound hb h
  | str s => simp only [strOf, AVb]
  | _ => simp only [AVb]
theorem VRelL.bound {n : Nat} (hb : ∀ F g L, ι F g = some L → F < n) {l : List AV} {m : List Value} (h : VRelL P ι l m) : AVbL n l := by
  cases h with
  | nil => simp only [AVbL]
  | cons h1 h2 => simp only [AVbL]; exact ⟨VRel.bound hb h1, VRelL.bound hb h2⟩
end

mutual
theorem VRel.cut {n : Nat} {v : AV} {x : Value} (h : VRel P ι v x) (hb : AVb n v) : VRel P (ι.cut n) v x := by
  cases h with
  | ptr hi he => simp only [AVb] at hb; exact .ptr (by rw [Emb.cut_lt ι _ hb]; exact hi) he
  | slc hi a b c d e f g => simp only [AVb] at hb; exact .slc (by rw [Emb.cut_lt ι _ hb]; exact hi) a b c d e f g
  | map hi => simp only [AVb] at hb; exact .map (by rw [Emb.cut_lt ι _ hb]; exact hi)
  | fn h1 h2 => simp only [AVb] at hb; exact .fn (VRelL.cut h1 hb.1) (VRelL.cut h2 hb.2)
  | ifc h => simp only [AVb] at hb; exact .ifc (VRel.cut h hb)
  | agg h => simp only [AVb] at hb; exact .agg (VRelL.cut h hb)
  | tup h => simp only [AVb] at hb; exact .tup (VRelL.cut h hb)
  | bool b => exact .bool b
  | int k m => exact .int k m
  | str s => exact .str s
  | nilp => exact .nilp
  | nils => exact .nils
  | nilm => exact .nilm
  | nilf => exact .nilf
  | nili => exact .nili
  | th t => exact .th t
  | junk _ => exact .junk _
theorem VRelL.cut {n : Nat} {l : List AV} {m : List Value} (h : VRelL P ι l m) (hb : AVbL n l) : VRelL P (ι.cut n) l m := by
  cases h with
  | nil => exact .nil
  | cons h1 h2 => simp only [AVbL] at hb; exact .cons (VRel.cut h1 hb.1) (VRelL.cut h2 hb.2)
end

theorem HRel.ltO (hr : HRel P ob ι w) {F : Nat} {L : Loc} (hw : Own ob ι F L) : L.b < w.heap.size := by
  rcases hw with ⟨f, g, a, b, c, d⟩ | ⟨a, b, c⟩
  · obtain ⟨L', e1, e2, _⟩ := hr.cells F f a (hr.root F g L d) g b c
    rw [d] at e1
    cases e1
    obtain ⟨arr, fr, hg, _⟩ := e2.ex
    exact (Array.getElem?_eq_some_iff.1 hg).1
  · cases ho : ob F with
    | none => exact absurd ho b
    | some o =>
      cases o with
      | cells f => exact absurd ho (a f)
      | map es ck =>
        obtain ⟨ces, hg, _⟩ := hr.map F es ck L ho c
        exact (Array.getElem?_eq_some_iff.1 hg).1
      | strIter l b p =>
        obtain ⟨_, s, hg, _⟩ := hr.siter F l b p L ho c
        exact (Array.getElem?_eq_some_iff.1 hg).1
      | mapIter m a b c => exact absurd ho (hr.miter F m a b c)

/-- in the part that a step has worked on? -/
def inPart (ob' : Nat → Option AO) (n n' F : Nat) : Bool := if F < n then (ob' F).isSome else decide (F < n')

def mergeO (ob ob' ob'' : Nat → Option AO) (n n' : Nat) : Nat → Option AO := fun F => if inPart ob' n n' F = true then ob'' F else ob F
def mergeE (ι κ : Emb) (ob' : Nat → Option AO) (n n' : Nat) : Emb := fun F g => if inPart ob' n n' F = true then κ F g else ι F g

structure Split (P : Program) (ob ob' ob'' : Nat → Option AO) (ι κ : Emb) (w w' : World) (n n' : Nat) : Prop where
  whole : HRel P ob ι w
  part : ∀ F o, ob' F = some o → F < n ∧ ob F = some o
  step : HRel P ob'' κ w'
  grow : Grow ob' (ι.cut n) n w ob'' κ w'
  top : ∀ F g, n' ≤ F → κ F g = none
  gap : ∀ F, n ≤ F → F < n' → ob F = none ∧ ∀ g, ι F g = none

theorem Split.le1 {n n' : Nat} (hs : Split P ob ob' ob'' ι κ w w' n n') : Emb.le ι (mergeE ι κ ob' n n') := by
  intro F g L h
  unfold mergeE
  split
  · rename_i hp
    unfold inPart at hp
    split at hp
    · rename_i hlt
      exact hs.grow.le F g L (by rw [Emb.cut_lt ι g hlt]; exact h)
    · rename_i hge
      have := (hs.gap F (by omega) (by simpa using hp)).2 g
      rw [this] at h
      cases h
  · exact h

theorem Split.le2 {n n' : Nat} (hs : Split P ob ob' ob'' ι κ w w' n n') : Emb.le κ (mergeE ι κ ob' n n') := by
  intro F g L h
  unfold mergeE
  split
  · exact h
  · rename_i hp
    unfold inPart at hp
    split at hp
    · rename_i hlt
      have hN : ob' F = none := by simpa using hp
      have := (hs.grow.absent F hlt hN).2 g
      rw [this, Emb.cut_lt ι g hlt] at h
      exact h
    · rename_i hge
      have hge' : n' ≤ F := by simpa using hp
      rw [hs.top F g hge'] at h
      cases h

theorem Split.own {n n' : Nat} (hs : Split P ob ob' ob'' ι κ w w' n n') {F : Nat} {L : Loc} (h : Own (mergeO ob ob' ob'' n n') (mergeE ι κ ob' n n') F L) :
    (inPart ob' n n' F = true ∧ Own ob'' κ F L) ∨ (inPart ob' n n' F = false ∧ Own ob ι F L) := by
  unfold Own mergeO mergeE at h
  cases hp : inPart ob' n n' F with
  | true => simp only [hp, if_true] at h; exact .inl ⟨rfl, h⟩
  | false => simp only [hp, Bool.false_eq_true, if_false] at h; exact .inr ⟨rfl, h⟩

/-- what the rest owns is none of the part's -/
theorem Split.apart {n n' : Nat} (hs : Split P ob ob' ob'' ι κ w w' n n') {G : Nat} {L : Loc} (hG : inPart ob' n n' G = false) (hw : Own ob ι G L) : ¬ AOwn ob' (ι.cut n) L.b := by
  rintro ⟨F, L', h1, h2⟩
  have h3 : Own ob ι F L' := Own.part (fun F o h => (hs.part F o h).2) (Emb.cut_le ι n) h1
  have := hs.whole.dis F G L' L h3 hw h2
  subst this
  have hne : ob' F ≠ none := by
    rcases h1 with ⟨f, g, a, _⟩ | ⟨_, b, _⟩
    · rw [a]; simp
    · exact b
  cases ho : ob' F with
  | none => exact hne ho
  | some o =>
    have := (hs.part F o ho).1
    unfold inPart at hG
    rw [if_pos this, ho] at hG
    cases hG

theorem Split.keep {n n' : Nat} (hs : Split P ob ob' ob'' ι κ w w' n n') {G : Nat} {L : Loc} (hG : inPart ob' n n' G = false) (hw : Own ob ι G L) : w'.heap[L.b]? = w.heap[L.b]? := by
  refine hs.grow.keep L.b (hs.whole.ltO hw) ?_
  rintro ⟨F, L', h1, h2, _⟩
  exact hs.apart hG hw ⟨F, L', h1, h2⟩

theorem Split.merge {n n' : Nat} (hs : Split P ob ob' ob'' ι κ w w' n n') : HRel P (mergeO ob ob' ob'' n n') (mergeE ι κ ob' n n') w' := by
  have e1 : ∀ F, inPart ob' n n' F = true → mergeO ob ob' ob'' n n' F = ob'' F ∧ ∀ g, mergeE ι κ ob' n n' F g = κ F g := fun F hp => ⟨by unfold mergeO; rw [if_pos hp], fun g => by unfold mergeE; rw [if_pos hp]⟩
  have e2 : ∀ F, inPart ob' n n' F = false → mergeO ob ob' ob'' n n' F = ob F ∧ ∀ g, mergeE ι κ ob' n n' F g = ι F g := fun F hp => ⟨by unfold mergeO; rw [if_neg (by rw [hp]; simp)], fun g => by unfold mergeE; rw [if_neg (by rw [hp]; simp)]⟩
  exact {
    cells := by
      intro F f ho hp g h1 h2
      cases hi : inPart ob' n n' F with
      | true =>
        rw [(e1 F hi).1] at ho
        rw [(e1 F hi).2] at hp
        obtain ⟨L, a, b, c⟩ := hs.step.cells F f ho hp g h1 h2
        exact ⟨L, by rw [(e1 F hi).2]; exact a, b.mono hs.le2, c⟩
      | false =>
        rw [(e2 F hi).1] at ho
        rw [(e2 F hi).2] at hp
        obtain ⟨L, a, b, c⟩ := hs.whole.cells F f ho hp g h1 h2
        exact ⟨L, by rw [(e2 F hi).2]; exact a, (b.heap (hs.keep hi (.inl ⟨f, g, ho, h1, h2, a⟩))).mono hs.le1, c⟩
    sameP := by
      intro F f g g' L L' ho a1 a2 a3 a4 a5 a6
      cases hi : inPart ob' n n' F with
      | true =>
        rw [(e1 F hi).1] at ho
        rw [(e1 F hi).2] at a5 a6
        exact hs.step.sameP F f g g' L L' ho a1 a2 a3 a4 a5 a6
      | false =>
        rw [(e2 F hi).1] at ho
        rw [(e2 F hi).2] at a5 a6
        exact hs.whole.sameP F f g g' L L' ho a1 a2 a3 a4 a5 a6
    map := by
      intro F es ck L ho hl
      cases hi : inPart ob' n n' F with
      | true =>
        rw [(e1 F hi).1] at ho
        rw [(e1 F hi).2] at hl
        obtain ⟨ces, a, b⟩ := hs.step.map F es ck L ho hl
        exact ⟨ces, a, b.mono hs.le2⟩
      | false =>
        rw [(e2 F hi).1] at ho
        rw [(e2 F hi).2] at hl
        obtain ⟨ces, a, b⟩ := hs.whole.map F es ck L ho hl
        exact ⟨ces, by rw [hs.keep hi (.inr ⟨(fun f e => by rw [ho] at e; cases e), (by rw [ho]; simp), hl⟩)]; exact a, b.mono hs.le1⟩
    siter := by
      intro F l b p L ho hl
      cases hi : inPart ob' n n' F with
      | true =>
        rw [(e1 F hi).1] at ho
        rw [(e1 F hi).2] at hl
        exact hs.step.siter F l b p L ho hl
      | false =>
        rw [(e2 F hi).1] at ho
        rw [(e2 F hi).2] at hl
        rw [hs.keep hi (.inr ⟨(fun f e => by rw [ho] at e; cases e), (by rw [ho]; simp), hl⟩)]
        exact hs.whole.siter F l b p L ho hl
    miter := by
      intro F m a b c ho
      cases hi : inPart ob' n n' F with
      | true => rw [(e1 F hi).1] at ho; exact hs.step.miter F m a b c ho
      | false => rw [(e2 F hi).1] at ho; exact hs.whole.miter F m a b c ho
    dis := by
      intro F F' L L' h1 h2 h3
      rcases hs.own h1 with ⟨p1, o1⟩ | ⟨p1, o1⟩ <;> rcases hs.own h2 with ⟨p2, o2⟩ | ⟨p2, o2⟩
      · exact hs.step.dis F F' L L' o1 o2 h3
      · exact absurd (hs.grow.own L.b (by rw [h3]; exact hs.whole.ltO o2) ⟨F, L, o1, rfl⟩) (by rw [h3]; exact hs.apart p2 o2)
      · exact absurd (hs.grow.own L'.b (by rw [← h3]; exact hs.whole.ltO o1) ⟨F', L', o2, rfl⟩) (by rw [← h3]; exact hs.apart p1 o1)
      · exact hs.whole.dis F F' L L' o1 o2 h3
    gens := by
      intro F f g ho hlt
      cases hi : inPart ob' n n' F with
      | true => rw [(e1 F hi).1] at ho; rw [(e1 F hi).2]; exact hs.step.gens F f g ho hlt
      | false => rw [(e2 F hi).1] at ho; rw [(e2 F hi).2]; exact hs.whole.gens F f g ho hlt
    root := by
      intro F g L hl
      cases hi : inPart ob' n n' F with
      | true => rw [(e1 F hi).2] at hl ⊢; exact hs.step.root F g L hl
      | false => rw [(e2 F hi).2] at hl ⊢; exact hs.whole.root F g L hl
    emb := by
      intro F o ho
      cases hi : inPart ob' n n' F with
      | true => rw [(e1 F hi).1] at ho; rw [(e1 F hi).2]; exact hs.step.emb F o ho
      | false => rw [(e2 F hi).1] at ho; rw [(e2 F hi).2]; exact hs.whole.emb F o ho }

theorem WOwn.part {n : Nat} (hp : ∀ F o, ob' F = some o → F < n ∧ ob F = some o) {b : Nat} (h : WOwn ob' (ι.cut n) b) : WOwn ob ι b := by
  obtain ⟨F, L, h1, h2, h3⟩ := h
  refine ⟨F, L, Own.part (fun F o h => (hp F o h).2) (Emb.cut_le ι n) h1, h2, ?_⟩
  rintro ⟨f, a, b⟩
  apply h3
  cases ho : ob' F with
  | none =>
    rcases h1 with ⟨f2, g, q, _⟩ | ⟨_, q, _⟩
    · rw [ho] at q; cases q
    · exact absurd ho q
  | some o =>
    have := (hp F o ho).2
    rw [a] at this
    cases this
    exact ⟨f, ho, b⟩

theorem Split.growth {n n' m : Nat} (hs : Split P ob ob' ob'' ι κ w w' n n') (hm : m ≤ n) : Grow ob ι m w (mergeO ob ob' ob'' n n') (mergeE ι κ ob' n n') w' where
  le := hs.le1
  fresh := by
    intro F h1 h2
    cases hi : inPart ob' n n' F with
    | false =>
      unfold mergeE at h2
      rw [if_neg (by rw [hi]; simp)] at h2
      exact absurd h1 h2
    | true =>
      unfold inPart at hi
      split at hi
      · rename_i hlt
        cases ho : ob' F with
        | none => rw [ho] at hi; cases hi
        | some o => exact absurd h1 (hs.whole.emb F o (hs.part F o ho).2)
      · omega
  os := hs.grow.os
  tape := hs.grow.tape
  output := hs.grow.output
  size := hs.grow.size
  keep b hb hw := hs.grow.keep b hb (fun h => hw (h.part hs.part))
  wown := by
    rintro b hb ⟨F, L, h1, h2, h3⟩
    rcases hs.own h1 with ⟨p, o⟩ | ⟨p, o⟩
    · refine (hs.grow.wown b hb ⟨F, L, o, h2, ?_⟩).part hs.part
      rintro ⟨f, a, c⟩
      exact h3 ⟨f, by unfold mergeO; rw [if_pos p]; exact a, c⟩
    · refine ⟨F, L, o, h2, ?_⟩
      rintro ⟨f, a, c⟩
      exact h3 ⟨f, by unfold mergeO; rw [if_neg (by rw [p]; simp)]; exact a, c⟩
  own := by
    rintro b hb ⟨F, L, h1, h2⟩
    rcases hs.own h1 with ⟨p, o⟩ | ⟨p, o⟩
    · obtain ⟨F2, L2, q1, q2⟩ := hs.grow.own b hb ⟨F, L, o, h2⟩
      exact ⟨F2, L2, Own.part (fun F o h => (hs.part F o h).2) (Emb.cut_le ι n) q1, q2⟩
    · exact ⟨F, L, o, h2⟩
  absent := by
    intro F hF hN
    have hi : inPart ob' n n' F = false := by
      unfold inPart
      rw [if_pos (by omega)]
      cases ho : ob' F with
      | none => rfl
      | some o => have := (hs.part F o ho).2; rw [hN] at this; cases this
    exact ⟨by unfold mergeO; rw [if_neg (by rw [hi]; simp)]; exact hN, fun g => by unfold mergeE; rw [if_neg (by rw [hi]; simp)]⟩

/-- objects that speak of objects below a number alone -/
structure OBd (n : Nat) (ob : Nat → Option AO) : Prop where
  cells : ∀ F f, ob F = some (.cells f) → f.low ≤ f.gen → ∀ i av, i < f.sz → f.c.get i = some av → AVb n av
  map : ∀ F es ck, ob F = some (.map es ck) → ∀ e ∈ es, AVb n e.1 ∧ AVb n e.2.1

theorem EntsRel.cut {n : Nat} : ∀ {es : List Ent} {m : List MapEntry}, EntsRel P ι es m → (∀ e ∈ es, AVb n e.1 ∧ AVb n e.2.1) → EntsRel P (ι.cut n) es m
  | _, _, .nil, _ => .nil
  | _, _, .cons hk hv hb hl, h => .cons (hk.cut (h _ (by simp)).1) (hv.cut (h _ (by simp)).2) hb (hl.cut (fun e he => h e (by simp [he])))

theorem HRel.toPart {n : Nat} (hr : HRel P ob ι w) (hp : ∀ F o, ob' F = some o → F < n ∧ ob F = some o) (hb : OBd n ob') : HRel P ob' (ι.cut n) w where
  cells := by
    intro F f ho hq g h1 h2
    obtain ⟨hlt, ho'⟩ := hp F _ ho
    obtain ⟨L, a, b, c, d⟩ := hr.cells F f ho' (hr.emb F _ ho') g h1 h2
    refine ⟨L, by rw [Emb.cut_lt ι g hlt]; exact a, ⟨?_, b.fit, b.fix⟩, c, d⟩
    obtain ⟨arr, fr, x1, x2, x3, x4, x5⟩ := b.ex
    refine ⟨arr, fr, x1, x2, ?_, x4, x5⟩
    intro i hi
    obtain ⟨av, v, y1, y2, y3⟩ := x3 i hi
    exact ⟨av, v, y1, y2, y3.cut (hb.cells F f ho (by omega) i av (by omega) y1)⟩
  sameP := by
    intro F f g g' L L' ho a1 a2 a3 a4 a5 a6
    exact hr.sameP F f g g' L L' (hp F _ ho).2 a1 a2 a3 a4 (Emb.cut_le ι n _ _ _ a5) (Emb.cut_le ι n _ _ _ a6)
  map := by
    intro F es ck L ho hl
    obtain ⟨ces, a, b⟩ := hr.map F es ck L (hp F _ ho).2 (Emb.cut_le ι n _ _ _ hl)
    exact ⟨ces, a, b.cut (hb.map F es ck ho)⟩
  siter := fun F l b p L ho hl => hr.siter F l b p L (hp F _ ho).2 (Emb.cut_le ι n _ _ _ hl)
  miter := fun F m a b c ho => hr.miter F m a b c (hp F _ ho).2
  dis := fun F F' L L' h1 h2 h3 => hr.dis F F' L L' (Own.part (fun F o h => (hp F o h).2) (Emb.cut_le ι n) h1) (Own.part (fun F o h => (hp F o h).2) (Emb.cut_le ι n) h2) h3
  gens := by
    intro F f g ho hlt
    obtain ⟨hF, ho'⟩ := hp F _ ho
    rw [Emb.cut_lt ι g hF]
    exact hr.gens F f g ho' hlt
  root := by
    intro F g L hl
    unfold Emb.cut at hl ⊢
    split at hl
    · rename_i hF
      rw [if_pos hF]
      exact hr.root F g L hl
    · cases hl
  emb := by
    intro F o ho
    obtain ⟨hF, ho'⟩ := hp F _ ho
    rw [Emb.cut_lt ι 0 hF]
    exact hr.emb F o ho'

/-- what a related heap says of itself -/
theorem HRel.bounds {n : Nat} (hr : HRel P ob ι w) (hb : ∀ F g L, ι F g = some L → F < n) : OBd n ob where
  cells := by
    intro F f ho hg i av hi hc
    obtain ⟨L, a, b, c, d, e⟩ := hr.cells F f ho (hr.emb F _ ho) f.gen hg (Nat.le_refl _)
    obtain ⟨arr, fr, x1, x2, x3, x4, x5⟩ := b.ex
    obtain ⟨av', v, y1, y2, y3⟩ := x3 i (by rw [d rfl]; exact hi)
    rw [hc] at y1
    cases y1
    exact y3.bound hb
  map := by
    intro F es ck ho e he
    cases hi : ι F 0 with
    | none => exact absurd hi (hr.emb F _ ho)
    | some L =>
      obtain ⟨ces, a, b⟩ := hr.map F es ck L ho hi
      have : ∀ (l : List Ent) (m : List MapEntry), EntsRel P ι l m → ∀ e ∈ l, AVb n e.1 ∧ AVb n e.2.1 := by
        intro l
        induction l with
        | nil => intro m _ e he; cases he
        | cons x l ih =>
          intro m hm e he
          cases hm with
          | cons hk hv hb' hl =>
            rcases List.mem_cons.1 he with q | q
            · subst q; exact ⟨hk.bound hb, hv.bound hb⟩
            · exact ih _ hl e q
      exact this es _ b e he
end
end Go.Ai
