/- A part of the proof of ConsoleRuns: AiDraw. -/
import Derived.Test.YtngchkhbhcgmhaaGreatDoorAiDraw6
set_option linter.unusedVariables false
set_option linter.unusedSimpArgs false
set_option linter.unusedSectionVars false
set_option linter.unnecessarySimpa false
/- Drawn regions are sound. -/
namespace Go.Ai
open Classical

section
variable {P : Program} {X : Cx} {K : CallK} {nt : Nat}

theorem Txt.pos {all : List Oper} {k : Nat} {l : List Oper} {t : Tr AV} {h : H} {its : List It} {t' : Tr AV} {h' : H} (ht : Txt P X K all k l t h its t' h') :
    its.length = l.length ∧ ∀ (j : Nat) (x : It), its[j]? = some x → x.k = k + j ∧ l[j]? = some x.i.o := by
  induction ht with
  | nil k t h => exact ⟨rfl, fun j x hx => by simp at hx⟩
  | skip hw hl ih =>
    refine ⟨by simp [ih.1], fun j x hx => ?_⟩
    cases j with
    | zero => simp at hx; subst hx; exact ⟨rfl, rfl⟩
    | succ j =>
      obtain ⟨a, b⟩ := ih.2 j x (by simpa using hx)
      exact ⟨by omega, by simpa using b⟩
  | run hw hs hl ih =>
    refine ⟨by simp [ih.1], fun j x hx => ?_⟩
    cases j with
    | zero => simp at hx; subst hx; exact ⟨rfl, rfl⟩
    | succ j =>
      obtain ⟨a, b⟩ := ih.2 j x (by simpa using hx)
      exact ⟨by omega, by simpa using b⟩

theorem junkAll_get : ∀ (l : List Oper) (t : Tr AV) (d : Nat) (v : AV), (junkAll t l).get d = some v → (∃ o ∈ l, o.dst = some d) ∨ ((∀ o ∈ l, o.dst ≠ some d) ∧ t.get d = some v)
  | [], t, d, v, h => .inr ⟨fun o ho => (by cases ho), h⟩
  | o :: l, t, d, v, h => by
    unfold junkAll at h
    rcases junkAll_get l _ d v h with ⟨o', h1, h2⟩ | ⟨h1, h2⟩
    · exact .inl ⟨o', by simp [h1], h2⟩
    · by_cases hd : o.dst = some d
      · exact .inl ⟨o, by simp, hd⟩
      · refine .inr ⟨?_, ?_⟩
        · intro o' ho'
          rcases List.mem_cons.1 ho' with rfl | ho'
          · exact hd
          · exact h1 o' ho'
        · rw [putT_get, updT_ne _ _ hd] at h2
          exact h2

theorem junkAll_junk : ∀ (l : List Oper) (t : Tr AV) (d : Nat), (∃ o ∈ l, o.dst = some d) → (junkAll t l).get d = some .junk
  | [], t, d, ⟨o, h, _⟩ => by cases h
  | o :: l, t, d, ⟨o', h1, h2⟩ => by
    unfold junkAll
    by_cases hl : ∃ o ∈ l, o.dst = some d
    · exact junkAll_junk l _ d hl
    · have hod : o.dst = some d := by
        rcases List.mem_cons.1 h1 with rfl | h1
        · exact h2
        · exact absurd ⟨o', h1, h2⟩ hl
      have : ∀ (l : List Oper) (t : Tr AV), (¬ ∃ o ∈ l, o.dst = some d) → (junkAll t l).get d = t.get d := by
        intro l
        induction l with
        | nil => intro t _; rfl
        | cons o l ih =>
          intro t hn
          unfold junkAll
          rw [ih _ (fun ⟨o', a, b⟩ => hn ⟨o', by simp [a], b⟩), putT_get, updT_ne _ _ (fun e => hn ⟨o, by simp, e⟩)]
      rw [this l _ hl, putT_get, hod]
      simp [updT]

theorem drawSound (hm : P.follows .mixedOrders = true) (hx : ExtOk P X) (hK : KOk P K) : DrawSound P X K nt := by
  intro id ops a h e a' h' hst hr ι b w Q ha hd hp
  apply wp_region_any hm
  generalize hw1 : ({ w with drawn := w.drawn + 1 } : World) = w1
  have hheap : w1.heap = w.heap := by rw [← hw1]
  have hg0 : Grow h.obj ι h.nx w h.obj ι w1 := Grow.of_heap hheap (by rw [← hw1]) (by rw [← hw1]) (by rw [← hw1]) _ _ _
  have hs1 : St P h ι w1 := ⟨ha.st.rel.of_heap hheap, ha.st.bd, ha.st.fit, ha.st.glob⟩
  have hst' := stat_of hst
  have hlt : ∀ F o, h.obj F = some o → F < h.nx := by
    intro F o ho
    apply Nat.lt_of_not_le
    intro hh
    exact hs1.rel.emb F o ho (hs1.bd F 0 hh)
  have hgl : ∀ (g : Nat) (y : Global) (n : Nat), P.globals[g]? = some y → tsz P y.type = some n → g < h.nx := by
    intro g y n h1 h2
    obtain ⟨L, q, _⟩ := hs1.glob g y n h1 h2
    exact hs1.bd.lt q
  have hnone : ∀ F, h.nx ≤ F → h.obj F = none := by
    intro F hF
    cases ho : h.obj F with
    | none => rfl
    | some o => have := hlt F o ho; omega
  have hdb : ∀ o ∈ ops.toList, ∀ d, o.dst = some d → d < b.tmps.size := fun o ho d hod => Nat.lt_of_lt_of_le (hd o ho d hod) ha.sz
  have start : ∀ (its : List It) (N : Nat), (∀ x ∈ its, h.nx ≤ x.i.h0.nx) → h.nx ≤ N → Rl P ops.toList a h ι w nt N its a.t.get h.obj ι b w1 := by
    intro its N hlo hN
    exact ⟨hs1.rel, ha.tr, hs1.glob, hs1.fit, fun F g hF => hs1.bd F g (Nat.le_trans hN hF), fun x hx F h1 h2 => ⟨hnone F (Nat.le_trans (hlo x hx) h1), fun g => hs1.bd F g (Nat.le_trans (hlo x hx) h1)⟩, hg0, ha.sz, ha.ds, fun _ _ => rfl⟩
  have lst0 : ∀ (its : List It), (∀ (j : Nat) (x : It), its[j]? = some x → x.k = j) → Lst P ops (Array.replicate ops.size false) its.length its its := by
    intro its hpos
    refine ⟨by simp, ?_, List.Sublist.refl _, ?_⟩
    · intro i hi
      have : (Array.replicate ops.size false).getD i true = false := by simp [Array.getD, hi]
      rw [this]
      refine ⟨fun hh => (by cases hh), fun ⟨h1, h2⟩ => ?_⟩
      exact absurd (hpos i _ (List.getElem?_eq_getElem h1)) (h2 _ (List.getElem_mem h1))
    · intro k o hk hl
      have : (Array.replicate ops.size false).getD k true = false := by simp [Array.getD, hk]
      rw [this] at hl
      cases hl
  rcases drawOps_txt ops.toList [] a.t h e a' h' hr with ⟨its, t', he, ht, ha', hdyn⟩ | ⟨l1, o, l2, its, t1, h1, v, hl, ht, hw, hs, hc, hal, hdyn, he, ha'⟩
  · subst he
    subst ha'
    obtain ⟨v1, v2, v3, v4, _⟩ := virt hx hK ht ι w1 b hs1 ha.tr hdb
    obtain ⟨len, pos⟩ := ht.pos
    have pos' : ∀ (j : Nat) (x : It), its[j]? = some x → x.k = j ∧ ops.toList[j]? = some x.i.o := by
      intro j x hx
      obtain ⟨q1, q2⟩ := pos j x hx
      exact ⟨by simpa using q1, q2⟩
    have hT : Told P X K ops.toList h its h'.nx := told_of hst' (by simpa using hdyn) v1 v3 pos' v2
    refine any_sound (nt := nt) (a0 := a) (ι0 := ι) (w0 := w) (Qp := fun _ => False) hx hK hst' hT (.inl len) hgl hd ?_ (fun p hp => hp.elim) ops.size its _ a.t.get h.obj ι b w1 (lst0 its (fun j x hx => (pos' j x hx).1)) (by simp at len; omega) v4 (start its _ (fun x hx => (v1 x hx).2.1) v2)
    intro _ κ b' w' hrl
    exact hp κ b' w' .normal ⟨hrl.rel, hrl.grow, fun F g hF => hrl.bd F g hF, v2, hrl.fit⟩ ⟨⟨hrl.rel, fun F g hF => hrl.bd F g hF, hrl.fit, hrl.glob⟩, hrl.tr, hrl.sz, hrl.ds⟩ .normal
  · subst he
    subst ha'
    have hmem : ∀ o' ∈ l1, o' ∈ ops.toList := fun o' ho' => by rw [hl]; simp [ho']
    obtain ⟨v1, v2, v3, v4, ι2, w2, b2, v5, v6⟩ := virt hx hK ht ι w1 b hs1 ha.tr (fun o' ho' => hdb o' (hmem o' ho'))
    obtain ⟨len, pos⟩ := ht.pos
    have pos' : ∀ (j : Nat) (x : It), its[j]? = some x → x.k = j ∧ ops.toList[j]? = some x.i.o := by
      intro j x hx
      obtain ⟨q1, q2⟩ := pos j x hx
      refine ⟨by simpa using q1, ?_⟩
      rw [hl, List.getElem?_append_left ((List.getElem?_eq_some_iff.1 q2).1)]
      exact q2
    have hT : Told P X K ops.toList h its h1.nx := told_of hst' (by simpa using hdyn) v1 v3 pos' v2
    let p : It := ⟨its.length, ⟨o, t1, h1, h', true⟩, .undef⟩
    have hat : ops.toList[its.length]? = some o := by rw [hl, len, List.getElem?_append_right (Nat.le_refl _)]; simp
    have hE : EndOk P X K ops.toList its.length t1.get h1.obj (fun q => q = p) := .inr ⟨p, rfl, hat, rfl, hc, rfl, rfl, hw, by rw [len]; simpa using hal, rfl⟩
    have hlt1 : ∀ F o, h1.obj F = some o → F < h1.nx := by
      intro F o ho
      apply Nat.lt_of_not_le
      intro hh
      exact v5.rel.emb F o ho (v5.bd F 0 hh)
    have hb1 : ∀ F g L, ι2 F g = some L → F < h1.nx := fun F g L hh => v5.bd.lt hh
    refine any_sound (nt := nt) (a0 := a) (ι0 := ι) (w0 := w) hx hK hst' hT hE hgl hd ?_ ?_ ops.size its _ a.t.get h.obj ι b w1 (lst0 its (fun j x hx => (pos' j x hx).1)) ?_ v4 (start its _ (fun x hx => (v1 x hx).2.1) v2)
    · intro hsz
      have := (List.getElem?_eq_some_iff.1 hat).1
      simp at this
      omega
    · rintro q rfl L t κ b' w' hrl hop
      have hcore := step_core (ob := h1.obj) (x := p) (t := t) (b := b') (r := .panic v) (m := h.nx) (M := h1.nx) hx hK (fun y hy => by rw [hop y hy]; exact (ev_evF P t1 y).symm) (fun hc' => by
          have : clsOf P o.op = .load := hc'
          rw [hc] at this; cases this) (fun F _ => rfl) rfl
        (fun _ F _ => rfl) hs (fun hc' => absurd hc hc')
        (fun y v hy => (ev_rel v6 v5.glob hy).bound hb1) (v5.rel.bounds hb1) hlt1 hrl.rel hrl.tr hrl.glob (fun g y n q1 q2 => Nat.lt_of_lt_of_le (hgl g y n q1 q2) v2) hrl.fit hrl.bd
        (fun F q1 q2 => ⟨by
          cases ho : h1.obj F with
          | none => rfl
          | some o' => have := hlt1 F o' ho; exact absurd this (by have : h1.nx ≤ F := q1; omega), fun g => hrl.bd F g q1⟩) v2 (Nat.le_refl _)
      refine hcore.wp ?_ ?_ ?_
      · rintro z w3 ⟨μ, _, hend, _⟩
        cases hend
      · rintro c w3 ⟨μ, hwent, hend, hown⟩
        cases hend with
        | panic hv =>
          have hle : h1.nx ≤ h'.nx := hown.le
          have heq : over P p h1.obj = h'.obj := hown.eq
          have hrel : HRel P h'.obj μ w3 := by rw [← heq]; exact hwent.rel
          have hgrow : Grow h.obj ι h.nx w h'.obj μ w3 := by rw [← heq]; exact hrl.grow.trans hwent.grow (Nat.le_refl _)
          have hbd : Bd h' μ := by
            intro F g hF
            cases hk : μ F g with
            | none => rfl
            | some L =>
              rcases hwent.new F g (by rw [hk]; simp) with h5 | h5
              · exact absurd (hrl.bd F 0 (by omega)) h5
              · have : F < h'.nx := h5.2
                omega
          refine hp μ b' w3 _ ⟨hrel, hgrow, hbd, Nat.le_trans v2 hle, hwent.fit⟩ ⟨⟨hrel, hbd, hwent.fit, hrl.glob.mono hwent.grow.le⟩, ?_, hrl.sz, hrl.ds.mono hwent.grow.le⟩ (.panic hv)
          intro d u hu
          rcases junkAll_get _ _ _ _ hu with ⟨o', q1, q2⟩ | ⟨q1, q2⟩
          · have : u = .junk := by
              have := junkAll_junk ops.toList a.t d ⟨o', q1, q2⟩
              simp only at hu
              rw [this] at hu
              cases hu
              rfl
            subst this
            have hsz : d < b'.tmps.size := Nat.lt_of_lt_of_le (hd o' q1 d q2) hrl.sz
            exact ⟨b'.tmps[d], Array.getElem?_eq_getElem hsz, .junk _⟩
          · obtain ⟨x, r1, r2⟩ := hrl.tr d u (by rw [hrl.keepT d q1]; exact q2)
            exact ⟨x, r1, r2.mono hwent.grow.le⟩
      · rintro w3 ⟨μ, _, hend, _⟩
        cases hend
    · have := (List.getElem?_eq_some_iff.1 hat).1
      simp at this
      omega
end
end Go.Ai
