/- A part of the proof of ConsoleRuns: AiFok3. -/
import Derived.Test.YtngchkhbhcgmhaaGreatDoorAiFok2
set_option linter.unusedVariables false
set_option linter.unusedSimpArgs false
set_option linter.unusedSectionVars false
set_option linter.unnecessarySimpa false
/- What the fast run says is what the interpreter says: appends, lengths, calls. -/
namespace Go.Ai

section
variable {E : Ev} {t : Tr AV} {h : H} {kv : AV → H → Ans} {kr : AR → Ans}

theorem list_arr {α : Type} {a : Array α} {l : List α} (h : a.toList = l) : a.toList = l := h

theorem appK_yes {ty e sz by_ : Nat} {z s x : AV} {n : Nat} {new : List AV} {slow : Ans} {zs : Bool} (hu : E.P.underlying ty = some (.slice e)) (hsz : tsz E.P e = some sz) (hby : tby E.P e = some by_) (hz : tzero E.P e = some z)
    (hc : (Nat.ble 1 sz && Nat.beq z.cells.length sz) = true) (hzs : (match x with | .int .. => zs | _ => !zs) = true) (hsrc : srcA E.P h e sz x = some (n, new)) (hh : appK h e sz by_ s n new kv slow = .yes) :
    (∃ v h', appendA E.P h ty zs s x = some (v, h') ∧ kv v h' = .yes) ∨ slow = .yes := by
  unfold appK at hh
  rcases bE_yes hh with ⟨_, hq⟩ | ⟨hn, hq⟩
  · exact .inr hq
  obtain ⟨hfl, hq⟩ := bK_yes hq
  rw [allFlat_eq] at hfl
  have hn0 : n ≠ 0 := fun q => by rw [q] at hn; cases hn
  have hsrcF : srcF E.P h e sz x = some (n, new) := by unfold srcF; rw [hsrc]; simp only [hfl]
  have hm : ∀ (r : Option (AV × H)), appendA E.P h ty zs s x = (match n, s with
      | 0, _ => appendA E.P h ty zs s x
      | _, _ => r) → appendA E.P h ty zs s x = r := by
    intro r hr
    cases n with
    | zero => exact absurd rfl hn0
    | succ n => exact hr
  obtain ⟨n, rfl⟩ : ∃ k, n = k + 1 := ⟨n - 1, by omega⟩
  rcases slD_yes hq with ⟨F, g, o, s', len, c, rfl, hs⟩ | ⟨rfl, hs⟩ | ⟨_, _, _, hs⟩ | hs
  · cases c with
    | some c => exact .inr hs
    | none =>
      obtain ⟨h1, hs⟩ := bK_yes hs
      obtain ⟨h2, hs⟩ := bK_yes hs
      obtain ⟨ob, hob, hs⟩ := objK_yes hs
      obtain ⟨f, rfl, hs⟩ := cellsD_yes hs
      obtain ⟨h3, hs⟩ := bK_yes hs
      rcases bE_yes hs with ⟨h4, hs⟩ | ⟨_, hs⟩
      · obtain ⟨h5, hs⟩ := bK_yes hs
        rw [frc_eq] at hs
        obtain ⟨h6, hs⟩ := bK_yes hs
        rcases bE_yes hs with ⟨_, hs⟩ | ⟨h7, hs⟩
        · cases hs
        rw [frc_eq] at hs
        have hg : g = f.gen := Nat.eq_of_beq_eq_true h4
        have hf : h.fam F g = some f := fam_of hob h3 (by rw [hg]; exact Nat.ble_self_eq_true _)
        have hcond : (Nat.beq f.elem e && Nat.ble f.frz (Nat.add o (Nat.mul len sz)) && !f.ro) = true := by rw [h5, h6, h7]; rfl
        rw [lenL_eq] at hs
        rcases bE_yes hs with ⟨h8, hs⟩ | ⟨h8, hs⟩
        · have hs := stLK_yes hs
          refine .inl ⟨.slc F g o sz (Nat.add len (n + 1)) none, h.put F (.cells (f.store (Nat.add o (Nat.mul len sz)) new)), ?_, ?_⟩
          · unfold appendA
            simp only [hu, hsz, hby, hz, hsrcF, hc, h1, h2, hf, hcond, h4, h8]
            cases x <;> (simp only at hzs; simp only [hzs, h2, h8])
          · unfold Fam.store
            rcases bE_yes hs with ⟨q, hs⟩ | ⟨q, hs⟩
            · rw [putF_eq] at hs
              rw [q]
              exact hs
            · rw [putF_eq] at hs
              rw [q]
              exact hs
        · rcases bE_yes hs with ⟨h9, hs⟩ | ⟨_, hs⟩
          · rcases bE_yes hs with ⟨h10, hs⟩ | ⟨_, hs⟩
            · have hs := stLK_yes hs
              rw [frc_eq, putF_eq] at hs
              refine .inl ⟨_, _, ?_, hs⟩
              unfold appendA
              simp only [hu, hsz, hby, hz, hsrcF, hc, h1, h2, hf, hcond, h4, h8, h9, h10, Bool.and_self]
              rw [hg]
              cases x <;> (simp only at hzs; simp only [hzs, h2, h8]; rfl)
            · exact .inr hs
          · exact .inr hs
      · exact .inr hs
  · obtain ⟨h1, hs⟩ := bK_yes hs
    have hs := stLK_yes hs
    rw [newK_eq, Nat.zero_add] at hs
    refine .inl ⟨_, _, ?_, hs⟩
    unfold appendA
    simp only [hu, hsz, hby, hz, hsrcF, hc, h1]
    cases x <;> (simp only at hzs; simp only [hzs, h1]; rfl)
  · exact .inr hs
  · exact .inr hs

theorem apT_some {t u : TypeId} {a : ApT} (ha : apT E.tt t u = some a) : ∃ e sz by_ z d, E.P.underlying u = some d ∧ E.P.underlying t = some (.slice e) ∧ tsz E.P e = some sz ∧ tby E.P e = some by_ ∧ tzero E.P e = some z ∧
    (Nat.ble 1 sz && Nat.beq z.cells.length sz) = true ∧ a = .mk e sz by_ z.cells (isIntTy E.P u) := by
  unfold apT at ha
  split at ha
  · rename_i d e hu ht
    split at ha
    · rename_i sz by_ z h1 h2 h3
      split at ha
      · rename_i hc
        cases ha
        exact ⟨e, sz, by_, z, d, undT_of hu, undT_of ht, tszT_of h1, tbyT_of h2, tzeroT_of h3, hc, by rw [intT_of hu]⟩
      · cases ha
    · cases ha
  · cases ha

theorem appendK_ok {args : Array Operand} {ts : Array TypeId} (hh : appendK args ts ⟨.builtin .append, args, ts⟩ E t h kv kr = .yes) : OpY E t h (.call ⟨.builtin .append, args, ts⟩) kv kr := by
  unfold appendK at hh
  generalize hal : args.toList = al at hh
  generalize htl : ts.toList = tl at hh
  cases al with
  | nil => cases hh
  | cons sx al =>
  cases al with
  | nil => cases hh
  | cons xx al =>
  cases al with
  | cons _ _ => cases hh
  | nil =>
  cases tl with
  | nil => cases hh
  | cons ty tl =>
  cases tl with
  | nil => cases hh
  | cons u tl =>
  cases tl with
  | cons _ _ => cases hh
  | nil =>
    have hslow : slowK (.call ⟨.builtin .append, args, ts⟩) E t h kv kr = .yes → OpY E t h (.call ⟨.builtin .append, args, ts⟩) kv kr := slowK_ok
    obtain ⟨s, h1, hh⟩ := evK_yes (x := sx) hh
    obtain ⟨x, h2, hh⟩ := evK_yes hh
    obtain ⟨a, h3, hh⟩ := oK_yes hh
    obtain ⟨e, sz, by_, z, d, q1, q2, q3, q4, q5, q6, rfl⟩ := apT_some h3
    have fin : (∃ v h', appendA E.P h ty (isIntTy E.P u) s x = some (v, h') ∧ kv v h' = .yes) ∨ slowK (.call ⟨.builtin .append, args, ts⟩) E t h kv kr = .yes → OpY E t h (.call ⟨.builtin .append, args, ts⟩) kv kr := by
      rintro (⟨v, h', r1, r2⟩ | r)
      · refine ⟨.val v h', ?_, r2⟩
        simp only [opA, hal, htl, evL, h1, h2, builtinA, q1, r1]
      · exact slowK_ok r
    rcases bE_yes hh with ⟨hz, hh⟩ | ⟨hz, hh⟩
    · obtain ⟨kd, n, rfl, h4, hh⟩ := natD_yes hh
      refine fin (appK_yes q2 q3 q4 q5 q6 hz ?_ hh)
      have h6 : Nat.beq z.cells.length sz = true := by
        simp only [Bool.and_eq_true] at q6
        exact q6.2
      simp only [srcA, h4, q5, h6]
    · rcases slD_yes hh with ⟨F, g, o, s', n, c, rfl, hq⟩ | ⟨_, hq⟩ | ⟨_, _, _, hq⟩ | hq
      · obtain ⟨h4, hq⟩ := bK_yes hq
        unfold aliveK at hq
        obtain ⟨ob, hob, hq⟩ := objK_yes hq
        obtain ⟨f, rfl, hq⟩ := cellsD_yes hq
        obtain ⟨h5, hq⟩ := bK_yes hq
        obtain ⟨h6, hq⟩ := bK_yes hq
        obtain ⟨l, h7, hq⟩ := ldNK_yes hq
        have hf := fam_of hob h5 h6
        refine fin (appK_yes q2 q3 q4 q5 q6 (by simp only [hz]; rfl) ?_ hq)
        simp only [srcA, h4, H.load, hf, h7]
      · exact slowK_ok hq
      · exact slowK_ok hq
      · exact slowK_ok hq

theorem lenK_ok {args : Array Operand} {ts : Array TypeId} (hh : lenK args ts ⟨.builtin .len, args, ts⟩ E t h kv kr = .yes) : OpY E t h (.call ⟨.builtin .len, args, ts⟩) kv kr := by
  unfold lenK at hh
  generalize hal : args.toList = al at hh
  generalize htl : ts.toList = tl at hh
  cases al with
  | nil => cases hh
  | cons x al =>
  cases al with
  | cons _ _ => cases hh
  | nil =>
  cases tl with
  | nil => cases hh
  | cons ty tl =>
  cases tl with
  | cons _ _ => cases hh
  | nil =>
    obtain ⟨v, h1, hh⟩ := evK_yes (x := x) hh
    have fin : ∀ u, lenA E.P h ty v = some u → kv u h = .yes → OpY E t h (.call ⟨.builtin .len, args, ts⟩) kv kr := by
      intro u r1 r2
      refine ⟨.val u h, ?_, r2⟩
      simp only [opA, hal, htl, evL, h1, builtinA, r1]
    rcases slD_yes hh with ⟨F, g, o, s, n, c, rfl, hq⟩ | ⟨_, hq⟩ | ⟨l, b, rfl, hq⟩ | hq
    · rcases bE_yes hq with ⟨h2, hq⟩ | ⟨_, hq⟩
      · refine fin _ ?_ hq
        unfold lenT at h2
        split at h2
        · cases h2
        · rename_i q; have q := undT_of q; unfold lenA; simp only [q]
        · cases h2
      · exact slowK_ok hq
    · exact slowK_ok hq
    · rcases bE_yes hq with ⟨h2, hq⟩ | ⟨_, hq⟩
      · refine fin _ ?_ hq
        unfold lenT at h2
        split at h2
        · rename_i q; have q := undT_of q; unfold lenA; simp only [q]
        · cases h2
        · cases h2
      · exact slowK_ok hq
    · exact slowK_ok hq

theorem callFK_yes {k : FuncId} {args : List AV} (hh : callFK E h k args kv kr = .yes) : ∃ r, callF E.P E.X h k args = some r ∧ disp kv kr r = .yes := by
  unfold callFK at hh
  unfold callF
  cases hx : E.X.ext k with
  | none =>
    rw [hx] at hh
    exact ⟨_, rfl, hh⟩
  | some x =>
    rw [hx] at hh
    obtain ⟨⟨v, h'⟩, h1, hh⟩ := oK_yes hh
    exact ⟨.val v h', by simp only [h1], hh⟩

theorem fnD_yes {v : AV} {k : FuncId → List AV → List AV → Ans} (hh : fnD v k = .yes) : ∃ f a b, v = .fn (.func f) a b ∧ k f a b = .yes := by
  cases v with
  | fn f a b =>
    cases f with
    | func f => exact ⟨f, a, b, rfl, hh⟩
    | _ => cases hh
  | _ => cases hh

theorem callVK_ok {f : Operand} {args : Array Operand} {ts : Array TypeId} (hh : callVK f args E t h kv kr = .yes) : OpY E t h (.call ⟨.value f, args, ts⟩) kv kr := by
  obtain ⟨l, h1, hh⟩ := evLK_yes hh
  have fin : ∀ k a b, ev E.P t f = some (.fn (.func k) a b) → callFK E h k (a ++ (l ++ b)) kv kr = .yes → OpY E t h (.call ⟨.value f, args, ts⟩) kv kr := by
    intro k a b r1 r2
    obtain ⟨r, r3, r4⟩ := callFK_yes r2
    exact ⟨r, by simp only [opA, h1, r1, callA, target, r3], r4⟩
  cases f with
  | tmp n =>
    obtain ⟨v, h2, hh⟩ := getP_yes (n := n) (t := t) hh
    obtain ⟨k, a, b, rfl, hh⟩ := fnD_yes hh
    refine fin k a b h2 ?_
    cases a with
    | nil =>
      cases b with
      | nil => rw [List.append_nil]; exact hh
      | cons _ _ => exact hh
    | cons _ _ => exact hh
  | const v => cases hh
  | global g => cases hh
  | func k => exact fin k [] [] rfl (by rw [List.append_nil]; exact hh)

theorem callK_ok {c : Call} (hh : callK c E t h kv kr = .yes) : OpY E t h (.call c) kv kr := by
  obtain ⟨ce, args, ts⟩ := c
  cases ce with
  | value f => exact callVK_ok hh
  | invoke r n => exact slowK_ok hh
  | builtin b =>
    cases b <;> first | exact lenK_ok hh | exact appendK_ok hh | exact slowK_ok hh

theorem evPK_yes : ∀ {l : List (Nat × Operand)} {k : List (Nat × AV) → Ans}, evPK l E t k = .yes → ∃ r, evP (ev E.P t) l = some r ∧ k r = .yes
  | [], k, hh => ⟨[], rfl, hh⟩
  | (i, x) :: l, k, hh => by
    obtain ⟨v, h1, h2⟩ := evK_yes (x := x) (k := fun v => evPK l E t (fun l => k ((i, v) :: l))) hh
    obtain ⟨r, h3, h4⟩ := evPK_yes h2
    exact ⟨(i, v) :: r, by simp only [evP, h1, h3], h4⟩
theorem preK_yes : ∀ {vs cs : List AV} {k : List AV → Ans}, preK vs cs k = .yes → ∃ r, putAt cs 0 vs = some r ∧ k r = .yes
  | [], cs, k, hh => ⟨cs, by cases cs <;> rfl, hh⟩
  | v :: vs, [], k, hh => by cases hh
  | v :: vs, c :: cs, k, hh => by
    obtain ⟨r, h1, h2⟩ := preK_yes (vs := vs) (cs := cs) (k := fun r => k (v :: r)) hh
    exact ⟨v :: r, by simp only [putAt, h1, Option.map_some], h2⟩
theorem putK_yes {vs : List AV} : ∀ {off : Nat} {cs : List AV} {k : List AV → Ans}, putK vs off cs k = .yes → ∃ r, putAt cs off vs = some r ∧ k r = .yes
  | 0, cs, k, hh => preK_yes hh
  | off + 1, [], k, hh => by cases hh
  | off + 1, c :: cs, k, hh => by
    obtain ⟨r, h1, h2⟩ := putK_yes (off := off) (cs := cs) (k := fun r => k (c :: r)) hh
    exact ⟨c :: r, by simp only [putAt, h1, Option.map_some], h2⟩
theorem cellsL_eq (v : AV) : cellsL v = v.cells := by cases v <;> rfl
theorem fillK_yes {place : Nat → Option (Nat × Nat)} : ∀ {ps : List (Nat × AV)} {cs : List AV} {k : List AV → Ans}, fillK place ps cs k = .yes → ∃ r, fillA place cs ps = some r ∧ k r = .yes
  | [], cs, k, hh => ⟨cs, rfl, hh⟩
  | (i, v) :: ps, cs, k, hh => by
    obtain ⟨⟨off, size⟩, h1, h2⟩ := oK_yes (x := place i) hh
    obtain ⟨h3, h4⟩ := bK_yes (b := Nat.beq (lenL (cellsL v)) size) (k := putK (cellsL v) off cs (fun cs' => fillK place ps cs' k)) h2
    obtain ⟨r, h5, h6⟩ := putK_yes h4
    obtain ⟨r', h7, h8⟩ := fillK_yes h6
    rw [lenL_eq, cellsL_eq] at h3
    rw [cellsL_eq] at h5
    exact ⟨r', by simp only [fillA, h1, h3, h5, h7], h8⟩
theorem fillA_mono {p q : Nat → Option (Nat × Nat)} (hpq : ∀ i a, p i = some a → q i = some a) : ∀ {ps : List (Nat × AV)} {cs r : List AV}, fillA p cs ps = some r → fillA q cs ps = some r
  | [], cs, r, hh => hh
  | (i, v) :: ps, cs, r, hh => by
    unfold fillA at hh ⊢
    split at hh
    · rename_i off size hp
      rw [hpq i _ hp]
      simp only
      split at hh
      · rename_i hl
        split at hh
        · rename_i cs' hc
          exact fillA_mono hpq hh
        · cases hh
      · cases hh
    · cases hh
theorem noJunkK_eq : ∀ (l : List (Nat × AV)), noJunkK l = noJunk l
  | [] => rfl
  | (i, v) :: l => by
    have ih := noJunkK_eq l
    unfold noJunk at ih ⊢
    rw [List.all_cons, ← ih]
    cases v <;> rfl

theorem buildK_ok {ty : TypeId} {ps : Array (Nat × Operand)} (hh : buildK ty ps E t h kv kr = .yes) : OpY E t h (.build ty ps) kv kr := by
  unfold buildK at hh
  cases hb : bldT E.tt ty with
  | none => rw [hb] at hh; exact slowK_ok hh
  | some q =>
    obtain ⟨zc, fs⟩ := q
    rw [hb] at hh
    obtain ⟨l, h1, hh⟩ := evPK_yes (l := ps.toList) (k := fun l => bK (noJunkK l) (fillK (placeT E.tt fs) l zc (fun cs => kv (.agg cs) h))) hh
    obtain ⟨h2, hh⟩ := bK_yes hh
    obtain ⟨cs, h3, hq⟩ := fillK_yes hh
    rw [noJunkK_eq] at h2
    unfold bldT at hb
    split at hb
    · rename_i z fs' q1 q2
      split at hb
      · rename_i q3
        cases hb
        have q1 := tzeroT_of q1
        have q2 := undT_of q2
        have q3 : (fs'.toList.all fun f => (tsz E.P f.type).isSome) = true := by
          rw [List.all_eq_true] at q3 ⊢
          intro f hf
          have := q3 f hf
          cases hs : tszT E.tt f.type with
          | none => rw [hs] at this; cases this
          | some n => rw [tszT_of hs]; rfl
        have h3 := fillA_mono (fun i a => placeT_of) h3
        refine ⟨.val (.agg cs) h, ?_, hq⟩
        simp only [opA, h1, h2, buildA, q1, q2, q3, h3, Option.map_some, vh]
      · cases hb
    · cases hb

theorem buildSliceK_ok {ty : TypeId} {n : Nat} {ps : Array (Nat × Operand)} (hh : buildSliceK ty n ps E t h kv kr = .yes) : OpY E t h (.buildSlice ty n ps) kv kr := by
  unfold buildSliceK at hh
  obtain ⟨⟨el, s, zc⟩, hb, hh⟩ := oK_yes hh
  obtain ⟨h0, hh⟩ := bK_yes (b := Nat.ble (Nat.mul n s) 1000000) hh
  obtain ⟨l, h1, hh⟩ := evPK_yes hh
  obtain ⟨h2, hh⟩ := bK_yes hh
  obtain ⟨cs, h3, hq⟩ := fillK_yes hh
  have hq := stLK_yes hq
  rw [newK_eq, Nat.zero_add] at hq
  rw [noJunkK_eq] at h2
  unfold bslT at hb
  split at hb
  · rename_i el' q1
    split at hb
    · rename_i s' z q2 q3
      split at hb
      · rename_i q4
        cases hb
        have q1 := undT_of q1
        have q2 := tszT_of q2
        have q3 := tzeroT_of q3
        simp only [Bool.and_eq_true] at q4
        refine ⟨.val _ _, ?_, hq⟩
        simp only [opA, h1, buildSliceA, q1, q2, q3, h0, q4.1, q4.2, h2, Bool.and_self, h3, ph]
        rfl
      · cases hb
    · cases hb
  · cases hb

theorem opK_ok {op : Op} (hh : opK op E t h kv kr = .yes) : OpY E t h op kv kr := by
  cases op
  case move x => exact moveK_ok hh
  case assign x => exact assignK_ok hh
  case pick c a b => exact pickK_ok hh
  case alloc e => exact allocK_ok hh
  case box e x => exact boxK_ok hh
  case load ty x => exact loadK_ok hh
  case build ty ps => exact buildK_ok hh
  case buildSlice ty n ps => exact buildSliceK_ok hh
  case store ty a x => exact storeK_ok hh
  case nilCheck x => exact nilCheckK_ok hh
  case binOp op ty x y yt => exact binOpK_ok hh
  case unOp op ty x => exact unOpK_ok hh
  case slice ty x l hi m => exact sliceK_ok hh
  case fieldAddr ty x i => exact fieldAddrK_ok hh
  case indexAddr ty x i => exact indexAddrK_ok hh
  case index ty x i => exact indexK_ok hh
  case extract x i => exact extractK_ok hh
  case call c => exact callK_ok hh
  all_goals first | exact slowK_ok hh | cases hh
end
end Go.Ai
