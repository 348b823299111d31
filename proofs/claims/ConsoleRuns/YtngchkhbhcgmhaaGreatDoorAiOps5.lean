/- A part of the proof of ConsoleRuns: AiOps5. -/
import Derived.Test.YtngchkhbhcgmhaaGreatDoorAiOps4
set_option linter.unusedVariables false
set_option linter.unusedSimpArgs false
set_option linter.unusedSectionVars false
set_option linter.unnecessarySimpa false
/- Built values, tests on types, lengths; the words for what an operation does to memory. -/
namespace Go.Ai

section
variable {P : Program} {ι κ : Emb} {w w' : World} {h h' : H}

/-- what a run stands on -/
structure St (P : Program) (h : H) (ι : Emb) (w : World) : Prop where
  rel : HRel P h.obj ι w
  bd : Bd h ι
  fit : ∀ F g L, ι F g = some L → L.p + L.m ≤ L.N
  glob : GRel P ι

/-- where a step leads -/
structure Done (P : Program) (h : H) (ι : Emb) (w : World) (h' : H) (κ : Emb) (w' : World) : Prop where
  rel : HRel P h'.obj κ w'
  grow : Grow h.obj ι h.nx w h'.obj κ w'
  bd : Bd h' κ
  nx : h.nx ≤ h'.nx
  fit : ∀ F g L, κ F g = some L → L.p + L.m ≤ L.N

theorem Done.refl (hs : St P h ι w) : Done P h ι w h ι w := ⟨hs.rel, .refl _ _ _ _, hs.bd, Nat.le_refl _, hs.fit⟩
theorem Done.st (hs : St P h ι w) (hd : Done P h ι w h' κ w') : St P h' κ w' := ⟨hd.rel, hd.bd, hd.fit, hs.glob.mono hd.grow.le⟩
theorem Done.trans {h'' : H} {μ : Emb} {w'' : World} (h1 : Done P h ι w h' κ w') (h2 : Done P h' κ w' h'' μ w'') : Done P h ι w h'' μ w'' :=
  ⟨h2.rel, h1.grow.trans h2.grow h1.nx, h2.bd, Nat.le_trans h1.nx h2.nx, h2.fit⟩

def Does (P : Program) (h : H) (ι : Emb) (w : World) (s : Sem Value) (v : AV) (h' : H) : Prop := ∃ x w' κ, s.run P w = .ok x w' ∧ VRel P κ v x ∧ Done P h ι w h' κ w'
def DoesU (P : Program) (h : H) (ι : Emb) (w : World) (s : Sem Unit) (h' : H) : Prop := ∃ w' κ, s.run P w = .ok () w' ∧ Done P h ι w h' κ w'

theorem Gives.does (hs : St P h ι w) {s : Sem Value} {v : AV} (hg : Gives P ι w s v) : Does P h ι w s v h := by
  obtain ⟨x, a, b⟩ := hg
  exact ⟨x, w, ι, a, b, .refl hs⟩

theorem ofV_ne_junk : ∀ (n : Nat) (v : Value), ofV n v ≠ some .junk
  | 0, _ => by simp [ofV]
  | n + 1, v => by
    unfold ofV
    split <;> simp [strOf]

theorem tzero_ne_junk {t : TypeId} {z : AV} (ht : tzero P t = some z) : z ≠ .junk := by
  intro e
  subst e
  unfold tzero at ht
  cases hi : P.info? t with
  | none => simp [hi] at ht
  | some i =>
    cases hz : i.zero with
    | none => simp [hi, hz] at ht
    | some x => exact ofV_ne_junk 8 x (by simpa [hi, hz] using ht)

theorem places_of : ∀ (fs : List Field), (fs.all fun f => (tsz P f.type).isSome) = true → ∃ places, fs.mapM (fun f => (P.info? f.type).map fun i => (f.offset, i.size)) = some places ∧ ∀ i a, placeA P fs i = some a → places[i]? = some a
  | [], _ => ⟨[], by simp, fun i a h => by simp [placeA, fieldsAt] at h⟩
  | f :: fs, hf => by
    simp at hf
    obtain ⟨places, h1, h2⟩ := places_of fs (by simpa using hf.2)
    have h0 : (tsz P f.type).isSome = true := hf.1
    obtain ⟨n, hn⟩ := Option.isSome_iff_exists.1 h0
    obtain ⟨i, hi, hsz⟩ := tsz_info hn
    refine ⟨(f.offset, i.size) :: places, by simp [List.mapM_cons, hi, h1], fun j a hj => ?_⟩
    cases j with
    | zero => simp [placeA, fieldsAt, hn] at hj; subst hj; simp [hsz]
    | succ j =>
      have : placeA P fs j = some a := by simpa [placeA, fieldsAt] using hj
      simpa using h2 j a this

theorem evP_rel {e : Env} {ρ : Operand → Value} (he : ∀ x v, e x = some v → VRel P ι v (ρ x)) : ∀ (l : List (Nat × Operand)) (r : List (Nat × AV)), evP e l = some r →
    r.length = (l.map fun (i, x) => (i, ρ x)).length ∧ ∀ (j : Nat) (p : Nat × AV) (q : Nat × Value), r[j]? = some p → (l.map fun (i, x) => (i, ρ x))[j]? = some q → p.1 = q.1 ∧ VRel P ι p.2 q.2
  | [], r, h => by simp [evP] at h; subst h; simp
  | (i, x) :: l, r, h => by
    unfold evP at h
    split at h
    · rename_i v hv
      split at h
      · rename_i r' hr
        cases h
        obtain ⟨h1, h2⟩ := evP_rel he l r' hr
        refine ⟨by simp at h1 ⊢; exact h1, fun j p q a b => ?_⟩
        cases j with
        | zero => simp at a b; subst a; subst b; exact ⟨rfl, he x v hv⟩
        | succ j => exact h2 j p q (by simpa using a) (by simpa using b)
      · cases h
    · cases h

theorem fillA_nojunk {place : Nat → Option (Nat × Nat)} : ∀ (ps : List (Nat × AV)) (cs r : List AV), fillA place cs ps = some r → ∀ p ∈ ps, ∃ off, place p.1 = some (off, p.2.cells.length)
  | [], _, _, _, p, hp => by cases hp
  | (i, v) :: ps, cs, r, hf, p, hp => by
    unfold fillA at hf
    split at hf
    · rename_i off size hpl
      split at hf
      · rename_i hsz
        split at hf
        · rename_i cs' hcs
          rcases List.mem_cons.1 hp with e | e
          · subst e; exact ⟨off, by rw [hpl, Nat.eq_of_beq_eq_true hsz]⟩
          · exact fillA_nojunk ps cs' r hf p e
        · cases hf
      · cases hf
    · cases hf

theorem noJunk_ne {ps : List (Nat × AV)} (hj : noJunk ps = true) {j : Nat} {p : Nat × AV} (hp : ps[j]? = some p) : p.2 ≠ .junk := by
  intro e
  have := List.all_eq_true.1 hj p (List.mem_of_getElem? hp)
  rw [e] at this
  cases this

theorem build_rel {t : TypeId} {e : Env} {ρ : Operand → Value} {ps : Array (Nat × Operand)} {l : List (Nat × AV)} {v : AV} (he : ∀ x v, e x = some v → VRel P ι v (ρ x)) (hl : evP e ps.toList = some l) (hj : noJunk l = true)
    (hv : buildA P t l = some v) : Gives P ι w (Instr.build t (ps.map fun (i, x) => (i, ρ x))) v := by
  obtain ⟨q1, q2⟩ := evP_rel he _ _ hl
  have hlist : (ps.map fun (i, x) => (i, ρ x)).toList = ps.toList.map fun (i, x) => (i, ρ x) := by simp
  unfold buildA at hv
  split at hv
  · rename_i z fs hz hu
    obtain ⟨x, hx, hxr⟩ := run_zero hz
    split at hv
    · rename_i hall
      simp only [Option.map_eq_some_iff] at hv
      obtain ⟨r, hr, rfl⟩ := hv
      obtain ⟨places, p1, p2⟩ := places_of fs.toList hall
      have hzc := cells_rel (hxr ι) (tzero_ne_junk hz)
      obtain ⟨m', r1, r2⟩ := fill_rel (place' := (places.toArray[·]?)) (fun i a ha => by simpa using p2 i a ha) l (ps.toList.map fun (i, x) => (i, ρ x)) _ _ x.cells hr hzc q1
        (fun j p q a b => ⟨(q2 j p q a b).1, (q2 j p q a b).2, noJunk_ne hj a⟩)
      refine Gives.of (.agg r2) ?_
      have hpl := run_places (P := P) w fs.toList places p1
      simp only [Instr.build, Sem.run_bind, hx w, Result.andThen_ok, run_underlying hu w, Array.mapM_eq_mapM_toList, Sem.run_map]
      have hpl' : (fs.toList.mapM fun (f : Field) => do pure (f.offset, ← sizeOf f.type)).run P w = .ok places w := by
        simpa using hpl
      rw [hpl']
      simp only [Result.andThen_ok, hlist, r1, Sem.run_pure]
    · cases hv
  · rename_i z n el hz hu
    obtain ⟨x, hx, hxr⟩ := run_zero hz
    split at hv
    · rename_i s hs
      simp only [Option.map_eq_some_iff] at hv
      obtain ⟨r, hr, rfl⟩ := hv
      have hzc := cells_rel (hxr ι) (tzero_ne_junk hz)
      obtain ⟨m', r1, r2⟩ := fill_rel (place' := fun i => some (i * s, s)) (fun i a ha => ha) l (ps.toList.map fun (i, x) => (i, ρ x)) _ _ x.cells hr hzc q1
        (fun j p q a b => ⟨(q2 j p q a b).1, (q2 j p q a b).2, noJunk_ne hj a⟩)
      refine Gives.of (.agg r2) ?_
      simp only [Instr.build, Sem.run_bind, hx w, Result.andThen_ok, run_underlying hu w, run_sizeOf' hs w, hlist, r1, Sem.run_pure]
    · cases hv
  · cases hv

theorem len_rel (hr : HRel P h.obj ι w) {t : TypeId} {v1 v : AV} {x : Value} (hv : lenA P h t v1 = some v) (hx : VRel P ι v1 x) (ts : Array TypeId) (ht : ts[0]? = some t) (ty : TypeId) :
    Gives P ι w (Builtin.len_ ts ty #[x]) v := by
  unfold lenA at hv
  split at hv
  · rename_i l b hu
    cases hv
    obtain ⟨s, rfl, rfl, rfl⟩ := str_inv hx
    refine Gives.of (.int .i64 _) ?_
    simp [Builtin.len_, ht, run_underlying hu w, goInt]
  · rename_i n e hu
    cases hv
    refine Gives.of (.int .i64 _) ?_
    simp [Builtin.len_, ht, run_underlying hu w, goInt]
  · rename_i e F g o s n c hu
    cases hv
    cases hx
    refine Gives.of (.int .i64 _) ?_
    simp [Builtin.len_, ht, run_underlying hu w, goInt]
  · rename_i e hu
    cases hv
    cases hx
    refine Gives.of (.int .i64 _) ?_
    simp [Builtin.len_, ht, run_underlying hu w, goInt]
  · rename_i k e hu
    cases hv
    cases hx
    refine Gives.of (.int .i64 _) ?_
    simp [Builtin.len_, ht, run_underlying hu w, goInt]
  · rename_i k e hu hne
    split at hv
    · rename_i es ck hm
      cases hv
      unfold mapOf at hm
      split at hm
      · rename_i F
        split at hm
        · rename_i es' ck' ho
          cases hm
          cases hx with
          | map hi =>
          obtain ⟨ces, hg, hes⟩ := hr.map F _ _ _ ho hi
          have hlen : ∀ {l : List Ent} {m : List MapEntry}, EntsRel P ι l m → l.length = m.length := by
            intro l m hh
            induction hh with
            | nil => rfl
            | cons _ _ _ _ ih => simp [ih]
          refine Gives.of (.int .i64 _) ?_
          have hl := hlen hes
          simp [Builtin.len_, ht, run_underlying hu w, goInt, getObj, Sem.run, hg, hl]
        · cases hm
      · cases hm
    · cases hv
  · cases hv

theorem assert_rel {x : AV} {v : AV} {y : Value} {xt asserted : TypeId} {ok : Bool} (hv : assertA P x asserted ok = some v) (hx : VRel P ι x y) : Gives P ι w (Instr.typeAssert y xt asserted ok) v := by
  unfold assertA at hv
  have hz : ∀ z, tzero P asserted = some z → ∃ q, (zeroValue asserted).run P w = .ok q w ∧ VRel P ι z q := fun z hz => by
    obtain ⟨q, a, b⟩ := run_zero hz
    exact ⟨q, a w, b ι⟩
  have fin : (assertR P x asserted = some none ∧ ok = true ∧ ∃ z, tzero P asserted = some z ∧ v = .tup [z, .bool false]) ∨ ∃ u, assertR P x asserted = some (some u) ∧ v = (if ok then .tup [u, .bool true] else u) := by
    split at hv
    · rename_i u e; cases hv; exact .inr ⟨_, e, rfl⟩
    · rename_i u e; cases hv; exact .inr ⟨_, e, rfl⟩
    · rename_i e
      split at hv
      · rename_i z hz; cases hv; exact .inl ⟨e, rfl, z, hz, rfl⟩
      · cases hv
    · cases hv
  have hold : ∀ {u : AV} {q : Value}, VRel P ι u q → ∃ z, (if ok then Value.tuple #[q, .bool true] else q) = z ∧ VRel P ι (if ok then .tup [u, .bool true] else u) z := by
    intro u q hq
    refine ⟨_, rfl, ?_⟩
    cases ok
    · exact hq
    · exact .tup (.cons hq (.cons (.bool _) .nil))
  rcases fin with ⟨e, hok, z, hz', rfl⟩ | ⟨u, e, rfl⟩
  · subst hok
    obtain ⟨q, hq1, hq2⟩ := hz z hz'
    refine Gives.of (x := .tuple #[q, .bool false]) (.tup (.cons hq2 (.cons (.bool _) .nil))) ?_
    unfold assertR at e
    split at e
    · rename_i hu; cases hx; simp [Instr.typeAssert, run_underlying hu w, hq1]
    · rename_i want t u hu
      cases hx
      split at e
      · rename_i i hi
        split at e
        · simp at e
        · rename_i m hm; simp [Instr.typeAssert, run_underlying hu w, hq1, run_typeInfo' hi w, hm]
      · cases e
    · rename_i d hd hu; cases hx; cases d <;> first | (exact absurd rfl (hd _)) | simp [Instr.typeAssert, run_underlying hu w, hq1]
    · rename_i d t u hd hu
      cases hx
      split at e
      · simp at e
      · rename_i hne
        have hne' : t ≠ asserted := fun e => by subst e; rw [Nat.beq_refl] at hne; cases hne
        cases d <;> first | (exact absurd rfl (hd _)) | simp [Instr.typeAssert, run_underlying hu w, hq1, hne']
    · cases e
  · unfold assertR at e
    split at e
    · simp at e
    · rename_i want t u' hu
      split at e
      · rename_i i hi
        split at e
        · rename_i hm
          simp at e
          subst e
          obtain ⟨z, hz1, hz2⟩ := hold hx
          refine Gives.of hz2 ?_
          cases hx
          subst hz1
          simp [Instr.typeAssert, run_underlying hu w, run_typeInfo' hi w, hm]
        · simp at e
      · cases e
    · simp at e
    · rename_i d t u' hd hu
      cases hx with
      | ifc hx =>
      split at e
      · rename_i heq
        simp at e
        subst e
        have := Nat.eq_of_beq_eq_true heq
        subst this
        obtain ⟨z, hz1, hz2⟩ := hold hx
        refine Gives.of hz2 ?_
        subst hz1
        cases d <;> first | (exact absurd rfl (hd _)) | simp [Instr.typeAssert, run_underlying hu w]
      · simp at e
    · cases e

end
end Go.Ai
