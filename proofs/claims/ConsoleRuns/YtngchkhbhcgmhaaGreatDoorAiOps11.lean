/- A part of the proof of ConsoleRuns: AiOps11. -/
import Derived.Test.YtngchkhbhcgmhaaGreatDoorAiOps10
set_option linter.unusedVariables false
set_option linter.unusedSimpArgs false
set_option linter.unusedSectionVars false
set_option linter.unnecessarySimpa false
/- Maps. -/
namespace Go.Ai

section
variable {P : Program} {ι κ : Emb} {w w' : World} {h h' : H}

theorem keyOk_rel : ∀ (n : Nat) (t : TypeId) (v : AV) (x : Value) (em : Bool), keyOk P n t v = true → VRel P ι v x → ∀ D, n ≤ D → ∀ w, (Instr.checkKey em D t x).run P w = .ok () w
  | 0, _, _, _, _, hk, _ => by simp [keyOk] at hk
  | n + 1, t, v, x, em, hk, hx => by
    intro D hD w
    obtain ⟨D, rfl⟩ : ∃ m, D = m + 1 := ⟨D - 1, by omega⟩
    unfold keyOk at hk
    split at hk
    · rename_i len e cs hu
      split at hk
      · rename_i s hs
        cases hx with
        | agg hl =>
        rename_i xs
        rw [Instr.checkKey]
        simp only [Sem.run_bind, run_underlying hu, Result.andThen_ok]
        simp only [Std.Legacy.Range.forIn_eq_forIn_range', Std.Legacy.Range.size, Nat.sub_zero, Nat.add_one_sub_one, Nat.div_one]
        rw [List.range_eq_range'] at hk
        generalize List.range' 0 len = L at hk
        induction L with
        | nil => simp
        | cons j L ih =>
          unfold keyArr at hk
          split at hk
          · rename_i a ha
            simp only [Bool.and_eq_true] at hk
            obtain ⟨y, q1, q2⟩ := part_rel ha hl
            have q3 := keyOk_rel n e a y em hk.1 q2 D (by omega)
            have q1' : ∀ w, (part e xs (j * s)).run P w = .ok y w := q1
            simp only [List.forIn_cons, Sem.run_bind, run_sizeOf' hs, Result.andThen_ok, q1', q3, Sem.run_pure]
            exact ih hk.2
          · cases hk
      · cases hk
    · rename_i fs cs hu
      cases hx with
      | agg hl =>
      rename_i xs
      rw [Instr.checkKey]
      simp only [Sem.run_bind, run_underlying hu, Result.andThen_ok]
      rw [← Array.forIn_toList]
      generalize fs.toList = L at hk
      induction L with
      | nil => simp
      | cons f L ih =>
        unfold keyStr at hk
        split at hk
        · rename_i hn
          have hn' : f.name = "_" := by simpa using hn
          simp only [List.forIn_cons, Sem.run_bind, hn', ne_eq, not_true_eq_false, if_false, Result.andThen_ok, Sem.run_pure]
          exact ih hk
        · rename_i hn
          have hn' : ¬ (f.name = "_") := by simpa using hn
          split at hk
          · rename_i a ha
            simp only [Bool.and_eq_true] at hk
            obtain ⟨y, q1, q2⟩ := part_rel ha hl
            have q3 := keyOk_rel n f.type a y em hk.1 q2 D (by omega)
            simp only [List.forIn_cons, Sem.run_bind, hn', ne_eq, not_false_eq_true, if_true, Result.andThen_ok, q1, q3, Sem.run_pure]
            exact ih hk.2
          · cases hk
    · rename_i k hu
      rw [Instr.checkKey]
      simp [run_underlying hu]
    · rename_i hu
      rw [Instr.checkKey]
      simp [run_underlying hu]
    · rename_i hu
      rw [Instr.checkKey]
      simp [run_underlying hu]
    · rename_i k hu
      rw [Instr.checkKey]
      simp [run_underlying hu]
    · cases hk

theorem sameK_rel : ∀ (n : Nat) (a b : AV) (x y : Value), sameK n a b = true → VRel P ι a x → VRel P ι b y → ∀ D, n ≤ D → Instr.sameBits D x y = true
  | 0, _, _, _, _, hk, _, _ => by simp [sameK] at hk
  | n + 1, a, b, x, y, hk, hx, hy => by
    intro D hD
    obtain ⟨D, rfl⟩ : ∃ m, D = m + 1 := ⟨D - 1, by omega⟩
    unfold sameK at hk
    split at hk
    · cases hx; cases hy; simpa [Instr.sameBits] using hk
    · cases hx; cases hy; simpa [Instr.sameBits] using hk
    · obtain ⟨s, rfl, rfl, rfl⟩ := str_inv hx
      obtain ⟨u, rfl, rfl, rfl⟩ := str_inv hy
      rw [Instr.sameBits, packed_beq]
      exact hk
    · simp only [Bool.and_eq_true] at hk
      obtain ⟨⟨⟨e1, e2⟩, e3⟩, e4⟩ := hk
      have e1 := Nat.eq_of_beq_eq_true e1
      have e2 := Nat.eq_of_beq_eq_true e2
      have e3 := Nat.eq_of_beq_eq_true e3
      subst e1; subst e2; subst e3
      cases hx with
      | ptr hi he =>
      cases hy with
      | ptr hi' he' =>
      rw [hi] at hi'
      cases hi'
      simp [Instr.sameBits]
    · cases hx; cases hy; simp [Instr.sameBits]
    · rename_i l m
      cases hx with
      | agg hl =>
      cases hy with
      | agg hm =>
      rename_i xs ys
      have key : ∀ (l m : List AV) (xs ys : List Value), sameL (sameK n) l m = true → VRelL P ι l xs → VRelL P ι m ys → xs.length = ys.length ∧ (xs.zip ys).all (fun (x, y) => Instr.sameBits D x y) = true := by
        intro l
        induction l with
        | nil =>
          intro m xs ys hh h1 h2
          cases m with
          | nil => cases h1; cases h2; exact ⟨rfl, rfl⟩
          | cons _ _ => simp [sameL] at hh
        | cons a l ih =>
          intro m xs ys hh h1 h2
          cases m with
          | nil => simp [sameL] at hh
          | cons b m =>
            simp only [sameL, Bool.and_eq_true] at hh
            cases h1 with
            | cons ha h1 =>
            cases h2 with
            | cons hb h2 =>
            obtain ⟨q1, q2⟩ := ih m _ _ hh.2 h1 h2
            have q3 := sameK_rel n a b _ _ hh.1 ha hb D (by omega)
            exact ⟨by simp [q1], by simp only [List.zip_cons_cons, List.all_cons, q3, q2, Bool.and_self]⟩
      obtain ⟨q1, q2⟩ := key l m _ _ hk hl hm
      rw [Instr.sameBits]
      rw [Bool.and_eq_true]
      exact ⟨by simpa using q1, q2⟩
    · cases hk

theorem sameNow_eq (hr : HRel P h.obj ι w) {kt : TypeId} {d : TypeDesc} {a b : AV} {x y : Value} {c c' : Bool} (hu : P.underlying kt = some d) (he : eqA P h 100 kt a b = some c) (hx : VRel P ι a x) (hy : VRel P ι b y)
    (hn : Instr.sameNow d x y = some c') : c' = c := by
  obtain ⟨m, hm⟩ : ∃ m, 100 ≤ m + 1 := ⟨99, by decide⟩
  have hq := eqA_rel hr 100 kt a b c x y he hx hy (m + 1) hm
  unfold Instr.sameNow at hn
  split at hn
  · rename_i k i k' j
    split at hn
    · rename_i hk
      subst hk
      cases hn
      simp [Op.equalIn, run_underlying hu] at hq
      rw [← hq]
    · cases hn
  · cases hn
    simp [Op.equalIn, run_underlying hu] at hq
    exact hq
  · cases hn
    simp [Op.equalIn, run_underlying hu] at hq
    exact hq
  · cases hn

/-- where a key stands, in the model -/
theorem findA_rel (hr : HRel P h.obj ι w) {kt : TypeId} {d : TypeDesc} {k : AV} {x : Value} (hu : P.underlying kt = some d) (hx : VRel P ι k x) : ∀ (es : List Ent) (ces : List MapEntry) (i : Nat) (r : Option (Nat × Ent)),
    findA P h kt k es i = some r → EntsRel P ι es ces →
    ∃ r' : Option (Nat × Value), (Instr.findAsking kt x ces i).run P w = .ok r' w ∧ (∀ q, Instr.findNow d x ces i = some q → q = r') ∧
      ((r = none ∧ r' = none) ∨ ∃ m e c, r = some (i + m, e) ∧ r' = some (i + m, c.val) ∧ es[m]? = some e ∧ ces[m]? = some c ∧ sameK 100 e.1 k = true)
  | [], ces, i, r, hf, hes => by
    cases hes
    simp [findA] at hf
    subst hf
    exact ⟨none, by simp [Instr.findAsking], fun q hq => by simp [Instr.findNow] at hq; exact hq.symm, .inl ⟨rfl, rfl⟩⟩
  | e :: es, ces, i, r, hf, hes => by
    cases hes with
    | cons hk hv hb hl =>
    rename_i c ces
    unfold findA at hf
    split at hf
    · rename_i he
      have hq := eqA_rel hr 100 kt k e.1 true x c.key he hx hk Op.maxDepth (by decide)
      split at hf
      · rename_i hsm
        cases hf
        refine ⟨some (i, c.val), ?_, ?_, .inr ⟨0, e, c, rfl, rfl, rfl, rfl, hsm⟩⟩
        · have hq' : (Op.equal kt x c.key).run P w = .ok true w := hq
          simp [Instr.findAsking, hq']
        · intro q hq2
          unfold Instr.findNow at hq2
          split at hq2
          · cases hq2; rfl
          · rename_i hs
            have := sameNow_eq hr hu he hx hk hs
            cases this
          · cases hq2
      · cases hf
    · rename_i he
      have hq := eqA_rel hr 100 kt k e.1 false x c.key he hx hk Op.maxDepth (by decide)
      have hq' : (Op.equal kt x c.key).run P w = .ok false w := hq
      obtain ⟨r', a1, a2, a3⟩ := findA_rel hr hu hx es ces (i + 1) r hf hl
      refine ⟨r', ?_, ?_, ?_⟩
      · simp [Instr.findAsking, hq', a1]
      · intro q hq2
        unfold Instr.findNow at hq2
        split at hq2
        · rename_i hs
          have := sameNow_eq hr hu he hx hk hs
          cases this
        · exact a2 q hq2
        · cases hq2
      · rcases a3 with q | ⟨m, e', c', b1, b2, b3, b4, b5⟩
        · exact .inl q
        · exact .inr ⟨m + 1, e', c', by rw [b1]; congr 2; omega, by rw [b2]; congr 2; omega, by simpa using b3, by simpa using b4, b5⟩
    · cases hf

theorem findKey_rel (hr : HRel P h.obj ι w) {kt : TypeId} {d : TypeDesc} {k : AV} {x : Value} (hu : P.underlying kt = some d) (hx : VRel P ι k x) {es : List Ent} {ces : List MapEntry} {r : Option (Nat × Ent)}
    (hf : findA P h kt k es 0 = some r) (hes : EntsRel P ι es ces) :
    ∃ r' : Option (Nat × Value), (Instr.findKey kt x ces).run P w = .ok r' w ∧
      ((r = none ∧ r' = none) ∨ ∃ m e c, r = some (m, e) ∧ r' = some (m, c.val) ∧ es[m]? = some e ∧ ces[m]? = some c ∧ sameK 100 e.1 k = true) := by
  obtain ⟨r', a1, a2, a3⟩ := findA_rel hr hu hx es ces 0 r hf hes
  refine ⟨r', ?_, by simpa using a3⟩
  cases hn : Instr.findNow d x ces 0 with
  | none => simp [Instr.findKey, run_underlying hu, hn, a1]
  | some q => simp [Instr.findKey, run_underlying hu, hn, a2 q hn]

theorem mapOf_rel (hr : HRel P h.obj ι w) {v : AV} {x : Value} {es : List Ent} {ck : Nat} (hm : mapOf h v = some (es, ck)) (hx : VRel P ι v x) :
    ∃ F L ces, v = .map F ∧ h.obj F = some (.map es ck) ∧ ι F 0 = some L ∧ x = .map (some L.b) ∧ w.heap[L.b]? = some (.map ces ck) ∧ EntsRel P ι es ces.toList := by
  unfold mapOf at hm
  split at hm
  · rename_i F
    split at hm
    · rename_i es' ck' ho
      cases hm
      cases hx with
      | map hi =>
      rename_i L
      obtain ⟨ces, a, b⟩ := hr.map F es ck L ho hi
      exact ⟨F, L, ces, rfl, ho, hi, rfl, a, b⟩
    · cases hm
  · cases hm

theorem EntsRel.get : ∀ {l : List Ent} {m : List MapEntry}, EntsRel P ι l m → ∀ {i : Nat} {e : Ent} {c : MapEntry}, l[i]? = some e → m[i]? = some c → VRel P ι e.1 c.key ∧ VRel P ι e.2.1 c.val ∧ e.2.2 = c.born
  | _, _, .nil, i, e, c, h1, _ => by simp at h1
  | _, _, .cons hk hv hb hl, 0, e, c, h1, h2 => by
    simp at h1 h2
    subst h1; subst h2
    exact ⟨hk, hv, hb⟩
  | _, _, .cons hk hv hb hl, i + 1, e, c, h1, h2 => hl.get (by simpa using h1) (by simpa using h2)

theorem EntsRel.length : ∀ {l : List Ent} {m : List MapEntry}, EntsRel P ι l m → l.length = m.length
  | _, _, .nil => rfl
  | _, _, .cons _ _ _ hl => by simp [hl.length]

theorem EntsRel.snoc : ∀ {l : List Ent} {m : List MapEntry} {e : Ent} {c : MapEntry}, EntsRel P ι l m → VRel P ι e.1 c.key → VRel P ι e.2.1 c.val → e.2.2 = c.born → EntsRel P ι (l ++ [e]) (m ++ [c])
  | _, _, _, _, .nil, h1, h2, h3 => .cons h1 h2 h3 .nil
  | _, _, _, _, .cons hk hv hb hl, h1, h2, h3 => .cons hk hv hb (hl.snoc h1 h2 h3)

theorem EntsRel.setNth : ∀ {l : List Ent} {m : List MapEntry}, EntsRel P ι l m → ∀ (i : Nat) (e : Ent) (f : MapEntry → MapEntry), (∀ c, m[i]? = some c → VRel P ι e.1 (f c).key ∧ VRel P ι e.2.1 (f c).val ∧ e.2.2 = (f c).born) →
    EntsRel P ι (setNth l i e) (m.modify i f)
  | _, _, .nil, i, e, f, _ => by simp [Ai.setNth]; exact .nil
  | _, _, .cons hk hv hb hl, 0, e, f, hf => by
    obtain ⟨a, b, c⟩ := hf _ rfl
    exact .cons a b c hl
  | _, _, .cons hk hv hb hl, i + 1, e, f, hf => by
    simp only [Ai.setNth, List.modify_succ_cons]
    exact .cons hk hv hb (hl.setNth i e f (fun c hc => hf c (by simpa using hc)))

theorem run_gm {b ck : Nat} {ces : Array MapEntry} (hb : w.heap[b]? = some (.map ces ck)) : (getObj b).run P w = .ok (.map ces ck) w := by simp [getObj, Sem.run, hb]
theorem run_sm {b ck : Nat} {ces : Array MapEntry} (o : Obj) (hb : w.heap[b]? = some (.map ces ck)) : (setObj b o).run P w = .ok () { w with heap := w.heap.setIfInBounds b o } := by simp [setObj, Sem.run, hb]

theorem run_lookup {t kt et : TypeId} {y z zx : Value} {ces : Array MapEntry} {ck : Nat} {ok : Bool} {r : Option (Nat × Value)} (hu : P.underlying t = some (.map kt et))
    (hy : (y = .map none ∧ ces = #[]) ∨ ∃ b, y = .map (some b) ∧ w.heap[b]? = some (.map ces ck)) (hck : (Instr.checkKey ces.isEmpty 10000 kt z).run P w = .ok () w)
    (hf : (Instr.findKey kt z ces.toList).run P w = .ok r w) (hz : r = none → (zeroValue et).run P w = .ok zx w) :
    (Instr.lookup t y z ok).run P w = .ok (match r with
      | some (_, v) => if ok then .tuple #[v, .bool true] else v
      | none => if ok then .tuple #[zx, .bool false] else zx) w := by
  rcases hy with ⟨rfl, rfl⟩ | ⟨b, rfl, hb⟩
  · cases r with
    | none => simp [Instr.lookup, run_underlying hu] at hf hck ⊢; simp [hf, hck, hz rfl]
    | some q => simp [Instr.lookup, run_underlying hu] at hf hck ⊢; simp [hf, hck]
  · have hg := run_gm (P := P) hb
    cases r with
    | none => simp [Instr.lookup, run_underlying hu, hg, hck, hf, hz rfl]
    | some q => simp [Instr.lookup, run_underlying hu, hg, hck, hf]

theorem okTup_rel {ok b : Bool} {v : AV} {x : Value} (hv : VRel P ι v x) : VRel P ι (okTup ok v b) (if ok then .tuple #[x, .bool b] else x) := by
  cases ok with
  | false => exact hv
  | true => exact .tup (.cons hv (.cons (.bool b) .nil))

theorem keyOk_under {n : Nat} {kt : TypeId} {k : AV} (hok : keyOk P n kt k = true) : ∃ d, P.underlying kt = some d := by
  cases n with
  | zero => simp [keyOk] at hok
  | succ n =>
    cases hd : P.underlying kt with
    | none => simp [keyOk, hd] at hok
    | some d => exact ⟨d, rfl⟩

theorem lookup_rel (hr : HRel P h.obj ι w) {t : TypeId} {x k v : AV} {y z : Value} {ok : Bool} (hv : lookupA P h h t x k ok = some v) (hx : VRel P ι x y) (hk : VRel P ι k z) : Gives P ι w (Instr.lookup t y z ok) v := by
  unfold lookupA at hv
  split at hv
  · rename_i kt et hu
    split at hv
    · rename_i hok
      split at hv
      · rename_i es ck hm
        have hce : ∃ ces : Array MapEntry, EntsRel P ι es ces.toList ∧ ((y = .map none ∧ ces = #[]) ∨ ∃ b, y = .map (some b) ∧ w.heap[b]? = some (.map ces ck)) := by
          split at hm
          · cases hm; cases hx; exact ⟨#[], .nil, .inl ⟨rfl, rfl⟩⟩
          · obtain ⟨F, L, ces, rfl, q1, q2, rfl, q3, q4⟩ := mapOf_rel hr hm hx
            exact ⟨ces, q4, .inr ⟨_, rfl, q3⟩⟩
        obtain ⟨ces, hes, hget⟩ := hce
        have hck := keyOk_rel 20 kt k z ces.isEmpty hok hk 10000 (by decide) w
        obtain ⟨d, hd⟩ := keyOk_under hok
        split at hv
        · rename_i i e hf
          cases hv
          obtain ⟨r', q1, q2⟩ := findKey_rel hr hd hk hf hes
          rcases q2 with ⟨q, _⟩ | ⟨m, e', c, p1, rfl, p3, p4, p5⟩
          · cases q
          · cases p1
            obtain ⟨_, hvr, _⟩ := hes.get p3 p4
            exact Gives.of (okTup_rel hvr) (run_lookup (zx := .nilFunc) hu hget hck q1 (fun q => by cases q))
        · rename_i hf
          split at hv
          · rename_i zz hz
            cases hv
            obtain ⟨r', q1, q2⟩ := findKey_rel hr hd hk hf hes
            rcases q2 with ⟨_, rfl⟩ | ⟨m, e', c, p1, _⟩
            · obtain ⟨zx, hzx, hzr⟩ := run_zero hz
              exact Gives.of (okTup_rel (hzr ι)) (run_lookup hu hget hck q1 (fun _ => hzx w))
            · cases p1
          · cases hv
        · cases hv
      · cases hv
    · cases hv
  · cases hv

/-- what a map's block turns into -/
theorem setMap_rel (hs : St P h ι w) {F ck ck' : Nat} {L : Loc} {es es' : List Ent} {ces ces' : Array MapEntry} (ho : h.obj F = some (.map es ck)) (hi : ι F 0 = some L) (hg : w.heap[L.b]? = some (.map ces ck)) (hr : EntsRel P ι es' ces'.toList) :
    ∃ w', (setObj L.b (.map ces' ck')).run P w = .ok () w' ∧ Done P h ι w (h.put F (.map es' ck')) ι w' := by
  have hlt : L.b < w.heap.size := (Array.getElem?_eq_some_iff.1 hg).1
  obtain ⟨a1, a2⟩ := hs.rel.setO (o := .map es' ck') (c := .map ces' ck') ho (fun f q => by cases q) hi { w with heap := w.heap.setIfInBounds L.b (.map ces' ck') } (by simp [hlt]) (fun b hb => by simp [Ne.symm hb]) (by simp) rfl rfl rfl
    (fun f q => by cases q) (fun e c q => by cases q; exact ⟨ces', rfl, hr⟩) (fun l b p q => by cases q) (fun m a b d q => by cases q) h.nx
  exact ⟨_, run_sm _ hg, a1, a2, fun F' g' hF => hs.bd F' g' hF, Nat.le_refl _, hs.fit⟩

theorem run_keyStays {a b : AV} {x y : Value} (hk : sameK 100 a b = true) (hx : VRel P ι a x) (hy : VRel P ι b y) (w : World) : (Instr.keyThatStays x y).run P w = .ok y w := by
  have := sameK_rel 100 a b x y hk hx hy 10000 (by decide)
  simp [Instr.keyThatStays, this]

theorem mapUpdate_rel (hs : St P h ι w) {t : TypeId} {x k v : AV} {y z u : Value} (hv : mapUpdateA P h t x k v = some h') (hx : VRel P ι x y) (hk : VRel P ι k z) (hu' : VRel P ι v u) : DoesU P h ι w (Instr.mapUpdate t y z u) h' := by
  unfold mapUpdateA at hv
  split at hv
  · rename_i kt et F es ck hu hm
    split at hv
    · rename_i hok
      obtain ⟨F', L, ces, hF, ho, hi, rfl, hg, hes⟩ := mapOf_rel hs.rel hm hx
      cases hF
      have hck := keyOk_rel 20 kt k z false hok hk 10000 (by decide) w
      obtain ⟨d, hd⟩ := keyOk_under hok
      have hgo := run_gm (P := P) hg
      split at hv
      · rename_i i e hf
        cases hv
        obtain ⟨r', q1, q2⟩ := findKey_rel hs.rel hd hk hf hes
        rcases q2 with ⟨q, _⟩ | ⟨m, e', c, p1, rfl, p3, p4, p5⟩
        · cases q
        · cases p1
          obtain ⟨hkr, hvr, hbr⟩ := hes.get p3 p4
          have hst := run_keyStays p5 hkr hk w
          obtain ⟨w', r1, r2⟩ := setMap_rel hs (ck' := ck) ho hi hg (es' := setNth es i (k, v, e.2.2)) (ces' := ces.modify i fun e => { e with key := z, val := u }) (by
            rw [Array.toList_modify]
            refine hes.setNth _ _ _ (fun c' hc' => ?_)
            rw [p4] at hc'
            cases hc'
            exact ⟨hk, hu', hbr⟩)
          refine ⟨w', ι, ?_, r2⟩
          have p4' : ces[i]? = some c := by simpa using p4
          simp [Instr.mapUpdate, run_underlying hu, hgo, hck, q1, p4', hst, r1]
      · rename_i hf
        cases hv
        obtain ⟨r', q1, q2⟩ := findKey_rel hs.rel hd hk hf hes
        rcases q2 with ⟨_, rfl⟩ | ⟨m, e', c, p1, _⟩
        · obtain ⟨w', r1, r2⟩ := setMap_rel hs (ck' := ck + 1) ho hi hg (es' := es ++ [(k, v, ck)]) (ces' := ces.push { key := z, val := u, born := ck }) (by
            rw [Array.toList_push]
            exact hes.snoc hk hu' rfl)
          refine ⟨w', ι, ?_, r2⟩
          simp [Instr.mapUpdate, run_underlying hu, hgo, hck, q1, r1]
        · cases p1
      · cases hv
    · cases hv
  · cases hv

theorem mapEntry_rel (hs : St P h ι w) {t : TypeId} {x k r : AV} {y z : Value} (hv : mapEntryA P h t x k = some (r, h')) (hx : VRel P ι x y) (hk : VRel P ι k z) : Does P h ι w (Instr.mapEntry t y z) r h' := by
  unfold mapEntryA at hv
  split at hv
  · rename_i kt et F es ck hu hm
    split at hv
    · rename_i hok
      obtain ⟨F', L, ces, hF, ho, hi, rfl, hg, hes⟩ := mapOf_rel hs.rel hm hx
      cases hF
      have hck := keyOk_rel 20 kt k z false hok hk 10000 (by decide) w
      obtain ⟨d, hd⟩ := keyOk_under hok
      have hgo := run_gm (P := P) hg
      split at hv
      · rename_i i e hf
        cases hv
        obtain ⟨r', q1, q2⟩ := findKey_rel hs.rel hd hk hf hes
        rcases q2 with ⟨q, _⟩ | ⟨m, e', c, p1, rfl, p3, p4, p5⟩
        · cases q
        · cases p1
          obtain ⟨hkr, hvr, hbr⟩ := hes.get p3 p4
          have hst := run_keyStays p5 hkr hk w
          obtain ⟨w', r1, r2⟩ := setMap_rel hs (ck' := ck) ho hi hg (es' := setNth es i (k, e.2.1, e.2.2)) (ces' := ces.modify i fun e => { e with key := z }) (by
            rw [Array.toList_modify]
            refine hes.setNth _ _ _ (fun c' hc' => ?_)
            rw [p4] at hc'
            cases hc'
            exact ⟨hk, hvr, hbr⟩)
          have p4' : ces[i]? = some c := by simpa using p4
          refine ⟨.tuple #[c.val, goInt c.born], w', ι, ?_, ?_, r2⟩
          · simp [Instr.mapEntry, run_underlying hu, hgo, hck, q1, p4', hst, r1]
          · rw [hbr]
            exact .tup (.cons hvr (.cons (.int .i64 _) .nil))
      · rename_i hf
        split at hv
        · rename_i zz hz
          cases hv
          obtain ⟨zx, hzx, hzr⟩ := run_zero hz
          obtain ⟨r', q1, q2⟩ := findKey_rel hs.rel hd hk hf hes
          rcases q2 with ⟨_, rfl⟩ | ⟨m, e', c, p1, _⟩
          · obtain ⟨w', r1, r2⟩ := setMap_rel hs (ck' := ck + 1) ho hi hg (es' := es ++ [(k, zz, ck)]) (ces' := ces.push { key := z, val := zx, born := ck }) (by
              rw [Array.toList_push]
              exact hes.snoc hk (hzr ι) rfl)
            refine ⟨.tuple #[zx, goInt ck], w', ι, ?_, .tup (.cons (hzr ι) (.cons (.int .i64 _) .nil)), r2⟩
            simp [Instr.mapEntry, run_underlying hu, hgo, hck, q1, hzx, r1]
          · cases p1
        · cases hv
      · cases hv
    · cases hv
  · cases hv

theorem entryStoreL_rel {b : Nat} {v : AV} {u : Value} (hu : VRel P ι v u) : ∀ {l : List Ent} {m : List MapEntry} {l' : List Ent}, EntsRel P ι l m → entryStoreL b v l = some l' →
    ∃ i, m.findIdx? (fun e => (e.born : Int) == (b : Int)) = some i ∧ EntsRel P ι l' (m.modify i fun e => { e with val := u })
  | _, _, _, .nil, he => by simp [entryStoreL] at he
  | _, _, _, .cons (e := e) (c := c) (l := l) (m := m) hk hv hb hl, he => by
    unfold entryStoreL at he
    split at he
    · rename_i hq
      cases he
      have hq' : e.2.2 = b := Nat.eq_of_beq_eq_true hq
      refine ⟨0, ?_, .cons hk hu hb hl⟩
      have : ((c.born : Int) == (b : Int)) = true := by rw [← hb, hq']; simp
      simp [List.findIdx?_cons, this]
    · rename_i hq
      simp only [Option.map_eq_some_iff] at he
      obtain ⟨l2, h1, rfl⟩ := he
      obtain ⟨i, a, b'⟩ := entryStoreL_rel hu hl h1
      have hq' : ¬ (e.2.2 = b) := fun q => by
        rw [q, Nat.beq_refl] at hq
        cases hq
      have : ((c.born : Int) == (b : Int)) = false := by rw [← hb]; simp; intro q; exact hq' (by omega)
      refine ⟨i + 1, by simp [List.findIdx?_cons, this, a], ?_⟩
      simp only [List.modify_succ_cons]
      exact .cons hk hv hb b'

theorem entryStore_rel (hs : St P h ι w) {t : TypeId} {x s v : AV} {y z u : Value} (hv : entryStoreA h x s v = some h') (hx : VRel P ι x y) (hk : VRel P ι s z) (hu' : VRel P ι v u) : DoesU P h ι w (Instr.entryStore t y z u) h' := by
  unfold entryStoreA at hv
  split at hv
  · rename_i F b es ck hn hm
    split at hv
    · rename_i es' hes'
      cases hv
      obtain ⟨k, rfl⟩ := asNat_rel hk hn
      obtain ⟨F', L, ces, hF, ho, hi, rfl, hg, hes⟩ := mapOf_rel hs.rel hm hx
      cases hF
      have hgo := run_gm (P := P) hg
      obtain ⟨i, a, b'⟩ := entryStoreL_rel hu' hes hes'
      obtain ⟨w', r1, r2⟩ := setMap_rel hs (ck' := ck) ho hi hg (es' := es') (ces' := ces.modify i fun e => { e with val := u }) (by rw [Array.toList_modify]; exact b')
      refine ⟨w', ι, ?_, r2⟩
      have a' : ces.findIdx? (fun e => (e.born : Int) == (b : Int)) = some i := by rw [← a]; rw [← List.findIdx?_toArray]
      simp only [Instr.entryStore, Sem.run_bind, hgo, Result.andThen_ok, asInt, asIntOf, Sem.run_pure, a', r1]
    · cases hv
  · cases hv

theorem makeMap_rel (hs : St P h ι w) (t : TypeId) : Does P h ι w (Instr.makeMap t none) (.map h.nx) (h.new (.map [] 0)) := by
  have hle' : Emb.le ι (upd ι h.nx 0 ⟨w.heap.size, 0, 0, 0⟩) := upd_le ι _ (hs.bd h.nx 0 (Nat.le_refl _))
  obtain ⟨r1, r2, r3⟩ := hs.rel.push hs.bd (.map [] 0) (.map #[] 0) ⟨w.heap.size, 0, 0, 0⟩ rfl { w with heap := w.heap.push (.map #[] 0) } rfl rfl rfl rfl
    (fun f q => by cases q) (fun es ck q => by cases q; exact ⟨#[], rfl, .nil⟩) (fun l b p q => by cases q) (fun m a b d q => by cases q)
  refine ⟨.map (some w.heap.size), _, _, by simp [Instr.makeMap], .map (upd_self _ _ _ _), r1, r2, r3, Nat.le_succ _, ?_⟩
  intro F g L e
  unfold upd at e
  split at e
  · cases e; exact Nat.le_refl _
  · exact hs.fit F g L e

theorem range_rel (hs : St P h ι w) {t : TypeId} {x r : AV} {y : Value} (hv : rangeA P h t x = some (r, h')) (hx : VRel P ι x y) : Does P h ι w (Instr.range t y) r h' := by
  unfold rangeA at hv
  split at hv
  · rename_i l b hu
    cases hv
    obtain ⟨s, rfl, rfl, rfl⟩ := str_inv hx
    obtain ⟨r1, r2, r3⟩ := hs.rel.push hs.bd (.strIter s.data.toList.length (packL s.data.toList) 0) (.stringIter s 0) ⟨w.heap.size, 0, 0, 0⟩ rfl { w with heap := w.heap.push (.stringIter s 0) } rfl rfl rfl rfl
      (fun f q => by cases q) (fun es ck q => by cases q) (fun l b p q => by cases q; exact ⟨rfl, s, rfl, rfl⟩) (fun m a b d q => by cases q)
    refine ⟨.pointer (some ⟨w.heap.size, 0, none⟩), _, _, by simp [Instr.range, run_underlying hu], ?_, r1, r2, r3, Nat.le_succ _, ?_⟩
    · exact VRel.ptr (o := 0) (e := 0) (upd_self ι h.nx 0 ⟨w.heap.size, 0, 0, 0⟩) (Nat.le_refl _)
    · intro F g L e
      unfold upd at e
      split at e
      · cases e; exact Nat.le_refl _
      · exact hs.fit F g L e
  · cases hv

theorem next_rel (hs : St P h ι w) {x r : AV} {y : Value} (hv : nextA h x = some (r, h')) (hx : VRel P ι x y) (ty : TypeId) : Does P h ι w (Instr.next y true ty) r h' := by
  unfold nextA at hv
  split at hv
  · rename_i F
    split at hv
    · rename_i l b p ho
      cases hx with
      | ptr hi he =>
      rename_i L
      obtain ⟨hp, s, hg, hs'⟩ := hs.rel.siter F l b p L ho hi
      have hl : l = s.data.toList.length ∧ b = packL s.data.toList := by unfold strOf at hs'; cases hs'; exact ⟨rfl, rfl⟩
      obtain ⟨rfl, rfl⟩ := hl
      have hgo : (getObj L.b).run P w = .ok (.stringIter s p) w := by simp [getObj, Sem.run, hg]
      have hlt : L.b < w.heap.size := (Array.getElem?_eq_some_iff.1 hg).1
      have hp0 : L.p + 0 = 0 := by omega
      rw [hp0]
      have hdec : decodeA s.data.toList.length (packL s.data.toList) p = Utf8.decode s p := by
        unfold decodeA
        rw [unpack_pack]
      have hss : s.data.toList.length = s.size := by simp
      split at hv
      · rename_i hb
        cases hv
        have hb' : p < s.size := by rw [← hss]; have q := hb; rw [Nat.blt_eq] at q; exact q
        obtain ⟨a1, a2⟩ := hs.rel.setO (o := .strIter s.data.toList.length (packL s.data.toList) (p + (Utf8.decode s p).2)) (c := .stringIter s (p + (Utf8.decode s p).2)) ho (fun f q => by cases q) hi
          { w with heap := w.heap.setIfInBounds L.b (.stringIter s (p + (Utf8.decode s p).2)) } (by simp [hlt]) (fun b hb => by simp [Ne.symm hb]) (by simp) rfl rfl rfl
          (fun f q => by cases q) (fun e c q => by cases q) (fun l b p q => by cases q; exact ⟨hp, s, rfl, rfl⟩) (fun m a b d q => by cases q) h.nx
        have hso : (setObj L.b (.stringIter s (p + (Utf8.decode s p).2))).run P w = .ok () { w with heap := w.heap.setIfInBounds L.b (.stringIter s (p + (Utf8.decode s p).2)) } := by simp [setObj, Sem.run, hg]
        rw [hdec]
        refine ⟨.tuple #[.bool true, goInt p, .int .i32 (Utf8.decode s p).1], _, ι, ?_, .tup (.cons (.bool true) (.cons (.int .i64 _) (.cons (.int .i32 _) .nil))), a1, a2, fun F' g' hF => hs.bd F' g' hF, Nat.le_refl _, hs.fit⟩
        simp [Instr.next, hgo, hb', hso]
      · rename_i hb
        cases hv
        have hb' : ¬ (p < s.size) := by
          intro q
          rw [← hss] at q
          rw [← Nat.blt_eq] at q
          rw [q] at hb
          cases hb
        refine ⟨.tuple #[.bool false], w, ι, ?_, .tup (.cons (.bool false) .nil), .refl hs⟩
        simp [Instr.next, hgo, hb']
    · cases hv
  · cases hv
end
end Go.Ai
