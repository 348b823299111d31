/- A part of the proof of ConsoleRuns: AiOps2. -/
import Derived.Test.YtngchkhbhcgmhaaGreatDoorAiOps1
import Derived.Laws.StructEq
set_option linter.unusedVariables false
set_option linter.unusedSimpArgs false
set_option linter.unusedSectionVars false
set_option linter.unnecessarySimpa false
/- Equality. -/
namespace Go.Ai

section
variable {P : Program} {ι κ : Emb} {w w' : World} {h h' : H}

theorem part_rel {t : TypeId} {cs : List AV} {m : Array Value} {off : Nat} {a : AV} (hp : partA P t cs off = some a) (hv : VRelL P ι cs m.toList) :
    ∃ x, (∀ w, (part t m off).run P w = .ok x w) ∧ VRel P ι a x := by
  unfold partA at hp
  split at hp
  · rename_i n h1 h2
    cases hp
    refine ⟨.agg (m.extract off (off + n)), fun w => by simp only [part, Sem.run_bind, run_isAgg h1 w, Result.andThen_ok, if_true, run_sizeOf' h2 w, Sem.run_pure], .agg ?_⟩
    have : (m.extract off (off + n)).toList = (m.toList.drop off).take n := by
      simp [List.take_drop]
    rw [this]
    exact (hv.drop off).take n
  · rename_i n h1 h2
    obtain ⟨x, hx, hr⟩ := hv.get off a hp
    refine ⟨x, fun w => ?_, hr⟩
    have hx' : m[off]? = some x := by simpa using hx
    simp [part, Sem.run_bind, run_isAgg h1 w, hx']
  · cases hp

theorem packed_beq (s u : ByteArray) : (s == u) = (Nat.beq s.data.toList.length u.data.toList.length && Nat.beq (packL s.data.toList) (packL u.data.toList)) := by
  rw [Bool.eq_iff_iff]
  constructor
  · intro hh
    have e : s = u := by
      rw [beq_toListBytes, ByteArray.toList_eq, ByteArray.toList_eq] at hh
      obtain ⟨⟨x⟩⟩ := s
      obtain ⟨⟨y⟩⟩ := u
      simp at hh
      simp [hh]
    subst e
    simp [Nat.beq_refl]
  · intro hh
    rw [Bool.and_eq_true] at hh
    have := pack_inj (Nat.eq_of_beq_eq_true hh.1) (Nat.eq_of_beq_eq_true hh.2)
    rw [beq_toListBytes, ByteArray.toList_eq, ByteArray.toList_eq, this]
    simp

/-- two places in families apart -/
theorem run_sameAddr_apart (hr : HRel P h.obj ι w) {F g F' g' o o' : Nat} {f f' : Fam} {L L' : Loc} (hf : h.fam F g = some f) (hf' : h.fam F' g' = some f') (hi : ι F g = some L) (hi' : ι F' g' = some L')
    (hn : F ≠ F') (hz : (Nat.beq f.frz 0 && !f.sg && Nat.beq f'.frz 0 && !f'.sg) = true) :
    (sameAddr ⟨L.b, L.p + o, none⟩ ⟨L'.b, L'.p + o', none⟩).run P w = .ok false w := by
  obtain ⟨_, _, _, hk, _, _, _, hown⟩ := hr.at hf hi
  obtain ⟨_, _, _, hk', _, _, _, hown'⟩ := hr.at hf' hi'
  have hb : L.b ≠ L'.b := fun e => hn (hr.dis F F' L L' hown hown' e)
  obtain ⟨arr, fr, hg, hN, hc, hz1, hz2⟩ := hk.ex
  obtain ⟨arr', fr', hg', hN', hc', hz1', hz2'⟩ := hk'.ex
  simp at hz
  obtain ⟨⟨⟨a1, a2⟩, a3⟩, a4⟩ := hz
  have hfz : ∀ off, L.p ≤ off → (decide (fr.1 ≤ off) && decide (off < fr.2)) = false := by
    intro off ho
    have := hz1 off (by rw [a1]; omega) (fun e => by rw [a2] at e; cases e)
    simpa using this
  have hfz' : ∀ off, L'.p ≤ off → (decide (fr'.1 ≤ off) && decide (off < fr'.2)) = false := by
    intro off ho
    have := hz1' off (by rw [a3]; omega) (fun e => by rw [a4] at e; cases e)
    simpa using this
  have e1 : w.frozen? ⟨L.b, L.p + o, none⟩ = false := by
    simp only [World.frozen?, hg]
    exact hfz _ (by omega)
  have e1' : w.frozen? ⟨L'.b, L'.p + o', none⟩ = false := by
    simp only [World.frozen?, hg']
    exact hfz' _ (by omega)
  have s1 : w.shape? L.b = some (f.elem, arr.size) := by simp [World.shape?, hg]
  have s1' : w.shape? L'.b = some (f'.elem, arr'.size) := by simp [World.shape?, hg']
  have e2 : w.frozen? ⟨L.b, arr.size, none⟩ = false := by
    simp only [World.frozen?, hg]
    exact hfz _ (by have := hk.fit; omega)
  have e2' : w.frozen? ⟨L'.b, arr'.size, none⟩ = false := by
    simp only [World.frozen?, hg']
    exact hfz' _ (by have := hk'.fit; omega)
  have hne : (L.b == L'.b) = false := by simpa using hb
  simp [sameAddr, hne, e1, e1', noView, viewAt, s1, s1', mayBeOne, stringish, e2, e2']

set_option maxHeartbeats 2000000 in
/-- equality, in the relation -/
theorem eqA_rel (hr : HRel P h.obj ι w) : ∀ (d : Nat) (t : TypeId) (x y : AV) (b : Bool) (vx vy : Value), eqA P h d t x y = some b → VRel P ι x vx → VRel P ι y vy →
    ∀ D, d ≤ D → (Op.equalIn D t vx vy).run P w = .ok b w
  | 0, _, _, _, _, _, _, he, _, _ => by simp [eqA] at he
  | d + 1, t, x, y, b, vx, vy, he, hx, hy => by
    intro D hD
    obtain ⟨D, rfl⟩ : ∃ m, D = m + 1 := ⟨D - 1, by omega⟩
    have ih := fun (t : TypeId) (x y : AV) (b : Bool) (vx vy : Value) (h1 : eqA P h d t x y = some b) (h2 : VRel P ι x vx) (h3 : VRel P ι y vy) => eqA_rel hr d t x y b vx vy h1 h2 h3 D (by omega)
    unfold eqA at he
    split at he
    · rename_i hu; cases he; cases hx; cases hy; simp [Op.equalIn, run_underlying hu]
    · rename_i hu
      split at he
      · rename_i hk; cases he; cases hx; cases hy
        simp at hk
        simp [Op.equalIn, run_underlying hu, hk]
      · cases he
    · rename_i hu
      cases he
      obtain ⟨s, rfl, rfl, rfl⟩ := str_inv hx
      obtain ⟨u, rfl, rfl, rfl⟩ := str_inv hy
      simp only [Op.equalIn, Sem.run_bind, run_underlying hu, Result.andThen_ok, Sem.run_pure, packed_beq]
    · rename_i hu; cases he; cases hx; cases hy; simp [Op.equalIn, run_underlying hu]
    · rename_i hu; cases he; cases hx; cases hy; simp [Op.equalIn, run_underlying hu]
    · rename_i hu; cases he; cases hx; cases hy; simp [Op.equalIn, run_underlying hu]
    · rename_i e F g o e1 F' g' o' e1' hu
      split at he
      · cases he
      · rename_i n hnz hsz
        cases hx with
        | ptr hi hm =>
        cases hy with
        | ptr hi' hm' =>
        rename_i L L'
        have hs0 : (n ≠ 0) := fun e => by subst e; exact absurd rfl hnz
        have key : ∀ c : Bool, (sameAddr ⟨L.b, L.p + o, none⟩ ⟨L'.b, L'.p + o', none⟩).run P w = .ok c w → (Op.equalIn (D + 1) t (.pointer (some ⟨L.b, L.p + o, none⟩)) (.pointer (some ⟨L'.b, L'.p + o', none⟩))).run P w = .ok c w := by
          intro c hc
          simp [Op.equalIn, run_underlying hu, run_sizeOf' hsz w, hs0, hc]
        split at he
        · rename_i hF
          split at he
          · rename_i hg
            cases he
            have e1 := Nat.eq_of_beq_eq_true hF
            have e2 := Nat.eq_of_beq_eq_true hg
            subst e1; subst e2
            rw [hi] at hi'
            cases hi'
            apply key
            by_cases ho : o = o'
            · subst ho; simp [sameAddr, Nat.beq_refl]
            · have : Nat.beq o o' = false := by rw [Bool.eq_false_iff]; intro hh; exact ho (Nat.eq_of_beq_eq_true hh)
              rw [this]
              simp [sameAddr]
              omega
          · cases he
        · rename_i hF
          split at he
          · rename_i f f' hf hf'
            split at he
            · rename_i hz
              cases he
              exact key false (run_sameAddr_apart hr hf hf' hi hi' (fun e => by subst e; rw [Nat.beq_refl] at hF; cases hF) hz)
            · cases he
          · cases he
      · cases he
    · rename_i hu; cases he; cases hx; cases hy; simp [Op.equalIn, run_underlying hu]
    · rename_i hu; cases he; cases hx; cases hy; simp [Op.equalIn, run_underlying hu]
    · rename_i hu; cases he; cases hx; cases hy; simp [Op.equalIn, run_underlying hu]
    · rename_i ms tx vx' ty vy' hu
      cases hx with
      | ifc hx =>
      cases hy with
      | ifc hy =>
      split at he
      · rename_i hne
        cases he
        have : tx ≠ ty := fun e => by subst e; rw [Nat.beq_refl] at hne; cases hne
        simp [Op.equalIn, run_underlying hu, this]
      · rename_i heq
        have e := Nat.eq_of_beq_eq_true heq
        subst e
        split at he
        · rename_i hc
          cases hinf : P.info? tx with
          | none => simp [hinf] at hc
          | some i =>
            have hcc : i.comparable = true := by simpa [hinf] using hc
            simp [Op.equalIn, run_underlying hu, typeInfo, hinf, hcc, ih tx _ _ b _ _ he hx hy]
        · cases he
    · rename_i fs xs ys hu
      split at he
      · cases he
      · rename_i hst
        cases hx with
        | agg hx =>
        cases hy with
        | agg hy =>
        rename_i ax ay
        have hfo : P.fieldsOf t = fs := by simp [Program.fieldsOf, hu]
        rw [run_equalIn_struct w D t ax ay (by rw [hfo]; exact hu) hst, hfo]
        clear hu hfo
        generalize fs.toList = l at he
        induction l with
        | nil => simp [eqStruct] at he; subst he; rfl
        | cons f l ihl =>
          unfold eqStruct at he
          split at he
          · rename_i hn
            have hn' : ¬ (f.name ≠ "_") := by simpa using hn
            simp only [Op.eqFields]
            rw [if_neg hn']
            exact ihl he
          · rename_i hn
            have hn' : f.name ≠ "_" := by simpa using hn
            simp only [Op.eqFields]
            rw [if_pos hn']
            split at he
            · rename_i a b2 ha hb2
              obtain ⟨va, r1, q1⟩ := part_rel (ι := ι) ha hx
              obtain ⟨vb, r2, q2⟩ := part_rel (ι := ι) hb2 hy
              split at he
              · rename_i hq
                have := ih _ _ _ _ _ _ hq q1 q2
                simp [r1, r2, this, ihl he]
              · rename_i hq
                cases he
                have := ih _ _ _ _ _ _ hq q1 q2
                simp [r1, r2, this]
              · cases he
            · cases he
    · rename_i len e xs ys hu
      split at he
      · rename_i n hn
        cases hx with
        | agg hx =>
        cases hy with
        | agg hy =>
        rename_i ax ay
        simp only [Op.equalIn, Sem.run_bind, run_underlying hu, Result.andThen_ok, run_sizeOf' hn w]
        rw [Std.Legacy.Range.forIn_eq_forIn_range']
        have hlst : List.range' 0 ((len - 0 + 1 - 1) / 1) 1 = List.range len := by simp [List.range_eq_range']
        simp only [Std.Legacy.Range.size]
        rw [hlst]
        generalize List.range len = l at he
        induction l with
        | nil => simp [eqArray] at he; subst he; simp
        | cons i l ihl =>
          unfold eqArray at he
          split at he
          · rename_i a b2 ha hb2
            obtain ⟨va, r1, q1⟩ := part_rel (ι := ι) ha hx
            obtain ⟨vb, r2, q2⟩ := part_rel (ι := ι) hb2 hy
            have r1' : (part e ax (i * n)).run P w = .ok va w := r1 w
            have r2' : (part e ay (i * n)).run P w = .ok vb w := r2 w
            split at he
            · rename_i hq
              have := ih _ _ _ _ _ _ hq q1 q2
              simpa [r1', r2', this] using ihl he
            · rename_i hq
              cases he
              have := ih _ _ _ _ _ _ hq q1 q2
              simp [r1', r2', this]
            · cases he
          · cases he
      · cases he
    · rename_i hu; cases he; cases hx; cases hy; simp [Op.equalIn, run_underlying hu]
    · rename_i hu; cases he; cases hx; cases hy; simp [Op.equalIn, run_underlying hu]
    · rename_i hu; cases he; cases hx; cases hy; simp [Op.equalIn, run_underlying hu]
    · rename_i hu; cases he; cases hx; cases hy; simp [Op.equalIn, run_underlying hu]
    · rename_i hu; cases he; cases hx; cases hy; simp [Op.equalIn, run_underlying hu]
    · rename_i hu; cases he; cases hx; cases hy; simp [Op.equalIn, run_underlying hu]
    · rename_i hu; cases he; cases hx; cases hy; simp [Op.equalIn, run_underlying hu]
    · rename_i hu; cases he; cases hx; cases hy; simp [Op.equalIn, run_underlying hu]
    · rename_i hu; cases he; cases hx; cases hy; simp [Op.equalIn, run_underlying hu]
    · cases he

end
end Go.Ai
