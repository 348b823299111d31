/- A part of the proof of ConsoleRuns: AiEnd2. -/
import Derived.Test.YtngchkhbhcgmhaaGreatDoorAiEnd1
import Derived.Lib.Index
set_option linter.unusedVariables false
set_option linter.unusedSimpArgs false
set_option linter.unusedSectionVars false
set_option linter.unnecessarySimpa false
/- Ends: functions served by laws of their own; where a run starts. -/
namespace Go.Ai

section
variable {P : Program} {ι κ : Emb} {w w' : World} {h h' : H}

/-- a table of calls, wherever it is asked -/
def memoQ (n : Nat) (l : List (List AV × AV)) (args : List AV) (h : H) : Option (ARes × H) := match Nat.ble n h.nx with
  | true => memoP l args h
  | false => none

theorem memo_ok {K : CallK} (hK : KOk P K) {f : FuncId} {fn : Func} {l : List (List AV × AV)} {n : Nat} (hf : P.funcs[f]? = some fn) (hb : fn.body.isNone = false) (hn : P.globals.size ≤ n)
    (ht : ∀ q ∈ l, q.1.all (plainV 10) = true ∧ plainV 10 q.2 = true ∧ ∃ h1, K f q.1 ⟨n, .lf⟩ = some (.ret q.2, h1)) : KOk P (fun g args h => if g = f then memoQ n l args h else none) where
  body := by
    intro g args h r hr
    split at hr
    · rename_i e; subst e; exact ⟨fn, hf, hb⟩
    · cases hr
  calls := by
    intro g args h r h' ι w xs hr hs ha
    split at hr
    · rename_i e
      subst e
      unfold memoQ at hr
      split at hr
      · rename_i hle
        obtain ⟨v, hm, rfl, rfl⟩ := memoP_some hr
        obtain ⟨a1, a2, h1, a3⟩ := ht _ hm
        exact memo_calls hK hn a3 a1 a2 (Nat.le_of_ble_eq_true hle) hs ha
      · cases hr
    · cases hr

/-- where a text lies in another: the cell of the package's own variable holds some number -/
def idxP (g : Nat) (args : List AV) (h : H) : Option (ARes × H) := match args with
  | [.str l a, .str m b] => match Nat.blt l 4294967281, h.fam g 0 with
    | true, some f => match f.c.get 0 with
      | some (.int .i64 _) => some (.ret (.int .i64 (Lib.index (unpackL l a) (unpackL m b))), h)
      | _ => none
    | _, _ => none
  | _ => none

theorem str_inv' {l a : Nat} {v : Value} (hv : VRel P ι (.str l a) v) : ∃ s : ByteArray, v = .string s ∧ l = s.size ∧ unpackL l a = s.data.toList := by
  generalize hq : AV.str l a = q at hv
  cases hv with
  | str s =>
    simp only [strOf, AV.str.injEq] at hq
    obtain ⟨rfl, rfl⟩ := hq
    exact ⟨s, rfl, Array.length_toList, unpack_pack _⟩
  | _ => cases hq

theorem idx_ok {f g : Nat} {fn : Func} {x : Global} (hf : P.funcs[f]? = some fn) (hb : fn.body.isNone = false) (hg : P.globals[g]? = some x) (hsz : tsz P x.type = some 1)
    (hI : ∀ (s sub : ByteArray) (m : Int) (w : World), s.size < 4294967281 → w.cell? ⟨g, 0, none⟩ = some (.int .i64 m) →
      Calls P f #[.string s, .string sub] w fun e w' => e = .returned (.int .i64 (Lib.index s.data.toList sub.data.toList)) ∧ w' = w) : KOk P (fun k args h => if k = f then idxP g args h else none) where
  body := by
    intro k args h r hr
    split at hr
    · rename_i e; subst e; exact ⟨fn, hf, hb⟩
    · cases hr
  calls := by
    intro k args h r h' ι w xs hr hs ha
    split at hr
    · rename_i e
      subst e
      unfold idxP at hr
      split at hr
      · rename_i l a m b
        split at hr
        · rename_i fm hl hfm
          split at hr
          · rename_i n hc
            cases hr
            obtain ⟨L, q1, q2, q3, q4⟩ := hs.glob g x 1 hg hsz
            obtain ⟨_, _, _, hk, _⟩ := hs.rel.at hfm q1
            obtain ⟨arr, fr, x1, x2, x3, _⟩ := hk.ex
            obtain ⟨av, v, y1, y2, y3⟩ := x3 0 (by omega)
            rw [hc] at y1
            cases y1
            cases y3
            have hcell : w.cell? ⟨g, 0, none⟩ = some (.int .i64 n) := by
              rw [q2] at x1
              rw [cell_of w g 0 x1]
              rw [q3] at y2
              exact y2
            generalize hxl : xs.toList = xl at ha
            cases ha with
            | cons h1 ha =>
            cases ha with
            | cons h2 ha =>
            cases ha
            obtain ⟨s, rfl, e1, e2⟩ := str_inv' h1
            obtain ⟨sub, rfl, e3, e4⟩ := str_inv' h2
            have hxs : xs = #[.string s, .string sub] := by rw [← hxl]
            subst hxs
            rw [Nat.blt_eq] at hl
            refine (hI s sub n w (by omega) hcell).mono ?_
            rintro en w' ⟨rfl, rfl⟩
            refine ⟨ι, .refl hs, ?_⟩
            rw [e2, e4]
            exact .ret (.int .i64 _)
          · cases hr
        · cases hr
      · cases hr
    · cases hr

/-! Where a run starts: the package-level variables alone. -/
def gfam (elem : TypeId) (vs : List AV) : Fam := { mkFam elem vs with ro := true, frz := vs.length, sg := true, fix := false }

/-- the cells of a variable -/
def gsz (P : Program) (g : Nat) : Nat := match P.globals[g]? with
  | some x => match tsz P x.type with
    | some n => n
    | none => 0
  | none => 0
def gemb (P : Program) : Emb := fun F g => if F < P.globals.size ∧ g = 0 then some ⟨F, 0, gsz P F, gsz P F⟩ else none

theorem start_st (hnx : h.nx = P.globals.size)
    (ho : ∀ F o, h.obj F = some o → F < P.globals.size ∧ ∃ elem vs arr, o = .cells (gfam elem vs) ∧ w.heap[F]? = some (.cells arr elem (0, 0)) ∧ VRelL P (fun _ _ => none) vs arr.toList ∧ vs.length = gsz P F) : St P h (gemb P) w := by
  have gem : ∀ F, F < P.globals.size → gemb P F 0 = some ⟨F, 0, gsz P F, gsz P F⟩ := fun F hF => by unfold gemb; rw [if_pos ⟨hF, rfl⟩]
  have gin : ∀ F g L, gemb P F g = some L → F < P.globals.size ∧ g = 0 ∧ L = ⟨F, 0, gsz P F, gsz P F⟩ := by
    intro F g L hL
    unfold gemb at hL
    split at hL
    · rename_i q; cases hL; exact ⟨q.1, q.2, rfl⟩
    · cases hL
  have own : ∀ F L, Own h.obj (gemb P) F L → L.b = F := by
    rintro F L (⟨f, g, _, _, _, q⟩ | ⟨_, _, q⟩)
    · obtain ⟨_, _, rfl⟩ := gin _ _ _ q; rfl
    · obtain ⟨_, _, rfl⟩ := gin _ _ _ q; rfl
  refine ⟨?_, ?_, ?_, ?_⟩
  · exact {
      cells := by
        intro F f hf hp g h1 h2
        obtain ⟨hF, elem, vs, arr, e1, e2, e3, e4⟩ := ho F _ hf
        cases e1
        have hg : g = 0 := by
          have : g ≤ 0 := h2
          omega
        subst hg
        have hlen : arr.size = vs.length := by rw [e3.length]; simp
        refine ⟨_, gem F hF, ⟨⟨arr, (0, 0), e2, by rw [hlen, e4], ?_, ?_, Nat.le_refl _⟩, by simp, fun q => by cases q⟩, ?_, ?_, ?_⟩
        · intro i hi
          have hi' : i < vs.length := by
            have : i < gsz P F := hi
            omega
          have hiv : vs[i]? = some vs[i] := List.getElem?_eq_getElem hi'
          obtain ⟨x, q1, q2⟩ := e3.get i _ hiv
          refine ⟨vs[i], x, ?_, by simpa using q1, q2.mono (fun _ _ _ q => by cases q)⟩
          show (stL .lf 0 vs).get i = _
          rw [get_stL, if_pos (by omega)]
          simpa using hiv
        · intro off q1 q2
          have q3 : 0 + vs.length ≤ off := q1
          have q4 : off < gsz P F := q2 rfl
          omega
        · show gsz P F ≤ vs.length; omega
        · intro _; show gsz P F = vs.length; omega
        · intro q; exact absurd q (Nat.not_lt_zero _)
      sameP := by
        intro F f g g' L L' hf _ _ _ _ a b _
        obtain ⟨_, _, rfl⟩ := gin _ _ _ a
        obtain ⟨_, _, rfl⟩ := gin _ _ _ b
        rfl
      map := by
        intro F es ck L hf _
        obtain ⟨_, elem, vs, arr, e1, _⟩ := ho F _ hf
        cases e1
      siter := by
        intro F l b p L hf _
        obtain ⟨_, elem, vs, arr, e1, _⟩ := ho F _ hf
        cases e1
      miter := by
        intro F m a b c hf
        obtain ⟨_, elem, vs, arr, e1, _⟩ := ho F _ hf
        cases e1
      dis := fun F F' L L' a b e => by rw [← own F L a, ← own F' L' b, e]
      gens := by
        intro F f g hf hg
        unfold gemb
        rw [if_neg]
        rintro ⟨_, rfl⟩
        exact absurd hg (Nat.not_lt_zero _)
      root := by
        intro F g L hL
        obtain ⟨a, _, _⟩ := gin _ _ _ hL
        rw [gem F a]; simp
      emb := by
        intro F o hf
        rw [gem F (ho F o hf).1]; simp }
  · intro F g hF
    unfold gemb
    rw [if_neg]
    rintro ⟨a, _⟩
    omega
  · intro F g L hL
    obtain ⟨_, _, rfl⟩ := gin _ _ _ hL
    simp
  · intro g x n hg hn
    have hlt : g < P.globals.size := (Array.getElem?_eq_some_iff.1 hg).1
    refine ⟨_, gem g hlt, rfl, rfl, ?_⟩
    show n ≤ gsz P g
    unfold gsz
    rw [hg]
    simp only [hn]
    exact Nat.le_refl _

theorem gfam_ro (hh : ∀ F o, h.obj F = some o → ∃ elem vs, o = .cells (gfam elem vs)) : ∀ F o, h.obj F = some o → Ro h.obj F := by
  intro F o ho
  obtain ⟨elem, vs, rfl⟩ := hh F o ho
  exact ⟨_, ho, rfl⟩
end
end Go.Ai
