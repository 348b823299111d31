/- A part of the proof of ConsoleRuns: AiEnd1. -/
import Derived.Test.YtngchkhbhcgmhaaGreatDoorAiDraw
import Derived.Test.YtngchkhbhcgmhaaGreatDoorAiCall
import Derived.Test.YtngchkhbhcgmhaaGreatDoorAiFok4
import Derived.Below
set_option linter.unusedVariables false
set_option linter.unusedSimpArgs false
set_option linter.unusedSectionVars false
set_option linter.unnecessarySimpa false
/- Ends: calls of plain values served by a table; a closed run. -/
namespace Go.Ai

section
variable {P : Program} {ι κ : Emb} {w w' : World} {ob : Nat → Option AO} {h h' : H}

theorem HRel.keepAll (hr : HRel P ob ι w) (hk : ∀ b, b < w.heap.size → w'.heap[b]? = w.heap[b]?) : HRel P ob ι w' := by
  have lt : ∀ {b : Nat} {o : Obj}, w.heap[b]? = some o → w'.heap[b]? = some o := fun {b o} hb => by
    rw [hk b (Array.getElem?_eq_some_iff.1 hb).1, hb]
  exact {
    cells := fun F f ho hp g h1 h2 => by
      obtain ⟨L, a, b, c, d, e⟩ := hr.cells F f ho hp g h1 h2
      obtain ⟨arr, fr, x1, x2⟩ := b.ex
      exact ⟨L, a, ⟨⟨arr, fr, lt x1, x2⟩, b.fit, b.fix⟩, c, d, e⟩
    sameP := hr.sameP
    map := fun F es ck L ho hl => by
      obtain ⟨ces, a, b⟩ := hr.map F es ck L ho hl
      exact ⟨ces, lt a, b⟩
    siter := fun F l b p L ho hl => by
      obtain ⟨a, s, c, d⟩ := hr.siter F l b p L ho hl
      exact ⟨a, s, lt c, d⟩
    miter := hr.miter
    dis := hr.dis
    gens := hr.gens
    root := hr.root
    emb := hr.emb }

/-- a step that leaves all that was -/
theorem Done.idle (hs : St P h ι w) (ho : w'.os = w.os) (ht : w'.tape = w.tape) (hu : w'.output = w.output) (hz : w.heap.size ≤ w'.heap.size) (hk : ∀ b, b < w.heap.size → w'.heap[b]? = w.heap[b]?) : Done P h ι w h ι w' where
  rel := hs.rel.keepAll hk
  grow := { le := .refl _, fresh := fun F a b => absurd a b, os := ho, tape := ht, output := hu, size := hz, keep := fun b hb _ => hk b hb, wown := fun b _ h => h, own := fun b _ h => h, absent := fun F _ h => ⟨h, fun _ => rfl⟩ }
  bd := hs.bd
  nx := Nat.le_refl _
  fit := hs.fit

theorem sameL_eq {n : Nat} : ∀ {l m : List AV}, sameL (same n) l m = true → l = m
  | [], [], _ => rfl
  | [], _ :: _, h => by simp [sameL] at h
  | _ :: _, [], h => by simp [sameL] at h
  | a :: l, b :: m, h => by
    simp only [sameL, Bool.and_eq_true] at h
    rw [same_eq n a b h.1, sameL_eq h.2]

/-- a table of calls -/
def memoP : List (List AV × AV) → List AV → H → Option (ARes × H)
  | [], _, _ => none
  | (a, v) :: l, args, h => match sameL (same 10) args a with
    | true => some (.ret v, h)
    | false => memoP l args h

theorem memoP_some : ∀ {l : List (List AV × AV)} {args : List AV} {h : H} {r : ARes} {h' : H}, memoP l args h = some (r, h') → ∃ v, (args, v) ∈ l ∧ r = .ret v ∧ h' = h
  | [], _, _, _, _, hh => by cases hh
  | (a, v) :: l, args, h, r, h', hh => by
    unfold memoP at hh
    split at hh
    · rename_i q
      cases hh
      rw [sameL_eq q]
      exact ⟨v, by simp, rfl, rfl⟩
    · obtain ⟨v', a1, a2, a3⟩ := memoP_some hh
      exact ⟨v', by simp [a1], a2, a3⟩

/-- no places in it -/
def plainV : Nat → AV → Bool
  | 0, _ => false
  | n + 1, v => match v with
    | .ptr .. | .slc .. | .map _ | .fn .. => false
    | .ifc _ v => plainV n v
    | .agg l => l.all (plainV n)
    | .tup l => l.all (plainV n)
    | _ => true

theorem plainV_bd (m : Nat) : ∀ (n : Nat) (v : AV), plainV n v = true → AVb m v
  | 0, _, h => by cases h
  | n + 1, v, h => by
    have key : ∀ l : List AV, l.all (plainV n) = true → AVbL m l := by
      intro l
      induction l with
      | nil => intro _; simp only [AVbL]
      | cons v l ih =>
        intro hl
        simp only [List.all_cons, Bool.and_eq_true] at hl
        simp only [AVbL]
        exact ⟨plainV_bd m n v hl.1, ih hl.2⟩
    cases v with
    | ptr _ _ _ _ => cases h
    | slc _ _ _ _ _ _ => cases h
    | map _ => cases h
    | fn _ _ _ => cases h
    | ifc t v => simp only [AVb]; exact plainV_bd m n v h
    | agg l => simp only [AVb]; exact key l h
    | tup l => simp only [AVb]; exact key l h
    | _ => simp only [AVb]

/-- calls of plain values, run once on an empty heap, hold wherever they are made -/
theorem memo_calls {K : CallK} (hK : KOk P K) {f : FuncId} {args : List AV} {v : AV} {n : Nat} {h1 : H} (hn : P.globals.size ≤ n) (hrun : K f args ⟨n, .lf⟩ = some (.ret v, h1)) (ha : args.all (plainV 10) = true) (hv : plainV 10 v = true)
    (hnx : n ≤ h.nx) (hs : St P h ι w) {xs : Array Value} (hr : VRelL P ι args xs.toList) : Calls P f xs w fun en w' => ∃ κ, Done P h ι w h κ w' ∧ EndRel P κ (.ret v) en := by
  have gl : ∀ (g : Nat) (x : Global) (m : Nat), P.globals[g]? = some x → tsz P x.type = some m → g < n := fun g x m h1 _ => Nat.lt_of_lt_of_le (Array.getElem?_eq_some_iff.1 h1).1 hn
  have hst : St P ⟨n, .lf⟩ (ι.cut n) w := St.part (hs := ⟨n, .lf⟩) hs.rel hs.fit hs.glob gl (fun F o h => by cases h) (.of_none (fun F => rfl))
  have hra : VRelL P (ι.cut n) args xs.toList := by
    refine hr.cut ?_
    have : ∀ l : List AV, l.all (plainV 10) = true → AVbL n l := by
      intro l
      induction l with
      | nil => intro _; simp only [AVbL]
      | cons v l ih =>
        intro hl
        simp only [List.all_cons, Bool.and_eq_true] at hl
        simp only [AVbL]
        exact ⟨plainV_bd n 10 v hl.1, ih hl.2⟩
    exact this args ha
  refine (hK.calls _ _ _ _ _ _ w xs hrun hst hra).mono ?_
  rintro en w' ⟨κ, hd, he⟩
  have hno : ∀ b, ¬ WOwn (⟨n, .lf⟩ : H).obj (ι.cut n) b := by
    rintro b ⟨F, L, hw, _⟩
    rcases hw with ⟨f, g, q, _⟩ | ⟨_, q, _⟩
    · cases q
    · exact q rfl
  refine ⟨ι, Done.idle hs hd.grow.os hd.grow.tape hd.grow.output hd.grow.size (fun b hb => hd.grow.keep b hb (hno b)), ?_⟩
  cases he with
  | ret hvr =>
    refine .ret ((hvr.cut (plainV_bd 0 10 v hv)).mono ?_)
    intro F g L hl
    rw [Emb.cut_ge κ g (Nat.zero_le F)] at hl
    cases hl

theorem Done.below (hs : St P h ι w) (hro : ∀ F o, h.obj F = some o → Ro h.obj F) (hd : Done P h ι w h' κ w') : Go.RowKit.Below w.heap.size w w' :=
  ⟨hd.grow.os, hd.grow.tape, hd.grow.output, hd.grow.size, fun k hk => hd.grow.keep k hk (by
    rintro ⟨F, L, hw, _, hn⟩
    rcases hw with ⟨f, g, q, _⟩ | ⟨_, q, _⟩
    · exact hn (hro F _ q)
    · cases ho : h.obj F with
      | none => exact q ho
      | some o => exact hn (hro F o ho))⟩

noncomputable def isTrue (r : ARes) (_ : H) : Ans := @ARes.rec (fun _ => Ans) (fun v => boolD v .yes .no) (fun _ => .no) r

/-- a closed run that answers yes -/
theorem closed_run {E : Ev} (hm : E.P.follows .mixedOrders = true) (hx : ExtOk E.P E.X) (hp : PrimOk E.P E.X) (hA : AllOk E.P) {n : Nat} {f : FuncId} {h0 : H} (hrun : callNK E n f [] h0 isTrue = .yes) (hs : St E.P h0 ι w)
    (hro : ∀ F o, h0.obj F = some o → Ro h0.obj F) : Calls E.P f #[] w fun en w' => en = .returned (.bool true) ∧ Go.RowKit.Below w.heap.size w w' := by
  obtain ⟨r, h', h1, h2⟩ := callNK_yes hA n f [] h0 _ hrun
  have hK : KOk E.P (callN E.P E.X E.N n) := callN_sound hx hp (fun K nt hK => drawSound hm hx hK) n
  refine (hK.calls _ _ _ _ _ ι w #[] h1 hs .nil).mono ?_
  rintro en w' ⟨κ, hd, he⟩
  cases r with
  | ret v =>
    rcases boolD_yes (v := v) h2 with ⟨rfl, _⟩ | ⟨_, q⟩
    · cases he with
      | ret hv => cases hv; exact ⟨rfl, hd.below hs hro⟩
    · cases q
  | panic v => cases h2

/-- a table's calls, run -/
noncomputable def isV (v : AV) (r : ARes) (_ : H) : Ans := @ARes.rec (fun _ => Ans) (fun u => bK (same 20 u v) .yes) (fun _ => .no) r
noncomputable def allK (E : Ev) (n m : Nat) (f : FuncId) : List (List AV × AV) → Ans := @List.rec (List AV × AV) (fun _ => Ans) .yes (fun q _ ih => bK (q.1.all (plainV 10)) (bK (plainV 10 q.2) (callNK E n f q.1 ⟨m, .lf⟩ (fun r h => @Ans.rec (fun _ => Ans) .no ih (isV q.2 r h)))))

theorem allK_yes {E : Ev} {n m : Nat} {f : FuncId} (hA : AllOk E.P) : ∀ {l : List (List AV × AV)}, allK E n m f l = .yes → ∀ q ∈ l, q.1.all (plainV 10) = true ∧ plainV 10 q.2 = true ∧ ∃ h1, callN E.P E.X E.N n f q.1 ⟨m, .lf⟩ = some (.ret q.2, h1)
  | [], _, q, hq => by cases hq
  | p :: l, hh, q, hq => by
    obtain ⟨a1, hh⟩ := bK_yes (b := p.1.all (plainV 10)) hh
    obtain ⟨a2, hh⟩ := bK_yes (b := plainV 10 p.2) hh
    obtain ⟨r, h', a3, a4⟩ := callNK_yes hA n f p.1 _ _ hh
    have a5 : isV p.2 r h' = .yes ∧ allK E n m f l = .yes := by
      cases hv : isV p.2 r h' with
      | no => rw [hv] at a4; cases a4
      | yes => rw [hv] at a4; exact ⟨rfl, a4⟩
    rcases List.mem_cons.1 hq with rfl | hq
    · refine ⟨a1, a2, h', ?_⟩
      cases r with
      | ret u =>
        obtain ⟨a6, _⟩ := bK_yes (b := same 20 u q.2) (k := .yes) a5.1
        rw [a3, same_eq 20 u q.2 a6]
      | panic u => cases a5.1
    · exact allK_yes hA a5.2 q hq
end
end Go.Ai
