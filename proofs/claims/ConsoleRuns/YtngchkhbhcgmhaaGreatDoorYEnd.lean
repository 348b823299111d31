/- A part of the proof of ConsoleRuns: YEnd. -/
import Derived.Test.YtngchkhbhcgmhaaGreatDoorYCon0
import Derived.Test.YtngchkhbhcgmhaaGreatDoorAiAll
import Derived.Test.YtngchkhbhcgmhaaGreatDoorAiExt
import Derived.Test.YtngchkhbhcgmhaaGreatDoorAiExt2
import Derived.ProofKit
import Derived.OpenShut
import Derived.LaidMore
import Derived.Lay
import Derived.SevenTiedAt
import Derived.Stop.Joined
import Derived.Shelf.Lays
import Derived.Shelf.Strings.Search2
import Derived.Shelf.Vars
set_option linter.unusedVariables false
set_option linter.unusedSimpArgs false
set_option linter.unusedSectionVars false
set_option linter.unnecessarySimpa false
namespace Go.Proofs.YtngchkhbhcgmhaaGreatDoor
open Go Go.Ai Go.ChangeShapes Go.WideShapes Go.ChangeAt Go.RowKit Go.Shelf

/-- the plain wrap, what is laid and the world's shape kept -/
theorem returns_and_shaped {H : Type} {enc : TypeId × Value → H} {a : Assume} {C : Checked} {os : Os} {f : FuncId} {fn : Func} {s : ChangeSpec} {conds : List PathCond} {apart fresh handsOn again : Bool} {X : World → Array Value → Prop}
    (hX : ∀ (w w' : World) (args : Array Value), w.heap = w'.heap → X w args → X w' args)
    (own : ownKnob C.prog.godebug = none) (started : os.Started) (noInit : C.prog.inits.idxOf? f = none) (hfn : C.prog.funcs[f]? = some fn)
    (witness : ∃ (w : World) (tape : Tape) (i : Input), w.os = os ∧ (w.forCall tape i).Shaped C.prog ∧ i.vars = [] ∧ Input.okWide C.prog (w.forCall tape i) .any w.heap.size f i ∧
      ((s.pre enc C.prog fn conds apart (w.forCall tape i).memory i.args ∧ X (w.forCall tape i).memory i.args) ∧ sizedMet enc C.prog fn (OpenSpec.ofChange s) apart (w.forCall tape i).memory i.args) ∧ a.holds C.prog (lone (Frame.enter C.prog f i.args .normal) [] (w.forCall tape i)))
    (contract : ∀ (W : World) (base : Nat) (args : Array Value) (ds gs : List (DataW H)) (before : List MemPlace),
      (∀ (j : Nat) t v, fn.params[j]? = some t → args[j]? = some v → Value.okWide C.prog W .any base t v) →
      DataW.Whole enc C.prog fn.params.toList s.vars apart W args.toList ds gs before →
      conds.all (PathCond.test C.prog ⟨fn.params.toList, ds, s.plain.varTypes C.prog, gs⟩) = true →
      X W args → W.ShapedOpen C.prog →
      Calls C.prog f args W fun e W' => ∃ v, e = .returned v ∧ s.post enc C.prog fn apart fresh handsOn again W args v W') :
    ReturnsInHanded a C os f .any (fun w args => (s.pre enc C.prog fn conds apart w args ∧ X w args) ∧ sizedMet enc C.prog fn (OpenSpec.ofChange s) apart w args) (s.post enc C.prog fn apart fresh handsOn again) := by
  refine returnsInHanded_of_calls own started noInit witness ?_
  intro w tape i _ hsh _ hok hpre hholds
  obtain ⟨_, _, _, fn', hfn', _, _, _, _, hval⟩ := hok
  have e : fn' = fn := Option.some.inj (hfn'.symm.trans hfn)
  subst e
  obtain ⟨⟨⟨ds, gs, before, hw, hc⟩, hx⟩, hz⟩ := hpre
  have hw' := DataW.Whole.of_heap (w' := w.forCall tape i) (by rfl) hw
  refine (contract (w.forCall tape i) w.heap.size i.args ds gs before hval hw' hc (hX _ _ _ (by rfl) hx) hsh).mono fun e W' ⟨v, he, hp⟩ => ?_
  subst he
  exact ChangeSpec.post_blind hp

theorem own : ownKnob Tryz.prog.godebug = none := by kernel_rfl
abbrev laidL : List (String × DataW Unit) := Rows.consoleRunsRow.laid

theorem row0 : (((begin Tryz.prog (fun _ _ => 0) default).world.heap[0]?).bind Obj.row?) = some (#[.int .i64 0], 3) := by kernel_rfl
theorem row1 : (((begin Tryz.prog (fun _ _ => 0) default).world.heap[1]?).bind Obj.row?) = some ((List.replicate 20 (Value.int .u64 0)).toArray, 315) := by kernel_rfl
theorem pow_cell {W : World} (h : laidMetH Tryz.prog laidL W) (r : Nat) (hr : r < 20) : W.cell? ⟨1, r, none⟩ = some (.int .u64 ((10 ^ r : Nat) : Int)) := by
  rw [MakeChecks.laidMetH_plain _ _ _ (by kernel_rfl)] at h
  obtain ⟨ps, ⟨g, t, cs, fuel, p, q, hg, ht, hv, hd, _, _⟩, _, _⟩ := h
  obtain rfl := Option.some.inj ((show Tryz.prog.globalNamed "internal/strconv.uint64pow10" = some 1 by kernel_rfl).symm.trans hg)
  obtain rfl := Option.some.inj ((show (Tryz.prog.globals[1]?).map (·.type) = some 315 by kernel_rfl).symm.trans ht)
  obtain ⟨xs, m, _, ex, _, hl, hel⟩ := DataW.trod_array Tryz.underlying315 hd
  have c5 : Tryz.prog.cellsOf 207 = 1 := by kernel_rfl
  have hE := hel r hr
  rw [c5, Nat.mul_one, List.getElem?_eq_getElem (by omega)] at hE
  obtain ⟨z, e1, e2, _⟩ := DataW.trod_int Tryz.underlying207 hE
  have e3 : (xs.map (·.1)) = (List.range 20).map fun k => (DataW.lit (.int .u64 ((10 ^ k : Nat) : Int)) : DataW Unit) := (DataW.agg.inj (Prod.mk.inj ex).1).symm
  have e4 : (xs.map (·.1))[r]? = ((List.range 20).map fun k => (DataW.lit (.int .u64 ((10 ^ k : Nat) : Int)) : DataW Unit))[r]? := by rw [e3]
  rw [List.getElem?_map, List.getElem?_map, List.getElem?_eq_getElem (by omega : r < xs.length), List.getElem?_range hr, e2] at e4
  have hz : z = ((10 ^ r : Nat) : Int) := by
    simp only [Option.map_some, Option.some.injEq, DataW.lit.injEq, Lit.int.injEq, true_and] at e4
    exact e4
  rw [World.var?_cell hg hv r, ← hz]
  have h0 : ((cs.toList.drop r).take 1)[0]? = some (.int .u64 z) := by rw [e1]; rfl
  simpa using h0

/-! The functions without a body. -/
theorem ext_ok (pr : FuncId → Option (List AV → H → Option (ARes × H))) : ExtOk Tryz.prog { ext := extOf, prim := pr } where
  row := by
    intro k x hk
    have hk' : extOf k = some x := hk
    unfold extOf at hk'
    cases hf : extL.find? (fun p => p.1 == k) with
    | none => rw [hf] at hk'; cases hk'
    | some p =>
      rw [hf] at hk'
      have hm := List.mem_of_find?_eq_some hf
      have he : p.1 = k := by have := List.find?_some hf; simpa using this
      have hx : p.2 = x := by simpa using hk'
      subst he hx
      simp only [extL, List.mem_cons, List.mem_nil_iff, or_false] at hm
      rcases hm with rfl | rfl | rfl | rfl | rfl | rfl
      · exact ⟨Tryz.f73, _, Tryz.func73, rfl, by kernel_rfl, by kernel_rfl, ext_noEsc⟩
      · exact ⟨Tryz.f125, _, Tryz.func125, rfl, by kernel_rfl, by kernel_rfl, ext_cntStr⟩
      · exact ⟨Tryz.f211, _, Tryz.func211, rfl, by kernel_rfl, by kernel_rfl, ext_idxByte⟩
      · exact ⟨Tryz.f362, Extern.SlicesOverlaps.overlaps #[334, 334] #[4], Tryz.func362, rfl, by kernel_rfl, by kernel_rfl, ext_overlaps (t := 334) (e := 260) (n := 1) rfl (by kernel_rfl) (by kernel_rfl)⟩
      · exact ⟨Tryz.f485, _, Tryz.func485, rfl, by kernel_rfl, by kernel_rfl, ext_cmpStr⟩
      · exact ⟨Tryz.f517, Extern.BytealgMakeNoZero.makeNoZero #[3] #[53], Tryz.func517, rfl, by kernel_rfl, by kernel_rfl, ext_makeNZ (t := 53) (e := 5) rfl (by kernel_rfl)⟩
  noGo := by
    have : Tryz.prog.funcs.toList.all (fun fn => !(fn.name == "runtime.NumGoroutine")) = true := by kernel_rfl
    intro k fn hf
    have h1 := List.all_eq_true.1 this fn (List.mem_of_getElem? (by simpa using hf))
    simpa using h1

/-! internal/stringslite.Index, by the library's contract. -/
def idxRen : Ren where
  f := fun n => if n = 217 then 113 else if n = 219 then 62 else if n = 224 then 115 else if n = 225 then 114 else if n = 266 then 211 else if n = 267 then 116 else if n = 314 then 212 else n
  t := fun n => if n = 46 then 198 else if n = 51 then 308 else if n = 146 then 309 else n
  g := fun _ => 0
theorem lays219 : Lays.n219 Tryz.prog idxRen where
  mixed := by kernel_rfl
  f217 := by kernel_rfl
  f219 := by kernel_rfl
  f224 := by kernel_rfl
  f225 := by kernel_rfl
  f266 := by kernel_rfl
  f267 := by kernel_rfl
  f314 := by kernel_rfl
  t3 := by kernel_rfl
  a3 := fun w => by kernel_rfl
  z3 := fun w => by kernel_rfl
  v3 := fun w => by kernel_rfl
  t4 := by kernel_rfl
  a4 := fun w => by kernel_rfl
  z4 := fun w => by kernel_rfl
  v4 := fun w => by kernel_rfl
  t5 := by kernel_rfl
  a5 := fun w => by kernel_rfl
  z5 := fun w => by kernel_rfl
  v5 := fun w => by kernel_rfl
  t9 := by kernel_rfl
  a9 := fun w => by kernel_rfl
  z9 := fun w => by kernel_rfl
  v9 := fun w => by kernel_rfl
  t46 := by kernel_rfl
  a46 := fun w => by kernel_rfl
  z46 := fun w => by kernel_rfl
  v46 := fun w => by kernel_rfl
  t51 := by kernel_rfl
  a51 := fun w => by kernel_rfl
  z51 := fun w => by kernel_rfl
  v51 := fun w => by kernel_rfl
  t146 := by kernel_rfl
  a146 := fun w => by kernel_rfl
  z146 := fun w => by kernel_rfl
  v146 := fun w => by kernel_rfl
  g1 := by kernel_rfl
theorem g0 : ∃ x, Tryz.prog.globals[0]? = some x ∧ tsz Tryz.prog x.type = some 1 := by
  have h : (Tryz.prog.globals[0]?).map (fun x => tsz Tryz.prog x.type) = some (some 1) := by kernel_rfl
  cases hx : Tryz.prog.globals[0]? with
  | none => rw [hx] at h; cases h
  | some x => rw [hx] at h; exact ⟨x, rfl, by simpa using h⟩
theorem idx_kok : KOk Tryz.prog (fun k args h => if k = 62 then idxP 0 args h else none) := by
  obtain ⟨x, h1, h2⟩ := g0
  exact idx_ok (f := 62) (g := 0) (fn := Tryz.f62) (x := x) Tryz.func62 rfl h1 h2 (fun s sub m w hs hm => Any.stringslite_Index lays219 s sub m w hs hm)
theorem mixed : Tryz.prog.follows .mixedOrders = true := by kernel_rfl

theorem noPrim : PrimOk Tryz.prog { ext := extOf, prim := fun _ => none } := fun f p h => by cases h
theorem memo_kok {f : FuncId} {fn : Func} {l : List (List AV × AV)} (hA : AllOk Tryz.prog) (hf : Tryz.prog.funcs[f]? = some fn) (hb : fn.body.isNone = false) (hr : allK E1 100 8 f l = .yes) : KOk Tryz.prog (fun g args h => if g = f then memoQ 8 l args h else none) :=
  memo_ok (callN_sound (P := E1.P) (X := E1.X) (ext_ok _) noPrim (fun K nt hK => drawSound mixed (ext_ok _) hK) 100) hf hb (show Tryz.prog.globals.size ≤ 8 from by rw [show Tryz.prog.globals.size = 8 by kernel_rfl]; exact Nat.le_refl _) (allK_yes (E := E1) hA hr)
theorem prim_ok (hA : AllOk Tryz.prog) (h1 : allK E1 100 8 282 memo282 = .yes) (h2 : allK E1 100 8 64 memo64 = .yes) (h3 : allK E1 100 8 36 memo36 = .yes) : PrimOk Tryz.prog E0.X := by
  intro f p hp
  have hp' : (primL.find? fun q => q.1 == f).map (·.2) = some p := hp
  cases hq : primL.find? (fun q => q.1 == f) with
  | none => rw [hq] at hp'; cases hp'
  | some q =>
    rw [hq] at hp'
    have hm := List.mem_of_find?_eq_some hq
    have he : q.1 = f := by have := List.find?_some hq; simpa using this
    have hx : q.2 = p := by simpa using hp'
    subst he hx
    simp only [primL, List.mem_cons, List.mem_nil_iff, or_false] at hm
    rcases hm with rfl | rfl | rfl | rfl
    · exact idx_kok
    · exact memo_kok hA Tryz.func282 rfl h1
    · exact memo_kok hA Tryz.func64 rfl h2
    · exact memo_kok hA Tryz.func36 rfl h3

/-- where the run starts -/
theorem start {W : World} {m : Int} (hL : laidMetH Tryz.prog laidL W) (hsh : W.ShapedOpen Tryz.prog) (hm : W.cell? ⟨0, 0, none⟩ = some (.int .i64 m)) : St Tryz.prog (h0 m) (gemb Tryz.prog) W := by
  have gs : Tryz.prog.globals.size = 8 := by kernel_rfl
  refine start_st (h := h0 m) (show (h0 m).nx = _ from gs.symm) ?_
  intro F o ho
  unfold h0 at ho
  rw [obj_put] at ho
  split at ho
  · rename_i e
    subst e
    cases ho
    refine ⟨by rw [gs]; decide, 315, pow10, ?_⟩
    obtain ⟨cs, c1, c2, _⟩ := hsh.1 1 _ _ (by rw [gs]; decide) row1
    refine ⟨cs, rfl, c1, ?_, by kernel_rfl⟩
    have hsz : cs.size = 20 := by simpa using c2
    refine VRelL.of_get (by rw [show pow10.length = 20 by kernel_rfl]; simp [hsz]) ?_
    intro i v x hv hx
    have hi : i < 20 := by have := (List.getElem?_eq_some_iff.1 hv).1; rwa [show pow10.length = 20 by kernel_rfl] at this
    have hc := pow_cell hL i hi
    rw [cell_of W 1 i c1] at hc
    rw [Array.getElem?_toList, hc] at hx
    cases hx
    simp only [pow10, List.getElem?_map, List.getElem?_range hi, Option.map_some, Option.some.injEq] at hv
    subst hv
    exact .int .u64 _
  · rw [obj_put] at ho
    split at ho
    · rename_i _ e
      subst e
      cases ho
      refine ⟨by rw [gs]; decide, 3, [.int .i64 m], ?_⟩
      obtain ⟨cs, c1, c2, _⟩ := hsh.1 0 _ _ (by rw [gs]; decide) row0
      refine ⟨cs, rfl, c1, ?_, by kernel_rfl⟩
      have hsz : cs.size = 1 := by simpa using c2
      rw [cell_of W 0 0 c1] at hm
      refine VRelL.of_get (by simp [hsz]) ?_
      intro i v x hv hx
      cases i with
      | zero =>
        simp at hv
        subst hv
        rw [Array.getElem?_toList, hm] at hx
        cases hx
        exact .int .i64 _
      | succ i => simp at hv
    · cases ho

theorem walk (hA : AllOk Tryz.prog) (h1 : allK E1 100 8 282 memo282 = .yes) (h2 : allK E1 100 8 64 memo64 = .yes) (h3 : allK E1 100 8 36 memo36 = .yes) (hrun : ∀ m, callNK E0 200 3 [] (h0 m) isTrue = .yes)
    {W : World} (hL : laidMetH Tryz.prog laidL W) (hsh : W.ShapedOpen Tryz.prog) : Calls Tryz.prog 3 #[] W fun en w' => en = .returned (.bool true) ∧ Go.RowKit.Below W.heap.size W w' := by
  obtain ⟨m, hm⟩ := cell_of_shapedOpen_int (g := 0) (t := 3) (k := .i64) hsh (by rw [show Tryz.prog.globals.size = 8 by kernel_rfl]; decide) row0 rfl (by kernel_rfl) (by kernel_rfl) (by kernel_rfl)
  refine closed_run (E := E0) mixed (ext_ok _) (prim_ok hA h1 h2 h3) hA (hrun m) (start hL hsh hm) ?_
  refine gfam_ro (h := h0 m) ?_
  intro F o ho
  unfold h0 at ho
  rw [obj_put] at ho
  split at ho
  · cases ho; exact ⟨_, _, rfl⟩
  · rw [obj_put] at ho
    split at ho
    · cases ho; exact ⟨_, _, rfl⟩
    · cases ho

set_option maxRecDepth 100000 in
theorem lifted (hA : AllOk Tryz.prog) (h1 : allK E1 100 8 282 memo282 = .yes) (h2 : allK E1 100 8 64 memo64 = .yes) (h3 : allK E1 100 8 36 memo36 = .yes) (hrun : ∀ m, callNK E0 200 3 [] (h0 m) isTrue = .yes)
    (os : Os) (started : os.Started) (H : Type) (enc : TypeId × Value → H) :
    ReturnsInHanded {} Tryz.checked os 3 .any (fun w args => (Rows.consoleRunsSpec.pre enc Tryz.prog Tryz.f3 [] false w args ∧ laidMetH Tryz.prog laidL w) ∧ sizedMet enc Tryz.prog Tryz.f3 (OpenSpec.ofChange Rows.consoleRunsSpec) false w args)
      (Rows.consoleRunsSpec.post enc Tryz.prog Tryz.f3 false true false false) := by
  refine returns_and_shaped (C := Tryz.checked) (X := fun w _ => laidMetH Tryz.prog laidL w) (fun _ _ _ hh h => h.of_heap hh) own started (by kernel_rfl) Tryz.func3
    (ChangeSpec.witness_shaped (enc := enc) (C := Tryz.checked) (os := os) (X := fun w _ => laidMetH Tryz.prog laidL w) false (World.laidAll Tryz.prog os laidL) #[] 8 (World.laidAll_os _ _ _)
      (World.shaped_of_ZipB (by kernel_rfl) (by kernel_rfl)) (by kernel_rfl) (by kernel_rfl) (by kernel_rfl)
      (by rw [MakeChecks.laidMetH_plain _ _ _ (by kernel_rfl)]; exact laidMet_laidAll _ (by kernel_rfl) (by kernel_rfl))) ?_
  intro W base args ds gs before hval0 hW hc hL hsh
  have hW' := hW
  obtain ⟨p, q, hA0, hV, rfl, _, _⟩ := hW
  have hAr : DataW.TrodAll enc Tryz.prog W 0 (fun _ => true) true Tryz.f3.params.toList args.toList ds p := hA0
  rw [Tryz.params3] at hAr
  obtain ⟨rfl, rfl, rfl⟩ := trodAll_none hAr
  obtain ⟨rfl, rfl⟩ := trodVars_none hV
  simp only [List.append_nil] at hW'
  refine (walk hA h1 h2 h3 hrun hL hsh).mono ?_
  rintro e W' ⟨rfl, bel⟩
  refine ⟨_, rfl, [], [], [], [], [], [], hW', ?_, ?_, ?_, bel.frame _, fun h => by cases h⟩
  · exact trodAll_mk1 (shut_bool Tryz.underlying4 _)
  · exact trodAll_mk0
  · rfl

end Go.Proofs.YtngchkhbhcgmhaaGreatDoor
