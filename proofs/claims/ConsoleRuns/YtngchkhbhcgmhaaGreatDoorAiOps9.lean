/- A part of the proof of ConsoleRuns: AiOps9. -/
import Derived.Test.YtngchkhbhcgmhaaGreatDoorAiOps8
import Derived.Lib.UnsafeStr
import Derived.Laws.BytesString
set_option linter.unusedVariables false
set_option linter.unusedSimpArgs false
set_option linter.unusedSectionVars false
set_option linter.unnecessarySimpa false
/- Other builtins; conversions. -/
namespace Go.Ai

section
variable {P : Program} {ι κ : Emb} {w w' : World} {h h' : H}

theorem lenCls_rel {v : AV} {x : Value} {n : Nat} (hv : lenCls v = some n) (hx : VRel P ι v x) (w : World) : (Builtin.lenOf x).run P w = .ok n w := by
  unfold lenCls at hv
  split at hv
  · cases hv; cases hx; rfl
  · cases hv; cases hx; rfl
  · cases hv
    obtain ⟨s, rfl, rfl, rfl⟩ := str_inv hx
    simp [Builtin.lenOf]
  · cases hv

theorem slc_load_n (hr : HRel P h.obj ι w) {F g o s n k : Nat} {c : Option Nat} {y : Value} {l : List AV} (hx : VRel P ι (.slc F g o s n c) y) (hk : k ≤ n) (hl : h.load F g o (k * s) = some l) :
    ∃ a m vs, y = .slice (some a) n m ∧ VRelL P ι l vs ∧ vs.length = k * s ∧ ∀ (j : Nat) v, vs[j]? = some v → w.cell? (a.add j) = some v := by
  cases hx with
  | slc hi hs hn hm hN hc hu ha =>
    rename_i L a m
    have hks := Nat.mul_le_mul_right s hk
    obtain ⟨vs, r1, r2, r3⟩ := hr.load hl hi (by omega)
    refine ⟨a, m, vs, rfl, r1, r2, ?_⟩
    by_cases h0 : m = 0
    · have : k = 0 := by omega
      subst this
      have : vs = [] := List.eq_nil_of_length_eq_zero (by simpa using r2)
      subst this
      intro j v hj
      simp at hj
    · rw [ha h0]
      exact r3

theorem copy_rel (hs : St P h ι w) {t : TypeId} {e : TypeId} {sz : Nat} {d x r : AV} {y z : Value} {ts : Array TypeId} {ty : TypeId} (h0 : ts[0]? = some t) (ht : P.underlying t = some (.slice e)) (hsz : tsz P e = some sz)
    (hv : copyA h sz d x = some (r, h')) (hy : VRel P ι d y) (hz : VRel P ι x z) : Does P h ι w (Builtin.copy_ ts ty #[y, z]) r h' := by
  unfold copyA at hv
  split at hv
  · cases hv
  · rename_i dn xn hds hxn hdn
    have hlx := lenCls_rel hxn hz
    have hdsl : ∃ base k, y = .slice base dn k := by
      unfold lenCls at hdn
      split at hdn
      · cases hdn; cases hy; exact ⟨none, 0, rfl⟩
      · cases hdn; cases hy; exact ⟨_, _, rfl⟩
      · rename_i l b; exact absurd rfl (hds l b)
      · cases hdn
    obtain ⟨base, k, rfl⟩ := hdsl
    split at hv
    · rename_i hmin
      cases hv
      have hmin' : Nat.min xn dn = 0 := hmin
      have hfc : ∃ c : Array Value, c = #[] ∧ (Builtin.firstCells sz 0 z).run P w = .ok c w := by
        unfold lenCls at hxn
        split at hxn
        · cases hz; exact ⟨#[], rfl, rfl⟩
        · cases hz; exact ⟨#[], rfl, by simp [Builtin.firstCells, loadCells, loadCellsFrom]⟩
        · obtain ⟨s, rfl, rfl, rfl⟩ := str_inv hz
          refine ⟨_, ?_, by simp only [Builtin.firstCells, Sem.run_pure]; rfl⟩
          apply Array.eq_empty_of_size_eq_zero
          simp
        · cases hxn
      obtain ⟨c, rfl, hfc⟩ := hfc
      refine ⟨goInt 0, w, ι, ?_, .int _ _, .refl hs⟩
      cases base <;> simp [Builtin.copy_, h0, run_underlying ht, hlx, hmin', run_sizeOf' hsz w, hfc, storeCells]
    · rename_i k' hmin
      have hmin' : Nat.min xn dn = k' + 1 := hmin
      have hkx : k' + 1 ≤ xn := by rw [← hmin']; exact Nat.min_le_left _ _
      have hkd : k' + 1 ≤ dn := by rw [← hmin']; exact Nat.min_le_right _ _
      split at hv
      · rename_i F g o s' n c l hld
        split at hv
        · rename_i h1 hc hst
          cases hv
          simp only [Bool.and_eq_true] at hc
          have hs' : s' = sz := Nat.eq_of_beq_eq_true hc.1
          subst hs'
          have hfc : ∃ cs : List Value, (Builtin.firstCells s' (k' + 1) z).run P w = .ok cs.toArray w ∧ VRelL P ι l cs := by
            split at hld
            · rename_i F2 g2 o2 s2 n2 c2
              split at hld
              · rename_i he
                have he' : s2 = s' := Nat.eq_of_beq_eq_true he
                subst he'
                have hn2 : n2 = xn := by simpa [lenCls] using hxn
                obtain ⟨a, m, vs, rfl, r1, r2, r3⟩ := slc_load_n hs.rel hz (by omega) hld
                exact ⟨vs, run_firstCells_some w _ _ _ _ _ vs r2 r3, r1⟩
              · cases hld
            · rename_i l2 b2
              split at hld
              · cases hld
                obtain ⟨s, rfl, rfl, rfl⟩ := str_inv hz
                refine ⟨((s.data.toList.take (k' + 1)).map fun b => Value.int .u8 (b.toNat : Int)), ?_, ?_⟩
                · simp only [Builtin.firstCells, Sem.run_pure]
                  congr 1
                  apply Array.ext'
                  simp
                · rw [unpack_pack]
                  exact bytesAV_rel _
              · cases hld
            · cases hld
          obtain ⟨cs, hfc, hrl⟩ := hfc
          cases hy with
          | slc hi hs0 hn hm hN hcc hu ha =>
            rename_i L a
            have hk0 : k ≠ 0 := by omega
            have ha' := ha hk0
            subst ha'
            obtain ⟨w', r1, r2, r3, r4⟩ := hs.rel.store hst hi hrl (flatL_rel hrl hc.2) h.nx
            refine ⟨goInt ((k' + 1 : Nat) : Int), w', ι, ?_, .int _ _, r2, r3, ?_, by omega, hs.fit⟩
            · simp [Builtin.copy_, h0, run_underlying ht, hlx, hmin', run_sizeOf' hsz w, hfc, r1]
            · intro F' g' hF; exact hs.bd F' g' (by omega)
        · cases hv
      · cases hv
  · cases hv

theorem clear_rel (hs : St P h ι w) {t : TypeId} {y : Value} {ts : Array TypeId} {ty : TypeId} (h0 : ts[0]? = some t) {e : TypeId} {z : AV} (ht : P.underlying t = some (.slice e)) (hz : tzero P e = some z)
    {F g o s n : Nat} {c : Option Nat} (hx : VRel P ι (.slc F g o s n c) y) (hl : z.cells.length = s) (hfl : z.cells.all flat = true) (hn : n ≠ 0) (hst : h.store F g o (replicateL z.cells n) = some h') :
    Does P h ι w (Builtin.clear_ ts ty #[y]) (.tup []) h' := by
  obtain ⟨zx, hzx, hzr⟩ := run_zero hz
  have hcr := cells_rel (hzr ι) (tzero_ne_junk hz)
  have hzl : zx.cells.size = s := by rw [← hl, hcr.length]; simp
  have hrl : VRelL P ι (replicateL z.cells n) (Builtin.zeroCells zx.cells n).toList := by
    cases hx with
    | slc hi hs0 hn hm hN hcc hu ha => exact zeros_rel hcr n (by omega)
  have hfl2 : (replicateL z.cells n).all flat = true := by
    clear hst hrl hx hn
    induction n with
    | zero => rfl
    | succ n ih => simp only [replicateL, List.all_append, hfl, ih, Bool.and_self]
  cases hx with
  | slc hi hs0 hnk hm hN hcc hu ha =>
    rename_i L a k
    have ha' := ha (by omega)
    subst ha'
    obtain ⟨w', r1, r2, r3, r4⟩ := hs.rel.store hst hi hrl (flatL_rel hrl hfl2) h.nx
    refine ⟨.tuple #[], w', ι, ?_, .tup .nil, r2, r3, ?_, by omega, hs.fit⟩
    · obtain ⟨n, rfl⟩ : ∃ m, n = m + 1 := ⟨n - 1, by omega⟩
      simp [Builtin.clear_, h0, run_underlying ht, hzx, r1]
    · intro F' g' hF; exact hs.bd F' g' (by omega)

theorem bytesOfL_rel : ∀ {l : List AV} {m : List Value} {bs : List UInt8}, bytesOfL l = some bs → VRelL P ι l m → ∃ ns : List Int, m = ns.map (Value.int .u8) ∧ bs = ns.map fun n => UInt8.ofNat n.toNat
  | [], m, bs, hb, hv => by
    simp [bytesOfL] at hb
    subst hb
    cases hv
    exact ⟨[], rfl, rfl⟩
  | v :: l, m, bs, hb, hv => by
    unfold bytesOfL at hb
    split at hb
    · rename_i q; cases q
    · rename_i n l' q
      cases q
      split at hb
      · rename_i r hr
        cases hb
        cases hv with
        | cons hx hl =>
          cases hx
          obtain ⟨ns, a, b⟩ := bytesOfL_rel hr hl
          exact ⟨n :: ns, by rw [a]; rfl, by rw [b]; rfl⟩
      · cases hb
    · cases hb

theorem foldl_push (ns : List Int) : ∀ acc : ByteArray, (ns.foldl (fun r n => r.push (UInt8.ofNat n.toNat)) acc).data.toList = acc.data.toList ++ ns.map fun n => UInt8.ofNat n.toNat := by
  induction ns with
  | nil => intro acc; simp
  | cons n ns ih => intro acc; rw [List.foldl_cons, ih]; simp [ByteArray.push]

theorem run_loadBytesI : ∀ (ns : List Int) (a : Addr) (acc : ByteArray), (∀ (j : Nat) v, (ns.map (Value.int .u8))[j]? = some v → w.cell? (a.add j) = some v) →
    (loadBytes a acc ns.length).run P w = .ok ⟨acc.data ++ (ns.map fun n => UInt8.ofNat n.toNat).toArray⟩ w
  | [], a, acc, _ => by simp [loadBytes]
  | x :: l, a, acc, hc => by
    have h0 : w.cell? a = some (.int .u8 x) := by
      have := hc 0 _ rfl
      simpa [Addr.add] using this
    have ih := run_loadBytesI l (a.add 1) (acc.push (UInt8.ofNat x.toNat)) (fun j v hj => by
      have := hc (j + 1) v (by simpa using hj)
      have e : (a.add 1).add j = a.add (j + 1) := by
        unfold Addr.add
        by_cases hj : j = 0
        · subst hj; simp
        · simp [hj]; omega
      rw [e]; exact this)
    have hx : x.toNat.toUInt8 = UInt8.ofNat x.toNat := rfl
    simp only [List.length_cons, loadBytes, Sem.run_bind, run_load, h0, Result.andThen, hx]
    rw [ih]
    congr 1
    apply ByteArray.ext
    simp [ByteArray.push]

theorem shape_of {w : World} {b : Nat} {arr : Array Value} {el : TypeId} {fr : Nat × Nat} (hg : w.heap[b]? = some (.cells arr el fr)) : w.shape? b = some (el, arr.size) := by
  unfold World.shape?
  rw [hg]

theorem liesAt_self {e : TypeId} (hc : P.cellsOf e = 1) (count off n : Nat) (hn : off + n ≤ count) : liesAt P P.depth e count off e n = true := by
  have hd : P.depth = (2 * (P.types.size + Made.depth) + 1) + 1 := rfl
  rw [hd]
  simp only [liesAt, Bool.or_eq_true]
  left
  rw [hd]
  simp [rowAt, hc, hn, sameLayout]
  omega

theorem run_viewAt {w : World} {b : Nat} {arr : Array Value} {el : TypeId} {fr : Nat × Nat} (hg : w.heap[b]? = some (.cells arr el fr)) : (viewAt b).run P w = .ok none w := by
  simp [viewAt, shape_of hg]

theorem run_seenAt {w : World} {a : Addr} {arr : Array Value} {el : TypeId} {fr : Nat × Nat} (hg : w.heap[a.block]? = some (.cells arr el fr)) : (Conv.seenAt a).run P w = .ok a w := by
  simp [Conv.seenAt, run_viewAt hg]

theorem ustr_def (ts : Array TypeId) (ty : TypeId) (p : Option Addr) (z : Value) : Builtin.unsafeString_ ts ty #[.pointer p, z] = (do
    let n ← asInt z
    let some pt := ts[0]? | stuck "unsafe.String: no argument types"
    if n < 0 then runtimePanic (.error "unsafe.String: len out of range")
    if n > IntKind.i64.max then unsupported (.unsafePointer "String: a length above the largest int")
    match p with
    | none =>
      if n = 0 then pure (.string .empty)
      else runtimePanic (.error "unsafe.String: ptr is nil and len is not zero")
    | some a =>
      if n = 0 then pure (.string .empty)
      else if ← variablesAt a (← elemOf pt) n.toNat then do
        let s ← loadBytes a .empty n.toNat
        freeze a n.toNat
        pure (.string s)
      else unsupported (.unsafePointer "String: not so many bytes at ptr")) := rfl

theorem ustr_rel (hs : St P h ι w) {t : TypeId} {p n r : AV} {y z : Value} {ts : Array TypeId} {ty : TypeId} (h0 : ts[0]? = some t) (hv : ustrA P h t p n = some (r, h')) (hy : VRel P ι p y) (hz : VRel P ι n z) :
    Does P h ι w (Builtin.unsafeString_ ts ty #[y, z]) r h' := by
  have hmax : IntKind.i64.max = 9223372036854775807 := by decide
  unfold ustrA at hv
  split at hv
  · rename_i hn
    cases hv
    obtain ⟨k, rfl⟩ := asNat_rel hz hn
    cases hy
    refine ⟨.string .empty, w, ι, ?_, str_rel _ rfl rfl, .refl hs⟩
    rw [ustr_def]; simp [asInt, asIntOf, h0, hmax]
  · rename_i F g o e hn
    cases hv
    obtain ⟨k, rfl⟩ := asNat_rel hz hn
    cases hy
    refine ⟨.string .empty, w, ι, ?_, str_rel _ rfl rfl, .refl hs⟩
    rw [ustr_def]; simp [asInt, asIntOf, h0, hmax]
  · rename_i F g o e k hn
    obtain ⟨kk, rfl⟩ := asNat_rel hz hn
    split at hv
    · rename_i f el hc hf hu
      simp only [Bool.and_eq_true] at hc
      have hke : k + 1 ≤ e := Nat.le_of_ble_eq_true hc.1
      have hkb : k + 1 ≤ 1000000000000 := Nat.le_of_ble_eq_true hc.2
      split at hv
      · rename_i l hcc hl
        simp only [Bool.and_eq_true, Bool.not_eq_true'] at hcc
        obtain ⟨⟨⟨⟨c1, c2⟩, c3⟩, c4⟩, c5⟩ := hcc
        have c1' : g = f.gen := Nat.eq_of_beq_eq_true c1
        have c2' : el = f.elem := Nat.eq_of_beq_eq_true c2
        have c3' : P.cellsOf f.elem = 1 := Nat.eq_of_beq_eq_true c3
        split at hv
        · rename_i bs hb
          cases hv
          cases hy with
          | ptr hi he =>
          rename_i L
          obtain ⟨ho, hlo, hgn, hk, _, _, _, hown⟩ := hs.rel.at hf hi
          obtain ⟨vs, r1, r2, r3⟩ := hs.rel.load (l := l) (o := o) (n := k + 1) (by unfold H.load; rw [hf]; exact hl) hi (by omega)
          obtain ⟨ns, rfl, rfl⟩ := bytesOfL_rel hb r1
          obtain ⟨arr, fr, hg, hN, hcell, hz1, hz2⟩ := hk.ex
          have hlen : ns.length = k + 1 := by simpa using r2
          have hld := run_loadBytesI (P := P) ns ⟨L.b, L.p + o, none⟩ .empty r3
          rw [hlen] at hld
          obtain ⟨x1, x2⟩ := hs.rel.freeze hf hi (o := o) (n := k + 1) (by omega) c4 c5 h.nx
          have hfit := hk.fit
          refine ⟨.string ⟨(ns.map fun n => UInt8.ofNat n.toNat).toArray⟩, w.freeze ⟨L.b, L.p + o, none⟩ (k + 1), ι, ?_, ?_, x1, x2, ?_, Nat.le_refl _, hs.fit⟩
          · have h1 : ¬ ((k : Int) + 1 < 0) := by omega
            have h2 : ¬ ((k : Int) + 1 > IntKind.i64.max) := by rw [hmax]; omega
            have h2' : ¬ (IntKind.i64.max < (k : Int) + 1) := by rw [hmax]; omega
            have h3 : ¬ ((k : Int) + 1 = 0) := by omega
            have hva : (variablesAt ⟨L.b, L.p + o, none⟩ el (k + 1)).run P w = .ok true w := by
              simp only [variablesAt, Sem.run_bind, run_program, Result.andThen_ok, run_shape, shape_of hg, Sem.run_pure, c2', c3', Nat.div_one]
              rw [liesAt_self c3' _ _ _ (by omega)]
            have htn : ((k : Int) + 1).toNat = k + 1 := by omega
            rw [ustr_def]; simp [asInt, asIntOf, h0, h1, h2', h3, elemOf, run_underlying hu, htn, hva, hld]
            omega
          · have := VRel.str (P := P) (ι := ι) ⟨(ns.map fun n => UInt8.ofNat n.toNat).toArray⟩
            simpa using this
          · intro F' g' hF; exact hs.bd F' g' hF
        · cases hv
      · cases hv
    · cases hv
  · cases hv

theorem sliceData_rel {F g o s n : Nat} {c : Option Nat} {y : Value} {ts : Array TypeId} {ty : TypeId} (hn : n ≠ 0) (hx : VRel P ι (.slc F g o s n c) y) : Gives P ι w (Builtin.unsafeSliceData_ ts ty #[y]) (.ptr F g o (n * s)) := by
  cases hx with
  | slc hi hs hnk hm hN hc hu ha =>
    have ha' := ha (by omega)
    subst ha'
    exact Gives.of (.ptr hi hm) (Lib.run_unsafeSliceData_row w ts ty _ _ _ (by omega))

theorem cap_rel {t e : TypeId} {c : Nat} {x : AV} {y : Value} {ts : Array TypeId} {ty : TypeId} (h0 : ts[0]? = some t) (ht : P.underlying t = some (.slice e)) (hc : capOf x = some c) (hx : VRel P ι x y) : Gives P ι w (Builtin.cap_ ts ty #[y]) (.int .i64 (c : Int)) := by
  unfold capOf at hc
  split at hc
  · cases hc
    cases hx
    exact Gives.of (.int .i64 _) (by simp [Builtin.cap_, h0, run_underlying ht, goInt])
  · rename_i c'
    subst hc
    cases hx with
    | slc hi hs hnk hm hN hcc hu ha =>
      obtain ⟨rfl, _⟩ := hcc _ rfl
      exact Gives.of (.int .i64 _) (by simp [Builtin.cap_, h0, run_underlying ht, goInt])
  · cases hc

theorem min_rel {k k' : IntKind} {a b : Int} {ts : Array TypeId} {ty : TypeId} : Gives P ι w (Builtin.min_ ts ty #[.int k a, .int k' b]) (.int k (match decide (b < a) with | true => b | false => a)) := by
  refine Gives.of (.int k _) ?_
  by_cases hb : b < a <;> simp [Builtin.min_, Builtin.min2, hb]
theorem max_rel {k k' : IntKind} {a b : Int} {ts : Array TypeId} {ty : TypeId} : Gives P ι w (Builtin.max_ ts ty #[.int k a, .int k' b]) (.int k (match decide (a < b) with | true => b | false => a)) := by
  refine Gives.of (.int k _) ?_
  by_cases hb : a < b <;> simp [Builtin.max_, Builtin.max2, hb]

end
end Go.Ai
