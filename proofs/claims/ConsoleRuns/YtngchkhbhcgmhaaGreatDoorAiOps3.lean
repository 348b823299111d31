/- A part of the proof of ConsoleRuns: AiOps3. -/
import Derived.Test.YtngchkhbhcgmhaaGreatDoorAiOps2
set_option linter.unusedVariables false
set_option linter.unusedSimpArgs false
set_option linter.unusedSectionVars false
set_option linter.unnecessarySimpa false
/- Operations on numbers, texts, aggregates and places. -/
namespace Go.Ai

section
variable {P : Program} {ι κ : Emb} {w w' : World} {h h' : H}

/-- a value, and the world as it was -/
def Gives (P : Program) (ι : Emb) (w : World) (s : Sem Value) (v : AV) : Prop := ∃ x, s.run P w = .ok x w ∧ VRel P ι v x

theorem Gives.of {s : Sem Value} {v : AV} {x : Value} (hv : VRel P ι v x) (hx : s.run P w = .ok x w) : Gives P ι w s v := ⟨x, hx, hv⟩

theorem intOp_rel {op : BinOp} {k : IntKind} {a b : Int} {v : AV} (hv : intOp op k a b = some v) (hs1 : op ≠ .shl) (hs2 : op ≠ .shr) (t : TypeId) :
    Gives P ι w (binOp op t (.int k a) (.int k b)) v := by
  cases op <;> simp only [intOp, Option.some.injEq, reduceCtorEq] at hv <;> first
    | (subst hv; exact Gives.of (.int _ _) (by simp only [binOp, ne_eq, not_true_eq_false, if_false, Op.intArith, Op.intBits, Op.intCmp, Sem.run_pure]))
    | (subst hv; exact Gives.of (.bool _) (by simp only [binOp, ne_eq, not_true_eq_false, if_false, Op.intArith, Op.intBits, Op.intCmp, Sem.run_pure]))
    | (split at hv
       · cases hv
       · rename_i hb
         cases hv
         have hb' : b ≠ 0 := by simpa using hb
         exact Gives.of (.int _ _) (by simp only [binOp, ne_eq, not_true_eq_false, if_false, Op.intDiv, hb', Sem.run_pure]))

theorem strLess_rel (s u : ByteArray) : strLess s.data.toList.length (packL s.data.toList) u.data.toList.length (packL u.data.toList) = Op.bytesLess s.toList u.toList := by
  unfold strLess
  rw [unpack_pack, unpack_pack, ByteArray.toList_eq, ByteArray.toList_eq]

theorem beq_toList (s u : ByteArray) : (s.toList == u.toList) = (Nat.beq s.data.toList.length u.data.toList.length && Nat.beq (packL s.data.toList) (packL u.data.toList)) := by
  rw [← beq_toListBytes, packed_beq]

theorem strOp_rel {op : BinOp} {s u : ByteArray} {v : AV} (hv : strOp op s.data.toList.length (packL s.data.toList) u.data.toList.length (packL u.data.toList) = some v) (t : TypeId) :
    Gives P ι w (binOp op t (.string s) (.string u)) v := by
  unfold strOp at hv
  cases op <;> simp only [reduceCtorEq] at hv <;> first
    | (cases hv; done)
    | (cases hv; refine Gives.of (.bool _) ?_; simp only [binOp, Op.stringOp, Sem.run_pure, strLess_rel, ← beq_toList]; done)
    | skip
  split at hv
  · rename_i hle
    cases hv
    have hle' : s.data.toList.length + u.data.toList.length ≤ 1000000000000 := Nat.le_of_ble_eq_true hle
    have e1 : s.size = s.data.toList.length := rfl
    have e2 : u.size = u.data.toList.length := rfl
    have hmax : IntKind.i64.max = 9223372036854775807 := by decide
    have hno : ¬ (((s.size + u.size : Nat) : Int) > IntKind.i64.max) := by rw [hmax, e1, e2]; omega
    refine ⟨.string (s ++ u), by simp only [binOp, Op.stringOp, hno, if_false, Sem.run_pure], ?_⟩
    have hd : (s ++ u).data.toList = s.data.toList ++ u.data.toList := by simp
    refine str_rel _ ?_ ?_
    · rw [hd, List.length_append]; rfl
    · rw [hd, pack_append]
      show packL s.data.toList + packL u.data.toList <<< (8 * s.data.toList.length) = _
      rw [Nat.shiftLeft_eq]
  · cases hv

/-- what cannot be an integer or a text -/
def nonBin : AV → Bool
  | .int .. | .str .. | .junk => false
  | _ => true

theorem binOp_eql {v1 v2 : AV} {x y : Value} (hx : VRel P ι v1 x) (hy : VRel P ι v2 y) (h1 : nonBin v1 = true ∨ (nonBin v2 = true ∧ v1 ≠ .junk)) (h2 : v2 ≠ .junk) (t : TypeId) {b : Bool} (he : (Op.equalIn Op.maxDepth t x y).run P w = .ok b w) :
    (binOp .eql t x y).run P w = .ok (.bool b) w ∧ (binOp .neq t x y).run P w = .ok (.bool !b) w := by
  have he' : (Op.equal t x y).run P w = .ok b w := he
  cases hx <;> cases hy <;> simp [nonBin, strOf] at h1 h2 <;> (constructor <;> simp [binOp, he'])

theorem bin_rel (hr : HRel P h.obj ι w) {op : BinOp} {t : TypeId} {v1 v2 v : AV} {x y : Value} (hv : binA P h op t v1 v2 = some v) (hx : VRel P ι v1 x) (hy : VRel P ι v2 y) :
    Gives P ι w (binOp op t x y) v := by
  unfold binA at hv
  split at hv
  · rename_i k a k' b
    cases hx; cases hy
    split at hv
    · split at hv
      · cases hv
      · rename_i hb
        cases hv
        have hb' : ¬ b < 0 := by simpa using hb
        exact Gives.of (.int _ _) (by simp only [binOp, Op.shift, hb', if_false, Sem.run_pure])
    · split at hv
      · cases hv
      · rename_i hb
        cases hv
        have hb' : ¬ b < 0 := by simpa using hb
        exact Gives.of (.int _ _) (by simp only [binOp, Op.shift, hb', if_false, Sem.run_pure])
    · rename_i n1 n2
      split at hv
      · rename_i hk
        have hk' : k = k' := by simpa using hk
        subst hk'
        exact intOp_rel hv (fun e => n1 e) (fun e => n2 e) t
      · cases hv
  · rename_i l a m b
    obtain ⟨s, rfl, rfl, rfl⟩ := str_inv hx
    obtain ⟨u, rfl, rfl, rfl⟩ := str_inv hy
    exact strOp_rel hv t
  · cases hv
  · cases hv
  · cases hv
  · cases hv
  · cases hv
  · cases hv
  · have hn : nonBin v1 = true ∨ (nonBin v2 = true ∧ v1 ≠ .junk) := by
      left
      cases v1 <;> simp_all [nonBin]
    have hj : v2 ≠ .junk := by rintro rfl; simp_all
    split at hv
    · split at hv
      · rename_i b hb
        cases hv
        exact ⟨_, (binOp_eql hx hy hn hj t (eqA_rel hr 100 t v1 v2 b x y hb hx hy _ (by decide))).1, .bool _⟩
      · cases hv
    · split at hv
      · rename_i b hb
        cases hv
        exact ⟨_, (binOp_eql hx hy hn hj t (eqA_rel hr 100 t v1 v2 b x y hb hx hy _ (by decide))).2, .bool _⟩
      · cases hv
    · cases hv

theorem guard_rel {op : BinOp} {t : TypeId} {x y : Operand} {v1 v2 : AV} {a b : Value} (hg : guardOk P op t x y v1 v2 = true) (hx : VRel P ι v1 a) (hy : VRel P ι v2 b) (hj1 : v1 ≠ .junk) (hj2 : v2 ≠ .junk) :
    (eqGuard op t x y a b).run P w = .ok () w := by
  have hop : op = .eql ∨ op = .neq ∨ (op ≠ .eql ∧ op ≠ .neq) := by cases op <;> simp
  have hc : ∀ u : Operand, isConst u = true → (match u with | .const _ => true | _ => false) = true := by intro u hu; cases u <;> simp [isConst] at hu ⊢
  rcases hop with e | e | ⟨n1, n2⟩
  · subst e
    simp only [guardOk] at hg
    cases hx <;> first | exact absurd rfl hj1 | skip
    all_goals (cases hy <;> first | exact absurd rfl hj2 | skip)
    all_goals first
      | (simp [eqGuard]; done)
      | skip
    · simp only [Bool.or_eq_true] at hg
      cases x <;> cases y <;> simp [isConst] at hg <;> simp [eqGuard]
    · simp at hg
      simp [eqGuard, hg]
  · subst e
    simp only [guardOk] at hg
    cases hx <;> first | exact absurd rfl hj1 | skip
    all_goals (cases hy <;> first | exact absurd rfl hj2 | skip)
    all_goals first
      | (simp [eqGuard]; done)
      | skip
    · simp only [Bool.or_eq_true] at hg
      cases x <;> cases y <;> simp [isConst] at hg <;> simp [eqGuard]
    · simp at hg
      simp [eqGuard, hg]
  · cases op <;> simp at n1 n2 <;> simp [eqGuard]

theorem un_rel {op : UnOp} {v1 v : AV} {x : Value} (hv : unA op v1 = some v) (hx : VRel P ι v1 x) : Gives P ι w (Op.unary op x) v := by
  unfold unA at hv
  split at hv
  · cases hx
    simp only [intOp, Option.some.injEq] at hv
    subst hv
    exact Gives.of (.int _ _) (by simp only [Op.unary, Op.intArith, Sem.run_pure])
  · rename_i k n
    cases hx
    cases hs : k.signed
    · rw [hs] at hv
      simp only [intOp, Option.some.injEq] at hv
      subst hv
      exact Gives.of (.int _ _) (by simp only [Op.unary, Op.intBits, Sem.run_pure, hs, Bool.false_eq_true, if_false])
    · rw [hs] at hv
      simp only [intOp, Option.some.injEq] at hv
      subst hv
      exact Gives.of (.int _ _) (by simp only [Op.unary, Op.intBits, Sem.run_pure, hs, if_true])
  · cases hx
    cases hv
    exact Gives.of (.bool _) (by simp only [Op.unary, Sem.run_pure])
  · cases hv

end
end Go.Ai
