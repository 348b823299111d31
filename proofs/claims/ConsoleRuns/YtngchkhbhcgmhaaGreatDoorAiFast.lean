/- A part of the proof of ConsoleRuns: AiFast. -/
import Derived.Test.YtngchkhbhcgmhaaGreatDoorAiDef
set_option linter.unusedVariables false
set_option linter.unusedSimpArgs false
set_option linter.unusedSectionVars false
set_option linter.unnecessarySimpa false
/- The interpreter once more, as the kernel runs it fast: with what follows handed on, and recursors in the open. Definitions alone. -/
namespace Go.Ai

inductive Ans where
  | no | yes

/-! Small words. -/
noncomputable abbrev oK {α : Type} (x : Option α) (k : α → Ans) : Ans := @Option.rec α (fun _ => Ans) .no k x
noncomputable abbrev bK (b : Bool) (k : Ans) : Ans := @Bool.rec (fun _ => Ans) .no k b
noncomputable abbrev bE (b : Bool) (t f : Ans) : Ans := @Bool.rec (fun _ => Ans) f t b
/-- a number made a numeral -/
noncomputable abbrev frc (n : Nat) (k : Nat → Ans) : Ans := @Nat.rec (fun _ => Ans) (k 0) (fun m _ => k (Nat.succ m)) n

/-! Places in a tree. -/
inductive Pa | z | l (p : Pa) | r (p : Pa)

noncomputable def paF : Nat → Nat → Pa := @Nat.rec (fun _ => Nat → Pa) (fun _ => .z) (fun _ ih n => @Nat.rec (fun _ => Pa) .z (fun m _ => @Bool.rec (fun _ => Pa) (.r (ih (Nat.div m 2))) (.l (ih (Nat.div m 2))) (Nat.beq (Nat.mod m 2) 0)) n)
noncomputable def pa (n : Nat) : Pa := paF (Nat.succ n) n

noncomputable def getP {α : Type} : Pa → Tr α → (α → Ans) → Ans := @Pa.rec (fun _ => Tr α → (α → Ans) → Ans)
  (fun t k => @Tr.rec α (fun _ => Ans) .no (fun _ x _ _ _ => @Option.rec α (fun _ => Ans) .no k x) t)
  (fun _ ih t k => @Tr.rec α (fun _ => Ans) .no (fun l _ _ _ _ => ih l k) t)
  (fun _ ih t k => @Tr.rec α (fun _ => Ans) .no (fun _ _ r _ _ => ih r k) t)

noncomputable def setP {α : Type} : Pa → α → Tr α → (Tr α → Ans) → Ans := @Pa.rec (fun _ => α → Tr α → (Tr α → Ans) → Ans)
  (fun v t k => @Tr.rec α (fun _ => Ans) (k (.nd .lf (some v) .lf)) (fun l _ r _ _ => k (.nd l (some v) r)) t)
  (fun _ ih v t k => @Tr.rec α (fun _ => Ans) (ih v .lf (fun l' => k (.nd l' none .lf))) (fun l x r _ _ => ih v l (fun l' => k (.nd l' x r))) t)
  (fun _ ih v t k => @Tr.rec α (fun _ => Ans) (ih v .lf (fun r' => k (.nd .lf none r'))) (fun l x r _ _ => ih v r (fun r' => k (.nd l x r'))) t)

/-! A list, as a tree. -/
noncomputable def alt {α : Type} : List α → Bool → List α := @List.rec α (fun _ => Bool → List α) (fun _ => []) (fun x _ ih b => @Bool.rec (fun _ => List α) (ih true) (x :: ih false) b)
noncomputable def ofLF {α : Type} : Nat → List α → Tr α := @Nat.rec (fun _ => List α → Tr α) (fun _ => .lf) (fun _ ih l => @List.rec α (fun _ => Tr α) .lf (fun x r _ => .nd (ih (alt r true)) (some x) (ih (alt r false))) l)
noncomputable def ofL {α : Type} (l : List α) : Tr α := ofLF 64 l

/-! Looks at a value. -/
noncomputable def ptrD : AV → (Nat → Nat → Nat → Nat → Ans) → Ans := @AV.rec (fun _ => (Nat → Nat → Nat → Nat → Ans) → Ans) (fun _ => Unit)
  (fun _ _ => .no) (fun _ _ _ => .no) (fun _ _ _ => .no) (fun F g o e k => k F g o e) (fun _ => .no) (fun _ _ _ _ _ _ _ => .no) (fun _ => .no) (fun _ _ => .no) (fun _ => .no) (fun _ _ _ _ _ _ => .no) (fun _ => .no) (fun _ _ _ _ => .no) (fun _ => .no)
  (fun _ _ _ => .no) (fun _ _ _ => .no) (fun _ _ => .no) (fun _ => .no) () (fun _ _ _ _ => ())
noncomputable def tupD : AV → (List AV → Ans) → Ans := @AV.rec (fun _ => (List AV → Ans) → Ans) (fun _ => Unit)
  (fun _ _ => .no) (fun _ _ _ => .no) (fun _ _ _ => .no) (fun _ _ _ _ _ => .no) (fun _ => .no) (fun _ _ _ _ _ _ _ => .no) (fun _ => .no) (fun _ _ => .no) (fun _ => .no) (fun _ _ _ _ _ _ => .no) (fun _ => .no) (fun _ _ _ _ => .no) (fun _ => .no)
  (fun _ _ _ => .no) (fun l _ k => k l) (fun _ _ => .no) (fun _ => .no) () (fun _ _ _ _ => ())
noncomputable def boolD : AV → Ans → Ans → Ans := @AV.rec (fun _ => Ans → Ans → Ans) (fun _ => Unit)
  (fun b t f => @Bool.rec (fun _ => Ans) f t b) (fun _ _ _ _ => .no) (fun _ _ _ _ => .no) (fun _ _ _ _ _ _ => .no) (fun _ _ => .no) (fun _ _ _ _ _ _ _ _ => .no) (fun _ _ => .no) (fun _ _ _ => .no) (fun _ _ => .no) (fun _ _ _ _ _ _ _ => .no) (fun _ _ => .no) (fun _ _ _ _ _ => .no) (fun _ _ => .no)
  (fun _ _ _ _ => .no) (fun _ _ _ _ => .no) (fun _ _ _ => .no) (fun _ _ => .no) () (fun _ _ _ _ => ())
/-- a whole number, a text, or else -/
noncomputable def isD : AV → (IntKind → Int → Ans) → (Nat → Nat → Ans) → Ans → Ans := @AV.rec (fun _ => (IntKind → Int → Ans) → (Nat → Nat → Ans) → Ans → Ans) (fun _ => Unit)
  (fun _ _ _ e => e) (fun k n i _ _ => i k n) (fun l b _ s _ => s l b) (fun _ _ _ _ _ _ e => e) (fun _ _ e => e) (fun _ _ _ _ _ _ _ _ e => e) (fun _ _ e => e) (fun _ _ _ e => e) (fun _ _ e => e) (fun _ _ _ _ _ _ _ e => e) (fun _ _ e => e) (fun _ _ _ _ _ e => e) (fun _ _ e => e)
  (fun _ _ _ _ e => e) (fun _ _ _ _ e => e) (fun _ _ _ e => e) (fun _ _ e => e) () (fun _ _ _ _ => ())
/-- a slice, none, a text, or else -/
noncomputable def slD : AV → (Nat → Nat → Nat → Nat → Nat → Option Nat → Ans) → Ans → (Nat → Nat → Ans) → Ans → Ans := @AV.rec (fun _ => (Nat → Nat → Nat → Nat → Nat → Option Nat → Ans) → Ans → (Nat → Nat → Ans) → Ans → Ans) (fun _ => Unit)
  (fun _ _ _ _ e => e) (fun _ _ _ _ _ e => e) (fun l b _ _ s _ => s l b) (fun _ _ _ _ _ _ _ e => e) (fun _ _ _ e => e) (fun F g o s n c k _ _ _ => k F g o s n c) (fun _ z _ _ => z) (fun _ _ _ _ e => e) (fun _ _ _ e => e) (fun _ _ _ _ _ _ _ _ e => e) (fun _ _ _ e => e) (fun _ _ _ _ _ _ e => e) (fun _ _ _ e => e)
  (fun _ _ _ _ _ e => e) (fun _ _ _ _ _ e => e) (fun _ _ _ _ e => e) (fun _ _ _ e => e) () (fun _ _ _ _ => ())
/-- none of the values with parts? -/
noncomputable def flatB : AV → Bool := @AV.rec (fun _ => Bool) (fun _ => Unit)
  (fun _ => true) (fun _ _ => true) (fun _ _ => true) (fun _ _ _ _ => true) true (fun _ _ _ _ _ _ => true) true (fun _ => true) true (fun _ _ _ _ _ => true) true (fun _ _ _ => true) true
  (fun _ _ => false) (fun _ _ => false) (fun _ => true) false () (fun _ _ _ _ => ())

/-- a run's program, its functions and types once more as trees -/
structure Ev where
  P : Program
  X : Cx
  N : Nat
  ft : Tr Func
  tt : Tr TypeInfo
  hf : ∀ n fn, ft.get n = some fn → P.funcs[n]? = some fn
  ht : ∀ t i, tt.get t = some i → P.info? t = some i

def tszT (T : Tr TypeInfo) (t : TypeId) : Option Nat := (T.get t).map (·.size)
def tbyT (T : Tr TypeInfo) (t : TypeId) : Option Nat := (T.get t).map (·.bytes)
def tzeroT (T : Tr TypeInfo) (t : TypeId) : Option AV := (T.get t).bind fun i => i.zero.bind (ofV 8)
def undT (T : Tr TypeInfo) (t : TypeId) : Option TypeDesc := match T.get t with
  | some i => match i.desc with
    | .named _ u => (T.get u).map (·.desc)
    | d => some d
  | none => none
def aggT (T : Tr TypeInfo) (t : TypeId) : Option Bool := match undT T t with
  | some (.struct _) => some true
  | some (.array _ _) => some true
  | some _ => some false
  | none => none
def intT (T : Tr TypeInfo) (t : TypeId) : Bool := match undT T t with
  | some (.int _) => true
  | _ => false
def placeT (T : Tr TypeInfo) (fs : List Field) (i : Nat) : Option (Nat × Nat) := match fieldsAt fs i with
  | some f => match tszT T f.type with
    | some n => some (f.offset, n)
    | none => none
  | none => none

abbrev OpTy := Ev → Tr AV → H → (AV → H → Ans) → (AR → Ans) → Ans

noncomputable def evK : Operand → Ev → Tr AV → (AV → Ans) → Ans := @Operand.rec (fun _ => Ev → Tr AV → (AV → Ans) → Ans)
  (fun n _ t k => getP (pa n) t k)
  (fun v _ _ k => oK (ofV 8 v) k)
  (fun g E _ k => oK (ev E.P .lf (.global g)) k)
  (fun f _ _ k => k (.fn (.func f) [] []))

noncomputable def evLK : List Operand → Ev → Tr AV → (List AV → Ans) → Ans := @List.rec Operand (fun _ => Ev → Tr AV → (List AV → Ans) → Ans)
  (fun _ _ k => k [])
  (fun x _ ih E t k => evK x E t (fun v => ih E t (fun l => k (v :: l))))

/-- a value handed on; else as it is -/
noncomputable def disp (kv : AV → H → Ans) (kr : AR → Ans) : AR → Ans := @AR.rec (fun _ => Ans) (fun v h => kv v h) (fun f a h => kr (.enter f a h)) (fun f a h => kr (.defer f a h)) (fun v h => kr (.panic v h)) (fun h => kr (.recover h))
noncomputable def slowK (op : Op) : OpTy := fun E t h kv kr => oK (opA E.P E.X h (ev E.P t) op) (disp kv kr)

noncomputable def moveK (x : Operand) : OpTy := fun E t h kv kr => evK x E t (fun v => kv v h)
noncomputable def pickK (c a b : Operand) : OpTy := fun E t h kv kr => evK c E t (fun v => boolD v (evK a E t (fun v => kv v h)) (evK b E t (fun v => kv v h)))

/-- a whole number that is none below zero -/
noncomputable def natD : AV → (Nat → Ans) → Ans := fun v k => isD v (fun _ n => @Int.rec (fun _ => Ans) k (fun _ => .no) n) (fun _ _ => .no) .no

/-- how a type is read: one cell, or so many -/
def rdT (T : Tr TypeInfo) (t : TypeId) : Option (Option Nat) := match tszT T t, aggT T t with
  | some n, some true => some (some n)
  | some _, some false => some none
  | _, _ => none

noncomputable def objK (h : H) (F : Nat) (k : Nat → Tr AO → AO → Ans) : Ans := @H.rec (fun _ => Ans) (fun nx t => getP (pa F) t (fun o => k nx t o)) h
noncomputable def cellsD : AO → (Fam → Ans) → Ans := @AO.rec (fun _ => (Fam → Ans) → Ans) (fun f k => k f) (fun _ _ _ => .no) (fun _ _ _ _ _ => .no) (fun _ _ _ _ => .no)

noncomputable def ldNK (c : Tr AV) : Nat → Nat → (List AV → Ans) → Ans := @Nat.rec (fun _ => Nat → (List AV → Ans) → Ans)
  (fun _ k => k []) (fun _ ih o k => getP (pa o) c (fun v => frc (Nat.succ o) (fun o' => ih o' (fun l => k (v :: l)))))

noncomputable def loadVarK (E : Ev) (h : H) (ty : TypeId) (p : AV) (k : AV → Ans) : Ans := ptrD p (fun F g o e => oK (rdT E.tt ty) (fun r => objK h F (fun _ _ ob => cellsD ob (fun f =>
  @Fam.rec (fun _ => Ans) (fun _ _ gen low _ _ _ _ _ c => bK (Nat.ble low g) (bK (Nat.ble g gen)
    (@Option.rec Nat (fun _ => Ans) (bK (Nat.ble 1 e) (getP (pa o) c k)) (fun n => bK (Nat.ble n e) (ldNK c n o (fun l => k (.agg l)))) r))) f))))

noncomputable def loadK (ty : TypeId) (x : Operand) : OpTy := fun E t h kv kr => evK x E t (fun p => loadVarK E h ty p (fun v => kv v h))

/-- cells laid one behind the other -/
noncomputable def stLK : List AV → Tr AV → Nat → (Tr AV → Nat → Ans) → Ans := @List.rec AV (fun _ => Tr AV → Nat → (Tr AV → Nat → Ans) → Ans)
  (fun c o k => k c o) (fun v _ ih c o k => setP (pa o) v c (fun c' => frc (Nat.succ o) (fun o' => ih c' o' k)))
/-- the cells of a value, if it is one with parts -/
noncomputable def aggD : AV → (List AV → Ans) → Ans → Ans := @AV.rec (fun _ => (List AV → Ans) → Ans → Ans) (fun _ => Unit)
  (fun _ _ e => e) (fun _ _ _ e => e) (fun _ _ _ e => e) (fun _ _ _ _ _ e => e) (fun _ e => e) (fun _ _ _ _ _ _ _ e => e) (fun _ e => e) (fun _ _ e => e) (fun _ e => e) (fun _ _ _ _ _ _ e => e) (fun _ e => e) (fun _ _ _ _ e => e) (fun _ e => e)
  (fun l _ k _ => k l) (fun _ _ _ e => e) (fun _ _ e => e) (fun _ _ => .no) () (fun _ _ _ _ => ())
noncomputable def allFlat : List AV → Bool := @List.rec AV (fun _ => Bool) true (fun v _ ih => @Bool.rec (fun _ => Bool) false ih (flatB v))
noncomputable def lenL : List AV → Nat := @List.rec AV (fun _ => Nat) 0 (fun _ _ n => Nat.succ n)
/-- a family of one generation more, or changed -/
noncomputable def putF (nx : Nat) (tr : Tr AO) (F : Nat) (f : Fam) (k : H → Ans) : Ans := setP (pa F) (.cells f) tr (fun tr' => k ⟨nx, tr'⟩)
/-- a store of cells through the last generation -/
noncomputable def store1 (h : H) (F g o n : Nat) (st : Tr AV → (Tr AV → Ans) → Ans) (k : H → Ans) : Ans := objK h F (fun nx tr ob => cellsD ob (fun f =>
  @Fam.rec (fun _ => Ans) (fun elem sz gen low old frz sg ro fix c => bK (Nat.beq g gen) (bK (Nat.ble frz o) (bK (Nat.ble (Nat.add o n) sz) (bE ro .no (bK (Nat.ble low g)
    (st c (fun c' => bE (Nat.ble old o) (putF nx tr F ⟨elem, sz, gen, low, old, frz, sg, ro, fix, c'⟩ k) (putF nx tr F ⟨elem, sz, gen, gen, 0, frz, sg, ro, fix, c'⟩ k)))))))) f))
noncomputable def storeK (ty : TypeId) (a x : Operand) : OpTy := fun E t h kv kr => evK a E t (fun p => evK x E t (fun v => ptrD p (fun F g o e => oK (tszT E.tt ty) (fun n => bK (Nat.ble n e)
  (aggD v (fun l => bK (Nat.beq (lenL l) n) (bK (allFlat l) (store1 h F g o n (fun c k => stLK l c o (fun c' _ => k c')) (fun h' => kv .undef h'))))
    (bK (flatB v) (bK (Nat.beq n 1) (store1 h F g o 1 (fun c k => setP (pa o) v c k) (fun h' => kv .undef h'))))))))) 

noncomputable def nilCheckK (x : Operand) : OpTy := fun E t h kv kr => evK x E t (fun v => @AV.rec (fun _ => Ans → Ans) (fun _ => Unit)
  (fun _ e => e) (fun _ _ e => e) (fun _ _ e => e) (fun _ _ _ _ _ => kv v h) (fun e => e) (fun _ _ _ _ _ _ e => e) (fun e => e) (fun _ e => e) (fun e => e) (fun _ _ _ _ _ e => e) (fun e => e) (fun _ _ _ e => e) (fun e => e)
  (fun _ _ e => e) (fun _ _ e => e) (fun _ e => e) (fun e => e) () (fun _ _ _ _ => ()) v (oK (nilCheckA v) (fun v => kv v h)))

/-- a field's place and size -/
def fldA (T : Tr TypeInfo) (t : TypeId) (i : Nat) : Option (Nat × Nat) := match undT T t with
  | some (.struct fs) => match fieldsAt fs.toList i with
    | some f => match tszT T f.type with
      | some n => match Nat.beq n 0 with
        | false => some (f.offset, n)
        | true => none
      | none => none
    | none => none
  | _ => none

noncomputable def fieldAddrK (ty : TypeId) (x : Operand) (i : Nat) : OpTy := fun E t h kv kr => evK x E t (fun p => ptrD p (fun F g o e => oK (fldA E.tt ty i) (fun q =>
  @Prod.rec Nat Nat (fun _ => Ans) (fun off n => bK (Nat.ble (Nat.add off n) e) (frc (Nat.add o off) (fun o' => kv (.ptr F g o' n) h))) q)))

/-- the cells of a slice's element -/
def slT (T : Tr TypeInfo) (t : TypeId) : Option Nat := match undT T t with
  | some (.slice e) => tszT T e
  | _ => none
def isStr (T : Tr TypeInfo) (t : TypeId) : Bool := match undT T t with
  | some .string => true
  | _ => false

noncomputable def indexAddrK (ty : TypeId) (x i : Operand) : OpTy := fun E t h kv kr => evK x E t (fun v => evK i E t (fun j =>
  slD v (fun F g o s n _ => oK (slT E.tt ty) (fun s' => bK (Nat.beq s s') (natD j (fun j => bK (Nat.blt j n) (frc (Nat.add o (Nat.mul j s)) (fun o' => kv (.ptr F g o' s) h))))))
    .no (fun _ _ => .no) (oK (indexAddrA E.P ty v j) (fun v => kv v h))))

noncomputable def indexK (ty : TypeId) (x i : Operand) : OpTy := fun E t h kv kr => evK x E t (fun v => evK i E t (fun j =>
  slD v (fun _ _ _ _ _ _ => .no) .no (fun l b => bK (isStr E.tt ty) (natD j (fun j => bK (Nat.blt j l) (frc (Nat.mod (Nat.shiftRight b (Nat.mul 8 j)) 256) (fun c => kv (.int .u8 (Int.ofNat c)) h)))))
    (oK (indexA E.P ty v j) (fun v => kv v h))))

noncomputable def kn : IntKind → Nat := @IntKind.rec (fun _ => Nat) 0 1 2 3 4 5 6 7
/-- the greatest of a kind -/
noncomputable def kmax : IntKind → Nat := @IntKind.rec (fun _ => Nat) 127 32767 2147483647 9223372036854775807 255 65535 4294967295 18446744073709551615

noncomputable def iLt (a b : Int) : Bool := @Int.rec (fun _ => Bool) (fun m => @Int.rec (fun _ => Bool) (fun n => Nat.blt m n) (fun _ => false) b) (fun m => @Int.rec (fun _ => Bool) (fun _ => true) (fun n => Nat.blt n m) b) a
noncomputable def iEq (a b : Int) : Bool := @Int.rec (fun _ => Bool) (fun m => @Int.rec (fun _ => Bool) (fun n => Nat.beq m n) (fun _ => false) b) (fun m => @Int.rec (fun _ => Bool) (fun _ => false) (fun n => Nat.beq m n) b) a
noncomputable def bNot (b : Bool) : Bool := @Bool.rec (fun _ => Bool) true false b

abbrev ArTy := IntKind → Int → Int → Ans → (AV → Ans) → Ans
/-- two that are none below zero, else the slow way -/
noncomputable def nat2 (a b : Int) (s : Ans) (k : Nat → Nat → Ans) : Ans := @Int.rec (fun _ => Ans) (fun m => @Int.rec (fun _ => Ans) (fun n => k m n) (fun _ => s) b) (fun _ => s) a
noncomputable def addK : ArTy := fun kd a b s k => nat2 a b s (fun m n => frc (Nat.add m n) (fun r => bE (Nat.ble r (kmax kd)) (k (.int kd (Int.ofNat r))) s))
noncomputable def subK : ArTy := fun kd a b s k => nat2 a b s (fun m n => bE (Nat.ble n m) (frc (Nat.sub m n) (fun r => bE (Nat.ble r (kmax kd)) (k (.int kd (Int.ofNat r))) s)) s)
noncomputable def mulK : ArTy := fun kd a b s k => nat2 a b s (fun m n => frc (Nat.mul m n) (fun r => bE (Nat.ble r (kmax kd)) (k (.int kd (Int.ofNat r))) s))
noncomputable def yesK (b : Bool) (k : AV → Ans) : Ans := bE b (k (.bool true)) (k (.bool false))
noncomputable def arK : BinOp → ArTy := @BinOp.rec (fun _ => ArTy) addK subK mulK (fun _ _ _ s _ => s) (fun _ _ _ s _ => s) (fun _ _ _ s _ => s) (fun _ _ _ s _ => s) (fun _ _ _ s _ => s) (fun _ _ _ s _ => s) (fun _ _ _ s _ => s) (fun _ _ _ s _ => s)
  (fun _ a b _ k => yesK (iEq a b) k) (fun _ a b _ k => yesK (bNot (iEq a b)) k) (fun _ a b _ k => yesK (iLt a b) k) (fun _ a b _ k => yesK (bNot (iLt b a)) k) (fun _ a b _ k => yesK (iLt b a) k) (fun _ a b _ k => yesK (bNot (iLt a b)) k)
abbrev StTy := Nat → Nat → Nat → Nat → Ans → (AV → Ans) → Ans
noncomputable def sEq (l a m b : Nat) : Bool := @Bool.rec (fun _ => Bool) false (Nat.beq a b) (Nat.beq l m)
noncomputable def stK : BinOp → StTy := @BinOp.rec (fun _ => StTy) (fun _ _ _ _ s _ => s) (fun _ _ _ _ s _ => s) (fun _ _ _ _ s _ => s) (fun _ _ _ _ s _ => s) (fun _ _ _ _ s _ => s) (fun _ _ _ _ s _ => s) (fun _ _ _ _ s _ => s) (fun _ _ _ _ s _ => s) (fun _ _ _ _ s _ => s) (fun _ _ _ _ s _ => s) (fun _ _ _ _ s _ => s)
  (fun l a m b _ k => yesK (sEq l a m b) k) (fun l a m b _ k => yesK (bNot (sEq l a m b)) k) (fun _ _ _ _ s _ => s) (fun _ _ _ _ s _ => s) (fun _ _ _ _ s _ => s) (fun _ _ _ _ s _ => s)

noncomputable def binSlow (E : Ev) (h : H) (op : BinOp) (ty : TypeId) (x y : Operand) (a b : AV) (k : AV → Ans) : Ans := bK (guardOk E.P op ty x y a b) (oK (binA E.P h op ty a b) k)
noncomputable def binOpK (op : BinOp) (ty : TypeId) (x y : Operand) (_ : TypeId) : OpTy := fun E t h kv kr => evK x E t (fun a => evK y E t (fun b =>
  isD a
    (fun k m => isD b (fun k' n => bE (Nat.beq (kn k) (kn k')) (arK op k m n (binSlow E h op ty x y a b (fun v => kv v h)) (fun v => kv v h)) (binSlow E h op ty x y a b (fun v => kv v h))) (fun _ _ => .no) .no)
    (fun l p => isD b (fun _ _ => .no) (fun m q => stK op l p m q (binSlow E h op ty x y a b (fun v => kv v h)) (fun v => kv v h)) .no)
    (binSlow E h op ty x y a b (fun v => kv v h))))

noncomputable def unOpK (op : UnOp) (ty : TypeId) (x : Operand) : OpTy := fun E t h kv kr => evK x E t (fun a => oK (unA op a) (fun v => kv v h))

noncomputable def nthK : Nat → List AV → (AV → Ans) → Ans := @Nat.rec (fun _ => List AV → (AV → Ans) → Ans)
  (fun l k => @List.rec AV (fun _ => Ans) .no (fun v _ _ => k v) l) (fun _ ih l k => @List.rec AV (fun _ => Ans) .no (fun _ r _ => ih r k) l)
noncomputable def extractK (x : Operand) (i : Nat) : OpTy := fun E t h kv kr => evK x E t (fun v => tupD v (fun l => nthK i l (fun v => kv v h)))

/-- a new object -/
noncomputable def newK (h : H) (o : AO) (k : Nat → H → Ans) : Ans := @H.rec (fun _ => Ans) (fun nx t => frc nx (fun nx => setP (pa nx) o t (fun t' => frc (Nat.succ nx) (fun nx' => k nx ⟨nx', t'⟩)))) h
noncomputable def boxK' (h : H) (ty : TypeId) (v : AV) (kv : AV → H → Ans) : Ans :=
  aggD v (fun l => stLK l .lf 0 (fun c n => newK h (.cells ⟨ty, n, 0, 0, 0, 0, false, false, true, c⟩) (fun F h' => kv (.ptr F 0 0 n) h')))
    (newK h (.cells ⟨ty, 1, 0, 0, 0, 0, false, false, true, .nd .lf (some v) .lf⟩) (fun F h' => kv (.ptr F 0 0 1) h'))
noncomputable def allocK (ty : TypeId) : OpTy := fun E _ h kv kr => oK (tzeroT E.tt ty) (fun z => boxK' h ty z kv)
noncomputable def boxK (ty : TypeId) (x : Operand) : OpTy := fun E t h kv kr => evK x E t (fun v => boxK' h ty v kv)

noncomputable def optN (o : Option Operand) (E : Ev) (t : Tr AV) (d : Nat) (k : Nat → Ans) : Ans := @Option.rec Operand (fun _ => Ans) (k d) (fun x => evK x E t (fun v => natD v k)) o
noncomputable def capIn (n : Nat) (c : Option Nat) (m : Nat) : Bool := @Option.rec Nat (fun _ => Bool) (Nat.ble m n) (fun c => Nat.ble m c) c
noncomputable def capSub (c : Option Nat) (l : Nat) (k : Option Nat → Ans) : Ans := @Option.rec Nat (fun _ => Ans) (k none) (fun c => frc (Nat.sub c l) (fun c => k (some c))) c
noncomputable def sliceK (ty : TypeId) (x : Operand) (lo hi mx : Option Operand) : OpTy := fun E t h kv kr => @Option.rec Operand (fun _ => Ans)
  (evK x E t (fun v => optN lo E t 0 (fun l => slD v
    (fun F g o s n c => optN hi E t n (fun m => oK (slT E.tt ty) (fun s' => bK (Nat.beq s s') (bK (Nat.ble l m) (bE (capIn n c m)
      (frc (Nat.add o (Nat.mul l s)) (fun o' => frc (Nat.sub m l) (fun n' => capSub c l (fun c' => kv (.slc F g o' s n' c') h))))
      (slowK (.slice ty x lo hi mx) E t h kv kr))))))
    (slowK (.slice ty x lo hi mx) E t h kv kr)
    (fun n b => optN hi E t n (fun m => bK (isStr E.tt ty) (bK (Nat.ble l m) (bK (Nat.ble m n)
      (frc (Nat.sub m l) (fun n' => frc (Nat.mod (Nat.shiftRight b (Nat.mul 8 l)) (Nat.pow 2 (Nat.mul 8 n'))) (fun b' => kv (.str n' b') h)))))))
    (slowK (.slice ty x lo hi mx) E t h kv kr))))
  (fun _ => slowK (.slice ty x lo hi mx) E t h kv kr) mx

/-- parts, each with its number -/
noncomputable def evPK : List (Nat × Operand) → Ev → Tr AV → (List (Nat × AV) → Ans) → Ans := @List.rec (Nat × Operand) (fun _ => Ev → Tr AV → (List (Nat × AV) → Ans) → Ans)
  (fun _ _ k => k [])
  (fun q _ ih E t k => @Prod.rec Nat Operand (fun _ => Ans) (fun i x => evK x E t (fun v => ih E t (fun l => k ((i, v) :: l)))) q)
/-- cells over the first of a list's -/
noncomputable def preK : List AV → List AV → (List AV → Ans) → Ans := @List.rec AV (fun _ => List AV → (List AV → Ans) → Ans)
  (fun cs k => k cs) (fun v _ ih cs k => @List.rec AV (fun _ => Ans) .no (fun _ cs' _ => ih cs' (fun r => k (v :: r))) cs)
/-- cells at a place of a list -/
noncomputable def putK (vs : List AV) : Nat → List AV → (List AV → Ans) → Ans := @Nat.rec (fun _ => List AV → (List AV → Ans) → Ans)
  (fun cs k => preK vs cs k) (fun _ ih cs k => @List.rec AV (fun _ => Ans) .no (fun c cs' _ => ih cs' (fun r => k (c :: r))) cs)
noncomputable def cellsL (v : AV) : List AV := @AV.rec (fun _ => List AV) (fun _ => Unit)
  (fun _ => [v]) (fun _ _ => [v]) (fun _ _ => [v]) (fun _ _ _ _ => [v]) [v] (fun _ _ _ _ _ _ => [v]) [v] (fun _ => [v]) [v] (fun _ _ _ _ _ => [v]) [v] (fun _ _ _ => [v]) [v]
  (fun l _ => l) (fun _ _ => [v]) (fun _ => [v]) [v] () (fun _ _ _ _ => ()) v
noncomputable def fillK (place : Nat → Option (Nat × Nat)) : List (Nat × AV) → List AV → (List AV → Ans) → Ans := @List.rec (Nat × AV) (fun _ => List AV → (List AV → Ans) → Ans)
  (fun cs k => k cs)
  (fun q _ ih cs k => @Prod.rec Nat AV (fun _ => Ans) (fun i v => oK (place i) (fun p => @Prod.rec Nat Nat (fun _ => Ans) (fun off size => bK (Nat.beq (lenL (cellsL v)) size) (putK (cellsL v) off cs (fun cs' => ih cs' k))) p)) q)
noncomputable def noJunkK : List (Nat × AV) → Bool := @List.rec (Nat × AV) (fun _ => Bool) true (fun q _ ih => @AV.rec (fun _ => Bool) (fun _ => Unit)
  (fun _ => ih) (fun _ _ => ih) (fun _ _ => ih) (fun _ _ _ _ => ih) ih (fun _ _ _ _ _ _ => ih) ih (fun _ => ih) ih (fun _ _ _ _ _ => ih) ih (fun _ _ _ => ih) ih
  (fun _ _ => ih) (fun _ _ => ih) (fun _ => ih) false () (fun _ _ _ _ => ()) q.2)
/-- how a struct is built: its zero's cells, its fields -/
def bldT (T : Tr TypeInfo) (t : TypeId) : Option (List AV × List Field) := match tzeroT T t, undT T t with
  | some z, some (.struct fs) => match fs.toList.all fun f => (tszT T f.type).isSome with
    | true => some (z.cells, fs.toList)
    | false => none
  | _, _ => none
noncomputable def buildK (ty : TypeId) (ps : Array (Nat × Operand)) : OpTy := fun E t h kv kr => @Option.rec (List AV × List Field) (fun _ => Ans) (slowK (.build ty ps) E t h kv kr)
  (fun q => @Prod.rec (List AV) (List Field) (fun _ => Ans) (fun zc fs => evPK ps.toList E t (fun l => bK (noJunkK l) (fillK (placeT E.tt fs) l zc (fun cs => kv (.agg cs) h)))) q) (bldT E.tt ty)
/-- how a slice is built: element, its size, its zero's cells -/
def bslT (T : Tr TypeInfo) (t : TypeId) : Option (TypeId × Nat × List AV) := match undT T t with
  | some (.slice el) => match tszT T el, tzeroT T el with
    | some s, some z => match Nat.beq z.cells.length s && Nat.ble 1 s with
      | true => some (el, s, z.cells)
      | false => none
    | _, _ => none
  | _ => none
noncomputable def buildSliceK (ty : TypeId) (n : Nat) (ps : Array (Nat × Operand)) : OpTy := fun E t h kv kr => oK (bslT E.tt ty) (fun q => @Prod.rec TypeId (Nat × List AV) (fun _ => Ans) (fun el q => @Prod.rec Nat (List AV) (fun _ => Ans) (fun s zc =>
  bK (Nat.ble (Nat.mul n s) 1000000) (evPK ps.toList E t (fun l => bK (noJunkK l) (fillK (fun i => some (Nat.mul i s, s)) l (replicateL zc n) (fun cs =>
    stLK cs .lf 0 (fun c m => newK h (.cells ⟨el, m, 0, 0, 0, 0, false, false, true, c⟩) (fun F h' => kv (.slc F 0 0 s n (some n)) h'))))))) q) q)

/-- how an append stands: element, its size and bytes, its zero's cells, zeros alone? -/
inductive ApT | mk (e sz by_ : Nat) (zc : List AV) (zs : Bool)
def apT (T : Tr TypeInfo) (t u : TypeId) : Option ApT := match undT T u, undT T t with
  | some _, some (.slice e) => match tszT T e, tbyT T e, tzeroT T e with
    | some sz, some by_, some z => match Nat.ble 1 sz && Nat.beq z.cells.length sz with
      | true => some (.mk e sz by_ z.cells (intT T u))
      | false => none
    | _, _, _ => none
  | _, _ => none
noncomputable def appK (h : H) (e sz by_ : Nat) (s : AV) (n : Nat) (new : List AV) (kv : AV → H → Ans) (slow : Ans) : Ans := bE (Nat.beq n 0) slow (bK (allFlat new) (slD s
  (fun F g o s' len c => @Option.rec Nat (fun _ => Ans)
    (bK (Nat.beq s' sz) (bK (Nat.ble (Nat.mul (Nat.add n len) (Nat.succ by_)) big) (objK h F (fun nx tr ob => cellsD ob (fun f =>
      @Fam.rec (fun _ => Ans) (fun elem fsz gen low old frz sg ro fix c => bK (Nat.ble low g) (bE (Nat.beq g gen) (bK (Nat.beq elem e) (frc (Nat.add o (Nat.mul len sz)) (fun at_ => bK (Nat.ble frz at_) (bE ro .no
        (frc (Nat.add len n) (fun len' => bE (Nat.ble (Nat.add at_ (lenL new)) fsz)
          (stLK new c at_ (fun c' _ => bE (Nat.ble old at_) (putF nx tr F ⟨elem, fsz, gen, low, old, frz, sg, ro, fix, c'⟩ (fun h' => kv (.slc F g o sz len' none) h')) (putF nx tr F ⟨elem, fsz, gen, gen, 0, frz, sg, ro, fix, c'⟩ (fun h' => kv (.slc F g o sz len' none) h'))))
          (bE (Nat.beq at_ fsz) (bE (Nat.beq o 0) (stLK new c fsz (fun c' sz' => frc (Nat.succ gen) (fun g' => putF nx tr F ⟨elem, sz', g', low, fsz, frz, sg, ro, false, c'⟩ (fun h' => kv (.slc F g' o sz len' none) h')))) slow) slow))))))) slow)) f)))))
    (fun _ => slow) c)
  (bK (Nat.ble (Nat.mul n (Nat.succ by_)) big) (stLK new .lf 0 (fun c m => newK h (.cells ⟨e, m, 0, 0, 0, 0, false, false, false, c⟩) (fun F h' => kv (.slc F 0 0 sz n none) h'))))
  (fun _ _ => slow) slow))
noncomputable def aliveK (h : H) (F g : Nat) (k : Tr AV → Ans) : Ans := objK h F (fun _ _ ob => cellsD ob (fun f => @Fam.rec (fun _ => Ans) (fun _ _ gen low _ _ _ _ _ c => bK (Nat.ble low g) (bK (Nat.ble g gen) (k c))) f))
noncomputable def appendK (args : Array Operand) (ts : Array TypeId) (c : Call) : OpTy := fun E t h kv kr => @List.rec Operand (fun _ => Ans) .no (fun sx r _ => @List.rec Operand (fun _ => Ans) .no (fun xx r _ => @List.rec Operand (fun _ => Ans)
    (@List.rec TypeId (fun _ => Ans) .no (fun ty r _ => @List.rec TypeId (fun _ => Ans) .no (fun u r _ => @List.rec TypeId (fun _ => Ans)
      (evK sx E t (fun s => evK xx E t (fun x => oK (apT E.tt ty u) (fun a => @ApT.rec (fun _ => Ans) (fun e sz by_ zc zs => bE zs
          (natD x (fun n => appK h e sz by_ s n (replicateL zc n) kv (slowK (.call c) E t h kv kr)))
          (slD x (fun F g o s' n _ => bK (Nat.beq s' sz) (aliveK h F g (fun cs => ldNK cs (Nat.mul n sz) o (fun l => appK h e sz by_ s n l kv (slowK (.call c) E t h kv kr)))))
            (slowK (.call c) E t h kv kr) (fun _ _ => slowK (.call c) E t h kv kr) (slowK (.call c) E t h kv kr))) a))))
      (fun _ _ _ => .no) r) r) ts.toList)
    (fun _ _ _ => .no) r) r) args.toList

/-- a function called as it stands -/
noncomputable def fnD : AV → (FuncId → List AV → List AV → Ans) → Ans := @AV.rec (fun _ => (FuncId → List AV → List AV → Ans) → Ans) (fun _ => Unit)
  (fun _ _ => .no) (fun _ _ _ => .no) (fun _ _ _ => .no) (fun _ _ _ _ _ => .no) (fun _ => .no) (fun _ _ _ _ _ _ _ => .no) (fun _ => .no) (fun _ _ => .no) (fun _ => .no) (fun f a b _ _ k => @Fn.rec (fun _ => Ans) (fun f => k f a b) (fun _ => .no) (fun _ _ => .no) (fun _ _ _ _ => .no) (fun _ => .no) f) (fun _ => .no) (fun _ _ _ _ => .no) (fun _ => .no)
  (fun _ _ _ => .no) (fun _ _ _ => .no) (fun _ _ => .no) (fun _ => .no) () (fun _ _ _ _ => ())

noncomputable def isNilL (l : List AV) (t f : Ans) : Ans := @List.rec AV (fun _ => Ans) t (fun _ _ _ => f) l
noncomputable def callFK (E : Ev) (h : H) (k : FuncId) (args : List AV) (kv : AV → H → Ans) (kr : AR → Ans) : Ans := @Option.rec Ext (fun _ => Ans) (kr (.enter k args h)) (fun x => oK (externA E.P x args h) (fun q => @Prod.rec AV H (fun _ => Ans) (fun v h => kv v h) q)) (E.X.ext k)
noncomputable def callVK (f : Operand) (args : Array Operand) : OpTy := fun E t h kv kr => evLK args.toList E t (fun l => @Operand.rec (fun _ => Ans)
  (fun n => getP (pa n) t (fun v => fnD v (fun k a b => isNilL a (isNilL b (callFK E h k l kv kr) (callFK E h k (l ++ b) kv kr)) (callFK E h k (a ++ (l ++ b)) kv kr))))
  (fun _ => .no) (fun _ => .no) (fun k => callFK E h k l kv kr) f)

/-- how a length is taken: 0: of a text, 1: of a slice, 2: else -/
def lenT (T : Tr TypeInfo) (t : TypeId) : Nat := match undT T t with
  | some .string => 0
  | some (.slice _) => 1
  | _ => 2
noncomputable def lenK (args : Array Operand) (ts : Array TypeId) (c : Call) : OpTy := fun E t h kv kr => @List.rec Operand (fun _ => Ans) .no (fun x r _ => @List.rec Operand (fun _ => Ans)
    (@List.rec TypeId (fun _ => Ans) .no (fun ty r _ => @List.rec TypeId (fun _ => Ans)
      (evK x E t (fun v => slD v (fun _ _ _ _ n _ => bE (Nat.beq (lenT E.tt ty) 1) (kv (.int .i64 (Int.ofNat n)) h) (slowK (.call c) E t h kv kr))
        (slowK (.call c) E t h kv kr)
        (fun l _ => bE (Nat.beq (lenT E.tt ty) 0) (kv (.int .i64 (Int.ofNat l)) h) (slowK (.call c) E t h kv kr))
        (slowK (.call c) E t h kv kr)))
      (fun _ _ _ => .no) r) ts.toList)
    (fun _ _ _ => .no) r) args.toList

/-- which builtins have a way of their own -/
def bltN (b : Builtin) : Nat := match b with
  | .len => 0
  | .append => 1
  | _ => 2
noncomputable def callK (c : Call) : OpTy := @Call.rec (fun _ => OpTy) (fun ce args ts => @Callee.rec (fun _ => OpTy) (fun f => callVK f args) (fun _ _ => slowK (.call c))
  (fun b => @Nat.rec (fun _ => OpTy) (lenK args ts c) (fun m _ => @Nat.rec (fun _ => OpTy) (appendK args ts c) (fun _ _ => slowK (.call c)) m) (bltN b)) ce) c

noncomputable def opK : Op → OpTy := @Op.rec (fun _ => OpTy) moveK moveK pickK allocK boxK buildK buildSliceK (fun t m k v => slowK (.insert t m k v)) loadK storeK (fun _ _ _ _ _ _ => .no) (fun _ _ _ _ _ _ => .no) nilCheckK
  binOpK unOpK (fun a b x => slowK (.convert a b x)) (fun _ _ _ _ _ _ _ => .no) (fun t x => slowK (.makeInterface t x)) (fun f a b => slowK (.makeFunc f a b)) (fun t r => slowK (.makeMap t r)) (fun _ _ _ _ _ _ _ => .no) (fun t l c => slowK (.makeSlice t l c))
  sliceK fieldAddrK (fun t x i => slowK (.field t x i)) indexAddrK indexK (fun t x i b => slowK (.lookup t x i b)) (fun t m k v => slowK (.mapUpdate t m k v)) (fun t m k => slowK (.mapEntry t m k)) (fun t m s v => slowK (.entryStore t m s v))
  (fun t x => slowK (.range t x)) (fun x b => slowK (.next x b)) (fun _ _ _ _ _ _ => .no) (fun x t a b => slowK (.typeAssert x t a b)) extractK callK (fun _ _ _ _ _ _ => .no) (fun c => slowK (.defer c)) (fun x => slowK (.panic x)) (fun _ _ _ _ _ _ _ => .no) (fun _ _ _ _ _ _ _ _ => .no) (fun _ _ _ _ _ _ _ => .no)

abbrev CK := FuncId → List AV → H → (ARes → H → Ans) → Ans
abbrev Ds := List (FuncId × List AV)
abbrev KN := Tr AV → Ds → H → Ans
abbrev KX := AExit → Tr AV → Ds → H → Ans

noncomputable def dstK (d : Option Tmp) (v : AV) (t : Tr AV) (k : Tr AV → Ans) : Ans := @Option.rec Tmp (fun _ => Ans) (k t) (fun d => setP (pa d) v t k) d
noncomputable def valK (dst : Option Tmp) (t : Tr AV) (ds : Ds) (kN : KN) (v : AV) (h : H) : Ans := dstK dst v t (fun t => kN t ds h)
noncomputable def upon (K : CK) (dst : Option Tmp) (t : Tr AV) (ds : Ds) (kN : KN) (kX : KX) : AR → Ans := @AR.rec (fun _ => Ans)
  (fun _ _ => .no)
  (fun f args h => K f args h (fun r h => @ARes.rec (fun _ => Ans) (fun v => valK dst t ds kN v h) (fun v => kX (.panic v) t ds h) r))
  (fun f args h => dstK dst .undef t (fun t => kN t ((f, args) :: ds) h))
  (fun v h => kX (.panic v) t ds h)
  (fun _ => .no)
/-- the temporary that a guard looks at -/
def gdT (ops : List Oper) (j : Nat) : Option Tmp := match ops[j]? with
  | some o => o.dst
  | none => none
/-- is an operation run? -/
noncomputable def wantK (all : List Oper) (g : Option (Nat × Bool)) (t : Tr AV) (y n : Ans) : Ans := @Option.rec (Nat × Bool) (fun _ => Ans) y
  (fun q => oK (gdT all q.1) (fun d => getP (pa d) t (fun v => @AV.rec (fun _ => Ans → Ans → Ans) (fun _ => Unit)
    (fun b y n => @Bool.rec (fun _ => Ans) (@Bool.rec (fun _ => Ans) y n q.2) (@Bool.rec (fun _ => Ans) n y q.2) b) (fun _ _ _ _ => .no) (fun _ _ _ _ => .no) (fun _ _ _ _ _ _ => .no) (fun _ _ => .no) (fun _ _ _ _ _ _ _ _ => .no) (fun _ _ => .no) (fun _ _ _ => .no) (fun _ _ => .no) (fun _ _ _ _ _ _ _ => .no) (fun _ _ => .no) (fun _ _ _ _ _ => .no) (fun _ _ => .no)
    (fun _ _ _ _ => .no) (fun _ _ _ n => n) (fun _ _ _ => .no) (fun _ _ => .no) () (fun _ _ _ _ => ()) v y n))) g
noncomputable def step1K (E : Ev) (K : CK) (all : List Oper) (o : Oper) (t : Tr AV) (ds : Ds) (h : H) (kN : KN) (kX : KX) : Ans := @Oper.rec (fun _ => Ans) (fun dst op _ _ _ g =>
  wantK all g t (opK op E t h (valK dst t ds kN) (upon K dst t ds kN kX)) (dstK dst .undef t (fun t => kN t ds h))) o
noncomputable def opsK (E : Ev) (K : CK) (all : List Oper) : List Oper → KN → KX → KN := @List.rec Oper (fun _ => KN → KX → KN)
  (fun kN _ t ds h => kN t ds h) (fun o _ ih kN kX t ds h => step1K E K all o t ds h (ih kN kX) kX)

/-- what a step of a drawn region gives -/
noncomputable def uponD (K : CK) (k : AV → H → Ans) : AR → Ans := @AR.rec (fun _ => Ans) (fun _ _ => .no)
  (fun f args h => K f args h (fun r h => @ARes.rec (fun _ => Ans) (fun v => k v h) (fun _ => .no) r)) (fun _ _ _ => .no) (fun _ _ => .no) (fun _ => .no)
noncomputable def valD (o : Oper) (dst : Option Tmp) (t : Tr AV) (h : H) (acc : List Item) (k : List Item → Tr AV → H → Ans) (v : AV) (h' : H) : Ans := dstK dst v t (fun t' => k (⟨o, t, h, h', true⟩ :: acc) t' h')
/-- the classes that are looked at as a region runs -/
def dynCls (a b : Cls) : Bool := match a, b with
  | .load, .hard => true
  | .load, .store => true
  | .hard, .load => true
  | .store, .load => true
  | .store, .store => true
  | .alloc, .store => true
  | .alloc, .load => true
  | _, _ => false
/-- the pairs of a region that are looked at as it runs -/
def notPure (P : Program) : List (Oper × Nat) → List (Oper × Nat × Cls)
  | [] => []
  | (o, i) :: l => match clsOf P o.op with
    | .pure => notPure P l
    | c => (o, i, c) :: notPure P l
def dynL (P : Program) (bm : List Nat) (ops : List Oper) : List (Nat × Nat) :=
  let l := notPure P ops.zipIdx
  l.flatMap fun q => (l.filter fun p => Nat.blt p.2.1 q.2.1 && dynCls p.2.2 q.2.2 && !Nat.testBit (bm.getD q.2.1 0) p.2.1).map fun p => (p.2.1, q.2.1)
def pairsT (P : Program) (ops : List Oper) : List (Nat × Nat) := dynL P (befores ops) ops
def pairOk (P : Program) (items : List Item) (i k : Nat) : Bool := match items[i]?, items[k]? with
  | some p, some q => dynPair P p q
  | _, _ => false
noncomputable def pairsK (P : Program) (acc : List Item) (k : Ans) : List (Nat × Nat) → Ans := @List.rec (Nat × Nat) (fun _ => Ans) k (fun q _ ih => bK (pairOk P acc.reverse q.1 q.2) ih)
/-- a reading of a drawn region's -/
noncomputable def readK (op : Op) (E : Ev) (t : Tr AV) (h : H) (k : AV → Ans) : Ans := oK (readA E.P h (ev E.P t) op) k
noncomputable def rdK (op : Op) : Ev → Tr AV → H → (AV → Ans) → Ans := match op with
  | .load ty x => fun E t h k => evK x E t (fun p => loadVarK E h ty p k)
  | op => fun E t h k => readK op E t h k
noncomputable def drStepK (E : Ev) (K : CK) (op : Op) (t : Tr AV) (h : H) (k : AV → H → Ans) : Ans := @Cls.rec (fun _ => Ans)
  (opK op E t (@H.rec (fun _ => H) (fun nx _ => ⟨nx, .lf⟩) h) (fun v _ => k v h) (fun _ => .no))
  (rdK op E t h (fun v => k v h))
  (opK op E t h k (uponD K k)) (opK op E t h k (uponD K k)) (opK op E t h k (uponD K k)) (clsOf E.P op)
noncomputable def drawK (E : Ev) (K : CK) (all : List Oper) (ps : List (Nat × Nat)) (kN : KN) (ds : Ds) : List Oper → List Item → Tr AV → H → Ans := @List.rec Oper (fun _ => List Item → Tr AV → H → Ans)
  (fun acc t h => pairsK E.P acc (kN t ds h) ps)
  (fun o _ ih acc t h => wantK all o.guard t
    (drStepK E K o.op t h (valD o o.dst t h acc ih))
    (dstK o.dst .undef t (fun t' => ih (⟨o, t, h, h, false⟩ :: acc) t' h)))
/-- bodies -/
noncomputable def codeK : Code → Ev → CK → KN → KX → KN := @Code.rec (fun _ => Ev → CK → KN → KX → KN)
  (fun _ _ kN _ t ds h => kN t ds h)
  (fun _ ops draw E K kN kX t ds h => bE draw (drawK E K ops.toList (pairsT E.P ops.toList) kN ds ops.toList [] t h) (opsK E K ops.toList ops.toList kN kX t ds h))
  (fun _ _ ihx ihy E K kN kX t ds h => ihx E K (fun t ds h => ihy E K kN kX t ds h) kX t ds h)
  (fun c _ _ ihx ihy E K kN kX t ds h => evK c E t (fun v => boolD v (ihx E K kN kX t ds h) (ihy E K kN kX t ds h)))
  (fun id _ ih E K kN kX t ds h => ih E K kN (fun e t ds h => @AExit.rec (fun _ => Ans) .no (fun i => bE (Nat.beq i id) (kN t ds h) (kX e t ds h)) (kX e t ds h) (fun _ => kX e t ds h) e) t ds h)
  (fun _ ih E K _ kX t ds h => @Nat.rec (fun _ => KN) (fun _ _ _ => .no) (fun _ rec t ds h => ih E K rec kX t ds h) E.N t ds h)
  (fun _ _ _ _ _ _ _ _ _ _ _ _ _ => .no)
  (fun id _ _ _ kX t ds h => kX (.exit id) t ds h)
  (fun _ _ _ _ _ _ _ _ _ => .no) (fun _ _ _ _ _ _ _ _ => .no) (fun _ _ _ _ _ _ _ _ => .no)
  (fun _ _ _ kX t ds h => kX .ret t ds h)
  (fun _ _ _ _ _ _ _ _ => .no)

noncomputable def argsK : List AV → Nat → Tr AV → (Tr AV → Ans) → Ans := @List.rec AV (fun _ => Nat → Tr AV → (Tr AV → Ans) → Ans)
  (fun _ t k => k t) (fun v _ ih n t k => setP (pa n) v t (fun t => ih (Nat.succ n) t k))
noncomputable def resK (E : Ev) (h : H) (t : Tr AV) : List ResultVar → (List AV → Ans) → Ans := @List.rec ResultVar (fun _ => (List AV → Ans) → Ans)
  (fun k => k []) (fun x _ ih k => @ResultVar.rec (fun _ => Ans) (fun d => getP (pa d) t (fun v => ih (fun l => k (v :: l)))) (fun d ty => getP (pa d) t (fun p => loadVarK E h ty p (fun v => ih (fun l => k (v :: l))))) x)
noncomputable def res1K (l : List AV) (k : AV → Ans) : Ans := @List.rec AV (fun _ => Ans) (k (.tup [])) (fun v r _ => @List.rec AV (fun _ => Ans) (k v) (fun _ _ _ => k (.tup l)) r) l

def fnOk (fn : Func) (n : Nat) : Option (Code × List ResultVar) := match fn.body with
  | some c => match Nat.ble n fn.ntmps with
    | true => some (c, fn.results.toList)
    | false => none
  | none => none
def fnAt (T : Tr Func) (f : FuncId) (n : Nat) : Option (Code × List ResultVar) := match T.get f with
  | some fn => fnOk fn n
  | none => none

abbrev SN := Bool → Tr AV → Ds → H → Ans
noncomputable def valS (dst : Option Tmp) (rc : Bool) (t : Tr AV) (ds : Ds) (kN : SN) (v : AV) (h : H) : Ans := dstK dst v t (fun t => kN rc t ds h)
noncomputable def uponS (K : CK) (pn : Option AV) (dst : Option Tmp) (rc : Bool) (t : Tr AV) (ds : Ds) (kN : SN) : AR → Ans := @AR.rec (fun _ => Ans)
  (fun _ _ => .no)
  (fun f args h => K f args h (fun r h => @ARes.rec (fun _ => Ans) (fun v => valS dst rc t ds kN v h) (fun _ => .no) r))
  (fun _ _ _ => .no)
  (fun _ _ => .no)
  (fun h => @Option.rec AV (fun _ => Ans) (dstK dst .nili t (fun t => kN rc t ds h)) (fun v => bE rc (dstK dst .nili t (fun t => kN rc t ds h)) (dstK dst v t (fun t => kN true t ds h))) pn)
noncomputable def opsSK (E : Ev) (K : CK) (pn : Option AV) (all : List Oper) : List Oper → SN → SN := @List.rec Oper (fun _ => SN → SN)
  (fun kN rc t ds h => kN rc t ds h) (fun o _ ih kN rc t ds h => oK (wantedA all t o) (fun b => bE b
    (@Oper.rec (fun _ => Ans) (fun dst op _ _ _ _ => opK op E t h (valS dst rc t ds (ih kN)) (uponS K pn dst rc t ds (ih kN))) o)
    (dstK o.dst .undef t (fun t => ih kN rc t ds h))))
abbrev SX := AExit → Bool → Tr AV → Ds → H → Ans
abbrev CodeS := Ev → CK → Option AV → SN → SX → SN
noncomputable def plainS (c : Code) : CodeS := fun E K _ kN kX rc t ds h => codeK c E K (fun t ds h => kN rc t ds h) (fun e t ds h => kX e rc t ds h) t ds h
noncomputable def codeSK : Code → CodeS := @Code.rec (fun _ => CodeS)
  (plainS .skip)
  (fun id ops draw E K pn kN kX rc t ds h => bE draw (plainS (.region id ops draw) E K pn kN kX rc t ds h) (bE (hasRec ops.toList) (opsSK E K pn ops.toList ops.toList kN rc t ds h) (plainS (.region id ops draw) E K pn kN kX rc t ds h)))
  (fun _ _ ihx ihy E K pn kN kX rc t ds h => ihx E K pn (fun rc t ds h => ihy E K pn kN kX rc t ds h) kX rc t ds h)
  (fun c x y _ _ => plainS (.cond c x y)) (fun id x _ => plainS (.block id x)) (fun x _ => plainS (.loop x)) (fun a b c d _ _ => plainS (.rangeFunc a b c d)) (fun i => plainS (.exit i)) (fun x _ => plainS (.scope x)) (fun l => plainS (.label l)) (fun l => plainS (.goto l))
  (plainS .ret) (fun y => plainS (.refuse y))

def fnAtD (T : Tr Func) (f : FuncId) (n : Nat) : Option Code := match T.get f with
  | some fn => match fn.body with
    | some c => match Nat.ble n fn.ntmps && Nat.beq fn.results.size 0 with
      | true => some c
      | false => none
    | none => none
  | none => none
noncomputable def nilDs (ds : Ds) (k : Ans) : Ans := @List.rec (FuncId × List AV) (fun _ => Ans) k (fun _ _ _ => .no) ds
noncomputable def callDK (E : Ev) (K : CK) (pn : Option AV) (f : FuncId) (args : List AV) (h : H) (k : Bool → H → Ans) : Ans := oK (fnAtD E.ft f (lenL args)) (fun c => argsK args 0 .lf (fun t =>
  codeSK c E K pn (fun rc t ds h => nilDs ds (k rc h)) (fun e rc t ds h => @AExit.rec (fun _ => Ans) .no (fun _ => .no) (nilDs ds (k rc h)) (fun _ => .no) e) false t [] h))

noncomputable def leaveK (E : Ev) (K : CK) (rs : List ResultVar) (kr : ARes → H → Ans) (t : Tr AV) : Ds → Option AV → H → Ans := @List.rec (FuncId × List AV) (fun _ => Option AV → H → Ans)
  (fun pn h => @Option.rec AV (fun _ => Ans) (resK E h t rs (fun l => res1K l (fun v => kr (.ret v) h))) (fun v => kr (.panic v) h) pn)
  (fun d _ ih pn h => @Prod.rec FuncId (List AV) (fun _ => Ans) (fun f args => callDK E K pn f args h (fun rc h => bE rc (ih none h) (ih pn h))) d)
noncomputable def callNK (E : Ev) : Nat → CK := @Nat.rec (fun _ => CK) (fun _ _ _ _ => .no)
  (fun _ ih f args h kr => @Option.rec (List AV → H → Option (ARes × H)) (fun _ => Ans)
    (oK (fnAt E.ft f (lenL args)) (fun q => @Prod.rec Code (List ResultVar) (fun _ => Ans) (fun c rs => argsK args 0 .lf (fun t =>
      codeK c E ih (fun t ds h => leaveK E ih rs kr t ds none h)
        (fun e t ds h => @AExit.rec (fun _ => Ans) .no (fun _ => .no) (leaveK E ih rs kr t ds none h) (fun v => leaveK E ih rs kr t ds (some v) h) e) t [] h)) q))
    (fun p => oK (p args h) (fun q => @Prod.rec ARes H (fun _ => Ans) kr q)) (E.X.prim f))
end Go.Ai
