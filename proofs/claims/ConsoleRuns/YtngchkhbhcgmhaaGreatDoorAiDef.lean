/- A part of the proof of ConsoleRuns: AiDef. -/
import Derived.Recover
import Derived.LoopN
import Derived.Orders
/- A deterministic interpreter over the model's code, for evaluation by the kernel: values, memory, operations, code, calls. Definitions alone. -/
namespace Go.Ai

/-! A persistent map from numbers. -/
inductive Tr (α : Type) : Type where
  | lf
  | nd (l : Tr α) (x : Option α) (r : Tr α)

def Tr.get {α : Type} : Tr α → Nat → Option α
  | .lf, _ => none
  | .nd l x r, n => match n with
    | 0 => x
    | m + 1 => match Nat.beq (Nat.mod m 2) 0 with
      | true => l.get (Nat.div m 2)
      | false => r.get (Nat.div m 2)

def Tr.setF {α : Type} (x : α) : Nat → Tr α → Nat → Tr α
  | 0, t, _ => t
  | k + 1, .lf, n => match n with
    | 0 => .nd .lf (some x) .lf
    | m + 1 => match Nat.beq (Nat.mod m 2) 0 with
      | true => .nd (Tr.setF x k .lf (Nat.div m 2)) none .lf
      | false => .nd .lf none (Tr.setF x k .lf (Nat.div m 2))
  | k + 1, .nd l y r, n => match n with
    | 0 => .nd l (some x) r
    | m + 1 => match Nat.beq (Nat.mod m 2) 0 with
      | true => .nd (Tr.setF x k l (Nat.div m 2)) y r
      | false => .nd l y (Tr.setF x k r (Nat.div m 2))

def Tr.set {α : Type} (t : Tr α) (n : Nat) (x : α) : Tr α := Tr.setF x (Nat.succ n) t n

/-! Values. -/
inductive AV where
  | bool (b : Bool)
  | int (k : IntKind) (n : Int)
  | str (l b : Nat)
  | ptr (F g o e : Nat)
  | nilp
  | slc (F g o s n : Nat) (c : Option Nat)
  | nils
  | map (F : Nat)
  | nilm
  | fn (f : Fn) (first captured : List AV)
  | nilf
  | ifc (t : TypeId) (v : AV)
  | nili
  | agg (l : List AV)
  | tup (l : List AV)
  | th (t : TypeId)
  | junk
  deriving Inhabited

def AV.undef : AV := .tup []
def AV.cells : AV → List AV
  | .agg l => l
  | v => [v]

def packL : List UInt8 → Nat
  | [] => 0
  | x :: l => Nat.add x.toNat (Nat.mul 256 (packL l))
def unpackL : Nat → Nat → List UInt8
  | 0, _ => []
  | n + 1, b => UInt8.ofNat (Nat.mod b 256) :: unpackL n (Nat.div b 256)
def strOf (l : List UInt8) : AV := .str l.length (packL l)

def ofV : Nat → Value → Option AV
  | 0, _ => none
  | n + 1, v => match v with
    | .bool b => some (.bool b)
    | .int k n => some (.int k n)
    | .string s => some (strOf s.data.toList)
    | .pointer none => some .nilp
    | .slice none 0 0 => some .nils
    | .map none => some .nilm
    | .nilFunc => some .nilf
    | .nilIface => some .nili
    | .agg cs => (cs.toList.mapM (ofV n)).map .agg
    | .tuple cs => (cs.toList.mapM (ofV n)).map .tup
    | _ => none

structure Fam where
  elem : TypeId
  sz : Nat
  gen : Nat
  low : Nat
  old : Nat
  frz : Nat
  sg : Bool
  ro : Bool
  fix : Bool
  c : Tr AV

inductive AO where
  | cells (f : Fam)
  | map (es : List (AV × AV × Nat)) (clock : Nat)
  | mapIter (m : Option Nat) (since : Nat) (seen : List Nat) (stepped : Nat)
  | strIter (l b p : Nat)

structure H where
  nx : Nat
  t : Tr AO

def H0 : H := ⟨0, .lf⟩
def H.obj (h : H) (F : Nat) : Option AO := h.t.get F
def H.new (h : H) (o : AO) : H := ⟨Nat.succ h.nx, h.t.set h.nx o⟩
def H.put (h : H) (F : Nat) (o : AO) : H := ⟨h.nx, h.t.set F o⟩

/-- the family of a place that is alive -/
def H.fam (h : H) (F g : Nat) : Option Fam := match h.obj F with
  | some (.cells f) => match Nat.ble f.low g with
    | true => match Nat.ble g f.gen with
      | true => some f
      | false => none
    | false => none
  | _ => none

def ldN (c : Tr AV) : Nat → Nat → Option (List AV)
  | _, 0 => some []
  | o, n + 1 => match c.get o with
    | some v => match ldN c (Nat.succ o) n with
      | some l => some (v :: l)
      | none => none
    | none => none

def stL (c : Tr AV) (o : Nat) : List AV → Tr AV
  | [] => c
  | v :: l => stL (c.set o v) (Nat.succ o) l

def H.load (h : H) (F g o n : Nat) : Option (List AV) := match h.fam F g with
  | some f => ldN f.c o n
  | none => none

/-- what a store makes of a family -/
def Fam.store (f : Fam) (o : Nat) (vs : List AV) : Fam := match Nat.ble f.old o with
  | true => { f with c := stL f.c o vs }
  | false => { f with c := stL f.c o vs, low := f.gen, old := 0 }

/-- a store through the last generation -/
def H.store (h : H) (F g o : Nat) (vs : List AV) : Option H := match h.fam F g with
  | some f => match Nat.beq g f.gen, Nat.ble f.frz o, Nat.ble (Nat.add o vs.length) f.sz, f.ro with
    | true, true, true, false => some (h.put F (.cells (f.store o vs)))
    | _, _, _, _ => none
  | none => none

def mkFam (elem : TypeId) (vs : List AV) : Fam :=
  { elem, sz := vs.length, gen := 0, low := 0, old := 0, frz := 0, sg := false, ro := false, fix := true, c := stL .lf 0 vs }

def chk : Bool → Option Unit
  | true => some ()
  | false => none

def big : Nat := 1000000000000

section
variable (P : Program)

def tsz (t : TypeId) : Option Nat := (P.info? t).map (·.size)
def tby (t : TypeId) : Option Nat := (P.info? t).map (·.bytes)
def tzero (t : TypeId) : Option AV := (P.info? t).bind fun i => i.zero.bind (ofV 8)
def tAgg (t : TypeId) : Option Bool := match P.underlying t with
  | some (.struct _) => some true
  | some (.array _ _) => some true
  | some _ => some false
  | none => none

def loadVarA (h : H) (t : TypeId) (p : AV) : Option AV := match p with
  | .ptr F g o e => match tsz P t, tAgg P t with
    | some n, some true => match Nat.ble n e with
      | true => match h.load F g o n with
        | some l => some (.agg l)
        | none => none
      | false => none
    | some _, some false => match Nat.ble 1 e with
      | true => match h.load F g o 1 with
        | some [v] => some v
        | _ => none
      | false => none
    | _, _ => none
  | _ => none

def flat : AV → Bool
  | .agg _ | .tup _ | .junk => false
  | _ => true

def storeVarA (h : H) (t : TypeId) (p v : AV) : Option H := match p with
  | .ptr F g o e => match tsz P t with
    | some n => match Nat.ble n e, Nat.beq v.cells.length n, v.cells.all flat with
      | true, true, true => h.store F g o v.cells
      | _, _, _ => none
    | none => none
  | _ => none

def replicateL (l : List AV) : Nat → List AV
  | 0 => []
  | n + 1 => l ++ replicateL l n

/-- put `vs` at `o` of a list -/
def putAt : List AV → Nat → List AV → Option (List AV)
  | cs, 0, [] => some cs
  | _ :: cs, 0, v :: vs => (putAt cs 0 vs).map (v :: ·)
  | [], 0, _ :: _ => none
  | c :: cs, o + 1, vs => (putAt cs o vs).map (c :: ·)
  | [], _ + 1, _ => none

def fillA (place : Nat → Option (Nat × Nat)) : List AV → List (Nat × AV) → Option (List AV)
  | cs, [] => some cs
  | cs, (i, v) :: rest => match place i with
    | some (off, size) => match Nat.beq v.cells.length size with
      | true => match putAt cs off v.cells with
        | some cs' => fillA place cs' rest
        | none => none
      | false => none
    | none => none

def fieldsAt : List Field → Nat → Option Field
  | [], _ => none
  | f :: _, 0 => some f
  | _ :: l, n + 1 => fieldsAt l n

def placeA (fs : List Field) (i : Nat) : Option (Nat × Nat) := match fieldsAt fs i with
  | some f => match tsz P f.type with
    | some n => some (f.offset, n)
    | none => none
  | none => none

def buildA (t : TypeId) (parts : List (Nat × AV)) : Option AV :=
  match tzero P t, P.underlying t with
  | some z, some (.struct fs) => match fs.toList.all fun f => (tsz P f.type).isSome with
    | true => (fillA (placeA P fs.toList) z.cells parts).map .agg
    | false => none
  | some z, some (.array _ e) => match tsz P e with
    | some n => (fillA (fun i => some (Nat.mul i n, n)) z.cells parts).map .agg
    | none => none
  | _, _ => none

def partA (t : TypeId) (cs : List AV) (off : Nat) : Option AV :=
  match tAgg P t, tsz P t with
  | some true, some n => some (.agg ((cs.drop off).take n))
  | some false, some _ => cs[off]?
  | _, _ => none

def eqStruct (eq : TypeId → AV → AV → Option Bool) (xs ys : List AV) : List Field → Option Bool
  | [] => some true
  | f :: fs => match f.name == "_" with
    | true => eqStruct eq xs ys fs
    | false => match partA P f.type xs f.offset, partA P f.type ys f.offset with
      | some a, some b => match eq f.type a b with
        | some true => eqStruct eq xs ys fs
        | some false => some false
        | none => none
      | _, _ => none

def eqArray (eq : TypeId → AV → AV → Option Bool) (e n : Nat) (xs ys : List AV) : List Nat → Option Bool
  | [] => some true
  | i :: l => match partA P e xs (Nat.mul i n), partA P e ys (Nat.mul i n) with
    | some a, some b => match eq e a b with
      | some true => eqArray eq e n xs ys l
      | some false => some false
      | none => none
    | _, _ => none

/-- equality -/
def eqA (h : H) : Nat → TypeId → AV → AV → Option Bool
  | 0, _, _, _ => none
  | d + 1, t, x, y => match P.underlying t, x, y with
    | some .bool, .bool a, .bool b => some (a == b)
    | some (.int _), .int k a, .int k' b => match decide (k = k') with
      | true => some (a == b)
      | false => none
    | some .string, .str l a, .str m b => some (Nat.beq l m && Nat.beq a b)
    | some (.pointer _), .nilp, .nilp => some true
    | some (.pointer _), .nilp, .ptr .. => some false
    | some (.pointer _), .ptr .., .nilp => some false
    | some (.pointer e), .ptr F g o _, .ptr F' g' o' _ => match tsz P e with
      | some 0 => none
      | some _ => match Nat.beq F F' with
        | true => match Nat.beq g g' with
          | true => some (Nat.beq o o')
          | false => none
        | false => match h.fam F g, h.fam F' g' with
          | some f, some f' => match Nat.beq f.frz 0 && !f.sg && Nat.beq f'.frz 0 && !f'.sg with
            | true => some false
            | false => none
          | _, _ => none
      | none => none
    | some (.interface _), .nili, .nili => some true
    | some (.interface _), .nili, .ifc .. => some false
    | some (.interface _), .ifc .., .nili => some false
    | some (.interface _), .ifc tx vx, .ifc ty vy => match Nat.beq tx ty with
      | false => some false
      | true => match (P.info? tx).map (·.comparable) with
        | some true => eqA h d tx vx vy
        | _ => none
    | some (.struct fs), .agg xs, .agg ys => match P.stoodInHeld t with
      | true => none
      | false => eqStruct P (eqA h d) xs ys fs.toList
    | some (.array len e), .agg xs, .agg ys => match tsz P e with
      | some n => eqArray P (eqA h d) e n xs ys (List.range len)
      | none => none
    | some (.slice _), .nils, .nils => some true
    | some (.slice _), .nils, .slc .. => some false
    | some (.slice _), .slc .., .nils => some false
    | some (.map _ _), .nilm, .nilm => some true
    | some (.map _ _), .nilm, .map _ => some false
    | some (.map _ _), .map _, .nilm => some false
    | some (.func _ _ _), .nilf, .nilf => some true
    | some (.func _ _ _), .nilf, .fn .. => some false
    | some (.func _ _ _), .fn .., .nilf => some false
    | _, _, _ => none

def sameL (eq : AV → AV → Bool) : List AV → List AV → Bool
  | [], [] => true
  | a :: l, b :: m => eq a b && sameL eq l m
  | _, _ => false

/-- the same by sight -/
def same : Nat → AV → AV → Bool
  | 0, _, _ => false
  | n + 1, a, b => match a, b with
    | .bool x, .bool y => x == y
    | .int k x, .int l y => decide (k = l) && x == y
    | .str l x, .str m y => Nat.beq l m && Nat.beq x y
    | .ptr a b c d, .ptr e f g h => Nat.beq a e && Nat.beq b f && Nat.beq c g && Nat.beq d h
    | .nilp, .nilp => true
    | .slc a b c d e f, .slc g h i j k l => Nat.beq a g && Nat.beq b h && Nat.beq c i && Nat.beq d j && Nat.beq e k && decide (f = l)
    | .nils, .nils => true
    | .map a, .map b => Nat.beq a b
    | .nilm, .nilm => true
    | .nilf, .nilf => true
    | .ifc t v, .ifc u w => Nat.beq t u && same n v w
    | .nili, .nili => true
    | .agg a, .agg c => sameL (same n) a c
    | .tup a, .tup c => sameL (same n) a c
    | .th a, .th b => Nat.beq a b
    | _, _ => false

def intOp (op : BinOp) (k : IntKind) (a b : Int) : Option AV :=
  match op with
  | .add => some (.int k (k.wrap (a + b)))
  | .sub => some (.int k (k.wrap (a - b)))
  | .mul => some (.int k (k.wrap (a * b)))
  | .quo => match decide (b = 0) with
    | true => none
    | false => some (.int k (k.wrap (a.tdiv b)))
  | .rem => match decide (b = 0) with
    | true => none
    | false => some (.int k (a.tmod b))
  | .and => some (.int k (k.wrap (BitVec.ofInt k.bits a &&& BitVec.ofInt k.bits b).toNat))
  | .or => some (.int k (k.wrap (BitVec.ofInt k.bits a ||| BitVec.ofInt k.bits b).toNat))
  | .xor => some (.int k (k.wrap (BitVec.ofInt k.bits a ^^^ BitVec.ofInt k.bits b).toNat))
  | .andNot => some (.int k (k.wrap (BitVec.ofInt k.bits a &&& ~~~ BitVec.ofInt k.bits b).toNat))
  | .eql => some (.bool (a == b))
  | .neq => some (.bool (a != b))
  | .lss => some (.bool (decide (a < b)))
  | .leq => some (.bool (decide (a ≤ b)))
  | .gtr => some (.bool (decide (a > b)))
  | .geq => some (.bool (decide (a ≥ b)))
  | _ => none

def strLess (l a m b : Nat) : Bool := Op.bytesLess (unpackL l a) (unpackL m b)

def strOp (op : BinOp) (l a m b : Nat) : Option AV :=
  match op with
  | .add => match Nat.ble (Nat.add l m) big with
    | true => some (.str (Nat.add l m) (Nat.add a (Nat.shiftLeft b (Nat.mul 8 l))))
    | false => none
  | .eql => some (.bool (Nat.beq l m && Nat.beq a b))
  | .neq => some (.bool !(Nat.beq l m && Nat.beq a b))
  | .lss => some (.bool (strLess l a m b))
  | .leq => some (.bool (strLess l a m b || (Nat.beq l m && Nat.beq a b)))
  | .gtr => some (.bool !(strLess l a m b || (Nat.beq l m && Nat.beq a b)))
  | .geq => some (.bool !(strLess l a m b))
  | _ => none

def isConst : Operand → Bool
  | .const _ => true
  | _ => false

def guardOk (op : BinOp) (t : TypeId) (x y : Operand) (a b : AV) : Bool :=
  match op with
  | .eql | .neq => match a, b with
    | .nili, .nili => isConst x || isConst y
    | .agg _, .agg _ => !P.eqGuardType P.depth t
    | _, _ => true
  | _ => true

def binA (h : H) (op : BinOp) (t : TypeId) (x y : AV) : Option AV :=
  match x, y with
  | .int k a, .int k' b => match op with
    | .shl => match decide (b < 0) with
      | true => none
      | false => some (.int k (k.wrap (a * 2 ^ (min b.toNat k.bits))))
    | .shr => match decide (b < 0) with
      | true => none
      | false => some (.int k (a.fdiv (2 ^ (min b.toNat k.bits))))
    | _ => match decide (k = k') with
      | true => intOp op k a b
      | false => none
  | .str l a, .str m b => strOp op l a m b
  | .int .., _ => none
  | .str .., _ => none
  | .junk, _ => none
  | _, .int .. => none
  | _, .str .. => none
  | _, .junk => none
  | x, y => match op with
    | .eql => match eqA P h 100 t x y with
      | some b => some (.bool b)
      | none => none
    | .neq => match eqA P h 100 t x y with
      | some b => some (.bool !b)
      | none => none
    | _ => none

def unA (op : UnOp) (x : AV) : Option AV :=
  match op, x with
  | .neg, .int k n => intOp .sub k 0 n
  | .xor, .int k n => intOp .xor k (match k.signed with | true => -1 | false => k.max) n
  | .not, .bool b => some (.bool !b)
  | _, _ => none

def asNat : AV → Option Nat
  | .int _ n => match n with
    | .ofNat m => some m
    | _ => none
  | _ => none

def strCut (b lo hi : Nat) : AV := .str (Nat.sub hi lo) (Nat.mod (Nat.shiftRight b (Nat.mul 8 lo)) (Nat.pow 2 (Nat.mul 8 (Nat.sub hi lo))))

/-- how far a slice may be cut: its capacity, if known, else what is known to lie there -/
def capA (h : H) (F g o s n : Nat) (c : Option Nat) : Nat := match c with
  | some c => c
  | none => match h.fam F g with
    | some f => match Nat.beq g f.gen with
      | true => Nat.max n (Nat.div (Nat.sub f.sz o) s)
      | false => n
    | none => n

def natOr (d : Nat) : Option AV → Option Nat
  | none => some d
  | some v => asNat v

def sliceA (h : H) (t : TypeId) (x : AV) (lo hi mx : Option AV) : Option AV :=
  match P.underlying t, x with
  | some .string, .str l b => match mx, natOr 0 lo, natOr l hi with
    | none, some lo, some hi => match Nat.ble lo hi && Nat.ble hi l with
      | true => some (strCut b lo hi)
      | false => none
    | _, _, _ => none
  | some (.slice e), .nils => match natOr 0 lo, natOr 0 hi, natOr 0 mx, tsz P e, mx.isSome && hi.isNone with
    | some 0, some 0, some 0, some _, false => some .nils
    | _, _, _, _, _ => none
  | some (.slice e), .slc F g o s n c => match tsz P e, natOr 0 lo, natOr n hi with
    | some s', some lo, some hi => match Nat.beq s s', mx with
      | true, none => match Nat.ble lo hi && Nat.ble hi (capA h F g o s n c) with
        | true => some (.slc F g (Nat.add o (Nat.mul lo s)) s (Nat.sub hi lo) (c.map fun c => Nat.sub c lo))
        | false => none
      | _, _ => none
    | _, _, _ => none
  | _, _ => none

/-- slices with three indexes, and pieces of arrays -/
def slice3A (h : H) (t : TypeId) (x : AV) (lo hi mx : Option AV) : Option AV :=
  match P.underlying t, x with
  | some (.slice e), .slc F g o s n c => match tsz P e, natOr 0 lo, hi.bind asNat, mx.bind asNat with
    | some s', some lo, some hi, some m => match Nat.beq s s' && Nat.ble lo hi && Nat.ble hi m && Nat.ble m (capA h F g o s n c) with
      | true => some (.slc F g (Nat.add o (Nat.mul lo s)) s (Nat.sub hi lo) (some (Nat.sub m lo)))
      | false => none
    | _, _, _, _ => none
  | some (.array n e), .ptr F g o ext => match tsz P e, natOr 0 lo, natOr n hi, mx with
    | some s, some lo, some hi, none => match Nat.ble lo hi && Nat.ble hi n && Nat.ble (Nat.mul n s) ext && Nat.ble 1 s with
      | true => some (.slc F g (Nat.add o (Nat.mul lo s)) s (Nat.sub hi lo) (some (Nat.sub n lo)))
      | false => none
    | _, _, _, _ => none
  | _, _ => none

def indexAddrA (t : TypeId) (x i : AV) : Option AV :=
  match P.underlying t, x, asNat i with
  | some (.slice e), .slc F g o s n _, some i => match tsz P e with
    | some s' => match Nat.beq s s' && Nat.blt i n with
      | true => some (.ptr F g (Nat.add o (Nat.mul i s)) s)
      | false => none
    | none => none
  | some (.array n e), .ptr F g o ext, some i => match tsz P e with
    | some s => match Nat.blt i n && Nat.ble (Nat.mul n s) ext with
      | true => some (.ptr F g (Nat.add o (Nat.mul i s)) s)
      | false => none
    | none => none
  | _, _, _ => none

def fieldAddrA (t : TypeId) (x : AV) (i : Nat) : Option AV :=
  match P.underlying t, x with
  | some (.struct fs), .ptr F g o ext => match fieldsAt fs.toList i with
    | some f => match tsz P f.type with
      | some n => match Nat.beq n 0, Nat.ble (Nat.add f.offset n) ext with
        | false, true => some (.ptr F g (Nat.add o f.offset) n)
        | _, _ => none
      | none => none
    | none => none
  | _, _ => none

def indexA (t : TypeId) (x i : AV) : Option AV :=
  match P.underlying t, x, asNat i with
  | some .string, .str l b, some i => match Nat.blt i l with
    | true => some (.int .u8 (Int.ofNat (Nat.mod (Nat.shiftRight b (Nat.mul 8 i)) 256)))
    | false => none
  | some (.array n e), .agg cs, some i => match tsz P e with
    | some s => match Nat.blt i n with
      | true => partA P e cs (Nat.mul i s)
      | false => none
    | none => none
  | _, _, _ => none

abbrev Ent := AV × AV × Nat

def keyArr (ok : TypeId → AV → Bool) (e s : Nat) (cs : List AV) : List Nat → Bool
  | [] => true
  | i :: l => match partA P e cs (Nat.mul i s) with
    | some a => ok e a && keyArr ok e s cs l
    | none => false

def keyStr (ok : TypeId → AV → Bool) (cs : List AV) : List Field → Bool
  | [] => true
  | f :: fs => match f.name == "_" with
    | true => keyStr ok cs fs
    | false => match partA P f.type cs f.offset with
      | some a => ok f.type a && keyStr ok cs fs
      | none => false

/-- keys that the model takes without a word -/
def keyOk : Nat → TypeId → AV → Bool
  | 0, _, _ => false
  | n + 1, t, v => match P.underlying t, v with
    | some (.array len e), .agg cs => match tsz P e with
      | some s => keyArr P (keyOk n) e s cs (List.range len)
      | none => false
    | some (.struct fs), .agg cs => keyStr P (keyOk n) cs fs.toList
    | some (.int _), _ => true
    | some .string, _ => true
    | some .bool, _ => true
    | some (.pointer _), _ => true
    | _, _ => false

/-- keys of one shape, bit for bit -/
def sameK : Nat → AV → AV → Bool
  | 0, _, _ => false
  | n + 1, a, b => match a, b with
    | .bool x, .bool y => x == y
    | .int k x, .int l y => decide (k = l) && x == y
    | .str l x, .str m y => Nat.beq l m && Nat.beq x y
    | .ptr a b c d, .ptr e f g h => Nat.beq a e && Nat.beq b f && Nat.beq c g && Nat.beq d h
    | .nilp, .nilp => true
    | .agg a, .agg c => sameL (sameK n) a c
    | _, _ => false

/-- where a key stands -/
def findA (h : H) (kt : TypeId) (k : AV) : List Ent → Nat → Option (Option (Nat × Ent))
  | [], _ => some none
  | e :: es, i => match eqA P h 100 kt k e.1 with
    | some true => match sameK 100 e.1 k with
      | true => some (some (i, e))
      | false => none
    | some false => findA h kt k es (Nat.succ i)
    | none => none

/-- a map's entries, and its clock -/
def mapOf (h : H) : AV → Option (List Ent × Nat)
  | .map F => match h.obj F with
    | some (.map es ck) => some (es, ck)
    | _ => none
  | _ => none

def okTup (ok : Bool) (v : AV) (b : Bool) : AV := match ok with
  | true => .tup [v, .bool b]
  | false => v

/-- a look-up: `hm` holds the map, `he` tells the keys apart -/
def lookupA (hm he : H) (t : TypeId) (x k : AV) (ok : Bool) : Option AV :=
  match P.underlying t with
  | some (.map kt et) => match keyOk P 20 kt k with
    | true => match (match x with | .nilm => some ([], 0) | x => mapOf hm x) with
      | some (es, _) => match findA P he kt k es 0 with
        | some (some (_, e)) => some (okTup ok e.2.1 true)
        | some none => match tzero P et with
          | some z => some (okTup ok z false)
          | none => none
        | none => none
      | none => none
    | false => none
  | _ => none

def setNth : List Ent → Nat → Ent → List Ent
  | [], _, _ => []
  | _ :: l, 0, x => x :: l
  | e :: l, n + 1, x => e :: setNth l n x

def mapUpdateA (h : H) (t : TypeId) (x k v : AV) : Option H :=
  match P.underlying t, x, mapOf h x with
  | some (.map kt _), .map F, some (es, ck) => match keyOk P 20 kt k with
    | true => match findA P h kt k es 0 with
      | some (some (i, e)) => some (h.put F (.map (setNth es i (k, v, e.2.2)) ck))
      | some none => some (h.put F (.map (es ++ [(k, v, ck)]) (Nat.succ ck)))
      | none => none
    | false => none
  | _, _, _ => none

def mapEntryA (h : H) (t : TypeId) (x k : AV) : Option (AV × H) :=
  match P.underlying t, x, mapOf h x with
  | some (.map kt et), .map F, some (es, ck) => match keyOk P 20 kt k with
    | true => match findA P h kt k es 0 with
      | some (some (i, e)) => some (.tup [e.2.1, .int .i64 (Int.ofNat e.2.2)], h.put F (.map (setNth es i (k, e.2.1, e.2.2)) ck))
      | some none => match tzero P et with
        | some z => some (.tup [z, .int .i64 (Int.ofNat ck)], h.put F (.map (es ++ [(k, z, ck)]) (Nat.succ ck)))
        | none => none
      | none => none
    | false => none
  | _, _, _ => none

def entryStoreL (b : Nat) (v : AV) : List Ent → Option (List Ent)
  | [] => none
  | e :: l => match Nat.beq e.2.2 b with
    | true => some ((e.1, v, e.2.2) :: l)
    | false => (entryStoreL b v l).map (e :: ·)

def entryStoreA (h : H) (x stamp v : AV) : Option H :=
  match x, asNat stamp, mapOf h x with
  | .map F, some b, some (es, ck) => match entryStoreL b v es with
    | some es => some (h.put F (.map es ck))
    | none => none
  | _, _, _ => none

/-- the character at a place of a text, and its bytes -/
def decodeA (l b p : Nat) : Nat × Nat := Utf8.decode ⟨(unpackL l b).toArray⟩ p

def rangeA (h : H) (t : TypeId) (x : AV) : Option (AV × H) :=
  match P.underlying t, x with
  | some .string, .str l b => some (.ptr h.nx 0 0 0, h.new (.strIter l b 0))
  | _, _ => none

def nextA (h : H) (it : AV) : Option (AV × H) :=
  match it with
  | .ptr F 0 0 0 => match h.obj F with
    | some (.strIter l b p) => match Nat.blt p l with
      | true => some (.tup [.bool true, .int .i64 (Int.ofNat p), .int .i32 (Int.ofNat (decodeA l b p).1)], h.put F (.strIter l b (Nat.add p (decodeA l b p).2)))
      | false => some (.tup [.bool false], h)
    | _ => none
  | _ => none

def bytesAV (l : List UInt8) : List AV := l.map fun c => .int .u8 (Int.ofNat c.toNat)

/-- what is appended: how many elements, which cells -/
def srcA (h : H) (e sz : Nat) (x : AV) : Option (Nat × List AV) := match x with
  | .nils => some (0, [])
  | .str l b => match Nat.beq sz 1 with
    | true => some (l, bytesAV (unpackL l b))
    | false => none
  | .slc F g o s' n _ => match Nat.beq s' sz, h.load F g o (Nat.mul n sz) with
    | true, some l => some (n, l)
    | _, _ => none
  | .int k m => match asNat (.int k m), tzero P e with
    | some n, some z => match Nat.beq z.cells.length sz with
      | true => some (n, replicateL z.cells n)
      | false => none
    | _, _ => none
  | _ => none

/-- the same, each cell flat -/
def srcF (h : H) (e sz : Nat) (x : AV) : Option (Nat × List AV) := match srcA P h e sz x with
  | some (n, l) => match l.all flat with
    | true => some (n, l)
    | false => none
  | none => none

/-- memory of its own for a slice's elements: the capacity is drawn -/
def freshA (h : H) (e sz n : Nat) (vs : List AV) : AV × H :=
  (.slc h.nx 0 0 sz n none, h.new (.cells { mkFam e vs with fix := false }))

def appendA (h : H) (t : TypeId) (zs : Bool) (s x : AV) : Option (AV × H) :=
  match P.underlying t with
  | some (.slice e) => match tsz P e, tby P e, tzero P e with
    | some sz, some by_, some z => match srcF P h e sz x, (match x with | .int .. => zs | _ => !zs), Nat.ble 1 sz && Nat.beq z.cells.length sz with
      | some (0, _), true, true => match s with
        | .nils => some (s, h)
        | .slc .. => some (s, h)
        | _ => none
      | some (n, new), true, true => match s with
        | .nils => match Nat.ble (Nat.mul n (Nat.succ by_)) big with
          | true => some (freshA h e sz n new)
          | false => none
        | .slc F g o s' len c => match Nat.beq s' sz, Nat.ble (Nat.mul (Nat.add n len) (Nat.succ by_)) big with
          | true, true => match c with
            | some c => match Nat.ble (Nat.add len n) c with
              | true => match h.store F g (Nat.add o (Nat.mul len sz)) new with
                | some h' => some (.slc F g o sz (Nat.add len n) (some c), h')
                | none => none
              | false => match h.load F g o (Nat.mul len sz) with
                | some l => some (freshA h e sz (Nat.add len n) (l ++ new))
                | none => none
            | none => match h.fam F g with
              | some f =>
                match Nat.beq f.elem e && Nat.ble f.frz (Nat.add o (Nat.mul len sz)) && !f.ro with
                | true => match Nat.beq g f.gen, Nat.ble (Nat.add (Nat.add o (Nat.mul len sz)) new.length) f.sz, Nat.beq (Nat.add o (Nat.mul len sz)) f.sz && Nat.beq o 0 with
                  | true, true, _ => some (.slc F g o sz (Nat.add len n) none, h.put F (.cells (f.store (Nat.add o (Nat.mul len sz)) new)))
                  | true, false, true => some (.slc F (Nat.succ g) o sz (Nat.add len n) none,
                      h.put F (.cells { f with gen := Nat.succ g, fix := false, old := f.sz, sz := Nat.add f.sz new.length, c := stL f.c f.sz new }))
                  | _, _, _ => match ldN f.c o (Nat.mul len sz) with
                    | some l => some (.slc h.nx 0 0 sz (Nat.add len n) none,
                        (h.put F (.cells { f with low := Nat.succ f.gen })).new (.cells { mkFam e (l ++ new) with frz := f.frz, sg := f.sg, fix := false }))
                    | none => none
                | false => none
              | none => none
          | _, _ => none
        | _ => none
      | _, _, _ => none
    | _, _, _ => none
  | _ => none

def lenA (h : H) (t : TypeId) (x : AV) : Option AV :=
  match P.underlying t, x with
  | some .string, .str l _ => some (.int .i64 (Int.ofNat l))
  | some (.array n _), _ => some (.int .i64 (Int.ofNat n))
  | some (.slice _), .slc _ _ _ _ n _ => some (.int .i64 (Int.ofNat n))
  | some (.slice _), .nils => some (.int .i64 0)
  | some (.map _ _), .nilm => some (.int .i64 0)
  | some (.map _ _), x => match mapOf h x with
    | some (es, _) => some (.int .i64 (Int.ofNat es.length))
    | none => none
  | _, _ => none

def bytesOfL : List AV → Option (List UInt8)
  | [] => some []
  | .int .u8 n :: l => match bytesOfL l with
    | some r => some (UInt8.ofNat n.toNat :: r)
    | none => none
  | _ => none

def convA (h : H) (src dst : TypeId) (x : AV) : Option (AV × H) :=
  match P.underlying src, P.underlying dst, x with
  | some _, some (.int k), .int _ n => some (.int k (k.wrap n), h)
  | some _, some .string, .int _ n => some (strOf (Utf8.encode n).data.toList, h)
  | some _, some .string, .str l b => some (.str l b, h)
  | some _, some (.slice e), .str l b => match P.underlying e with
    | some (.int .u8) => some (.slc h.nx 0 0 1 l none, h.new (.cells { mkFam e (bytesAV (unpackL l b)) with sg := true, fix := false }))
    | _ => none
  | some (.slice e), some .string, .nils => match P.underlying e with
    | some (.int .u8) => some (.str 0 0, h)
    | _ => none
  | some (.slice e), some .string, .slc F g o s n _ => match P.underlying e, Nat.beq s 1 with
    | some (.int .u8), true => match h.load F g o n with
      | some l => match bytesOfL l with
        | some l => some (strOf l, h)
        | none => none
      | none => none
    | _, _ => none
  | some (.pointer t), some .unsafePointer, .ptr F g o e => match tsz P t with
    | some n => match Nat.ble 1 n && Nat.ble n e, h.fam F g with
      | true, some _ => some (.ptr F g o e, h)
      | _, _ => none
    | none => none
  | some .unsafePointer, some (.pointer u), .ptr F g o e => match h.fam F g with
    | some f => match f.fix && liesAt P P.depth f.elem (Nat.div f.sz (P.cellsOf f.elem)) o u 1, tsz P u with
      | true, some _ => some (.ptr F g o e, h)
      | _, _ => none
    | none => none
  | _, _, _ => none

/-- the library's functions without a body that are served -/
inductive Ext where
  | cmpStr | idxByte | idxStr | cntStr | noEsc | makeNZ (e : TypeId)
  | rvOf | rvType | rvIsNil | rvElem | rvSet | rtOf | rtElem | rtCmp | rtImpl | rtAssign | abiKind | overlaps
  deriving DecidableEq

/-- what a run is told of its program: externs; functions served by a law of their own are `prim`'s -/
inductive ARes where
  | ret (v : AV)
  | panic (v : AV)

structure Cx where
  ext : FuncId → Option Ext
  prim : FuncId → Option (List AV → H → Option (ARes × H))

inductive AR where
  | val (v : AV) (h : H)
  | enter (f : FuncId) (args : List AV) (h : H)
  | defer (f : FuncId) (args : List AV) (h : H)
  | panic (v : AV) (h : H)
  | recover (h : H)

abbrev Env := Operand → Option AV

def ev (t : Tr AV) : Env
  | .tmp n => t.get n
  | .const v => ofV 8 v
  | .global g => match P.globals[g]? with
    | some x => match tsz P x.type with
      | some n => some (.ptr g 0 0 n)
      | none => none
    | none => none
  | .func f => some (.fn (.func f) [] [])

def target (f : AV) (args : List AV) : Option (FuncId × List AV) :=
  match f with
  | .fn (.func k) first captured => some (k, first ++ (args ++ captured))
  | _ => none

def cutTy (name : String) : Option TypeId := (P.cutTypes.find? (·.1 == name)).map (·.2)
def rtypeTy : Option TypeId := cutTy P "internal/reflectlite.rtype"
def kindOf (i : TypeInfo) : Option Nat := match i.desc with
  | .bool => some 1
  | .int .i64 => some (if i.str == "int" then 2 else 6)
  | .int .i8 => some 3 | .int .i16 => some 4 | .int .i32 => some 5
  | .int .u64 => some (if i.str == "uint" then 7 else if i.str == "uintptr" then 12 else 11)
  | .int .u8 => some 8 | .int .u16 => some 9 | .int .u32 => some 10
  | .array _ _ => some 17 | .chan _ _ => some 18 | .func _ _ _ => some 19 | .interface _ => some 20 | .map _ _ => some 21
  | .pointer _ => some 22 | .slice _ => some 23 | .string => some 24 | .struct _ => some 25 | .unsafePointer => some 26
  | _ => none
def underInfo (t : TypeId) : Option (TypeId × TypeInfo) := match P.info? t with
  | some i => match i.desc with
    | .named _ u => match P.info? u with
      | some j => some (u, j)
      | none => none
    | _ => some (t, i)
  | none => none
def kindA (t : TypeId) : Option Nat := match underInfo P t with
  | some (_, i) => kindOf i
  | none => none
def elemTA (t : TypeId) : Option TypeId := match underInfo P t with
  | some (_, i) => match i.desc with
    | .array _ e | .chan _ e | .map _ e | .pointer e | .slice e => some e
    | _ => none
  | none => none
def hasNameA (t : TypeId) : Option Bool := match P.info? t with
  | some i => match i.desc with
    | .named _ _ | .bool | .int _ | .float _ | .complex _ | .string | .unsafePointer => some true
    | _ => some false
  | none => none
def implementsA (T V : TypeId) : Option Bool :=
  match P.methodsOfAPack P.depth V || P.methodsOfAPack P.depth T with
  | true => none
  | false => match underInfo P T, underInfo P V, P.info? V with
    | some (_, a), some (_, b), some i => match a.desc, b.desc with
      | .interface want, .interface got => some (want.all got.contains)
      | .interface want, _ => some (Instr.missingMethod want i.methods).isNone
      | _, _ => some false
    | _, _, _ => none
def assignableA (T V : TypeId) : Option Bool :=
  match T == V with
  | true => some true
  | false => match hasNameA P T, hasNameA P V, underInfo P T, underInfo P V with
    | some true, some true, _, _ => some false
    | some _, some _, some (t, a), some (v, b) => match a.desc, b.desc with
      | .chan _ _, _ => none
      | _, _ => some (t == v)
    | _, _, _, _ => none

def idxByteL (c : UInt8) : List UInt8 → Nat → Int
  | [], _ => -1
  | b :: l, i => match b == c with
    | true => Int.ofNat i
    | false => idxByteL c l (Nat.succ i)

def idxStrA (m b a : Nat) : Nat → Nat → Int
  | 0, _ => -1
  | k + 1, i => match Nat.beq (Nat.mod (Nat.shiftRight a (Nat.mul 8 i)) (Nat.pow 2 (Nat.mul 8 m))) b with
    | true => Int.ofNat i
    | false => idxStrA m b a k (Nat.succ i)

/-- the library's functions without a body -/
def externA (x : Ext) (args : List AV) (h : H) : Option (AV × H) :=
  match x, args with
  | .cmpStr, [.str l a, .str m b] => some (.int .i64 (match strLess l a m b with | true => -1 | false => match strLess m b l a with | true => 1 | false => 0), h)
  | .idxByte, [.str l a, .int .u8 c] => some (.int .i64 (idxByteL (UInt8.ofNat c.toNat) (unpackL l a) 0), h)
  | .cntStr, [.str l a, .int .u8 c] => some (.int .i64 (Int.ofNat ((unpackL l a).filter (· == UInt8.ofNat c.toNat)).length), h)
  | .idxStr, [.str l a, .str m b] => match Nat.ble 2 m && Nat.ble m 31 && Nat.ble l 1000000000 with
    | true => some (.int .i64 (idxStrA m b a (Nat.sub (Nat.succ l) m) 0), h)
    | false => none
  | .noEsc, [v] => some (v, h)
  | .makeNZ e, [.int .i64 (.ofNat n)] => match tsz P e, Nat.ble n big with
    | some 1, true => some (.slc h.nx 0 0 1 n none, h.new (.cells { mkFam e (List.replicate n .junk) with fix := false }))
    | _, _ => none
  | .rvOf, [.ifc t v] => match kindA P t, v.cells.all flat with
    | some k, true => some (.agg [.th t, .ptr h.nx 0 0 v.cells.length, .int .u64 (Int.ofNat (k + 128))], h.new (.cells (mkFam t v.cells)))
    | _, _ => none
  | .rvType, [.agg [.th t, .ptr _ _ _ _, .int .u64 (.ofNat (_ + 1))]] => match rtypeTy P with
    | some r => some (.ifc r (.agg [.th t]), h)
    | none => none
  | .rvIsNil, [.agg [.th t, p, .int .u64 (.ofNat (fl + 1))]] => match P.packed t, Nat.beq (Nat.mod (Nat.succ fl) 32) 22, loadVarA P h t p with
    | false, true, some (.ptr _ _ _ _) => some (.bool false, h)
    | false, true, some .nilp => some (.bool true, h)
    | _, _, _ => none
  | .rvElem, [.agg [.th t, p, .int .u64 (.ofNat (fl + 1))]] => match P.packed t, Nat.beq (Nat.mod (Nat.succ fl) 32) 22, loadVarA P h t p, elemTA P t with
    | false, true, some (.ptr F g o e), some u => match kindA P u with
      | some k => some (.agg [.th u, .ptr F g o e, .int .u64 (Int.ofNat (k + 128 + 256))], h)
      | none => none
    | _, _, _, _ => none
  | .rvSet, [.agg [.th t, p, .int .u64 (.ofNat (f + 1))], .agg [.th u, q, .int .u64 (.ofNat (_ + 1))]] =>
    match P.packed t || P.packed u, Nat.beq (Nat.mod (Nat.div (Nat.succ f) 256) 2) 0, loadVarA P h u q with
    | false, false, some v => match assignableA P t u with
      | some true => (storeVarA P h t p v).map (.tup [], ·)
      | some false => match implementsA P t u, kindA P u with
        | some true, some k => match Nat.beq k 20 with
          | true => none
          | false => (storeVarA P h t p (.ifc u v)).map (.tup [], ·)
        | _, _ => none
      | none => none
    | _, _, _ => none
  | .rtOf, [.ifc t _] => match rtypeTy P with
    | some r => some (.ifc r (.agg [.th t]), h)
    | none => none
  | .rtElem, [.agg [.th t]] => match P.packed t, rtypeTy P, elemTA P t with
    | false, some r, some e => some (.ifc r (.agg [.th e]), h)
    | _, _, _ => none
  | .rtCmp, [.agg [.th t]] => match P.packed t || P.holdsPacked P.depth t, P.info? t with
    | false, some i => some (.bool i.comparable, h)
    | _, _ => none
  | .rtImpl, [.agg [.th t], .ifc _ (.agg [.th u])] => match P.packed t || P.packed u || P.methodsOfAPack P.depth t, kindA P u, implementsA P u t with
    | false, some k, some b => match Nat.beq k 20 with
      | true => some (.bool b, h)
      | false => none
    | _, _, _ => none
  | .rtAssign, [.agg [.th t], .ifc _ (.agg [.th u])] => match P.packed t || P.packed u || P.methodsOfAPack P.depth t || P.methodsOfAPack P.depth u, assignableA P u t, implementsA P u t with
    | false, some a, some b => some (.bool (a || b), h)
    | _, _, _ => none
  | .abiKind, [.th t] => match P.packed t, kindA P t with
    | false, some k => some (.int .u8 (Int.ofNat k), h)
    | _, _ => none
  | .overlaps, [a, b] => match a, b with
    | .nils, .nils => some (.bool false, h)
    | .nils, .slc .. => some (.bool false, h)
    | .slc .., .nils => some (.bool false, h)
    | .slc F g _ _ n _, .slc F' g' _ _ n' _ => match Nat.beq F F', h.fam F g, h.fam F' g' with
      | false, some f, some f' => match Nat.beq f.frz 0 && !f.sg && Nat.beq f'.frz 0 && !f'.sg && Nat.ble 1 n && Nat.ble 1 n' with
        | true => some (.bool false, h)
        | false => none
      | _, _, _ => match Nat.beq n 0 || Nat.beq n' 0 with
        | true => some (.bool false, h)
        | false => none
    | _, _ => none
  | _, _ => none

/-- the way to a method's receiver: steps inside a value -/
def followA : List FieldStep → TypeId → AV → Option (TypeId × AV)
  | [], t, x => some (t, x)
  | s :: rest, _, x => match P.underlying s.struct, s.deref, x with
    | some (.struct fs), false, .agg cs => match fieldsAt fs.toList s.index with
      | some f => match partA P f.type cs f.offset with
        | some y => followA rest f.type y
        | none => none
      | none => none
    | _, _, _ => none

def methodA (t : TypeId) (v : AV) (name : String) : Option (FuncId × AV) :=
  match (P.info? t).bind fun i => i.methods.find? (·.name == name) with
  | some m => match followA P m.path.toList t v with
    | some (xt, x) => match m.func, P.underlying xt with
      | some (f, true), some (.pointer _) => some (f, x)
      | some (_, false), some (.pointer _) => none
      | some (f, false), some _ => some (f, x)
      | _, _ => none
    | none => none
  | none => none

def callF (X : Cx) (h : H) (k : FuncId) (args : List AV) : Option AR :=
  match X.ext k with
  | some x => match externA P x args h with
    | some (v, h) => some (.val v h)
    | none => none
  | none => some (.enter k args h)

def callA (X : Cx) (h : H) (f : AV) (args : List AV) : Option AR :=
  match target f args with
  | some (k, args) => callF P X h k args
  | none => none

def lenCls (x : AV) : Option Nat := match x with
  | .nils => some 0
  | .slc _ _ _ _ n _ => some n
  | .str l _ => some l
  | _ => none

def copyA (h : H) (sz : Nat) (d x : AV) : Option (AV × H) :=
  match d, lenCls d, lenCls x with
  | .str .., _, _ => none
  | d, some dn, some xn => match Nat.min xn dn with
    | 0 => some (.int .i64 0, h)
    | k + 1 => match d, (match x with
        | .slc F g o s' _ _ => match Nat.beq s' sz with
          | true => h.load F g o (Nat.mul (Nat.succ k) sz)
          | false => none
        | .str l b => match Nat.beq sz 1 with
          | true => some (bytesAV ((unpackL l b).take (Nat.succ k)))
          | false => none
        | _ => none) with
      | .slc F g o s' _ _, some l => match Nat.beq s' sz && l.all flat, h.store F g o l with
        | true, some h' => some (.int .i64 (Int.ofNat (Nat.succ k)), h')
        | _, _ => none
      | _, _ => none
  | _, _, _ => none

def isIntTy (t : TypeId) : Bool := match P.underlying t with
  | some (.int _) => true
  | _ => false

def capOf : AV → Option Nat
  | .nils => some 0
  | .slc _ _ _ _ _ c => c
  | _ => none

def ustrA (h : H) (t : TypeId) (p n : AV) : Option (AV × H) := match p, asNat n with
  | .nilp, some 0 => some (.str 0 0, h)
  | .ptr .., some 0 => some (.str 0 0, h)
  | .ptr F g o e, some (k + 1) => match Nat.ble (Nat.succ k) e && Nat.ble (Nat.succ k) big, h.fam F g, P.underlying t with
    | true, some f, some (.pointer el) => match Nat.beq g f.gen && Nat.beq el f.elem && Nat.beq (P.cellsOf f.elem) 1 && !f.ro && !f.sg, ldN f.c o (Nat.succ k) with
      | true, some l => match bytesOfL l with
        | some l => some (strOf l, h.put F (.cells { f with frz := Nat.max f.frz (Nat.add o (Nat.succ k)) }))
        | none => none
      | _, _ => none
    | _, _, _ => none
  | _, _ => none

def builtinA (h : H) (b : Builtin) (ts : List TypeId) (args : List AV) : Option AR :=
  match b, ts, args with
  | .append, [t, u], [s, x] => match P.underlying u with
    | some _ => match appendA P h t (isIntTy P u) s x with
      | some (v, h) => some (.val v h)
      | none => none
    | none => none
  | .len, [t], [x] => match lenA P h t x with
    | some v => some (.val v h)
    | none => none
  | .cap, [t], [x] => match P.underlying t, capOf x with
    | some (.slice _), some c => some (.val (.int .i64 (Int.ofNat c)) h)
    | _, _ => none
  | .copy, t :: _, [d, x] => match P.underlying t with
    | some (.slice e) => match tsz P e with
      | some sz => match Nat.ble 1 sz, copyA h sz d x with
        | true, some (v, h) => some (.val v h)
        | _, _ => none
      | none => none
    | _ => none
  | .min, _, [.int k a, .int _ b] => some (.val (.int k (match decide (b < a) with | true => b | false => a)) h)
  | .max, _, [.int k a, .int _ b] => some (.val (.int k (match decide (a < b) with | true => b | false => a)) h)
  | .clear, [t], [x] => match P.underlying t, x with
    | some (.slice _), .nils => some (.val (.tup []) h)
    | some (.slice e), .slc F g o s n _ => match tsz P e, tzero P e with
      | some s', some z => match Nat.beq s s' && Nat.beq z.cells.length s && z.cells.all flat, n with
        | true, 0 => some (.val (.tup []) h)
        | true, _ => match h.store F g o (replicateL z.cells n) with
          | some h => some (.val (.tup []) h)
          | none => none
        | _, _ => none
      | _, _ => none
    | _, _ => none
  | .recover, [], [] => some (.recover h)
  | .unsafeSliceData, _, [x] => match x with
    | .nils => some (.val .nilp h)
    | .slc F g o s n _ => match n with
      | 0 => none
      | _ => some (.val (.ptr F g o (Nat.mul n s)) h)
    | _ => none
  | .unsafeString, t :: _, [p, n] => match ustrA P h t p n with
    | some (v, h) => some (.val v h)
    | none => none
  | _, _, _ => none

def evL (e : Env) : List Operand → Option (List AV)
  | [] => some []
  | x :: l => match e x with
    | some v => match evL e l with
      | some r => some (v :: r)
      | none => none
    | none => none

def evP (e : Env) : List (Nat × Operand) → Option (List (Nat × AV))
  | [] => some []
  | (i, x) :: l => match e x with
    | some v => match evP e l with
      | some r => some ((i, v) :: r)
      | none => none
    | none => none

def evO (e : Env) : Option Operand → Option (Option AV)
  | none => some none
  | some x => match e x with
    | some v => some (some v)
    | none => none

def vh (h : H) : Option AV → Option AR
  | some v => some (.val v h)
  | none => none
def uh : Option H → Option AR
  | some h => some (.val .undef h)
  | none => none
def ph : Option (AV × H) → Option AR
  | some (v, h) => some (.val v h)
  | none => none

def noJunk (ps : List (Nat × AV)) : Bool := ps.all fun p => match p.2 with
  | .junk => false
  | _ => true

def nilCheckA : AV → Option AV
  | .ptr F g o e => some (.ptr F g o e)
  | .fn (.func f) a b => some (.fn (.func f) a b)
  | .ifc t v => some (.ifc t v)
  | _ => none

/-- what an assertion finds -/
def assertR (x : AV) (asserted : TypeId) : Option (Option AV) := match P.underlying asserted, x with
  | some (.interface _), .nili => some none
  | some (.interface want), .ifc t w => match P.info? t with
    | some i => match Instr.missingMethod want i.methods with
      | none => some (some (.ifc t w))
      | some _ => some none
    | none => none
  | some _, .nili => some none
  | some _, .ifc t w => match Nat.beq t asserted with
    | true => some (some w)
    | false => some none
  | _, _ => none

def assertA (x : AV) (asserted : TypeId) (ok : Bool) : Option AV := match assertR P x asserted, ok with
  | some (some w), true => some (.tup [w, .bool true])
  | some (some w), false => some w
  | some none, true => match tzero P asserted with
    | some z => some (.tup [z, .bool false])
    | none => none
  | _, _ => none

def makeSliceA (h : H) (t : TypeId) (l c : AV) : Option (AV × H) :=
  match P.underlying t with
  | some (.slice el) => match asNat l, asNat c, tsz P el, tby P el, tzero P el with
    | some l, some c, some s, some by_, some z => match Nat.ble l c && Nat.ble (Nat.mul c (Nat.succ by_)) big && Nat.beq z.cells.length s && Nat.ble 1 s with
      | true => some (.slc h.nx 0 0 s l (some c), h.new (.cells (mkFam el (replicateL z.cells c))))
      | false => none
    | _, _, _, _, _ => none
  | _ => none

def buildSliceA (h : H) (t : TypeId) (n : Nat) (ps : List (Nat × AV)) : Option (AV × H) :=
  match P.underlying t with
  | some (.slice el) => match tsz P el, tzero P el with
    | some s, some z => match Nat.ble (Nat.mul n s) 1000000 && Nat.beq z.cells.length s && Nat.ble 1 s && noJunk ps, fillA (fun i => some (Nat.mul i s, s)) (replicateL z.cells n) ps with
      | true, some cs => some (.slc h.nx 0 0 s n (some n), h.new (.cells (mkFam el cs)))
      | _, _ => none
    | _, _ => none
  | _ => none

def boxA (h : H) (t : TypeId) (v : AV) : Option (AV × H) := match v with
  | .junk => none
  | v => some (.ptr h.nx 0 0 v.cells.length, h.new (.cells (mkFam t v.cells)))

/-- one operation -/
def opA (X : Cx) (h : H) (e : Env) (op : Op) : Option AR :=
  match op with
  | .move x => vh h (e x)
  | .assign x => vh h (e x)
  | .pick c a b => match e c with
    | some (.bool true) => vh h (e a)
    | some (.bool false) => vh h (e b)
    | _ => none
  | .alloc t => match tzero P t with
    | some z => ph (boxA h t z)
    | none => none
  | .box t x => match e x with
    | some v => ph (boxA h t v)
    | none => none
  | .build t ps => match evP e ps.toList with
    | some l => match noJunk l with
      | true => vh h (buildA P t l)
      | false => none
    | none => none
  | .buildSlice t n ps => match evP e ps.toList with
    | some l => ph (buildSliceA P h t n l)
    | none => none
  | .load t x => match e x with
    | some p => vh h (loadVarA P h t p)
    | none => none
  | .store t a x => match e a, e x with
    | some p, some v => uh (storeVarA P h t p v)
    | _, _ => none
  | .nilCheck x => match e x with
    | some v => vh h (nilCheckA v)
    | none => none
  | .binOp op t x y _ => match e x, e y with
    | some a, some b => match guardOk P op t x y a b with
      | true => vh h (binA P h op t a b)
      | false => none
    | _, _ => none
  | .unOp op _ x => match e x with
    | some a => vh h (unA op a)
    | none => none
  | .convert src dst x => match e x with
    | some a => ph (convA P h src dst a)
    | none => none
  | .makeInterface t x => match e x, P.underlying t with
    | some _, some (.interface _) => none
    | some a, some _ => vh h (some (.ifc t a))
    | _, _ => none
  | .makeFunc fn first captured => match evL e first.toList, evL e captured.toList with
    | some a, some b => vh h (some (.fn fn a b))
    | _, _ => none
  | .makeMap _ none => ph (some (.map h.nx, h.new (.map [] 0)))
  | .makeSlice t l c => match e l, e c with
    | some l, some c => ph (makeSliceA P h t l c)
    | _, _ => none
  | .slice t x l hi m => match e x, evO e l, evO e hi, evO e m with
    | some x, some l, some hi, some m => match sliceA P h t x l hi m with
      | some v => vh h (some v)
      | none => vh h (slice3A P h t x l hi m)
    | _, _, _, _ => none
  | .fieldAddr t x i => match e x with
    | some a => vh h (fieldAddrA P t a i)
    | none => none
  | .field t x i => match e x, P.underlying t with
    | some (.agg cs), some (.struct fs) => match fieldsAt fs.toList i with
      | some f => vh h (partA P f.type cs f.offset)
      | none => none
    | _, _ => none
  | .indexAddr t x i => match e x, e i with
    | some a, some b => vh h (indexAddrA P t a b)
    | _, _ => none
  | .index t x i => match e x, e i with
    | some a, some b => vh h (indexA P t a b)
    | _, _ => none
  | .lookup t x i ok => match e x, e i with
    | some a, some b => vh h (lookupA P h h t a b ok)
    | _, _ => none
  | .mapUpdate t m k x => match e m, e k, e x with
    | some a, some b, some c => uh (mapUpdateA P h t a b c)
    | _, _, _ => none
  | .insert t m k x => match e m, e k, e x with
    | some a, some b, some c => uh (mapUpdateA P h t a b c)
    | _, _, _ => none
  | .mapEntry t m k => match e m, e k with
    | some a, some b => ph (mapEntryA P h t a b)
    | _, _ => none
  | .entryStore _ m s x => match e m, e s, e x with
    | some a, some b, some c => uh (entryStoreA h a b c)
    | _, _, _ => none
  | .typeAssert x _ asserted ok => match e x with
    | some v => vh h (assertA P v asserted ok)
    | none => none
  | .extract x i => match e x with
    | some (.tup l) => vh h l[i]?
    | _ => none
  | .call c => match evL e c.args.toList with
    | some args => match c.callee with
      | .value f => match e f with
        | some f => callA P X h f args
        | none => none
      | .builtin b => builtinA P h b c.argTypes.toList args
      | .invoke r name => match e r with
        | some (.ifc t v) => match methodA P t v name with
          | some (f, x) => callF P X h f (x :: args)
          | none => none
        | _ => none
    | none => none
  | .range t x => match e x with
    | some v => ph (rangeA P h t v)
    | none => none
  | .next x true => match e x with
    | some v => ph (nextA h v)
    | none => none
  | .defer c => match evL e c.args.toList with
    | some args => match c.callee with
      | .value f => match e f with
        | some f => match target f args with
          | some (k, args) => some (.defer k args h)
          | none => none
        | none => none
      | _ => none
    | none => none
  | .panic x => match e x with
    | some (.ifc t v) => some (.panic (.ifc t v) h)
    | _ => none
  | _ => none

inductive AExit where
  | normal
  | exit (id : Nat)
  | ret
  | panic (v : AV)

structure AAct where
  t : Tr AV
  ds : List (FuncId × List AV)

def putT (t : Tr AV) (d : Option Tmp) (v : AV) : Tr AV := match d with
  | some d => t.set d v
  | none => t

/-- what an operation of the region has given, as a guard sees it -/
def yieldA (ops : List Oper) (t : Tr AV) (j : Nat) : Option (Option Bool) := match ops[j]? with
  | some o => match o.dst with
    | some d => match t.get d with
      | some (.bool b) => some (some b)
      | some (.tup _) => some none
      | _ => none
    | none => none
  | none => none

/-- is an operation run? its guard must be known -/
def wantedA (ops : List Oper) (t : Tr AV) (o : Oper) : Option Bool := match o.guard with
  | none => some true
  | some (j, b) => match yieldA ops t j with
    | some (some c) => some (c == b)
    | some none => some false
    | none => none

abbrev CallK := FuncId → List AV → H → Option (ARes × H)

def runOps (X : Cx) (K : CallK) (all : List Oper) : List Oper → AAct → H → Option (AExit × AAct × H)
  | [], a, h => some (.normal, a, h)
  | o :: l, a, h => match wantedA all a.t o with
    | some false => runOps X K all l { a with t := putT a.t o.dst .undef } h
    | some true => match opA P X h (ev P a.t) o.op with
      | some (.val v h) => runOps X K all l { a with t := putT a.t o.dst v } h
      | some (.enter f args h) => match K f args h with
        | some (.ret v, h) => runOps X K all l { a with t := putT a.t o.dst v } h
        | some (.panic v, h) => some (.panic v, a, h)
        | none => none
      | some (.defer f args h) => runOps X K all l { t := putT a.t o.dst .undef, ds := (f, args) :: a.ds } h
      | some (.panic v h) => some (.panic v, a, h)
      | _ => none
    | none => none

/-! Regions that draw their order. -/
inductive Cls where
  | pure | load | store | alloc | hard
  deriving DecidableEq

def clsOf (op : Op) : Cls := match op with
  | .move _ | .assign _ | .pick .. | .nilCheck _ | .fieldAddr .. | .indexAddr .. | .extract .. | .unOp .. | .build .. | .field .. | .index ..
  | .makeInterface .. | .makeFunc .. | .slice .. | .binOp .. => .pure
  | .convert _ d _ => match isIntTy P d with
    | true => .pure
    | false => .hard
  | .load .. | .lookup .. => .load
  | .store .. => .store
  | .alloc _ | .box .. | .buildSlice .. | .makeMap .. | .makeSlice .. => .alloc
  | .call { callee := .builtin b, .. } => match b with
    | .len | .min | .max | .cap => .pure
    | _ => .hard
  | _ => .hard

def tmpsOf (l : List Operand) : List Nat := l.filterMap fun | .tmp t => some t | _ => none

/-- the operations that stand ahead of each, as bits -/
def befores (ops : List Oper) : List Nat :=
  ops.foldl (fun acc o => acc ++ [o.after.toList.foldl (fun s e => match Region.binds .any e with
    | true => s ||| 2 ^ e.on ||| acc.getD e.on 0
    | false => s) 0]) []

def hasDst (o : Oper) (l : List Nat) : Bool := match o.dst with
  | some d => l.contains d
  | none => false

/-- may two operations, `p` ahead of `q` in the text, stand in either order? -/
def mayTurn (p q : Oper) : Bool :=
  !hasDst p (tmpsOf q.op.operands.toList) && !hasDst q (tmpsOf p.op.operands.toList) &&
  match clsOf P p.op, clsOf P q.op with
  | .hard, .hard => false
  | .hard, .store => false
  | .store, .hard => false
  | .alloc, .hard => false
  | _, _ => true

def pairsOk (bm : List Nat) (ops : List Oper) : Bool :=
  ops.zipIdx.all fun (q, k) => ops.zipIdx.all fun (p, i) => !(Nat.blt i k) || Nat.testBit (bm.getD k 0) i || mayTurn P p q

def nodupD : List (Option Tmp) → Bool
  | [] => true
  | none :: l => nodupD l
  | some d :: l => !l.contains (some d) && nodupD l

def staticOk (ops : List Oper) : Bool :=
  nodupD (ops.map (·.dst)) &&
  (ops.zipIdx.all fun (q, k) =>
    (match q.guard with
    | some (j, _) => Nat.blt j k && Nat.testBit (befores ops |>.getD k 0) j
    | none => true) &&
    q.after.toList.all fun e => !Region.binds .any e || Nat.blt e.on k) &&
  pairsOk P (befores ops) ops

/-- a reading, off one object -/
def readA (h : H) (e : Env) (op : Op) : Option AV := match op with
  | .load t x => match e x with
    | some p => loadVarA P h t p
    | none => none
  | .lookup t x i ok => match e x, e i with
    | some a, some b => lookupA P h H0 t a b ok
    | _, _ => none
  | _ => none

structure Item where
  o : Oper
  t : Tr AV
  h0 : H
  h1 : H
  ran : Bool

def addrF (i : Item) : Option Nat := match i.o.op with
  | .store _ a _ => match ev P i.t a with
    | some (.ptr F _ _ _) => some F
    | _ => none
  | _ => none

def sameO : Option AV → Option AV → Bool
  | some a, some b => same 100 a b
  | _, _ => false

/-- does a reading give the same on both sides of an operation? -/
def readsSame (l e : Item) : Bool := sameO (readA P e.h0 (ev P l.t) l.o.op) (readA P e.h1 (ev P l.t) l.o.op)

/-- what a reading reads -/
def addrL (i : Item) : Option Nat := match i.o.op with
  | .load _ a => match ev P i.t a with
    | some (.ptr F _ _ _) => some F
    | _ => none
  | .lookup _ a _ _ => match ev P i.t a with
    | some (.map F) => some F
    | _ => none
  | _ => none

def optNe : Option Nat → Option Nat → Bool
  | some a, some b => !Nat.beq a b
  | _, _ => false

/-- is the one read none of the other's? -/
def dfr (F : Nat) : Option Nat → Bool
  | some G => !Nat.beq F G
  | none => true

/-- a store and a reading -/
def storeLoad (s l : Item) : Bool := match addrF P s with
  | some F => match dfr F (addrL P l) with
    | true => true
    | false => readsSame P l s
  | none => false

/-- a call and a reading -/
def hardLoad (c l : Item) : Bool := match addrL P l with
  | some _ => readsSame P l c
  | none => true

def dynPair (p q : Item) : Bool := match p.ran && q.ran with
  | false => true
  | true => match clsOf P p.o.op, clsOf P q.o.op with
    | .load, .hard => hardLoad P q p
    | .load, .store => storeLoad P q p
    | .hard, .load => hardLoad P p q
    | .store, .load => storeLoad P p q
    | .store, .store => optNe (addrF P p) (addrF P q)
    | .alloc, .store => optNe (some p.h0.nx) (addrF P q)
    | .alloc, .load => dfr p.h0.nx (addrL P q)
    | _, _ => true

def dynOk (bm : List Nat) (items : List Item) : Bool :=
  items.zipIdx.all fun (q, k) => items.zipIdx.all fun (p, i) => !(Nat.blt i k) || Nat.testBit (bm.getD k 0) i || dynPair P p q

/-- an operation's step in a region that draws -/
def drawStep (X : Cx) (K : CallK) (h : H) (t : Tr AV) (o : Oper) : Option (ARes × H) := match clsOf P o.op with
  | .pure => match opA P X ⟨h.nx, .lf⟩ (ev P t) o.op with
    | some (.val v _) => some (.ret v, h)
    | _ => none
  | .load => match readA P h (ev P t) o.op with
    | some v => some (.ret v, h)
    | none => none
  | _ => match opA P X h (ev P t) o.op with
    | some (.val v h) => some (.ret v, h)
    | some (.enter f args h) => K f args h
    | _ => none

/-- nothing that writes may turn with the operation that panics; all that stands behind it in the text is bound to -/
def aloneOk (bm : List Nat) (ops : List Oper) (i : Nat) : Bool :=
  ops.zipIdx.all fun (p, k) => match Nat.blt i k with
    | true => Nat.testBit (bm.getD k 0) i
    | false => match clsOf P p.op with
      | .pure => true
      | .load => true
      | _ => Nat.beq k i || Nat.testBit (bm.getD i 0) k

def junkAll (t : Tr AV) : List Oper → Tr AV
  | [] => t
  | o :: l => junkAll (putT t o.dst .junk) l

def drawOps (X : Cx) (K : CallK) (all : List Oper) (a0 : AAct) : List Oper → List Item → Tr AV → H → Option (AExit × AAct × H)
  | [], acc, t, h => match dynOk P (befores all) acc.reverse with
    | true => some (.normal, { a0 with t := t }, h)
    | false => none
  | o :: l, acc, t, h => match wantedA all t o with
    | some false => drawOps X K all a0 l (⟨o, t, h, h, false⟩ :: acc) (putT t o.dst .undef) h
    | some true => match drawStep P X K h t o with
      | some (.ret v, h') => drawOps X K all a0 l (⟨o, t, h, h', true⟩ :: acc) (putT t o.dst v) h'
      | some (.panic v, h') => match clsOf P o.op, aloneOk P (befores all) all acc.length && dynOk P (befores all) acc.reverse with
        | .hard, true => some (.panic v, { a0 with t := junkAll a0.t all }, h')
        | _, _ => none
      | none => none
    | none => none

def iter (f : AAct → H → Option (AExit × AAct × H)) : Nat → AAct → H → Option (AExit × AAct × H)
  | 0, _, _ => none
  | n + 1, a, h => match f a h with
    | some (.normal, a, h) => iter f n a h
    | r => r

def exec (X : Cx) (K : CallK) (N : Nat) : Code → AAct → H → Option (AExit × AAct × H)
  | .skip, a, h => some (.normal, a, h)
  | .region _ ops draw, a, h => match draw with
    | false => runOps P X K ops.toList ops.toList a h
    | true => match staticOk P ops.toList with
      | true => drawOps P X K ops.toList a ops.toList [] a.t h
      | false => none
  | .seq x y, a, h => match exec X K N x a h with
    | some (.normal, a, h) => exec X K N y a h
    | r => r
  | .cond c x y, a, h => match ev P a.t c with
    | some (.bool true) => exec X K N x a h
    | some (.bool false) => exec X K N y a h
    | _ => none
  | .block id x, a, h => match exec X K N x a h with
    | some (.exit i, a, h) => match Nat.beq i id with
      | true => some (.normal, a, h)
      | false => some (.exit i, a, h)
    | r => r
  | .loop x, a, h => iter (exec X K N x) N a h
  | .exit id, a, h => some (.exit id, a, h)
  | .ret, a, h => some (.ret, a, h)
  | _, _, _ => none

/-- a deferred function's outermost statements: `recover` is served here alone; the flag: recovered -/
def runOpsS (X : Cx) (K : CallK) (pn : Option AV) (all : List Oper) : List Oper → AAct → Bool → H → Option (AExit × AAct × Bool × H)
  | [], a, rc, h => some (.normal, a, rc, h)
  | o :: l, a, rc, h => match wantedA all a.t o with
    | some false => runOpsS X K pn all l { a with t := putT a.t o.dst .undef } rc h
    | some true => match opA P X h (ev P a.t) o.op with
      | some (.val v h) => runOpsS X K pn all l { a with t := putT a.t o.dst v } rc h
      | some (.recover h) => match pn, rc with
        | some v, false => runOpsS X K pn all l { a with t := putT a.t o.dst v } true h
        | _, _ => runOpsS X K pn all l { a with t := putT a.t o.dst .nili } rc h
      | some (.enter f args h) => match K f args h with
        | some (.ret v, h) => runOpsS X K pn all l { a with t := putT a.t o.dst v } rc h
        | _ => none
      | _ => none
    | none => none

def hasRec (ops : List Oper) : Bool := ops.any fun o => match o.op with
  | .call { callee := .builtin .recover, .. } => true
  | _ => false

def execS (X : Cx) (K : CallK) (N : Nat) (pn : Option AV) : Code → AAct → Bool → H → Option (AExit × AAct × Bool × H)
  | .seq x y, a, rc, h => match execS X K N pn x a rc h with
    | some (.normal, a, rc, h) => execS X K N pn y a rc h
    | r => r
  | .region id ops draw, a, rc, h => match hasRec ops.toList, draw with
    | true, false => runOpsS P X K pn ops.toList ops.toList a rc h
    | _, _ => match exec P X K N (.region id ops draw) a h with
      | some (e, a, h) => some (e, a, rc, h)
      | none => none
  | c, a, rc, h => match exec P X K N c a h with
    | some (e, a, h) => some (e, a, rc, h)
    | none => none

def resA (h : H) (t : Tr AV) : List ResultVar → Option (List AV)
  | [] => some []
  | .tmp d :: l => match t.get d with
    | some v => match resA h t l with
      | some r => some (v :: r)
      | none => none
    | none => none
  | .cell d ty :: l => match t.get d with
    | some p => match loadVarA P h ty p with
      | some v => match resA h t l with
        | some r => some (v :: r)
        | none => none
      | none => none
    | none => none

def argsT : List AV → Nat → Tr AV → Tr AV
  | [], _, t => t
  | v :: l, n, t => argsT l (Nat.succ n) (t.set n v)

def results1 (l : List AV) : AV := match l with
  | [v] => v
  | l => .tup l

/-- every place that the code writes is one of the frame's -/
def dstOk (nt : Nat) : Code → Bool
  | .region _ ops _ => ops.toList.all fun o => match o.dst with
    | some d => Nat.blt d nt
    | none => true
  | .seq x y => dstOk nt x && dstOk nt y
  | .cond _ x y => dstOk nt x && dstOk nt y
  | .block _ x => dstOk nt x
  | .loop x => dstOk nt x
  | .scope x => dstOk nt x
  | _ => true

/-- leaving a function: its deferred calls, then its results -/
def leave (K : Option AV → FuncId → List AV → H → Option (Bool × H)) (fn : Func) (t : Tr AV) : List (FuncId × List AV) → Option AV → H → Option (ARes × H)
  | [], none, h => match resA P h t fn.results.toList with
    | some l => some (.ret (results1 l), h)
    | none => none
  | [], some v, h => some (.panic v, h)
  | (f, args) :: ds, pn, h => match K pn f args h with
    | some (true, h) => leave K fn t ds none h
    | some (false, h) => leave K fn t ds pn h
    | none => none

/-- a deferred call -/
def callD (X : Cx) (K : CallK) (N : Nat) (pn : Option AV) (f : FuncId) (args : List AV) (h : H) : Option (Bool × H) :=
  match P.funcs[f]? with
  | some fn => match fn.body with
    | some c => match Nat.ble args.length fn.ntmps && dstOk fn.ntmps c && Nat.beq fn.results.size 0, execS P X K N pn c { t := argsT args 0 .lf, ds := [] } false h with
      | true, some (.normal, a, rc, h) => match a.ds with
        | [] => some (rc, h)
        | _ => none
      | true, some (.ret, a, rc, h) => match a.ds with
        | [] => some (rc, h)
        | _ => none
      | _, _ => none
    | none => none
  | none => none

def callN (X : Cx) (N : Nat) : Nat → CallK
  | 0, _, _, _ => none
  | n + 1, f, args, h => match X.prim f with
    | some p => p args h
    | none => match P.funcs[f]? with
      | some fn => match fn.body with
        | some c => match Nat.ble args.length fn.ntmps && dstOk fn.ntmps c with
          | true => match exec P X (callN X N n) N c { t := argsT args 0 .lf, ds := [] } h with
            | some (.normal, a, h) => leave P (callD P X (callN X N n) N) fn a.t a.ds none h
            | some (.ret, a, h) => leave P (callD P X (callN X N n) N) fn a.t a.ds none h
            | some (.panic v, a, h) => leave P (callD P X (callN X N n) N) fn a.t a.ds (some v) h
            | _ => none
          | false => none
        | none => none
      | none => none

end
end Go.Ai
