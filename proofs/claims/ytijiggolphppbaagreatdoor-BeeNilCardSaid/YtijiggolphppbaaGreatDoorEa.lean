/- An evaluator on a heap of named blocks, and what it means that it runs as the program does (values, heap, frame). -/
import GoSem.Dispatch
import Derived.Calls
import Derived.Wp
import Derived.Orders
import Derived.MapKept
import Derived.DeepKeys3
import Derived.LaidEql
import Derived.Deep.MidRow
import Derived.WalkKit
namespace Go.Proofs.YtijiggolphppbaaGreatDoor.Ev
open Go

inductive T (α : Type) where
  | leaf
  | node (l : T α) (v : Option α) (r : T α)
def T.get {α : Type} : T α → Nat → Option α
  | .leaf, _ => none
  | .node l v r, n => match n with
    | 0 => v
    | m + 1 => bif Nat.beq (m % 2) 0 then l.get (m / 2) else r.get (m / 2)
def T.set {α : Type} : Nat → T α → Nat → Option α → T α
  | 0, t, _, _ => t
  | f + 1, .leaf, n, x => match n with
    | 0 => .node .leaf x .leaf
    | m + 1 => bif Nat.beq (m % 2) 0 then .node (T.set f .leaf (m / 2) x) none .leaf else .node .leaf none (T.set f .leaf (m / 2) x)
  | f + 1, .node l v r, n, x => match n with
    | 0 => .node l x r
    | m + 1 => bif Nat.beq (m % 2) 0 then .node (T.set f l (m / 2) x) v r else .node l v (T.set f r (m / 2) x)

inductive AV where
  | bool (b : Bool)
  | int (k : IntKind) (n : Int)
  | str (s : List Nat)
  | ptr (a : Option (Nat × Nat))
  | sl (a : Option (Nat × Nat)) (len es : Nat)   -- es: the cells of an element
  | mp (r : Option Nat)
  | fn (f : Fn) (first caps : List AV)
  | nilFn
  | nilI
  | agg (l : List AV)
  | tup (l : List AV)
  | x (i : Nat)   -- a cell that is not looked at
instance : Inhabited AV := ⟨.nilI⟩
def un : AV := .tup []
inductive AO where
  | cells (n : Nat) (l : T AV) (ty : TypeId)
  | map (l : List (AV × AV))
  | dead
structure St where
  heap : T AO
  nx : Nat
/-- What a type is underneath, as far as it is asked. -/
inductive D where
  | other | bool | string | unsafePointer | func
  | int (k : IntKind)
  | slice (e : TypeId)
  | pointer (e : TypeId)
  | array (n : Nat) (e : TypeId)
  | map (k e : TypeId)
  | struct (fs : List (Nat × TypeId))
/-- The kinds of a key's cells. -/
inductive Lk where
  | bool | int (k : IntKind) | str
/-- What is asked of a type: what it is underneath, its cells, its bytes, its zero; the kinds of its cells if it can be a key. -/
structure Ty where
  und : D
  size : Nat
  bytes : Nat
  zero : List AV
  one : Bool   -- a value of one cell, not an aggregate
  key : Option (List Lk)
structure Fun where
  body : Code
  ntmps : Nat
  results : List ResultVar
structure Prg where
  ty : Nat → Option Ty
  fn : Nat → Option Fun
  known : Nat → Option (List AV → St → Option (AV × St))

def bnd {α β : Type} (x : Option α) (f : α → Option β) : Option β := match x with | none => none | some a => f a
def ik : IntKind → Nat
  | .i8 => 0 | .i16 => 1 | .i32 => 2 | .i64 => 3 | .u8 => 4 | .u16 => 5 | .u32 => 6 | .u64 => 7
def eqK (j k : IntKind) : Bool := Nat.beq (ik j) (ik k)
def eqI : Int → Int → Bool
  | .ofNat a, .ofNat b => Nat.beq a b
  | .negSucc a, .negSucc b => Nat.beq a b
  | _, _ => false
def eqN : List Nat → List Nat → Bool
  | [], [] => true
  | a :: x, b :: y => Nat.beq a b && eqN x y
  | _, _ => false

/- constants -/
def ofV1 : Value → Option AV
  | .bool b => some (.bool b)
  | .int k n => some (.int k n)
  | .string s => some (.str (s.data.toList.map UInt8.toNat))
  | .pointer none => some (.ptr none)
  | .slice none 0 0 => some (.sl none 0 0)
  | .map none => some (.mp none)
  | .nilFunc => some .nilFn
  | .nilIface => some .nilI
  | _ => none
def ofVs : List Value → Option (List AV)
  | [] => some []
  | v :: l => bnd (ofV1 v) fun a => bnd (ofVs l) fun r => some (a :: r)
def ofV : Value → Option AV
  | .agg cs => bnd (ofVs cs.toList) fun l => some (.agg l)
  | .tuple vs => bnd (ofVs vs.toList) fun l => some (.tup l)
  | v => ofV1 v
def evalO (t : T AV) : Operand → Option AV
  | .tmp i => some ((t.get i).getD un)
  | .const v => ofV v
  | .global _ => none
  | .func f => some (.fn (.func f) [] [])
def evalOs (E : Operand → Option AV) : List Operand → Option (List AV)
  | [] => some []
  | o :: l => bnd (E o) fun a => bnd (evalOs E l) fun r => some (a :: r)
def evalPs (E : Operand → Option AV) : List (Nat × Operand) → Option (List (Nat × AV))
  | [] => some []
  | (i, o) :: l => bnd (E o) fun a => bnd (evalPs E l) fun r => some ((i, a) :: r)

/- equality -/
mutual
def eqA : AV → AV → Bool
  | .bool a, .bool b => a == b
  | .int j a, .int k b => eqK j k && eqI a b
  | .str a, .str b => eqN a b
  | .ptr none, .ptr none => true
  | .ptr (some (a, i)), .ptr (some (b, j)) => Nat.beq a b && Nat.beq i j
  | .sl none n e, .sl none m f => Nat.beq n m && Nat.beq e f
  | .sl (some (a, i)) n e, .sl (some (b, j)) m f => Nat.beq a b && Nat.beq i j && Nat.beq n m && Nat.beq e f
  | .mp none, .mp none => true
  | .mp (some a), .mp (some b) => Nat.beq a b
  | .nilFn, .nilFn => true
  | .nilI, .nilI => true
  | .agg a, .agg b => eqAs a b
  | .tup a, .tup b => eqAs a b
  | .x i, .x j => Nat.beq i j
  | .fn (.func f) a b, .fn (.func h) c d => Nat.beq f h && eqAs a c && eqAs b d
  | _, _ => false
def eqAs : List AV → List AV → Bool
  | [], [] => true
  | a :: x, b :: y => eqA a b && eqAs x y
  | _, _ => false
end
def fits : List Lk → List AV → Bool
  | [], [] => true
  | .bool :: l, .bool _ :: m => fits l m
  | .int k :: l, .int j n :: m => eqK j k && decide (k.min ≤ n) && decide (n ≤ k.max) && fits l m
  | .str :: l, .str s :: m => Nat.ble s.length 1000000 && fits l m
  | _, _ => false
/-- The cells of a value. -/
def AV.cells : AV → List AV
  | .agg l => l
  | v => [v]
/-- A key of a type. -/
def keyOk (u : Ty) (ks : List Lk) (a : AV) : Bool := (match a with | .agg _ => !u.one | _ => u.one) && fits ks a.cells
/-- Two keys of a type. -/
def eqKey (u : Ty) (a b : AV) : Option Bool :=
  bnd u.key fun ks => bif keyOk u ks a && keyOk u ks b then some (eqAs a.cells b.cells) else none
def eqT (g : Prg) (t : TypeId) (x y : AV) : Option Bool :=
  bnd (g.ty t) fun u => match u.und, x, y with
  | .bool, .bool a, .bool b => some (a == b)
  | .pointer _, .ptr none, .ptr b => some b.isNone
  | .pointer _, .ptr (some _), .ptr none => some false
  | .pointer e, .ptr (some (a, i)), .ptr (some (b, j)) => bnd (g.ty e) fun w => bif !(Nat.beq w.size 0) && Nat.beq a b then some (Nat.beq i j) else none
  | .slice _, .sl none _ _, .sl b _ _ => some b.isNone
  | .slice _, .sl (some _) _ _, .sl none _ _ => some false
  | .map _ _, .mp none, .mp b => some b.isNone
  | .map _ _, .mp (some _), .mp none => some false
  | .func, .nilFn, .nilFn => some true
  | .func, .fn _ _ _, .nilFn | .func, .nilFn, .fn _ _ _ => some false
  | .struct _, .agg _, .agg _ | .array _ _, .agg _, .agg _ => eqKey u x y
  | _, _, _ => none
def lessL : List Nat → List Nat → Bool
  | _, [] => false
  | [], _ :: _ => true
  | a :: x, b :: y => Nat.blt a b || (Nat.beq a b && lessL x y)
def bitsOf (op : BinOp) (k : IntKind) (x y : Int) : Option AV :=
  let a := (x % (2 ^ k.bits : Nat)).toNat
  let b := (y % (2 ^ k.bits : Nat)).toNat
  match op with
  | .and => some (.int k (k.wrap (Nat.land a b : Nat)))
  | .or => some (.int k (k.wrap (Nat.lor a b : Nat)))
  | .xor => some (.int k (k.wrap (Nat.xor a b : Nat)))
  | .andNot => some (.int k (k.wrap (Nat.land a (2 ^ k.bits - 1 - b) : Nat)))
  | _ => none
def binI (op : BinOp) (k : IntKind) (a b : Int) : Option AV :=
  match op with
  | .add => some (.int k (k.wrap (a + b)))
  | .sub => some (.int k (k.wrap (a - b)))
  | .mul => some (.int k (k.wrap (a * b)))
  | .quo => bif eqI b 0 then none else some (.int k (k.wrap (a.tdiv b)))
  | .rem => bif eqI b 0 then none else some (.int k (a.tmod b))
  | .eql => some (.bool (eqI a b))
  | .neq => some (.bool (!(eqI a b)))
  | .lss => some (.bool (decide (a < b)))
  | .leq => some (.bool (decide (a ≤ b)))
  | .gtr => some (.bool (decide (b < a)))
  | .geq => some (.bool (decide (b ≤ a)))
  | .and | .or | .xor | .andNot => bitsOf op k a b
  | _ => none
def MX : Nat := 16000000
def binS (op : BinOp) (a b : List Nat) : Option AV :=
  match op with
  | .add => bif Nat.blt (a.length + b.length) MX then some (.str (a ++ b)) else none
  | .eql => some (.bool (eqN a b))
  | .neq => some (.bool (!(eqN a b)))
  | .lss => some (.bool (lessL a b))
  | .leq => some (.bool (lessL a b || eqN a b))
  | .gtr => some (.bool (!(lessL a b || eqN a b)))
  | .geq => some (.bool (!(lessL a b)))
  | _ => none
def binO (g : Prg) (op : BinOp) (xt : TypeId) (x y : AV) : Option AV :=
  match op with
  | .eql => bnd (eqT g xt x y) fun r => some (.bool r)
  | .neq => bnd (eqT g xt x y) fun r => some (.bool (!r))
  | _ => none
def binM (g : Prg) (op : BinOp) (xt : TypeId) (x y : AV) : Option AV :=
  match x, y with
  | .int k a, .int k' b => bif eqK k k' then binI op k a b else none
  | .str a, .str b => binS op a b
  | x, y => binO g op xt x y
def binR (g : Prg) (op : BinOp) (xt : TypeId) (x y : AV) : Option AV :=
  match op with
  | .shl => match x, y with
    | .int k a, .int _ b => bif decide (b < 0) then none else some (.int k (k.wrap (a * 2 ^ (min b.toNat k.bits))))
    | _, _ => none
  | .shr => match x, y with
    | .int k a, .int _ b => bif decide (b < 0) then none else some (.int k (a.fdiv (2 ^ (min b.toNat k.bits))))
    | _, _ => none
  | _ => binM g op xt x y
def unopR (op : UnOp) (x : AV) : Option AV :=
  match op, x with
  | .neg, .int k n => some (.int k (k.wrap (0 - n)))
  | .xor, .int k n => bitsOf .xor k (if k.signed then -1 else k.max) n
  | .not, .bool b => some (.bool !b)
  | _, _ => none
/-- A part of an aggregate. -/
def partR (u : Ty) (l : List AV) (off : Nat) : Option AV :=
  bif u.one then l[off]? else (bif Nat.ble (off + u.size) l.length then some (.agg ((l.drop off).take u.size)) else none)
def fieldOf (g : Prg) (s : TypeId) (f : Nat) : Option (Nat × Ty) :=
  bnd (g.ty s) fun t => match t.und with
    | .struct fs => bnd fs[f]? fun x => bnd (g.ty x.2) fun u => some (x.1, u)
    | _ => none
def mk (u : Ty) (l : List AV) : Option AV := bif u.one then (match l with | [v] => some v | _ => none) else some (.agg l)
def asNat : AV → Option Nat
  | .int _ n => bif decide (n < 0) then none else some n.toNat
  | _ => none
/-- Values of one cell. -/
def AV.one : AV → Bool
  | .agg _ => false
  | .tup _ => false
  | _ => true
def onesB : List AV → Bool
  | [] => true
  | a :: l => a.one && onesB l
/-- A part of an aggregate set. -/
def setAt {α : Type} : List α → Nat → List α → List α
  | l, _, [] => l
  | [], _, _ => []
  | _ :: l, 0, v :: vs => v :: setAt l 0 vs
  | x :: l, n + 1, vs => x :: setAt l n vs
/-- place: where part i lies, its cells. -/
def fillR (place : Nat → Option (Nat × Nat)) (l : List AV) : List (Nat × AV) → Option (List AV)
  | [] => some l
  | (i, v) :: r => bnd (place i) fun p => bif Nat.beq v.cells.length p.2 && Nat.ble (p.1 + p.2) l.length then fillR place (setAt l p.1 v.cells) r else none
def rep (n : Nat) (z : List AV) : List AV := match n with | 0 => [] | k + 1 => z ++ rep k z
def elemId (g : Prg) (t : TypeId) : Option TypeId := bnd (g.ty t) fun u => match u.und with
  | .slice e => some e
  | _ => none
def opt (E : Operand → Option AV) : Option Operand → Option (Option AV)
  | none => some none
  | some o => bnd (E o) fun a => some (some a)
def boundsOf (len : Nat) (lo hi : Option AV) : Option (Nat × Nat) :=
  bnd (match hi with | none => some len | some v => asNat v) fun h => bnd (match lo with | none => some 0 | some v => asNat v) fun l =>
    bif Nat.ble l h && Nat.ble h len then some (l, h) else none
/-- What reads no memory. -/
def pureR (g : Prg) (E : Operand → Option AV) (op : Op) : Option AV :=
  match op with
  | .move x => E x
  | .assign x => E x
  | .pick c a b => bnd (E c) fun c => match c with
    | .bool true => E a
    | .bool false => E b
    | _ => none
  | .build ty ps => bnd (g.ty ty) fun u => bnd (evalPs E ps.toList) fun ps => match u.und with
    | .struct fs => bnd (fillR (fun i => bnd fs[i]? fun x => bnd (g.ty x.2) fun w => some (x.1, w.size)) u.zero ps) fun l => some (.agg l)
    | .array _ e => bnd (g.ty e) fun w => bnd (fillR (fun i => some (i * w.size, w.size)) u.zero ps) fun l => some (.agg l)
    | _ => none
  | .nilCheck x => bnd (E x) fun v => match v with
    | .ptr (some a) => some (.ptr (some a))
    | .fn (.func f) a b => some (.fn (.func f) a b)
    | .mp r => some (.mp r)
    | _ => none
  | .binOp op xt x y _ => bnd (E x) fun x => bnd (E y) fun y => binR g op xt x y
  | .unOp op _ x => bnd (E x) fun x => unopR op x
  | .convert src dst x => bnd (E x) fun x => bnd (g.ty src) fun _ => bnd (g.ty dst) fun u => match u.und, x with
    | .int k, .int _ n => some (.int k (k.wrap n))
    | _, _ => none
  | .sliceToArrayPointer ty x => bnd (E x) fun x => bnd (g.ty ty) fun u => match u.und, x with
    | .array n _, .sl a len _ => bif Nat.ble n len && !(Nat.beq n 0) then some (.ptr a) else none
    | _, _ => none
  | .makeFunc f a b => bnd (evalOs E a.toList) fun a => bnd (evalOs E b.toList) fun b => some (.fn f a b)
  | .slice ty x lo hi none => bnd (E x) fun x => bnd (opt E lo) fun lo => bnd (opt E hi) fun hi => bnd (g.ty ty) fun u => match u.und, x with
    | .string, .str s => bnd (boundsOf s.length lo hi) fun p => some (.str ((s.take p.2).drop p.1))
    | .slice e, .sl none n es => bnd (g.ty e) fun _ => bnd (boundsOf n lo hi) fun p => some (.sl none (p.2 - p.1) es)
    | .slice e, .sl (some a) n es => bnd (g.ty e) fun w => bnd (boundsOf n lo hi) fun p => bif Nat.beq w.size es then some (.sl (some (a.1, a.2 + p.1 * es)) (p.2 - p.1) es) else none
    | _, _ => none
  | .fieldAddr s x f => bnd (E x) fun x => bnd (fieldOf g s f) fun p => match x with
    | .ptr (some a) => bif Nat.beq p.2.size 0 then none else some (.ptr (some (a.1, a.2 + p.1)))
    | _ => none
  | .field s x f => bnd (E x) fun x => bnd (fieldOf g s f) fun p => match x with
    | .agg l => partR p.2 l p.1
    | _ => none
  | .indexAddr ty x i => bnd (E x) fun x => bnd (E i) fun i => bnd (asNat i) fun i => bnd (g.ty ty) fun u => match u.und, x with
    | .slice e, .sl (some a) n es => bnd (g.ty e) fun w => bif Nat.blt i n && Nat.beq w.size es then some (.ptr (some (a.1, a.2 + i * es))) else none
    | .array n e, .ptr (some a) => bnd (g.ty e) fun w => bif Nat.blt i n then some (.ptr (some (a.1, a.2 + i * w.size))) else none
    | _, _ => none
  | .index ty x i => bnd (E x) fun x => bnd (E i) fun i => bnd (asNat i) fun i => bnd (g.ty ty) fun u => match u.und, x with
    | .string, .str s => bnd s[i]? fun b => some (.int .u8 b)
    | .array n e, .agg l => bnd (g.ty e) fun w => bif Nat.blt i n then partR w l (i * w.size) else none
    | _, _ => none
  | .extract x i => bnd (E x) fun x => match x with
    | .tup l => l[i]?
    | _ => none
  | .call c => match c.callee with
    | .builtin .min => bnd (evalOs E c.args.toList) fun l => match l with
      | [.int k x, .int _ y] => some (.int k (if y < x then y else x))
      | _ => none
    | .builtin .cap => bnd (evalOs E c.args.toList) fun l => bnd c.argTypes.toList.head? fun t => bnd (g.ty t) fun u => match u.und, l with
      | .slice _, [.sl none _ _] => some (.int .i64 0)
      | _, _ => none
    | .builtin .max => bnd (evalOs E c.args.toList) fun l => match l with
      | [.int k x, .int _ y] => some (.int k (if x < y then y else x))
      | _ => none
    | .builtin .unsafeSliceData => bnd (evalOs E c.args.toList) fun l => match l with
      | [.sl none _ _] => some (.ptr none)
      | [.sl (some a) n _] => bif Nat.beq n 0 then none else some (.ptr (some a))
      | _ => none
    | _ => none
  | _ => none

/- memory -/
def cellsT (f : Nat) : Nat → List AV → T AV → T AV
  | _, [], t => t
  | i, v :: l, t => cellsT f (i + 1) l (T.set f t i (some v))
def FU : Nat := 24
def newO (σ : St) (o : AO) : Option (Nat × St) := bif Nat.blt σ.nx MX then some (σ.nx, ⟨T.set FU σ.heap σ.nx (some o), σ.nx + 1⟩) else none
def readN (c : T AV) : Nat → Nat → Option (List AV)
  | 0, _ => some []
  | n + 1, i => bnd (c.get i) fun v => bnd (readN c n (i + 1)) fun r => some (v :: r)
def loadN (σ : St) (a : Nat × Nat) (n : Nat) : Option (List AV) :=
  match σ.heap.get a.1 with
  | some (.cells _ c _) => readN c n a.2
  | _ => none
def load (σ : St) (u : Ty) (a : Nat × Nat) : Option AV := bnd (loadN σ a u.size) (mk u)
def storeN (σ : St) (a : Nat × Nat) (vs : List AV) : Option St :=
  match σ.heap.get a.1 with
  | some (.cells n c ty) => bif Nat.ble (a.2 + vs.length) n then some ⟨T.set FU σ.heap a.1 (some (.cells n (cellsT FU a.2 vs c) ty)), σ.nx⟩ else none
  | _ => none
def findK (u : Ty) (k : AV) : List (AV × AV) → Option (Option AV)
  | [] => some none
  | (a, v) :: l => bnd (eqKey u k a) fun r => bif r then some (some v) else findK u k l
def putK (u : Ty) (k v : AV) : List (AV × AV) → Option (List (AV × AV))
  | [] => some [(k, v)]
  | (a, x) :: l => bnd (eqKey u k a) fun r => bif r then some ((k, v) :: l) else bnd (putK u k v l) fun m => some ((a, x) :: m)
def delK (u : Ty) (k : AV) : List (AV × AV) → Option (List (AV × AV))
  | [] => some []
  | (a, x) :: l => bnd (eqKey u k a) fun r => bif r then some l else bnd (delK u k l) fun m => some ((a, x) :: m)
def getMap (σ : St) (r : Nat) : Option (List (AV × AV)) :=
  match σ.heap.get r with | some (.map l) => some l | _ => none
def setMap (σ : St) (r : Nat) (l : List (AV × AV)) : St := ⟨T.set FU σ.heap r (some (.map l)), σ.nx⟩
def strOf : List AV → Option (List Nat)
  | [] => some []
  | .int .u8 n :: l => bif decide (n < 0) || decide (255 < n) then none else bnd (strOf l) fun r => some (n.toNat :: r)
  | _ => none
/-- The key's row of a map's type. -/
def keyTy (g : Prg) (t : TypeId) : Option Ty := bnd (g.ty t) fun u => match u.und with
  | .map k _ => g.ty k
  | _ => none
/-- The array that is sliced: its length, its elements. -/
def arrOf (g : Prg) (u : Ty) : Option (Nat × TypeId) := match u.und with
  | .array n e => some (n, e)
  | .pointer a => bnd (g.ty a) fun w => match w.und with | .array n e => some (n, e) | _ => none
  | _ => none
/-- What reads memory and writes none. -/
def readR (g : Prg) (E : Operand → Option AV) (σ : St) (op : Op) : Option AV :=
  match op with
  | .load ty a => bnd (g.ty ty) fun u => bnd (E a) fun a => match a with
    | .ptr (some a) => load σ u a
    | _ => none
  | .lookup ty m k ok => bnd (E m) fun m => bnd (E k) fun k => bnd (g.ty ty) fun w => match w.und with
    | .map kt e => bnd (g.ty kt) fun q => bnd (g.ty e) fun u => bnd (mk u u.zero) fun z => bnd q.key fun ks => bif keyOk q ks k then
      bnd (match m with | .mp none => some none | .mp (some r) => bnd (getMap σ r) (findK q k) | _ => none) fun r =>
        bif ok then some (.tup [r.getD z, .bool r.isSome]) else some (r.getD z) else none
    | _ => none
  | .slice ty x lo hi none => bnd (E x) fun x => bnd (opt E lo) fun lo => bnd (opt E hi) fun hi => bnd (g.ty ty) fun u => match x with
    | .ptr (some a) => bnd (arrOf g u) fun q => bnd (g.ty q.2) fun w => bnd (boundsOf q.1 lo hi) fun p => match σ.heap.get a.1 with
      | some (.cells k _ _) => bif Nat.ble (a.2 + q.1 * w.size) k then some (.sl (some (a.1, a.2 + p.1 * w.size)) (p.2 - p.1) w.size) else none
      | _ => none
    | _ => none
  | .convert src dst x => bnd (E x) fun x => bnd (g.ty src) fun s => bnd (g.ty dst) fun u => match s.und, u.und, x with
    | .string, .string, .str s => some (.str s)
    | .slice e, .string, .sl none _ _ => bnd (g.ty e) fun w => match w.und with | .int .u8 => some (.str []) | _ => none
    | .slice e, .string, .sl (some a) n _ => bnd (g.ty e) fun w => match w.und with | .int .u8 => bnd (loadN σ a n) fun l => bnd (strOf l) fun s => some (.str s) | _ => none
    | .pointer e, .unsafePointer, .ptr (some a) => bnd (g.ty e) fun w => match σ.heap.get a.1 with
      | some (.cells n _ _) => bif Nat.blt a.2 n && !(Nat.beq w.size 0) then some (.ptr (some a)) else none
      | _ => none
    | .unsafePointer, .pointer e, .ptr (some a) => bnd (g.ty e) fun w => match σ.heap.get a.1 with
      | some (.cells n _ ty) => bif Nat.beq ty e && Nat.beq a.2 0 && Nat.ble w.size n && !(Nat.beq w.size 0) then some (.ptr (some a)) else none
      | _ => none
    | _, _, _ => none
  | .call c => match c.callee with
    | .builtin .len => bnd (evalOs E c.args.toList) fun l => bnd c.argTypes.toList.head? fun t => bnd (g.ty t) fun u => match u.und, l with
      | .slice _, [.sl _ n _] => some (.int .i64 n)
      | .string, [.str s] => some (.int .i64 s.length)
      | .map _ _, [.mp none] => some (.int .i64 0)
      | .map _ _, [.mp (some r)] => bnd (getMap σ r) fun l => some (.int .i64 l.length)
      | .array n _, [_] => some (.int .i64 n)
      | .pointer a, [_] => bnd (g.ty a) fun w => match w.und with | .array n _ => some (.int .i64 n) | _ => none
      | _, _ => none
    | _ => none
  | _ => none
/-- A new block. -/
inductive Fresh where
  | row (l : List AV) (ty : TypeId)
  | map
def Fresh.obj : Fresh → Option AO
  | .row l ty => bif Nat.blt l.length MX then some (.cells l.length (cellsT FU 0 l .leaf) ty) else none
  | .map => some (.map [])
def newF (σ : St) (f : Fresh) : Option (Nat × St) := bnd f.obj (newO σ)
/-- What it makes, and what it gives: 0 a pointer, 1 a map, else a slice (length, cells of an element). -/
inductive Give where
  | ptr | mp | sl (n es : Nat)
def Give.val : Give → Nat → AV
  | .ptr, n => .ptr (some (n, 0))
  | .mp, n => .mp (some n)
  | .sl l es, n => .sl (some (n, 0)) l es
/-- What makes a block. -/
def freshR (g : Prg) (E : Operand → Option AV) (op : Op) : Option (Fresh × Give) :=
  match op with
  | .alloc e => bnd (g.ty e) fun u => some (.row u.zero e, .ptr)
  | .box e x => bnd (E x) fun v => bif onesB v.cells then some (.row v.cells e, .ptr) else none
  | .buildSlice ty n ps => bnd (elemId g ty) fun e => bnd (g.ty e) fun u => bnd (evalPs E ps.toList) fun ps =>
      bif Nat.ble (n * u.size) 1000000 then (bnd (fillR (fun i => some (i * u.size, u.size)) (rep n u.zero) ps) fun l => bif onesB l then some (.row l e, .sl n u.size) else none) else none
  | .makeSlice ty l c => bnd (elemId g ty) fun e => bnd (g.ty e) fun u => bnd (E l) fun l => bnd (E c) fun c => bnd (asNat l) fun l => bnd (asNat c) fun c =>
      bif Nat.ble l c && Nat.ble c 1000000 && Nat.ble u.bytes 1000000 then some (.row (rep c u.zero) e, .sl l u.size) else none
  | .makeMap ty r => bnd (opt E r) fun r => bnd (keyTy g ty) fun _ => match r with
    | none => some (.map, .mp)
    | some (.int _ _) => some (.map, .mp)
    | _ => none
  | .convert src dst x => bnd (E x) fun x => bnd (g.ty src) fun s => bnd (g.ty dst) fun u => match s.und, u.und, x with
    | .string, .slice e, .str s => bnd (g.ty e) fun w => match w.und with | .int .u8 => bif Nat.beq w.size 1 then some (.row (s.map fun b : Nat => AV.int .u8 (b : Int)) e, .sl s.length 1) else none | _ => none
    | _, _, _ => none
  | _ => none
inductive R where
  | val (v : AV) (σ : St)
  | call (f : FuncId) (args : List AV)
def V (v : AV) (σ : St) : Option R := some (.val v σ)
def lenOf : AV → Option Nat
  | .sl _ n _ => some n
  | .str s => some s.length
  | _ => none
/-- The elements of a slice or a string, as cells. -/
def firstN (σ : St) (size n : Nat) : AV → Option (List AV)
  | .sl none _ _ => some []
  | .sl (some a) _ _ => loadN σ a (n * size)
  | .str s => some ((s.take n).map fun b : Nat => AV.int .u8 (b : Int))
  | _ => none
/-- What a pointer to bytes points to. -/
def elemP (g : Prg) (t : TypeId) : Option TypeId := bnd (g.ty t) fun u => match u.und with
  | .pointer e => bnd (g.ty e) fun w => match w.und with | .int .u8 => bif Nat.beq w.size 1 then some e else none | _ => none
  | _ => none
def head2 : List TypeId → Option TypeId
  | [t, _] => some t
  | _ => none
def kill (σ : St) (b : Nat) : St := ⟨T.set FU σ.heap b (some .dead), σ.nx⟩
/-- An appended row: the elder name is dead, if there was one. -/
def appendR (σ : St) (a : Option (Nat × Nat)) (n m es : Nat) (old new : List AV) (e : TypeId) : Option R :=
  match a with
  | none => match m with
    | 0 => V (.sl none 0 es) σ
    | _ => bnd (newF σ (.row new e)) fun p => V (.sl (some (p.1, 0)) (n + m) es) p.2
  | some b => match σ.heap.get b.1 with
    | some (.cells _ _ ty) => bif Nat.beq ty e && Nat.beq b.2 0 then bnd (newF (kill σ b.1) (.row (old ++ new) e)) fun p => V (.sl (some (p.1, 0)) (n + m) es) p.2 else none
    | _ => none
/-- How many elements are appended: a slice's, a string's, or so many zeros. -/
def countOf (u : Ty) (x : AV) : Option Nat := match u.und, x with
  | .slice _, .sl _ n _ => some n
  | .string, .str s => some s.length
  | .int _, .int _ n => bif decide (n < 0) || decide (1000000 < n) then none else some n.toNat
  | _, _ => none
def newN (σ : St) (u : Ty) (m : Nat) (a : Option (Nat × Nat)) (x : AV) : Option (List AV) := match x with
  | .int _ _ => match a with
    | none => bif Nat.beq m 0 || Nat.beq u.size 0 then none else some (rep m u.zero)
    | some _ => none
  | .str s => bif Nat.beq u.size 1 then firstN σ 1 m (.str s) else none
  | x => firstN σ u.size m x
def builtinR (g : Prg) (σ : St) (b : Builtin) (tys : List TypeId) (args : List AV) : Option R :=
  match b, args with
  | .append, [.sl a n es, x] => bnd tys.head? fun t => bnd (elemId g t) fun e => bnd (g.ty e) fun u => bnd tys[1]? fun t1 => bnd (g.ty t1) fun u1 => bnd (countOf u1 x) fun m =>
      bif (match a with | none => true | some _ => Nat.beq u.size es) && Nat.ble (n + m) 1000000 && Nat.ble u.bytes 1000000 then
      bnd (firstN σ u.size n (.sl a n es)) fun old => bnd (newN σ u m a x) fun new => appendR σ a n m u.size old new e else none
  | .copy, [.sl a n _, x] => bnd tys.head? fun t => bnd (elemId g t) fun e => bnd (g.ty e) fun u => bnd (lenOf x) fun m =>
      bnd (firstN σ u.size (Nat.min m n) x) fun new => match a with
        | none => V (.int .i64 (Nat.min m n)) σ
        | some a => bnd (storeN σ a new) fun σ => V (.int .i64 (Nat.min m n)) σ
  | .clear, [.mp none] => bnd tys.head? fun t => bnd (g.ty t) fun _ => V (.tup []) σ
  | .clear, [.mp (some r)] => bnd tys.head? fun t => bnd (keyTy g t) fun _ => bnd (getMap σ r) fun _ => V (.tup []) (setMap σ r [])
  | .clear, [.sl a n _] => bnd tys.head? fun t => bnd (elemId g t) fun e => bnd (g.ty e) fun u => match n, a with
      | 0, _ => V (.tup []) σ
      | _, none => V (.tup []) σ
      | _, some a => bnd (storeN σ a (rep n u.zero)) fun σ => V (.tup []) σ
  | .unsafeString, [.ptr none, .int .i64 n] => bif eqI n 0 then bnd (head2 tys) fun _ => V (.str []) σ else none
  | .unsafeString, [.ptr (some a), .int .i64 n] => bif decide (n < 0) || Nat.beq n.toNat 0 then none else bnd (head2 tys) fun t => bnd (elemP g t) fun e => match σ.heap.get a.1 with
      | some (.cells k _ ty) => bif Nat.beq ty e && Nat.beq a.2 0 && Nat.ble n.toNat k then bnd (loadN σ a n.toNat) fun l => bnd (strOf l) fun s => V (.str s) (kill σ a.1) else none
      | _ => none
  | .delete, [.mp none, k] => bnd tys.head? fun t => bnd (keyTy g t) fun q => bnd q.key fun ks => bif keyOk q ks k then V (.tup []) σ else none
  | .delete, [.mp (some r), k] => bnd tys.head? fun t => bnd (keyTy g t) fun q => bnd q.key fun ks => bif keyOk q ks k then bnd (getMap σ r) fun l => bnd (delK q k l) fun l => V (.tup []) (setMap σ r l) else none
  | _, _ => none
/-- What writes. -/
def writeR (g : Prg) (E : Operand → Option AV) (σ : St) (op : Op) : Option R :=
  match op with
  | .store ty a x => bnd (g.ty ty) fun u => bnd (E a) fun a => bnd (E x) fun x => match a with
    | .ptr (some a) => bif Nat.beq x.cells.length u.size && onesB x.cells then bnd (storeN σ a x.cells) fun σ => V un σ else none
    | _ => none
  | .mapUpdate ty m k x | .insert ty m k x => bnd (E m) fun m => bnd (E k) fun k => bnd (E x) fun x => bnd (keyTy g ty) fun q => bnd q.key fun ks => bif keyOk q ks k then match m with
    | .mp (some r) => bnd (getMap σ r) fun l => bnd (putK q k x l) fun l => V un (setMap σ r l)
    | _ => none else none
  | .call c => bnd (evalOs E c.args.toList) fun args => match c.callee with
    | .builtin b => builtinR g σ b c.argTypes.toList args
    | .value f => bnd (E f) fun f => match f with
      | .fn (.func f) first caps => some (.call f (first ++ args ++ caps))
      | _ => none
    | _ => none
  | _ => none
/-- How an operation behaves to others: 0 it reads no memory; 1 it reads; 2 it makes a block; 3 it writes or calls. -/
def cls (g : Prg) (op : Op) : Nat :=
  match op with
  | .load _ _ | .lookup _ _ _ _ => 1
  | .alloc _ | .box _ _ | .buildSlice _ _ _ | .makeSlice _ _ _ | .makeMap _ _ => 2
  | .slice ty _ _ _ _ => match g.ty ty with
    | some u => match u.und with
      | .string => 0
      | .slice _ => 0
      | _ => 1
    | none => 0
  | .convert _ dst _ => match g.ty dst with
    | some u => match u.und with
      | .string => 1
      | .slice _ => 2
      | .pointer _ => 1
      | .unsafePointer => 1
      | _ => 0
    | none => 0
  | .call c => match c.callee with
    | .builtin .len => 1
    | .builtin .min | .builtin .max | .builtin .unsafeSliceData | .builtin .cap => 0
    | _ => 3
  | .store _ _ _ | .mapUpdate _ _ _ _ | .insert _ _ _ _ | .assign _ => 3
  | _ => 0
def execR (g : Prg) (t : T AV) (σ : St) (op : Op) : Option R :=
  match cls g op with
  | 0 => bnd (pureR g (evalO t) op) fun v => V v σ
  | 1 => bnd (readR g (evalO t) σ op) fun v => V v σ
  | 2 => bnd (freshR g (evalO t) op) fun p => bnd (newF σ p.1) fun q => V (p.2.val q.1) q.2
  | _ => match op with
    | .assign x => bnd (evalO t x) fun v => V v σ
    | op => writeR g (evalO t) σ op

/- control -/
inductive X where
  | normal | exit (id : Nat) | goto (l : Nat) | ret
structure Fr where
  t : T AV
  σ : St
def put (t : T AV) (d : Option Tmp) (v : AV) : T AV := match d with | none => t | some d => T.set FU t d (some v)
/-- Is it wanted? None: that can't be told. -/
def wantedA (ops : List Oper) (t : T AV) (o : Oper) : Option Bool :=
  match o.guard with
  | none => some true
  | some (j, want) => bnd ops[j]? fun p => bnd p.dst fun d => match (t.get d).getD un with
      | .bool b => some (b == want)
      | .tup _ => some false
      | _ => none
/-- Sets of operations: numbers, bit by bit. -/
def bit (s i : Nat) : Bool := Nat.beq (Nat.land (Nat.shiftRight s i) 1) 1
def add (s i : Nat) : Nat := Nat.lor s (Nat.shiftLeft 1 i)
/-- What stands ahead of each operation. -/
def aheadOf (acc : List Nat) : List Edge → Nat
  | [] => 0
  | e :: l => bif Region.binds .any e then Nat.lor (Nat.lor (Nat.shiftLeft 1 e.on) (acc.getD e.on 0)) (aheadOf acc l) else aheadOf acc l
def aheadL : List Nat → List Oper → List Nat
  | acc, [] => acc
  | acc, o :: l => aheadL (acc ++ [aheadOf acc o.after.toList]) l
/-- All that stands right ahead of it is done. -/
def readyA (done : Nat) : List Edge → Bool
  | [] => true
  | e :: l => (!(Region.binds .any e) || bit done e.on) && readyA done l
/-- The one that is ready; more than one: none. -/
def pickW (done : Nat) : Nat → List Oper → Option (Option Nat)
  | _, [] => some none
  | i, o :: l => bif !(bit done i) && readyA done o.after.toList then (match pickW done (i + 1) l with | some none => some (some i) | _ => none) else pickW done (i + 1) l
def resultsA (g : Prg) (fr : Fr) : List ResultVar → Option (List AV)
  | [] => some []
  | .tmp t :: l => bnd (resultsA g fr l) fun r => some ((fr.t.get t).getD un :: r)
  | .cell a ty :: l => match fr.t.get a with
    | some (.ptr (some a)) => bnd (g.ty ty) fun u => bnd (load fr.σ u a) fun v => bnd (resultsA g fr l) fun r => some (v :: r)
    | _ => none
/-- An operation that calls nothing. -/
def oneQ (g : Prg) (ops : List Oper) (o : Oper) (fr : Fr) : Option Fr :=
  bnd (wantedA ops fr.t o) fun b => bif b then bnd (execR g fr.t fr.σ o.op) fun r => match r with
      | .val v σ => some ⟨put fr.t o.dst v, σ⟩
      | .call _ _ => none
    else some ⟨put fr.t o.dst un, fr.σ⟩
/-- All that is ready and doesn't write. -/
def quietR (g : Prg) (ops : List Oper) : Nat → List Oper → Nat → Fr → Option (Nat × Fr)
  | _, [], done, fr => some (done, fr)
  | i, o :: l, done, fr => bif !(bit done i) && !(Nat.beq (cls g o.op) 3) && readyA done o.after.toList then bnd (oneQ g ops o fr) fun fr => quietR g ops (i + 1) l (add done i) fr else quietR g ops (i + 1) l done fr
/-- What has read and isn't surely behind it gives the same again. -/
def againR (g : Prg) (ops : List Oper) (done settled : Nat) (fr : Fr) : Nat → List Oper → Bool
  | _, [] => true
  | i, o :: l => (bif bit done i && !(bit settled i) && Nat.beq (cls g o.op) 1 then (match wantedA ops fr.t o with
      | some true => (match readR g (evalO fr.t) fr.σ o.op, o.dst with
        | some v, some d => eqA v ((fr.t.get d).getD un)
        | some _, none => true
        | none, _ => false)
      | some false => true
      | none => false) else true) && againR g ops done settled fr (i + 1) l
/- what is checked of the code once -/
def looks (ops : List Oper) (o : Oper) : List Tmp :=
  (o.op.operands.toList.filterMap fun | .tmp t => some t | _ => none) ++
  (match o.guard with
   | some (j, _) => ((ops[j]?).bind (·.dst)).toList
   | none => [])
def isTmp (d : Tmp) : Option Tmp → Bool | some e => Nat.beq d e | none => false
def inL (d : Tmp) : List Tmp → Bool | [] => false | e :: l => Nat.beq d e || inL d l
/-- Operation i writes d: the others that name d stand in order with it; one that is quiet is ahead of them. -/
def pairsOk (g : Prg) (ops : List Oper) (pre : List Nat) (i : Nat) (o : Oper) (d : Tmp) : Nat → List Oper → Bool
  | _, [] => true
  | j, p :: l => (bif isTmp d p.dst || inL d (looks ops p) then
      (bif Nat.beq i j then Nat.beq (cls g o.op) 3 || !(inL d (looks ops p)) else bif Nat.blt i j then bit (pre.getD j 0) i else Nat.beq (cls g o.op) 3 && bit (pre.getD i 0) j) else true) && pairsOk g ops pre i o d (j + 1) l
def backOk (i : Nat) : List Edge → Bool
  | [] => true
  | e :: l => (!(Region.binds .any e) || Nat.blt e.on i) && backOk i l
def drawOk (g : Prg) (ops : List Oper) (pre : List Nat) : Nat → List Oper → Bool
  | _, [] => true
  | i, o :: l => backOk i o.after.toList && (match o.dst with | none => true | some d => pairsOk g ops pre i o d 0 ops) && drawOk g ops pre (i + 1) l
def dstOk (n : Nat) : List Oper → Bool
  | [] => true
  | o :: l => (match o.dst with | none => true | some d => Nat.blt d n) && dstOk n l
def codeOk (g : Prg) (n : Nat) : Code → Bool
  | .region _ ops draw => dstOk n ops.toList && (bif draw then drawOk g ops.toList (aheadL [] ops.toList) 0 ops.toList else true)
  | .seq a b => codeOk g n a && codeOk g n b
  | .cond _ a b => codeOk g n a && codeOk g n b
  | .block _ a => codeOk g n a
  | .loop a => codeOk g n a
  | _ => true
mutual
/-- A function's call. -/
def call (g : Prg) : Nat → FuncId → List AV → St → Option (AV × St)
  | 0, _, _, _ => none
  | n + 1, f, args, σ =>
    match g.known f with
    | some k => k args σ
    | none => bnd (g.fn f) fun F => bif Nat.blt args.length MX && Nat.blt F.ntmps MX then bnd (code g n F.body ⟨cellsT FU 0 args .leaf, σ⟩) fun p =>
      match p.1 with
      | .normal | .ret => bnd (resultsA g p.2 F.results) fun vs => match vs with
        | [v] => some (v, p.2.σ)
        | vs => some (.tup vs, p.2.σ)
      | _ => none
      else none
def code (g : Prg) : Nat → Code → Fr → Option (X × Fr)
  | 0, _, _ => none
  | n + 1, c, fr => match c with
    | .skip => some (.normal, fr)
    | .label _ => some (.normal, fr)
    | .ret => some (.ret, fr)
    | .exit id => some (.exit id, fr)
    | .seq a b => bnd (code g n a fr) fun p => match p.1 with
      | .normal => code g n b p.2
      | x => some (x, p.2)
    | .cond c a b => match evalO fr.t c with
      | some (.bool true) => code g n a fr
      | some (.bool false) => code g n b fr
      | _ => none
    | .block id b => bnd (code g n b fr) fun p => match p.1 with
      | .exit j => bif Nat.beq j id then some (.normal, p.2) else some (.exit j, p.2)
      | x => some (x, p.2)
    | .loop b => bnd (code g n b fr) fun p => match p.1 with
      | .normal => code g n (.loop b) p.2
      | x => some (x, p.2)
    | .region _ ops draw => bnd (bif draw then anyR g n ops.toList (aheadL [] ops.toList) 0 0 fr else seqR g n ops.toList ops.toList fr) fun fr => some (.normal, fr)
    | _ => none
def one (g : Prg) : Nat → List Oper → Oper → Fr → Option Fr
  | 0, _, _, _ => none
  | n + 1, ops, o, fr => bnd (wantedA ops fr.t o) fun b =>
    bif b then bnd (execR g fr.t fr.σ o.op) fun r => match r with
      | .val v σ => some ⟨put fr.t o.dst v, σ⟩
      | .call f args => bnd (call g n f args fr.σ) fun p => some ⟨put fr.t o.dst p.1, p.2⟩
    else some ⟨put fr.t o.dst un, fr.σ⟩
def seqR (g : Prg) : Nat → List Oper → List Oper → Fr → Option Fr
  | 0, _, _, _ => none
  | _ + 1, _, [], fr => some fr
  | n + 1, ops, o :: l, fr => bnd (one g n ops o fr) fun fr => seqR g n ops l fr
/-- All that is ready and doesn't write, in the order of the text; then the one that writes. -/
def anyR (g : Prg) : Nat → List Oper → List Nat → Nat → Nat → Fr → Option Fr
  | 0, _, _, _, _, _ => none
  | n + 1, ops, pre, done, settled, fr =>
    bnd (quietR g ops 0 ops done fr) fun q =>
    bif againR g ops q.1 settled q.2 0 ops then
      bnd (pickW q.1 0 ops) fun k => match k with
      | none => some q.2
      | some i => bnd ops[i]? fun o => bnd (one g n ops o q.2) fun fr => anyR g n ops pre (add q.1 i) (Nat.lor settled (add (pre.getD i 0) i)) fr
    else none
end
end Go.Proofs.YtijiggolphppbaaGreatDoor.Ev
namespace Go.Proofs.YtijiggolphppbaaGreatDoor.Ev
theorem T.get_leaf {α : Type} (n : Nat) : (T.leaf : T α).get n = none := by cases n <;> rfl
theorem T.get_zero {α : Type} (l r : T α) (v : Option α) : (T.node l v r).get 0 = v := rfl
theorem T.get_succ {α : Type} (l r : T α) (v : Option α) (m : Nat) : (T.node l v r).get (m + 1) = if m % 2 = 0 then l.get (m / 2) else r.get (m / 2) := by
  show (bif Nat.beq (m % 2) 0 then l.get (m / 2) else r.get (m / 2)) = _
  by_cases h : m % 2 = 0
  · rw [if_pos h, h]; rfl
  · rw [if_neg h]
    have : Nat.beq (m % 2) 0 = false := by
      cases hb : Nat.beq (m % 2) 0 with
      | false => rfl
      | true => exact absurd (Nat.eq_of_beq_eq_true hb) h
    rw [this]; rfl
theorem T.get_set {α : Type} : ∀ (f : Nat) (t : T α) (n : Nat) (x : Option α) (m : Nat), n + 1 < 2 ^ f → (T.set f t n x).get m = if m = n then x else t.get m
  | 0, t, n, x, m, h => by simp at h
  | f + 1, t, n, x, m, h => by
    have hf : ∀ k, n = k + 1 → k / 2 + 1 < 2 ^ f := by
      intro k hk
      have : 2 ^ (f + 1) = 2 * 2 ^ f := by rw [Nat.pow_succ, Nat.mul_comm]
      omega
    have key : ∀ (l r : T α) (v : Option α), (match n with
        | 0 => T.node l x r
        | k + 1 => bif Nat.beq (k % 2) 0 then .node (T.set f l (k / 2) x) v r else .node l v (T.set f r (k / 2) x)).get m = if m = n then x else (T.node l v r).get m := by
      intro l r v
      cases n with
      | zero =>
        cases m with
        | zero => rfl
        | succ j => rw [if_neg (by omega)]; show (T.node l x r).get (j + 1) = _; rw [T.get_succ, T.get_succ]
      | succ k =>
        have ih := fun (t : T α) (j : Nat) => T.get_set f t (k / 2) x j (hf k rfl)
        have hb : Nat.beq (k % 2) 0 = decide (k % 2 = 0) := by
          cases hb : Nat.beq (k % 2) 0 with
          | true => exact (decide_eq_true (Nat.eq_of_beq_eq_true hb)).symm
          | false => exact (decide_eq_false (fun e => by rw [e] at hb; cases hb)).symm
        show (bif Nat.beq (k % 2) 0 then T.node (T.set f l (k / 2) x) v r else .node l v (T.set f r (k / 2) x)).get m = _
        rw [hb]
        by_cases h2 : k % 2 = 0
        · rw [decide_eq_true h2]
          show (T.node (T.set f l (k / 2) x) v r).get m = _
          cases m with
          | zero => rw [if_neg (by omega)]; rfl
          | succ j =>
            rw [T.get_succ, T.get_succ]
            by_cases h3 : j % 2 = 0
            · rw [if_pos h3, if_pos h3, ih]
              by_cases h4 : j = k
              · subst h4; simp
              · rw [if_neg (by omega), if_neg (by omega)]
            · rw [if_neg h3, if_neg h3, if_neg (by omega)]
        · rw [decide_eq_false h2]
          show (T.node l v (T.set f r (k / 2) x)).get m = _
          cases m with
          | zero => rw [if_neg (by omega)]; rfl
          | succ j =>
            rw [T.get_succ, T.get_succ]
            by_cases h3 : j % 2 = 0
            · rw [if_pos h3, if_pos h3, if_neg (by omega)]
            · rw [if_neg h3, if_neg h3, ih]
              by_cases h4 : j = k
              · subst h4; simp
              · rw [if_neg (by omega), if_neg (by omega)]
    cases t with
    | leaf =>
      have h1 : T.set (f + 1) (T.leaf : T α) n x = (match n with
        | 0 => T.node .leaf x .leaf
        | k + 1 => bif Nat.beq (k % 2) 0 then .node (T.set f .leaf (k / 2) x) none .leaf else .node .leaf none (T.set f .leaf (k / 2) x)) := by cases n <;> rfl
      rw [h1, key]
      have : (T.node (.leaf : T α) none .leaf).get m = (T.leaf : T α).get m := by
        cases m with
        | zero => rfl
        | succ j => rw [T.get_succ, T.get_leaf, T.get_leaf]; split <;> rfl
      rw [this]
    | node l v r =>
      have h1 : T.set (f + 1) (T.node l v r) n x = (match n with
        | 0 => T.node l x r
        | k + 1 => bif Nat.beq (k % 2) 0 then .node (T.set f l (k / 2) x) v r else .node l v (T.set f r (k / 2) x)) := by cases n <;> rfl
      rw [h1, key]
end Go.Proofs.YtijiggolphppbaaGreatDoor.Ev
namespace Go.Proofs.YtijiggolphppbaaGreatDoor.Ev
open Go

/-- The names that are there, where they lie (block, offset), and how many cells each block has. -/
structure Cx where
  D : Nat → Prop
  ρ : Nat → Nat × Nat
  L : Nat → Nat
  X : Nat → Value
  W : World
def Cx.le (c d : Cx) : Prop := (∀ n, c.D n → d.D n ∧ d.ρ n = c.ρ n) ∧ (∀ b, c.L b ≤ d.L b) ∧ d.X = c.X ∧ d.W = c.W
theorem Cx.le.refl (c : Cx) : c.le c := ⟨fun _ h => ⟨h, rfl⟩, fun _ => Nat.le_refl _, rfl, rfl⟩
theorem Cx.le.trans {a b c : Cx} (h : a.le b) (k : b.le c) : a.le c :=
  ⟨fun n hn => ⟨(k.1 n (h.1 n hn).1).1, (k.1 n (h.1 n hn).1).2.trans (h.1 n hn).2⟩, fun b => Nat.le_trans (h.2.1 b) (k.2.1 b), k.2.2.1.trans h.2.2.1, k.2.2.2.trans h.2.2.2⟩
def bsN (s : List Nat) : ByteArray := ⟨(s.map UInt8.ofNat).toArray⟩
mutual
inductive VR (c : Cx) : AV → Value → Prop
  | bool (b : Bool) : VR c (.bool b) (.bool b)
  | int (k : IntKind) (n : Int) : VR c (.int k n) (.int k n)
  | str (s : List Nat) (h : ∀ b ∈ s, b < 256) : VR c (.str s) (.string (bsN s))
  | ptr0 : VR c (.ptr none) (.pointer none)
  | ptr (n i : Nat) (h : c.D n) : VR c (.ptr (some (n, i))) (.pointer (some ⟨(c.ρ n).1, (c.ρ n).2 + i, none⟩))
  | sl0 (es : Nat) : VR c (.sl none 0 es) (.slice none 0 0)
  | sl (n i len es cap off : Nat) (h : c.D n) (hc : len ≤ cap) (ho : cap = 0 ∨ off = (c.ρ n).2 + i) (hl : (c.ρ n).2 + i + cap * es ≤ c.L (c.ρ n).1) : VR c (.sl (some (n, i)) len es) (.slice (some ⟨(c.ρ n).1, off, none⟩) len cap)
  | mp0 : VR c (.mp none) (.map none)
  | mp (r : Nat) (h : c.D r) : VR c (.mp (some r)) (.map (some (c.ρ r).1))
  | nilFn : VR c .nilFn .nilFunc
  | nilI : VR c .nilI .nilIface
  | fn (f : Fn) {a b : List AV} {a' b' : List Value} (ha : VRs c a a') (hb : VRs c b b') : VR c (.fn f a b) (.func f a'.toArray b'.toArray)
  | agg {l : List AV} {l' : List Value} (h : VRs c l l') : VR c (.agg l) (.agg l'.toArray)
  | tup {l : List AV} {l' : List Value} (h : VRs c l l') : VR c (.tup l) (.tuple l'.toArray)
  | x (i : Nat) (h : (c.X i).oneCell = true) : VR c (.x i) (c.X i)
inductive VRs (c : Cx) : List AV → List Value → Prop
  | nil : VRs c [] []
  | cons {a : AV} {v : Value} {l : List AV} {l' : List Value} (h : VR c a v) (t : VRs c l l') : VRs c (a :: l) (v :: l')
end
mutual
theorem VR.mono {c d : Cx} (hle : c.le d) : ∀ {a : AV} {v : Value}, VR c a v → VR d a v
  | _, _, .bool b => .bool b
  | _, _, .int k n => .int k n
  | _, _, .str s h => .str s h
  | _, _, .ptr0 => .ptr0
  | _, _, .ptr n i h => by
    obtain ⟨h1, h2⟩ := hle.1 n h
    rw [← h2]
    exact .ptr n i h1
  | _, _, .sl0 es => .sl0 es
  | _, _, .sl n i len es cap off h hc ho hl => by
    obtain ⟨h1, h2⟩ := hle.1 n h
    rw [← h2] at hl ho ⊢
    exact .sl n i len es cap off h1 hc ho (Nat.le_trans hl (hle.2.1 _))
  | _, _, .mp0 => .mp0
  | _, _, .mp r h => by
    obtain ⟨h1, h2⟩ := hle.1 r h
    rw [← h2]
    exact .mp r h1
  | _, _, .nilFn => .nilFn
  | _, _, .nilI => .nilI
  | _, _, .fn f ha hb => .fn f (VRs.mono hle ha) (VRs.mono hle hb)
  | _, _, .agg h => .agg (VRs.mono hle h)
  | _, _, .tup h => .tup (VRs.mono hle h)
  | _, _, .x i h => by
    have e : c.X i = d.X i := by rw [hle.2.2.1]
    rw [e] at h ⊢
    exact .x i h
theorem VRs.mono {c d : Cx} (hle : c.le d) : ∀ {l : List AV} {l' : List Value}, VRs c l l' → VRs d l l'
  | _, _, .nil => .nil
  | _, _, .cons h t => .cons (VR.mono hle h) (VRs.mono hle t)
end
theorem VR.un (c : Cx) : VR c un undef := .tup .nil
theorem VRs.len {c : Cx} : ∀ {l : List AV} {l' : List Value}, VRs c l l' → l.length = l'.length
  | _, _, .nil => rfl
  | _, _, .cons _ t => by simp [VRs.len t]
theorem VRs.append {c : Cx} : ∀ {l m : List AV} {l' m' : List Value}, VRs c l l' → VRs c m m' → VRs c (l ++ m) (l' ++ m')
  | _, _, _, _, .nil, h => h
  | _, _, _, _, .cons h t, k => .cons h (VRs.append t k)
theorem VRs.get {c : Cx} : ∀ {l : List AV} {l' : List Value}, VRs c l l' → ∀ {i : Nat} {a : AV}, l[i]? = some a → ∃ v, l'[i]? = some v ∧ VR c a v
  | _, _, .nil, i, a, h => by simp at h
  | _, _, .cons (v := v) h t, 0, a, e => by
    simp at e
    subst e
    exact ⟨v, rfl, h⟩
  | _, _, .cons h t, i + 1, a, e => by
    simp at e
    obtain ⟨v, h1, h2⟩ := VRs.get t e
    exact ⟨v, by simpa using h1, h2⟩
theorem VR.one {c : Cx} {a : AV} {v : Value} (h : VR c a v) (ha : a.one = true) : v.oneCell = true := by
  cases h <;> first | rfl | (cases ha; done) | assumption
/-- The cells of a value. -/
theorem VR.cells {c : Cx} {a : AV} {v : Value} (h : VR c a v) : VRs c a.cells v.cells.toList := by
  cases h with
  | agg h => simpa [AV.cells, Value.cells] using h
  | bool b => exact .cons (.bool b) .nil
  | int k n => exact .cons (.int k n) .nil
  | str s h => exact .cons (.str s h) .nil
  | ptr0 => exact .cons .ptr0 .nil
  | ptr n i h => exact .cons (.ptr n i h) .nil
  | sl0 es => exact .cons (.sl0 es) .nil
  | sl n i len es cap off h hc ho hl => exact .cons (.sl n i len es cap off h hc ho hl) .nil
  | mp0 => exact .cons .mp0 .nil
  | mp r h => exact .cons (.mp r h) .nil
  | nilFn => exact .cons .nilFn .nil
  | nilI => exact .cons .nilI .nil
  | fn f ha hb => exact .cons (.fn f ha hb) .nil
  | tup h => exact .cons (.tup h) .nil
  | x i h =>
    have e : (c.X i).cells.toList = [c.X i] := by
      cases hx : c.X i <;> first | rfl | (rw [hx] at h; cases h)
    rw [e]
    exact .cons (.x i h) .nil

/-- The maps' entries. -/
inductive ER (c : Cx) : List (AV × AV) → List MapEntry → Prop
  | nil : ER c [] []
  | cons {k v : AV} {e : MapEntry} {l : List (AV × AV)} {l' : List MapEntry} (hk : VR c k e.key) (hv : VR c v e.val) (t : ER c l l') : ER c ((k, v) :: l) (e :: l')
def AO.alive : AO → Bool
  | .dead => false
  | _ => true
/-- The heap's blocks are those of the world. -/
structure Sim (c : Cx) (σ : St) (w : World) : Prop where
  nx : ∀ n, c.D n → n < σ.nx
  mx : σ.nx ≤ MX + 1
  top : ∀ b, w.heap.size ≤ b → c.L b = 0
  inj : ∀ m n o p, c.D m → c.D n → σ.heap.get m = some o → σ.heap.get n = some p → o.alive = true → p.alive = true → (c.ρ m).1 = (c.ρ n).1 → m = n
  cells : ∀ n k t ty, c.D n → σ.heap.get n = some (.cells k t ty) → ∃ cs lo hi, w.heap[(c.ρ n).1]? = some (.cells cs ty (lo, hi)) ∧ c.L (c.ρ n).1 = cs.size ∧ k ≤ MX ∧ (c.ρ n).2 + k ≤ cs.size ∧
    (∀ i, i < cs.size → ¬ (lo ≤ i ∧ i < hi)) ∧ ∀ i a, t.get i = some a → i < k ∧ ∃ v, cs[(c.ρ n).2 + i]? = some v ∧ VR c a v ∧ a.one = true
  zero : ∀ n, c.D n → (c.ρ n).2 = 0
  maps : ∀ n l, c.D n → σ.heap.get n = some (.map l) → ∃ es clock, w.heap[(c.ρ n).1]? = some (.map es clock) ∧ ER c l es.toList ∧ MapKept.Stamped es clock
  base : c.W.heap.size ≤ w.heap.size ∧ ∀ b, b < c.W.heap.size → w.heap[b]? = c.W.heap[b]?
  far : ∀ n, c.D n → c.W.heap.size ≤ (c.ρ n).1
end Go.Proofs.YtijiggolphppbaaGreatDoor.Ev
namespace Go.Proofs.YtijiggolphppbaaGreatDoor.Ev
open Go

theorem bnd_eq {α β : Type} {x : Option α} {f : α → Option β} {b : β} : bnd x f = some b ↔ ∃ a, x = some a ∧ f a = some b := by
  cases x <;> simp [bnd]
theorem bif_eq {α : Type} {b : Bool} {x : Option α} {y : α} : (bif b then x else none) = some y ↔ b = true ∧ x = some y := by
  cases b <;> simp
theorem bif_eq' {α : Type} {b : Bool} {x : Option α} {y : α} : (bif b then none else x) = some y ↔ b = false ∧ x = some y := by
  cases b <;> simp
theorem beq_eq {a b : Nat} : Nat.beq a b = true ↔ a = b := by simp
theorem ble_eq {a b : Nat} : Nat.ble a b = true ↔ a ≤ b := by simp
theorem blt_eq {a b : Nat} : Nat.blt a b = true ↔ a < b := by simp
theorem eqK_eq {j k : IntKind} : eqK j k = true ↔ j = k := by
  cases j <;> cases k <;> decide
theorem eqI_eq {a b : Int} : eqI a b = true ↔ a = b := by
  cases a <;> cases b <;> simp [eqI] <;> omega
theorem eqI_beq {a b : Int} : eqI a b = (a == b) := by
  rw [Bool.eq_iff_iff, eqI_eq, beq_iff_eq]
theorem eqN_eq : ∀ {a b : List Nat}, eqN a b = true ↔ a = b
  | [], [] => by simp [eqN]
  | [], _ :: _ => by simp [eqN]
  | _ :: _, [] => by simp [eqN]
  | a :: x, b :: y => by simp [eqN, eqN_eq]
mutual
theorem eqA_sound : ∀ {a b : AV}, eqA a b = true → a = b
  | .bool a, .bool b, h => by simp [eqA] at h; rw [h]
  | .int j a, .int k b, h => by simp [eqA, eqK_eq, eqI_eq] at h; rw [h.1, h.2]
  | .str a, .str b, h => by simp [eqA, eqN_eq] at h; rw [h]
  | .ptr none, .ptr none, _ => rfl
  | .ptr (some (a, i)), .ptr (some (b, j)), h => by simp [eqA] at h; rw [h.1, h.2]
  | .sl none n e, .sl none m f, h => by simp [eqA] at h; rw [h.1, h.2]
  | .sl (some (a, i)) n e, .sl (some (b, j)) m f, h => by simp [eqA] at h; rw [h.1.1.1, h.1.1.2, h.1.2, h.2]
  | .mp none, .mp none, _ => rfl
  | .mp (some a), .mp (some b), h => by simp [eqA] at h; rw [h]
  | .nilFn, .nilFn, _ => rfl
  | .nilI, .nilI, _ => rfl
  | .agg a, .agg b, h => by simp only [eqA] at h; rw [eqAs_sound h]
  | .tup a, .tup b, h => by simp only [eqA] at h; rw [eqAs_sound h]
  | .x i, .x j, h => by simp [eqA] at h; rw [h]
  | .fn (.func f) a b, .fn (.func k) c d, h => by
    simp only [eqA, Bool.and_eq_true, beq_eq] at h
    rw [h.1.1, eqAs_sound h.1.2, eqAs_sound h.2]
theorem eqAs_sound : ∀ {a b : List AV}, eqAs a b = true → a = b
  | [], [], _ => rfl
  | a :: x, b :: y, h => by
    simp only [eqAs, Bool.and_eq_true] at h
    rw [eqA_sound h.1, eqAs_sound h.2]
  | [], _ :: _, h => by simp [eqAs] at h
  | _ :: _, [], h => by simp [eqAs] at h
end
theorem eqAs_refl_fits : ∀ {ks : List Lk} {a : List AV}, fits ks a = true → eqAs a a = true
  | [], [], _ => rfl
  | .bool :: l, .bool _ :: m, h => by
    simp only [fits] at h
    simp [eqAs, eqA, eqAs_refl_fits h]
  | .int k :: l, .int j n :: m, h => by
    simp only [fits, Bool.and_eq_true] at h
    simp [eqAs, eqA, eqAs_refl_fits h.2, eqK_eq, eqI_eq]
  | .str :: l, .str s :: m, h => by
    simp only [fits, Bool.and_eq_true] at h
    simp [eqAs, eqA, eqAs_refl_fits h.2, eqN_eq]
/-- The literal of a cell. -/
def litV : Value → Lit
  | .bool b => .bool b
  | .int k n => .int k n
  | .string s => .string s.data.toList
  | _ => .bool false
/-- Cells of these kinds. -/
inductive FitV : List Lk → List Value → Prop
  | nil : FitV [] []
  | bool {b : Bool} {l : List Lk} {m : List Value} (t : FitV l m) : FitV (.bool :: l) (.bool b :: m)
  | int {k : IntKind} {n : Int} {l : List Lk} {m : List Value} (h : (Lit.int k n).wf = true) (t : FitV l m) : FitV (.int k :: l) (.int k n :: m)
  | str {s : ByteArray} {l : List Lk} {m : List Value} (h : s.size ≤ maxLen) (t : FitV l m) : FitV (.str :: l) (.string s :: m)
theorem FitV.len : ∀ {l : List Lk} {m : List Value}, FitV l m → l.length = m.length
  | _, _, .nil => rfl
  | _, _, .bool t => by simp [t.len]
  | _, _, .int _ t => by simp [t.len]
  | _, _, .str _ t => by simp [t.len]
theorem FitV.split : ∀ {a b : List Lk} {m : List Value}, FitV (a ++ b) m → FitV a (m.take a.length) ∧ FitV b (m.drop a.length)
  | [], b, m, h => ⟨.nil, by simpa using h⟩
  | k :: a, b, m, h => by
    cases h with
    | bool t => exact ⟨by simpa using .bool (FitV.split t).1, by simpa using (FitV.split t).2⟩
    | int h t => exact ⟨by simpa using .int h (FitV.split t).1, by simpa using (FitV.split t).2⟩
    | str h t => exact ⟨by simpa using .str h (FitV.split t).1, by simpa using (FitV.split t).2⟩
def repl (n : Nat) (l : List Lk) : List Lk := match n with | 0 => [] | k + 1 => l ++ repl k l
theorem repl_len (n : Nat) (l : List Lk) : (repl n l).length = n * l.length := by
  induction n with
  | zero => simp [repl]
  | succ n ih => simp [repl, ih, Nat.succ_mul, Nat.add_comm]
section
variable (P : Program)
def leafsF (f : TypeId → Option (List Lk)) : Nat → List Field → Option (List Lk)
  | _, [] => some []
  | o, g :: gs => bnd (f g.type) fun l => bif Nat.beq g.offset o && Nat.beq l.length (P.cellsOf g.type) then bnd (leafsF f (o + l.length) gs) fun r => some (l ++ r) else none
def leafs : Nat → TypeId → Option (List Lk)
  | 0, _ => none
  | d + 1, t => match P.underlying t with
    | some .bool => some [.bool]
    | some (.int q) => some [.int q]
    | some .string => some [.str]
    | some (.array n e) => bnd (leafs d e) fun l => bif Nat.beq l.length (P.cellsOf e) && Nat.beq (n * l.length) (P.cellsOf t) then some (repl n l) else none
    | some (.struct fs) => bnd (leafsF P (leafs d) 0 fs.toList) fun l => bif Nat.beq l.length (P.cellsOf t) && fs.all (·.name != "_") then some l else none
    | _ => none
end
section
variable {P : Program}
theorem chunks {f : List Value → Option (List Lit)} {l : List Lk} (hf : ∀ cs, FitV l cs → f cs = some (cs.map litV)) : ∀ (n k : Nat) (cs : List Value), FitV (repl n l) (cs.drop (k * l.length)) → 
    ((List.range' k n).mapM fun i => f ((cs.drop (i * l.length)).take l.length)) = some ((List.range' k n).map fun i => ((cs.drop (i * l.length)).take l.length).map litV) ∧
    ((List.range' k n).map fun i => ((cs.drop (i * l.length)).take l.length).map litV).flatten = (cs.drop (k * l.length)).map litV
  | 0, k, cs, h => by
    have : (cs.drop (k * l.length)).length = 0 := by rw [← h.len]; rfl
    have h2 : cs.drop (k * l.length) = [] := List.eq_nil_of_length_eq_zero this
    refine ⟨by simp, ?_⟩
    rw [h2]
    rfl
  | n + 1, k, cs, h => by
    obtain ⟨h1, h2⟩ := FitV.split (a := l) (b := repl n l) h
    rw [List.drop_drop, show k * l.length + l.length = (k + 1) * l.length by rw [Nat.succ_mul]] at h2
    obtain ⟨g1, g2⟩ := chunks hf n (k + 1) cs h2
    constructor
    · rw [List.range'_succ, List.mapM_cons, hf _ h1, g1]
      rfl
    · rw [List.range'_succ, List.map_cons, List.flatten_cons, g2, ← List.map_append]
      congr 1
      rw [show (k + 1) * l.length = k * l.length + l.length by rw [Nat.succ_mul], ← List.drop_drop]
      exact List.take_append_drop _ _
theorem fieldsL {d : Nat} (hf : ∀ t l, leafs P d t = some l → ∀ cs, FitV l cs → P.keyLits d t cs = some (cs.map litV)) : ∀ (fs : List Field) (o : Nat) (l : List Lk) (cs : List Value), leafsF P (leafs P d) o fs = some l → FitV l (cs.drop o) →
    ∃ ls, (fs.mapM fun f => P.keyLits d f.type ((cs.drop f.offset).take (P.cellsOf f.type))) = some ls ∧ ls.flatten = (cs.drop o).map litV
  | [], o, l, cs, h, hc => by
    simp only [leafsF, Option.some.injEq] at h
    subst h
    have : (cs.drop o).length = 0 := by rw [← hc.len]; rfl
    rw [List.eq_nil_of_length_eq_zero this]
    exact ⟨[], by simp, rfl⟩
  | f :: fs, o, l, cs, h, hc => by
    simp only [leafsF, bnd_eq, bif_eq, Bool.and_eq_true, beq_eq] at h
    obtain ⟨a, ha, ⟨ho, hl⟩, r, hr, h2⟩ := h
    simp only [Option.some.injEq] at h2
    subst h2
    obtain ⟨h1, h2⟩ := hc.split
    rw [List.drop_drop] at h2
    obtain ⟨ls, g1, g2⟩ := fieldsL hf fs _ r cs hr h2
    refine ⟨((cs.drop o).take a.length).map litV :: ls, ?_, ?_⟩
    · rw [List.mapM_cons, ho, ← hl, hf _ _ ha _ h1, g1]
      rfl
    · rw [List.flatten_cons, g2, ← List.map_append, ← List.drop_drop, List.take_append_drop]
theorem keyLits_leafs : ∀ (d : Nat) (t : TypeId) (l : List Lk), leafs P d t = some l → ∀ cs, FitV l cs → P.keyLits d t cs = some (cs.map litV)
  | 0, t, l, h => by simp [leafs] at h
  | d + 1, t, l, h => by
    intro cs hc
    unfold leafs at h
    unfold Program.keyLits
    cases hu : P.underlying t with
    | none => simp [hu] at h
    | some k =>
      cases k <;> simp only [hu] at h ⊢
      case bool =>
        simp only [Option.some.injEq] at h
        subst h
        cases hc with
        | bool t => cases t; rfl
      case int q =>
        simp only [Option.some.injEq] at h
        subst h
        cases hc with
        | int hw t =>
          cases t
          simp [hw, litV]
      case string =>
        simp only [Option.some.injEq] at h
        subst h
        cases hc with
        | str hw t =>
          cases t
          simp [hw, litV]
      case array n e =>
        simp only [bnd_eq, bif_eq, Bool.and_eq_true, beq_eq, Option.some.injEq] at h
        obtain ⟨a, ha, ⟨h1, h2⟩, rfl⟩ := h
        have hlen := hc.len
        rw [repl_len] at hlen
        rw [if_pos (by omega)]
        obtain ⟨g1, g2⟩ := chunks (keyLits_leafs d e a ha) n 0 cs (by simpa using hc)
        rw [List.range_eq_range', ← h1, g1]
        simp only [Option.map_some, g2]
        simp
      case struct fs =>
        simp only [bnd_eq, bif_eq, Bool.and_eq_true, beq_eq, Option.some.injEq] at h
        obtain ⟨a, ha, ⟨h1, h2⟩, rfl⟩ := h
        have hlen := hc.len
        rw [if_pos ⟨by omega, h2⟩]
        obtain ⟨ls, g1, g2⟩ := fieldsL (fun t l h => keyLits_leafs d t l h) fs.toList 0 a cs ha (by simpa using hc)
        rw [g1]
        simp only [Option.map_some, g2]
        simp
      all_goals (cases h)
variable {c : Cx}
theorem bsN_size (s : List Nat) : (bsN s).size = s.length := by simp [bsN, ByteArray.size]
theorem bsN_data (s : List Nat) : (bsN s).data.toList = s.map UInt8.ofNat := by simp [bsN]
theorem FitV.of : ∀ {ks : List Lk} {a : List AV} {m : List Value}, fits ks a = true → VRs c a m → FitV ks m
  | [], [], _, _, .nil => .nil
  | .bool :: l, .bool _ :: m, _, h, .cons v t => by
    cases v
    exact .bool (FitV.of (by simpa [fits] using h) t)
  | .int k :: l, .int j n :: m, _, h, .cons v t => by
    cases v
    simp only [fits, Bool.and_eq_true, eqK_eq, decide_eq_true_eq] at h
    obtain ⟨⟨⟨rfl, h1⟩, h2⟩, h3⟩ := h
    exact .int (by simp [Lit.wf, h1, h2]) (FitV.of h3 t)
  | .str :: l, .str s :: m, _, h, .cons v t => by
    cases v
    simp only [fits, Bool.and_eq_true, ble_eq] at h
    exact .str (by rw [bsN_size]; unfold maxLen; omega) (FitV.of h.2 t)
theorem map_ofNat_inj : ∀ {s u : List Nat}, (∀ b ∈ s, b < 256) → (∀ b ∈ u, b < 256) → s.map UInt8.ofNat = u.map UInt8.ofNat → s = u
  | [], [], _, _, _ => rfl
  | [], _ :: _, _, _, h => by simp at h
  | _ :: _, [], _, _, h => by simp at h
  | a :: s, b :: u, h1, h2, h => by
    simp only [List.map_cons, List.cons.injEq] at h
    have e : a = b := by
      have := congrArg UInt8.toNat h.1
      simp only [UInt8.toNat_ofNat'] at this
      have := h1 a (by simp)
      have := h2 b (by simp)
      omega
    rw [e, map_ofNat_inj (fun x hx => h1 x (by simp [hx])) (fun x hx => h2 x (by simp [hx])) h.2]
/-- The literals tell the cells. -/
theorem lits_eq : ∀ {ks : List Lk} {a b : List AV} {m n : List Value}, fits ks a = true → fits ks b = true → VRs c a m → VRs c b n → (m.map litV = n.map litV ↔ eqAs a b = true)
  | [], [], [], _, _, _, _, .nil, .nil => by simp [eqAs]
  | .bool :: l, .bool x :: a, .bool y :: b, _, _, h, k, .cons v t, .cons u s => by
    cases v; cases u
    have := lits_eq (by simpa [fits] using h) (by simpa [fits] using k) t s
    simp [eqAs, eqA, litV, this]
  | .int q :: l, .int i x :: a, .int j y :: b, _, _, h, k, .cons v t, .cons u s => by
    cases v; cases u
    simp only [fits, Bool.and_eq_true] at h k
    have := lits_eq h.2 k.2 t s
    simp [eqAs, eqA, litV, this, eqK_eq, eqI_eq]
  | .str :: l, .str x :: a, .str y :: b, _, _, h, k, .cons v t, .cons u s => by
    cases v with
    | str _ hx =>
      cases u with
      | str _ hy =>
        simp only [fits, Bool.and_eq_true] at h k
        have := lits_eq h.2 k.2 t s
        simp only [eqAs, eqA, litV, List.map_cons, List.cons.injEq, Lit.string.injEq, this, Bool.and_eq_true, eqN_eq, bsN_data]
        constructor
        · rintro ⟨h1, h2⟩
          exact ⟨map_ofNat_inj hx hy h1, h2⟩
        · rintro ⟨h1, h2⟩
          exact ⟨by rw [h1], h2⟩
/-- What a type that can be a key promises. -/
structure KeyR (P : Program) (t : TypeId) (ks : List Lk) : Prop where
  type : ∃ m, m ≤ 100 ∧ P.keyTypeAt m t = true
  leafs : leafs P 100 t = some ks
  guard : P.eqGuardType P.depth t = false
variable {w : World}
theorem VR.formed {t : TypeId} {a : AV} {v : Value} (h : VR c a v) {d : TypeDesc} (hu : P.underlying t = some d) (hk : ∃ ks, leafs P 100 t = some ks ∧ FitV ks v.cells.toList) (hr : d.isRow = true → ∃ l, a = .agg l) (hr2 : d.isRow = false → a.one = true) : v.formed P t = true := by
  obtain ⟨ks, h1, h2⟩ := hk
  have hlen := h2.len
  unfold leafs at h1
  rw [hu] at h1
  cases d <;> simp only at h1
  case array n e =>
    obtain ⟨l, rfl⟩ := hr rfl
    cases h with
    | agg hl =>
      simp only [bnd_eq, bif_eq, Bool.and_eq_true, beq_eq, Option.some.injEq] at h1
      obtain ⟨x, hx, ⟨e1, e2⟩, rfl⟩ := h1
      rw [repl_len] at hlen
      simp only [Value.cells] at hlen
      simp only [Value.formed, hu, beq_iff_eq, List.size_toArray]
      omega
  case struct fs =>
    obtain ⟨l, rfl⟩ := hr rfl
    cases h with
    | agg hl =>
      simp only [bnd_eq, bif_eq, Bool.and_eq_true, beq_eq, Option.some.injEq] at h1
      obtain ⟨x, hx, ⟨e1, e2⟩, rfl⟩ := h1
      simp only [Value.formed, hu, beq_iff_eq, List.size_toArray]
      simp only [Value.cells] at hlen
      omega
  all_goals first
    | (cases h1; done)
    | (have h3 := hr2 rfl
       have h4 := h.one h3
       cases v <;> first | (simp [Value.oneCell] at h4; done) | simp [Value.formed, hu])
/-- A key's value and its type. -/
structure KV (P : Program) (c : Cx) (t : TypeId) (ks : List Lk) (a : AV) (v : Value) : Prop where
  rel : VR c a v
  fits : fits ks a.cells = true
  formed : v.formed P t = true
theorem keyOk_kv {t : TypeId} {u : Ty} {ks : List Lk} {a : AV} {v : Value} {d : TypeDesc} (hk : KeyR P t ks) (hu : P.underlying t = some d) (hr : d.isRow = !u.one) (h : VR c a v) (hf : keyOk u ks a = true) : KV P c t ks a v := by
  unfold keyOk at hf
  rw [Bool.and_eq_true] at hf
  obtain ⟨h1, h2⟩ := hf
  refine ⟨h, h2, h.formed hu ⟨ks, hk.leafs, FitV.of h2 h.cells⟩ (fun e => ?_) (fun e => ?_)⟩
  · rw [hr] at e
    cases a <;> first | exact ⟨_, rfl⟩ | (exfalso; simp_all)
  · rw [hr] at e
    cases a <;> first | rfl | (exfalso; simp_all; done) | skip
    case tup l => cases ks <;> simp [AV.cells, fits] at h2 
theorem KV.lits {t : TypeId} {ks : List Lk} {a : AV} {v : Value} (hk : KeyR P t ks) (h : KV P c t ks a v) : P.keyLits 100 t v.cells.toList = some (v.cells.toList.map litV) :=
  keyLits_leafs 100 t ks hk.leafs _ (FitV.of h.fits h.rel.cells)
theorem KV.equal {t : TypeId} {ks : List Lk} {a b : AV} {v u : Value} (hk : KeyR P t ks) (h : KV P c t ks a v) (k : KV P c t ks b u) : (Op.equal t v u).run P w = .ok (eqAs a.cells b.cells) w := by
  obtain ⟨m, hm, ht⟩ := hk.type
  obtain ⟨r, h1, h2⟩ := run_equalIn_deep (P := P) (10000 - m) m t ht w 100 100 v u _ _ h.formed k.formed (h.lits hk) (k.lits hk)
  rw [show 10000 - m + m = Op.maxDepth by unfold Op.maxDepth; omega] at h1
  unfold Op.equal
  rw [h1]
  congr 1
  rw [Bool.eq_iff_iff, h2]
  exact lits_eq h.fits k.fits h.rel.cells k.rel.cells
theorem KV.check {t : TypeId} {ks : List Lk} {a : AV} {v : Value} (hk : KeyR P t ks) (h : KV P c t ks a v) (em : Bool) : (Instr.checkKey em 10000 t v).run P w = .ok () w := by
  obtain ⟨m, hm, ht⟩ := hk.type
  have := run_checkKey_deep (P := P) em (10000 - m) m t ht w 100 v _ h.formed (h.lits hk)
  rw [show 10000 - m + m = 10000 by omega] at this
  exact this
end
end Go.Proofs.YtijiggolphppbaaGreatDoor.Ev
namespace Go.Proofs.YtijiggolphppbaaGreatDoor.Ev
open Go

/-- A description of a type is the program's. -/
def DR (d : D) (u : TypeDesc) : Prop := match d with
  | .other => True
  | .bool => u = .bool
  | .func => ∃ a b v, u = .func a b v
  | .string => u = .string
  | .unsafePointer => u = .unsafePointer
  | .int k => u = .int k
  | .slice e => u = .slice e
  | .pointer e => u = .pointer e
  | .array n e => u = .array n e
  | .map k e => u = .map k e
  | .struct fs => ∃ gs, u = .struct gs ∧ fs = gs.toList.map fun f => (f.offset, f.type)
/-- The table's row of a type is right. -/
structure TyR (P : Program) (t : TypeId) (u : Ty) : Prop where
  und : ∃ d, P.underlying t = some d ∧ DR u.und d ∧ d.isRow = !u.one
  info : ∃ i z, P.info? t = some i ∧ i.size = u.size ∧ i.zero = some z ∧ u.zero.length = u.size ∧ (∀ c : Cx, VRs c u.zero z.cells.toList) ∧ (∀ c : Cx, u.one = true → ∃ a, u.zero = [a] ∧ VR c a z) ∧ (u.one = false → ∃ cs, z = .agg cs)
  zone : ∀ a ∈ u.zero, a.one = true
  bytes : ∃ i, P.info? t = some i ∧ i.bytes = u.bytes
  flds : ∀ gs, P.underlying t = some (.struct gs) → ∀ f ∈ gs, ∃ i, P.info? f.type = some i
  key : ∀ ks, u.key = some ks → KeyR P t ks
def TysR (P : Program) (g : Prg) : Prop := ∀ t u, g.ty t = some u → TyR P t u

theorem readN_some {t : T AV} : ∀ {n i : Nat} {l : List AV}, readN t n i = some l → l.length = n ∧ ∀ j, j < n → t.get (i + j) = l[j]?
  | 0, i, l, h => by
    simp [readN] at h
    subst h
    exact ⟨rfl, fun j hj => absurd hj (Nat.not_lt_zero _)⟩
  | n + 1, i, l, h => by
    unfold readN bnd at h
    cases hg : t.get i with
    | none => rw [hg] at h; cases h
    | some a =>
      rw [hg] at h
      simp only at h
      cases hr : readN t n (i + 1) with
      | none => rw [hr] at h; cases h
      | some r =>
        rw [hr] at h
        simp only [Option.some.injEq] at h
        subst h
        obtain ⟨h1, h2⟩ := readN_some hr
        refine ⟨by simp [h1], fun j hj => ?_⟩
        cases j with
        | zero => simpa using hg
        | succ j =>
          have := h2 j (by omega)
          rw [show i + (j + 1) = i + 1 + j by omega, this]
          simp
section
variable {c : Cx} {σ : St} {w : World} {P : Program}
theorem readN_vs {t : T AV} {cs : Array Value} {o : Nat} (h : ∀ i a, t.get i = some a → ∃ v, cs[o + i]? = some v ∧ VR c a v ∧ a.one = true) : ∀ {n i : Nat} {l : List AV}, readN t n i = some l →
    ∃ vs, VRs c l vs ∧ (∀ (j : Nat) v, vs[j]? = some v → cs[o + i + j]? = some v) ∧ ∀ x ∈ l, x.one = true
  | 0, i, l, hr => by
    simp [readN] at hr
    subst hr
    exact ⟨[], .nil, fun j v hv => by simp at hv, fun x hx => by cases hx⟩
  | n + 1, i, l, hr => by
    unfold readN bnd at hr
    cases hg : t.get i with
    | none => rw [hg] at hr; cases hr
    | some a =>
      rw [hg] at hr
      simp only at hr
      cases hq : readN t n (i + 1) with
      | none => rw [hq] at hr; cases hr
      | some r =>
        rw [hq] at hr
        simp only [Option.some.injEq] at hr
        subst hr
        obtain ⟨v, hv, hav, ho⟩ := h i a hg
        obtain ⟨vs, h1, h2, h3⟩ := readN_vs h hq
        refine ⟨v :: vs, .cons hav h1, fun j x hx => ?_, fun x hx => ?_⟩
        · cases j with
          | zero => simp at hx; subst hx; exact hv
          | succ j =>
            have := h2 j x (by simpa using hx)
            rw [show o + i + (j + 1) = o + (i + 1) + j by omega]
            exact this
        · rcases List.mem_cons.1 hx with rfl | hx
          · exact ho
          · exact h3 x hx
/-- Cells that are read lie in the world. -/
theorem Sim.range (h : Sim c σ w) {a : Nat × Nat} (hd : c.D a.1) {n : Nat} {l : List AV} (hl : loadN σ a n = some l) :
    ∃ vs, VRs c l vs ∧ w.rangeAt (c.ρ a.1).1 ((c.ρ a.1).2 + a.2) vs ∧ (∀ x ∈ l, x.one = true) := by
  unfold loadN at hl
  cases hg : σ.heap.get a.1 with
  | none => rw [hg] at hl; cases hl
  | some o =>
    rw [hg] at hl
    cases o with
    | cells k t ty =>
      simp only at hl
      obtain ⟨cs, lo, hi, h1, h2, hk, h3, h4, h5⟩ := h.cells _ _ _ _ hd hg
      obtain ⟨vs, g1, g2, g3⟩ := readN_vs (o := (c.ρ a.1).2) (cs := cs) (c := c) (fun i x hx => (h5 i x hx).2) hl
      refine ⟨vs, g1, fun j v hv => ?_, g3⟩
      have := g2 j v hv
      simp only [World.cell?, h1]
      simpa using this
    | map m => cases hl
    | dead => cases hl
theorem run_loadVar_one {t : TypeId} {d : TypeDesc} (hu : P.underlying t = some d) (hd : d.isRow = false) {a : Addr} {v : Value} (hc : w.cell? a = some v) : (loadVar t a).run P w = .ok v w := by
  have hagg : (isAgg t).run P w = .ok false w := by
    unfold isAgg
    rw [Sem.run_bind, run_underlying hu w]
    cases d <;> simp_all [TypeDesc.isRow, Result.andThen, Sem.run_pure]
  unfold loadVar
  rw [Sem.run_bind, hagg]
  simp [Result.andThen, Go.load, Sem.run, hc]
theorem Sim.load (h : Sim c σ w) {t : TypeId} {u : Ty} (hT : TyR P t u) {a : Nat × Nat} (hd : c.D a.1) {v : AV} (hl : load σ u a = some v) :
    ∃ v', (loadVar t ⟨(c.ρ a.1).1, (c.ρ a.1).2 + a.2, none⟩).run P w = .ok v' w ∧ VR c v v' := by
  unfold Ev.load bnd at hl
  cases hn : loadN σ a u.size with
  | none => rw [hn] at hl; cases hl
  | some l =>
    rw [hn] at hl
    simp only at hl
    obtain ⟨vs, h1, h2, h3⟩ := h.range hd hn
    obtain ⟨d, hu, _, hrow⟩ := hT.und
    unfold Go.Proofs.YtijiggolphppbaaGreatDoor.Ev.mk at hl
    cases ho : u.one with
    | true =>
      rw [ho] at hl hrow
      simp only [cond_true] at hl
      match l, hl with
      | [x], hl =>
        simp only [Option.some.injEq] at hl
        subst hl
        cases h1 with
        | cons hx ht =>
          cases ht
          exact ⟨_, run_loadVar_one hu hrow (h2 0 _ rfl), hx⟩
    | false =>
      rw [ho] at hl hrow
      simp only [cond_false, Option.some.injEq] at hl
      subst hl
      obtain ⟨i, z, hi, hs, _⟩ := hT.info
      have hlen : l.length = u.size := by
        unfold loadN at hn
        cases hg : σ.heap.get a.1 with
        | none => rw [hg] at hn; cases hn
        | some o =>
          rw [hg] at hn
          cases o with
          | cells k t ty => exact (readN_some hn).1
          | map m => cases hn
          | dead => cases hn
      refine ⟨.agg vs.toArray, run_loadVar_mid w _ _ t vs d h2 hu hrow ?_, .agg h1⟩
      rw [hi, ← h1.len, hlen, ← hs]
      rfl
theorem cellsT_get : ∀ (l : List AV) (i : Nat) (t : T AV) (m : Nat), i + l.length + 1 < 2 ^ FU → (cellsT FU i l t).get m = if i ≤ m ∧ m < i + l.length then l[m - i]? else t.get m
  | [], i, t, m, h => by
    rw [if_neg (by simp)]
    rfl
  | v :: l, i, t, m, h => by
    show (cellsT FU (i + 1) l (T.set FU t i (some v))).get m = _
    simp only [List.length_cons] at h ⊢
    rw [cellsT_get l (i + 1) _ m (by omega), T.get_set FU t i (some v) m (by omega)]
    by_cases h1 : m = i
    · subst h1
      rw [if_neg (by omega), if_pos rfl, if_pos (by omega)]
      simp
    · rw [if_neg h1]
      by_cases h2 : i + 1 ≤ m ∧ m < i + 1 + l.length
      · rw [if_pos h2, if_pos (by omega), show m - i = (m - (i + 1)) + 1 by omega]
        simp
      · rw [if_neg h2, if_neg (by omega)]
theorem lt_MX {n : Nat} (h : Nat.blt n MX = true) : n < MX ∧ n + 2 < 2 ^ FU := by
  have h1 : n < MX := by simpa using h
  have h2 : MX = 16000000 := rfl
  have h3 : 2 ^ FU = 16777216 := by unfold FU; decide
  omega
theorem MX_FU : MX + 8 < 2 ^ FU := by unfold MX FU; decide
/-- A block more. -/
def Cx.more (c : Cx) (n b o k : Nat) : Cx := ⟨fun m => c.D m ∨ m = n, fun m => if m = n then (b, o) else c.ρ m, fun x => if x = b then k else c.L x, c.X, c.W⟩
theorem Cx.more_le (c : Cx) {n b o k : Nat} (hn : ¬ c.D n) (hb : c.L b ≤ k) : c.le (c.more n b o k) :=
  ⟨fun m hm => ⟨.inl hm, if_neg (fun e : m = n => hn (by rw [← e]; exact hm))⟩, fun x => by
    show c.L x ≤ if x = b then k else c.L x
    by_cases e : x = b
    · subst e; rw [if_pos rfl]; exact hb
    · rw [if_neg e]; exact Nat.le_refl _, rfl, rfl⟩
theorem Cx.more_D (c : Cx) (n b o k : Nat) : (c.more n b o k).D n := .inr rfl
theorem Cx.more_ρ (c : Cx) (n b o k : Nat) : (c.more n b o k).ρ n = (b, o) := if_pos rfl
theorem Cx.more_L (c : Cx) (n b o k : Nat) : (c.more n b o k).L b = k := if_pos rfl
theorem Sim.blk (h : Sim c σ w) {m : Nat} {o : AO} (hd : c.D m) (ho : σ.heap.get m = some o) (ha : o.alive = true) : (c.ρ m).1 < w.heap.size := by
  cases o with
  | cells k t ty =>
    obtain ⟨cs, lo, hi, h1, _⟩ := h.cells _ _ _ _ hd ho
    exact (Array.getElem?_eq_some_iff.1 h1).1
  | map l =>
    obtain ⟨es, clock, h1, _⟩ := h.maps _ _ hd ho
    exact (Array.getElem?_eq_some_iff.1 h1).1
  | dead => cases ha
theorem ER.mono {c d : Cx} (hle : c.le d) : ∀ {l : List (AV × AV)} {es : List MapEntry}, ER c l es → ER d l es
  | _, _, .nil => .nil
  | _, _, .cons hk hv t => .cons (hk.mono hle) (hv.mono hle) (ER.mono hle t)
/-- A world with a block more. -/
structure NewW (w w' : World) (o : Obj) : Prop where
  heap : w'.heap = w.heap.push o
  os : w'.os = w.os
  tape : w'.tape = w.tape
  output : w'.output = w.output
theorem NewW.at {w' : World} {o : Obj} (h : NewW w w' o) (b : Nat) : w'.heap[b]? = if b = w.heap.size then some o else w.heap[b]? := by
  rw [h.heap, Array.getElem?_push]
theorem NewW.size {w' : World} {o : Obj} (h : NewW w w' o) : w'.heap.size = w.heap.size + 1 := by rw [h.heap, Array.size_push]
theorem NewW.alloc (w : World) (o : Obj) : NewW w (w.alloc o) o := ⟨rfl, rfl, rfl, rfl⟩
theorem Sim.congr (h : Sim c σ w) {σ' : St} (hn : σ.nx ≤ σ'.nx) (hm : σ'.nx ≤ MX + 1) (hg : ∀ n, c.D n → σ'.heap.get n = σ.heap.get n) : Sim c σ' w :=
  ⟨fun n hd => Nat.lt_of_lt_of_le (h.nx n hd) hn, hm, h.top, fun m n o p hm hn ho hp => by rw [hg m hm] at ho; rw [hg n hn] at hp; exact h.inj m n o p hm hn ho hp,
    fun n k t ty hd ho => by rw [hg n hd] at ho; exact h.cells n k t ty hd ho, h.zero, fun n l hd ho => by rw [hg n hd] at ho; exact h.maps n l hd ho, h.base, h.far⟩
/-- What a new block holds. -/
def FreshR (c : Cx) (f : Fresh) (o : Obj) (k : Nat) : Prop := match f with
  | .row l ty => ∃ vs cs lo hi, o = .cells cs ty (lo, hi) ∧ VRs c l vs ∧ (∀ a ∈ l, a.one = true) ∧ (∀ (j : Nat) (v : Value), vs[j]? = some v → cs[j]? = some v) ∧ vs.length ≤ cs.size ∧ (∀ i, i < cs.size → ¬ (lo ≤ i ∧ i < hi)) ∧ k = cs.size
  | .map => o = .map #[] 0 ∧ k = 0
theorem Sim.reveal (h : Sim c σ w) {n : Nat} (hD : ¬ c.D n) (hn : n < σ.nx) {f : Fresh} {ao : AO} (hf : f.obj = some ao) (hg : σ.heap.get n = some ao) {o : Obj} {k : Nat} (hr : FreshR c f o k) {w' : World} (hw : NewW w w' o) :
    c.le (c.more n w.heap.size 0 k) ∧ Sim (c.more n w.heap.size 0 k) σ w' := by
  have hle : c.le (c.more n w.heap.size 0 k) := c.more_le hD (by rw [h.top _ (Nat.le_refl _)]; exact Nat.zero_le _)
  refine ⟨hle, ?_⟩
  have hold : ∀ m, c.D m → m ≠ n := fun m hm e => hD (e ▸ hm)
  have hρ : ∀ m, c.D m → (c.more n w.heap.size 0 k).ρ m = c.ρ m := fun m hm => if_neg (hold m hm)
  have hL : ∀ b, b < w.heap.size → (c.more n w.heap.size 0 k).L b = c.L b := fun b hb => if_neg (by omega)
  have hN := c.more_ρ n w.heap.size 0 k
  have hLN := c.more_L n w.heap.size 0 k
  have hsz := hw.size
  have hbase := h.base
  refine ⟨?_, h.mx, ?_, ?_, ?_, ?_, ?_, ⟨by show c.W.heap.size ≤ _; omega, fun b hb => by have hb2 : b < c.W.heap.size := hb; rw [hw.at, if_neg (by omega)]; exact hbase.2 b hb2⟩, ?_⟩
  · rintro m (hm | rfl)
    · exact h.nx m hm
    · exact hn
  · intro b hb
    show (if b = w.heap.size then k else c.L b) = 0
    rw [if_neg (by omega)]
    exact h.top b (by omega)
  · intro m n' o1 p hm hn' ho hp ha hb he
    by_cases e1 : m = n
    · by_cases e2 : n' = n
      · rw [e1, e2]
      · exfalso
        have hn2 : c.D n' := hn'.resolve_right e2
        have := h.blk hn2 hp hb
        rw [e1, hN, hρ n' hn2] at he
        simp only at he
        omega
    · have hm2 : c.D m := hm.resolve_right e1
      by_cases e2 : n' = n
      · exfalso
        have := h.blk hm2 ho ha
        rw [e2, hN, hρ m hm2] at he
        simp only at he
        omega
      · have hn2 : c.D n' := hn'.resolve_right e2
        rw [hρ m hm2, hρ n' hn2] at he
        exact h.inj m n' o1 p hm2 hn2 ho hp ha hb he
  · intro m k2 t ty2 hm ho
    by_cases e1 : m = n
    · subst e1
      rw [hg] at ho
      cases f with
      | map => simp only [Fresh.obj, Option.some.injEq] at hf; subst hf; cases ho
      | row l ty =>
        simp only [Fresh.obj, bif_eq] at hf
        obtain ⟨hb, hf⟩ := hf
        simp only [Option.some.injEq] at hf
        subst hf
        simp only [Option.some.injEq, AO.cells.injEq] at ho
        obtain ⟨rfl, rfl, rfl⟩ := ho
        obtain ⟨vs, cs, lo, hi, rfl, hl, h1, h2, h3, h4, rfl⟩ := hr
        have hb2 := lt_MX hb
        have hlen := hl.len
        rw [hN]
        refine ⟨cs, lo, hi, by rw [hw.at, if_pos rfl], hLN, Nat.le_of_lt hb2.1, by simp only; omega, h4, fun i a hi => ?_⟩
        rw [cellsT_get l 0 .leaf i (by omega)] at hi
        by_cases h5 : 0 ≤ i ∧ i < 0 + l.length
        · rw [if_pos h5] at hi
          simp only [Nat.sub_zero] at hi
          obtain ⟨v, hv, hav⟩ := hl.get hi
          exact ⟨by omega, v, by simpa using h2 _ _ hv, hav.mono hle, h1 a (List.mem_of_getElem? hi)⟩
        · rw [if_neg h5, T.get_leaf] at hi
          cases hi
    · have hm' : c.D m := hm.resolve_right e1
      have hbl := h.blk hm' ho rfl
      obtain ⟨cs2, lo, hi, g1, g2, gk, g3, g4, g5⟩ := h.cells _ _ _ _ hm' ho
      rw [hρ m hm']
      refine ⟨cs2, lo, hi, by rw [hw.at, if_neg (by omega)]; exact g1, by rw [hL _ hbl]; exact g2, gk, g3, g4, fun i a hi => ?_⟩
      obtain ⟨q1, v, q2, q3, q4⟩ := g5 i a hi
      exact ⟨q1, v, q2, q3.mono hle, q4⟩
  · rintro m (hm | rfl)
    · rw [hρ m hm]; exact h.zero m hm
    · rw [hN]
  · intro m l2 hm ho
    by_cases e1 : m = n
    · subst e1
      rw [hg] at ho
      cases f with
      | map =>
        simp only [Fresh.obj, Option.some.injEq] at hf
        subst hf
        simp only [Option.some.injEq, AO.map.injEq] at ho
        subst ho
        obtain ⟨rfl, _⟩ := hr
        rw [hN]
        exact ⟨#[], 0, by rw [hw.at, if_pos rfl], .nil, MapKept.stamped_empty 0⟩
      | row l ty =>
        simp only [Fresh.obj, bif_eq] at hf
        obtain ⟨hb, hf⟩ := hf
        simp only [Option.some.injEq] at hf
        subst hf
        cases ho
    · have hm' : c.D m := hm.resolve_right e1
      have hbl := h.blk hm' ho rfl
      obtain ⟨es, clock, g1, g2⟩ := h.maps _ _ hm' ho
      rw [hρ m hm']
      exact ⟨es, clock, by rw [hw.at, if_neg (by omega)]; exact g1, g2.1.mono hle, g2.2⟩
  · rintro m (hm | rfl)
    · rw [hρ m hm]; exact h.far m hm
    · rw [hN]; exact hbase.1
theorem newF_some {f : Fresh} {σ' : St} {n : Nat} (h : newF σ f = some (n, σ')) : ∃ ao, f.obj = some ao ∧ n = σ.nx ∧ σ.nx < MX ∧ σ'.nx = σ.nx + 1 ∧ σ'.heap.get n = some ao ∧ ∀ m, m ≠ n → σ'.heap.get m = σ.heap.get m := by
  simp only [newF, bnd_eq, newO, bif_eq] at h
  obtain ⟨ao, ha, hb, h⟩ := h
  simp only [Option.some.injEq, Prod.mk.injEq] at h
  obtain ⟨rfl, rfl⟩ := h
  have h1 := lt_MX hb
  have hget := fun m => T.get_set FU σ.heap σ.nx (some ao) m (by omega)
  exact ⟨ao, ha, rfl, h1.1, rfl, by show (T.set FU σ.heap σ.nx _).get _ = _; rw [hget, if_pos rfl], fun m hm => by show (T.set FU σ.heap σ.nx _).get m = _; rw [hget, if_neg hm]⟩
end
end Go.Proofs.YtijiggolphppbaaGreatDoor.Ev
