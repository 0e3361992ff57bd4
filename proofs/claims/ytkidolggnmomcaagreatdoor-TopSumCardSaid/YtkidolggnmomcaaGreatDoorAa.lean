/- An interpreter for the model, and what its values and its pure operations stand for. -/
import Derived.Calls
import Derived.Laws.Sem
import Derived.Laws.World
import GoSem.ClaimData
import Derived.Laws.Entries
import Derived.Laws.Cells
import Derived.ChangeKeysEq
import Derived.Laws.BytesString
set_option linter.unusedVariables false
set_option linter.unusedSimpArgs false
/- The abstract interpreter: what the code of the model does, on pure values and a small memory. No proof stands here. -/
namespace Go.Ab

/-- A value, with slices that nobody writes any more as trees. 'sym', 'anyS': a cell that is known by a name alone; some text of at most so many bytes. -/
inductive PV where
  | int (k : IntKind) (n : Int)
  | bool (b : Bool)
  | str (s : List UInt8)
  | anyS (n : Nat)
  | sym (c : Nat) (e : List Int)
  | nilp
  | ptr (b g off : Nat)
  | vptr (cells : List PV)
  | nils
  | vsl (cells : List PV) (len : Nat) (cap : Option Nat)
  | msl (b g off len sz : Nat)
  | nilm
  | map (b : Nat)
  | clo (f : Nat) (first captured : List PV)
  | nilf
  | nili
  | ifc (t : Nat) (v : PV)
  | agg (cells : List PV)
  | tup (vs : List PV)
  deriving Inhabited

def PV.cells : PV → List PV
  | .agg cs => cs
  | v => [v]

inductive Tr (α : Type) where
  | leaf
  | node (l : Tr α) (v : Option α) (r : Tr α)
  deriving Inhabited

namespace Tr
variable {α : Type}
def get : Tr α → Nat → Option α
  | leaf, _ => none
  | node l v r, n => match n with
    | 0 => v
    | m + 1 => bif Nat.beq (Nat.mod m 2) 0 then l.get (Nat.div m 2) else r.get (Nat.div m 2)
def setA (x : α) : Nat → Tr α → Nat → Tr α
  | 0, t, _ => t
  | d + 1, leaf, n => match n with
    | 0 => node leaf (some x) leaf
    | m + 1 => bif Nat.beq (Nat.mod m 2) 0 then node (setA x d leaf (Nat.div m 2)) none leaf else node leaf none (setA x d leaf (Nat.div m 2))
  | d + 1, node l v r, n => match n with
    | 0 => node l (some x) r
    | m + 1 => bif Nat.beq (Nat.mod m 2) 0 then node (setA x d l (Nat.div m 2)) v r else node l v (setA x d r (Nat.div m 2))
def set (t : Tr α) (n : Nat) (x : α) : Tr α := setA x (Nat.succ n) t n
end Tr

inductive Blk where
  | cells (cs : List PV) (g : Nat) (frz : Bool) (et : Nat)
  | map (es : List (PV × PV))
  | iter (s : List UInt8) (pos : Nat)
  deriving Inhabited

def Blk.gen : Blk → Nat
  | .cells _ g _ _ => g
  | _ => 0

structure PM where
  next : Nat
  t : Tr Blk
  deriving Inhabited
def PM.empty : PM := ⟨0, .leaf⟩
def PM.get (m : PM) (b : Nat) : Option Blk := m.t.get b
def PM.upd (m : PM) (b : Nat) (x : Blk) : PM := ⟨m.next, m.t.set b x⟩
def PM.new (m : PM) (x : Blk) : PM := ⟨Nat.succ m.next, m.t.set m.next x⟩

/-- a field: where it begins, how many cells, whether it is a struct or an array -/
structure FI where
  off : Nat
  sz : Nat
  isAgg : Bool
  deriving Inhabited
inductive TK where
  | int (k : IntKind) | bool | string | unsafePointer | pointer (e esz : Nat)
  | slice (e esz ebytes : Nat) (ez : Option (List PV))
  | array (n esz : Nat) (eagg : Bool)
  | map (str : Bool) (ez : Option PV)
  | struct (fs : List FI)
  | iface | func | other
  deriving Inhabited
structure TI where
  kind : TK
  sz : Nat
  zero : Option (List PV)
  deriving Inhabited

/-- what the interpreter is told of a program: its types, its functions; which run in a memory of their own ('iso'); contracts that stand for calls ('ext': pure values in, a pure value out); identities on pointers ('same'), or contracts that change the memory ('extM', only where 'same' is told); deferred functions that do nothing where nobody panics ('guard') -/
structure Env where
  ty : Nat → Option TI
  fn : Nat → Option Func
  iso : Nat → Bool
  ext : Nat → Option (List PV → Option PV)
  same : Nat → Bool
  guard : Nat → Bool
  extM : Nat → Option (List PV → PM → Option (PV × PM)) := fun _ => none

def undefPV : PV := .tup []

def ofV : Value → Option PV
  | .bool b => some (.bool b)
  | .int k n => some (.int k n)
  | .string s => some (.str s.data.toList)
  | .pointer none => some .nilp
  | .slice none 0 0 => some .nils
  | .map none => some .nilm
  | .nilFunc => some .nilf
  | .nilIface => some .nili
  | .func (.func f) ⟨[]⟩ ⟨[]⟩ => some (.clo f [] [])
  | .tuple ⟨[]⟩ => some undefPV
  | _ => none
def ofVs : List Value → Option (List PV)
  | [] => some []
  | v :: vs => match ofV v with
    | some a => match ofVs vs with
      | some b => some (a :: b)
      | none => none
    | none => none
def ofIface : Value → Option PV
  | .iface t v => match ofV v with
    | some x => some (.ifc t x)
    | none => none
  | v => ofV v
def ofC : Value → Option PV
  | .agg cs => match ofVs cs.toList with
    | some l => some (.agg l)
    | none => none
  | v => ofIface v

def evo (tm : Tr PV) : Operand → Option PV
  | .tmp t => match tm.get t with
    | some v => some v
    | none => some undefPV
  | .const v => ofC v
  | .global _ => none
  | .func f => some (.clo f [] [])

def evs (ρ : Operand → Option PV) : List Operand → Option (List PV)
  | [] => some []
  | o :: os => match ρ o with
    | some a => match evs ρ os with
      | some b => some (a :: b)
      | none => none
    | none => none
def evps (ρ : Operand → Option PV) : List (Nat × Operand) → Option (List (Nat × PV))
  | [] => some []
  | (i, o) :: os => match ρ o with
    | some a => match evps ρ os with
      | some b => some ((i, a) :: b)
      | none => none
    | none => none
def evopt (ρ : Operand → Option PV) : Option Operand → Option (Option PV)
  | none => some none
  | some o => match ρ o with
    | some a => some (some a)
    | none => none

def TI.agg (i : TI) : Bool := match i.kind with
  | .struct _ => true
  | .array .. => true
  | _ => false

def nthN {α : Type} : List α → Nat → Option α
  | [], _ => none
  | x :: xs, n => match n with
    | 0 => some x
    | m + 1 => nthN xs m
/-- just so many, from a place on -/
def cutN {α : Type} (l : List α) (off n : Nat) : Option (List α) :=
  bif Nat.ble (Nat.add off n) l.length then some ((l.drop off).take n) else none
def putN {α : Type} (l : List α) (off : Nat) (new : List α) : Option (List α) :=
  bif Nat.ble (Nat.add off new.length) l.length then some (l.take off ++ (new ++ l.drop (Nat.add off new.length))) else none

def intEq (a b : Int) : Bool := match a, b with
  | .ofNat m, .ofNat n => Nat.beq m n
  | .negSucc m, .negSucc n => Nat.beq m n
  | _, _ => false
def intLt (a b : Int) : Bool := match a, b with
  | .ofNat m, .ofNat n => Nat.blt m n
  | .negSucc m, .negSucc n => Nat.blt n m
  | .negSucc _, .ofNat _ => true
  | .ofNat _, .negSucc _ => false
def bytesEq : List UInt8 → List UInt8 → Bool
  | [], [] => true
  | a :: x, b :: y => bif Nat.beq a.toNat b.toNat then bytesEq x y else false
  | _, _ => false
def bytesLt : List UInt8 → List UInt8 → Bool
  | _, [] => false
  | [], _ :: _ => true
  | a :: x, b :: y => bif Nat.blt a.toNat b.toNat then true else (bif Nat.beq a.toNat b.toNat then bytesLt x y else false)

/-- an index in its bounds -/
def idx (i : Int) (n : Nat) : Option Nat := match i with
  | .ofNat k => bif Nat.blt k n then some k else none
  | .negSucc _ => none
def idxLe (i : Int) (n : Nat) : Option Nat := match i with
  | .ofNat k => bif Nat.ble k n then some k else none
  | .negSucc _ => none

def bytesOf (l : List UInt8) : List PV := l.map fun b => .int .u8 (Int.ofNat b.toNat)
def toByte : PV → Option UInt8
  | .int .u8 (.ofNat n) => bif Nat.blt n 256 then some (UInt8.ofNat n) else none
  | _ => none
def toBytes : List PV → Option (List UInt8)
  | [] => some []
  | x :: xs => match toByte x with
    | some b => match toBytes xs with
      | some r => some (b :: r)
      | none => none
    | none => none

def pPick (c a b : Option PV) : Option PV := match c with
  | some (.bool true) => a
  | some (.bool false) => b
  | _ => none
def pNil (x : Option PV) : Option PV := match x with
  | some (.ptr b g o) => some (.ptr b g o)
  | some (.vptr cs) => some (.vptr cs)
  | some (.clo f a b) => some (.clo f a b)
  | _ => none

/-- '==' where no memory is asked: 'cst': one of the operands is a constant of the text -/
def pvEq (k : TK) (cst : Bool) (x y : PV) : Option Bool := match k with
  | .bool => match x, y with
    | .bool a, .bool b => some (bif a then b else !b)
    | _, _ => none
  | .pointer .. => match x, y with
    | .nilp, .nilp => some true
    | .nilp, .ptr .. => some false
    | .ptr .., .nilp => some false
    | _, _ => none
  | .slice .. => match x, y with
    | .nils, .nils => some true
    | .nils, .vsl .. => some false
    | .vsl .., .nils => some false
    | .nils, .msl .. => some false
    | .msl .., .nils => some false
    | _, _ => none
  | .iface => match x, y with
    | .nili, .nili => bif cst then some true else none
    | .nili, .ifc .. => some false
    | .ifc .., .nili => some false
    | _, _ => none
  | _ => none

def maxStr : Nat := 9223372036854775807

def kindNo (k : IntKind) : Nat := match k with
  | .i8 => 0 | .i16 => 1 | .i32 => 2 | .i64 => 3 | .u8 => 4 | .u16 => 5 | .u32 => 6 | .u64 => 7
/-- a number's bits -/
def low (k : IntKind) (a : Int) : Nat := Int.toNat (a % (2 ^ k.bits : Int))
def binI (op : BinOp) (k : IntKind) (a b : Int) : Option PV := match op with
  | .add => some (.int k (k.wrap (a + b)))
  | .sub => some (.int k (k.wrap (a - b)))
  | .mul => some (.int k (k.wrap (a * b)))
  | .quo => bif intEq b 0 then none else some (.int k (k.wrap (a.tdiv b)))
  | .rem => bif intEq b 0 then none else some (.int k (a.tmod b))
  | .eql => some (.bool (intEq a b))
  | .neq => some (.bool (!intEq a b))
  | .lss => some (.bool (intLt a b))
  | .geq => some (.bool (!intLt a b))
  | .gtr => some (.bool (intLt b a))
  | .leq => some (.bool (!intLt b a))
  | .and => some (.int k (k.wrap (Int.ofNat (Nat.land (low k a) (low k b)))))
  | .or => some (.int k (k.wrap (Int.ofNat (Nat.lor (low k a) (low k b)))))
  | .xor => some (.int k (k.wrap (Int.ofNat (Nat.xor (low k a) (low k b)))))
  | _ => none
def binS (op : BinOp) (a b : List UInt8) : Option PV := match op with
  | .add => bif Nat.ble (Nat.add a.length b.length) maxStr then some (.str (a ++ b)) else none
  | .eql => some (.bool (bytesEq a b))
  | .neq => some (.bool (!bytesEq a b))
  | .lss => some (.bool (bytesLt a b))
  | .geq => some (.bool (!bytesLt a b))
  | _ => none
def binA (op : BinOp) (m n : Nat) : Option PV := match op with
  | .add => bif Nat.ble (Nat.add m n) maxStr then some (.anyS (Nat.add m n)) else none
  | _ => none
def eqOp (op : BinOp) (b : Option Bool) : Option PV := match b with
  | some b => match op with
    | .eql => some (.bool b)
    | .neq => some (.bool (!b))
    | _ => none
  | none => none
def bin2 (k : Option TI) (cst : Bool) (op : BinOp) (x y : PV) : Option PV := match x, y with
  | .int k a, .int k' b => match op with
    | .shl => match b with
      | .ofNat n => some (.int k (k.wrap (a * 2 ^ (Nat.min n k.bits))))
      | .negSucc _ => none
    | .shr => match b with
      | .ofNat n => some (.int k (a.fdiv (2 ^ (Nat.min n k.bits))))
      | .negSucc _ => none
    | op => bif Nat.beq (kindNo k) (kindNo k') then binI op k a b else none
  | .str a, .str b => binS op a b
  | .str a, .anyS n => binA op a.length n
  | .anyS n, .str a => binA op n a.length
  | .anyS m, .anyS n => binA op m n
  | x, y => match k with
    | some i => eqOp op (pvEq i.kind cst x y)
    | none => none
def pBin (k : Option TI) (cst : Bool) (op : BinOp) (x y : Option PV) : Option PV := match x with
  | some a => match y with
    | some b => bin2 k cst op a b
    | none => none
  | none => none
def pUn (op : UnOp) (x : Option PV) : Option PV := match op with
  | .not => match x with
    | some (.bool b) => some (.bool !b)
    | _ => none
  | .neg => match x with
    | some (.int k n) => some (.int k (k.wrap (0 - n)))
    | _ => none
  | .xor => match x with
    | some (.int k n) => some (.int k (k.wrap (Int.ofNat (Nat.xor (low k (bif k.signed then -1 else k.max)) (low k n)))))
    | _ => none
  | _ => none
def isU8 : Option (List PV) → Bool
  | some [.int .u8 (.ofNat 0)] => true
  | _ => false
def pConv (s d : TK) (x : Option PV) : Option PV := match d with
  | .int k => match x with
    | some (.int _ n) => some (.int k (k.wrap n))
    | _ => none
  | .string => match s with
    | .string => match x with
      | some (.str l) => some (.str l)
      | some (.anyS n) => some (.anyS n)
      | _ => none
    | .slice _ esz _ ez => bif isU8 ez && Nat.beq esz 1 then (match x with
      | some .nils => some (.str [])
      | some (.vsl cs n _) => match toBytes cs with
        | some l => bif Nat.beq l.length n then some (.str l) else none
        | none => none
      | _ => none) else none
    | _ => none
  | _ => none
def pIfc (k : Option TI) (t : Nat) (x : Option PV) : Option PV := match k with
  | some ⟨.iface, _, _⟩ => none
  | some _ => match x with
    | some v => some (.ifc t v)
    | none => none
  | none => none
def pClo (f : Fn) (a b : Option (List PV)) : Option PV := match f with
  | .func f => match a with
    | some a => match b with
      | some b => some (.clo f a b)
      | none => none
    | none => none
  | _ => none
def pFA (k : Option TI) (x : Option PV) (f : Nat) : Option PV := match k with
  | some ⟨.struct fs, _, _⟩ => match nthN fs f with
    | some fi => bif Nat.beq fi.sz 0 then none else match x with
      | some (.ptr b g o) => some (.ptr b g (Nat.add o fi.off))
      | some (.vptr cs) => bif Nat.ble (Nat.add fi.off 1) cs.length then some (.vptr (cs.drop fi.off)) else none
      | _ => none
    | none => none
  | _ => none
/-- a part of a struct's or an array's cells -/
def partN (isAgg : Bool) (cs : List PV) (off sz : Nat) : Option PV :=
  bif isAgg then (match cutN cs off sz with
    | some l => some (.agg l)
    | none => none) else nthN cs off
def pField (k : Option TI) (x : Option PV) (f : Nat) : Option PV := match k with
  | some ⟨.struct fs, _, _⟩ => match nthN fs f with
    | some fi => match x with
      | some (.agg cs) => partN fi.isAgg cs fi.off fi.sz
      | _ => none
    | none => none
  | _ => none
def pIA (k : Option TI) (x i : Option PV) : Option PV := match i with
  | some (.int _ i) => match k with
    | some ⟨.slice _ esz _ _, _, _⟩ => bif Nat.beq esz 0 then none else match x with
      | some (.vsl cs n _) => match idx i n with
        | some j => bif Nat.ble (Nat.mul (Nat.succ j) esz) cs.length then some (.vptr (cs.drop (Nat.mul j esz))) else none
        | none => none
      | some (.msl b g off n _) => match idx i n with
        | some j => some (.ptr b g (Nat.add off (Nat.mul j esz)))
        | none => none
      | _ => none
    | some ⟨.array n esz _, _, _⟩ => match x with
      | some (.ptr b g off) => match idx i n with
        | some j => some (.ptr b g (Nat.add off (Nat.mul j esz)))
        | none => none
      | _ => none
    | _ => none
  | _ => none
def pIx (k : Option TI) (x i : Option PV) : Option PV := match i with
  | some (.int _ i) => match x with
    | some (.str l) => match k with
      | some ⟨.string, _, _⟩ => match i with
        | .ofNat j => match nthN l j with
          | some b => some (.int .u8 (Int.ofNat b.toNat))
          | none => none
        | .negSucc _ => none
      | _ => none
    | some (.agg cs) => match k with
      | some ⟨.array n esz eagg, _, _⟩ => match idx i n with
        | some j => partN eagg cs (Nat.mul j esz) esz
        | none => none
      | _ => none
    | _ => none
  | _ => none
def pExt (x : Option PV) (i : Nat) : Option PV := match x with
  | some (.tup vs) => nthN vs i
  | _ => none
def hiOf (hi : Option PV) (n cap : Nat) : Option Nat := match hi with
  | none => some n
  | some (.int _ i) => idxLe i cap
  | some _ => none
def loOf (lo : Option PV) (h : Nat) : Option Nat := match lo with
  | none => some 0
  | some (.int _ i) => idxLe i h
  | some _ => none
def bounds (lo hi : Option PV) (n : Nat) : Option (Nat × Nat) := match hiOf hi n n with
  | some h => match loOf lo h with
    | some l => some (l, h)
    | none => none
  | none => none
def pSlice (k : Option TI) (x : Option PV) (lo hi mx : Option (Option PV)) : Option PV := match lo with
  | none => none
  | some lo => match hi with
    | none => none
    | some hi => match mx with
      | some none => match x with
        | some (.str s) => match k with
          | some ⟨.string, _, _⟩ => match bounds lo hi s.length with
            | some (l, h) => some (.str ((s.take h).drop l))
            | none => none
          | _ => none
        | some .nils => match k with
          | some ⟨.slice .., _, _⟩ => match bounds lo hi 0 with
            | some _ => some .nils
            | none => none
          | _ => none
        | some (.vsl cs n c) => match k with
          | some ⟨.slice _ esz _ _, _, _⟩ => match bounds lo hi n with
            | some (l, h) => some (.vsl ((cs.take (Nat.mul h esz)).drop (Nat.mul l esz)) (Nat.sub h l) (match c with | some c => some (Nat.sub c l) | none => none))
            | none => none
          | _ => none
        | some (.msl b g off n sz) => match k with
          | some ⟨.slice _ esz _ _, _, _⟩ => match bounds lo hi n with
            | some (l, h) => bif Nat.beq esz sz then some (.msl b g (Nat.add off (Nat.mul l sz)) (Nat.sub h l) sz) else none
            | none => none
          | _ => none
        | _ => none
      | _ => none
def fillF (fs : List FI) (cells : List PV) : List (Nat × PV) → Option (List PV)
  | [] => some cells
  | (i, v) :: rest => match nthN fs i with
    | some fi => bif Nat.beq v.cells.length fi.sz then (match putN cells fi.off v.cells with
      | some cs => fillF fs cs rest
      | none => none) else none
    | none => none
def fillA (sz : Nat) (cells : List PV) : List (Nat × PV) → Option (List PV)
  | [] => some cells
  | (i, v) :: rest => bif Nat.beq v.cells.length sz then (match putN cells (Nat.mul i sz) v.cells with
    | some cs => fillA sz cs rest
    | none => none) else none
def pBuild (k : Option TI) (ps : Option (List (Nat × PV))) : Option PV := match k with
  | some ⟨kd, _, some z⟩ => match ps with
    | some l => match kd with
      | .struct fs => match fillF fs z l with
        | some cs => some (.agg cs)
        | none => none
      | .array _ esz _ => match fillA esz z l with
        | some cs => some (.agg cs)
        | none => none
      | _ => none
    | none => none
  | _ => none
def repN (zero : List PV) : Nat → List PV
  | 0 => []
  | n + 1 => zero ++ repN zero n
/-- no reference into memory -/
def flat : PV → Bool
  | .int .. => true
  | .bool _ => true
  | .str _ => true
  | .anyS _ => true
  | .sym .. => true
  | .nilp => true
  | .nils => true
  | .vsl .. => true
  | .nilm => true
  | .nilf => true
  | .nili => true
  | _ => false
def flats : List PV → Bool
  | [] => true
  | x :: xs => bif flat x then flats xs else false
/-- an argument that may be handed to a contract: a struct of such values, too -/
def flat1 : PV → Bool
  | .agg cs => flats cs
  | x => flat x
def flat1s : List PV → Bool
  | [] => true
  | x :: xs => bif flat1 x then flat1s xs else false
def pBuildSlice (k : Option TI) (n : Nat) (ps : Option (List (Nat × PV))) : Option PV := match k with
  | some ⟨.slice _ esz _ (some z), _, _⟩ => match ps with
    | some l => bif Nat.ble (Nat.mul n esz) 16777216 then (match fillA esz (repN z n) l with
      | some cs => bif flats cs then some (.vsl cs n (some n)) else none
      | none => none) else none
    | none => none
  | _ => none
def pLen : PV → Option PV
  | .str s => some (.int .i64 (Int.ofNat s.length))
  | .nils => some (.int .i64 0)
  | .vsl _ n _ => some (.int .i64 (Int.ofNat n))
  | .msl _ _ _ n _ => some (.int .i64 (Int.ofNat n))
  | _ => none
def foldI (isMin : Bool) : PV → List PV → Option PV
  | a, [] => some a
  | .int k x, .int _ y :: r => foldI isMin (.int k (bif isMin then (bif intLt y x then y else x) else (bif intLt x y then y else x))) r
  | _, _ => none
def tyOf (E : Env) (t : Option Nat) : Option TI := match t with
  | some t => E.ty t
  | none => none
def pBuiltin (E : Env) (b : Builtin) (ts : List Nat) (l : Option (List PV)) : Option PV := match b with
  | .len => match l with
    | some [x] => match tyOf E ts.head? with
      | some ⟨.string, _, _⟩ => match x with
        | .str s => pLen (.str s)
        | _ => none
      | some ⟨.slice .., _, _⟩ => match x with
        | .str _ => none
        | x => pLen x
      | _ => none
    | _ => none
  | .cap => match l with
    | some [x] => match tyOf E ts.head? with
      | some ⟨.slice .., _, _⟩ => match x with
        | .nils => some (.int .i64 0)
        | .vsl _ _ (some c) => some (.int .i64 (Int.ofNat c))
        | _ => none
      | _ => none
    | _ => none
  | .min => match l with
    | some (x :: r) => foldI true x r
    | _ => none
  | .max => match l with
    | some (x :: r) => foldI false x r
    | _ => none
  | .unsafeSliceData => match l with
    | some [.msl b g off n _] => match n with
      | 0 => none
      | _ + 1 => some (.ptr b g off)
    | some [.nils] => some .nilp
    | _ => none
  | _ => none

def isCst : Operand → Bool
  | .const _ => true
  | _ => false
/-- operations that leave the memory alone and don't look into it -/
def evP (E : Env) (ρ : Operand → Option PV) : Op → Option PV
  | .move x => ρ x
  | .assign x => ρ x
  | .pick c a b => pPick (ρ c) (ρ a) (ρ b)
  | .nilCheck x => pNil (ρ x)
  | .binOp op t x y _ => pBin (E.ty t) (isCst x || isCst y) op (ρ x) (ρ y)
  | .unOp op _ x => pUn op (ρ x)
  | .convert s d x => match E.ty s with
    | some ks => match E.ty d with
      | some kd => pConv ks.kind kd.kind (ρ x)
      | none => none
    | none => none
  | .makeInterface t x => pIfc (E.ty t) t (ρ x)
  | .makeFunc f a b => pClo f (evs ρ a.toList) (evs ρ b.toList)
  | .slice t x lo hi mx => pSlice (E.ty t) (ρ x) (evopt ρ lo) (evopt ρ hi) (evopt ρ mx)
  | .fieldAddr t x f => pFA (E.ty t) (ρ x) f
  | .field t x f => pField (E.ty t) (ρ x) f
  | .indexAddr t x i => pIA (E.ty t) (ρ x) (ρ i)
  | .index t x i => pIx (E.ty t) (ρ x) (ρ i)
  | .extract x i => pExt (ρ x) i
  | .build t ps => pBuild (E.ty t) (evps ρ ps.toList)
  | .buildSlice t n ps => pBuildSlice (E.ty t) n (evps ρ ps.toList)
  | .call c => match c.callee with
    | .builtin b => pBuiltin E b c.argTypes.toList (evs ρ c.args.toList)
    | _ => none
  | _ => none

def ldCells (m : PM) (p : Option PV) (n : Nat) : Option (List PV) := match p with
  | some (.ptr b g off) => match m.get b with
    | some (.cells cs g' _ et) => bif Nat.beq g g' then cutN cs off n else none
    | _ => none
  | some (.vptr cs) => cutN cs 0 n
  | _ => none
def mLoad (k : Option TI) (m : PM) (p : Option PV) : Option (PV × PM) := match k with
  | some i => match ldCells m p i.sz with
    | some cs => bif i.agg then some (.agg cs, m) else (match cs with
      | [c] => some (c, m)
      | _ => none)
    | none => none
  | none => none
/-- a value whose cells may be laid in memory -/
def cellOk : PV → Bool
  | .agg _ => false
  | .tup _ => false
  | _ => true
def cellsOk : List PV → Bool
  | [] => true
  | x :: xs => bif cellOk x then cellsOk xs else false
def mStore (k : Option TI) (m : PM) (p x : Option PV) : Option (PV × PM) := match k with
  | some i => match p with
    | some (.ptr b g off) => match x with
      | some v => match m.get b with
        | some (.cells cs g' false et) => bif Nat.beq g g' && (Nat.beq v.cells.length i.sz && cellsOk v.cells) then (match putN cs off v.cells with
          | some cs' => some (undefPV, m.upd b (.cells cs' g' false et))
          | none => none) else none
        | _ => none
      | none => none
    | _ => none
  | none => none
def mAlloc (k : Option TI) (t : Nat) (m : PM) : Option (PV × PM) := match k with
  | some ⟨_, _, some z⟩ => some (.ptr m.next 0 0, m.new (.cells z 0 false t))
  | _ => none
def mBox (t : Nat) (m : PM) (x : Option PV) : Option (PV × PM) := match x with
  | some v => bif cellsOk v.cells then some (.ptr m.next 0 0, m.new (.cells v.cells 0 false t)) else none
  | none => none
def mMakeSlice (k : Option TI) (m : PM) (l c : Option PV) : Option (PV × PM) := match k with
  | some ⟨.slice et esz ebytes (some z), _, _⟩ => match l with
    | some (.int _ (.ofNat n)) => match c with
      | some (.int _ (.ofNat n')) => bif Nat.ble n n' && (Nat.ble (Nat.mul n' ebytes) 140737488355328 && (Nat.ble n' maxStr && !Nat.beq esz 0)) then
          some (.msl m.next 0 0 n esz, m.new (.cells (repN z n) 0 false et)) else none
      | _ => none
    | _ => none
  | _ => none
/-- what is appended: the cells, and how many elements -/
def appendix (m : PM) (esz : Nat) (x : PV) : Option (List PV × Nat) := match x with
  | .nils => some ([], 0)
  | .vsl cs n _ => bif Nat.beq cs.length (Nat.mul n esz) then some (cs, n) else none
  | .msl b g off n sz => match m.get b with
    | some (.cells cs g' _ et) => bif Nat.beq g g' && Nat.beq sz esz then (match cutN cs off (Nat.mul n sz) with
      | some l => some (l, n)
      | none => none) else none
    | _ => none
  | .str l => bif Nat.beq esz 1 then some (bytesOf l, l.length) else none
  | _ => none
def roomB : Nat := 140737488355328
def mAppend2 (m : PM) (et esz ebytes : Nat) (s : PV) (cs : List PV) (n : Nat) : Option (PV × PM) := bif Nat.beq ebytes 0 then none else match s with
  | .nils => bif Nat.beq n 0 then some (.nils, m) else
      (bif Nat.ble (Nat.mul n ebytes) roomB then some (.msl m.next 0 0 n esz, m.new (.cells cs 0 false et)) else none)
  | .vsl old k (some c) => bif Nat.beq n 0 then some (.vsl old k (some c), m) else
      (bif Nat.beq k c && (Nat.beq old.length (Nat.mul k esz) && Nat.ble (Nat.mul (Nat.add k n) ebytes) roomB) then some (.msl m.next 0 0 (Nat.add k n) esz, m.new (.cells (old ++ cs) 0 false et)) else none)
  | .msl b g off k sz => match m.get b with
    | some (.cells old g' false et') => bif Nat.beq et et' && Nat.beq g g' && (Nat.beq off 0 && (Nat.beq sz esz && Nat.ble (Nat.mul (Nat.add k n) ebytes) roomB)) then (match cutN old 0 (Nat.mul k sz) with
      | some l => some (.msl b (Nat.succ g) 0 (Nat.add k n) esz, m.upd b (.cells (l ++ cs) (Nat.succ g) false et))
      | none => none) else none
    | _ => none
  | _ => none
def mAppend (k : Option TI) (m : PM) (s x : PV) : Option (PV × PM) := match k with
  | some ⟨.slice et esz ebytes (some _), _, _⟩ => bif Nat.beq esz 0 then none else match appendix m esz x with
    | some (cs, n) => bif cellsOk cs then mAppend2 m et esz ebytes s cs n else none
    | none => none
  | _ => none
/-- 'append(s, make([]T, n)...)', s nil -/
def mAppendZ (k : Option TI) (m : PM) (s x : PV) : Option (PV × PM) := match k with
  | some ⟨.slice et esz ebytes (some z), _, _⟩ => bif Nat.beq esz 0 then none else match x with
    | .int .i64 (.ofNat n) => match s with
      | .nils => bif Nat.beq n 0 || Nat.beq ebytes 0 then none else (bif Nat.ble (Nat.mul n ebytes) roomB then some (.msl m.next 0 0 n esz, m.new (.cells (repN z n) 0 false et)) else none)
      | _ => none
    | _ => none
  | _ => none
def mCopy (k : Option TI) (m : PM) (d x : PV) : Option (PV × PM) := match k with
  | some ⟨.slice _ esz _ _, _, _⟩ => match d with
    | .msl b g off n sz => match m.get b with
      | some (.cells cs g' false et) => bif Nat.beq g g' && (Nat.beq sz esz && !Nat.beq esz 0) then (match appendix m esz x with
        | some (src, k) => bif Nat.ble k n && cellsOk src then (match putN cs off src with
          | some cs' => some (.int .i64 (Int.ofNat k), m.upd b (.cells cs' g' false et))
          | none => none) else (match x with
          | .msl b2 g2 off2 k2 sz2 => bif Nat.ble n k2 then (match appendix m esz (.msl b2 g2 off2 n sz2) with
            | some (src, k3) => bif Nat.beq k3 n && (Nat.beq k k2 && cellsOk src) then (match putN cs off src with
              | some cs' => some (.int .i64 (Int.ofNat n), m.upd b (.cells cs' g' false et))
              | none => none) else none
            | none => none) else none
          | _ => none)
        | none => none) else none
      | _ => none
    | _ => none
  | _ => none
def mUnsafeString (k : Option TI) (m : PM) (p : PV) (n : Nat) : Option (PV × PM) := match p with
  | .nilp => bif Nat.beq n 0 then some (.str [], m) else none
  | .ptr b g off => bif Nat.beq n 0 then some (.str [], m) else (match k with
    | some ⟨.pointer e esz, _, _⟩ => match m.get b with
      | some (.cells cs g' false et) => bif Nat.beq g g' && (Nat.beq e et && (Nat.beq esz 1 && (Nat.beq off 0 && Nat.ble n maxStr))) then (match cutN cs off n with
        | some l => match toBytes l with
          | some s => some (.str s, m.upd b (.cells cs g' true et))
          | none => none
        | none => none) else none
      | _ => none
    | _ => none)
  | _ => none
/-- a pointer to a whole variable, seen as an unsafe one or back -/
def mSeen (m : PM) (e esz : Nat) (x : Option PV) : Option (PV × PM) := match x with
  | some (.ptr b g 0) => match m.get b with
    | some (.cells cs g' _ et) => bif Nat.beq g g' && (Nat.beq e et && (Nat.beq cs.length esz && !Nat.beq esz 0)) then some (.ptr b g 0, m) else none
    | _ => none
  | _ => none
def mConv (s d : Option TI) (m : PM) (x : Option PV) : Option (PV × PM) := match s with
  | some ⟨.slice _ _ _ ez, _, _⟩ => match d with
    | some ⟨.string, _, _⟩ => match x with
      | some (.msl b g off n sz) => match m.get b with
        | some (.cells cs g' _ _) => bif isU8 ez && (Nat.beq g g' && Nat.beq sz 1) then (match cutN cs off n with
          | some l => match toBytes l with
            | some r => some (.str r, m)
            | none => none
          | none => none) else none
        | _ => none
      | _ => none
    | _ => none
  | some ⟨.pointer e esz, _, _⟩ => match d with
    | some ⟨.unsafePointer, _, _⟩ => mSeen m e esz x
    | _ => none
  | some ⟨.unsafePointer, _, _⟩ => match d with
    | some ⟨.pointer e esz, _, _⟩ => mSeen m e esz x
    | _ => none
  | _ => none
/-- two pointers -/
def mCmp (k : Option TI) (m : PM) (op : BinOp) (x y : Option PV) : Option (PV × PM) := match k with
  | some ⟨.pointer _ (_ + 1), _, _⟩ => match x with
    | some (.ptr b g o) => match y with
      | some (.ptr b' g' o') => match m.get b with
        | some blk => bif Nat.beq b b' && (Nat.beq o o' && (Nat.beq g blk.gen && Nat.beq g' blk.gen)) then (match eqOp op (some true) with
          | some v => some (v, m)
          | none => none) else none
        | none => none
      | _ => none
    | _ => none
  | _ => none
/-- keys: numbers and texts -/
def keyEq : PV → PV → Option Bool
  | .int k a, .int k' b => bif Nat.beq (kindNo k) (kindNo k') then some (intEq a b) else none
  | .str a, .str b => some (bytesEq a b)
  | _, _ => none
def findE (k : PV) : List (PV × PV) → Nat → Option (Option (Nat × PV))
  | [], _ => some none
  | (a, v) :: es, i => match keyEq k a with
    | some true => some (some (i, v))
    | some false => findE k es (Nat.succ i)
    | none => none
def isKey : PV → Bool
  | .int .. => true
  | .str _ => true
  | _ => false
def isKeyS (str : Bool) (k : PV) : Bool := match k with
  | .int .. => !str
  | .str _ => str
  | _ => false
def tupOk (ok : Bool) (v : PV) (b : Bool) : PV := bif ok then .tup [v, .bool b] else v
def mLookup (k : Option TI) (m : PM) (x i : Option PV) (ok : Bool) : Option (PV × PM) := match k with
  | some ⟨.map sk (some z), _, _⟩ => match i with
    | some key => bif isKeyS sk key then (match x with
      | some .nilm => some (tupOk ok z false, m)
      | some (.map b) => match m.get b with
        | some (.map es) => match findE key es 0 with
          | some (some (_, v)) => some (tupOk ok v true, m)
          | some none => some (tupOk ok z false, m)
          | none => none
        | _ => none
      | _ => none) else none
    | none => none
  | _ => none
def setE (es : List (PV × PV)) (i : Nat) (v : PV) : List (PV × PV) := match es with
  | [] => []
  | (a, w) :: r => match i with
    | 0 => (a, v) :: r
    | j + 1 => (a, w) :: setE r j v
def mUpdate (k : Option TI) (m : PM) (x i v : Option PV) : Option (PV × PM) := match k with
  | some ⟨.map sk _, _, _⟩ => match x with
    | some (.map b) => match i with
      | some key => match v with
        | some v => match m.get b with
          | some (.map es) => bif isKeyS sk key then (match findE key es 0 with
            | some (some (i, _)) => some (undefPV, m.upd b (.map (setE es i v)))
            | some none => some (undefPV, m.upd b (.map (es ++ [(key, v)])))
            | none => none) else none
          | _ => none
        | none => none
      | none => none
    | _ => none
  | _ => none
def mEntry (k : Option TI) (m : PM) (x i : Option PV) : Option (PV × PM) := match k with
  | some ⟨.map sk (some z), _, _⟩ => match x with
    | some (.map b) => match i with
      | some key => match m.get b with
        | some (.map es) => bif isKeyS sk key then (match findE key es 0 with
          | some (some (i, v)) => some (.tup [v, .int .i64 (Int.ofNat i)], m)
          | some none => some (.tup [z, .int .i64 (Int.ofNat es.length)], m.upd b (.map (es ++ [(key, z)])))
          | none => none) else none
        | _ => none
      | none => none
    | _ => none
  | _ => none
def mEntryStore (m : PM) (x s v : Option PV) : Option (PV × PM) := match x with
  | some (.map b) => match s with
    | some (.int _ (.ofNat i)) => match v with
      | some v => match m.get b with
        | some (.map es) => bif Nat.blt i es.length then some (undefPV, m.upd b (.map (setE es i v))) else none
        | _ => none
      | none => none
    | _ => none
  | _ => none
def mMakeMap (k : Option TI) (m : PM) (r : Option Operand) : Option (PV × PM) := match k with
  | some ⟨.map _ _, _, _⟩ => match r with
    | none => some (.map m.next, m.new (.map []))
    | some (.const (.int ..)) => some (.map m.next, m.new (.map []))
    | _ => none
  | _ => none
def mRange (k : Option TI) (m : PM) (x : Option PV) : Option (PV × PM) := match k with
  | some ⟨.string, _, _⟩ => match x with
    | some (.str l) => some (.ptr m.next 0 0, m.new (.iter l 0))
    | _ => none
  | _ => none
def mNext (m : PM) (x : Option PV) (isString : Bool) : Option (PV × PM) := match isString with
  | true => match x with
    | some (.ptr b 0 0) => match m.get b with
      | some (.iter l p) => match nthN l p with
        | none => some (.tup [.bool false], m)
        | some c => bif Nat.blt c.toNat 128 then some (.tup [.bool true, .int .i64 (Int.ofNat p), .int .i32 (Int.ofNat c.toNat)], m.upd b (.iter l (Nat.succ p))) else none
      | _ => none
    | _ => none
  | false => none
def mBuiltin (E : Env) (m : PM) (b : Builtin) (ts : List Nat) (l : Option (List PV)) : Option (PV × PM) := match b with
  | .append => match l with
    | some [s, x] => match ts with
      | [t, t'] => match E.ty t' with
        | some ⟨.int _, _, _⟩ => mAppendZ (E.ty t) m s x
        | some ⟨.slice .., _, _⟩ => mAppend (E.ty t) m s x
        | some ⟨.string, _, _⟩ => mAppend (E.ty t) m s x
        | _ => none
      | _ => none
    | _ => none
  | .copy => match l with
    | some [d, x] => match ts with
      | t :: _ => mCopy (E.ty t) m d x
      | [] => none
    | _ => none
  | .unsafeString => match l with
    | some [p, .int .i64 (.ofNat n)] => match ts with
      | [t, _] => mUnsafeString (E.ty t) m p n
      | _ => none
    | _ => none
  | _ => none
/-- operations on the memory -/
def evM (E : Env) (ρ : Operand → Option PV) (m : PM) : Op → Option (PV × PM)
  | .alloc t => mAlloc (E.ty t) t m
  | .box t x => mBox t m (ρ x)
  | .load t a => mLoad (E.ty t) m (ρ a)
  | .store t a x => mStore (E.ty t) m (ρ a) (ρ x)
  | .makeSlice t l c => mMakeSlice (E.ty t) m (ρ l) (ρ c)
  | .makeMap t r => mMakeMap (E.ty t) m r
  | .lookup t x i ok => mLookup (E.ty t) m (ρ x) (ρ i) ok
  | .mapUpdate t x i v => mUpdate (E.ty t) m (ρ x) (ρ i) (ρ v)
  | .mapEntry t x i => mEntry (E.ty t) m (ρ x) (ρ i)
  | .entryStore _ x s v => mEntryStore m (ρ x) (ρ s) (ρ v)
  | .range t x => mRange (E.ty t) m (ρ x)
  | .next x b => mNext m (ρ x) b
  | .convert s d x => mConv (E.ty s) (E.ty d) m (ρ x)
  | .binOp op t x y _ => mCmp (E.ty t) m op (ρ x) (ρ y)
  | .call c => match c.callee with
    | .builtin b => mBuiltin E m b c.argTypes.toList (evs ρ c.args.toList)
    | _ => none
  | _ => none
def isMB : Builtin → Bool
  | .append => true
  | .copy => true
  | .unsafeString => true
  | _ => false
/-- which of the two -/
def isM : Op → Bool
  | .alloc _ => true
  | .box .. => true
  | .load .. => true
  | .store .. => true
  | .makeSlice .. => true
  | .makeMap .. => true
  | .lookup .. => true
  | .mapUpdate .. => true
  | .mapEntry .. => true
  | .entryStore .. => true
  | .range .. => true
  | .next .. => true
  | .call c => match c.callee with
    | .builtin b => isMB b
    | _ => false
  | _ => false
def evOp (E : Env) (ρ : Operand → Option PV) (m : PM) (op : Op) : Option (PV × PM) :=
  bif isM op then evM E ρ m op else match evP E ρ op with
    | some v => some (v, m)
    | none => evM E ρ m op

/-- a call of a Go function: which one, and its arguments -/
def callOf (ρ : Operand → Option PV) : Op → Option (Option (Nat × List PV))
  | .call c => match c.callee with
    | .value f => match ρ f with
      | some (.clo f a b) => match evs ρ c.args.toList with
        | some l => some (some (f, a ++ (l ++ b)))
        | none => some none
      | _ => some none
    | _ => none
  | _ => none

structure St where
  tm : Tr PV
  nt : Nat
  me : PM
  df : List (Nat × List PV)
  deriving Inhabited
inductive Ex where
  | nrm | ret | exit (id : Nat)
  deriving Inhabited

def put (s : St) (dst : Option Nat) (v : PV) (m : PM) : Option St := match dst with
  | some d => bif Nat.blt d s.nt then some ⟨s.tm.set d v, s.nt, m, s.df⟩ else none
  | none => some ⟨s.tm, s.nt, m, s.df⟩

def guardOk (tm : Tr PV) (ops : List Oper) (g : Option (Nat × Bool)) : Option Bool := match g with
  | none => some true
  | some (j, w) => match nthN ops j with
    | some oj => match oj.dst with
      | some d => match tm.get d with
        | some (.bool b) => some (bif w then b else !b)
        | some (.tup []) => some false
        | _ => none
      | none => none
    | none => none
/-- a deferred call is laid aside -/
def deferOf (ρ : Operand → Option PV) : Op → Option (Option (Nat × List PV))
  | .defer c => match c.callee with
    | .value f => match ρ f with
      | some (.clo f a b) => match evs ρ c.args.toList with
        | some l => some (some (f, a ++ (l ++ b)))
        | none => some none
      | _ => some none
    | _ => some none
  | _ => none
def put2 (s : St) (dst : Option Nat) (r : Option (PV × PM)) : Option St := match r with
  | some (v, m) => put s dst v m
  | none => none
/-- operations ahead of an operation, in whatever order the region is run: a bit for each -/
def maskOf (prev : List Nat) : List Edge → Nat
  | [] => 0
  | e :: es => bif Region.binds .any e then (match nthN prev e.on with
    | some p => Nat.lor (Nat.lor (Nat.pow 2 e.on) p) (maskOf prev es)
    | none => maskOf prev es) else maskOf prev es
def befs : List Nat → List Oper → List Nat
  | prev, [] => prev
  | prev, o :: os => befs (prev ++ [maskOf prev o.after.toList]) os
def ordered (bs : List Nat) (i j : Nat) : Bool := bif Nat.blt i j then (match nthN bs j with
    | some p => Nat.testBit p i
    | none => false) else (match nthN bs i with
    | some p => Nat.testBit p j
    | none => false)
/-- what a region that draws its order did: it read cells at a place; it changed the memory -/
inductive Tri where
  | rd (i : Nat) (p : PV) (n : Nat)
  | wr (i : Nat) (m m' : PM)

def eqE : List Int → List Int → Bool
  | [], [] => true
  | x :: xs, y :: ys => intEq x y && eqE xs ys
  | _, _ => false
mutual
/-- surely one value -/
def eqPV : PV → PV → Bool
  | .int k a, .int k' b => Nat.beq (kindNo k) (kindNo k') && intEq a b
  | .bool a, .bool b => bif a then b else !b
  | .str a, .str b => bytesEq a b
  | .nilp, .nilp => true
  | .nils, .nils => true
  | .nilm, .nilm => true
  | .nilf, .nilf => true
  | .nili, .nili => true
  | .anyS a, .anyS b => Nat.beq a b
  | .sym k e, .sym k' e' => Nat.beq k k' && eqE e e'
  | .ptr b g o, .ptr b' g' o' => Nat.beq b b' && (Nat.beq g g' && Nat.beq o o')
  | .msl b g o n z, .msl b' g' o' n' z' => Nat.beq b b' && (Nat.beq g g' && (Nat.beq o o' && (Nat.beq n n' && Nat.beq z z')))
  | .map b, .map b' => Nat.beq b b'
  | .vsl cs n c, .vsl cs' n' c' => Nat.beq n n' && (eqPVs cs cs' && (match c with
    | none => (match c' with
      | none => true
      | some _ => false)
    | some x => (match c' with
      | none => false
      | some y => Nat.beq x y)))
  | _, _ => false
def eqPVs : List PV → List PV → Bool
  | [], [] => true
  | x :: xs, y :: ys => eqPV x y && eqPVs xs ys
  | _, _ => false
end
def sameRead (m m' : PM) (p : PV) (n : Nat) : Bool := match ldCells m (some p) n with
  | some a => match ldCells m' (some p) n with
    | some b => eqPVs a b
    | none => false
  | none => false
def okPair (bs : List Nat) : Tri → Tri → Bool
  | .rd .., .rd .. => true
  | .rd i p n, .wr j m m' => ordered bs i j || sameRead m m' p n
  | .wr j m m', .rd i p n => ordered bs i j || sameRead m m' p n
  | .wr i _ _, .wr j _ _ => ordered bs i j
def okOne (bs : List Nat) (x : Tri) : List Tri → Bool
  | [] => true
  | y :: ys => okPair bs x y && okOne bs x ys
def okAll (bs : List Nat) : List Tri → Bool
  | [] => true
  | x :: xs => okOne bs x xs && okAll bs xs

/-- the variables that a region makes are laid ahead -/
def preA (E : Env) : List Oper → PM → Option (List (Option PV) × PM)
  | [], m => some ([], m)
  | o :: os, m => match o.op with
    | .alloc t => match o.guard with
      | none => match mAlloc (E.ty t) t m with
        | some (p, m') => match preA E os m' with
          | some (l, m'') => some (some p :: l, m'')
          | none => none
        | none => none
      | some _ => none
    | _ => match preA E os m with
      | some (l, m') => some (none :: l, m')
      | none => none

section
variable (E : Env) (call : Nat → List PV → PM → Option (PV × PM))
def evOper (s : St) (o : Oper) : Option St := match callOf (evo s.tm) o.op with
  | some (some (f, l)) => put2 s o.dst (call f l s.me)
  | some none => none
  | none => match deferOf (evo s.tm) o.op with
    | some (some d) => put ⟨s.tm, s.nt, s.me, d :: s.df⟩ o.dst undefPV s.me
    | some none => none
    | none => put2 s o.dst (evOp E (evo s.tm) s.me o.op)
def evOps (all : List Oper) : List Oper → St → Option St
  | [], s => some s
  | o :: os, s => match guardOk s.tm all o.guard with
    | some true => match evOper E call s o with
      | some s' => evOps all os s'
      | none => none
    | some false => match put s o.dst undefPV s.me with
      | some s' => evOps all os s'
      | none => none
    | none => none
/-- may the call be made whenever? -/
def pureCall (f : Nat) (l : List PV) : Bool := match E.ext f with
  | some _ => flat1s l
  | none => E.iso f && flats l
/-- one operation of a region that draws its order: what it did, and the state -/
def drOper (i : Nat) (s : St) (o : Oper) : Option (Option Tri × Option (PV × PM)) := match callOf (evo s.tm) o.op with
  | some (some (f, l)) => match call f l s.me with
    | some (v, m) => bif pureCall E f l then some (none, some (v, s.me)) else some (some (.wr i s.me m), some (v, m))
    | none => none
  | some none => none
  | none => match o.op with
    | .defer _ => none
    | .load t a => match E.ty t with
      | some k => match evo s.tm a with
        | some p => some (some (.rd i p k.sz), mLoad (some k) s.me (some p))
        | none => none
      | none => none
    | op => bif isM op then (match evM E (evo s.tm) s.me op with
      | some (v, m) => some (some (.wr i s.me m), some (v, m))
      | none => none) else (match evP E (evo s.tm) op with
      | some v => some (none, some (v, s.me))
      | none => none)
def drOps (all : List Oper) : Nat → List (Option PV) → List Oper → St → List Tri → Option (St × List Tri)
  | _, _, [], s, tr => some (s, tr)
  | _, [], _ :: _, _, _ => none
  | i, pr :: prs, o :: os, s, tr => match guardOk s.tm all o.guard with
    | some true => match pr with
      | some p => match put s o.dst p s.me with
        | some s' => drOps all (Nat.succ i) prs os s' tr
        | none => none
      | none => match drOper E call i s o with
        | some (t, r) => match put2 s o.dst r with
          | some s' => drOps all (Nat.succ i) prs os s' (match t with
            | some t => t :: tr
            | none => tr)
          | none => none
        | none => none
    | some false => match put s o.dst undefPV s.me with
      | some s' => drOps all (Nat.succ i) prs os s' tr
      | none => none
    | none => none
def evDraw (ops : List Oper) (s : St) : Option St := match preA E ops s.me with
  | some (prs, m) => match drOps E call ops 0 prs ops ⟨s.tm, s.nt, m, s.df⟩ [] with
    | some (s', tr) => match tr with
      | [] => some s'
      | [_] => some s'
      | tr => bif okAll (befs [] ops) tr then some s' else none
    | none => none
  | none => none
def loopN (body : St → Option (Ex × St)) : Nat → St → Option (Ex × St)
  | 0, _ => none
  | n + 1, s => match body s with
    | some (.nrm, s') => loopN body n s'
    | some (.ret, s') => some (.ret, s')
    | some (.exit i, s') => some (.exit i, s')
    | none => none
def condOf (tm : Tr PV) (c : Operand) : Option Bool := match evo tm c with
  | some (.bool b) => some b
  | _ => none
def evCode (N : Nat) : Code → St → Option (Ex × St)
  | .skip, s => some (.nrm, s)
  | .region _ ops dr, s => match (bif dr then evDraw E call ops.toList s else evOps E call ops.toList ops.toList s) with
    | some s' => some (.nrm, s')
    | none => none
  | .seq a b, s => match evCode N a s with
    | some (.nrm, s') => evCode N b s'
    | some (.ret, s') => some (.ret, s')
    | some (.exit i, s') => some (.exit i, s')
    | none => none
  | .cond c a b, s => match condOf s.tm c with
    | some true => evCode N a s
    | some false => evCode N b s
    | none => none
  | .block id a, s => match evCode N a s with
    | some (.exit i, s') => bif Nat.beq i id then some (.nrm, s') else some (.exit i, s')
    | some (.ret, s') => some (.ret, s')
    | some (.nrm, s') => some (.nrm, s')
    | none => none
  | .loop a, s => loopN (evCode N a) N s
  | .exit i, s => some (.exit i, s)
  | .ret, s => some (.ret, s)
  | _, _ => none

def guards : List (Nat × List PV) → Bool
  | [] => true
  | (f, _) :: r => bif E.guard f then guards r else false
def resultsOf (tm : Tr PV) (m : PM) : List ResultVar → Option (List PV)
  | [] => some []
  | .tmp t :: r => match evo tm (.tmp t) with
    | some v => match resultsOf tm m r with
      | some l => some (v :: l)
      | none => none
    | none => none
  | .cell a t :: r => match E.ty t with
    | some k => match mLoad (some k) m (evo tm (.tmp a)) with
      | some (v, _) => match resultsOf tm m r with
        | some l => some (v :: l)
        | none => none
      | none => none
    | none => none
def oneOrTup : List PV → PV
  | [v] => v
  | l => .tup l
def bindArgs : Nat → List PV → Tr PV → Tr PV
  | _, [], t => t
  | i, x :: xs, t => bindArgs (Nat.succ i) xs (t.set i x)
def evBody (N : Nat) (f : Nat) (args : List PV) (m : PM) : Option (PV × PM) := match E.fn f with
  | none => none
  | some fn => match fn.body with
    | none => none
    | some c => bif Nat.ble args.length fn.ntmps then (match evCode E call N c ⟨bindArgs 0 args .leaf, fn.ntmps, m, []⟩ with
      | some (.exit _, _) => none
      | some (_, s) => bif guards E s.df then (match resultsOf E s.tm s.me fn.results.toList with
        | some l => some (oneOrTup l, s.me)
        | none => none) else none
      | none => none) else none
end

def reifysW (f : PM → PV → Option (PV × PM)) : PM → List PV → Option (List PV × PM)
  | m, [] => some ([], m)
  | m, x :: xs => bif flat x then (match reifysW f m xs with
      | some (l', m') => some (x :: l', m')
      | none => none) else (match f m x with
      | some (y, m') => match reifysW f m' xs with
        | some (l', m'') => some (y :: l', m'')
        | none => none
      | none => none)
/-- a value without references into memory; the memory with what it was read from frozen -/
def reify : Nat → PM → PV → Option (PV × PM)
  | 0, _, _ => none
  | d + 1, m, v => match v with
    | .msl b g off n sz => match m.get b with
      | some (.cells cs g' _ et) => bif Nat.beq g g' then (match cutN cs off (Nat.mul n sz) with
        | some l => match reifysW (reify d) (m.upd b (.cells cs g' true et)) l with
          | some (l', m') => bif flats l' then some (.vsl l' n none, m') else none
          | none => none
        | none => none) else none
      | _ => none
    | .agg cs => match reifysW (reify d) m cs with
      | some (l, m') => some (.agg l, m')
      | none => none
    | .tup cs => match reifysW (reify d) m cs with
      | some (l, m') => some (.tup l, m')
      | none => none
    | .clo f [] [] => some (.clo f [] [], m)
    | .ifc t x => bif flat x then some (.ifc t x, m) else none
    | x => bif flat x then some (x, m) else none
def refs1 : PV → Bool
  | .vsl .. => true
  | .ifc .. => true
  | .sym .. => true
  | .tup _ => true
  | .agg _ => true
  | .vptr _ => true
  | _ => false
def refsL : List PV → Bool
  | [] => false
  | x :: xs => bif refs1 x then true else refsL xs
/-- may the value lie in memory that was handed in? -/
def refs : PV → Bool
  | .agg cs => refsL cs
  | .tup cs => refsL cs
  | x => refs1 x

def evCall (E : Env) (N : Nat) : Nat → Nat → List PV → PM → Option (PV × PM)
  | 0, _, _, _ => none
  | n + 1, f, args, m => match E.ext f with
    | some g => bif flat1s args then (match g args with
      | some r => some (r, m)
      | none => none) else none
    | none => bif E.same f then (match E.extM f with
        | some g => bif E.iso f then none else g args m
        | none => match args with
          | [x] => some (x, m)
          | _ => none)
      else bif E.iso f then (match reifysW (reify 11) m args with
        | some (as, m1) => match evBody E (evCall E N n) N f as .empty with
          | some (r, m') => match reify 12 m' r with
            | some (r', _) => some (r', bif refs r' then m1 else m)
            | none => none
          | none => none
        | none => none)
      else evBody E (evCall E N n) N f args m
/-- a region that draws its order: whatever looks at a temporary of the region is ordered with what writes it; each temporary is written once; edges lead back -/
def tmpsOf : List Operand → List Nat
  | [] => []
  | .tmp t :: r => t :: tmpsOf r
  | _ :: r => tmpsOf r
def guardTmp (all : List Oper) (o : Oper) : List Nat := match o.guard with
  | some (j, _) => match nthN all j with
    | some oj => match oj.dst with
      | some d => [d]
      | none => []
    | none => []
  | none => []
def memN (d : Nat) : List Nat → Bool
  | [] => false
  | t :: r => bif Nat.beq d t then true else memN d r
def dstIn (o : Oper) (ts : List Nat) : Bool := match o.dst with
  | some d => memN d ts
  | none => false
def regDst (bs : List Nat) (i : Nat) (ts : List Nat) : Nat → List Oper → Bool
  | _, [] => true
  | j, o :: os => (bif dstIn o ts then (bif Nat.beq i j then true else ordered bs i j) else true) && regDst bs i ts (Nat.succ j) os
def regUniq (d : Nat) : List Oper → Bool
  | [] => true
  | o :: os => (match o.dst with
    | some e => !Nat.beq d e
    | none => true) && regUniq d os
def regEdges (i : Nat) : List Edge → Bool
  | [] => true
  | e :: es => (bif Region.binds .any e then Nat.blt e.on i else true) && regEdges i es
def regOps (bs : List Nat) (all : List Oper) : Nat → List Oper → Bool
  | _, [] => true
  | i, o :: os => regEdges i o.after.toList && (regDst bs i (tmpsOf o.op.operands.toList) 0 all && (regDst bs i (guardTmp all o) 0 all && ((match o.dst with
    | some d => regUniq d os
    | none => true) && regOps bs all (Nat.succ i) os)))
def regOk (ops : List Oper) : Bool := regOps (befs [] ops) ops 0 ops
def codeReg : Code → Bool
  | .region _ ops dr => bif dr then regOk ops.toList else true
  | .seq a b => codeReg a && codeReg b
  | .cond _ a b => codeReg a && codeReg b
  | .block _ a => codeReg a
  | .loop a => codeReg a
  | _ => true
end Go.Ab
/- What the interpreter's values and memory stand for in a world of the model; how that is carried on. -/
namespace Go.Ab

/-- ρ: what symbolic cells are; β: where a block lies; S: blocks that nobody writes any more; L: the blocks that are laid in the world -/
structure Cx where
  ρ : Nat → List Int → PV
  hρ : ∀ k e, (∃ b, ρ k e = .bool b) ∨ ρ k e = .nils ∨ ∃ l n cp, ρ k e = .vsl l n cp
  β : Nat → Nat
  S : Nat → Prop
  L : Nat → Prop

def Blk.mut : Blk → Bool
  | .cells _ _ frz _ => !frz
  | _ => true
/-- one block later on: its kind stays, its count does not fall -/
def Blk.le : Blk → Blk → Prop
  | .cells _ g _ et, .cells _ g' _ et' => g ≤ g' ∧ et = et'
  | .map _, .map _ => True
  | .iter .., .iter .. => True
  | _, _ => False

def Mut (m : PM) (b : Nat) : Prop := ∃ blk, m.get b = some blk ∧ blk.mut = true

def At (w : World) (B o : Nat) (vs : List Value) : Prop := ∀ (i : Nat) (v : Value), vs[i]? = some v → w.cell? ⟨B, o + i, none⟩ = some v
/-- a row of just so many cells -/
def Room (w : World) (B n : Nat) : Prop := ∃ arr et fz, w.heap[B]? = some (.cells arr et fz) ∧ arr.size = n

mutual
inductive Rep (c : Cx) (m : PM) (w : World) : PV → Value → Prop
  | int (k : IntKind) (n : Int) : Rep c m w (.int k n) (.int k n)
  | bool (b : Bool) : Rep c m w (.bool b) (.bool b)
  | str (l : List UInt8) : Rep c m w (.str l) (.string ⟨⟨l⟩⟩)
  | anyS (n : Nat) (s : ByteArray) (h : s.size ≤ n) : Rep c m w (.anyS n) (.string s)
  | sym (k : Nat) (e : List Int) (v : Value) (h : Rep c m w (c.ρ k e) v) : Rep c m w (.sym k e) v
  | nilp : Rep c m w .nilp (.pointer none)
  | ptr (b g off : Nat) (blk : Blk) (a : Addr) (hL : c.L b) (hb : m.get b = some blk) (hg : g ≤ blk.gen) (ha : g = blk.gen → a = ⟨c.β b, off, none⟩) : Rep c m w (.ptr b g off) (.pointer (some a))
  | vptr (cs : List PV) (vs : List Value) (B o : Nat) (hf : flats cs = true) (hS : c.S B) (hat : At w B o vs) (hr : Reps c m w cs vs) : Rep c m w (.vptr cs) (.pointer (some ⟨B, o, none⟩))
  | nils : Rep c m w .nils (.slice none 0 0)
  | vsl0 (len : Nat) (cp : Option Nat) (a : Addr) (k : Nat) (hc : ∀ x, cp = some x → x = k) (hl : len ≤ k) : Rep c m w (.vsl [] len cp) (.slice (some a) len k)
  | vsl (cs : List PV) (vs : List Value) (B o len : Nat) (cp : Option Nat) (k : Nat) (hf : flats cs = true) (hS : c.S B) (hat : At w B o vs) (hr : Reps c m w cs vs) (hc : ∀ x, cp = some x → x = k) (hl : len ≤ k) : Rep c m w (.vsl cs len cp) (.slice (some ⟨B, o, none⟩) len k)
  | msl (b g off len sz : Nat) (blk : Blk) (a : Addr) (k : Nat) (hL : c.L b) (hb : m.get b = some blk) (hg : g ≤ blk.gen) (hl : len ≤ k) (hk : k ≤ maxLen) (ha : g = blk.gen → (0 < k → a = ⟨c.β b, off, none⟩) ∧ Room w (c.β b) (off + k * sz)) : Rep c m w (.msl b g off len sz) (.slice (some a) len k)
  | nilm : Rep c m w .nilm (.map none)
  | map (b : Nat) (es : List (PV × PV)) (hL : c.L b) (hb : m.get b = some (.map es)) : Rep c m w (.map b) (.map (some (c.β b)))
  | clo (f : Nat) (a b : List PV) (as bs : List Value) (ha : Reps c m w a as) (hb : Reps c m w b bs) : Rep c m w (.clo f a b) (.func (.func f) ⟨as⟩ ⟨bs⟩)
  | nilf : Rep c m w .nilf .nilFunc
  | nili : Rep c m w .nili .nilIface
  | ifc (t : Nat) (x : PV) (v : Value) (h : Rep c m w x v) : Rep c m w (.ifc t x) (.iface t v)
  | agg (cs : List PV) (vs : List Value) (h : Reps c m w cs vs) : Rep c m w (.agg cs) (.agg ⟨vs⟩)
  | tup (cs : List PV) (vs : List Value) (h : Reps c m w cs vs) : Rep c m w (.tup cs) (.tuple ⟨vs⟩)
inductive Reps (c : Cx) (m : PM) (w : World) : List PV → List Value → Prop
  | nil : Reps c m w [] []
  | cons (x : PV) (v : Value) (xs : List PV) (vs : List Value) (h : Rep c m w x v) (hs : Reps c m w xs vs) : Reps c m w (x :: xs) (v :: vs)
end

/-- the entries of a map, in the order of their birth -/
def Entries (c : Cx) (m : PM) (w : World) : Nat → List (PV × PV) → List MapEntry → Prop
  | _, [], [] => True
  | i, (k, v) :: es, e :: r => Rep c m w k e.key ∧ Rep c m w v e.val ∧ e.born = i ∧ isKey k = true ∧ Entries c m w (i + 1) es r
  | _, _, _ => False

def BlkAt (c : Cx) (m : PM) (w : World) (b : Nat) : Blk → Prop
  | .cells cs _ frz et => ∃ (arr : Array Value) (fz : Nat × Nat) (vs : List Value), w.heap[c.β b]? = some (.cells arr et fz) ∧ Reps c m w cs vs ∧ (∀ (i : Nat) (v : Value), vs[i]? = some v → arr[i]? = some v) ∧
      (frz = false → fz = (0, 0)) ∧ (frz = true → c.S (c.β b))
  | .map es => ∃ entries, w.heap[c.β b]? = some (.map ⟨entries⟩ entries.length) ∧ Entries c m w 0 es entries
  | .iter s p => w.heap[c.β b]? = some (.stringIter ⟨⟨s⟩⟩ p)

structure MemRel (c : Cx) (m : PM) (w : World) : Prop where
  fresh : ∀ b, m.next ≤ b → m.get b = none
  dom : ∀ b, c.L b → ∃ blk, m.get b = some blk
  blk : ∀ b blk, c.L b → m.get b = some blk → BlkAt c m w b blk
  inj : ∀ b b', c.L b → c.L b' → b ≠ b' → Mut m b → c.β b ≠ c.β b'
  Slt : ∀ B, c.S B → B < w.heap.size
  Smut : ∀ b, c.L b → Mut m b → ¬ c.S (c.β b)

structure Ext (c : Cx) (m : PM) (w : World) (c' : Cx) (m' : PM) (w' : World) : Prop where
  size : w.heap.size ≤ w'.heap.size
  old : ∀ B, B < w.heap.size → (∀ b, c.L b → c.β b = B → ¬ Mut m b) → w'.heap[B]? = w.heap[B]?
  rho : c'.ρ = c.ρ
  S1 : ∀ B, c.S B → c'.S B
  S2 : ∀ B, c'.S B → c.S B ∨ w.heap.size ≤ B ∨ ∃ b, c.L b ∧ Mut m b ∧ c.β b = B
  L1 : ∀ b, c.L b → c'.L b
  L2 : ∀ b, c'.L b → c.L b ∨ m.next ≤ b
  blk : ∀ b x, c.L b → m.get b = some x → ∃ y, m'.get b = some y ∧ x.le y ∧ (y.gen = x.gen → c'.β b = c.β b)
  unl : ∀ b, ¬ c.L b → b < m.next → m'.get b = m.get b
  next : m.next ≤ m'.next
  mut' : ∀ b, c'.L b → Mut m' b → w.heap.size ≤ c'.β b ∨ ∃ b0, c.L b0 ∧ Mut m b0 ∧ c.β b0 = c'.β b
  room : ∀ (B : Nat) (arr : Array Value) (et : TypeId) (fz : Nat × Nat), w.heap[B]? = some (.cells arr et fz) → ∃ (arr' : Array Value) (fz' : Nat × Nat), w'.heap[B]? = some (.cells arr' et fz') ∧ arr'.size = arr.size
  os : w'.os = w.os ∧ w'.output = w.output ∧ w'.tape = w.tape

theorem flats_mem : ∀ {l : List PV}, flats l = true → ∀ x ∈ l, flat x = true
  | [], _, _, h => by cases h
  | y :: l, h, x, hx => by
    simp only [flats] at h
    cases hy : flat y with
    | false => rw [hy] at h; cases h
    | true =>
      rw [hy] at h
      rcases List.mem_cons.1 hx with rfl | hx
      · exact hy
      · exact flats_mem h x hx
theorem flats_of : ∀ {l : List PV}, (∀ x ∈ l, flat x = true) → flats l = true
  | [], _ => rfl
  | y :: l, h => by
    simp only [flats, h y (by simp), cond_true]
    exact flats_of fun x hx => h x (by simp [hx])
theorem flats_drop {l : List PV} (h : flats l = true) (n : Nat) : flats (l.drop n) = true := flats_of fun x hx => flats_mem h x (List.mem_of_mem_drop hx)
theorem flats_take {l : List PV} (h : flats l = true) (n : Nat) : flats (l.take n) = true := flats_of fun x hx => flats_mem h x (List.mem_of_mem_take hx)
theorem Blk.le_refl (x : Blk) : x.le x := by cases x <;> simp [Blk.le]
theorem Blk.le_trans {x y z : Blk} (h : x.le y) (h' : y.le z) : x.le z := by
  cases x <;> cases y <;> cases z <;> simp only [Blk.le] at h h' ⊢
  exact ⟨Nat.le_trans h.1 h'.1, h.2.trans h'.2⟩
theorem Blk.le_gen {x y : Blk} (h : x.le y) : x.gen ≤ y.gen := by
  cases x <;> cases y <;> simp_all [Blk.le, Blk.gen]

theorem Ext.refl {c : Cx} {m : PM} {w : World} : Ext c m w c m w where
  size := Nat.le_refl _
  old := fun _ _ _ => rfl
  rho := rfl
  S1 := fun _ h => h
  S2 := fun _ h => .inl h
  L1 := fun _ h => h
  L2 := fun _ h => .inl h
  blk := fun _ x _ h => ⟨x, h, Blk.le_refl x, fun _ => rfl⟩
  unl := fun _ _ _ => rfl
  next := Nat.le_refl _
  mut' := fun b h hm => .inr ⟨b, h, hm, rfl⟩
  room := fun _ arr _ fz h => ⟨arr, fz, h, rfl⟩
  os := ⟨rfl, rfl, rfl⟩

theorem Mut.lt {c : Cx} {m : PM} {w : World} (h : MemRel c m w) {b : Nat} (hL : c.L b) : c.β b < w.heap.size := by
  obtain ⟨blk, hb⟩ := h.dom b hL
  have hat := h.blk b blk hL hb
  have : ∃ o, w.heap[c.β b]? = some o := by
    cases blk with
    | cells => obtain ⟨arr, fz, vs, h1, _⟩ := hat; exact ⟨_, h1⟩
    | map => obtain ⟨e, h1, _⟩ := hat; exact ⟨_, h1⟩
    | iter => exact ⟨_, hat⟩
  obtain ⟨o, ho⟩ := this
  exact (Array.getElem?_eq_some_iff.1 ho).1

theorem L_lt {c : Cx} {m : PM} {w : World} (h : MemRel c m w) {b : Nat} (hL : c.L b) : b < m.next := by
  obtain ⟨blk, hb⟩ := h.dom b hL
  rcases Nat.lt_or_ge b m.next with h' | h'
  · exact h'
  · rw [h.fresh b h'] at hb; cases hb

theorem Ext.trans {c c' c'' : Cx} {m m' m'' : PM} {w w' w'' : World} (hm : MemRel c m w) (h : Ext c m w c' m' w') (h' : Ext c' m' w' c'' m'' w'') : Ext c m w c'' m'' w'' where
  size := Nat.le_trans h.size h'.size
  old := fun B hB hn => by
    rw [h'.old B (Nat.lt_of_lt_of_le hB h.size), h.old B hB hn]
    intro b hL he hmu
    rcases h.mut' b hL hmu with hge | ⟨b0, h0, hm0, he0⟩
    · rw [he] at hge; omega
    · exact hn b0 h0 (he0.trans he) hm0
  rho := h'.rho.trans h.rho
  S1 := fun B hB => h'.S1 B (h.S1 B hB)
  S2 := fun B hB => by
    rcases h'.S2 B hB with hs | hge | ⟨b, hL, hmu, he⟩
    · exact h.S2 B hs
    · exact .inr (.inl (Nat.le_trans h.size hge))
    · rcases h.mut' b hL hmu with hge | ⟨b0, h0, hm0, he0⟩
      · exact .inr (.inl (he ▸ hge))
      · exact .inr (.inr ⟨b0, h0, hm0, he0.trans he⟩)
  L1 := fun b hb => h'.L1 b (h.L1 b hb)
  L2 := fun b hb => by
    rcases h'.L2 b hb with hl | hn
    · exact h.L2 b hl
    · exact .inr (Nat.le_trans h.next hn)
  blk := fun b x hL hx => by
    obtain ⟨y, hy, hle, hβ⟩ := h.blk b x hL hx
    obtain ⟨z, hz, hle', hβ'⟩ := h'.blk b y (h.L1 b hL) hy
    refine ⟨z, hz, Blk.le_trans hle hle', fun hg => ?_⟩
    have h1 := Blk.le_gen hle
    have h2 := Blk.le_gen hle'
    rw [hβ' (by omega), hβ (by omega)]
  unl := fun b hL hb => by
    have h1 := h.unl b hL hb
    have hL' : ¬ c'.L b := fun hl => by
      rcases h.L2 b hl with h2 | h2
      · exact hL h2
      · omega
    rw [h'.unl b hL' (Nat.lt_of_lt_of_le hb h.next), h1]
  next := Nat.le_trans h.next h'.next
  mut' := fun b hL hmu => by
    rcases h'.mut' b hL hmu with hge | ⟨b0, h0, hm0, he0⟩
    · exact .inl (Nat.le_trans h.size hge)
    · rcases h.mut' b0 h0 hm0 with hge | ⟨b1, h1, hm1, he1⟩
      · exact .inl (he0 ▸ hge)
      · exact .inr ⟨b1, h1, hm1, he1.trans he0⟩
  room := fun B arr et fz hB => by
    obtain ⟨a1, f1, h1, e1⟩ := h.room B arr et fz hB
    obtain ⟨a2, f2, h2, e2⟩ := h'.room B a1 et f1 h1
    exact ⟨a2, f2, h2, e2.trans e1⟩
  os := ⟨h'.os.1.trans h.os.1, h'.os.2.1.trans h.os.2.1, h'.os.2.2.trans h.os.2.2⟩

theorem At.mono {w w' : World} {B o : Nat} {vs : List Value} (h : At w B o vs) (hB : w'.heap[B]? = w.heap[B]?) : At w' B o vs := fun i v hv => by
  have := h i v hv
  unfold World.cell? at *
  simp only [] at *
  rw [hB]; exact this
theorem Room.ext {c c' : Cx} {m m' : PM} {w w' : World} (h : Ext c m w c' m' w') {B n : Nat} (hr : Room w B n) : Room w' B n := by
  obtain ⟨arr, et, fz, h1, h2⟩ := hr
  obtain ⟨a, f, h3, h4⟩ := h.room B arr et fz h1
  exact ⟨a, et, f, h3, by omega⟩

/-- what is known of a value is known later on -/
structure Carry (c : Cx) (m : PM) (w : World) (c' : Cx) (m' : PM) (w' : World) : Prop where
  rho : c'.ρ = c.ρ
  S : ∀ B, c.S B → c'.S B ∧ w'.heap[B]? = w.heap[B]?
  L : ∀ b x, c.L b → m.get b = some x → c'.L b ∧ ∃ y, m'.get b = some y ∧ x.le y ∧ (y.gen = x.gen → c'.β b = c.β b)
  room : ∀ B n, Room w B n → Room w' B n

theorem Ext.carry {c c' : Cx} {m m' : PM} {w w' : World} (hm : MemRel c m w) (h : Ext c m w c' m' w') : Carry c m w c' m' w' where
  rho := h.rho
  S := fun B hB => ⟨h.S1 B hB, h.old B (hm.Slt B hB) fun b hL he hmu => hm.Smut b hL hmu (he ▸ hB)⟩
  L := fun b x hL hx => ⟨h.L1 b hL, h.blk b x hL hx⟩
  room := fun _ _ hr => hr.ext h

mutual
theorem Rep.carry {c c' : Cx} {m m' : PM} {w w' : World} (h : Carry c m w c' m' w') : ∀ {p : PV} {v : Value}, Rep c m w p v → Rep c' m' w' p v
  | _, _, .int k n => .int k n
  | _, _, .bool b => .bool b
  | _, _, .str l => .str l
  | _, _, .anyS n s hs => .anyS n s hs
  | _, _, .sym k e v hv => .sym k e v (by have := hv.carry h; rwa [h.rho])
  | _, _, .nilp => .nilp
  | _, _, .ptr b g off blk a hL hb hg ha => by
    obtain ⟨h1, y, h2, h3, h4⟩ := h.L b blk hL hb
    have h5 := Blk.le_gen h3
    exact .ptr b g off y a h1 h2 (by omega) fun he => by
      have e : g = blk.gen := by omega
      rw [h4 (by omega)]; exact ha e
  | _, _, .vptr cs vs B o hf hS hat hr => .vptr cs vs B o hf (h.S B hS).1 (hat.mono (h.S B hS).2) (hr.carry h)
  | _, _, .nils => .nils
  | _, _, .vsl0 len cp a k hc hl => .vsl0 len cp a k hc hl
  | _, _, .vsl cs vs B o len cp k hf hS hat hr hc hl => .vsl cs vs B o len cp k hf (h.S B hS).1 (hat.mono (h.S B hS).2) (hr.carry h) hc hl
  | _, _, .msl b g off len sz blk a k hL hb hg hl hk ha => by
    obtain ⟨h1, y, h2, h3, h4⟩ := h.L b blk hL hb
    have h5 := Blk.le_gen h3
    exact .msl b g off len sz y a k h1 h2 (by omega) hl hk fun he => by
      have e : g = blk.gen := by omega
      rw [h4 (by omega)]; exact ⟨(ha e).1, h.room _ _ (ha e).2⟩
  | _, _, .nilm => .nilm
  | _, _, .map b es hL hb => by
    obtain ⟨h1, y, h2, h3, h4⟩ := h.L b _ hL hb
    cases y with
    | cells => simp [Blk.le] at h3
    | iter => simp [Blk.le] at h3
    | map es' => rw [← h4 rfl]; exact .map b es' h1 h2
  | _, _, .clo f a b as bs ha hb => .clo f a b as bs (ha.carry h) (hb.carry h)
  | _, _, .nilf => .nilf
  | _, _, .nili => .nili
  | _, _, .ifc t x v hv => .ifc t x v (hv.carry h)
  | _, _, .agg cs vs hs => .agg cs vs (hs.carry h)
  | _, _, .tup cs vs hs => .tup cs vs (hs.carry h)
theorem Reps.carry {c c' : Cx} {m m' : PM} {w w' : World} (h : Carry c m w c' m' w') : ∀ {p : List PV} {v : List Value}, Reps c m w p v → Reps c' m' w' p v
  | _, _, .nil => .nil
  | _, _, .cons x v xs vs hx hs => .cons x v xs vs (hx.carry h) (hs.carry h)
end
theorem Entries.carry {c c' : Cx} {m m' : PM} {w w' : World} (h : Carry c m w c' m' w') : ∀ {i : Nat} {es : List (PV × PV)} {r : List MapEntry}, Entries c m w i es r → Entries c' m' w' i es r
  | _, [], [], _ => trivial
  | _, (_, _) :: _, _ :: _, ⟨h1, h2, h3, h4, h5⟩ => ⟨h1.carry h, h2.carry h, h3, h4, h5.carry h⟩
  | _, [], _ :: _, h => h
  | _, _ :: _, [], h => h

theorem Reps.length {c : Cx} {m : PM} {w : World} : ∀ {cs : List PV} {vs : List Value}, Reps c m w cs vs → vs.length = cs.length
  | _, _, .nil => rfl
  | _, _, .cons _ _ _ _ _ h => by simp [h.length]
theorem Reps.get {c : Cx} {m : PM} {w : World} : ∀ {cs : List PV} {vs : List Value}, Reps c m w cs vs → ∀ {i : Nat} {x : PV}, cs[i]? = some x → ∃ v, vs[i]? = some v ∧ Rep c m w x v
  | _, _, .nil, i, x, h => by simp at h
  | _, _, .cons y v ys vs h hs, 0, x, e => by simp at e; subst e; exact ⟨v, rfl, h⟩
  | _, _, .cons y v ys vs h hs, i + 1, x, e => by simp at e; obtain ⟨u, h1, h2⟩ := hs.get e; exact ⟨u, by simpa using h1, h2⟩
theorem Reps.append {c : Cx} {m : PM} {w : World} : ∀ {cs : List PV} {vs : List Value}, Reps c m w cs vs → ∀ {ds : List PV} {us : List Value}, Reps c m w ds us → Reps c m w (cs ++ ds) (vs ++ us)
  | _, _, .nil, _, _, h => h
  | _, _, .cons _ _ _ _ h hs, _, _, h' => .cons _ _ _ _ h (hs.append h')
theorem Reps.take {c : Cx} {m : PM} {w : World} : ∀ {cs : List PV} {vs : List Value}, Reps c m w cs vs → ∀ (n : Nat), Reps c m w (cs.take n) (vs.take n)
  | _, _, .nil, n => by simpa using Reps.nil
  | _, _, .cons _ _ _ _ h hs, 0 => by simpa using Reps.nil
  | _, _, .cons _ _ _ _ h hs, n + 1 => .cons _ _ _ _ h (hs.take n)
theorem Reps.drop {c : Cx} {m : PM} {w : World} : ∀ {cs : List PV} {vs : List Value}, Reps c m w cs vs → ∀ (n : Nat), Reps c m w (cs.drop n) (vs.drop n)
  | _, _, .nil, n => by simpa using Reps.nil
  | _, _, .cons _ _ _ _ h hs, 0 => .cons _ _ _ _ h hs
  | _, _, .cons _ _ _ _ h hs, n + 1 => hs.drop n
theorem At.drop {w : World} {B o : Nat} {vs : List Value} (h : At w B o vs) (n : Nat) : At w B (o + n) (vs.drop n) := fun i v hv => by
  rw [List.getElem?_drop] at hv
  have := h (n + i) v hv
  rwa [← Nat.add_assoc] at this
theorem At.take {w : World} {B o : Nat} {vs : List Value} (h : At w B o vs) (n : Nat) : At w B o (vs.take n) := fun i v hv => by
  rw [List.getElem?_take] at hv
  split at hv
  · exact h i v hv
  · simp at hv

/-! ### the trie -/
theorem b10 : Nat.beq 1 0 = false := rfl
theorem Tr.get_leaf {α : Type} (n : Nat) : (Tr.leaf : Tr α).get n = none := rfl
theorem Tr.setA_same {α : Type} (x : α) : ∀ (d : Nat) (t : Tr α) (n : Nat), n < d → (Tr.setA x d t n).get n = some x
  | 0, _, _, h => by omega
  | d + 1, .leaf, 0, _ => rfl
  | d + 1, .node l v r, 0, _ => rfl
  | d + 1, .leaf, n + 1, h => by
    have := Tr.setA_same x d .leaf (n / 2) (by omega)
    simp only [Tr.setA, show Nat.mod n 2 = n % 2 from rfl, show Nat.div n 2 = n / 2 from rfl]
    rcases Nat.mod_two_eq_zero_or_one n with e | e <;> simp [e, b10, Tr.get, show Nat.mod n 2 = n % 2 from rfl, show Nat.div n 2 = n / 2 from rfl, this]
  | d + 1, .node l v r, n + 1, h => by
    have h1 := Tr.setA_same x d l (n / 2) (by omega)
    have h2 := Tr.setA_same x d r (n / 2) (by omega)
    simp only [Tr.setA, show Nat.mod n 2 = n % 2 from rfl, show Nat.div n 2 = n / 2 from rfl]
    rcases Nat.mod_two_eq_zero_or_one n with e | e <;> simp [e, b10, Tr.get, show Nat.mod n 2 = n % 2 from rfl, show Nat.div n 2 = n / 2 from rfl, h1, h2]
theorem Tr.setA_other {α : Type} (x : α) : ∀ (d : Nat) (t : Tr α) (n k : Nat), n ≠ k → (Tr.setA x d t n).get k = t.get k
  | 0, _, _, _, _ => rfl
  | d + 1, .leaf, 0, 0, h => absurd rfl h
  | d + 1, .leaf, 0, k + 1, h => by simp [Tr.setA, Tr.get]
  | d + 1, .node l v r, 0, 0, h => absurd rfl h
  | d + 1, .node l v r, 0, k + 1, h => by simp [Tr.setA, Tr.get]
  | d + 1, .leaf, n + 1, 0, h => by
    simp only [Tr.setA, show Nat.mod n 2 = n % 2 from rfl]
    rcases Nat.mod_two_eq_zero_or_one n with e | e <;> simp [e, b10, Tr.get]
  | d + 1, .node l v r, n + 1, 0, h => by
    simp only [Tr.setA, show Nat.mod n 2 = n % 2 from rfl]
    rcases Nat.mod_two_eq_zero_or_one n with e | e <;> simp [e, b10, Tr.get]
  | d + 1, .leaf, n + 1, k + 1, h => by
    simp only [Tr.setA, show Nat.mod n 2 = n % 2 from rfl, show Nat.div n 2 = n / 2 from rfl]
    rcases Nat.mod_two_eq_zero_or_one n with e | e <;> rcases Nat.mod_two_eq_zero_or_one k with e' | e' <;>
      simp [e, e', b10, Tr.get, show Nat.mod k 2 = k % 2 from rfl, show Nat.div k 2 = k / 2 from rfl] <;>
      rw [Tr.setA_other x d .leaf (n / 2) (k / 2) (by omega)] <;> rfl
  | d + 1, .node l v r, n + 1, k + 1, h => by
    simp only [Tr.setA, show Nat.mod n 2 = n % 2 from rfl, show Nat.div n 2 = n / 2 from rfl]
    rcases Nat.mod_two_eq_zero_or_one n with e | e <;> rcases Nat.mod_two_eq_zero_or_one k with e' | e' <;>
      simp [e, e', b10, Tr.get, show Nat.mod k 2 = k % 2 from rfl, show Nat.div k 2 = k / 2 from rfl] <;>
      rw [Tr.setA_other x d _ (n / 2) (k / 2) (by omega)]
theorem Tr.get_set_same {α : Type} (t : Tr α) (n : Nat) (x : α) : (t.set n x).get n = some x := Tr.setA_same x _ t n (Nat.lt_succ_self n)
theorem Tr.get_set_other {α : Type} (t : Tr α) {n k : Nat} (x : α) (h : n ≠ k) : (t.set n x).get k = t.get k := Tr.setA_other x _ t n k h
theorem PM.get_upd (m : PM) (b k : Nat) (x : Blk) : (m.upd b x).get k = if b = k then some x else m.get k := by
  unfold PM.get PM.upd
  split
  · rename_i h; subst h; exact Tr.get_set_same _ _ _
  · rename_i h; exact Tr.get_set_other _ _ h
theorem PM.get_new (m : PM) (k : Nat) (x : Blk) : (m.new x).get k = if m.next = k then some x else m.get k := by
  unfold PM.get PM.new
  split
  · rename_i h; rw [← h]; exact Tr.get_set_same _ _ _
  · rename_i h; exact Tr.get_set_other _ _ h
end Go.Ab
/- The operations that don't look into memory: what the interpreter answers, the model does. -/
namespace Go.Ab

def aggD : TypeDesc → Bool
  | .struct _ | .array _ _ => true
  | _ => false
def Closed (l : List PV) (vs : List Value) : Prop := ∀ c m w, Reps c m w l vs
def Closed1 (p : PV) (v : Value) : Prop := ∀ c m w, Rep c m w p v

/-- an element's or a field's type -/
def PartOk (P : Program) (t sz : Nat) (agg : Bool) : Prop := ∃ info d, P.info? t = some info ∧ P.underlying t = some d ∧ info.size = sz ∧ aggD d = agg
def ZeroOk (P : Program) (t : Nat) (z : Option (List PV)) : Prop := ∀ l, z = some l → ∃ info v, P.info? t = some info ∧ info.zero = some v ∧ Closed l v.cells.toList ∧ (∀ u ∈ v.cells.toList, u.oneCell' = true) ∧ v.cells.size = info.size
def KindOk (P : Program) (d : TypeDesc) : TK → Prop
  | .int k => d = .int k
  | .bool => d = .bool
  | .string => d = .string
  | .unsafePointer => d = .unsafePointer
  | .pointer e esz => ∃ info, d = .pointer e ∧ P.info? e = some info ∧ info.size = esz
  | .slice e esz eb ez => d = .slice e ∧ (∃ info d', P.info? e = some info ∧ P.underlying e = some d' ∧ info.size = esz ∧ info.bytes = eb ∧ (isU8 ez = true → d' = .int .u8)) ∧ ZeroOk P e ez
  | .array n esz ea => ∃ e, d = .array n e ∧ PartOk P e esz ea
  | .map str ez => ∃ k e kd, d = .map k e ∧ P.underlying k = some kd ∧ (str = true → kd = .string) ∧ (str = false → ∃ kk, kd = .int kk) ∧ ∀ z, ez = some z → ∃ info v, P.info? e = some info ∧ info.zero = some v ∧ Closed1 z v
  | .struct fs => ∃ fields, d = .struct fields ∧ fields.size = fs.length ∧ ∀ (i : Nat) (fi : FI), fs[i]? = some fi → ∃ f, fields[i]? = some f ∧ f.offset = fi.off ∧ PartOk P f.type fi.sz fi.isAgg
  | .iface => ∃ ms, d = .interface ms
  | .func => ∃ a b v, d = .func a b v
  | .other => ∀ ms, d ≠ .interface ms
structure TyOk (P : Program) (t : Nat) (i : TI) : Prop where
  ex : ∃ info d, P.info? t = some info ∧ P.underlying t = some d ∧ info.size = i.sz ∧ aggD d = i.agg ∧ KindOk P d i.kind
  zero : ZeroOk P t i.zero

section
variable {P : Program} {c : Cx} {m : PM} {w : World}

theorem nthN_eq {α : Type} : ∀ (l : List α) (n : Nat), nthN l n = l[n]?
  | [], n => by simp [nthN]
  | x :: xs, 0 => rfl
  | x :: xs, n + 1 => by simpa [nthN] using nthN_eq xs n
theorem cutN_some {α : Type} {l r : List α} {off n : Nat} (h : cutN l off n = some r) : off + n ≤ l.length ∧ r = (l.drop off).take n := by
  unfold cutN at h
  cases hb : Nat.ble (Nat.add off n) l.length with
  | true => rw [hb] at h; simp only [cond_true, Option.some.injEq] at h; exact ⟨Nat.le_of_ble_eq_true hb, h.symm⟩
  | false => rw [hb] at h; simp only [cond_false] at h; cases h
theorem putN_some {α : Type} {l r new : List α} {off : Nat} (h : putN l off new = some r) : off + new.length ≤ l.length ∧ r = l.take off ++ (new ++ l.drop (off + new.length)) := by
  unfold putN at h
  cases hb : Nat.ble (Nat.add off new.length) l.length with
  | true => rw [hb] at h; simp only [cond_true, Option.some.injEq] at h; exact ⟨Nat.le_of_ble_eq_true hb, h.symm⟩
  | false => rw [hb] at h; simp only [cond_false] at h; cases h
theorem intEq_eq (a b : Int) : intEq a b = (a == b) := by
  cases a with
  | ofNat x => cases b with
    | ofNat y =>
      rw [Bool.eq_iff_iff, beq_iff_eq]
      exact ⟨fun h => by rw [Nat.eq_of_beq_eq_true h], fun h => by cases h; exact Nat.beq_refl x⟩
    | negSucc y => rfl
  | negSucc x => cases b with
    | ofNat y => rfl
    | negSucc y =>
      rw [Bool.eq_iff_iff, beq_iff_eq]
      exact ⟨fun h => by rw [Nat.eq_of_beq_eq_true h], fun h => by cases h; exact Nat.beq_refl x⟩
theorem intLt_eq (a b : Int) : intLt a b = decide (a < b) := by
  cases a <;> cases b <;> simp [intLt]
  · rename_i x y; rw [Bool.eq_iff_iff]; simp [Nat.blt]; omega
  · rename_i x y; omega
  · rename_i x y; omega
  · rename_i x y; rw [Bool.eq_iff_iff]; simp [Nat.blt]; omega
theorem bytesEq_eq : ∀ (a b : List UInt8), bytesEq a b = (a == b)
  | [], [] => rfl
  | [], _ :: _ => rfl
  | _ :: _, [] => rfl
  | a :: x, b :: y => by
    have ih := bytesEq_eq x y
    by_cases h : a = b
    · subst h; simp [bytesEq, ih]
    · have h' : Nat.beq a.toNat b.toNat = false := by
        cases hb : Nat.beq a.toNat b.toNat with
        | false => rfl
        | true => exact absurd (UInt8.toNat_inj.1 (Nat.eq_of_beq_eq_true hb)) h
      simp [bytesEq, h', h]
theorem bytesLt_eq : ∀ (a b : List UInt8), bytesLt a b = Op.bytesLess a b
  | [], [] => rfl
  | [], _ :: _ => rfl
  | _ :: _, [] => rfl
  | a :: x, b :: y => by
    have ih := bytesLt_eq x y
    have e1 : Nat.blt a.toNat b.toNat = decide (a < b) := by rw [Bool.eq_iff_iff]; simp [Nat.blt, UInt8.lt_iff_toNat_lt]; omega
    have e2 : Nat.beq a.toNat b.toNat = (a == b) := by rw [Bool.eq_iff_iff]; simp [Nat.beq_eq, ← UInt8.toNat_inj]
    simp only [bytesLt, Op.bytesLess, e1, e2, ih]
    cases decide (a < b) <;> cases (a == b) <;> rfl
theorem idx_some {i : Int} {n k : Nat} (h : idx i n = some k) : i = (k : Int) ∧ k < n := by
  cases i with
  | negSucc x => simp [idx] at h
  | ofNat x =>
    simp only [idx] at h
    cases hb : Nat.blt x n with
    | true => simp [hb] at h; subst h; simp [Nat.blt] at hb; exact ⟨rfl, hb⟩
    | false => simp [hb] at h
theorem idxLe_some {i : Int} {n k : Nat} (h : idxLe i n = some k) : i = (k : Int) ∧ k ≤ n := by
  cases i with
  | negSucc x => simp [idxLe] at h
  | ofNat x =>
    simp only [idxLe] at h
    cases hb : Nat.ble x n with
    | true => simp [hb] at h; subst h; exact ⟨rfl, Nat.le_of_ble_eq_true hb⟩
    | false => simp [hb] at h
theorem kindNo_inj {k k' : IntKind} (h : Nat.beq (kindNo k) (kindNo k') = true) : k = k' := by
  have := Nat.eq_of_beq_eq_true h
  cases k <;> cases k' <;> simp [kindNo] at this <;> rfl

theorem low_and (k : IntKind) (a b : Int) : (BitVec.ofInt k.bits a &&& BitVec.ofInt k.bits b).toNat = Nat.land (low k a) (low k b) := by
  simp [low, BitVec.toNat_ofInt]
theorem low_or (k : IntKind) (a b : Int) : (BitVec.ofInt k.bits a ||| BitVec.ofInt k.bits b).toNat = Nat.lor (low k a) (low k b) := by
  simp [low, BitVec.toNat_ofInt]
theorem low_xor (k : IntKind) (a b : Int) : (BitVec.ofInt k.bits a ^^^ BitVec.ofInt k.bits b).toNat = Nat.xor (low k a) (low k b) := by
  simp [low, BitVec.toNat_ofInt]

theorem binI_sound {op : BinOp} {k : IntKind} {a b : Int} {p : PV} {t : TypeId} (hs : op ≠ .shl ∧ op ≠ .shr) (h : binI op k a b = some p) : ∃ v, (binOp op t (.int k a) (.int k b)).run P w = .ok v w ∧ Rep c m w p v := by
  cases op <;> simp only [binI] at h
  all_goals first | (cases h; done) | skip
  case quo =>
    rw [intEq_eq] at h
    by_cases hb : b = 0
    · rw [show (b == 0) = true from by simp [hb]] at h; cases h
    · rw [show (b == 0) = false from by simp [hb]] at h; cases h; exact ⟨_, by simp [binOp, Op.intDiv, hb], .int _ _⟩
  case rem =>
    rw [intEq_eq] at h
    by_cases hb : b = 0
    · rw [show (b == 0) = true from by simp [hb]] at h; cases h
    · rw [show (b == 0) = false from by simp [hb]] at h; cases h; exact ⟨_, by simp [binOp, Op.intDiv, hb], .int _ _⟩
  case add => cases h; exact ⟨_, by simp [binOp, Op.intArith], .int _ _⟩
  case sub => cases h; exact ⟨_, by simp [binOp, Op.intArith], .int _ _⟩
  case mul => cases h; exact ⟨_, by simp [binOp, Op.intArith], .int _ _⟩
  case and => cases h; exact ⟨_, by simp only [binOp, Op.intBits, ne_eq, not_true_eq_false, if_false, Sem.run_pure, low_and]; rfl, .int _ _⟩
  case or => cases h; exact ⟨_, by simp only [binOp, Op.intBits, ne_eq, not_true_eq_false, if_false, Sem.run_pure, low_or]; rfl, .int _ _⟩
  case xor => cases h; exact ⟨_, by simp only [binOp, Op.intBits, ne_eq, not_true_eq_false, if_false, Sem.run_pure, low_xor]; rfl, .int _ _⟩
  case eql => cases h; exact ⟨_, by simp [binOp, Op.intCmp]; rfl, by rw [intEq_eq]; exact .bool _⟩
  case neq => cases h; exact ⟨_, by simp [binOp, Op.intCmp]; rfl, by rw [intEq_eq]; exact .bool _⟩
  case lss => cases h; exact ⟨_, by simp [binOp, Op.intCmp]; rfl, by rw [intLt_eq]; exact .bool _⟩
  case leq =>
    cases h
    refine ⟨_, by simp [binOp, Op.intCmp]; rfl, ?_⟩
    rw [intLt_eq, show (!decide (b < a)) = decide (a ≤ b) from by rw [Bool.eq_iff_iff]; simp]
    exact .bool _
  case gtr => cases h; exact ⟨_, by simp [binOp, Op.intCmp]; rfl, by rw [intLt_eq]; exact .bool _⟩
  case geq =>
    cases h
    refine ⟨_, by simp [binOp, Op.intCmp]; rfl, ?_⟩
    rw [intLt_eq, show (!decide (a < b)) = decide (a ≥ b) from by rw [Bool.eq_iff_iff]; simp]
    exact .bool _

theorem eqGuard_no {op : BinOp} {t : TypeId} {X Y : Operand} {a b : Value} (h1 : ¬ (a = .nilIface ∧ b = .nilIface)) (h2 : ¬ ((∃ x, a = .agg x) ∧ ∃ y, b = .agg y)) : (eqGuard op t X Y a b).run P w = .ok () w := by
  unfold eqGuard
  cases op <;> first | rfl | skip
  all_goals
    cases a <;> first | rfl | skip
    all_goals cases b <;> first | rfl | exact absurd ⟨rfl, rfl⟩ h1 | exact absurd ⟨⟨_, rfl⟩, ⟨_, rfl⟩⟩ h2 | skip

theorem toList_mk (l : List UInt8) : (⟨⟨l⟩⟩ : ByteArray).toList = l := by rw [ByteArray.toList_eq]
theorem size_mk (l : List UInt8) : (⟨⟨l⟩⟩ : ByteArray).size = l.length := rfl
theorem append_mk (a b : List UInt8) : (⟨⟨a⟩⟩ ++ ⟨⟨b⟩⟩ : ByteArray) = ⟨⟨a ++ b⟩⟩ := by
  apply ByteArray.ext
  simp [ByteArray.data_append]

theorem binS_sound {op : BinOp} {a b : List UInt8} {p : PV} {t : TypeId} (h : binS op a b = some p) : ∃ v, (binOp op t (.string ⟨⟨a⟩⟩) (.string ⟨⟨b⟩⟩)).run P w = .ok v w ∧ Rep c m w p v := by
  cases op <;> simp only [binS] at h
  all_goals first | (cases h; done) | skip
  case add =>
    cases hb : Nat.ble (Nat.add a.length b.length) maxStr with
    | false => rw [hb] at h; cases h
    | true =>
      rw [hb] at h; cases h
      have hle : a.length + b.length ≤ maxStr := Nat.le_of_ble_eq_true hb
      have : ¬ ((((⟨⟨a⟩⟩ : ByteArray).size + (⟨⟨b⟩⟩ : ByteArray).size : Nat) : Int) > IntKind.i64.max) := by
        simp only [size_mk, IntKind.max, IntKind.signed, IntKind.bits, maxStr] at hle ⊢; simp; omega
      exact ⟨_, by simp only [binOp, Op.stringOp, this, if_false, Sem.run_pure, append_mk], .str _⟩
  case eql => cases h; exact ⟨_, by simp only [binOp, Op.stringOp, toList_mk, Sem.run_pure]; rfl, by rw [bytesEq_eq]; exact .bool _⟩
  case neq => cases h; exact ⟨_, by simp only [binOp, Op.stringOp, toList_mk, Sem.run_pure]; rfl, by rw [bytesEq_eq]; exact .bool _⟩
  case lss => cases h; exact ⟨_, by simp only [binOp, Op.stringOp, toList_mk, Sem.run_pure]; rfl, by rw [bytesLt_eq]; exact .bool _⟩
  case geq => cases h; exact ⟨_, by simp only [binOp, Op.stringOp, toList_mk, Sem.run_pure]; rfl, by rw [bytesLt_eq]; exact .bool _⟩

theorem binA_sound {op : BinOp} {a b : ByteArray} {x y : Nat} {p : PV} {t : TypeId} (ha : a.size ≤ x) (hb : b.size ≤ y) (h : binA op x y = some p) : ∃ v, (binOp op t (.string a) (.string b)).run P w = .ok v w ∧ Rep c m w p v := by
  cases op <;> simp only [binA] at h
  all_goals first | (cases h; done) | skip
  case add =>
    cases hc : Nat.ble (Nat.add x y) maxStr with
    | false => rw [hc] at h; cases h
    | true =>
      rw [hc] at h; cases h
      have hle : x + y ≤ maxStr := Nat.le_of_ble_eq_true hc
      have : ¬ (((a.size + b.size : Nat) : Int) > IntKind.i64.max) := by
        simp only [IntKind.max, IntKind.signed, IntKind.bits, maxStr] at hle ⊢; simp; omega
      refine ⟨.string (a ++ b), by simp only [binOp, Op.stringOp, this, if_false, Sem.run_pure], .anyS _ _ ?_⟩
      rw [ByteArray.size_append]
      exact Nat.add_le_add ha hb

theorem eqOp_some {op : BinOp} {b : Option Bool} {p : PV} (h : eqOp op b = some p) : ∃ x, b = some x ∧ ((op = .eql ∧ p = .bool x) ∨ (op = .neq ∧ p = .bool (!x))) := by
  cases b with
  | none => cases h
  | some x => cases op <;> simp only [eqOp] at h <;> first | (cases h; done) | skip
              all_goals (cases h; exact ⟨x, rfl, by simp⟩)

/-- values that no other arm of 'binOp' takes -/
def Plain : Value → Prop
  | .int .. | .float .. | .complex .. | .string _ => False
  | _ => True
theorem binOp_eql {t : TypeId} {a b : Value} (ha : Plain a) (hb : Plain b) : binOp .eql t a b = (do pure (.bool (← Op.equal t a b))) := by
  cases a <;> cases b <;> simp [Plain] at ha hb <;> rfl
theorem binOp_neq {t : TypeId} {a b : Value} (ha : Plain a) (hb : Plain b) : binOp .neq t a b = (do pure (.bool (!(← Op.equal t a b)))) := by
  cases a <;> cases b <;> simp [Plain] at ha hb <;> rfl

theorem equal_of {t : TypeId} {a b : Value} {r : Bool} (h : ∀ d, (Op.equalIn (d + 1) t a b).run P w = .ok r w) : (Op.equal t a b).run P w = .ok r w := h 9999

theorem pvEq_sound {k : TK} {t : TypeId} {d : TypeDesc} {X Y : Operand} {x y : PV} {a b : Value} {r : Bool} (hd : P.underlying t = some d) (hk : KindOk P d k)
    (hx : Rep c m w x a) (hy : Rep c m w y b) (h : pvEq k (isCst X || isCst Y) x y = some r) (op : BinOp) :
    (eqGuard op t X Y a b).run P w = .ok () w ∧ (Op.equal t a b).run P w = .ok r w ∧ Plain a ∧ Plain b := by
  have U := run_underlying hd w
  cases k <;> simp only [pvEq] at h
  all_goals first | (cases h; done) | skip
  case bool =>
    cases hk
    cases hx <;> cases hy <;> simp only [] at h <;> first | (cases h; done) | skip
    case bool.bool p q => cases h; exact ⟨eqGuard_no (by simp) (by simp), equal_of fun d => by simp only [Op.equalIn, Sem.run_bind, U, Result.andThen_ok, Sem.run_pure]; cases p <;> cases q <;> rfl, trivial, trivial⟩
  case pointer e esz =>
    obtain ⟨info, rfl, _, _⟩ := hk
    cases hx <;> cases hy <;> simp only [] at h <;> first | (cases h; done) | skip
    all_goals (cases h; exact ⟨eqGuard_no (by simp) (by simp), equal_of fun d => by simp only [Op.equalIn, Sem.run_bind, U, Result.andThen_ok, Sem.run_pure, Option.isNone_none, Option.isNone_some], trivial, trivial⟩)
  case slice e esz eb ez =>
    obtain ⟨rfl, _, _⟩ := hk
    cases hx <;> cases hy <;> simp only [] at h <;> first | (cases h; done) | skip
    all_goals (cases h; exact ⟨eqGuard_no (by simp) (by simp), equal_of fun d => by simp only [Op.equalIn, Sem.run_bind, U, Result.andThen_ok, Sem.run_pure, Option.isNone_none, Option.isNone_some], trivial, trivial⟩)
  case iface =>
    obtain ⟨ms, rfl⟩ := hk
    cases hx <;> cases hy <;> simp only [] at h <;> first | (cases h; done) | skip
    case nili.nili =>
      cases hc : (isCst X || isCst Y) with
      | false => rw [hc] at h; cases h
      | true =>
        rw [hc] at h; cases h
        refine ⟨?_, equal_of fun d => by simp only [Op.equalIn, Sem.run_bind, U, Result.andThen_ok, Sem.run_pure], trivial, trivial⟩
        unfold eqGuard
        cases X <;> cases Y <;> simp [isCst] at hc <;> cases op <;> rfl
    all_goals (cases h; exact ⟨eqGuard_no (by simp) (by simp), equal_of fun d => by simp only [Op.equalIn, Sem.run_bind, U, Result.andThen_ok, Sem.run_pure], trivial, trivial⟩)

theorem bin2_sound {k : Option TI} {t : TypeId} {op : BinOp} {X Y : Operand} {x y p : PV} {a b : Value} (hk : ∀ i, k = some i → TyOk P t i)
    (hx : Rep c m w x a) (hy : Rep c m w y b) (h : bin2 k (isCst X || isCst Y) op x y = some p) :
    ∃ v, (do eqGuard op t X Y a b; binOp op t a b : Sem Value).run P w = .ok v w ∧ Rep c m w p v := by
  have key : ∀ {i : TI}, k = some i → eqOp op (pvEq i.kind (isCst X || isCst Y) x y) = some p → ∃ v, (do eqGuard op t X Y a b; binOp op t a b : Sem Value).run P w = .ok v w ∧ Rep c m w p v := by
    intro i hi he
    obtain ⟨r, hr, hop⟩ := eqOp_some he
    obtain ⟨info, d, _, hd, _, _, hko⟩ := (hk i hi).ex
    obtain ⟨h1, h2, h3, h4⟩ := pvEq_sound hd hko hx hy hr op
    rcases hop with ⟨rfl, rfl⟩ | ⟨rfl, rfl⟩
    · exact ⟨_, by rw [Sem.run_bind, h1, Result.andThen_ok, binOp_eql h3 h4]; simp [h2], .bool _⟩
    · exact ⟨_, by rw [Sem.run_bind, h1, Result.andThen_ok, binOp_neq h3 h4]; simp [h2], .bool _⟩
  have guard : ∀ (h1 : ¬ (a = .nilIface ∧ b = .nilIface)) (h2 : ¬ ((∃ x, a = .agg x) ∧ ∃ y, b = .agg y)), (∃ v, (binOp op t a b).run P w = .ok v w ∧ Rep c m w p v) →
      ∃ v, (do eqGuard op t X Y a b; binOp op t a b : Sem Value).run P w = .ok v w ∧ Rep c m w p v := fun h1 h2 ⟨v, h3, h4⟩ => ⟨v, by rw [Sem.run_bind, eqGuard_no h1 h2, Result.andThen_ok, h3], h4⟩
  unfold bin2 at h
  split at h
  · cases hx; cases hy
    refine guard (by simp) (by simp) ?_
    split at h
    · split at h
      · cases h; exact ⟨_, by simp only [binOp, Op.shift]; rw [if_neg (by simp)]; rfl, .int _ _⟩
      · cases h
    · split at h
      · cases h; exact ⟨_, by simp only [binOp, Op.shift]; rw [if_neg (by simp)]; rfl, .int _ _⟩
      · cases h
    · rename_i h1 h2
      cases hc : Nat.beq (kindNo _) (kindNo _) with
      | false => rw [hc] at h; cases h
      | true => rw [hc] at h; cases kindNo_inj hc; exact binI_sound ⟨h1, h2⟩ h
  · cases hx; cases hy; exact guard (by simp) (by simp) (binS_sound h)
  · cases hx; cases hy with
    | anyS n s hs => exact guard (by simp) (by simp) (binA_sound (Nat.le_refl _) hs h)
  · cases hy; cases hx with
    | anyS n s hs => exact guard (by simp) (by simp) (binA_sound hs (Nat.le_refl _) h)
  · cases hx with
    | anyS n s hs => cases hy with
      | anyS n' s' hs' => exact guard (by simp) (by simp) (binA_sound hs hs' h)
  · split at h
    · exact key rfl h
    · cases h
end
end Go.Ab
/- The operations that don't look into memory, part 2. -/
namespace Go.Ab
section
variable {P : Program} {c : Cx} {m : PM} {w : World}

theorem beq_t {a b : Nat} (h : Nat.beq a b = true) : a = b := Nat.eq_of_beq_eq_true h
theorem bif_some {α : Type} {b : Bool} {x : Option α} {r : α} (h : (bif b then x else none) = some r) : b = true ∧ x = some r := by
  cases b
  · cases h
  · exact ⟨rfl, h⟩
theorem bif_none {α : Type} {b : Bool} {x : Option α} {r : α} (h : (bif b then none else x) = some r) : b = false ∧ x = some r := by
  cases b
  · exact ⟨rfl, h⟩
  · cases h
theorem and_t {a b : Bool} (h : (a && b) = true) : a = true ∧ b = true := by simpa using h
theorem nbeq {a b : Nat} (h : Nat.beq a b = false) : a ≠ b := Nat.ne_of_beq_eq_false h
theorem not_t {a : Bool} (h : (!a) = true) : a = false := by simpa using h

theorem TyOk.kd {t : Nat} {i : TI} (h : TyOk P t i) : ∃ d, P.underlying t = some d ∧ aggD d = i.agg ∧ KindOk P d i.kind := by
  obtain ⟨_, d, _, h2, _, h4, h5⟩ := h.ex
  exact ⟨d, h2, h4, h5⟩

theorem pNil_sound {x p : PV} {a : Value} (hx : Rep c m w x a) (h : pNil (some x) = some p) : p = x ∧ ((∃ q, a = .pointer (some q)) ∨ ∃ f u v, a = .func (.func f) u v) := by
  cases x <;> simp only [pNil] at h <;> first | (cases h; done) | skip
  case ptr => cases hx; cases h; exact ⟨rfl, .inl ⟨_, rfl⟩⟩
  case vptr => cases hx; cases h; exact ⟨rfl, .inl ⟨_, rfl⟩⟩
  case clo => cases hx; cases h; exact ⟨rfl, .inr ⟨_, _, _, rfl⟩⟩

theorem pUn_sound {op : UnOp} {x p : PV} {a : Value} (hx : Rep c m w x a) (h : pUn op (some x) = some p) : ∃ v, (Op.unary op a).run P w = .ok v w ∧ Rep c m w p v := by
  cases op <;> cases x <;> simp only [pUn] at h <;> first | (cases h; done) | skip
  case neg.int k n => cases hx; cases h; exact ⟨_, rfl, .int _ _⟩
  case not.bool b => cases hx; cases h; exact ⟨_, rfl, .bool _⟩
  case xor.int k n =>
    cases hx; cases h
    refine ⟨_, ?_, .int _ _⟩
    simp only [Op.unary, Op.intBits, Sem.run_pure, low_xor]
    cases k.signed <;> rfl

theorem toByte_some {x : PV} {b : UInt8} (h : toByte x = some b) : ∃ n : Nat, x = .int .u8 (n : Int) ∧ n < 256 ∧ b = UInt8.ofNat n := by
  cases x <;> simp only [toByte] at h <;> first | (cases h; done) | skip
  rename_i k n
  cases k <;> first | (cases h; done) | skip
  cases n <;> first | (cases h; done) | skip
  rename_i n
  obtain ⟨hn, h⟩ := bif_some h
  cases h
  exact ⟨n, rfl, by simp [Nat.blt] at hn; omega, rfl⟩
theorem toBytes_some : ∀ {cs : List PV} {l : List UInt8} {vs : List Value}, toBytes cs = some l → Reps c m w cs vs →
    vs = (l.map fun b => (b.toNat : Int)).map (Value.int .u8) ∧ cs.length = l.length
  | [], l, _, h, hr => by cases h; cases hr; exact ⟨rfl, rfl⟩
  | x :: xs, l, _, h, hr => by
    cases hr with
    | cons _ v _ vs hx hs =>
    simp only [toBytes] at h
    cases hb : toByte x with
    | none => rw [hb] at h; cases h
    | some b =>
      rw [hb] at h
      cases hr : toBytes xs with
      | none => rw [hr] at h; cases h
      | some r =>
        rw [hr] at h; cases h
        obtain ⟨n, rfl, hn, rfl⟩ := toByte_some hb
        obtain ⟨e1, e2⟩ := toBytes_some hr hs
        cases hx
        refine ⟨?_, by simp [e2]⟩
        simp only [List.map_cons, e1]
        congr 2
        simp; omega
theorem foldl_push : ∀ (l : List UInt8) (s : List UInt8), (l.map fun b => (b.toNat : Int)).foldl (fun (r : ByteArray) (n : Int) => r.push (UInt8.ofNat n.toNat)) (⟨⟨s⟩⟩ : ByteArray) = ⟨⟨s ++ l⟩⟩
  | [], s => by simp
  | b :: l, s => by
    have := foldl_push l (s ++ [b])
    simp only [List.map_cons, List.foldl_cons]
    have e : (⟨⟨s⟩⟩ : ByteArray).push (UInt8.ofNat (b.toNat : Int).toNat) = ⟨⟨s ++ [b]⟩⟩ := by
      simp [ByteArray.push]
    rw [e, this]; simp

theorem load_at {B o : Nat} {vs : List Value} (h : At w B o vs) (n : Nat) (hn : vs.length = n) : (loadCells ⟨B, o, none⟩ n).run P w = .ok ⟨vs⟩ w := by
  subst hn
  rw [run_loadCells_list w ⟨B, o, none⟩ vs]
  intro j v hv
  have := h j v hv
  unfold Addr.add
  split
  · rename_i h0; subst h0; simpa using this
  · exact this

theorem bytesTo_sound {B o len k : Nat} {cs : List PV} {l : List UInt8} {vs : List Value} (hat : At w B o vs) (hr : Reps c m w cs vs) (h : toBytes cs = some l) (hl : l.length = len) :
    (Conv.bytesToString (.slice (some ⟨B, o, none⟩) len k)).run P w = .ok (.string ⟨⟨l⟩⟩) w := by
  obtain ⟨e1, e2⟩ := toBytes_some h hr
  rw [run_bytesToString w _ len k (l.map fun b => (b.toNat : Int)) (by rw [← e1]; exact load_at hat len (by rw [hr.length]; omega))]
  have := foldl_push l []
  simp only [List.nil_append] at this
  rw [show (ByteArray.empty : ByteArray) = ⟨⟨[]⟩⟩ from rfl, this]

theorem isU8_t {z : Option (List PV)} (h : isU8 z = true) : z = some [.int .u8 0] := by
  unfold isU8 at h
  split at h
  · rfl
  · cases h

theorem Reps.one {x : PV} {vs : List Value} (h : Reps c m w [x] vs) : ∃ v, vs = [v] ∧ Rep c m w x v := by
  cases h with
  | cons _ v _ vs h hs => cases hs; exact ⟨v, rfl, h⟩
theorem at_one {B o : Nat} {v : Value} (h : At w B o [v]) : w.cell? ⟨B, o, none⟩ = some v := by
  have := h 0 v rfl
  simpa using this
/-- a value is a cell's -/
theorem rep_one {x : PV} {v : Value} (h : Rep c m w x v) (hx : cellOk x = true) : v.oneCell' = true := by
  cases h <;> first | rfl | (simp [cellOk] at hx; done) | skip
  rename_i k e h
  rcases c.hρ k e with ⟨b, hb⟩ | hb | ⟨l, n, cp, hb⟩ <;> rw [hb] at h <;> cases h <;> rfl
theorem cells_one {v : Value} (h : v.oneCell' = true) : v.cells = #[v] := by
  cases v <;> simp [Value.oneCell'] at h <;> rfl
theorem rep_cells {x : PV} {v : Value} (h : Rep c m w x v) : Reps c m w x.cells v.cells.toList := by
  cases x with
  | agg cs => cases h with
    | agg _ vs hr => exact hr
  | tup l => cases h with
    | tup _ vs hr => exact .cons _ _ _ _ (.tup _ vs hr) .nil
  | _ => rw [cells_one (rep_one h rfl)]; exact .cons _ _ _ _ h .nil

/-- part of a struct's or an array's cells -/
theorem partN_sound {ea : Bool} {t sz off : Nat} {cs : List PV} {vs : List Value} {p : PV} (hP : PartOk P t sz ea) (hr : Reps c m w cs vs) (h : partN ea cs off sz = some p) :
    ∃ v, (part t ⟨vs⟩ off).run P w = .ok v w ∧ Rep c m w p v := by
  obtain ⟨info, d, h1, h2, h3, h4⟩ := hP
  have U := run_underlying h2 w
  have S := run_sizeOf (P := P) (w := w) h1
  have hc : P.cellsOf t = sz := by simp [Program.cellsOf, h1, h3]
  cases ea with
  | true =>
    simp only [partN, cond_true] at h
    split at h
    · rename_i l hl
      cases h
      obtain ⟨hle, rfl⟩ := cutN_some hl
      refine ⟨.agg ⟨(vs.drop off).take sz⟩, ?_, .agg _ _ ((hr.drop off).take sz)⟩
      unfold part isAgg
      rw [Sem.run_bind, Sem.run_bind, U]
      have : (match d with | .struct _ | .array _ _ => true | _ => false) = true := by cases d <;> simp [aggD] at h4 <;> rfl
      cases d <;> simp [aggD] at h4 <;> simp [S, hc, List.extract_eq_take_drop, List.drop_take]
    · cases h
  | false =>
    simp only [partN, cond_false] at h
    rw [nthN_eq] at h
    obtain ⟨v, hv, hrep⟩ := hr.get h
    refine ⟨v, ?_, hrep⟩
    unfold part isAgg
    rw [Sem.run_bind, Sem.run_bind, U]
    cases d <;> simp [aggD] at h4 <;> simp [hv]

theorem pField_sound {t f : Nat} {k : Option TI} {x p : PV} {a : Value} (hk : ∀ i, k = some i → TyOk P t i) (hx : Rep c m w x a) (h : pField k (some x) f = some p) :
    ∃ v, (Instr.field t a f).run P w = .ok v w ∧ Rep c m w p v := by
  unfold pField at h
  split at h
  · rename_i fs s z
    split at h
    · rename_i fi hfi
      split at h
      · rename_i cs he
        cases he
        cases hx with
        | agg _ vs hr =>
        obtain ⟨d, hd, _, hko⟩ := (hk _ rfl).kd
        obtain ⟨fields, rfl, _, hfs⟩ := hko
        rw [nthN_eq] at hfi
        obtain ⟨g, hg, ho, hp⟩ := hfs f fi hfi
        obtain ⟨v, hv, hrep⟩ := partN_sound hp hr h
        refine ⟨v, ?_, hrep⟩
        unfold Instr.field
        simp [run_underlying hd, hg, asAgg, ho, hv]
      · cases h
    · cases h
  · cases h

theorem pIfc_sound {t : Nat} {k : Option TI} {x p : PV} {a : Value} (hk : ∀ i, k = some i → TyOk P t i) (hx : Rep c m w x a) (h : pIfc k t (some x) = some p) :
    ∃ v, (Instr.makeInterface t a).run P w = .ok v w ∧ Rep c m w p v := by
  unfold pIfc at h
  split at h
  · cases h
  · rename_i i hne
    cases h
    obtain ⟨d, hd, _, hko⟩ := (hk _ rfl).kd
    refine ⟨_, ?_, .ifc t x a hx⟩
    unfold Instr.makeInterface
    have : ∀ ms, d ≠ .interface ms := by
      intro ms he
      subst he
      obtain ⟨kd, sz, z⟩ := i
      cases kd <;> simp [KindOk] at hko <;> first | (exact absurd rfl (hne _ _)) | skip
    cases d <;> first | (exact absurd rfl (this _)) | simp [run_underlying hd]
  · cases h

theorem addr_add (B o n : Nat) : (⟨B, o, none⟩ : Addr).add n = ⟨B, o + n, none⟩ := by
  unfold Addr.add; split <;> simp_all

theorem pExt_sound {i : Nat} {x p : PV} {a : Value} (hx : Rep c m w x a) (h : pExt (some x) i = some p) : ∃ v, (Instr.extract a i).run P w = .ok v w ∧ Rep c m w p v := by
  unfold pExt at h
  split at h
  · rename_i vs he
    cases he
    cases hx with
    | tup _ us hr =>
    rw [nthN_eq] at h
    obtain ⟨v, hv, hrep⟩ := hr.get h
    exact ⟨v, by simp [Instr.extract, hv], hrep⟩
  · cases h

theorem pFA_sound {t f : Nat} {k : Option TI} {x p : PV} {a : Value} (hk : ∀ i, k = some i → TyOk P t i) (hx : Rep c m w x a) (h : pFA k (some x) f = some p) :
    ∃ v, (Instr.fieldAt t a f).run P w = .ok v w ∧ Rep c m w p v := by
  unfold pFA at h
  split at h
  · rename_i fs s z
    split at h
    · rename_i fi hfi
      obtain ⟨hsz, h2⟩ := bif_none h
      clear h
      obtain ⟨d, hd, _, hko⟩ := (hk _ rfl).kd
      obtain ⟨fields, rfl, _, hfs⟩ := hko
      rw [nthN_eq] at hfi
      obtain ⟨g, hg, ho, info, d', hi, hd', hs', _⟩ := hfs f fi hfi
      have S := run_sizeOf (P := P) (w := w) hi
      have hc : P.cellsOf g.type ≠ 0 := by simp only [Program.cellsOf, hi, Option.map_some, Option.getD_some, hs']; exact nbeq hsz
      have key : ∀ q : Addr, a = .pointer (some q) → (Instr.fieldAt t a f).run P w = .ok (.pointer (some (q.add fi.off))) w := by
        rintro q rfl
        unfold Instr.fieldAt
        simp [run_underlying hd, hg, Instr.sureAddr, fieldPlace, S, hc, ho]
      split at h2
      · rename_i b gg o he
        cases he; cases h2
        cases hx with
        | ptr _ _ _ blk q hL hb hgg ha =>
        refine ⟨_, key q rfl, .ptr b gg (o + fi.off) blk _ hL hb hgg fun e => ?_⟩
        rw [ha e, addr_add]
      · rename_i cs he
        cases he
        obtain ⟨hle, h3⟩ := bif_some h2
        cases h3
        cases hx with
        | vptr _ vs B o hfl hS hat hr =>
        exact ⟨_, by rw [key _ rfl, addr_add], .vptr _ (vs.drop fi.off) B (o + fi.off) (flats_drop hfl _) hS (hat.drop _) (hr.drop _)⟩
      · cases h2
    · cases h
  · cases h

theorem pIA_sound {t : Nat} {k : Option TI} {x i p : PV} {a b : Value} (hk : ∀ i, k = some i → TyOk P t i) (hx : Rep c m w x a) (hi : Rep c m w i b) (h : pIA k (some x) (some i) = some p) :
    ∃ v, (Instr.indexAt t a b).run P w = .ok v w ∧ Rep c m w p v := by
  unfold pIA at h
  split at h
  · rename_i kk n he
    cases he
    cases hi
    split at h
    · rename_i e esz eb ez s z
      obtain ⟨hsz, h2⟩ := bif_none h
      clear h
      obtain ⟨d, hd, _, hko⟩ := (hk _ rfl).kd
      obtain ⟨rfl, ⟨info, d', hi, hd', hs', _, _⟩, _⟩ := hko
      have S := run_sizeOf (P := P) (w := w) hi
      have hc : P.cellsOf e = esz := by simp [Program.cellsOf, hi, hs']
      have key : ∀ (q : Addr) (len cap j : Nat), a = .slice (some q) len cap → n = (j : Int) → j < len → (Instr.indexAt t a (.int kk n)).run P w = .ok (.pointer (some (q.add (j * esz)))) w := by
        rintro q len cap j rfl rfl hj
        unfold Instr.indexAt
        have h1 : (0 : Int) ≤ (j : Int) ∧ (j : Int) < (len : Int) := ⟨by omega, by omega⟩
        simp [asIntOf, run_underlying hd, S, hc, hj]
      split at h2
      · rename_i cs len cp he
        cases he
        split at h2
        · rename_i j hj
          obtain ⟨hle, h3⟩ := bif_some h2
          cases h3
          obtain ⟨rfl, hjl⟩ := idx_some hj
          have hle' : (j + 1) * esz ≤ cs.length := Nat.le_of_ble_eq_true hle
          cases hx with
          | vsl0 => exact absurd hle' (by have := Nat.mul_pos (Nat.succ_pos j) (Nat.pos_of_ne_zero (nbeq hsz)); simp only [List.length_nil, Nat.succ_eq_add_one] at this ⊢; omega)
          | vsl _ vs B o _ _ cap hfl hS hat hr hcp hl =>
          exact ⟨_, by rw [key _ _ _ j rfl rfl hjl, addr_add], .vptr _ (vs.drop (j * esz)) B (o + j * esz) (flats_drop hfl _) hS (hat.drop _) (hr.drop _)⟩
        · cases h2
      · rename_i bb g off len sz he
        cases he
        split at h2
        · rename_i j hj
          cases h2
          obtain ⟨rfl, hjl⟩ := idx_some hj
          cases hx with
          | msl _ _ _ _ _ blk q cap hL hb hgg hl hcap ha =>
          refine ⟨_, key q len cap j rfl rfl hjl, .ptr bb g (off + j * esz) blk _ hL hb hgg fun e => ?_⟩
          rw [(ha e).1 (by omega), addr_add]
        · cases h2
      · cases h2
    · rename_i nn esz ea s z
      split at h
      · rename_i bb g off he
        cases he
        split at h
        · rename_i j hj
          cases h
          obtain ⟨rfl, hjl⟩ := idx_some hj
          obtain ⟨d, hd, _, hko⟩ := (hk _ rfl).kd
          obtain ⟨e, rfl, info, d', hi, hd', hs', _⟩ := hko
          have S := run_sizeOf (P := P) (w := w) hi
          have hc : P.cellsOf e = esz := by simp [Program.cellsOf, hi, hs']
          cases hx with
          | ptr _ _ _ blk q hL hb hgg ha =>
          refine ⟨.pointer (some (q.add (j * esz))), ?_, .ptr bb g (off + j * esz) blk _ hL hb hgg fun e => ?_⟩
          · unfold Instr.indexAt
            simp [asIntOf, run_underlying hd, Instr.sureAddr, S, hc, hjl]
          · rw [ha e, addr_add]
        · cases h
      · cases h
    · cases h
  · cases h

theorem pIx_sound {t : Nat} {k : Option TI} {x i p : PV} {a b : Value} (hk : ∀ i, k = some i → TyOk P t i) (hx : Rep c m w x a) (hi : Rep c m w i b) (h : pIx k (some x) (some i) = some p) :
    ∃ v, (Instr.index t a b).run P w = .ok v w ∧ Rep c m w p v := by
  unfold pIx at h
  split at h
  · rename_i kk n he
    cases he
    cases hi
    split at h
    · rename_i l he
      cases he
      cases hx
      split at h
      · obtain ⟨d, hd, _, hko⟩ := (hk _ rfl).kd
        cases hko
        split at h
        · rename_i j
          split at h
          · rename_i u hu
            cases h
            rw [nthN_eq] at hu
            refine ⟨_, ?_, .int _ _⟩
            unfold Instr.index
            have h2 : (⟨⟨l⟩⟩ : ByteArray)[j]? = some u := by
              rw [getElem?_def] at hu ⊢
              split at hu
              · rename_i hlt
                have : j < (⟨⟨l⟩⟩ : ByteArray).size := hlt
                simp only [this, dite_true]
                rw [← hu]; rfl
              · cases hu
            simp [asIntOf, run_underlying hd, h2]
          · cases h
        · cases h
      · cases h
    · rename_i cs he
      cases he
      cases hx with
      | agg _ vs hr =>
      split at h
      · rename_i nn esz ea s z
        split at h
        · rename_i j hj
          obtain ⟨rfl, hjl⟩ := idx_some hj
          obtain ⟨d, hd, _, hko⟩ := (hk _ rfl).kd
          obtain ⟨e, rfl, hp⟩ := hko
          obtain ⟨v, hv, hrep⟩ := partN_sound hp hr h
          obtain ⟨info, d', hi, hd', hs', _⟩ := hp
          have S := run_sizeOf (P := P) (w := w) hi
          have hc : P.cellsOf e = esz := by simp [Program.cellsOf, hi, hs']
          refine ⟨v, ?_, hrep⟩
          unfold Instr.index
          have hv' : (part e ⟨vs⟩ (j * esz)).run P w = .ok v w := hv
          simp [asIntOf, run_underlying hd, hjl, S, hc, hv']
        · cases h
      · cases h
    · cases h
  · cases h

theorem hi_sound {hi : Option PV} {n h : Nat} {hv : Option Value} (hh : ∀ p, hi = some p → ∃ v, hv = some v ∧ Rep c m w p v) (hh0 : hi = none → hv = none) (hb : hiOf hi n n = some h) :
    (hv = none ∧ h = n) ∨ ∃ kk, hv = some (.int kk (h : Int)) ∧ h ≤ n := by
  cases hi with
  | none => cases hb; exact .inl ⟨hh0 rfl, rfl⟩
  | some x =>
    obtain ⟨v, hv', hr⟩ := hh x rfl
    cases x <;> simp only [hiOf] at hb <;> first | (cases hb; done) | skip
    obtain ⟨rfl, hle⟩ := idxLe_some hb
    cases hr
    exact .inr ⟨_, hv', hle⟩
theorem lo_sound {lo : Option PV} {h l : Nat} {lv : Option Value} (hh : ∀ p, lo = some p → ∃ v, lv = some v ∧ Rep c m w p v) (hh0 : lo = none → lv = none) (hb : loOf lo h = some l) :
    (lv = none ∧ l = 0) ∨ ∃ kk, lv = some (.int kk (l : Int)) ∧ l ≤ h := by
  cases lo with
  | none => cases hb; exact .inl ⟨hh0 rfl, rfl⟩
  | some x =>
    obtain ⟨v, hv', hr⟩ := hh x rfl
    cases x <;> simp only [loOf] at hb <;> first | (cases hb; done) | skip
    obtain ⟨rfl, hle⟩ := idxLe_some hb
    cases hr
    exact .inr ⟨_, hv', hle⟩
/-- the bounds of a slice expression without a third one -/
theorem bounds_sound {lo hi : Option PV} {n cap l h : Nat} {isS : Bool} {lv hv : Option Value} (hn : n ≤ cap)
    (hl : ∀ p, lo = some p → ∃ v, lv = some v ∧ Rep c m w p v) (hl0 : lo = none → lv = none)
    (hh : ∀ p, hi = some p → ∃ v, hv = some v ∧ Rep c m w p v) (hh0 : hi = none → hv = none) (hb : bounds lo hi n = some (l, h)) :
    (Instr.sliceBounds isS n cap lv hv none).run P w = .ok (l, h, cap) w ∧ l ≤ h ∧ h ≤ n := by
  unfold bounds at hb
  cases hh' : hiOf hi n n with
  | none => rw [hh'] at hb; cases hb
  | some h' =>
    rw [hh'] at hb
    cases hl' : loOf lo h' with
    | none => simp only [hl'] at hb; cases hb
    | some l' =>
      simp only [hl'] at hb
      cases hb
      have A := hi_sound hh hh0 hh'
      have B := lo_sound hl hl0 hl'
      have hle : h ≤ n := by rcases A with ⟨_, rfl⟩ | ⟨_, _, h⟩ <;> omega
      have lle : l ≤ h := by rcases B with ⟨_, rfl⟩ | ⟨_, _, h⟩ <;> omega
      refine ⟨?_, lle, hle⟩
      have e1 : (h : Int) ≤ (cap : Int) := by omega
      have e2 : (l : Int) ≤ (h : Int) := by omega
      have e3 : h ≤ cap := by omega
      rcases A with ⟨rfl, rfl⟩ | ⟨kk, rfl, _⟩ <;> rcases B with ⟨rfl, rfl⟩ | ⟨kk', rfl, _⟩ <;> simp [Instr.sliceBounds, Instr.sliceBound, asIntOf, *]

theorem extract_mk (l : List UInt8) (a b : Nat) : (⟨⟨l⟩⟩ : ByteArray).extract a b = ⟨⟨(l.take b).drop a⟩⟩ := by
  apply ByteArray.ext
  rw [ByteArray.data_extract]
  simp [List.extract_eq_take_drop, List.drop_take]

theorem pSlice_sound {t : Nat} {k : Option TI} {x p : PV} {a : Value} {lo hi : Option PV} {lv hv : Option Value} (hk : ∀ i, k = some i → TyOk P t i) (hx : Rep c m w x a)
    (hl : ∀ p, lo = some p → ∃ v, lv = some v ∧ Rep c m w p v) (hl0 : lo = none → lv = none)
    (hh : ∀ p, hi = some p → ∃ v, hv = some v ∧ Rep c m w p v) (hh0 : hi = none → hv = none) (h : pSlice k (some x) (some lo) (some hi) (some none) = some p) :
    ∃ v, (Instr.sliceAt t a lv hv none).run P w = .ok v w ∧ Rep c m w p v := by
  simp only [pSlice] at h
  split at h
  · rename_i s he
    cases he
    cases hx
    split at h
    · obtain ⟨d, hd, _, hko⟩ := (hk _ rfl).kd
      cases hko
      split at h
      · rename_i l hh2 hb
        cases h
        obtain ⟨h1, h2, h3⟩ := bounds_sound (P := P) (isS := false) (Nat.le_refl s.length) hl hl0 hh hh0 hb
        refine ⟨_, ?_, .str _⟩
        unfold Instr.sliceAt Instr.slice
        simp [run_underlying hd, h1, extract_mk, size_mk]
      · cases h
    · cases h
  · rename_i he
    cases he
    cases hx
    split at h
    · obtain ⟨d, hd, _, hko⟩ := (hk _ rfl).kd
      obtain ⟨rfl, ⟨info, d', hi', hd', hs', _, _⟩, _⟩ := hko
      split at h
      · rename_i r hb
        obtain ⟨l, h'⟩ := r
        cases h
        obtain ⟨h1, h2, h3⟩ := bounds_sound (P := P) (isS := true) (Nat.le_refl 0) hl hl0 hh hh0 hb
        have e1 : l = 0 := by omega
        have e2 : h' = 0 := by omega
        subst e1; subst e2
        refine ⟨_, ?_, .nils⟩
        unfold Instr.sliceAt Instr.slice
        simp [run_underlying hd, h1, run_sizeOf (P := P) (w := w) hi']
      · cases h
    · cases h
  · rename_i cs n cp he
    cases he
    split at h
    · rename_i e esz eb ez sz z
      obtain ⟨d, hd, _, hko⟩ := (hk _ rfl).kd
      obtain ⟨rfl, ⟨info, d', hi', hd', hs', _, _⟩, _⟩ := hko
      have S := run_sizeOf (P := P) (w := w) hi'
      have hc : P.cellsOf e = esz := by simp [Program.cellsOf, hi', hs']
      split at h
      · rename_i l h' hb
        cases h
        have fin : ∀ (q : Addr) (cap : Nat), n ≤ cap → a = .slice (some q) n cap → l ≤ h' ∧ h' ≤ n ∧ (Instr.sliceAt t a lv hv none).run P w = .ok (.slice (some (if cap = l then q else q.add (l * esz))) (h' - l) (cap - l)) w := by
          rintro q cap hn rfl
          obtain ⟨h1, h2, h3⟩ := bounds_sound (P := P) (isS := true) hn hl hl0 hh hh0 hb
          refine ⟨h2, h3, ?_⟩
          unfold Instr.sliceAt Instr.slice
          simp only [Sem.run_bind, run_underlying hd, Result.andThen_ok, h1, S, hc, Sem.run_pure]
          split <;> simp
        cases hx with
        | vsl0 _ _ q cap hcp hnl =>
          obtain ⟨h2, h3, h4⟩ := fin q cap hnl rfl
          refine ⟨_, h4, ?_⟩
          simp only [List.take_nil, List.drop_nil]
          refine .vsl0 _ _ _ _ ?_ (by show h' - l ≤ cap - l; omega)
          intro y hy
          cases cp with
          | none => cases hy
          | some c0 => cases hy; rw [hcp c0 rfl]; rfl
        | vsl _ vs B o _ _ cap hfl hS hat hr hcp hnl =>
          obtain ⟨h2, h3, h4⟩ := fin _ cap hnl rfl
          have hcp' : ∀ y, (match cp with | some c => some (Nat.sub c l) | none => none) = some y → y = cap - l := by
            intro y hy
            cases cp with
            | none => cases hy
            | some c0 => cases hy; rw [hcp c0 rfl]; rfl
          by_cases hcl : cap = l
          · have e : h' * esz - l * esz = 0 := by have : h' = l := by omega
                                                  subst this; omega
            have enil : (cs.take (Nat.mul h' esz)).drop (Nat.mul l esz) = [] := by
              apply List.drop_eq_nil_of_le
              rw [List.length_take]
              have : h' = l := by omega
              subst this
              exact Nat.min_le_left _ _
            rw [enil]
            exact ⟨_, h4, .vsl0 _ _ _ _ hcp' (by show h' - l ≤ cap - l; omega)⟩
          · rw [if_neg hcl, addr_add] at h4
            exact ⟨_, h4, .vsl _ _ B (o + l * esz) _ _ _ (flats_drop (flats_take hfl _) _) hS ((hat.take (h' * esz)).drop (l * esz)) ((hr.take (h' * esz)).drop (l * esz)) hcp' (by show h' - l ≤ cap - l; omega)⟩
      · cases h
    · cases h
  · rename_i b g off n sz he
    cases he
    split at h
    · rename_i e esz eb ez sz' z
      obtain ⟨d, hd, _, hko⟩ := (hk _ rfl).kd
      obtain ⟨rfl, ⟨info, d', hi', hd', hs', _, _⟩, _⟩ := hko
      have S := run_sizeOf (P := P) (w := w) hi'
      have hc : P.cellsOf e = esz := by simp [Program.cellsOf, hi', hs']
      split at h
      · rename_i l h' hb
        obtain ⟨hz, h2⟩ := bif_some h
        clear h
        cases h2
        have hz' : esz = sz := beq_t hz
        subst hz'
        cases hx with
        | msl _ _ _ _ _ blk q cap hL hbk hgg hnl hcap ha =>
        obtain ⟨h1, h2, h3⟩ := bounds_sound (P := P) (isS := true) hnl hl hl0 hh hh0 hb
        refine ⟨.slice (some (if cap = l then q else q.add (l * esz))) (h' - l) (cap - l), ?_, ?_⟩
        · unfold Instr.sliceAt Instr.slice
          simp only [Sem.run_bind, run_underlying hd, Result.andThen_ok, h1, S, hc, Sem.run_pure]
          split <;> simp
        · refine .msl b g (off + l * esz) (h' - l) esz blk _ (cap - l) hL hbk hgg (by omega) (by omega) fun e => ⟨fun hpos => ?_, ?_⟩
          · rw [if_neg (by omega), (ha e).1 (by omega), addr_add]
          · have h5 := (ha e).2
            have e5 : off + l * esz + (cap - l) * esz = off + cap * esz := by
              rw [Nat.add_assoc, ← Nat.add_mul]; congr 2; omega
            rw [e5]; exact h5
      · cases h
    · cases h
  · cases h
end
end Go.Ab
/- The operations that don't look into memory, part 3: composite values, builtins, conversions. -/
namespace Go.Ab
section
variable {P : Program} {c : Cx} {m : PM} {w : World}

theorem foldl_set (off : Nat) : ∀ (l : List Value) (j : Nat) (arr : Array Value), off + j + l.length ≤ arr.size →
    ((l.zipIdx j).foldl (fun (cs : Array Value) (x : Value × Nat) => cs.setIfInBounds (off + x.2) x.1) arr).toList = arr.toList.take (off + j) ++ (l ++ arr.toList.drop (off + j + l.length))
  | [], j, arr, _ => by simp
  | v :: l, j, arr, h => by
    simp only [List.length_cons] at h
    have ih := foldl_set off l (j + 1) (arr.setIfInBounds (off + j) v) (by simp; omega)
    simp only [List.zipIdx_cons, List.foldl_cons, ih, Array.toList_setIfInBounds, List.length_cons]
    have hlt : off + j < arr.toList.length := by simp; omega
    rw [List.drop_set_of_lt (by omega), List.take_set, show off + (j + 1) = (off + j) + 1 from by omega, List.take_succ_eq_append_getElem hlt]
    rw [List.set_append_right _ _ (by simp; omega)]
    have : off + j - (arr.toList.take (off + j)).length = 0 := by simp; omega
    rw [this]
    simp [show off + j + 1 + l.length = off + j + (l.length + 1) from by omega]

theorem fill_one {place : Nat → Option (Nat × Nat)} {cells : Array Value} {i off sz : Nat} {v : Value} {rest : List (Nat × Value)} (hp : place i = some (off, sz)) (hv : v.cells.size = sz) (hs : off + sz ≤ cells.size) :
    ∃ cells' : Array Value, Instr.fill place cells ((i, v) :: rest) = Instr.fill place cells' rest ∧ cells'.toList = cells.toList.take off ++ (v.cells.toList ++ cells.toList.drop (off + v.cells.toList.length)) := by
  refine ⟨v.cells.zipIdx.foldl (fun cs (c, j) => cs.setIfInBounds (off + j) c) cells, ?_, ?_⟩
  · conv => lhs; unfold Instr.fill
    simp only [hp]
    rw [if_neg (by simp; omega)]
  · have := foldl_set off v.cells.toList 0 cells (by simp; omega)
    simp only [Nat.add_zero] at this
    rw [← Array.foldl_toList, Array.toList_zipIdx]
    exact this

/-- parts, and what they stand for -/
def PR (c : Cx) (m : PM) (w : World) : List (Nat × PV) → List (Nat × Value) → Prop
  | [], [] => True
  | (i, x) :: l, (j, v) :: r => i = j ∧ Rep c m w x v ∧ PR c m w l r
  | _, _ => False

theorem putN_sound {cells new cs' : List PV} {vs us : List Value} {off : Nat} (hr : Reps c m w cells vs) (hn : Reps c m w new us) (h : putN cells off new = some cs') :
    Reps c m w cs' (vs.take off ++ (us ++ vs.drop (off + us.length))) ∧ off + us.length ≤ vs.length ∧ cs'.length = cells.length := by
  obtain ⟨h1, rfl⟩ := putN_some h
  rw [hn.length, hr.length]
  exact ⟨(hr.take off).append (hn.append (hr.drop _)), h1, by simp; omega⟩

theorem fillF_sound {fs : List FI} {place : Nat → Option (Nat × Nat)} (hp : ∀ (i : Nat) (fi : FI), fs[i]? = some fi → place i = some (fi.off, fi.sz)) :
    ∀ (ps : List (Nat × PV)) (vs : List (Nat × Value)) (cells cs' : List PV) (arr : Array Value), PR c m w ps vs → Reps c m w cells arr.toList → fillF fs cells ps = some cs' →
      ∃ arr' : Array Value, Instr.fill place arr vs = some arr' ∧ Reps c m w cs' arr'.toList
  | [], [], cells, cs', arr, _, hr, h => by cases h; exact ⟨arr, rfl, hr⟩
  | (i, x) :: ps, (j, v) :: vs, cells, cs', arr, hpr, hr, h => by
    obtain ⟨rfl, hx, hrest⟩ := hpr
    simp only [fillF] at h
    split at h
    · rename_i fi hfi
      rw [nthN_eq] at hfi
      obtain ⟨h1, h2⟩ := bif_some h
      clear h
      split at h2
      · rename_i cs hcs
        have hxc := rep_cells hx
        obtain ⟨hr', hle, hlen⟩ := putN_sound hr hxc hcs
        have hsz : v.cells.size = fi.sz := by
          have := hxc.length
          have := beq_t h1
          simp at *; omega
        obtain ⟨arr1, e1, e2⟩ := fill_one (rest := vs) (hp i fi hfi) hsz (by have := hr.length; simp at *; omega) (cells := arr)
        obtain ⟨arr', e3, e4⟩ := fillF_sound hp ps vs cs cs' arr1 hrest (by rw [e2]; exact hr') h2
        exact ⟨arr', e1.trans e3, e4⟩
      · cases h2
    · cases h
  | [], _ :: _, _, _, _, h, _, _ => h.elim
  | _ :: _, [], _, _, _, h, _, _ => h.elim

theorem fillA_sound {sz : Nat} :
    ∀ (ps : List (Nat × PV)) (vs : List (Nat × Value)) (cells cs' : List PV) (arr : Array Value), PR c m w ps vs → Reps c m w cells arr.toList → fillA sz cells ps = some cs' →
      ∃ arr' : Array Value, Instr.fill (fun i => some (i * sz, sz)) arr vs = some arr' ∧ Reps c m w cs' arr'.toList
  | [], [], cells, cs', arr, _, hr, h => by cases h; exact ⟨arr, rfl, hr⟩
  | (i, x) :: ps, (j, v) :: vs, cells, cs', arr, hpr, hr, h => by
    obtain ⟨rfl, hx, hrest⟩ := hpr
    simp only [fillA] at h
    obtain ⟨h1, h2⟩ := bif_some h
    clear h
    split at h2
    · rename_i cs hcs
      have hxc := rep_cells hx
      obtain ⟨hr', hle, hlen⟩ := putN_sound hr hxc hcs
      have hsz : v.cells.size = sz := by
        have := hxc.length
        have := beq_t h1
        simp at *; omega
      obtain ⟨arr1, e1, e2⟩ := fill_one (place := fun i => some (i * sz, sz)) (rest := vs) (i := i) rfl hsz (by have := hr.length; have : Nat.mul i sz = i * sz := rfl; simp at *; omega) (cells := arr)
      obtain ⟨arr', e3, e4⟩ := fillA_sound ps vs cs cs' arr1 hrest (by rw [e2]; exact hr') h2
      exact ⟨arr', e1.trans e3, e4⟩
    · cases h2
  | [], _ :: _, _, _, _, h, _, _ => h.elim
  | _ :: _, [], _, _, _, h, _, _ => h.elim

theorem zeroOk_run {t : Nat} {z : Option (List PV)} {l : List PV} (hz : ZeroOk P t z) (h : z = some l) : ∃ v info, P.info? t = some info ∧ (zeroValue t).run P w = .ok v w ∧ Reps c m w l v.cells.toList ∧ (∀ u ∈ v.cells.toList, u.oneCell' = true) ∧ v.cells.size = info.size := by
  obtain ⟨info, v, h1, h2, h3, h4, h5⟩ := hz l h
  refine ⟨v, info, h1, ?_, h3 c m w, h4, h5⟩
  unfold zeroValue
  rw [Sem.run_bind, run_typeInfo (P := P) (w := w) h1, Result.andThen_ok, h2]
  rfl

theorem mapM_places (fields : Array Field) (hf : ∀ f ∈ fields, ∃ info, P.info? f.type = some info) :
    (fields.mapM fun f => (do pure (f.offset, ← sizeOf f.type) : Sem (Nat × Nat))).run P w = .ok (fields.map fun f => (f.offset, P.cellsOf f.type)) w := by
  rw [Array.mapM_eq_mapM_toList]
  have key : ∀ l : List Field, (∀ f ∈ l, ∃ info, P.info? f.type = some info) → (l.mapM fun f => (do pure (f.offset, ← sizeOf f.type) : Sem (Nat × Nat))).run P w = .ok (l.map fun f => (f.offset, P.cellsOf f.type)) w := by
    intro l
    induction l with
    | nil => intro _; rfl
    | cons f l ih =>
      intro h
      obtain ⟨info, hi⟩ := h f (by simp)
      have ih' := ih (fun g hg => h g (by simp [hg]))
      simp only [List.mapM_cons, Sem.run_bind, run_sizeOf (P := P) (w := w) hi, Result.andThen_ok, Sem.run_pure, ih', List.map_cons]
  have := key fields.toList (fun f hf' => hf f (by simpa using hf'))
  rw [Sem.run_map, this]
  simp only [Result.andThen_ok]
  congr 1
  apply Array.ext'
  simp

theorem pBuild_sound {t : Nat} {k : Option TI} {ps : List (Nat × PV)} {vs : Array (Nat × Value)} {p : PV} (hk : ∀ i, k = some i → TyOk P t i) (hp : PR c m w ps vs.toList) (h : pBuild k (some ps) = some p) :
    ∃ v, (Instr.build t vs).run P w = .ok v w ∧ Rep c m w p v := by
  unfold pBuild at h
  split at h
  · rename_i kd sz z
    obtain ⟨d, hd, hagg, hko⟩ := (hk _ rfl).kd
    obtain ⟨zv, info, hinf, hz, hzr, hz1, hz2⟩ := zeroOk_run (c := c) (m := m) (w := w) (hk _ rfl).zero rfl
    simp only [] at h
    split at h
    · rename_i fs
      obtain ⟨fields, rfl, hlen, hfs⟩ := hko
      split at h
      · rename_i cs hcs
        cases h
        have hmem : ∀ f ∈ fields, ∃ info, P.info? f.type = some info := by
          intro f hf
          obtain ⟨i, hi, hif⟩ := Array.mem_iff_getElem.1 hf
          have hi' : i < fs.length := by omega
          obtain ⟨g, hg, _, info, _, h1, _⟩ := hfs i fs[i] (by simp [hi'])
          rw [Array.getElem?_eq_getElem hi, hif] at hg
          cases hg
          exact ⟨info, h1⟩
        have hplace : ∀ (i : Nat) (fi : FI), fs[i]? = some fi → ((fields.map fun f => (f.offset, P.cellsOf f.type))[·]?) i = some (fi.off, fi.sz) := by
          intro i fi hfi
          obtain ⟨g, hg, ho, info, _, h1, _, h3, _⟩ := hfs i fi hfi
          simp [hg, ho, Program.cellsOf, h1, h3]
        obtain ⟨arr', e1, e2⟩ := fillF_sound hplace ps vs.toList z cs zv.cells hp hzr hcs
        refine ⟨.agg arr', ?_, ?_⟩
        · unfold Instr.build
          simp only [Sem.run_bind, hz, Result.andThen_ok, run_underlying hd, mapM_places fields hmem, e1, Sem.run_pure]
        · obtain ⟨l⟩ := arr'; exact .agg _ _ e2
      · cases h
    · rename_i n esz ea
      obtain ⟨e, rfl, info', d', hi', hd', hs', _⟩ := hko
      have S := run_sizeOf (P := P) (w := w) hi'
      have hc : P.cellsOf e = esz := by simp [Program.cellsOf, hi', hs']
      split at h
      · rename_i cs hcs
        cases h
        obtain ⟨arr', e1, e2⟩ := fillA_sound ps vs.toList z cs zv.cells hp hzr hcs
        refine ⟨.agg arr', ?_, ?_⟩
        · unfold Instr.build
          simp only [Sem.run_bind, hz, Result.andThen_ok, run_underlying hd, S, hc, e1, Sem.run_pure]
        · obtain ⟨l⟩ := arr'; exact .agg _ _ e2
      · cases h
    · cases h
  · cases h

/-- a new block that nobody will write -/
def Cx.addS (c : Cx) (B : Nat) : Cx := { c with S := fun b => c.S b ∨ b = B }
theorem alloc_heap_old {o : Obj} {B : Nat} (h : B < w.heap.size) : (w.alloc o).heap[B]? = w.heap[B]? := by
  show (w.heap.push o)[B]? = _
  rw [Array.getElem?_push, if_neg (by omega)]
theorem alloc_heap_new {o : Obj} : (w.alloc o).heap[w.heap.size]? = some o := by
  show (w.heap.push o)[w.heap.size]? = _
  rw [Array.getElem?_push, if_pos rfl]

/-- the world has grown by one block, which nobody writes -/
theorem ext_addS {o : Obj} {w' : World} (hM : MemRel c m w) (hh : w'.heap = w.heap.push o) (hos : w'.os = w.os ∧ w'.output = w.output ∧ w'.tape = w.tape) :
    Ext c m w (c.addS w.heap.size) m w' ∧ MemRel (c.addS w.heap.size) m w' := by
  have hold : ∀ B, B < w.heap.size → w'.heap[B]? = w.heap[B]? := fun B hB => by rw [hh, Array.getElem?_push]; simp; omega
  have hE : Ext c m w (c.addS w.heap.size) m w' := {
    size := by rw [hh]; simp
    old := fun B hB _ => hold B hB
    rho := rfl
    S1 := fun _ h => .inl h
    S2 := fun B h => by rcases h with h | h
                        · exact .inl h
                        · exact .inr (.inl (by omega))
    L1 := fun _ h => h
    L2 := fun _ h => .inl h
    blk := fun _ x _ h => ⟨x, h, Blk.le_refl x, fun _ => rfl⟩
    unl := fun _ _ _ => rfl
    next := Nat.le_refl _
    mut' := fun b h hm => .inr ⟨b, h, hm, rfl⟩
    room := fun B arr et fz h => ⟨arr, fz, by rw [hold B (Array.getElem?_eq_some_iff.1 h).1]; exact h, rfl⟩
    os := hos }
  have hC := hE.carry hM
  refine ⟨hE, ⟨hM.fresh, hM.dom, ?_, hM.inj, ?_, ?_⟩⟩
  · intro b blk hL hb
    have hlt := Mut.lt hM hL
    have h1 := hM.blk b blk hL hb
    cases blk with
    | cells cs g frz et =>
      obtain ⟨arr, fz, vs, h2, h3, h4, h5, h6⟩ := h1
      exact ⟨arr, fz, vs, by rw [show (c.addS w.heap.size).β b = c.β b from rfl, hold _ hlt]; exact h2, h3.carry hC, h4, h5, fun e => .inl (h6 e)⟩
    | map es =>
      obtain ⟨en, h2, h3⟩ := h1
      exact ⟨en, by rw [show (c.addS w.heap.size).β b = c.β b from rfl, hold _ hlt]; exact h2, h3.carry hC⟩
    | iter s p => show w'.heap[c.β b]? = _; rw [hold _ hlt]; exact h1
  · intro B hB
    rw [hh]; simp
    rcases hB with hB | hB
    · have := hM.Slt B hB; omega
    · omega
  · intro b hL hmu hS
    rcases hS with hS | hS
    · exact hM.Smut b hL hmu hS
    · have hS' : c.β b = w.heap.size := hS
      have := Mut.lt hM hL; omega

theorem at_new {arr : Array Value} {et : TypeId} {fz : Nat × Nat} {w' : World} {vs : List Value} (hh : w'.heap = w.heap.push (.cells arr et fz)) (hv : ∀ (i : Nat) (v : Value), vs[i]? = some v → arr[i]? = some v) :
    At w' w.heap.size 0 vs := fun i v h => by
  have := hv i v h
  simp [World.cell?, hh, this]

theorem repN_get {l : List Value} {zero : Array Value} (hz : zero.toList = l) : ∀ (n : Nat), ((Array.range (n * zero.size)).map (fun i => zero[i % zero.size]!)).toList = (List.replicate n l).flatten := by
  intro n
  subst hz
  induction n with
  | zero => simp
  | succ n ih =>
    rw [List.replicate_succ', List.flatten_append, ← ih]
    simp only [Array.toList_map, Array.toList_range, Nat.succ_mul, List.flatten_cons, List.flatten_nil, List.append_nil]
    rw [List.range_add, List.map_append, List.map_map]
    congr 1
    apply List.ext_getElem
    · simp
    · intro i h1 h2
      simp at h1
      simp [Nat.mod_eq_of_lt h1, h1]
theorem repN_sound {z : List PV} {vs : List Value} (h : Reps c m w z vs) : ∀ (n : Nat), Reps c m w (repN z n) (List.replicate n vs).flatten
  | 0 => .nil
  | n + 1 => by rw [List.replicate_succ, List.flatten_cons]; exact h.append (repN_sound h n)

theorem pBuildSlice_sound {t n : Nat} {k : Option TI} {ps : List (Nat × PV)} {vs : Array (Nat × Value)} {p : PV} (hM : MemRel c m w) (hk : ∀ i, k = some i → TyOk P t i) (hp : PR c m w ps vs.toList) (h : pBuildSlice k n (some ps) = some p) :
    ∃ v w' c', (Instr.buildSlice t n vs).run P w = .ok v w' ∧ Ext c m w c' m w' ∧ MemRel c' m w' ∧ Rep c' m w' p v := by
  unfold pBuildSlice at h
  split at h
  · rename_i e esz eb z sz zz
    obtain ⟨d, hd, hagg, hko⟩ := (hk _ rfl).kd
    obtain ⟨rfl, ⟨info, d', hi', hd', hs', _, _⟩, hzo⟩ := hko
    have S := run_sizeOf (P := P) (w := w) hi'
    have hc : P.cellsOf e = esz := by simp [Program.cellsOf, hi', hs']
    obtain ⟨zv, info2, hinf, hz, hzr, hz1, hz2⟩ := zeroOk_run (c := c) (m := m) (w := w) hzo rfl
    rw [hi'] at hinf; cases hinf
    simp only [] at h
    obtain ⟨h1, h2⟩ := bif_some h
    clear h
    have hle : n * esz ≤ 16777216 := Nat.le_of_ble_eq_true h1
    split at h2
    · rename_i cs hcs
      obtain ⟨h3, h4⟩ := bif_some h2
      cases h4
      have hzs : zv.cells.size = esz := by rw [hz2, hs']
      have harr : Reps c m w (repN z n) ((Array.range (n * esz)).map (fun i => (if n * esz = 0 then #[] else zv.cells)[i % (if n * esz = 0 then (#[] : Array Value) else zv.cells).size]!)).toList := by
        by_cases h0 : n * esz = 0
        · have : repN z n = [] := by
            have hl := (repN_sound hzr n).length
            have hl2 : ((List.replicate n zv.cells.toList).flatten).length = 0 := by simp [List.length_flatten, hzs, h0]
            have : (repN z n).length = 0 := by omega
            exact List.eq_nil_of_length_eq_zero this
          rw [this, h0]
          simpa using Reps.nil
        · simp only [h0, if_false]
          have := repN_get (l := zv.cells.toList) rfl n
          rw [hzs] at this ⊢
          rw [this]
          exact repN_sound hzr n
      obtain ⟨arr', e1, e2⟩ := fillA_sound ps vs.toList _ cs _ hp harr hcs
      obtain ⟨hE, hM'⟩ := ext_addS (w' := w.alloc (.cells arr' e)) hM rfl ⟨rfl, rfl, rfl⟩
      refine ⟨.slice (some ⟨w.heap.size, 0, none⟩) n n, w.alloc (.cells arr' e), c.addS w.heap.size, ?_, hE, hM', ?_⟩
      · unfold Instr.buildSlice
        have hn : ¬ (n * esz > 2 ^ 24) := by omega
        simp only [Sem.run_bind, run_underlying hd, Result.andThen_ok, S, hc, if_neg hn, Sem.run_pure]
        by_cases h0 : n * esz = 0
        · simp only [if_pos h0] at e1 ⊢
          simp only [Sem.run_bind, Sem.run_pure, Result.andThen_ok, e1]
          simp [newRow]
        · simp only [if_neg h0] at e1 ⊢
          simp only [Sem.run_bind, Sem.run_pure, Result.andThen_ok, hz, e1]
          simp [newRow]
      · exact .vsl cs arr'.toList w.heap.size 0 n (some n) n h3 (.inr rfl) (at_new (w := w) rfl (by intro i v; simp)) (e2.carry (hE.carry hM)) (fun x hx => by cases hx; rfl) (Nat.le_refl _)
    · cases h2
  · cases h
end
end Go.Ab
/- The operations that don't look into memory, part 4: builtins, conversions; all of them at once. -/
namespace Go.Ab
section
variable {P : Program} {c : Cx} {m : PM} {w : World}

theorem evs_sound {ρ : Operand → Option PV} {r : Operand → Value} : ∀ {os : List Operand} {l : List PV}, (∀ x ∈ os, ∀ p, ρ x = some p → Rep c m w p (r x)) → evs ρ os = some l → Reps c m w l (os.map r)
  | [], l, _, h => by cases h; exact .nil
  | o :: os, l, hr, h => by
    simp only [evs] at h
    split at h
    · rename_i a ha
      split at h
      · rename_i b hb
        cases h
        exact .cons _ _ _ _ (hr o (by simp) a ha) (evs_sound (fun x hx => hr x (by simp [hx])) hb)
      · cases h
    · cases h
theorem evps_sound {ρ : Operand → Option PV} {r : Operand → Value} : ∀ {os : List (Nat × Operand)} {l : List (Nat × PV)}, (∀ x ∈ os, ∀ p, ρ x.2 = some p → Rep c m w p (r x.2)) → evps ρ os = some l → PR c m w l (os.map fun (i, x) => (i, r x))
  | [], l, _, h => by cases h; exact trivial
  | (i, o) :: os, l, hr, h => by
    simp only [evps] at h
    split at h
    · rename_i a ha
      split at h
      · rename_i b hb
        cases h
        exact ⟨rfl, hr (i, o) (by simp) a ha, evps_sound (fun x hx => hr x (by simp [hx])) hb⟩
      · cases h
    · cases h

theorem Reps.two {x y : PV} {vs : List Value} (h : Reps c m w [x, y] vs) : ∃ u v, vs = [u, v] ∧ Rep c m w x u ∧ Rep c m w y v := by
  cases h with
  | cons _ u _ vs h hs =>
    obtain ⟨v, rfl, hv⟩ := hs.one
    exact ⟨u, v, rfl, h, hv⟩

theorem bif_dec {α : Type} (p : Prop) [Decidable p] (a b : α) : (bif decide p then a else b) = if p then a else b := by
  by_cases h : p <;> simp [h]
theorem foldI_sound : ∀ {l : List PV} {vs : List Value} {b : Bool} {x p : PV} {a : Value}, Rep c m w x a → Reps c m w l vs → foldI b x l = some p →
    ∃ v, (vs.foldlM (if b then Builtin.min2 else Builtin.max2) a).run P w = .ok v w ∧ Rep c m w p v
  | [], _, b, x, p, a, hx, .nil, h => by
    have : p = x := by unfold foldI at h; cases h; rfl
    subst this
    exact ⟨a, rfl, hx⟩
  | y :: l, _, b, x, p, a, hx, .cons _ v _ vs hy hs, h => by
    unfold foldI at h
    split at h
    · rename_i e; cases e
    · rename_i k n k' n' r e1 e2
      cases e2
      cases hx; cases hy
      obtain ⟨v', h1, h2⟩ := foldI_sound (.int _ _) hs h
      refine ⟨v', ?_, h2⟩
      cases b
      · simp only [List.foldlM_cons, Bool.false_eq_true, if_false, cond_false, intLt_eq, bif_dec] at h1 ⊢
        simp only [Builtin.max2, Sem.run_bind, Sem.run_pure, Result.andThen_ok, gt_iff_lt]
        exact h1
      · simp only [List.foldlM_cons, if_true, cond_true, intLt_eq, bif_dec] at h1 ⊢
        simp only [Builtin.min2, Sem.run_bind, Sem.run_pure, Result.andThen_ok]
        exact h1
    · cases h

theorem pLen_sound {x p : PV} {v : Value} (hx : Rep c m w x v) (h : pLen x = some p) : (∃ s : ByteArray, v = .string s ∧ x = .str s.data.toList ∧ p = .int .i64 s.size) ∨ (∃ a n k, v = .slice a n k ∧ p = .int .i64 n) := by
  cases x <;> simp only [pLen] at h <;> first | (cases h; done) | skip
  case str => cases hx; cases h; exact .inl ⟨_, rfl, rfl, rfl⟩
  case nils => cases hx; cases h; exact .inr ⟨_, _, _, rfl, rfl⟩
  case vsl => cases h; cases hx <;> exact .inr ⟨_, _, _, rfl, rfl⟩
  case msl => cases h; cases hx; exact .inr ⟨_, _, _, rfl, rfl⟩

theorem pBuiltin_sound {E : Env} (hE : ∀ t i, E.ty t = some i → TyOk P t i) {b : Builtin} {ts : Array TypeId} {ty : TypeId} {l : List PV} {args : Array Value} {p : PV}
    (hr : Reps c m w l args.toList) (h : pBuiltin E b ts.toList (some l) = some p) :
    ∃ v, (∀ cs : Array Bool, (builtin b ts ty cs args).run P w = .ok (.value v) w) ∧ Rep c m w p v := by
  obtain ⟨args⟩ := args
  obtain ⟨ts⟩ := ts
  simp only at hr h
  cases b <;> simp only [pBuiltin] at h <;> first | (cases h; done) | skip
  case len =>
    split at h
    · rename_i x e
      cases e
      obtain ⟨v, rfl, hx⟩ := hr.one
      split at h
      · rename_i s z hty
        split at h
        · cases hx; cases h
          cases ts with
          | nil => cases hty
          | cons t ts =>
          obtain ⟨d, hd, _, hko⟩ := (hE t _ hty).kd
          cases hko
          exact ⟨_, fun cs => by simp [builtin, Builtin.len_, run_underlying hd]; rfl, .int _ _⟩
        · cases h
      · rename_i e esz eb ez s z hty
        cases ts with
        | nil => cases hty
        | cons t ts =>
        obtain ⟨d, hd, _, hko⟩ := (hE t _ hty).kd
        obtain ⟨rfl, _, _⟩ := hko
        split at h
        · cases h
        · rename_i hns
          rcases pLen_sound hx h with ⟨s, rfl, rfl, rfl⟩ | ⟨a, n, k, rfl, rfl⟩
          · exact absurd rfl (hns _)
          · exact ⟨_, fun cs => by simp [builtin, Builtin.len_, run_underlying hd]; rfl, .int _ _⟩
      · cases h
    · cases h
  case cap =>
    split at h
    · rename_i x e
      cases e
      obtain ⟨v, rfl, hx⟩ := hr.one
      split at h
      · rename_i e esz eb ez s z hty
        cases ts with
        | nil => cases hty
        | cons t ts =>
        obtain ⟨d, hd, _, hko⟩ := (hE t _ hty).kd
        obtain ⟨rfl, _, _⟩ := hko
        split at h
        · cases hx; cases h
          exact ⟨_, fun cs => by simp [builtin, Builtin.cap_, run_underlying hd]; rfl, .int _ _⟩
        · cases h
          cases hx with
          | vsl0 _ _ a k hc hl => cases hc _ rfl; exact ⟨_, fun cs => by simp [builtin, Builtin.cap_, run_underlying hd]; rfl, .int _ _⟩
          | vsl _ vs B o _ _ k _ hS hat hr' hc hl => cases hc _ rfl; exact ⟨_, fun cs => by simp [builtin, Builtin.cap_, run_underlying hd]; rfl, .int _ _⟩
        · cases h
      · cases h
    · cases h
  case min =>
    split at h
    · rename_i x r e
      cases e
      cases hr with
      | cons _ v _ vs hx hs =>
      obtain ⟨u, h1, h2⟩ := foldI_sound (P := P) (b := true) hx hs h
      exact ⟨u, fun cs => by simp only [if_true] at h1; simp [builtin, Builtin.min_, h1], h2⟩
    · cases h
  case max =>
    split at h
    · rename_i x r e
      cases e
      cases hr with
      | cons _ v _ vs hx hs =>
      obtain ⟨u, h1, h2⟩ := foldI_sound (P := P) (b := false) hx hs h
      exact ⟨u, fun cs => by simp only [Bool.false_eq_true, if_false] at h1; simp [builtin, Builtin.max_, h1], h2⟩
    · cases h
  case unsafeSliceData =>
    split at h
    · rename_i bb g off n sz e
      cases e
      obtain ⟨v, rfl, hx⟩ := hr.one
      split at h
      · cases h
      · rename_i n
        cases h
        cases hx with
        | msl _ _ _ _ _ blk a k hL hb hg hl hk ha =>
        refine ⟨.pointer (some a), fun cs => ?_, .ptr _ _ _ blk a hL hb hg fun e => (ha e).1 (by omega)⟩
        have hk0 : k ≠ 0 := by omega
        have e : Builtin.unsafeSliceData_ ⟨ts⟩ ty #[.slice (some a) (n + 1) k] = (if k ≠ 0 then pure (.pointer (some a)) else (do if (← viewAt a.block).isSome then pure (.pointer (some a)) else pure (.pointer (some ⟨← newObj (.view a (← elemOf ty)), 0, none⟩)))) := rfl
        rw [if_pos hk0] at e
        show (do pure (.value (← Builtin.unsafeSliceData_ ⟨ts⟩ ty #[.slice (some a) (n + 1) k])) : Sem Next).run P w = _
        rw [e]; rfl
    · rename_i e
      cases e
      cases h
      obtain ⟨v, rfl, hx⟩ := hr.one
      cases hx
      exact ⟨.pointer none, fun _ => rfl, .nilp⟩
    · cases h

theorem pConv_sound {S D : Nat} {ks kd : TI} {x p : PV} {a : Value} (hM : MemRel c m w) (hs : TyOk P S ks) (hd : TyOk P D kd) (hx : Rep c m w x a) (h : pConv ks.kind kd.kind (some x) = some p) :
    ∃ v w' c', (convert S D a).run P w = .ok v w' ∧ Ext c m w c' m w' ∧ MemRel c' m w' ∧ Rep c' m w' p v := by
  have same : ∀ v, (convert S D a).run P w = .ok v w → Rep c m w p v → ∃ v w' c', (convert S D a).run P w = .ok v w' ∧ Ext c m w c' m w' ∧ MemRel c' m w' ∧ Rep c' m w' p v := fun v h1 h2 => ⟨v, w, c, h1, .refl, hM, h2⟩
  obtain ⟨d, hd', _, hko⟩ := hd.kd
  obtain ⟨ds, hs', _, hkos⟩ := hs.kd
  unfold pConv at h
  split at h
  · rename_i k hk
    rw [hk] at hko; cases hko
    split at h
    · rename_i kk n e
      cases e; cases hx; cases h
      exact same _ (by simp [convert, run_underlying hd', run_underlying hs', Conv.intToInt]) (.int _ _)
    · cases h
  · rename_i hk
    rw [hk] at hko; cases hko
    split at h
    · rename_i hk2
      rw [hk2] at hkos; cases hkos
      split at h
      · rename_i l e
        cases e; cases hx; cases h
        exact same _ (by simp [convert, run_underlying hd', run_underlying hs']) (.str _)
      · rename_i l e
        cases e; cases h
        cases hx with
        | anyS n s hn => exact same _ (by simp [convert, run_underlying hd', run_underlying hs']) (.anyS _ _ hn)
      · cases h
    · rename_i e esz eb ez hk2
      rw [hk2] at hkos
      obtain ⟨rfl, ⟨info, d', hi', hde, _, _, hu8⟩, _⟩ := hkos
      obtain ⟨h1, h2⟩ := bif_some h
      clear h
      cases hu8 (and_t h1).1
      split at h2
      · rename_i e'
        cases e'; cases hx; cases h2
        exact same _ (by simp [convert, run_underlying hd', run_underlying hs', run_underlying hde, Conv.bytesToString]; rfl) (.str [])
      · rename_i cs n cp e'
        cases e'
        split at h2
        · rename_i l hl
          obtain ⟨h3, h4⟩ := bif_some h2
          cases h4
          have hn := beq_t h3
          cases hx with
          | vsl0 _ _ q k hc hle =>
            cases hl
            simp at hn; subst hn
            refine same (.string ⟨⟨[]⟩⟩) ?_ (.str _)
            simp [convert, run_underlying hd', run_underlying hs', run_underlying hde, Conv.bytesToString, loadCells, loadCellsFrom]
            rfl
          | vsl _ vs B o _ _ k _ hS hat hr hc hle =>
            refine same _ ?_ (.str _)
            have := bytesTo_sound (P := P) (k := k) hat hr hl hn
            simp [convert, run_underlying hd', run_underlying hs', run_underlying hde, this]
        · cases h2
      · cases h2
    · cases h
  · cases h


theorem evopt_sound {ρ : Operand → Option PV} {r : Operand → Value} {o : Option Operand} {l : Option PV} (hr : ∀ x ∈ o.toArray, ∀ p, ρ x = some p → Rep c m w p (r x)) (h : evopt ρ o = some l) :
    (∀ p, l = some p → ∃ v, o.map r = some v ∧ Rep c m w p v) ∧ (l = none → o.map r = none) := by
  cases o with
  | none => cases h; exact ⟨fun _ h => (by cases h), fun _ => rfl⟩
  | some x =>
    simp only [evopt] at h
    split at h
    · rename_i a ha
      cases h
      exact ⟨fun p hp => (by cases hp; exact ⟨_, rfl, hr x (by simp) a ha⟩), fun h => (by cases h)⟩
    · cases h

theorem evP_sound {E : Env} (hE : ∀ t i, E.ty t = some i → TyOk P t i) (hM : MemRel c m w) {ρ : Operand → Option PV} {r : Operand → Value} {o : Oper}
    (hr : ∀ x ∈ o.op.operands, ∀ p, ρ x = some p → Rep c m w p (r x)) {p : PV} (h : evP E ρ o.op = some p) :
    ∃ v w' c', (execOp r o).run P w = .ok (.value v) w' ∧ Ext c m w c' m w' ∧ MemRel c' m w' ∧ Rep c' m w' p v := by
  have same : ∀ v, (execOp r o).run P w = .ok (.value v) w → Rep c m w p v → ∃ v w' c', (execOp r o).run P w = .ok (.value v) w' ∧ Ext c m w c' m w' ∧ MemRel c' m w' ∧ Rep c' m w' p v := fun v h1 h2 => ⟨v, w, c, h1, .refl, hM, h2⟩
  obtain ⟨dst, op, type, pos, after, guard⟩ := o
  simp only at h hr
  cases op <;> simp only [evP] at h <;> first | (cases h; done) | skip
  case move x => exact same _ rfl (hr x (by simp [Op.operands]) _ h)
  case assign x => exact same _ rfl (hr x (by simp [Op.operands]) _ h)
  case pick x a b =>
    unfold pPick at h
    split at h
    · rename_i hx
      have hc := hr x (by simp [Op.operands]) _ hx
      have ha := hr a (by simp [Op.operands]) _ h
      generalize hrx : r x = vx at hc
      cases hc
      exact same (r a) (by simp [execOp, hrx, asBool]) ha
    · rename_i hx
      have hc := hr x (by simp [Op.operands]) _ hx
      have hb := hr b (by simp [Op.operands]) _ h
      generalize hrx : r x = vx at hc
      cases hc
      exact same (r b) (by simp [execOp, hrx, asBool]) hb
    · cases h
  case build t ps =>
    cases hps : evps ρ ps.toList with
    | none => rw [hps] at h; unfold pBuild at h; split at h <;> cases h
    | some l =>
      rw [hps] at h
      have hp := evps_sound (r := r) (fun x hx p hp => hr x.2 (by simp only [Op.operands]; simp; exact ⟨x.1, by simpa using hx⟩) p hp) hps
      obtain ⟨v, h1, h2⟩ := pBuild_sound (vs := ps.map fun (i, x) => (i, r x)) (fun i hi => hE t i hi) (by simpa using hp) h
      exact same v (by simp only [execOp, Sem.run_bind, h1, Result.andThen_ok]; rfl) h2
  case buildSlice t n ps =>
    cases hps : evps ρ ps.toList with
    | none => rw [hps] at h; unfold pBuildSlice at h; split at h <;> cases h
    | some l =>
      rw [hps] at h
      have hp := evps_sound (r := r) (fun x hx p hp => hr x.2 (by simp only [Op.operands]; simp; exact ⟨x.1, by simpa using hx⟩) p hp) hps
      obtain ⟨v, w', c', h1, h2, h3, h4⟩ := pBuildSlice_sound (vs := ps.map fun (i, x) => (i, r x)) hM (fun i hi => hE t i hi) (by simpa using hp) h
      exact ⟨v, w', c', by simp only [execOp, Sem.run_bind, h1, Result.andThen_ok]; rfl, h2, h3, h4⟩
  case nilCheck x =>
    cases hx : ρ x with
    | none => rw [hx] at h; cases h
    | some q =>
      rw [hx] at h
      have hq := hr x (by simp [Op.operands]) _ hx
      obtain ⟨rfl, ⟨a, ha⟩ | ⟨f, u, v, hf⟩⟩ := pNil_sound hq h
      · exact same (r x) (by simp [execOp, ha]) hq
      · exact same (r x) (by simp [execOp, hf]) hq
  case binOp op t x y ty =>
    cases hx : ρ x with
    | none => rw [hx] at h; cases h
    | some a => cases hy : ρ y with
      | none => rw [hx, hy] at h; cases h
      | some b =>
        rw [hx, hy] at h
        obtain ⟨v, h1, h2⟩ := bin2_sound (P := P) (fun i hi => hE t i hi) (hr x (by simp [Op.operands]) _ hx) (hr y (by simp [Op.operands]) _ hy) h
        exact same v (by show ((do eqGuard op t x y (r x) (r y); binOp op t (r x) (r y) : Sem Value) >>= fun a => pure (Next.value a)).run P w = _; rw [Sem.run_bind, h1]; rfl) h2
  case unOp op t x =>
    cases hx : ρ x with
    | none => rw [hx] at h; cases op <;> cases h
    | some a =>
      rw [hx] at h
      obtain ⟨v, h1, h2⟩ := pUn_sound (P := P) (hr x (by simp [Op.operands]) _ hx) h
      exact same v (by simp only [execOp, Sem.run_bind, h1, Result.andThen_ok]; rfl) h2
  case convert s d x =>
    split at h
    · rename_i ks hs
      split at h
      · rename_i kd hd
        cases hx : ρ x with
        | none => rw [hx] at h; unfold pConv at h; split at h <;> first | (cases h; done) | (split at h <;> first | (cases h; done) | (obtain ⟨_, h⟩ := bif_some h; cases h))
        | some a =>
          rw [hx] at h
          obtain ⟨v, w', c', h1, h2, h3, h4⟩ := pConv_sound hM (hE s _ hs) (hE d _ hd) (hr x (by simp [Op.operands]) _ hx) h
          exact ⟨v, w', c', by simp only [execOp, Sem.run_bind, h1, Result.andThen_ok]; rfl, h2, h3, h4⟩
      · cases h
    · cases h
  case makeInterface t x =>
    cases hx : ρ x with
    | none => rw [hx] at h; unfold pIfc at h; split at h <;> cases h
    | some a =>
      rw [hx] at h
      obtain ⟨v, h1, h2⟩ := pIfc_sound (fun i hi => hE t i hi) (hr x (by simp [Op.operands]) _ hx) h
      exact same v (by simp only [execOp, Sem.run_bind, h1, Result.andThen_ok]; rfl) h2
  case makeFunc f a b =>
    unfold pClo at h
    split at h
    · split at h
      · rename_i l hl
        split at h
        · rename_i l' hl'
          cases h
          have h1 := evs_sound (r := r) (fun x hx => hr x (by simp [Op.operands]; exact .inl (by simpa using hx))) hl
          have h2 := evs_sound (r := r) (fun x hx => hr x (by simp [Op.operands]; exact .inr (by simpa using hx))) hl'
          refine same _ ?_ (.clo _ _ _ _ _ h1 h2)
          simp only [execOp, Instr.makeFunc, Sem.run_bind, Sem.run_pure, Result.andThen_ok]
          congr 3 <;> (apply Array.ext'; simp)
        · cases h
      · cases h
    · cases h
  case slice t x lo hi mx =>
    cases hlo : evopt ρ lo with
    | none => rw [hlo] at h; cases h
    | some lo' => cases hhi : evopt ρ hi with
      | none => rw [hlo, hhi] at h; cases h
      | some hi' => cases hmx : evopt ρ mx with
        | none => rw [hlo, hhi, hmx] at h; cases h
        | some mx' => cases mx' with
          | some q => rw [hlo, hhi, hmx] at h; cases h
          | none => cases hx : ρ x with
            | none => rw [hlo, hhi, hmx, hx] at h; cases h
            | some a =>
              rw [hlo, hhi, hmx, hx] at h
              obtain ⟨l1, l2⟩ := evopt_sound (r := r) (fun x hx => hr x (by simp only [Op.operands]; simp at hx ⊢; simp [hx])) hlo
              obtain ⟨u1, u2⟩ := evopt_sound (r := r) (fun x hx => hr x (by simp only [Op.operands]; simp at hx ⊢; simp [hx])) hhi
              have hm0 : mx.map r = none := (evopt_sound (r := r) (fun x hx => hr x (by simp only [Op.operands]; simp at hx ⊢; simp [hx])) hmx).2 rfl
              obtain ⟨v, h1, h2⟩ := pSlice_sound (P := P) (fun i hi => hE t i hi) (hr x (by simp [Op.operands]) _ hx) l1 l2 u1 u2 h
              exact same v (by simp only [execOp, hm0, Sem.run_bind, h1, Result.andThen_ok]; rfl) h2
  case fieldAddr t x f =>
    cases hx : ρ x with
    | none => rw [hx] at h; unfold pFA at h; split at h <;> first | (cases h; done) | (split at h <;> first | (cases h; done) | (obtain ⟨_, h⟩ := bif_none h; cases h))
    | some a =>
      rw [hx] at h
      obtain ⟨v, h1, h2⟩ := pFA_sound (P := P) (fun i hi => hE t i hi) (hr x (by simp [Op.operands]) _ hx) h
      exact same v (by simp only [execOp, Sem.run_bind, h1, Result.andThen_ok]; rfl) h2
  case field t x f =>
    cases hx : ρ x with
    | none => rw [hx] at h; unfold pField at h; split at h <;> first | (cases h; done) | (split at h <;> cases h)
    | some a =>
      rw [hx] at h
      obtain ⟨v, h1, h2⟩ := pField_sound (P := P) (fun i hi => hE t i hi) (hr x (by simp [Op.operands]) _ hx) h
      exact same v (by simp only [execOp, Sem.run_bind, h1, Result.andThen_ok]; rfl) h2
  case indexAddr t x i =>
    cases hi : ρ i with
    | none => rw [hi] at h; cases h
    | some b => cases hx : ρ x with
      | none =>
        rw [hx, hi] at h; unfold pIA at h
        split at h
        · split at h
          · obtain ⟨_, h⟩ := bif_none h; cases h
          · cases h
          · cases h
        · cases h
      | some a =>
        rw [hx, hi] at h
        obtain ⟨v, h1, h2⟩ := pIA_sound (P := P) (fun i hi => hE t i hi) (hr x (by simp [Op.operands]) _ hx) (hr i (by simp [Op.operands]) _ hi) h
        exact same v (by simp only [execOp, Sem.run_bind, h1, Result.andThen_ok]; rfl) h2
  case index t x i =>
    cases hi : ρ i with
    | none => rw [hi] at h; cases h
    | some b => cases hx : ρ x with
      | none => rw [hx, hi] at h; unfold pIx at h; split at h <;> cases h
      | some a =>
        rw [hx, hi] at h
        obtain ⟨v, h1, h2⟩ := pIx_sound (P := P) (fun i hi => hE t i hi) (hr x (by simp [Op.operands]) _ hx) (hr i (by simp [Op.operands]) _ hi) h
        exact same v (by simp only [execOp, Sem.run_bind, h1, Result.andThen_ok]; rfl) h2
  case extract x i =>
    cases hx : ρ x with
    | none => rw [hx] at h; cases h
    | some a =>
      rw [hx] at h
      obtain ⟨v, h1, h2⟩ := pExt_sound (P := P) (hr x (by simp [Op.operands]) _ hx) h
      exact same v (by simp only [execOp, Sem.run_bind, h1, Result.andThen_ok]; rfl) h2
  case call cl =>
    obtain ⟨callee, args, ats⟩ := cl
    simp only at h
    split at h
    · rename_i b
      cases hl : evs ρ args.toList with
      | none => rw [hl] at h; cases b <;> cases h
      | some l =>
        rw [hl] at h
        have hrs := evs_sound (r := r) (fun x hx => hr x (by simp [Op.operands, Call.operands]; simpa using hx)) hl
        obtain ⟨v, h1, h2⟩ := pBuiltin_sound (P := P) (args := args.map r) (ty := type) hE (by simpa using hrs) h
        exact same v (by simp only [execOp, resolve, invoke, Sem.run_bind, Sem.run_pure, Result.andThen_ok, h1]) h2
    · cases h
end
end Go.Ab
