/-
  A VERIFICATION CONDITION BY COMPUTATION, FOR ANY PROGRAM: what a function's code does, told of data (numbers, truth values, byte lists, lists) in place of memory; proved sound once, against the kit's 'Code.wp'.
  No condition: the theorems hold for every program. 'Spec P f ds d' says: function f, called with arguments that read as ds, returns what reads as d, and leaves alone all memory that was there.
-/
import Derived.WalkKit
import Derived.WalkSpells
import Derived.WalkLawsBesides
import Derived.Deep.Quiet
import Derived.StillTail
import Derived.KernelRfl
import Derived.Lib.ItoaNum
namespace Go.Proofs.Ytnkinnhgahpcoaa.Vc
open Go.RowKit

/-! ### Data -/

/-- Types of data: a struct is its fields, paired from the right. -/
inductive Ty where
  | int (k : IntKind)
  | bool
  | str
  | list (t : Ty)
  | pair (a b : Ty)
  deriving DecidableEq, Inhabited

@[reducible] def Ty.I : Ty → Type
  | .int _ => Int
  | .bool => Bool
  | .str => List UInt8
  | .list t => List t.I
  | .pair a b => a.I × b.I

def Ty.dflt : (t : Ty) → t.I
  | .int _ => (0 : Int)
  | .bool => false
  | .str => []
  | .list _ => []
  | .pair a b => (a.dflt, b.dflt)

/-- How many cells. -/
def Ty.width : Ty → Nat
  | .pair a b => a.width + b.width
  | _ => 1

inductive D where
  | bad
  | und
  | val (t : Ty) (x : t.I)
  | fn (f : Fn)
  | nils
  | own (e : TypeId) (t : Ty) (xs : List t.I)
  | agg (cs : List D)
  | tup (xs : List D)
  | slo (id : Nat)
  | ptr (id : Nat) (off : Nat)
  | aptr (id : Nat)
  | rptr (id : Nat) (i : Int) (off : Nat)
  | ept (cs : List D)
  | pnil
  | slf (id : Nat)
  | clo (g : FuncId) (cs : List D)

instance : Inhabited D := ⟨.bad⟩

abbrev vi (n : Int) : D := .val (.int .i64) n
abbrev vu (n : Int) : D := .val (.int .u8) n
abbrev vb (b : Bool) : D := .val .bool b
abbrev vs (l : List UInt8) : D := .val .str l
abbrev vl (t : Ty) (xs : List t.I) : D := .val (.list t) xs

def D.cells : D → List D
  | .agg cs => cs
  | d => [d]

/-- The cells of a value of data. -/
def enc : (t : Ty) → t.I → List D
  | .pair a b, x => enc a x.1 ++ enc b x.2
  | .int k, x => [.val (.int k) x]
  | .bool, x => [.val .bool x]
  | .str, x => [.val .str x]
  | .list t, x => [.val (.list t) x]

/-- A value of data, as a slot holds it. -/
def encV (t : Ty) (x : t.I) : D :=
  match t, x with
  | .pair a b, x => .agg (enc (.pair a b) x)
  | t, x => .val t x

def castI {t u : Ty} (h : t = u) (x : t.I) : u.I := h ▸ x

/-- From cells to data: what is left over behind. -/
def dec : (t : Ty) → List D → Option (t.I × List D)
  | .pair a b, cs => match dec a cs with
    | some (x, r) => match dec b r with
      | some (y, r') => some ((x, y), r')
      | none => none
    | none => none
  | .list u, cs => match cs with
    | .nils :: r => some ([], r)
    | .val t x :: r => if h : t = .list u then some (castI h x, r) else none
    | _ => none
  | .int k, cs => match cs with
    | .val t x :: r => if h : t = .int k then some (castI h x, r) else none
    | _ => none
  | .bool, cs => match cs with
    | .val t x :: r => if h : t = .bool then some (castI h x, r) else none
    | _ => none
  | .str, cs => match cs with
    | .val t x :: r => if h : t = .str then some (castI h x, r) else none
    | _ => none

/-- The same, nothing left over. -/
def decAll (t : Ty) (cs : List D) : Option t.I :=
  match dec t cs with
  | some (x, []) => some x
  | _ => none

def atI (t : Ty) (xs : List t.I) (i : Int) : t.I := xs.getD i.toNat t.dflt

/-- An object's ghost: its block, a row's slice value, the cells of an element. -/
structure MO where
  g : Option Nat
  v : Value
  k : Nat

/-- What an object of the call's own holds. -/
inductive Ob where
  | cells (p : Bool) (T : TypeId) (cs : List D)
  | arr (t : Ty) (xs : List t.I)
  | row (p : Bool) (e : TypeId) (t : Ty) (xs : List t.I)
  | buf (e : TypeId) (xs : List Int)

instance : Inhabited Ob := ⟨.cells false 0 []⟩

/-- An object that came in as an argument, and goes back: its ghost stays. -/
def Ob.pin : Ob → Bool
  | .cells p _ _ => p
  | .arr _ _ => false
  | .row p _ _ _ => p
  | .buf _ _ => false

structure St where
  n : Nat
  sl : List (Nat × D)
  ob : List (Nat × Ob)
  deriving Inhabited

def find (l : List (Nat × D)) (i : Nat) : D :=
  match l with
  | [] => .bad
  | (j, d) :: r => bif Nat.beq i j then d else find r i

def findOb (l : List (Nat × Ob)) (i : Nat) : Option Ob :=
  match l with
  | [] => none
  | (j, d) :: r => bif Nat.beq i j then some d else findOb r i

def setOb (l : List (Nat × Ob)) (i : Nat) (o : Ob) : List (Nat × Ob) :=
  match l with
  | [] => []
  | (j, d) :: r => bif Nat.beq i j then (j, o) :: r else (j, d) :: setOb r i o

/-! ### The references to an object: gone, or (an own row that is frozen) turned into data -/

/-- 'new': what stands for the row itself ('.bad': it is gone). -/
def ic0 (id : Nat) (new : D) : D → D
  | .slo i => bif Nat.beq i id then new else .slo i
  | .ptr i o => bif Nat.beq i id then .bad else .ptr i o
  | .aptr i => bif Nat.beq i id then .bad else .aptr i
  | .rptr i x o => bif Nat.beq i id then .bad else .rptr i x o
  | .bad => .bad
  | .und => .und
  | .val t x => .val t x
  | .fn f => .fn f
  | .nils => .nils
  | .own e t xs => .own e t xs
  | .agg _ => .bad
  | .tup _ => .bad
  | .ept cs => .ept cs
  | .pnil => .pnil
  | .slf i => bif Nat.beq i id then .bad else .slf i
  | .clo g cs => .clo g cs
def ices0 (id : Nat) (new : D) : List D → List D
  | [] => []
  | d :: r => ic0 id new d :: ices0 id new r
def ic1 (id : Nat) (new : D) : D → D
  | .agg cs => .agg (ices0 id new cs)
  | d => ic0 id new d
def ices1 (id : Nat) (new : D) : List D → List D
  | [] => []
  | d :: r => ic1 id new d :: ices1 id new r
def ic2 (id : Nat) (new : D) : D → D
  | .tup ys => .tup (ices1 id new ys)
  | d => ic1 id new d
def iceSl (id : Nat) (new : D) : List (Nat × D) → List (Nat × D)
  | [] => []
  | (i, d) :: r => (i, ic2 id new d) :: iceSl id new r
def iceOb (id : Nat) (new : D) : List (Nat × Ob) → List (Nat × Ob)
  | [] => []
  | (i, .cells p T cs) :: r => bif Nat.beq i id then iceOb id new r else (i, .cells p T (ices0 id new cs)) :: iceOb id new r
  | (i, .arr t xs) :: r => bif Nat.beq i id then iceOb id new r else (i, .arr t xs) :: iceOb id new r
  | (i, .row p e t xs) :: r => bif Nat.beq i id then iceOb id new r else (i, .row p e t xs) :: iceOb id new r
  | (i, .buf e xs) :: r => bif Nat.beq i id then iceOb id new r else (i, .buf e xs) :: iceOb id new r
/-- Object 'id' is no more. -/
def St.kill (σ : St) (id : Nat) : St := { σ with sl := iceSl id .bad σ.sl, ob := iceOb id .bad σ.ob }
/-- The own row 'id' is data from now on. -/
def St.ice (σ : St) (id : Nat) : St :=
  match findOb σ.ob id with
  | some (.row false _ t xs) => { σ with sl := iceSl id (.val (.list t) xs) σ.sl, ob := iceOb id (.val (.list t) xs) σ.ob }
  | _ => σ

def D.rows0 : D → List Nat
  | .slo i => [i]
  | _ => []
def rowsOf : List D → List Nat
  | [] => []
  | .agg cs :: r => cs.flatMap D.rows0 ++ rowsOf r
  | d :: r => d.rows0 ++ rowsOf r
def St.iceAll (σ : St) : List Nat → St
  | [] => σ
  | i :: r => (σ.ice i).iceAll r

/-! ### What is told of data alone: own rows as lists -/

def snap0 (ob : List (Nat × Ob)) : D → D
  | .slo i => match findOb ob i with
    | some (.row false _ t xs) => .val (.list t) xs
    | _ => .bad
  | .nils => .nils
  | .val t x => .val t x
  | .fn f => .fn f
  | .clo g cs => .clo g cs
  | .ept cs => .ept cs
  | _ => .bad
def snaps0 (ob : List (Nat × Ob)) : List D → List D
  | [] => []
  | d :: r => snap0 ob d :: snaps0 ob r
def snap (ob : List (Nat × Ob)) : D → D
  | .agg cs => .agg (snaps0 ob cs)
  | d => snap0 ob d
def snaps (ob : List (Nat × Ob)) : List D → List D
  | [] => []
  | d :: r => snap ob d :: snaps ob r

/-! ### Types -/

def isAggT (P : Program) (t : TypeId) : Option Bool :=
  match P.underlying t with
  | some (.struct _) | some (.array _ _) => some true
  | some _ => some false
  | none => none
def sizeT (P : Program) (t : TypeId) : Nat := match P.info? t with | some i => i.size | none => 0
def bytesT (P : Program) (t : TypeId) : Nat := match P.info? t with | some i => i.bytes | none => 0

def pairs : List Ty → Option Ty
  | [] => none
  | [t] => some t
  | t :: r => match pairs r with | some u => some (.pair t u) | none => none

/-- The data of a Go type, where it is of numbers, truth values, texts, structs and slices alone. -/
def tyOf (P : Program) : Nat → TypeId → Option Ty
  | 0, _ => none
  | d + 1, t => match P.underlying t with
    | some (.int k) => some (.int k)
    | some .bool => some .bool
    | some .string => some .str
    | some (.slice e) => (tyOf P d e).map .list
    | some (.struct fs) => match fs.toList.mapM fun f => tyOf P d f.type with | some ts => pairs ts | none => none
    | _ => none

/-! ### The operations -/

def br (b : Bool) (A B : Prop) : Prop := match b with | true => A | false => B

/-- A text, or a row, of so many bytes (elements) is never made. -/
def room (n : Nat) : Prop := n ≤ 1073741824

def inR (i : Int) (n : Nat) : Prop := 0 ≤ i ∧ i < n

def slc {α : Type} (l : List α) (a b : Int) : List α := (l.drop a.toNat).take (b.toNat - a.toNat)

def byteAt (l : List UInt8) (i : Int) : Int := ((l.getD i.toNat 0).toNat : Int)

def imax (x y : Int) : Int := if y > x then y else x
def imin (x y : Int) : Int := if y < x then y else x

def ofVal : Value → D
  | .int k n => .val (.int k) n
  | .bool b => .val .bool b
  | .string s => .val .str s.data.toList
  | .slice none 0 0 => .nils
  | .pointer none => .pnil
  | _ => .bad
def ofVals : List Value → List D
  | [] => []
  | v :: r => ofVal v :: ofVals r

def zeroD (P : Program) (t : TypeId) : D :=
  match P.info? t with
  | some i => match i.zero with
    | some (.agg cs) => .agg (ofVals cs.toList)
    | some v => ofVal v
    | none => .bad
  | none => .bad

def ev (σ : St) : Operand → D
  | .tmp t => find σ.sl t
  | .const v => ofVal v
  | .func f => .fn (.func f)
  | .global _ => .bad
def evs (σ : St) : List Operand → List D
  | [] => []
  | x :: r => ev σ x :: evs σ r

def St.put (σ : St) (dst : Option Nat) (d : D) : St :=
  match dst with
  | none => σ
  | some t => { σ with sl := (t, bif Nat.blt t σ.n then d else .bad) :: σ.sl }
/-- A slot whose truth value has been decided. -/
def St.lit (σ : St) (t : Nat) (b : Bool) : St := { σ with sl := (t, .val .bool b) :: σ.sl }
def St.litOp (σ : St) (x : Operand) (b : Bool) : St :=
  match x with
  | .tmp t => σ.lit t b
  | _ => σ

/-- The cells of a slot's value that may be stored. -/
def cellsOf : D → Option (List D)
  | .agg cs => some cs
  | .val t x => some [.val t x]
  | .fn f => some [.fn f]
  | .nils => some [.nils]
  | .slo i => some [.slo i]
  | .ptr i o => some [.ptr i o]
  | .aptr i => some [.aptr i]
  | .pnil => some [.pnil]
  | .clo g cs => some [.clo g cs]
  | _ => none

def setFrom (cs : List D) (off : Nat) : List D → List D
  | [] => cs
  | d :: r => setFrom (cs.set off d) (off + 1) r

/-- The value of a variable of type t that begins so. -/
def loadD (P : Program) (t : TypeId) (cs : List D) (K : D → Prop) : Prop :=
  match isAggT P t with
  | some true => bif Nat.ble (sizeT P t) cs.length then K (.agg (cs.take (sizeT P t))) else False
  | some false => match cs with
    | c :: _ => K c
    | [] => False
  | none => False

def fieldOff (P : Program) (s : TypeId) (f : Nat) : Option (Nat × TypeId) :=
  match P.underlying s with
  | some (.struct fs) => match fs[f]? with
    | some fd => bif Nat.beq (sizeT P fd.type) 0 then none else some (fd.offset, fd.type)
    | none => none
  | _ => none

def boolsD (op : BinOp) (a b : Bool) (K : D → Prop) : Prop :=
  match op with
  | .eql => K (vb (a == b))
  | .neq => K (vb (!(a == b)))
  | _ => False

def intsD (op : BinOp) (k : IntKind) (a b : Int) (K : D → Prop) : Prop :=
  match op with
  | .add => K (.val (.int k) (k.wrap (a + b)))
  | .sub => K (.val (.int k) (k.wrap (a - b)))
  | .mul => K (.val (.int k) (k.wrap (a * b)))
  | .quo => b ≠ 0 ∧ K (.val (.int k) (k.wrap (a.tdiv b)))
  | .rem => b ≠ 0 ∧ K (.val (.int k) (a.tmod b))
  | .and => K (.val (.int k) (k.wrap ((BitVec.ofInt k.bits a &&& BitVec.ofInt k.bits b).toNat : Int)))
  | .or => K (.val (.int k) (k.wrap ((BitVec.ofInt k.bits a ||| BitVec.ofInt k.bits b).toNat : Int)))
  | .xor => K (.val (.int k) (k.wrap ((BitVec.ofInt k.bits a ^^^ BitVec.ofInt k.bits b).toNat : Int)))
  | .andNot => K (.val (.int k) (k.wrap ((BitVec.ofInt k.bits a &&& ~~~BitVec.ofInt k.bits b).toNat : Int)))
  | .eql => K (vb (a == b))
  | .neq => K (vb (a != b))
  | .lss => K (vb (decide (a < b)))
  | .leq => K (vb (decide (a ≤ b)))
  | .gtr => K (vb (decide (b < a)))
  | .geq => K (vb (decide (b ≤ a)))
  | _ => False

def strsD (op : BinOp) (a b : List UInt8) (K : D → Prop) : Prop :=
  match op with
  | .add => room (a.length + b.length) ∧ K (vs (a ++ b))
  | .eql => K (vb (a == b))
  | .neq => K (vb (!(a == b)))
  | .lss => K (vb (Op.bytesLess a b))
  | .leq => K (vb (Op.bytesLess a b || a == b))
  | .gtr => K (vb (!(Op.bytesLess a b || a == b)))
  | .geq => K (vb (!(Op.bytesLess a b)))
  | _ => False

def isBoolT (P : Program) (t : TypeId) : Bool := match P.underlying t with | some .bool => true | _ => false

/-- Equal structs, of plain fields: field by field. -/
def eqCells (P : Program) : List Field → List D → List D → Option Bool
  | [], _, _ => some true
  | f :: fs, cs, ds => match f.name != "_", P.underlying f.type, cs[f.offset]?, ds[f.offset]? with
    | true, some .bool, some (.val .bool a), some (.val .bool b) => match eqCells P fs cs ds with
      | some r => some (a == b && r)
      | none => none
    | true, some (.int _), some (.val (.int k) a), some (.val (.int k') b) => match decide (k = k'), eqCells P fs cs ds with
      | true, some r => some (a == b && r)
      | _, _ => none
    | true, some .string, some (.val .str a), some (.val .str b) => match eqCells P fs cs ds with
      | some r => some (a == b && r)
      | none => none
    | _, _, _, _ => none

def aggD (P : Program) (op : BinOp) (t : TypeId) (cs ds : List D) (K : D → Prop) : Prop :=
  match P.underlying t with
  | some (.struct fs) => match P.stoodInHeld t, P.eqGuardType P.depth t, eqCells P fs.toList cs ds with
    | false, false, some r => match op with
      | .eql => K (vb r)
      | .neq => K (vb (!r))
      | _ => False
    | _, _, _ => False
  | _ => False

def binD (P : Program) (op : BinOp) (t : TypeId) (x y : D) (K : D → Prop) : Prop :=
  match x, y with
  | .val (.int k) a, .val (.int k') b => match op with
    | .shl => 0 ≤ b ∧ K (.val (.int k) (k.wrap (a * 2 ^ (min b.toNat k.bits))))
    | .shr => 0 ≤ b ∧ K (.val (.int k) (a.fdiv (2 ^ (min b.toNat k.bits))))
    | op => match decide (k = k') with
      | true => intsD op k a b K
      | false => False
  | .val .str a, .val .str b => strsD op a b K
  | .val .bool a, .val .bool b => match isBoolT P t with
    | true => boolsD op a b K
    | false => False
  | .agg cs, .agg ds => aggD P op t cs ds K
  | _, _ => False

def isNilC : Operand → Bool
  | .const (.slice none 0 0) => true
  | _ => false
def unD (op : UnOp) (x : D) (K : D → Prop) : Prop :=
  match op, x with
  | .not, .val .bool b => K (vb (!b))
  | .neg, .val (.int k) n => K (.val (.int k) (k.wrap (0 - n)))
  | _, _ => False

def optI (d : Option D) (dflt : Int) : Option Int :=
  match d with
  | none => some dflt
  | some (.val (.int _) n) => some n
  | _ => none

def isStrT (P : Program) (t : TypeId) : Bool := match P.underlying t with | some .string => true | _ => false
def elemT (P : Program) (t : TypeId) : Option TypeId := match P.underlying t with | some (.slice e) => some e | _ => none

/-- A slice, compared with nil: of an empty one data do not tell. -/
def nilD (P : Program) (op : BinOp) (t : TypeId) (x : D) (K : D → Prop) : Prop :=
  match x with
  | .val (.list _) xs => match elemT P t with
    | some _ => match op with
      | .eql => (xs = [] → K (vb true)) ∧ K (vb false)
      | .neq => (xs = [] → K (vb false)) ∧ K (vb true)
      | _ => False
    | none => False
  | _ => False

/-- A cut of a text, or of a list that is data. -/
def cutD (P : Program) (t : TypeId) (x : D) (lo hi mx : Option D) (K : D → Prop) : Prop :=
  match mx with
  | none => match x with
    | .val .str l => match isStrT P t with
      | true => match optI lo 0, optI hi l.length with
        | some a, some b => (0 ≤ a ∧ a ≤ b ∧ b ≤ (l.length : Int)) ∧ K (vs (slc l a b))
        | _, _ => False
      | false => False
    | .val (.list u) l => match elemT P t with
      | some e => bif Nat.beq (sizeT P e) u.width then match optI lo 0, optI hi l.length with
          | some a, some b => (0 ≤ a ∧ a ≤ b ∧ b ≤ (l.length : Int)) ∧ K (.val (.list u) (slc l a b))
          | _, _ => False
        else False
      | none => False
    | _ => False
  | some (.val (.int _) m) => match x, optI lo 0, optI hi 1 with
    | .val (.list _) _, some a, some b => match elemT P t with
      | some e => bif Nat.blt 0 (sizeT P e) then (a = 0 ∧ b = 0 ∧ m = 0) ∧ K .nils else False
      | none => False
    | _, _, _ => False
  | _ => False

def lenD (P : Program) (ob : List (Nat × Ob)) (t : TypeId) (x : D) (K : D → Prop) : Prop :=
  match x with
  | .val .str l => match isStrT P t with | true => K (vi l.length) | false => False
  | .val (.list _) l => match elemT P t with | some _ => K (vi l.length) | none => False
  | .nils => match elemT P t with | some _ => K (vi 0) | none => False
  | .slo i => match elemT P t with
    | some _ => match findOb ob i with
      | some (.row _ _ _ xs) => K (vi xs.length)
      | _ => False
    | none => False
  | _ => False

/-- A text, of bytes as numbers. -/
def strOf (xs : List Int) : List UInt8 := xs.map fun n => UInt8.ofNat n.toNat
def bts (l : List UInt8) : List Int := l.map fun b => (b.toNat : Int)
def isBytesT (P : Program) (t : TypeId) : Bool :=
  match P.underlying t with
  | some (.slice e) => match P.underlying e with
    | some (.int .u8) => true
    | _ => false
  | _ => false
/-- Bytes, as a text. -/
def conbD (P : Program) (src dst : TypeId) (x : D) (K : D → Prop) : Prop :=
  match isBytesT P src, isStrT P dst with
  | true, true => match x with
    | .val (.list (.int .u8)) xs => K (vs (strOf xs))
    | .nils => K (vs [])
    | _ => False
  | _, _ => False

def convD (P : Program) (src dst : TypeId) (x : D) (K : D → Prop) : Prop :=
  match P.underlying src, P.underlying dst, x with
  | some (.int _), some (.int k), .val (.int _) n => K (.val (.int k) (k.wrap n))
  | some .string, some .string, .val .str l => K (.val .str l)
  | _, _, _ => False

/-- A struct, part by part, over its zero value. -/
def buildD (P : Program) (fs : Array Field) : List (Nat × D) → List D → Option (List D)
  | [], cs => some cs
  | (i, x) :: r, cs => match fs[i]?, cellsOf x with
    | some fd, some new => bif Nat.beq new.length (sizeT P fd.type) && Nat.ble (fd.offset + new.length) cs.length then buildD P fs r (setFrom cs fd.offset new) else none
    | _, _ => none

/-- Is each of the cells known? -/
def goods : List D → Bool
  | [] => true
  | .bad :: _ => false
  | _ :: r => goods r

def allSized (P : Program) : List Field → Bool
  | [] => true
  | f :: r => Nat.blt 0 (sizeT P f.type) && allSized P r

def evParts (σ : St) : List (Nat × Operand) → List (Nat × D)
  | [] => []
  | (i, x) :: r => (i, ev σ x) :: evParts σ r

/-- The operations that make one value, and leave everything as it was. -/
def wpq (P : Program) (σ : St) (op : Op) (K : D → Prop) : Prop :=
  match op with
  | .move x => K (ev σ x)
  | .assign x => K (ev σ x)
  | .pick c a b => match ev σ c with
    | .val .bool x => br x (K (ev σ a)) (K (ev σ b))
    | _ => False
  | .nilCheck x => match ev σ x with
    | .ptr i o => K (.ptr i o)
    | .aptr i => K (.aptr i)
    | .rptr i x o => K (.rptr i x o)
    | .ept cs => K (.ept cs)
    | _ => False
  | .load t x => match ev σ x with
    | .ept cs => loadD P t cs K
    | .ptr i o => match findOb σ.ob i with
      | some (.cells _ _ cs) => loadD P t (cs.drop o) K
      | _ => False
    | .rptr i x o => match findOb σ.ob i with
      | some (.row _ _ u xs) => inR x xs.length ∧ loadD P t ((enc u (atI u xs x)).drop o) K
      | some (.arr u xs) => inR x xs.length ∧ loadD P t ((enc u (atI u xs x)).drop o) K
      | _ => False
    | _ => False
  | .fieldAddr s x f => match fieldOff P s f with
    | some (o, _) => match ev σ x with
      | .ept cs => K (.ept (cs.drop o))
      | .ptr i o' => K (.ptr i (o' + o))
      | .rptr i x o' => K (.rptr i x (o' + o))
      | _ => False
    | none => False
  | .field s x f => match fieldOff P s f with
    | some (o, t) => match ev σ x with
      | .agg cs => match isAggT P t with
        | some true => bif Nat.ble (o + sizeT P t) cs.length then K (.agg ((cs.drop o).take (sizeT P t))) else False
        | some false => match cs.drop o with
          | c :: _ => K c
          | [] => False
        | none => False
      | _ => False
    | none => False
  | .indexAddr t x ix => match ev σ ix with
    | .val (.int _) i => match P.underlying t, ev σ x with
      | some (.slice e), .val (.list u) xs => inR i xs.length ∧ bif Nat.beq (sizeT P e) u.width then K (.ept (enc u (atI u xs i))) else False
      | some (.slice e), .slo id => match findOb σ.ob id with
        | some (.row _ _ u xs) => inR i xs.length ∧ bif Nat.beq (sizeT P e) u.width then K (.rptr id i 0) else False
        | _ => False
      | some (.array n e), .aptr id => match findOb σ.ob id with
        | some (.arr u xs) => inR i n ∧ xs.length = n ∧ bif Nat.beq (sizeT P e) u.width then K (.rptr id i 0) else False
        | _ => False
      | _, _ => False
    | _ => False
  | .index t x ix => match isStrT P t, ev σ x, ev σ ix with
    | true, .val .str l, .val (.int _) i => inR i l.length ∧ K (vu (byteAt l i))
    | _, _, _ => False
  | .slice t x lo hi mx => cutD P t (ev σ x) (lo.map (ev σ)) (hi.map (ev σ)) (mx.map (ev σ)) K
  | .binOp op t x y _ => match isNilC y with
    | true => nilD P op t (ev σ x) K
    | false => binD P op t (ev σ x) (ev σ y) K
  | .unOp op _ x => unD op (ev σ x) K
  | .convert src dst x => match ev σ x with
    | .slo i => conbD P src dst (snap0 σ.ob (.slo i)) K
    | .nils => conbD P src dst .nils K
    | .val (.list u) xs => conbD P src dst (.val (.list u) xs) K
    | d => convD P src dst d K
  | .extract x i => match ev σ x with
    | .tup xs => match xs[i]? with
      | some d => K d
      | none => False
    | _ => False
  | .build t parts => match P.underlying t with
    | some (.struct fs) => match allSized P fs.toList, zeroD P t with
      | true, .agg zs => match goods zs, buildD P fs (evParts σ parts.toList) zs with
        | true, some cs => K (.agg cs)
        | _, _ => False
      | _, _ => False
    | _ => False
  | .call { callee := .builtin .len, args, argTypes } => match args.toList, argTypes.toList with
    | [x], [t] => lenD P σ.ob t (ev σ x) K
    | _, _ => False
  | .call { callee := .builtin .max, args, .. } => match evs σ args.toList with
    | [.val (.int k) a, .val (.int k') b] => match decide (k = k') with
      | true => K (.val (.int k) (imax a b))
      | false => False
    | _ => False
  | .call { callee := .builtin .min, args, .. } => match evs σ args.toList with
    | [.val (.int k) a, .val (.int k') b] => match decide (k = k') with
      | true => K (.val (.int k) (imin a b))
      | false => False
    | _ => False
  | _ => False


/-! ### What data mean in memory -/

/-- From an address on these cells are read. -/
def Reads (w : World) (a : Addr) (us : List Value) : Prop := ∀ (j : Nat) u, us[j]? = some u → w.cell? (a.add j) = some u ∧ u.oneCell' = true

/-- The cells read as the data; 'F': the blocks that nobody writes any more. -/
def RV (w : World) (F : Nat → Prop) : (t : Ty) → t.I → List Value → Prop
  | .int k, n, cs => cs = [.int k n]
  | .bool, b, cs => cs = [.bool b]
  | .str, l, cs => ∃ s : ByteArray, cs = [.string s] ∧ s.data.toList = l
  | .pair a b, x, cs => ∃ c1 c2, cs = c1 ++ c2 ∧ RV w F a x.1 c1 ∧ RV w F b x.2 c2
  | .list t, xs, cs => ∃ A c, cs = [.slice A xs.length c] ∧ xs.length ≤ c ∧ c ≤ maxLen ∧
      ∀ (i : Nat) x, xs[i]? = some x → ∃ a us, A = some a ∧ F a.block ∧ RV w F t x us ∧ Reads w (a.add (i * t.width)) us

def RE0 (w : World) (F : Nat → Prop) (u : Value) : D → Prop
  | .val t x => RV w F t x [u]
  | _ => False
def RE (w : World) (F : Nat → Prop) (u : Value) : D → Prop
  | .val t x => RV w F t x [u]
  | .ept cs => ∃ a us, u = .pointer (some a) ∧ F a.block ∧ Reads w a us ∧ us.length = cs.length ∧ ∀ (j : Nat) c, cs[j]? = some c → ∃ u', us[j]? = some u' ∧ RE0 w F u' c
  | _ => False

def R0 (w : World) (F : Nat → Prop) (M : Nat → Option MO) (v : Value) : D → Prop
  | .bad => True
  | .und => v = undef
  | .val t x => RV w F t x [v]
  | .fn f => v = .func f #[] #[]
  | .nils => ∃ A, v = .slice A 0 0
  | .pnil => v = .pointer none
  | .slf id => v = .pointer none ∨ ∃ mo g, M id = some mo ∧ mo.g = some g ∧ v = .pointer (some ⟨g, 0, none⟩)
  | .clo g cs => ∃ us, v = .func (.func g) #[] us ∧ us.size = cs.length ∧ ∀ (j : Nat) c, cs[j]? = some c → ∃ u, us[j]? = some u ∧ u.oneCell' = true ∧ RE w F u c
  | .slo id => ∃ mo, M id = some mo ∧ v = mo.v ∧ v.oneCell' = true
  | .ptr id off => ∃ mo g, M id = some mo ∧ mo.g = some g ∧ v = .pointer (some ⟨g, off, none⟩)
  | .aptr id => ∃ mo g, M id = some mo ∧ mo.g = some g ∧ v = .pointer (some ⟨g, 0, none⟩)
  | .rptr id i off => ∃ mo g, M id = some mo ∧ mo.g = some g ∧ v = .pointer (some ⟨g, i.toNat * mo.k + off, none⟩)
  | .ept cs => ∃ a us, v = .pointer (some a) ∧ F a.block ∧ Reads w a us ∧ us.length = cs.length ∧ ∀ (j : Nat) c, cs[j]? = some c → ∃ u, us[j]? = some u ∧ RE w F u c
  | .own _ _ _ => False
  | .agg _ => False
  | .tup _ => False

def R1 (w : World) (F : Nat → Prop) (M : Nat → Option MO) (v : Value) : D → Prop
  | .agg cs => ∃ vs, v = .agg vs ∧ vs.size = cs.length ∧ ∀ (j : Nat) c, cs[j]? = some c → ∃ u, vs[j]? = some u ∧ u.oneCell' = true ∧ R0 w F M u c
  | d => R0 w F M v d

def R (w : World) (F : Nat → Prop) (M : Nat → Option MO) (v : Value) : D → Prop
  | .tup xs => ∃ vs, v = .tuple vs ∧ vs.size = xs.length ∧ ∀ (j : Nat) d, xs[j]? = some d → ∃ u, vs[j]? = some u ∧ R1 w F M u d
  | d => R1 w F M v d

/-- The cells of a block hold these elements, one behind the other. -/
def Holds (w : World) (F : Nat → Prop) (t : Ty) (xs : List t.I) (us : List Value) : Prop :=
  ∀ (i : Nat) x, xs[i]? = some x → RV w F t x ((us.drop (i * t.width)).take t.width)

/-- A row of the call's own. -/
def OwnR (w : World) (F : Nat → Prop) (B : Nat → Prop) (G : Option Nat) (v : Value) (e : TypeId) (t : Ty) (xs : List t.I) : Prop :=
  (xs = [] ∧ G = none ∧ ∃ A, v = .slice A 0 0) ∨
  ∃ g cap us, G = some g ∧ B g ∧ v = .slice (some ⟨g, 0, none⟩) xs.length cap ∧ w.heap[g]? = some (.cells us e (0, 0)) ∧ xs.length ≤ cap ∧ cap ≤ maxLen ∧
    us.size = cap * t.width ∧ Holds w F t xs us.toList

def ObR (w : World) (F : Nat → Prop) (M : Nat → Option MO) (B : Nat → Prop) (mo : MO) : Ob → Prop
  | .cells _ t cs => ∃ g us, mo.g = some g ∧ w.heap[g]? = some (.cells us t (0, 0)) ∧ us.size = cs.length ∧ ∀ (j : Nat) c, cs[j]? = some c → ∃ u, us[j]? = some u ∧ u.oneCell' = true ∧ R0 w F M u c
  | .arr t xs => ∃ g us ty, mo.g = some g ∧ mo.k = t.width ∧ w.heap[g]? = some (.cells us ty (0, 0)) ∧ us.size = xs.length * t.width ∧ Holds w F t xs us.toList
  | .row _ e t xs => mo.k = t.width ∧ OwnR w F B mo.g mo.v e t xs
  | .buf e xs => mo.k = 1 ∧ OwnR w F B mo.g mo.v e (.int .u8) xs ∧ (mo.g = none → mo.v = .slice none 0 0)

def noM : Nat → Option MO := fun _ => none

/-! ### A struct of the call's own, behind a pointer, with own rows in it -/

/-- A field: data; an own row; a pointer that is nil or the struct's own. -/
inductive Fd where
  | dat (t : Ty)
  | row (e : TypeId) (t : Ty)
  | slf
  | buf (e : TypeId)
  deriving Inhabited

@[reducible] def Fd.ty : Fd → Ty
  | .dat t => t
  | .row _ t => .list t
  | .slf => .bool
  | .buf _ => .list (.int .u8)

@[reducible] def gTy : List Fd → Ty
  | [] => .bool
  | f :: r => match r with
    | [] => f.ty
    | _ :: _ => .pair f.ty (gTy r)

/-- The number of the row in field j of object id. -/
def gid (id j : Nat) : Nat := 1000000 + (64 * id + j)

def fCs (id j : Nat) (f : Fd) (x : f.ty.I) : List D :=
  match f, x with
  | .dat t, x => enc t x
  | .row _ _, _ => [.slo (gid id j)]
  | .slf, _ => [.slf id]
  | .buf _, _ => [.slo (gid id j)]
def fOb (id j : Nat) (f : Fd) (x : f.ty.I) : List (Nat × Ob) :=
  match f, x with
  | .row e t, x => [(gid id j, .row false e t x)]
  | .buf e, x => [(gid id j, .buf e x)]
  | _, _ => []
def gCs (id : Nat) : Nat → (fs : List Fd) → (gTy fs).I → List D
  | _, [], _ => []
  | j, [f], x => fCs id j f x
  | j, f :: q :: r, x => fCs id j f x.1 ++ gCs id (j + 1) (q :: r) x.2
def gOb (id : Nat) : Nat → (fs : List Fd) → (gTy fs).I → List (Nat × Ob)
  | _, [], _ => []
  | j, [f], x => fOb id j f x
  | j, f :: q :: r, x => fOb id j f x.1 ++ gOb id (j + 1) (q :: r) x.2

/-- What a field's cells hold. 'b': the struct's block; 'm': the row's ghost. -/
def FdR (w : World) (F : Nat → Prop) (B : Nat → Prop) (b : Nat) (m : Option MO) (f : Fd) (x : f.ty.I) (us : List Value) : Prop :=
  match f, x with
  | .dat t, x => RV w F t x us
  | .row e t, x => ∃ mo, m = some mo ∧ us = [mo.v] ∧ mo.k = t.width ∧ OwnR w F B mo.g mo.v e t x
  | .slf, _ => us = [.pointer none] ∨ us = [.pointer (some ⟨b, 0, none⟩)]
  | .buf e, x => ∃ mo, m = some mo ∧ us = [mo.v] ∧ mo.k = 1 ∧ OwnR w F B mo.g mo.v e (.int .u8) x ∧ (mo.g = none → mo.v = .slice none 0 0)
def GrsR (w : World) (F : Nat → Prop) (B : Nat → Prop) (b : Nat) (ms : Nat → Option MO) : Nat → (fs : List Fd) → (gTy fs).I → List Value → Prop
  | _, [], _, us => us = []
  | j, [f], x, us => FdR w F B b (ms j) f x us
  | j, f :: q :: r, x, us => ∃ u1 u2, us = u1 ++ u2 ∧ FdR w F B b (ms j) f x.1 u1 ∧ GrsR w F B b ms (j + 1) (q :: r) x.2 u2
/-- The struct in block b, its rows apart from it and from each other. -/
structure GrR (w : World) (F : Nat → Prop) (B : Nat → Prop) (b : Nat) (T : TypeId) (fs : List Fd) (x : (gTy fs).I) (ms : Nat → Option MO) : Prop where
  cells : ∃ us, w.heap[b]? = some (.cells us T (0, 0)) ∧ GrsR w F B b ms 0 fs x us.toList
  apart : ∀ i j mi mj g, ms i = some mi → ms j = some mj → mi.g = some g → mj.g = some g → i = j
  off : ∀ i mi, ms i = some mi → mi.g ≠ some b

def RR0 (w : World) (F : Nat → Prop) (B : Nat → Prop) (G : Option Nat) (v : Value) : D → Prop
  | .own e t xs => OwnR w F B G v e t xs
  | d => R1 w F noM v d
def RR (w : World) (F : Nat → Prop) (B : Nat → Prop) (G : Option Nat) (v : Value) : D → Prop
  | .tup xs => ∃ vs, v = .tuple vs ∧ vs.size = xs.length ∧ ∀ (j : Nat) d, xs[j]? = some d → ∃ u, vs[j]? = some u ∧ RR0 w F B G u d
  | d => RR0 w F B G v d

/-- A variable of the program's that holds an int. -/
def intVar (P : Program) (g : Nat) : Bool :=
  match P.globals[g]? with
  | some v => match P.underlying v.type with
    | some (.int .i64) => true
    | _ => false
  | none => false
/-- A variable of the library's that holds a table: what it has. -/
def tabVar (P : Program) (g : Nat) : Option (List Int) :=
  match P.globals[g]? with
  | some v => if v.name = "internal/strconv.uint64pow10" then some Lib.pow10Tab else none
  | none => none
def keptVar (P : Program) (g : Nat) : Bool := intVar P g || (tabVar P g).isSome
def VarOk (P : Program) (w : World) (g : Nat) : Prop :=
  (intVar P g = true → ∃ m : Int, w.cell? ⟨g, 0, none⟩ = some (.int .i64 m)) ∧ ∀ zs, tabVar P g = some zs → ∃ e fr, w.heap[g]? = some (.cells (zs.map fun z => Value.int .u64 z).toArray e fr)
theorem VarOk.of_block {P : Program} {w w' : World} {g : Nat} (h : VarOk P w g) (hb : w'.heap[g]? = w.heap[g]?) : VarOk P w' g :=
  ⟨fun hg => by obtain ⟨m, hm⟩ := h.1 hg; exact ⟨m, by rw [World.cell?_of_block hb]; exact hm⟩, fun zs hz => by rw [hb]; exact h.2 zs hz⟩
/-- The program's int variables hold ints, its tables what they have, and nobody writes them. -/
def Glb (P : Program) (w : World) (F : Nat → Prop) : Prop := ∀ g, keptVar P g = true → F g ∧ VarOk P w g
theorem Glb.imp {P : Program} {w : World} {F F' : Nat → Prop} (h : Glb P w F) (hF : ∀ g, F g → F' g) : Glb P w F' := fun g hg => ⟨hF g (h g hg).1, (h g hg).2⟩
theorem Glb.int {P : Program} {w : World} {F : Nat → Prop} (h : Glb P w F) {g : Nat} (hg : intVar P g = true) : F g ∧ ∃ m : Int, w.cell? ⟨g, 0, none⟩ = some (.int .i64 m) :=
  ⟨(h g (by simp [keptVar, hg])).1, (h g (by simp [keptVar, hg])).2.1 hg⟩
theorem Glb.tab {P : Program} {w : World} {F : Nat → Prop} (h : Glb P w F) {g : Nat} {zs : List Int} (hg : tabVar P g = some zs) : F g ∧ ∃ e fr, w.heap[g]? = some (.cells (zs.map fun z => Value.int .u64 z).toArray e fr) :=
  ⟨(h g (by simp [keptVar, hg])).1, (h g (by simp [keptVar, hg])).2.2 zs hg⟩

/-- Function f, called with arguments that read as ds, returns what reads as d, and leaves alone all memory that was there. -/
def Spec (P : Program) (f : FuncId) (ds : List D) (d : D) : Prop :=
  (∀ (args : Array Value) (w : World), (callFunc f args).run P w = .ok (.enter f args) w) ∧
  ∀ (w : World) (vs : Array Value) (F : Nat → Prop), (∀ g, F g → g < w.heap.size) → Glb P w F → vs.size = ds.length →
    (∀ (i : Nat) d', ds[i]? = some d' → ∃ v, vs[i]? = some v ∧ R1 w F noM v d') →
    Calls P f vs w fun e w' => ∃ v F' G, e = .returned v ∧ Below w.heap.size w w' ∧ (∀ g, F g → F' g) ∧ (∀ g, F' g → g < w'.heap.size ∧ (F g ∨ w.heap.size ≤ g)) ∧
      (∀ g, G = some g → w.heap.size ≤ g ∧ ¬F' g ∧ g < w'.heap.size) ∧ RR w' F' (fun g => w.heap.size ≤ g) G v d

/-- Function f, called with a row of the caller's own, that holds xs, and arguments that read as ds: the row holds ys, and what is returned reads as d; all other memory that was there is left alone. -/
def SpecR (P : Program) (f : FuncId) (e : TypeId) (t : Ty) (xs : List t.I) (ds : List D) (ys : List t.I) (d : D) : Prop :=
  (∀ (args : Array Value) (w : World), (callFunc f args).run P w = .ok (.enter f args) w) ∧
  ∀ (w : World) (v0 : Value) (vs : Array Value) (F : Nat → Prop) (G0 : Option Nat), (∀ g, F g → g < w.heap.size) → Glb P w F → OwnR w F (fun g => g < w.heap.size ∧ ¬F g) G0 v0 e t xs → vs.size = ds.length →
    (∀ (i : Nat) d', ds[i]? = some d' → ∃ v, vs[i]? = some v ∧ R1 w F noM v d') →
    Calls P f (#[v0] ++ vs) w fun en w' => ∃ v F', en = .returned v ∧ w.grownBy w' G0 ∧ (∀ g, F g → F' g) ∧ (∀ g, F' g → g < w'.heap.size ∧ (F g ∨ w.heap.size ≤ g)) ∧ (∀ F2 M2, R w' F2 M2 v d) ∧
      OwnR w' F' (fun _ => True) G0 v0 e t ys

/-- The same, where the row is used up: what is returned may lie in it. -/
def SpecT (P : Program) (f : FuncId) (e : TypeId) (t : Ty) (xs : List t.I) (ds : List D) (d : D) : Prop :=
  (∀ (args : Array Value) (w : World), (callFunc f args).run P w = .ok (.enter f args) w) ∧
  ∀ (w : World) (v0 : Value) (vs : Array Value) (F : Nat → Prop) (G0 : Option Nat), (∀ g, F g → g < w.heap.size) → Glb P w F → OwnR w F (fun g => g < w.heap.size ∧ ¬F g) G0 v0 e t xs → vs.size = ds.length →
    (∀ (i : Nat) d', ds[i]? = some d' → ∃ v, vs[i]? = some v ∧ R1 w F noM v d') →
    Calls P f (#[v0] ++ vs) w fun en w' => ∃ v F' G, en = .returned v ∧ w.grownBy w' G0 ∧ (∀ g, F g → F' g) ∧ (∀ g, F' g → g < w'.heap.size ∧ (F g ∨ w.heap.size ≤ g)) ∧
      (∀ g, G = some g → (w.heap.size ≤ g ∨ G0 = some g) ∧ ¬F' g ∧ g < w'.heap.size) ∧ RR w' F' (fun _ => True) G v d

/-- The blocks of a struct and of its rows. -/
def grX (b : Nat) (ms : Nat → Option MO) (g : Nat) : Prop := g = b ∨ ∃ j mo, ms j = some mo ∧ mo.g = some g

/-- What was there is as it was, but for the blocks of X. -/
structure BelX (w0 : World) (X : Nat → Prop) (w : World) : Prop where
  os : w.os = w0.os
  tape : w.tape = w0.tape
  output : w.output = w0.output
  size : w0.heap.size ≤ w.heap.size
  block : ∀ k, k < w0.heap.size → ¬ X k → w.heap[k]? = w0.heap[k]?

/-- The world when the call began; the blocks that were there, and that the call may write; the ghosts of the objects that came in. -/
structure W0 (P : Program) where
  w : World
  X : Nat → Prop
  p : Nat → Option MO
  ok : ∀ g, keptVar P g = true → g < w.heap.size ∧ ¬X g ∧ VarOk P w g
/-- A block that the call may write. -/
def W0.nw {P : Program} (w0 : W0 P) (g : Nat) : Prop := w0.w.heap.size ≤ g ∨ w0.X g
/-- What was there is as it was, but for such blocks. -/
abbrev W0.Bel {P : Program} (w0 : W0 P) (w : World) : Prop := BelX w0.w w0.X w

theorem W0.Bel.new {P : Program} {w0 : W0 P} {w : World} (h : w0.Bel w) {g : Nat} (hg : w.heap.size ≤ g) : w0.nw g := .inl (Nat.le_trans h.size hg)
theorem W0.Bel.trans {P : Program} {w0 : W0 P} {w w' : World} (h : w0.Bel w) (hb : Below w.heap.size w w') : w0.Bel w' :=
  ⟨hb.os.trans h.os, hb.tape.trans h.tape, hb.output.trans h.output, Nat.le_trans h.size hb.size, fun k hk hx => (hb.block k (Nat.lt_of_lt_of_le hk h.size)).trans (h.block k hk hx)⟩
theorem W0.Bel.grown {P : Program} {w0 : W0 P} {w w' : World} {row : Option Nat} (h : w0.Bel w) (hg : w.grownBy w' row) (hr : ∀ k, row = some k → w0.nw k) : w0.Bel w' :=
  ⟨hg.os.trans h.os, hg.tape.trans h.tape, hg.output.trans h.output, Nat.le_trans h.size hg.size, fun k hk hx =>
    (hg.block k (Nat.lt_of_lt_of_le hk h.size) (fun e => (hr k e.symm).elim (fun h1 => by omega) hx)).trans (h.block k hk hx)⟩

/-- Function f, called with a pointer to a struct of the caller's own, that holds x, and arguments that read as ds: the struct holds y, and what is returned reads as d; all other memory that was there is left alone. -/
def SpecG (P : Program) (f : FuncId) (T : TypeId) (fs : List Fd) (x : (gTy fs).I) (ds : List D) (y : (gTy fs).I) (d : D) : Prop :=
  (∀ (args : Array Value) (w : World), (callFunc f args).run P w = .ok (.enter f args) w) ∧
  ∀ (w : World) (b : Nat) (vs : Array Value) (F : Nat → Prop) (ms : Nat → Option MO), (∀ g, F g → g < w.heap.size) → Glb P w F → (∀ g, grX b ms g → ¬F g ∧ g < w.heap.size) → GrR w F (fun _ => True) b T fs x ms → vs.size = ds.length →
    (∀ (i : Nat) d', ds[i]? = some d' → ∃ v, vs[i]? = some v ∧ R1 w F noM v d') →
    Calls P f (#[.pointer (some ⟨b, 0, none⟩)] ++ vs) w fun en w' => ∃ v F' ms', en = .returned v ∧ BelX w (grX b ms) w' ∧ (∀ g, F g → F' g) ∧ (∀ g, F' g → g < w'.heap.size ∧ (F g ∨ w.heap.size ≤ g ∨ grX b ms g)) ∧
      (∀ g, grX b ms' g → ¬F' g ∧ g < w'.heap.size ∧ (grX b ms g ∨ w.heap.size ≤ g)) ∧ GrR w' F' (fun _ => True) b T fs y ms' ∧ (∀ F2 M2, R w' F2 M2 v d)

/-- The same, where the struct is used up. -/
def SpecK (P : Program) (f : FuncId) (T : TypeId) (fs : List Fd) (x : (gTy fs).I) (ds : List D) (d : D) : Prop :=
  (∀ (args : Array Value) (w : World), (callFunc f args).run P w = .ok (.enter f args) w) ∧
  ∀ (w : World) (b : Nat) (vs : Array Value) (F : Nat → Prop) (ms : Nat → Option MO), (∀ g, F g → g < w.heap.size) → Glb P w F → (∀ g, grX b ms g → ¬F g ∧ g < w.heap.size) → GrR w F (fun _ => True) b T fs x ms → vs.size = ds.length →
    (∀ (i : Nat) d', ds[i]? = some d' → ∃ v, vs[i]? = some v ∧ R1 w F noM v d') →
    Calls P f (#[.pointer (some ⟨b, 0, none⟩)] ++ vs) w fun en w' => ∃ v, en = .returned v ∧ BelX w (grX b ms) w' ∧ (∀ F2 M2, R w' F2 M2 v d)

/-- What the abstract state says of a frame and a world. 'w0': the world when the call began; 'F0': the blocks that it was told of then. -/
structure Inv {P : Program} (w0 : W0 P) (F0 F : Nat → Prop) (M : Nat → Option MO) (σ : St) (a : Act) (w : World) : Prop where
  defers : a.defers = []
  size : a.tmps.size = σ.n
  slots : ∀ i, R w F M (a.tmps.getD i undef) (find σ.sl i)
  obs : ∀ id o, findOb σ.ob id = some o → ∃ mo, M id = some mo ∧ ObR w F M w0.nw mo o
  apart : ∀ i j mi mj g, M i = some mi → M j = some mj → mi.g = some g → mj.g = some g → i = j
  mine : ∀ i mi g, M i = some mi → mi.g = some g → ¬F g ∧ w0.nw g ∧ g < w.heap.size
  flt : ∀ g, F g → g < w.heap.size ∧ (F0 g ∨ w0.nw g)
  fle : ∀ g, F0 g ∨ keptVar P g = true → F g
  below : w0.Bel w
  pins : ∀ id o, findOb σ.ob id = some o → o.pin = true → M id = w0.p id

theorem Inv.glb {P : Program} {w0 : W0 P} {F0 F : Nat → Prop} {M : Nat → Option MO} {σ : St} {a : Act} {w : World} (h : Inv w0 F0 F M σ a w) : Glb P w F := fun g hg => by
  obtain ⟨h1, h2, h3⟩ := w0.ok g hg
  exact ⟨h.fle g (.inr hg), h3.of_block (h.below.block g h1 h2)⟩

/-- The code, begun in any frame and world of which the state tells, ends as 'k' says. -/
def S (P : Program) (c : Code) (σ : St) (k : Exit → St → Prop) : Prop :=
  ∀ (w0 : W0 P) F0 F M a w, Inv w0 F0 F M σ a w → c.wp P (fun e a' w' => ∃ σ' F' M', k e σ' ∧ Inv w0 F0 F' M' σ' a' w') a w

/-! ### The operations that make or write memory, and calls -/

def Ty.flat : Ty → Bool
  | .list _ => false
  | .pair a b => a.flat && b.flat
  | _ => true

def St.putOb (σ : St) (d : Nat) (o : Ob) (p : D) : St := ({ σ.kill d with ob := (d, o) :: (σ.kill d).ob }).put (some d) p

def listOf (u : Ty) (ob : List (Nat × Ob)) (d : D) : Option (List u.I) :=
  match dec (.list u) [snap0 ob d] with
  | some (xs, _) => some xs
  | none => none

/-- The zero value is there, of so many cells. -/
def zeroOk (P : Program) (e : TypeId) (n : Nat) : Bool :=
  match P.info? e with
  | some i => match i.zero with
    | some z => Nat.beq z.cells.size n
    | none => false
  | none => false

/-- A text is appended to bytes. -/
def appendS (P : Program) (σ : St) (dst : Option Nat) (t t' : TypeId) (s : D) (ys : List UInt8) (K : St → Prop) : Prop :=
  match dst, elemT P t, isBytesT P t && isStrT P t' with
  | some d, some e, true => bif Nat.beq (sizeT P e) 1 && (zeroOk P e 1 && Nat.beq (bytesT P e) 1) then
      match s with
      | .nils => room ys.length ∧ K (σ.putOb d (.row false e (.int .u8) (bts ys)) (.slo d))
      | .slo i => match findOb σ.ob i, listOf (.int .u8) σ.ob (.slo i) with
        | some (.row false e' _ _), some xs => bif Nat.beq e e' then room (xs.length + ys.length) ∧ K (({ σ.kill i with ob := (i, .row false e (.int .u8) (xs ++ bts ys)) :: (σ.kill i).ob } : St).put (some d) (.slo i)) else False
        | _, _ => False
      | _ => False
    else False
  | _, _, _ => False

def appendD (P : Program) (σ : St) (dst : Option Nat) (t t' : TypeId) (s x : D) (K : St → Prop) : Prop :=
  match dst, elemT P t, elemT P t' with
  | some d, some e, some _ => match tyOf P 6 e with
    | some u => bif Nat.beq (sizeT P e) u.width && (zeroOk P e u.width && (Nat.beq t t' && Nat.ble (bytesT P e) 131072)) then
        match listOf u σ.ob x with
        | some ys => match s with
          | .nils => room ys.length ∧ K (σ.putOb d (.row false e u ys) (.slo d))
          | .slo i => match findOb σ.ob i, listOf u σ.ob (.slo i) with
            | some (.row false e' _ _), some xs => bif Nat.beq e e' then room (xs.length + ys.length) ∧ K (({ σ.kill i with ob := (i, .row false e u (xs ++ ys)) :: (σ.kill i).ob } : St).put (some d) (.slo i)) else False
            | _, _ => False
          | _ => False
        | none => False
      else False
    | none => False
  | _, _, _ => False

/-- The parts of a slice literal, each in its place, none lacking. -/
def decParts (u : Ty) (ob : List (Nat × Ob)) : Nat → List (Nat × D) → Option (List u.I)
  | _, [] => some []
  | i, (j, x) :: r => bif Nat.beq i j then
      match cellsOf x with
      | some cs => match decAll u (snaps0 ob cs) with
        | some y => match decParts u ob (i + 1) r with
          | some ys => some (y :: ys)
          | none => none
        | none => none
      | none => none
    else none
def secs : List (Nat × D) → List D
  | [] => []
  | (_, d) :: r => d :: secs r

def buildSliceD (P : Program) (σ : St) (dst : Option Nat) (t : TypeId) (len : Nat) (parts : List (Nat × D)) (K : St → Prop) : Prop :=
  match dst, elemT P t with
  | some d, some e => match tyOf P 6 e with
    | some u => bif Nat.beq (sizeT P e) u.width && (zeroOk P e u.width && (Nat.beq parts.length len && Nat.ble (len * sizeT P e) 16777216)) then
        match decParts u σ.ob 0 parts with
        | some ys => K ((σ.iceAll (rowsOf (secs parts))).putOb d (.row false e u ys) (.slo d))
        | none => False
      else False
    | none => False
  | _, _ => False

def decMany (u : Ty) : Nat → List D → Option (List u.I)
  | 0, cs => match cs with | [] => some [] | _ => none
  | n + 1, cs => match dec u cs with
    | some (x, r) => match decMany u n r with
      | some xs => some (x :: xs)
      | none => none
    | none => none

/-- A builder's types: its buffer's elements. -/
def bufElem (P : Program) (e : TypeId) : Option TypeId :=
  match P.underlying e with
  | some (.struct fs) => match fs[1]? with
    | some f => match isBytesT P f.type with
      | true => elemT P f.type
      | false => none
    | none => none
  | _ => none
/-- A new builder. -/
def St.newBuf (σ : St) (d : Nat) (e e8 : TypeId) : St :=
  ({ σ.kill (gid d 1) with ob := (gid d 1, .buf e8 []) :: (σ.kill (gid d 1)).ob } : St).putOb d (.cells false e [.slf d, .slo (gid d 1)]) (.ptr d 0)

def allocD (P : Program) (σ : St) (dst : Option Nat) (e : TypeId) (K : St → Prop) : Prop :=
  match dst with
  | some d => match P.underlying e with
    | some (.array n el) => match tyOf P 6 el with
      | some u => match zeroD P e with
        | .agg zs => match goods zs, decMany u n zs with
          | true, some xs => K (σ.putOb d (.arr u xs) (.aptr d))
          | _, _ => False
        | _ => False
      | none => False
    | some _ => match cellsOf (zeroD P e) with
      | some [.pnil, .nils] => match bufElem P e with
        | some e8 => K (σ.newBuf d e e8)
        | none => False
      | some cs => match goods cs with
        | true => K (σ.putOb d (.cells false e cs) (.ptr d 0))
        | false => False
      | none => False
    | none => False
  | none => False

/-- Own rows in it are data from now on. -/
def boxD (σ : St) (dst : Option Nat) (e : TypeId) (x : Operand) (K : St → Prop) : Prop :=
  match dst, cellsOf (ev (σ.iceAll (rowsOf [ev σ x])) x) with
  | some d, some cs => K ((σ.iceAll (rowsOf [ev σ x])).putOb d (.cells false e (ices0 d .bad cs)) (.ptr d 0))
  | _, _ => False

def storeD (P : Program) (σ : St) (t : TypeId) (a x : D) (K : St → Prop) : Prop :=
  match cellsOf x with
  | some new => bif Nat.beq new.length (sizeT P t) && Nat.blt 0 new.length then
      match a with
      | .ptr i o => match findOb σ.ob i with
        | some (.cells p T cs) => bif Nat.ble (o + new.length) cs.length then K { σ with ob := setOb σ.ob i (.cells p T (setFrom cs o new)) } else False
        | _ => False
      | .rptr i ix o => match rowsOf [x] with
        | [] => match findOb σ.ob i with
          | some (.row p e u xs) => inR ix xs.length ∧ bif Nat.ble (o + new.length) u.width then
              match decAll u (setFrom (enc u (atI u xs ix)) o (snaps0 σ.ob new)) with
              | some y => K { σ with ob := setOb σ.ob i (.row p e u (xs.set ix.toNat y)) }
              | none => False
            else False
          | some (.arr u xs) => inR ix xs.length ∧ bif Nat.ble (o + new.length) u.width then
              match decAll u (setFrom (enc u (atI u xs ix)) o (snaps0 σ.ob new)) with
              | some y => K { σ with ob := setOb σ.ob i (.arr u (xs.set ix.toNat y)) }
              | none => False
            else False
          | _ => False
        | _ => False
      | _ => False
    else False
  | none => False

def has (μ : List Nat) (dst : Option Nat) : Bool :=
  match dst with
  | none => false
  | some d => match μ with
    | [] => false
    | e :: r => Nat.beq d e || has r (some d)

/-- The state behind a call: what a result might share with an own row is frozen. -/
def St.after (σ : St) (flat : Bool) (args : List D) : St :=
  match flat with
  | true => σ
  | false => σ.iceAll (rowsOf args)

def hasN (i : Nat) : List Nat → Bool
  | [] => false
  | j :: r => Nat.beq i j || hasN i r

/-- A call that writes into a row. -/
def callR (P : Program) (σ : St) (dst : Option Nat) (g : FuncId) (args : List D) (rts : List TypeId) (K : St → Prop) : Prop :=
  match args with
  | .slo i :: r => match findOb σ.ob i, rowsOf r with
    | some (.row p e u xs), [] => match rts with
      | [] => ∃ ys : List u.I, SpecR P g e u xs (snaps σ.ob r) ys (.tup []) ∧ K (({ σ with ob := setOb σ.ob i (.row p e u ys) } : St).put dst .bad)
      | [t] => match tyOf P 6 t with
        | some v => match v.flat with
          | true => ∃ ys : List u.I, ∃ x : v.I, SpecR P g e u xs (snaps σ.ob r) ys (encV v x) ∧ K (({ σ with ob := setOb σ.ob i (.row p e u ys) } : St).put dst (encV v x))
          | false => False
        | none => False
      | _ => False
    | _, _ => False
  | _ => False

/-- A call that uses up a row. -/
def callT (P : Program) (μ : List Nat) (σ : St) (dst : Option Nat) (g : FuncId) (args : List D) (rts : List TypeId) (K : St → Prop) : Prop :=
  match args with
  | .slo i :: r => match findOb σ.ob i, hasN i (rowsOf r) with
    | some (.row false e u xs), false => match rts with
      | [t] => match tyOf P 6 t with
        | some (.list v) => match has μ dst, dst, elemT P t with
          | true, some d, some e' => ∃ ys : List v.I, SpecT P g e u xs (snaps σ.ob r) (.own e' v ys) ∧ K (((σ.kill i).iceAll (rowsOf r)).putOb d (.row false e' v ys) (.slo d))
          | _, _, _ => False
        | _ => False
      | _ => False
    | _, _ => False
  | _ => False

/-- A field, read off its cells; the cells behind it. -/
def fRead (ob : List (Nat × Ob)) (id j : Nat) : (f : Fd) → List D → Option (f.ty.I × List D)
  | .dat t, cs => dec t cs
  | .row e t, cs => match cs with
    | .slo i :: r => bif Nat.beq i (gid id j) then match findOb ob i with
        | some (.row false e' t' xs) => match decide (e' = e) with
          | true => if h : t' = t then some (castI (congrArg Ty.list h) xs, r) else none
          | false => none
        | _ => none
      else none
    | _ => none
  | .slf, cs => match cs with
    | .slf i :: r => bif Nat.beq i id then some (true, r) else none
    | .ptr i o :: r => bif Nat.beq i id && Nat.beq o 0 then some (true, r) else none
    | .pnil :: r => some (true, r)
    | _ => none
  | .buf e, cs => match cs with
    | .slo i :: r => bif Nat.beq i (gid id j) then match findOb ob i with
        | some (.buf e' xs) => match decide (e' = e) with
          | true => some (xs, r)
          | false => none
        | _ => none
      else none
    | _ => none
def gRead (ob : List (Nat × Ob)) (id : Nat) : Nat → (fs : List Fd) → List D → Option (gTy fs).I
  | _, [], cs => match cs with
    | [] => some true
    | _ => none
  | j, [f], cs => match fRead ob id j f cs with
    | some (x, []) => some x
    | _ => none
  | j, f :: q :: r, cs => match fRead ob id j f cs with
    | some (x, cs') => match gRead ob id (j + 1) (q :: r) cs' with
      | some y => some (x, y)
      | none => none
    | none => none

/-- A nil slice in a field that is to be a row: an own row, without elements. -/
def St.gnil1 (σ : St) (id off j : Nat) (f : Fd) : St :=
  match f with
  | .row e t => match findOb σ.ob id with
    | some (.cells p T cs) => match cs[off]? with
      | some .nils => { σ.kill (gid id j) with ob := setOb ((gid id j, .row false e t []) :: (σ.kill (gid id j)).ob) id (.cells p T ((ices0 (gid id j) .bad cs).set off (.slo (gid id j)))) }
      | _ => σ
    | _ => σ
  | _ => σ
def Fd.wid : Fd → Nat
  | .dat t => t.width
  | _ => 1
def St.gnils (σ : St) (id : Nat) : Nat → Nat → List Fd → St
  | _, _, [] => σ
  | off, j, f :: r => (σ.gnil1 id off j f).gnils id (off + f.wid) (j + 1) r

/-- The fields, by what they hold. -/
def gFds (P : Program) (ob : List (Nat × Ob)) : List Field → List D → Option (List Fd)
  | [], cs => match cs with
    | [] => some []
    | _ => none
  | f :: r, cs => match cs with
    | .pnil :: cs' => (gFds P ob r cs').map (.slf :: ·)
    | .slf _ :: cs' => (gFds P ob r cs').map (.slf :: ·)
    | .nils :: cs' => match elemT P f.type with
      | some e => match tyOf P 6 e with
        | some t => (gFds P ob r cs').map (.row e t :: ·)
        | none => none
      | none => none
    | .slo i :: cs' => match findOb ob i with
      | some (.buf e _) => (gFds P ob r cs').map (.buf e :: ·)
      | some (.row _ e t _) => (gFds P ob r cs').map (.row e t :: ·)
      | _ => none
    | _ => match tyOf P 6 f.type with
      | some t => (gFds P ob r (cs.drop t.width)).map (.dat t :: ·)
      | none => none
def gFdsT (P : Program) (ob : List (Nat × Ob)) (T : TypeId) (cs : List D) : Option (List Fd) :=
  match P.underlying T with
  | some (.struct fs) => gFds P ob fs.toList cs
  | _ => none

def gids (id : Nat) : Nat → List Fd → List Nat
  | _, [] => []
  | j, .row _ _ :: r => gid id j :: gids id (j + 1) r
  | j, .buf _ :: r => gid id j :: gids id (j + 1) r
  | j, _ :: r => gids id (j + 1) r
def St.kills (σ : St) : List Nat → St
  | [] => σ
  | i :: r => (σ.kill i).kills r
/-- The struct holds y from now on. -/
def St.gset (σ : St) (id : Nat) (p : Bool) (T : TypeId) (fs : List Fd) (y : (gTy fs).I) : St :=
  { σ.kills (gids id 0 fs) with ob := gOb id 0 fs y ++ setOb (σ.kills (gids id 0 fs)).ob id (.cells p T (gCs id 0 fs y)) }

/-- A call that writes into a struct behind a pointer. -/
def callG (P : Program) (σ : St) (dst : Option Nat) (g : FuncId) (args : List D) (rts : List TypeId) (K : St → Prop) : Prop :=
  match args with
  | .ptr id 0 :: r => match findOb σ.ob id, rowsOf r with
    | some (.cells _ T cs0), [] => match gFdsT P σ.ob T cs0 with
      | some fs => match findOb (σ.gnils id 0 0 fs).ob id with
        | some (.cells p T' cs) => match decide (T' = T), gRead (σ.gnils id 0 0 fs).ob id 0 fs cs with
          | true, some x => match rts with
            | [] => ∃ y : (gTy fs).I, SpecG P g T fs x (snaps σ.ob r) y (.tup []) ∧ K (((σ.gnils id 0 0 fs).gset id p T fs y).put dst .bad)
            | [t] => match tyOf P 6 t with
              | some v => match v.flat with
                | true => ∃ y : (gTy fs).I, ∃ z : v.I, SpecG P g T fs x (snaps σ.ob r) y (encV v z) ∧ K (((σ.gnils id 0 0 fs).gset id p T fs y).put dst (encV v z))
                | false => False
              | none => ∃ y : (gTy fs).I, SpecG P g T fs x (snaps σ.ob r) y .bad ∧ K (((σ.gnils id 0 0 fs).gset id p T fs y).put dst .bad)
            | [t, t'] => match tyOf P 6 t, tyOf P 6 t' with
              | some v, some v' => match v.flat && v'.flat with
                | true => ∃ y : (gTy fs).I, ∃ z : v.I, ∃ z' : v'.I, SpecG P g T fs x (snaps σ.ob r) y (.tup [encV v z, encV v' z']) ∧ K (((σ.gnils id 0 0 fs).gset id p T fs y).put dst (.tup [encV v z, encV v' z']))
                | false => False
              | _, _ => ∃ y : (gTy fs).I, SpecG P g T fs x (snaps σ.ob r) y .bad ∧ K (((σ.gnils id 0 0 fs).gset id p T fs y).put dst .bad)
            | _ => False
          | _, _ => False
        | _ => False
      | none => False
    | _, _ => False
  | _ => False

/-- A call that uses up such a struct. -/
def callK (P : Program) (σ : St) (dst : Option Nat) (g : FuncId) (args : List D) (rts : List TypeId) (K : St → Prop) : Prop :=
  match args with
  | .ptr id 0 :: r => match findOb σ.ob id, rowsOf r with
    | some (.cells _ T cs0), [] => match gFdsT P σ.ob T cs0 with
      | some fs => match findOb (σ.gnils id 0 0 fs).ob id with
        | some (.cells false T' cs) => match decide (T' = T), gRead (σ.gnils id 0 0 fs).ob id 0 fs cs with
          | true, some x => match rts with
            | [t] => match tyOf P 6 t with
              | some v => match v.flat with
                | true => ∃ z : v.I, SpecK P g T fs x (snaps σ.ob r) (encV v z) ∧ K ((((σ.gnils id 0 0 fs).kills (gids id 0 fs)).kill id).put dst (encV v z))
                | false => False
              | none => False
            | _ => False
          | _, _ => False
        | _ => False
      | none => False
    | _, _ => False
  | _ => False

/-- A row that is the caller's own, or data. -/
def ownIf (b : Bool) (e : TypeId) (t : Ty) (xs : List t.I) : D := match b with | true => .own e t xs | false => .val (.list t) xs

def callP (P : Program) (μ : List Nat) (σ : St) (dst : Option Nat) (g : FuncId) (args : List D) (rts : List TypeId) (K : St → Prop) : Prop :=
  match rts with
  | [] => Spec P g (snaps σ.ob args) (.tup []) ∧ K (σ.put dst .bad)
  | [t] => match tyOf P 6 t with
    | some (.list u) => match has μ dst, dst, elemT P t with
      | true, some d, some e => ∃ xs : List u.I, Spec P g (snaps σ.ob args) (.own e u xs) ∧ K ((σ.after false args).putOb d (.row false e u xs) (.slo d))
      | false, _, _ => ∃ xs : List u.I, Spec P g (snaps σ.ob args) (vl u xs) ∧ K ((σ.after false args).put dst (vl u xs))
      | _, _, _ => False
    | some u => ∃ x : u.I, Spec P g (snaps σ.ob args) (encV u x) ∧ K ((σ.after u.flat args).put dst (encV u x))
    | none => False
  | [t, t'] => match tyOf P 6 t, tyOf P 6 t' with
    | some u, some u' => match has μ dst, dst, elemT P t, u with
      | true, some d, some e, .list v => match has μ (some (3000000 + d)) with
        | false => ∃ xs : List v.I, ∃ y : u'.I, Spec P g (snaps σ.ob args) (.tup [.own e v xs, encV u' y]) ∧ K ((σ.after false args).putOb d (.row false e v xs) (.tup [.slo d, encV u' y]))
        | true => ∃ b : Bool, ∃ xs : List v.I, ∃ y : u'.I, Spec P g (snaps σ.ob args) (.tup [ownIf b e v xs, encV u' y]) ∧
            br b (K ((σ.after false args).putOb d (.row false e v xs) (.tup [.slo d, encV u' y]))) (K ((σ.after false args).put (some d) (.tup [vl v xs, encV u' y])))
      | false, _, _, u => ∃ x : u.I, ∃ y : u'.I, Spec P g (snaps σ.ob args) (.tup [encV u x, encV u' y]) ∧ K ((σ.after (u.flat && u'.flat) args).put dst (.tup [encV u x, encV u' y]))
      | _, _, _, _ => False
    | _, _ => False
  | [t, t', t''] => match tyOf P 6 t, tyOf P 6 t', tyOf P 6 t'' with
    | some u, some u', some u'' => ∃ x : u.I, ∃ y : u'.I, ∃ z : u''.I, Spec P g (snaps σ.ob args) (.tup [encV u x, encV u' y, encV u'' z]) ∧
        K ((σ.after (u.flat && (u'.flat && u''.flat)) args).put dst (.tup [encV u x, encV u' y, encV u'' z]))
    | _, _, _ => False
  | [t, t', t'', t3] => match tyOf P 6 t, tyOf P 6 t', tyOf P 6 t'', tyOf P 6 t3 with
    | some u, some u', some u'', some u3 => ∃ x : u.I, ∃ y : u'.I, ∃ z : u''.I, ∃ q : u3.I, Spec P g (snaps σ.ob args) (.tup [encV u x, encV u' y, encV u'' z, encV u3 q]) ∧
        K ((σ.after false args).put dst (.tup [encV u x, encV u' y, encV u'' z, encV u3 q]))
    | _, _, _, _ => False
  | _ => False

def callD (P : Program) (μ : List Nat) (σ : St) (dst : Option Nat) (g : FuncId) (args : List D) (rts : List TypeId) (K : St → Prop) : Prop :=
  match has μ (some (1000000 + g)), has μ (some (2000000 + g)) with
  | false, false => match has μ (some (4000000 + g)), has μ (some (5000000 + g)) with
    | false, false => callP P μ σ dst g args rts K
    | true, _ => callG P σ dst g args rts K
    | false, true => callK P σ dst g args rts K
  | true, _ => callR P σ dst g args rts K
  | false, true => callT P μ σ dst g args rts K

def rtsOf (P : Program) (g : FuncId) : Option (List TypeId) := match P.funcs[g]? with | some fn => some fn.resultTypes.toList | none => none

/-- All of them are data. -/
def allVal : List D → Bool
  | [] => true
  | .val _ _ :: r => allVal r
  | _ :: _ => false
/-- Data; or a pointer to such, which nobody writes any more. -/
def capOk : List D → Bool
  | [] => true
  | .val _ _ :: r => capOk r
  | .ept cs :: r => allVal cs && capOk r
  | _ :: _ => false
/-- A variable of the call's own, to which a slot points, is written no more. -/
def St.frz2 (σ : St) (t id : Nat) : St :=
  match find σ.sl t, findOb σ.ob id with
  | .ptr i 0, some (.cells false _ cs) => match Nat.beq i id && allVal cs with
    | true => { σ.kill id with sl := (t, .ept cs) :: (σ.kill id).sl }
    | false => σ
  | _, _ => σ
def St.frz1 (σ : St) (x : Operand) : St :=
  match x with
  | .tmp t => match find σ.sl t with
    | .ptr id 0 => match findOb σ.ob id with
      | some (.cells false _ cs) => (σ.iceAll (rowsOf cs)).frz2 t id
      | _ => σ
    | _ => σ
  | _ => σ
def St.frzs (σ : St) : List Operand → St
  | [] => σ
  | x :: r => (σ.frz1 x).frzs r
/-- A function value: what it holds is data, or points to data. -/
def makeD (σ : St) (dst : Option Nat) (g : FuncId) (first : List Operand) (cap : List Operand) (K : St → Prop) : Prop :=
  match first, capOk (snaps (σ.frzs cap).ob (evs (σ.frzs cap) cap)) with
  | [], true => K (((σ.frzs cap).iceAll (rowsOf (evs (σ.frzs cap) cap))).put dst (.clo g (snaps (σ.frzs cap).ob (evs (σ.frzs cap) cap))))
  | _, _ => False
/-- An own row loses its end. -/
def shortD (P : Program) (σ : St) (dst : Option Nat) (t : TypeId) (i : Nat) (lo hi mx : Option D) (K : St → Prop) : Prop :=
  match findOb σ.ob i, elemT P t, lo, hi, mx with
  | some (.row false e u xs), some e', none, some (.val (.int _) n), none => bif Nat.beq e e' && Nat.beq (sizeT P e) u.width then
      (0 ≤ n ∧ n ≤ (xs.length : Int)) ∧ K (({ σ.kill i with ob := (i, .row false e u (xs.take n.toNat)) :: (σ.kill i).ob } : St).put dst (.slo i))
    else False
  | _, _, _, _, _ => False

def wpo (P : Program) (μ : List Nat) (o : Oper) (σ : St) (K : St → Prop) : Prop :=
  match o.op with
  | .alloc e => allocD P σ o.dst e K
  | .box e x => boxD σ o.dst e x K
  | .store t a x => match o.dst with
    | none => storeD P σ t (ev σ a) (ev σ x) K
    | some _ => False
  | .buildSlice t len parts => buildSliceD P σ o.dst t len (evParts σ parts.toList) K
  | .makeFunc (.func g) first cap => makeD σ o.dst g first.toList cap.toList K
  | .slice t x lo hi mx => match ev σ x with
    | .slo i => match has μ (o.dst.map (6000000 + ·)) with
      | true => shortD P σ o.dst t i (lo.map (ev σ)) (hi.map (ev σ)) (mx.map (ev σ)) K
      | false => cutD P t (snap0 σ.ob (.slo i)) (lo.map (ev σ)) (hi.map (ev σ)) (mx.map (ev σ)) fun d => K ((σ.ice i).put o.dst d)
    | d => cutD P t d (lo.map (ev σ)) (hi.map (ev σ)) (mx.map (ev σ)) fun d => K (σ.put o.dst d)
  | .call { callee := .builtin .append, args, argTypes } => match args.toList, argTypes.toList with
    | [s, x], [t, t'] => match ev σ x with
      | .val .str ys => appendS P σ o.dst t t' (ev σ s) ys K
      | d => appendD P σ o.dst t t' (ev σ s) d K
    | _, _ => False
  | .call { callee := .value f, args, .. } => match ev σ f with
    | .fn (.func g) => match rtsOf P g with
      | some rts => callD P μ σ o.dst g (evs σ args.toList) rts K
      | none => False
    | .clo g cs => match rtsOf P g with
      | some rts => callP P μ σ o.dst g (evs σ args.toList ++ cs) rts K
      | none => False
    | _ => False
  | op => wpq P σ op fun d => K (σ.put o.dst d)

/-- The slot that guards an operation. -/
def guardSlot (ops : List Oper) (j : Nat) : Option Nat :=
  match ops[j]? with
  | some o => o.dst
  | none => none

def wpr (P : Program) (μ : List Nat) (ops : List Oper) : List Oper → St → (St → Prop) → Prop
  | [], σ, K => K σ
  | o :: r, σ, K => match o.guard with
    | none => wpo P μ o σ fun σ' => wpr P μ ops r σ' K
    | some (j, want) => match guardSlot ops j with
      | some t => match find σ.sl t with
        | .val .bool x => match want with
          | true => br x (wpo P μ o (σ.lit t true) fun σ' => wpr P μ ops r σ' K) (wpr P μ ops r ((σ.lit t false).put o.dst .und) K)
          | false => br x (wpr P μ ops r ((σ.lit t true).put o.dst .und) K) (wpo P μ o (σ.lit t false) fun σ' => wpr P μ ops r σ' K)
        | .und => wpr P μ ops r (σ.put o.dst .und) K
        | _ => False
      | none => False

/-- The operations that leave the world alone. -/
def stillOp : Op → Bool
  | .move _ | .assign _ | .pick .. | .nilCheck _ | .load .. | .fieldAddr .. | .field .. | .indexAddr .. | .index .. | .slice .. | .binOp .. | .unOp .. | .convert .. | .extract .. | .build .. | .makeFunc .. => true
  | .call { callee := .builtin .len, .. } | .call { callee := .builtin .max, .. } | .call { callee := .builtin .min, .. } => true
  | _ => false
def flatCall (P : Program) (μ : List Nat) : Op → Bool
  | .call { callee := .value (.func g), .. } => match has μ (some (1000000 + g)) || has μ (some (2000000 + g)), has μ (some (4000000 + g)) || has μ (some (5000000 + g)) with
    | false, false => match rtsOf P g with
      | some [t] => match tyOf P 6 t with
        | some u => u.flat
        | none => false
      | _ => false
    | _, _ => false
  | _ => false
def quietOps (P : Program) (μ : List Nat) : List Oper → Bool
  | [] => true
  | o :: r => (stillOp o.op || flatCall P μ o.op) && quietOps P μ r
/-- One value, whatever the world. -/
def pureOp (P : Program) : Op → Bool
  | .move _ => true
  | .assign _ => true
  | .index t _ _ => isStrT P t
  | .binOp .mul _ (.const (.int _ _)) _ _ => true
  | .slice .. => true
  | .build .. => true
  | .extract .. => true
  | .fieldAddr s _ f => match fieldOff P s f with | some _ => true | none => false
  | .indexAddr .. => true
  | _ => false

/-- Places that wait for place k, through others. -/
def blockedBy (md : Region.Mode) (k : Nat) : Nat → List Oper → List Nat → List Nat
  | _, [], acc => acc
  | j, o :: r, acc => blockedBy md k (j + 1) r (bif o.after.toList.any fun e => Region.binds md e && (Nat.beq e.on k || hasN e.on acc) then j :: acc else acc)

def commPair (P : Program) (ops : Array Oper) (ok oj : Oper) : Bool := ok.apart ops oj && ((stillOp ok.op && stillOp oj.op) || (pureOp P ok.op || pureOp P oj.op))
def commRest (P : Program) (ops : Array Oper) (ok : Oper) (bl : List Nat) : Nat → List Oper → Bool
  | _, [] => true
  | j, o :: r => (hasN j bl || commPair P ops ok o) && commRest P ops ok bl (j + 1) r
def commAll (P : Program) (md : Region.Mode) (ops : Array Oper) : Nat → List Oper → Bool
  | _, [] => true
  | k, o :: r => commRest P ops o (blockedBy md k (k + 1) r []) (k + 1) r && commAll P md ops (k + 1) r
def edgesOk (md : Region.Mode) : Nat → List Oper → Bool
  | _, [] => true
  | k, o :: r => (o.after.toList.all fun e => !Region.binds md e || Nat.blt e.on k) && edgesOk md (k + 1) r
def commB (P : Program) (ops : Array Oper) : Bool := Region.noSelect ops && edgesOk .any 0 ops.toList && commAll P .any ops 0 ops.toList

def drawOk (P : Program) (μ : List Nat) (ops : Array Oper) : Bool :=
  (quietOps P μ ops.toList && Region.lexB .any ops) || commB P ops

/-! #### A region whose operations may stand in any order that their edges allow: each order by itself, but that what may change places with all others goes first -/

def rdyL (md : Region.Mode) (done : List Nat) : Nat → List Oper → List Nat
  | _, [] => []
  | j, o :: r => bif !hasN j done && o.after.toList.all (fun e => !Region.binds md e || hasN e.on done) then j :: rdyL md done (j + 1) r else rdyL md done (j + 1) r
def restOk (P : Program) (ops : Array Oper) (done bl : List Nat) (k : Nat) (ok : Oper) : Nat → List Oper → Bool
  | _, [] => true
  | j, o :: r => (hasN j done || (Nat.beq j k || (hasN j bl || commPair P ops ok o))) && restOk P ops done bl k ok (j + 1) r
def firstOk (P : Program) (md : Region.Mode) (ops : Array Oper) (done : List Nat) (k : Nat) : Bool :=
  match ops.toList.drop k with
  | ok :: r => restOk P ops done (blockedBy md k (k + 1) r []) k ok 0 ops.toList
  | [] => false
def pickF (P : Program) (md : Region.Mode) (ops : Array Oper) (done : List Nat) : List Nat → Option Nat
  | [] => none
  | k :: r => bif firstOk P md ops done k then some k else pickF P md ops done r
def allA (step : Nat → Prop) : List Nat → Prop
  | [] => False
  | [i] => step i
  | i :: j :: r => (True → step i) ∧ allA step (j :: r)
def stepA (P : Program) (μ : List Nat) (ops : Array Oper) (k : Nat) (σ : St) (K : St → Prop) : Prop :=
  match ops.toList.drop k with
  | o :: _ => wpr P μ ops.toList [o] σ K
  | [] => False
def wprA (P : Program) (μ : List Nat) (ops : Array Oper) : Nat → List Nat → St → (St → Prop) → Prop
  | 0, done, σ, K => match rdyL .any done 0 ops.toList with
    | [] => K σ
    | _ :: _ => False
  | f + 1, done, σ, K => match rdyL .any done 0 ops.toList with
    | [] => K σ
    | i :: r => match pickF P .any ops done (i :: r) with
      | some k => stepA P μ ops k σ fun σ' => wprA P μ ops f (k :: done) σ' K
      | none => allA (fun k => stepA P μ ops k σ fun σ' => wprA P μ ops f (k :: done) σ' K) (i :: r)
def anyOk (ops : Array Oper) : Bool := Region.noSelect ops && edgesOk .any 0 ops.toList

def shapeOk (u : Ty) (d : D) : Bool :=
  match u, d with
  | .pair _ _, .agg _ => true
  | .pair _ _, _ => false
  | _, .agg _ => false
  | _, _ => true

/-! ### Loops: what their head keeps -/

/-- What a slot holds at a loop's head: data; or an object of the call's own, whose number stays. -/
inductive Sh where
  | val (t : Ty)
  | row (p : Bool) (id : Nat) (e : TypeId) (t : Ty)
  | arr (id : Nat) (t : Ty)
  | cel (p : Bool) (id : Nat) (T : TypeId) (t : Ty)
  | grp (p : Bool) (id : Nat) (T : TypeId) (fs : List Fd)
  | fnc (g : FuncId)
  | als (id : Nat)
  | ept (t : Ty)
  deriving Inhabited

@[reducible] def Sh.ty : Sh → Ty
  | .fnc _ => .bool
  | .val t => t
  | .row _ _ _ t => .list t
  | .arr _ t => .list t
  | .cel _ _ _ t => t
  | .grp _ _ _ fs => gTy fs
  | .als _ => .bool
  | .ept t => t

@[reducible] def shTy : List (Nat × Sh) → Ty
  | [] => .bool
  | (_, s) :: r => match r with
    | [] => s.ty
    | _ :: _ => .pair s.ty (shTy r)

def shD (s : Sh) (x : s.ty.I) : D :=
  match s, x with
  | .fnc g, _ => .fn (.func g)
  | .val t, x => encV t x
  | .row _ id _ _, _ => .slo id
  | .arr id _, _ => .aptr id
  | .cel _ id _ _, _ => .ptr id 0
  | .grp _ id _ _, _ => .ptr id 0
  | .als id, _ => .slo id
  | .ept t, x => .ept (enc t x)
def shO (s : Sh) (x : s.ty.I) : List (Nat × Ob) :=
  match s, x with
  | .fnc _, _ => []
  | .val _, _ => []
  | .row p id e t, x => [(id, .row p e t x)]
  | .arr id t, x => [(id, .arr t x)]
  | .cel p id T t, x => [(id, .cells p T (enc t x))]
  | .grp p id T fs, x => gOb id 0 fs x ++ [(id, .cells p T (gCs id 0 fs x))]
  | .als _, _ => []
  | .ept _, _ => []

def buildSl : (l : List (Nat × Sh)) → (shTy l).I → List (Nat × D)
  | [], _ => []
  | [(i, s)], x => [(i, shD s x)]
  | (i, s) :: q :: r, x => (i, shD s x.1) :: buildSl (q :: r) x.2
def buildOb : (l : List (Nat × Sh)) → (shTy l).I → List (Nat × Ob)
  | [], _ => []
  | [(_, s)], x => shO s x
  | (_, s) :: q :: r, x => shO s x.1 ++ buildOb (q :: r) x.2
def buildSt (n : Nat) (l : List (Nat × Sh)) (x : (shTy l).I) : St := { n := n, sl := buildSl l x, ob := buildOb l x }

def St.nilRow (σ : St) (s : Nat) (sh : Sh) : St :=
  match sh with
  | .row false id e t => match find σ.sl s with
    | .nils => { σ.kill id with ob := (id, .row false e t []) :: (σ.kill id).ob, sl := (s, .slo id) :: (σ.kill id).sl }
    | _ => σ
  | .grp _ id _ fs => σ.gnils id 0 0 fs
  | _ => σ
def St.nilRows (σ : St) : List (Nat × Sh) → St
  | [] => σ
  | (s, sh) :: r => (σ.nilRow s sh).nilRows r

def shIds : List (Nat × Sh) → List Nat
  | [] => []
  | (_, .val _) :: r => shIds r
  | (_, .fnc _) :: r => shIds r
  | (_, .row _ id _ _) :: r => id :: shIds r
  | (_, .arr id _) :: r => id :: shIds r
  | (_, .cel _ id _ _) :: r => id :: shIds r
  | (_, .grp _ id _ fs) :: r => (id :: gids id 0 fs) ++ shIds r
  | (_, .als id) :: r => id :: shIds r
  | (_, .ept _) :: r => shIds r
def dropObs (ob : List (Nat × Ob)) : List Nat → List (Nat × Ob)
  | [] => ob
  | i :: r => dropObs (iceOb i .bad ob) r

def asData (ob : List (Nat × Ob)) (t : Ty) (d : D) : D :=
  match cellsOf d with
  | some cs => match shapeOk t d, decAll t (snaps0 ob cs) with
    | true, some x => encV t x
    | _, _ => .bad
  | none => .bad

/-- 'less': the objects that do not stay. -/
def keepD (less : List (Nat × Ob)) (sl : List (Nat × D)) (s : Nat) (sh : Sh) : D :=
  match sh with
  | .fnc g => match find sl s with
    | .fn (.func k) => bif Nat.beq k g then .fn (.func k) else .bad
    | _ => .bad
  | .val t => asData less t (find sl s)
  | .row _ id _ _ => match find sl s with
    | .slo i => bif Nat.beq i id then .slo i else .bad
    | _ => .bad
  | .arr id _ => match find sl s with
    | .aptr i => bif Nat.beq i id then .aptr i else .bad
    | _ => .bad
  | .cel _ id _ _ => match find sl s with
    | .ptr i o => bif Nat.beq i id then .ptr i o else .bad
    | _ => .bad
  | .grp _ id _ _ => match find sl s with
    | .ptr i o => bif Nat.beq i id then .ptr i o else .bad
    | _ => .bad
  | .als id => match find sl s with
    | .slo i => bif Nat.beq i id then .slo i else .bad
    | _ => .bad
  | .ept t => match find sl s with
    | .ept cs => match decAll t (snaps0 less cs) with
      | some x => .ept (enc t x)
      | none => .bad
    | _ => .bad
def keepSl (less : List (Nat × Ob)) (sl : List (Nat × D)) : List (Nat × Sh) → List (Nat × D)
  | [] => []
  | (s, sh) :: r => (s, keepD less sl s sh) :: keepSl less sl r
def keepO (less ob : List (Nat × Ob)) (sh : Sh) : List (Nat × Ob) :=
  match sh with
  | .fnc _ => []
  | .val _ => []
  | .row _ id _ _ => match findOb ob id with
    | some (.row p e t xs) => [(id, .row p e t xs)]
    | _ => []
  | .arr id _ => match findOb ob id with
    | some (.arr t xs) => [(id, .arr t xs)]
    | _ => []
  | .cel _ id _ t => match findOb ob id with
    | some (.cells p T cs) => match decAll t (snaps0 less cs) with
      | some x => [(id, .cells p T (enc t x))]
      | none => []
    | _ => []
  | .grp _ id _ fs => match findOb ob id with
    | some (.cells p T cs) => match gRead ob id 0 fs cs with
      | some x => gOb id 0 fs x ++ [(id, .cells p T (gCs id 0 fs x))]
      | none => []
    | _ => []
  | .als _ => []
  | .ept _ => []
def keepOb (less ob : List (Nat × Ob)) : List (Nat × Sh) → List (Nat × Ob)
  | [] => []
  | (_, sh) :: r => keepO less ob sh ++ keepOb less ob r

def St.keep (σ : St) (l : List (Nat × Sh)) : St :=
  { n := σ.n, sl := keepSl (dropObs σ.ob (shIds l)) σ.sl l, ob := keepOb (dropObs σ.ob (shIds l)) σ.ob l }
def St.norm (σ : St) (l : List (Nat × Sh)) : St := (σ.nilRows l).keep l

/-- How a loop ends that is left by exit 'id'. -/
def endK (id : Nat) (l : List (Nat × Sh)) (σ0 : St) (e : Exit) (σ : St) : Prop := e = .exit id ∧ σ.norm l = σ0
def retOnly (k : Exit → St → Prop) (e : Exit) (σ : St) : Prop := e = .ret ∧ k .ret σ

/-- The number of the first region: a loop's name. -/
def loopId : Code → Nat
  | .region id _ _ => id
  | .seq a _ => loopId a
  | .block _ b => loopId b
  | .loop b => loopId b
  | .scope b => loopId b
  | _ => 0

def loopEnds (P : Program) (b : Code) (σ : St) (l : List (Nat × Sh)) (k : Exit → St → Prop) : List Nat → Prop
  | [] => S P (.loop b) (σ.norm l) (retOnly k)
  | id :: r => (∃ x : (shTy l).I, S P (.loop b) (σ.norm l) (endK id l (buildSt σ.n l x)) ∧ k (.exit id) (buildSt σ.n l x)) ∨ loopEnds P b σ l k r

def loopAt (tbl : List (Nat × List Nat × List (Nat × Sh))) (i : Nat) : Option (List Nat × List (Nat × Sh)) :=
  match tbl with
  | [] => none
  | (j, x) :: r => bif Nat.beq i j then some x else loopAt r i

/-- How a region ends whose end is told by shapes. -/
def normZ (l : List (Nat × Sh)) (z : St) (e : Exit) (σ : St) : Prop :=
  match e with
  | .normal => σ.norm l = z
  | _ => False
def regOps (id : Nat) : Code → Option (Array Oper)
  | .region i ops _ => bif Nat.beq i id then some ops else none
  | .seq a b => match regOps id a with
    | some o => some o
    | none => regOps id b
  | .cond _ a b => match regOps id a with
    | some o => some o
    | none => regOps id b
  | .block _ b => regOps id b
  | .loop b => regOps id b
  | .scope b => regOps id b
  | _ => none

def wpc (P : Program) (tbl : List (Nat × List Nat × List (Nat × Sh))) (μ : List Nat) : Code → St → (Exit → St → Prop) → Prop
  | .skip, σ, k => k .normal σ
  | .region id ops draw, σ, k => match draw with
    | false => wpr P μ ops.toList ops.toList σ (k .normal)
    | true => bif drawOk P μ ops then wpr P μ ops.toList ops.toList σ (k .normal) else bif anyOk ops then
        (match loopAt tbl (2000000 + id), loopAt tbl (3000000 + id) with
        | some (_, l1), some (_, l2) => ∃ x : (shTy l2).I, S P (.region id ops true) (σ.norm l1) (normZ l2 (buildSt σ.n l2 x)) ∧ k .normal (buildSt σ.n l2 x)
        | _, _ => wprA P μ ops ops.size [] σ (k .normal))
      else False
  | .seq a b, σ, k => wpc P tbl μ a σ fun e σ' => match e with
    | .normal => wpc P tbl μ b σ' k
    | e => k e σ'
  | .cond c a b, σ, k => match ev σ c with
    | .val .bool x => br x (wpc P tbl μ a (σ.litOp c true) k) (wpc P tbl μ b (σ.litOp c false) k)
    | _ => False
  | .block id b, σ, k => wpc P tbl μ b σ fun e σ' => match e with
    | .exit i => bif Nat.beq i id then k .normal σ' else k (.exit i) σ'
    | e => k e σ'
  | .loop b, σ, k => match loopAt tbl (loopId b) with
    | some (ids, l) => loopEnds P b σ l k ids
    | none => False
  | .exit id, σ, k => k (.exit id) σ
  | .label _, σ, k => k .normal σ
  | .scope b, σ, k => wpc P tbl μ b σ fun e σ' => match e with
    | .goto _ => False
    | e => k e σ'
  | .ret, σ, k => k .ret σ
  | _, _, _ => False


/-! ### The results -/

def resRaw (P : Program) (σ : St) : ResultVar → D
  | .tmp t => find σ.sl t
  | .cell a ty => match find σ.sl a with
    | .ptr i 0 => match findOb σ.ob i with
      | some (.cells _ _ cs) => match isAggT P ty with
        | some true => bif Nat.ble (sizeT P ty) cs.length then .agg (cs.take (sizeT P ty)) else .bad
        | some false => match cs with
          | c :: _ => c
          | [] => .bad
        | none => .bad
      | _ => .bad
    | _ => .bad

def resOne (P : Program) (σ : St) (own : Bool) (rv : ResultVar) (t : TypeId) : Option D :=
  match own, resRaw P σ rv with
  | true, .slo i => match findOb σ.ob i with
    | some (.row false e u xs) => some (.own e u xs)
    | _ => none
  | true, .nils => match elemT P t with
    | some e => match tyOf P 6 e with
      | some u => some (.own e u [])
      | none => none
    | none => none
  | _, d => match tyOf P 6 t, cellsOf d with
    | some u, some cs => match shapeOk u d, decAll u (snaps0 σ.ob cs) with
      | true, some x => some (encV u x)
      | _, _ => none
    | _, _ => none

/-- An own row that is handed out is the caller's: nothing else may refer to it. -/
def resLeft (P : Program) (σ : St) (own : Bool) (r : ResultVar) : St :=
  match own, resRaw P σ r with
  | true, .slo i => σ.kill i
  | _, _ => σ

def resAll (P : Program) (σ : St) : Bool → List ResultVar → List TypeId → Option (List D)
  | _, [], [] => some []
  | own, r :: rs, t :: ts => match resOne P σ own r t with
    | some d => match resAll P (resLeft P σ own r) false rs ts with
      | some ds => some (d :: ds)
      | none => none
    | none => none
  | _, _, _ => none

def resD (P : Program) (σ : St) (own : Bool) (fn : Func) : Option D :=
  match resAll P σ own fn.results.toList fn.resultTypes.toList with
  | some [d] => some d
  | some ds => some (.tup ds)
  | none => none

/-- How a body has to end. -/
def retK (P : Program) (fn : Func) (own : Bool) (d : D) (e : Exit) (σ : St) : Prop :=
  match e with
  | .normal => resD P σ own fn = some d
  | .ret => resD P σ own fn = some d
  | _ => False

/-- The arguments' slots. -/
def argSl : Nat → List D → List (Nat × D)
  | _, [] => []
  | i, d :: r => (i, d) :: argSl (i + 1) r

def bodyOf (fn : Func) : Code := match fn.body with | some c => c | none => .refuse ""

end Go.Proofs.Ytnkinnhgahpcoaa.Vc
