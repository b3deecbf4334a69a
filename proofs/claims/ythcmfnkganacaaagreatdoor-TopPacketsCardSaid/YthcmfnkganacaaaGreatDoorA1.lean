/-
  THE CONDITION IS SOUND, FOURTH PART: rows of cells that are written one by one; structs that are built; all quiet operations under one name.
  No condition: the lemmas hold for every program.
-/
import Derived.WalkKit
import Derived.WalkSpells
import Derived.WalkLawsBesides
import Derived.Deep.Quiet
import Derived.StillTail
import Derived.KernelRfl
import Derived.Lib.ItoaNum
import Derived.ChangeKeysEq
import Derived.Lib.Strings
import Derived.Lib.SmallJoins
import Derived.Laws.BytesString
set_option linter.unusedVariables false
set_option linter.unusedSimpArgs false
namespace Go.Proofs.YthcmfnkganacaaaGreatDoor.Vc
section
open Go.RowKit
inductive Ty where
 | int (k:IntKind)
 | bool
 | str
 | list (t:Ty)
 | pair (a b:Ty)
 | flt
 | err
 | nfn
 | fn0 (g:FuncId)
 | clo (g:FuncId) (t:Ty)
 | ref (t:Ty)
 | sum (a b:Ty)
 deriving DecidableEq,Inhabited
@[reducible] def Ty.I:Ty→Type
 | .int _=>Int
 | .bool=>Bool
 | .str=>List UInt8
 | .list t=>List t.I
 | .pair a b=>a.I×b.I
 | .flt=>Nat
 | .err=>Bool
 | .nfn=>Unit
 | .fn0 _=>Unit
 | .clo _ t=>t.I
 | .ref t=>t.I
 | .sum a b=>a.I ⊕ b.I
def Ty.dflt:(t:Ty)→t.I
 | .int _=>(0:Int)
 | .bool=>false
 | .str=>[]
 | .list _=>[]
 | .pair a b=>(a.dflt,b.dflt)
 | .flt=>(0:Nat)
 | .err=>false
 | .nfn=>()
 | .fn0 _=>()
 | .clo _ t=>t.dflt
 | .ref t=>t.dflt
 | .sum a _=> .inl a.dflt
def Ty.width:Ty→Nat
 | .pair a b=>a.width+b.width
 | _=>1
inductive D where
 | bad
 | und
 | val (t:Ty) (x:t.I)
 | fn (f:Fn)
 | nils
 | own (e:TypeId) (t:Ty) (xs:List t.I)
 | agg (cs:List D)
 | tup (xs:List D)
 | slo (id:Nat)
 | ptr (id:Nat) (off:Nat)
 | aptr (id:Nat)
 | rptr (id:Nat) (i:Int) (off:Nat)
 | ept (cs:List D)
 | pnil
 | slf (id:Nat)
 | clo (g:FuncId) (cs:List D)
instance:Inhabited D:=⟨.bad⟩
abbrev vi (n:Int):D:= .val (.int .i64) n
abbrev vu (n:Int):D:= .val (.int .u8) n
abbrev vb (b:Bool):D:= .val .bool b
abbrev vs (l:List UInt8):D:= .val .str l
abbrev vl (t:Ty) (xs:List t.I):D:= .val (.list t) xs
def D.cells:D→List D
 | .agg cs=>cs
 | d=>[d]
def enc:(t:Ty)→t.I→List D
 | .pair a b,x=>enc a x.1++enc b x.2
 | .int k,x=>[.val (.int k) x]
 | .bool,x=>[.val .bool x]
 | .str,x=>[.val .str x]
 | .list t,x=>[.val (.list t) x]
 | .flt,x=>[.val .flt x]
 | .err,x=>[.val .err x]
 | .nfn,x=>[.val .nfn x]
 | .fn0 g,x=>[.val (.fn0 g) x]
 | .clo g t,x=>[.val (.clo g t) x]
 | .ref t,x=>[.val (.ref t) x]
 | .sum a b,x=>[.val (.sum a b) x]
def encV (t:Ty) (x:t.I):D:=
 match t,x with
 | .pair a b,x=> .agg (enc (.pair a b) x)
 | t,x=> .val t x
def qk {t u:Ty} (h:t=u) (x:t.I):u.I:=h ▸ x
def zqS (a b:Ty) (d:D):Option (a.I ⊕ b.I):=
 match d with
 | .val t x=>if h:t= .sum a b then some (qk h x) else none
 | _=>none
def dec:(t:Ty)→List D→Option (t.I×List D)
 | .pair a b,cs=>match dec a cs with
  | some (x,r)=>match dec b r with
   | some (y,r')=>some ((x,y),r')
   | none=>none
  | none=>none
 | .list u,cs=>match cs with
  | .nils::r=>some ([],r)
  | .val t x::r=>if h:t= .list u then some (qk h x,r) else none
  | _=>none
 | .int k,cs=>match cs with
  | .val t x::r=>if h:t= .int k then some (qk h x,r) else none
  | _=>none
 | .bool,cs=>match cs with
  | .val t x::r=>if h:t= .bool then some (qk h x,r) else none
  | _=>none
 | .str,cs=>match cs with
  | .val t x::r=>if h:t= .str then some (qk h x,r) else none
  | _=>none
 | .flt,cs=>match cs with
  | .val t x::r=>if h:t= .flt then some (qk h x,r) else none
  | _=>none
 | .err,cs=>match cs with
  | .val t x::r=>if h:t= .err then some (qk h x,r) else none
  | _=>none
 | .nfn,cs=>match cs with
  | .val t x::r=>if h:t= .nfn then some (qk h x,r) else none
  | _=>none
 | .fn0 g,cs=>match cs with
  | .fn (.func g')::r=>if g' =g then some ((),r) else none
  | .val t x::r=>if h:t= .fn0 g then some (qk h x,r) else none
  | _=>none
 | .clo g u,cs=>match cs with
  | .clo g' caps::r=>if g' =g then match dec u caps with
    | some (x,[])=>some (x,r)
    | _=>none
   else none
  | .val t x::r=>if h:t= .clo g u then some (qk h x,r) else none
  | _=>none
 | .ref u,cs=>match cs with
  | .ept es::r=>match dec u es with
   | some (x,[])=>some (x,r)
   | _=>none
  | .val t x::r=>if h:t= .ref u then some (qk h x,r) else none
  | _=>none
 | .sum a b,cs=>match cs with
  | c::r=>match zqS a b c with
   | some x=>some (x,r)
   | none=>match dec a [c] with
    | some (x,[])=>some (.inl x,r)
    | _=>match dec b [c] with
     | some (y,[])=>some (.inr y,r)
     | _=>none
  | []=>none
def yO (t:Ty) (cs:List D):Option t.I:=
 match dec t cs with
 | some (x,[])=>some x
 | _=>none
def atI (t:Ty) (xs:List t.I) (i:Int):t.I:=xs.getD i.toNat t.dflt
structure MO where
 g:Option Nat
 v:Value
 k:Nat
inductive Ob where
 | cells (p:Bool) (T:TypeId) (cs:List D)
 | arr (t:Ty) (xs:List t.I)
 | row (p:Bool) (e:TypeId) (t:Ty) (xs:List t.I)
 | buf (e:TypeId) (xs:List Int)
instance:Inhabited Ob:=⟨.cells false 0 []⟩
def Ob.pin:Ob→Bool
 | .cells p _ _=>p
 | .arr _ _=>false
 | .row p _ _ _=>p
 | .buf _ _=>false
structure St where
 n:Nat
 sl:List (Nat×D)
 ob:List (Nat×Ob)
 deriving Inhabited
def find (l:List (Nat×D)) (i:Nat):D:=
 match l with
 | []=> .bad
 | (j,d)::r=>bif Nat.beq i j then d else find r i
def zg (l:List (Nat×Ob)) (i:Nat):Option Ob:=
 match l with
 | []=>none
 | (j,d)::r=>bif Nat.beq i j then some d else zg r i
def qo (l:List (Nat×Ob)) (i:Nat) (o:Ob):List (Nat×Ob):=
 match l with
 | []=>[]
 | (j,d)::r=>bif Nat.beq i j then (j,o)::r else (j,d)::qo r i o
def ic0 (id:Nat) (new:D):D→D
 | .slo i=>bif Nat.beq i id then new else .slo i
 | .ptr i o=>bif Nat.beq i id then .bad else .ptr i o
 | .aptr i=>bif Nat.beq i id then .bad else .aptr i
 | .rptr i x o=>bif Nat.beq i id then .bad else .rptr i x o
 | .bad=> .bad
 | .und=> .und
 | .val t x=> .val t x
 | .fn f=> .fn f
 | .nils=> .nils
 | .own e t xs=> .own e t xs
 | .agg _=> .bad
 | .tup _=> .bad
 | .ept cs=> .ept cs
 | .pnil=> .pnil
 | .slf i=>bif Nat.beq i id then .bad else .slf i
 | .clo g cs=> .clo g cs
def zas (id:Nat) (new:D):List D→List D
 | []=>[]
 | d::r=>ic0 id new d::zas id new r
def ic1 (id:Nat) (new:D):D→D
 | .agg cs=> .agg (zas id new cs)
 | d=>ic0 id new d
def zeR (id:Nat) (new:D):List D→List D
 | []=>[]
 | d::r=>ic1 id new d::zeR id new r
def ic2 (id:Nat) (new:D):D→D
 | .tup ys=> .tup (zeR id new ys)
 | d=>ic1 id new d
def zfL (id:Nat) (new:D):List (Nat×D)→List (Nat×D)
 | []=>[]
 | (i,d)::r=>(i,ic2 id new d)::zfL id new r
def qB (id:Nat) (new:D):List (Nat×Ob)→List (Nat×Ob)
 | []=>[]
 | (i,.cells p T cs)::r=>bif Nat.beq i id then qB id new r else (i,.cells p T (zas id new cs))::qB id new r
 | (i,.arr t xs)::r=>bif Nat.beq i id then qB id new r else (i,.arr t xs)::qB id new r
 | (i,.row p e t xs)::r=>bif Nat.beq i id then qB id new r else (i,.row p e t xs)::qB id new r
 | (i,.buf e xs)::r=>bif Nat.beq i id then qB id new r else (i,.buf e xs)::qB id new r
def St.kill (σ:St) (id:Nat):St:={ σ with sl:=zfL id .bad σ.sl,ob:=qB id .bad σ.ob }
def St.ice (σ:St) (id:Nat):St:=
 match zg σ.ob id with
 | some (.row false _ t xs)=>{ σ with sl:=zfL id (.val (.list t) xs) σ.sl,ob:=qB id (.val (.list t) xs) σ.ob }
 | _=>σ
def D.rows0:D→List Nat
 | .slo i=>[i]
 | _=>[]
def rowsOf:List D→List Nat
 | []=>[]
 | .agg cs::r=>cs.flatMap D.rows0++rowsOf r
 | d::r=>d.rows0++rowsOf r
def St.iceAll (σ:St):List Nat→St
 | []=>σ
 | i::r=>(σ.ice i).iceAll r
def yN (ob:List (Nat×Ob)):D→D
 | .slo i=>match zg ob i with
  | some (.row false _ t xs)=> .val (.list t) xs
  | _=> .bad
 | .nils=> .nils
 | .val t x=> .val t x
 | .fn f=> .fn f
 | .clo g cs=> .clo g cs
 | .ept cs=> .ept cs
 | _=> .bad
def zX (ob:List (Nat×Ob)):List D→List D
 | []=>[]
 | d::r=>yN ob d::zX ob r
def snap (ob:List (Nat×Ob)):D→D
 | .agg cs=> .agg (zX ob cs)
 | d=>yN ob d
def zL (ob:List (Nat×Ob)):List D→List D
 | []=>[]
 | d::r=>snap ob d::zL ob r
def zat (P:Program) (t:TypeId):Option Bool:=
 match P.underlying t with
 | some (.struct _) | some (.array _ _)=>some true
 | some _=>some false
 | none=>none
def zu (P:Program) (t:TypeId):Nat:=match P.info? t with | some i=>i.size | none=>0
def zau (P:Program) (t:TypeId):Nat:=match P.info? t with | some i=>i.bytes | none=>0
def pairs:List Ty→Option Ty
 | []=>none
 | [t]=>some t
 | t::r=>match pairs r with | some u=>some (.pair t u) | none=>none
def fnTab (t:TypeId):Option Ty:=if t==171 then some (.sum (.clo 91 (.ref (.pair .bool (.pair (.int .i64) .str)))) (.clo 161 (.pair (.ref .str) (.ref (.list (.pair .str (.pair (.int .i64) (.list (.pair .str (.pair (.int .i64) (.pair .str .str))))))))))) else if t==190 then some (.sum (.clo 287 (.ref (.pair (.int .i64) (.pair (.int .i64) (.pair (.list .str) (.pair .str (.pair (.int .i64) (.pair (.int .i64) .str)))))))) (.sum (.clo 291 (.ref (.int .i64))) (.sum (.clo 296 (.ref (.list (.int .i64)))) (.sum (.clo 298 (.ref (.list (.int .i64)))) (.sum (.clo 299 (.ref (.list (.int .i64)))) (.sum (.fn0 301) (.sum (.fn0 302) (.sum (.fn0 303) (.sum (.clo 425 (.pair (.ref .str) (.ref (.int .i64)))) (.sum (.clo 427 (.pair (.ref .str) (.pair (.ref (.int .i64)) (.ref (.int .i64))))) .nfn)))))))))) else none
def tyOf (P:Program):Nat→TypeId→Option Ty
 | 0,_=>none
 | d+1,t=>match P.underlying t with
  | some (.int k)=>some (.int k)
  | some .bool=>some .bool
  | some .string=>some .str
  | some (.slice e)=>(tyOf P d e).map .list
  | some (.struct fs)=>match fs.toList.mapM fun f=>tyOf P d f.type with | some ts=>pairs ts | none=>none
  | some (.array n e)=>match tyOf P d e with | some u=>pairs (List.replicate n u) | none=>none
  | some (.float .f64)=>some .flt
  | some (.interface _)=>some .err
  | some (.func _ _ _)=>fnTab t
  | _=>none
def br (b:Bool) (A B:Prop):Prop:=match b with | true=>A | false=>B
def room (n:Nat):Prop:=n≤1073741824
def inR (i:Int) (n:Nat):Prop:=0≤i∧i<n
def idxS:Nat→Nat→Int→(Nat→Prop)→Prop
 | 0,_,_,_=>False
 | 1,k,_,K=>K k
 | n+2,k,i,K=>br (decide (i=(k:Int))) (K k) (idxS (n+1) (k+1) i K)
def slc {α:Type} (l:List α) (a b:Int):List α:=(l.drop a.toNat).take (b.toNat - a.toNat)
def qg (l:List UInt8) (i:Int):Int:=((l.getD i.toNat 0).toNat:Int)
def imax (x y:Int):Int:=if y>x then y else x
def imin (x y:Int):Int:=if y<x then y else x
def ofVal:Value→D
 | .int k n=> .val (.int k) n
 | .bool b=> .val .bool b
 | .string s=> .val .str s.data.toList
 | .slice none 0 0=> .nils
 | .pointer none=> .pnil
 | .float .f64 n=> .val .flt n
 | .nilIface=> .val .err false
 | .nilFunc=> .val .nfn ()
 | _=> .bad
def qM:List Value→List D
 | []=>[]
 | v::r=>ofVal v::qM r
def zaP (P:Program) (t:TypeId):D:=
 match P.info? t with
 | some i=>match i.zero with
  | some (.agg cs)=> .agg (qM cs.toList)
  | some v=>ofVal v
  | none=> .bad
 | none=> .bad
def ev (σ:St):Operand→D
 | .tmp t=>find σ.sl t
 | .const v=>ofVal v
 | .func f=> .fn (.func f)
 | .global _=> .bad
def evs (σ:St):List Operand→List D
 | []=>[]
 | x::r=>ev σ x::evs σ r
def St.put (σ:St) (dst:Option Nat) (d:D):St:=
 match dst with
 | none=>σ
 | some t=>{ σ with sl:=(t,bif Nat.blt t σ.n then d else .bad)::σ.sl }
def St.lit (σ:St) (t:Nat) (b:Bool):St:={ σ with sl:=(t,.val .bool b)::σ.sl }
def St.litOp (σ:St) (x:Operand) (b:Bool):St:=
 match x with
 | .tmp t=>σ.lit t b
 | _=>σ
def cellsOf:D→Option (List D)
 | .agg cs=>some cs
 | .val t x=>some [.val t x]
 | .fn f=>some [.fn f]
 | .nils=>some [.nils]
 | .slo i=>some [.slo i]
 | .ptr i o=>some [.ptr i o]
 | .aptr i=>some [.aptr i]
 | .pnil=>some [.pnil]
 | .clo g cs=>some [.clo g cs]
 | _=>none
def setFrom (cs:List D) (off:Nat):List D→List D
 | []=>cs
 | d::r=>setFrom (cs.set off d) (off+1) r
def zb5 (P:Program) (t:TypeId) (cs:List D) (K:D→Prop):Prop:=
 match zat P t with
 | some true=>bif Nat.ble (zu P t) cs.length then K (.agg (cs.take (zu P t))) else False
 | some false=>match cs with
  | c::_=>K c
  | []=>False
 | none=>False
def yP (P:Program) (s:TypeId) (f:Nat):Option (Nat×TypeId):=
 match P.underlying s with
 | some (.struct fs)=>match fs[f]? with
  | some fd=>bif Nat.beq (zu P fd.type) 0 then none else some (fd.offset,fd.type)
  | none=>none
 | _=>none
def zgJ (op:BinOp) (a b:Bool) (K:D→Prop):Prop:=
 match op with
 | .eql=>K (vb (a==b))
 | .neq=>K (vb (!(a==b)))
 | _=>False
def ziM (op:BinOp) (k:IntKind) (a b:Int) (K:D→Prop):Prop:=
 match op with
 | .add=>K (.val (.int k) (k.wrap (a+b)))
 | .sub=>K (.val (.int k) (k.wrap (a - b)))
 | .mul=>K (.val (.int k) (k.wrap (a*b)))
 | .quo=>b≠0∧K (.val (.int k) (k.wrap (a.tdiv b)))
 | .rem=>b≠0∧K (.val (.int k) (a.tmod b))
 | .and=>K (.val (.int k) (k.wrap ((BitVec.ofInt k.bits a &&& BitVec.ofInt k.bits b).toNat:Int)))
 | .or=>K (.val (.int k) (k.wrap ((BitVec.ofInt k.bits a ||| BitVec.ofInt k.bits b).toNat:Int)))
 | .xor=>K (.val (.int k) (k.wrap ((BitVec.ofInt k.bits a ^^^ BitVec.ofInt k.bits b).toNat:Int)))
 | .andNot=>K (.val (.int k) (k.wrap ((BitVec.ofInt k.bits a &&& ~~~BitVec.ofInt k.bits b).toNat:Int)))
 | .eql=>K (vb (a==b))
 | .neq=>K (vb (a !=b))
 | .lss=>K (vb (decide (a<b)))
 | .leq=>K (vb (decide (a≤b)))
 | .gtr=>K (vb (decide (b<a)))
 | .geq=>K (vb (decide (b≤a)))
 | _=>False
def ziN (op:BinOp) (a b:List UInt8) (K:D→Prop):Prop:=
 match op with
 | .add=>room (a.length+b.length)∧K (vs (a++b))
 | .eql=>K (vb (a==b))
 | .neq=>K (vb (!(a==b)))
 | .lss=>K (vb (Op.bytesLess a b))
 | .leq=>K (vb (Op.bytesLess a b||a==b))
 | .gtr=>K (vb (!(Op.bytesLess a b||a==b)))
 | .geq=>K (vb (!(Op.bytesLess a b)))
 | _=>False
def zfM (P:Program) (t:TypeId):Bool:=match P.underlying t with | some .bool=>true | _=>false
def jS (P:Program):List Field→List D→List D→Option Bool
 | [],_,_=>some true
 | f::fs,cs,ds=>match f.name != "_",P.underlying f.type,cs[f.offset]?,ds[f.offset]? with
  | true,some .bool,some (.val .bool a),some (.val .bool b)=>match jS P fs cs ds with
   | some r=>some (a==b&&r)
   | none=>none
  | true,some (.int _),some (.val (.int k) a),some (.val (.int k') b)=>match decide (k=k'),jS P fs cs ds with
   | true,some r=>some (a==b&&r)
   | _,_=>none
  | true,some .string,some (.val .str a),some (.val .str b)=>match jS P fs cs ds with
   | some r=>some (a==b&&r)
   | none=>none
  | _,_,_,_=>none
def aggD (P:Program) (op:BinOp) (t:TypeId) (cs ds:List D) (K:D→Prop):Prop:=
 match P.underlying t with
 | some (.struct fs)=>match P.stoodInHeld t,P.eqGuardType P.depth t,jS P fs.toList cs ds with
  | false,false,some r=>match op with
   | .eql=>K (vb r)
   | .neq=>K (vb (!r))
   | _=>False
  | _,_,_=>False
 | _=>False
def binD (P:Program) (op:BinOp) (t:TypeId) (x y:D) (K:D→Prop):Prop:=
 match x,y with
 | .val (.int k) a,.val (.int k') b=>match op with
  | .shl=>0≤b∧K (.val (.int k) (k.wrap (a*2 ^ (min b.toNat k.bits))))
  | .shr=>0≤b∧K (.val (.int k) (a.fdiv (2 ^ (min b.toNat k.bits))))
  | op=>match decide (k=k') with
   | true=>ziM op k a b K
   | false=>False
 | .val .str a,.val .str b=>ziN op a b K
 | .val .bool a,.val .bool b=>match zfM P t with
  | true=>zgJ op a b K
  | false=>False
 | .agg cs,.agg ds=>aggD P op t cs ds K
 | _,_=>False
def zbZ:Operand→Bool
 | .const (.slice none 0 0)=>true
 | _=>false
def zaQ:Operand→Bool
 | .const .nilIface=>true
 | _=>false
def errD (P:Program) (op:BinOp) (t:TypeId) (x:D) (K:D→Prop):Prop:=
 match x,P.underlying t with
 | .val .err b,some (.interface _)=>match op with
  | .eql=>K (vb (!b))
  | .neq=>K (vb b)
  | _=>False
 | _,_=>False
def unD (op:UnOp) (x:D) (K:D→Prop):Prop:=
 match op,x with
 | .not,.val .bool b=>K (vb (!b))
 | .neg,.val (.int k) n=>K (.val (.int k) (k.wrap (0 - n)))
 | _,_=>False
def optI (d:Option D) (dflt:Int):Option Int:=
 match d with
 | none=>some dflt
 | some (.val (.int _) n)=>some n
 | _=>none
def ql (P:Program) (t:TypeId):Bool:=match P.underlying t with | some .string=>true | _=>false
def yC (P:Program) (t:TypeId):Option TypeId:=match P.underlying t with | some (.slice e)=>some e | _=>none
def nilD (P:Program) (op:BinOp) (t:TypeId) (x:D) (K:D→Prop):Prop:=
 match x with
 | .val (.list _) xs=>match yC P t with
  | some _=>match op with
   | .eql=>(xs=[]→K (vb true))∧K (vb false)
   | .neq=>(xs=[]→K (vb false))∧K (vb true)
   | _=>False
  | none=>False
 | _=>False
def cutD (P:Program) (t:TypeId) (x:D) (lo hi mx:Option D) (K:D→Prop):Prop:=
 match mx with
 | none=>match x with
  | .val .str l=>match ql P t with
   | true=>match optI lo 0,optI hi l.length with
    | some a,some b=>(0≤a∧a≤b∧b≤(l.length:Int))∧K (vs (slc l a b))
    | _,_=>False
   | false=>False
  | .val (.list u) l=>match yC P t with
   | some e=>bif Nat.beq (zu P e) u.width then match optI lo 0,optI hi l.length with
     | some a,some b=>(0≤a∧a≤b∧b≤(l.length:Int))∧K (.val (.list u) (slc l a b))
     | _,_=>False
    else False
   | none=>False
  | _=>False
 | some (.val (.int _) m)=>match x,optI lo 0,optI hi 1 with
  | .val (.list _) _,some a,some b=>match yC P t with
   | some e=>bif Nat.blt 0 (zu P e) then (a=0∧b=0∧m=0)∧K .nils else False
   | none=>False
  | _,_,_=>False
 | _=>False
def lenD (P:Program) (ob:List (Nat×Ob)) (t:TypeId) (x:D) (K:D→Prop):Prop:=
 match x with
 | .val .str l=>match ql P t with | true=>K (vi l.length) | false=>False
 | .val (.list _) l=>match yC P t with | some _=>K (vi l.length) | none=>False
 | .nils=>match yC P t with | some _=>K (vi 0) | none=>False
 | .slo i=>match yC P t with
  | some _=>match zg ob i with
   | some (.row _ _ _ xs)=>K (vi xs.length)
   | _=>False
  | none=>False
 | _=>False
def strOf (xs:List Int):List UInt8:=xs.map fun n=>UInt8.ofNat n.toNat
def bts (l:List UInt8):List Int:=l.map fun b=>(b.toNat:Int)
def qp (P:Program) (t:TypeId):Bool:=
 match P.underlying t with
 | some (.slice e)=>match P.underlying e with
  | some (.int .u8)=>true
  | _=>false
 | _=>false
def zfN (P:Program) (src dst:TypeId) (x:D) (K:D→Prop):Prop:=
 match qp P src,ql P dst with
 | true,true=>match x with
  | .val (.list (.int .u8)) xs=>K (vs (strOf xs))
  | .nils=>K (vs [])
  | _=>False
 | _,_=>False
def ziO (P:Program) (src dst:TypeId) (x:D) (K:D→Prop):Prop:=
 match P.underlying src,P.underlying dst,x with
 | some (.int _),some (.int k),.val (.int _) n=>K (.val (.int k) (k.wrap n))
 | some .string,some .string,.val .str l=>K (.val .str l)
 | _,_,_=>False
def zdg (P:Program) (fs:Array Field):List (Nat×D)→List D→Option (List D)
 | [],cs=>some cs
 | (i,x)::r,cs=>match fs[i]?,cellsOf x with
  | some fd,some new=>bif Nat.beq new.length (zu P fd.type)&&Nat.ble (fd.offset+new.length) cs.length then zdg P fs r (setFrom cs fd.offset new) else none
  | _,_=>none
def zco:List D→Bool
 | []=>true
 | .bad::_=>false
 | _::r=>zco r
def zaR (P:Program):List Field→Bool
 | []=>true
 | f::r=>Nat.blt 0 (zu P f.type)&&zaR P r
def zW (σ:St):List (Nat×Operand)→List (Nat×D)
 | []=>[]
 | (i,x)::r=>(i,ev σ x)::zW σ r
def wpq (P:Program) (σ:St) (op:Op) (K:D→Prop):Prop:=
 match op with
 | .move x=>K (ev σ x)
 | .assign x=>K (ev σ x)
 | .pick c a b=>match ev σ c with
  | .val .bool x=>br x (K (ev σ a)) (K (ev σ b))
  | _=>False
 | .nilCheck x=>match ev σ x with
  | .ptr i o=>K (.ptr i o)
  | .aptr i=>K (.aptr i)
  | .rptr i x o=>K (.rptr i x o)
  | .ept cs=>K (.ept cs)
  | _=>False
 | .load t x=>match ev σ x with
  | .ept cs=>zb5 P t cs K
  | .ptr i o=>match zg σ.ob i with
   | some (.cells _ _ cs)=>zb5 P t (cs.drop o) K
   | _=>False
  | .rptr i x o=>match zg σ.ob i with
   | some (.row _ _ u xs)=>inR x xs.length∧zb5 P t ((enc u (atI u xs x)).drop o) K
   | some (.arr u xs)=>inR x xs.length∧zb5 P t ((enc u (atI u xs x)).drop o) K
   | _=>False
  | _=>False
 | .fieldAddr s x f=>match yP P s f with
  | some (o,_)=>match ev σ x with
   | .ept cs=>K (.ept (cs.drop o))
   | .ptr i o' =>K (.ptr i (o' +o))
   | .rptr i x o' =>K (.rptr i x (o' +o))
   | _=>False
  | none=>False
 | .field s x f=>match yP P s f with
  | some (o,t)=>match ev σ x with
   | .agg cs=>match zat P t with
    | some true=>bif Nat.ble (o+zu P t) cs.length then K (.agg ((cs.drop o).take (zu P t))) else False
    | some false=>match cs.drop o with
     | c::_=>K c
     | []=>False
    | none=>False
   | _=>False
  | none=>False
 | .indexAddr t x ix=>match ev σ ix with
  | .val (.int _) i=>match P.underlying t,ev σ x with
   | some (.slice e),.val (.list u) xs=>inR i xs.length∧bif Nat.beq (zu P e) u.width then K (.ept (enc u (atI u xs i))) else False
   | some (.slice e),.slo id=>match zg σ.ob id with
    | some (.row _ _ u xs)=>inR i xs.length∧bif Nat.beq (zu P e) u.width then K (.rptr id i 0) else False
    | _=>False
   | some (.array n e),.aptr id=>match zg σ.ob id with
    | some (.arr u xs)=>inR i n∧xs.length=n∧bif Nat.beq (zu P e) u.width then K (.rptr id i 0) else False
    | _=>False
   | some (.array n e),.ptr id off=>bif Nat.blt 0 (zu P e) then inR i n∧idxS n 0 i fun k=>K (.ptr id (off+k*zu P e)) else False
   | _,_=>False
  | _=>False
 | .index t x ix=>match ql P t,ev σ x,ev σ ix with
  | true,.val .str l,.val (.int _) i=>inR i l.length∧K (vu (qg l i))
  | _,_,_=>False
 | .slice t x lo hi mx=>cutD P t (ev σ x) (lo.map (ev σ)) (hi.map (ev σ)) (mx.map (ev σ)) K
 | .binOp op t x y _=>match zbZ y with
  | true=>nilD P op t (ev σ x) K
  | false=>match zaQ y with
   | true=>errD P op t (ev σ x) K
   | false=>binD P op t (ev σ x) (ev σ y) K
 | .unOp op _ x=>unD op (ev σ x) K
 | .convert src dst x=>match ev σ x with
  | .slo i=>zfN P src dst (yN σ.ob (.slo i)) K
  | .nils=>zfN P src dst .nils K
  | .val (.list u) xs=>zfN P src dst (.val (.list u) xs) K
  | d=>ziO P src dst d K
 | .extract x i=>match ev σ x with
  | .tup xs=>match xs[i]? with
   | some d=>K d
   | none=>False
  | _=>False
 | .build t parts=>match P.underlying t with
  | some (.struct fs)=>match zaR P fs.toList,zaP P t with
   | true,.agg zs=>match zco zs,zdg P fs (zW σ parts.toList) zs with
    | true,some cs=>K (.agg cs)
    | _,_=>False
   | _,_=>False
  | _=>False
 | .call { callee:= .builtin .len,args,argTypes }=>match args.toList,argTypes.toList with
  | [x],[t]=>lenD P σ.ob t (ev σ x) K
  | _,_=>False
 | .call { callee:= .builtin .max,args,.. }=>match evs σ args.toList with
  | [.val (.int k) a,.val (.int k') b]=>match decide (k=k') with
   | true=>K (.val (.int k) (imax a b))
   | false=>False
  | _=>False
 | .call { callee:= .builtin .min,args,.. }=>match evs σ args.toList with
  | [.val (.int k) a,.val (.int k') b]=>match decide (k=k') with
   | true=>K (.val (.int k) (imin a b))
   | false=>False
  | _=>False
 | _=>False
def Reads (w:World) (a:Addr) (us:List Value):Prop:= ∀ (j:Nat) u,us[j]? =some u→w.cell? (a.add j)=some u∧u.oneCell' =true
def errV (v:Value) (b:Bool):Prop:=(b=false∧v= .nilIface)∨(b=true∧ ∃ t u,v= .iface t u)
def RV (w:World) (F:Nat→Prop):(t:Ty)→t.I→List Value→Prop
 | .int k,n,cs=>cs=[.int k n]
 | .bool,b,cs=>cs=[.bool b]
 | .str,l,cs=> ∃ s:ByteArray,cs=[.string s]∧s.data.toList=l
 | .pair a b,x,cs=> ∃ c1 c2,cs=c1++c2∧RV w F a x.1 c1∧RV w F b x.2 c2
 | .list t,xs,cs=> ∃ A c,cs=[.slice A xs.length c]∧xs.length≤c∧c≤maxLen∧
   ∀ (i:Nat) x,xs[i]? =some x→ ∃ a us,A=some a∧F a.block∧RV w F t x us∧Reads w (a.add (i*t.width)) us
 | .flt,n,cs=>cs=[.float .f64 n]
 | .err,b,cs=> ∃ v,cs=[v]∧errV v b
 | .nfn,_,cs=>cs=[.nilFunc]
 | .fn0 g,_,cs=>cs=[.func (.func g) #[] #[]]
 | .clo g t,x,cs=> ∃ us:Array Value,cs=[.func (.func g) #[] us]∧RV w F t x us.toList
 | .ref t,x,cs=> ∃ a us,cs=[.pointer (some a)]∧F a.block∧RV w F t x us∧Reads w a us
 | .sum a b,x,cs=>cs.length=1∧match x with
  | .inl y=>RV w F a y cs
  | .inr y=>RV w F b y cs
def RE0 (w:World) (F:Nat→Prop) (u:Value):D→Prop
 | .val t x=>RV w F t x [u]
 | .nils=> ∃ A,u= .slice A 0 0
 | _=>False
def RE (w:World) (F:Nat→Prop) (u:Value):D→Prop
 | .val t x=>RV w F t x [u]
 | .nils=> ∃ A,u= .slice A 0 0
 | .ept cs=> ∃ a us,u= .pointer (some a)∧F a.block∧Reads w a us∧us.length=cs.length∧ ∀ (j:Nat) c,cs[j]? =some c→ ∃ u',us[j]? =some u' ∧RE0 w F u' c
 | _=>False
def R0 (w:World) (F:Nat→Prop) (M:Nat→Option MO) (v:Value):D→Prop
 | .bad=>True
 | .und=>v=undef
 | .val t x=>RV w F t x [v]
 | .fn f=>v= .func f #[] #[]
 | .nils=> ∃ A,v= .slice A 0 0
 | .pnil=>v= .pointer none
 | .slf id=>v= .pointer none∨ ∃ mo g,M id=some mo∧mo.g=some g∧v= .pointer (some ⟨g,0,none⟩)
 | .clo g cs=> ∃ us,v= .func (.func g) #[] us∧us.size=cs.length∧ ∀ (j:Nat) c,cs[j]? =some c→ ∃ u,us[j]? =some u∧u.oneCell' =true∧RE w F u c
 | .slo id=> ∃ mo,M id=some mo∧v=mo.v∧v.oneCell' =true
 | .ptr id off=> ∃ mo g,M id=some mo∧mo.g=some g∧v= .pointer (some ⟨g,off,none⟩)
 | .aptr id=> ∃ mo g,M id=some mo∧mo.g=some g∧v= .pointer (some ⟨g,0,none⟩)
 | .rptr id i off=> ∃ mo g,M id=some mo∧mo.g=some g∧v= .pointer (some ⟨g,i.toNat*mo.k+off,none⟩)
 | .ept cs=> ∃ a us,v= .pointer (some a)∧F a.block∧Reads w a us∧us.length=cs.length∧ ∀ (j:Nat) c,cs[j]? =some c→ ∃ u,us[j]? =some u∧RE w F u c
 | .own _ _ _=>False
 | .agg _=>False
 | .tup _=>False
def R1 (w:World) (F:Nat→Prop) (M:Nat→Option MO) (v:Value):D→Prop
 | .agg cs=> ∃ vs,v= .agg vs∧vs.size=cs.length∧ ∀ (j:Nat) c,cs[j]? =some c→ ∃ u,vs[j]? =some u∧u.oneCell' =true∧R0 w F M u c
 | d=>R0 w F M v d
def R (w:World) (F:Nat→Prop) (M:Nat→Option MO) (v:Value):D→Prop
 | .tup xs=> ∃ vs,v= .tuple vs∧vs.size=xs.length∧ ∀ (j:Nat) d,xs[j]? =some d→ ∃ u,vs[j]? =some u∧R1 w F M u d
 | d=>R1 w F M v d
def Holds (w:World) (F:Nat→Prop) (t:Ty) (xs:List t.I) (us:List Value):Prop:=
 ∀ (i:Nat) x,xs[i]? =some x→RV w F t x ((us.drop (i*t.width)).take t.width)
def OwnR (w:World) (F:Nat→Prop) (B:Nat→Prop) (G:Option Nat) (v:Value) (e:TypeId) (t:Ty) (xs:List t.I):Prop:=
 (xs=[]∧G=none∧ ∃ A,v= .slice A 0 0)∨
 ∃ g cap us,G=some g∧B g∧v= .slice (some ⟨g,0,none⟩) xs.length cap∧w.heap[g]? =some (.cells us e (0,0))∧xs.length≤cap∧cap≤maxLen∧
  us.size=cap*t.width∧Holds w F t xs us.toList
def ObR (w:World) (F:Nat→Prop) (M:Nat→Option MO) (B:Nat→Prop) (mo:MO):Ob→Prop
 | .cells _ t cs=> ∃ g us,mo.g=some g∧w.heap[g]? =some (.cells us t (0,0))∧us.size=cs.length∧ ∀ (j:Nat) c,cs[j]? =some c→ ∃ u,us[j]? =some u∧u.oneCell' =true∧R0 w F M u c
 | .arr t xs=> ∃ g us ty,mo.g=some g∧mo.k=t.width∧w.heap[g]? =some (.cells us ty (0,0))∧us.size=xs.length*t.width∧Holds w F t xs us.toList
 | .row _ e t xs=>mo.k=t.width∧OwnR w F B mo.g mo.v e t xs
 | .buf e xs=>mo.k=1∧OwnR w F B mo.g mo.v e (.int .u8) xs∧(mo.g=none→mo.v= .slice none 0 0)
def noM:Nat→Option MO:=fun _=>none
inductive Fd where
 | dat (t:Ty)
 | row (e:TypeId) (t:Ty)
 | slf
 | buf (e:TypeId)
 deriving Inhabited
@[reducible] def Fd.ty:Fd→Ty
 | .dat t=>t
 | .row _ t=> .list t
 | .slf=> .bool
 | .buf _=> .list (.int .u8)
@[reducible] def gTy:List Fd→Ty
 | []=> .bool
 | f::r=>match r with
  | []=>f.ty
  | _::_=> .pair f.ty (gTy r)
def gid (id j:Nat):Nat:=1000000+(64*id+j)
def fCs (id j:Nat) (f:Fd) (x:f.ty.I):List D:=
 match f,x with
 | .dat t,x=>enc t x
 | .row _ _,_=>[.slo (gid id j)]
 | .slf,_=>[.slf id]
 | .buf _,_=>[.slo (gid id j)]
def fOb (id j:Nat) (f:Fd) (x:f.ty.I):List (Nat×Ob):=
 match f,x with
 | .row e t,x=>[(gid id j,.row false e t x)]
 | .buf e,x=>[(gid id j,.buf e x)]
 | _,_=>[]
def gCs (id:Nat):Nat→(fs:List Fd)→(gTy fs).I→List D
 | _,[],_=>[]
 | j,[f],x=>fCs id j f x
 | j,f::q::r,x=>fCs id j f x.1++gCs id (j+1) (q::r) x.2
def gOb (id:Nat):Nat→(fs:List Fd)→(gTy fs).I→List (Nat×Ob)
 | _,[],_=>[]
 | j,[f],x=>fOb id j f x
 | j,f::q::r,x=>fOb id j f x.1++gOb id (j+1) (q::r) x.2
def FdR (w:World) (F:Nat→Prop) (B:Nat→Prop) (b:Nat) (m:Option MO) (f:Fd) (x:f.ty.I) (us:List Value):Prop:=
 match f,x with
 | .dat t,x=>RV w F t x us
 | .row e t,x=> ∃ mo,m=some mo∧us=[mo.v]∧mo.k=t.width∧OwnR w F B mo.g mo.v e t x
 | .slf,_=>us=[.pointer none]∨us=[.pointer (some ⟨b,0,none⟩)]
 | .buf e,x=> ∃ mo,m=some mo∧us=[mo.v]∧mo.k=1∧OwnR w F B mo.g mo.v e (.int .u8) x∧(mo.g=none→mo.v= .slice none 0 0)
def GrsR (w:World) (F:Nat→Prop) (B:Nat→Prop) (b:Nat) (ms:Nat→Option MO):Nat→(fs:List Fd)→(gTy fs).I→List Value→Prop
 | _,[],_,us=>us=[]
 | j,[f],x,us=>FdR w F B b (ms j) f x us
 | j,f::q::r,x,us=> ∃ u1 u2,us=u1++u2∧FdR w F B b (ms j) f x.1 u1∧GrsR w F B b ms (j+1) (q::r) x.2 u2
structure GrR (w:World) (F:Nat→Prop) (B:Nat→Prop) (b:Nat) (T:TypeId) (fs:List Fd) (x:(gTy fs).I) (ms:Nat→Option MO):Prop where
 cells: ∃ us,w.heap[b]? =some (.cells us T (0,0))∧GrsR w F B b ms 0 fs x us.toList
 apart: ∀ i j mi mj g,ms i=some mi→ms j=some mj→mi.g=some g→mj.g=some g→i=j
 off: ∀ i mi,ms i=some mi→mi.g≠some b
def RR0 (w:World) (F:Nat→Prop) (B:Nat→Prop) (G:Option Nat) (v:Value):D→Prop
 | .own e t xs=>OwnR w F B G v e t xs
 | d=>R1 w F noM v d
def RR (w:World) (F:Nat→Prop) (B:Nat→Prop) (G:Option Nat) (v:Value):D→Prop
 | .tup xs=> ∃ vs,v= .tuple vs∧vs.size=xs.length∧ ∀ (j:Nat) d,xs[j]? =some d→ ∃ u,vs[j]? =some u∧RR0 w F B G u d
 | d=>RR0 w F B G v d
def zcp (P:Program) (g:Nat):Bool:=
 match P.globals[g]? with
 | some v=>match P.underlying v.type with
  | some (.int .i64)=>true
  | _=>false
 | none=>false
def tabVar (P:Program) (g:Nat):Option (List Int):=
 match P.globals[g]? with
 | some v=>if v.name= "internal/strconv.uint64pow10" then some Lib.pow10Tab else none
 | none=>none
def errVar (P:Program) (g:Nat):Bool:=
 match P.globals[g]? with
 | some v=>v.name== "strconv.ErrSyntax" ||v.name== "strconv.ErrRange"
 | none=>false
def yQ (P:Program) (g:Nat):Bool:=zcp P g||((tabVar P g).isSome||errVar P g)
def zdT (P:Program) (w:World) (g:Nat):Prop:=
 (zcp P g=true→ ∃ m:Int,w.cell? ⟨g,0,none⟩=some (.int .i64 m))∧(∀ zs,tabVar P g=some zs→ ∃ e fr,w.heap[g]? =some (.cells (zs.map fun z=>Value.int .u64 z).toArray e fr))∧
  (errVar P g=true→ ∃ tp p e fr,w.heap[g]? =some (.cells #[.iface tp p] e fr))
theorem zdT.of_block {P:Program} {w w' :World} {g:Nat} (h:zdT P w g) (hb:w'.heap[g]? =w.heap[g]?):zdT P w' g:=
 ⟨fun hg=>by obtain ⟨m,hm⟩:=h.1 hg;exact ⟨m,by rw [World.cell?_of_block hb];exact hm⟩,fun zs hz=>by rw [hb];exact h.2.1 zs hz,fun hg=>by rw [hb];exact h.2.2 hg⟩
def Glb (P:Program) (w:World) (F:Nat→Prop):Prop:= ∀ g,yQ P g=true→F g∧zdT P w g
theorem Glb.imp {P:Program} {w:World} {F F' :Nat→Prop} (h:Glb P w F) (hF: ∀ g,F g→F' g):Glb P w F' :=fun g hg=>⟨hF g (h g hg).1,(h g hg).2⟩
theorem Glb.int {P:Program} {w:World} {F:Nat→Prop} (h:Glb P w F) {g:Nat} (hg:zcp P g=true):F g∧ ∃ m:Int,w.cell? ⟨g,0,none⟩=some (.int .i64 m):=
 ⟨(h g (by simp [yQ,hg])).1,(h g (by simp [yQ,hg])).2.1 hg⟩
theorem Glb.tab {P:Program} {w:World} {F:Nat→Prop} (h:Glb P w F) {g:Nat} {zs:List Int} (hg:tabVar P g=some zs):F g∧ ∃ e fr,w.heap[g]? =some (.cells (zs.map fun z=>Value.int .u64 z).toArray e fr):=
 ⟨(h g (by simp [yQ,hg])).1,(h g (by simp [yQ,hg])).2.2.1 zs hg⟩
theorem Glb.err {P:Program} {w:World} {F:Nat→Prop} (h:Glb P w F) {g:Nat} (hg:errVar P g=true): ∃ tp p e fr,w.heap[g]? =some (.cells #[.iface tp p] e fr):=
 (h g (by simp [yQ,hg])).2.2.2 hg
def Spec (P:Program) (f:FuncId) (ds:List D) (d:D):Prop:=
 (∀ (args:Array Value) (w:World),(callFunc f args).run P w= .ok (.enter f args) w)∧
 ∀ (w:World) (vs:Array Value) (F:Nat→Prop),(∀ g,F g→g<w.heap.size)→Glb P w F→vs.size=ds.length→
  (∀ (i:Nat) d',ds[i]? =some d' → ∃ v,vs[i]? =some v∧R1 w F noM v d')→
  Calls P f vs w fun e w' => ∃ v F' G,e= .returned v∧Below w.heap.size w w' ∧(∀ g,F g→F' g)∧(∀ g,F' g→g<w'.heap.size∧(F g∨w.heap.size≤g))∧
   (∀ g,G=some g→w.heap.size≤g∧ ¬F' g∧g<w'.heap.size)∧RR w' F' (fun g=>w.heap.size≤g) G v d
def zcq (P:Program) (f:FuncId) (e:TypeId) (t:Ty) (xs:List t.I) (ds:List D) (ys:List t.I) (d:D):Prop:=
 (∀ (args:Array Value) (w:World),(callFunc f args).run P w= .ok (.enter f args) w)∧
 ∀ (w:World) (v0:Value) (vs:Array Value) (F:Nat→Prop) (G0:Option Nat),(∀ g,F g→g<w.heap.size)→Glb P w F→OwnR w F (fun g=>g<w.heap.size∧ ¬F g) G0 v0 e t xs→vs.size=ds.length→
  (∀ (i:Nat) d',ds[i]? =some d' → ∃ v,vs[i]? =some v∧R1 w F noM v d')→
  Calls P f (#[v0]++vs) w fun en w' => ∃ v F',en= .returned v∧w.grownBy w' G0∧(∀ g,F g→F' g)∧(∀ g,F' g→g<w'.heap.size∧(F g∨w.heap.size≤g))∧(∀ F2 M2,R w' F2 M2 v d)∧
   OwnR w' F' (fun _=>True) G0 v0 e t ys
def jT (P:Program) (f:FuncId) (e:TypeId) (t:Ty) (xs:List t.I) (ds:List D) (d:D):Prop:=
 (∀ (args:Array Value) (w:World),(callFunc f args).run P w= .ok (.enter f args) w)∧
 ∀ (w:World) (v0:Value) (vs:Array Value) (F:Nat→Prop) (G0:Option Nat),(∀ g,F g→g<w.heap.size)→Glb P w F→OwnR w F (fun g=>g<w.heap.size∧ ¬F g) G0 v0 e t xs→vs.size=ds.length→
  (∀ (i:Nat) d',ds[i]? =some d' → ∃ v,vs[i]? =some v∧R1 w F noM v d')→
  Calls P f (#[v0]++vs) w fun en w' => ∃ v F' G,en= .returned v∧w.grownBy w' G0∧(∀ g,F g→F' g)∧(∀ g,F' g→g<w'.heap.size∧(F g∨w.heap.size≤g))∧
   (∀ g,G=some g→(w.heap.size≤g∨G0=some g)∧ ¬F' g∧g<w'.heap.size)∧RR w' F' (fun _=>True) G v d
def grX (b:Nat) (ms:Nat→Option MO) (g:Nat):Prop:=g=b∨ ∃ j mo,ms j=some mo∧mo.g=some g
structure BelX (w0:World) (X:Nat→Prop) (w:World):Prop where
 os:w.os=w0.os
 tape:w.tape=w0.tape
 output:w.output=w0.output
 size:w0.heap.size≤w.heap.size
 block: ∀ k,k<w0.heap.size→ ¬ X k→w.heap[k]? =w0.heap[k]?
structure W0 (P:Program) where
 w:World
 X:Nat→Prop
 p:Nat→Option MO
 ok: ∀ g,yQ P g=true→g<w.heap.size∧ ¬X g∧zdT P w g
def W0.nw {P:Program} (w0:W0 P) (g:Nat):Prop:=w0.w.heap.size≤g∨w0.X g
abbrev W0.Bel {P:Program} (w0:W0 P) (w:World):Prop:=BelX w0.w w0.X w
theorem W0.Bel.new {P:Program} {w0:W0 P} {w:World} (h:w0.Bel w) {g:Nat} (hg:w.heap.size≤g):w0.nw g:= .inl (Nat.le_trans h.size hg)
theorem W0.Bel.trans {P:Program} {w0:W0 P} {w w' :World} (h:w0.Bel w) (hb:Below w.heap.size w w'):w0.Bel w' :=
 ⟨hb.os.trans h.os,hb.tape.trans h.tape,hb.output.trans h.output,Nat.le_trans h.size hb.size,fun k hk hx=>(hb.block k (Nat.lt_of_lt_of_le hk h.size)).trans (h.block k hk hx)⟩
theorem W0.Bel.grown {P:Program} {w0:W0 P} {w w' :World} {row:Option Nat} (h:w0.Bel w) (hg:w.grownBy w' row) (hr: ∀ k,row=some k→w0.nw k):w0.Bel w' :=
 ⟨hg.os.trans h.os,hg.tape.trans h.tape,hg.output.trans h.output,Nat.le_trans h.size hg.size,fun k hk hx=>
  (hg.block k (Nat.lt_of_lt_of_le hk h.size) (fun e=>(hr k e.symm).elim (fun h1=>by omega) hx)).trans (h.block k hk hx)⟩
def q8 (P:Program) (f:FuncId) (T:TypeId) (fs:List Fd) (x:(gTy fs).I) (ds:List D) (y:(gTy fs).I) (d:D):Prop:=
 (∀ (args:Array Value) (w:World),(callFunc f args).run P w= .ok (.enter f args) w)∧
 ∀ (w:World) (b:Nat) (vs:Array Value) (F:Nat→Prop) (ms:Nat→Option MO),(∀ g,F g→g<w.heap.size)→Glb P w F→(∀ g,grX b ms g→ ¬F g∧g<w.heap.size)→GrR w F (fun _=>True) b T fs x ms→vs.size=ds.length→
  (∀ (i:Nat) d',ds[i]? =some d' → ∃ v,vs[i]? =some v∧R1 w F noM v d')→
  Calls P f (#[.pointer (some ⟨b,0,none⟩)]++vs) w fun en w' => ∃ v F' ms',en= .returned v∧BelX w (grX b ms) w' ∧(∀ g,F g→F' g)∧(∀ g,F' g→g<w'.heap.size∧(F g∨w.heap.size≤g∨grX b ms g))∧
   (∀ g,grX b ms' g→ ¬F' g∧g<w'.heap.size∧(grX b ms g∨w.heap.size≤g))∧GrR w' F' (fun _=>True) b T fs y ms' ∧(∀ F2 M2,R w' F2 M2 v d)
def ziP (P:Program) (f:FuncId) (T:TypeId) (fs:List Fd) (x:(gTy fs).I) (ds:List D) (d:D):Prop:=
 (∀ (args:Array Value) (w:World),(callFunc f args).run P w= .ok (.enter f args) w)∧
 ∀ (w:World) (b:Nat) (vs:Array Value) (F:Nat→Prop) (ms:Nat→Option MO),(∀ g,F g→g<w.heap.size)→Glb P w F→(∀ g,grX b ms g→ ¬F g∧g<w.heap.size)→GrR w F (fun _=>True) b T fs x ms→vs.size=ds.length→
  (∀ (i:Nat) d',ds[i]? =some d' → ∃ v,vs[i]? =some v∧R1 w F noM v d')→
  Calls P f (#[.pointer (some ⟨b,0,none⟩)]++vs) w fun en w' => ∃ v,en= .returned v∧BelX w (grX b ms) w' ∧(∀ F2 M2,R w' F2 M2 v d)
structure Inv {P:Program} (w0:W0 P) (F0 F:Nat→Prop) (M:Nat→Option MO) (σ:St) (a:Act) (w:World):Prop where
 defers:a.defers=[]
 size:a.tmps.size=σ.n
 slots: ∀ i,R w F M (a.tmps.getD i undef) (find σ.sl i)
 obs: ∀ id o,zg σ.ob id=some o→ ∃ mo,M id=some mo∧ObR w F M w0.nw mo o
 apart: ∀ i j mi mj g,M i=some mi→M j=some mj→mi.g=some g→mj.g=some g→i=j
 mine: ∀ i mi g,M i=some mi→mi.g=some g→ ¬F g∧w0.nw g∧g<w.heap.size
 flt: ∀ g,F g→g<w.heap.size∧(F0 g∨w0.nw g)
 fle: ∀ g,F0 g∨yQ P g=true→F g
 below:w0.Bel w
 pins: ∀ id o,zg σ.ob id=some o→o.pin=true→M id=w0.p id
theorem Inv.glb {P:Program} {w0:W0 P} {F0 F:Nat→Prop} {M:Nat→Option MO} {σ:St} {a:Act} {w:World} (h:Inv w0 F0 F M σ a w):Glb P w F:=fun g hg=>by
 obtain ⟨h1,h2,h3⟩:=w0.ok g hg
 exact ⟨h.fle g (.inr hg),h3.of_block (h.below.block g h1 h2)⟩
def S (P:Program) (c:Code) (σ:St) (k:Exit→St→Prop):Prop:=
 ∀ (w0:W0 P) F0 F M a w,Inv w0 F0 F M σ a w→c.wp P (fun e a' w' => ∃ σ' F' M',k e σ' ∧Inv w0 F0 F' M' σ' a' w') a w
def Ty.flat:Ty→Bool
 | .int _=>true
 | .bool=>true
 | .str=>true
 | .flt=>true
 | .pair a b=>a.flat&&b.flat
 | _=>false
def St.putOb (σ:St) (d:Nat) (o:Ob) (p:D):St:=({ σ.kill d with ob:=(d,o)::(σ.kill d).ob }).put (some d) p
def yG (u:Ty) (ob:List (Nat×Ob)) (d:D):Option (List u.I):=
 match dec (.list u) [yN ob d] with
 | some (xs,_)=>some xs
 | none=>none
def jU (P:Program) (e:TypeId) (n:Nat):Bool:=
 match P.info? e with
 | some i=>match i.zero with
  | some z=>Nat.beq z.cells.size n
  | none=>false
 | none=>false
def zcr (P:Program) (σ:St) (dst:Option Nat) (t t' :TypeId) (s:D) (ys:List UInt8) (K:St→Prop):Prop:=
 match dst,yC P t,qp P t&&ql P t' with
 | some d,some e,true=>bif Nat.beq (zu P e) 1&&(jU P e 1&&Nat.beq (zau P e) 1) then
   match s with
   | .nils=>room ys.length∧K (σ.putOb d (.row false e (.int .u8) (bts ys)) (.slo d))
   | .slo i=>match zg σ.ob i,yG (.int .u8) σ.ob (.slo i) with
    | some (.row false e' _ _),some xs=>bif Nat.beq e e' then room (xs.length+ys.length)∧K (({ σ.kill i with ob:=(i,.row false e (.int .u8) (xs++bts ys))::(σ.kill i).ob }:St).put (some d) (.slo i)) else False
    | _,_=>False
   | _=>False
  else False
 | _,_,_=>False
def zcs (P:Program) (σ:St) (dst:Option Nat) (t t' :TypeId) (s x:D) (K:St→Prop):Prop:=
 match dst,yC P t,yC P t' with
 | some d,some e,some _=>match tyOf P 12 e with
  | some u=>bif Nat.beq (zu P e) u.width&&(jU P e u.width&&(Nat.beq t t' &&Nat.ble (zau P e) 131072)) then
    match yG u σ.ob x with
    | some ys=>match s with
     | .nils=>room ys.length∧K (σ.putOb d (.row false e u ys) (.slo d))
     | .slo i=>match zg σ.ob i,yG u σ.ob (.slo i) with
      | some (.row false e' _ _),some xs=>bif Nat.beq e e' then room (xs.length+ys.length)∧K (({ σ.kill i with ob:=(i,.row false e u (xs++ys))::(σ.kill i).ob }:St).put (some d) (.slo i)) else False
      | _,_=>False
     | _=>False
    | none=>False
   else False
  | none=>False
 | _,_,_=>False
def qN (u:Ty) (ob:List (Nat×Ob)):Nat→List (Nat×D)→Option (List u.I)
 | _,[]=>some []
 | i,(j,x)::r=>bif Nat.beq i j then
   match cellsOf x with
   | some cs=>match yO u (zX ob cs) with
    | some y=>match qN u ob (i+1) r with
     | some ys=>some (y::ys)
     | none=>none
    | none=>none
   | none=>none
  else none
def secs:List (Nat×D)→List D
 | []=>[]
 | (_,d)::r=>d::secs r
def qC (P:Program) (σ:St) (dst:Option Nat) (t:TypeId) (len:Nat) (parts:List (Nat×D)) (K:St→Prop):Prop:=
 match dst,yC P t with
 | some d,some e=>match tyOf P 12 e with
  | some u=>bif Nat.beq (zu P e) u.width&&(jU P e u.width&&(Nat.beq parts.length len&&Nat.ble (len*zu P e) 16777216)) then
    match qN u σ.ob 0 parts with
    | some ys=>K ((σ.iceAll (rowsOf (secs parts))).putOb d (.row false e u ys) (.slo d))
    | none=>False
   else False
  | none=>False
 | _,_=>False
def zaE (u:Ty):Nat→List D→Option (List u.I)
 | 0,cs=>match cs with | []=>some [] | _=>none
 | n+1,cs=>match dec u cs with
  | some (x,r)=>match zaE u n r with
   | some xs=>some (x::xs)
   | none=>none
  | none=>none
def ziQ (P:Program) (e:TypeId):Option TypeId:=
 match P.underlying e with
 | some (.struct fs)=>match fs[1]? with
  | some f=>match qp P f.type with
   | true=>yC P f.type
   | false=>none
  | none=>none
 | _=>none
def St.newBuf (σ:St) (d:Nat) (e e8:TypeId):St:=
 ({ σ.kill (gid d 1) with ob:=(gid d 1,.buf e8 [])::(σ.kill (gid d 1)).ob }:St).putOb d (.cells false e [.slf d,.slo (gid d 1)]) (.ptr d 0)
def zeS (P:Program) (σ:St) (dst:Option Nat) (e:TypeId) (K:St→Prop):Prop:=
 match dst with
 | some d=>match P.underlying e with
  | some (.array n el)=>match tyOf P 12 el with
   | some u=>match zaP P e with
    | .agg zs=>match zco zs,zaE u n zs with
     | true,some xs=>K (σ.putOb d (.arr u xs) (.aptr d))
     | _,_=>False
    | _=>False
   | none=>False
  | some _=>match cellsOf (zaP P e) with
   | some [.pnil,.nils]=>match ziQ P e with
    | some e8=>K (σ.newBuf d e e8)
    | none=>False
   | some cs=>match zco cs with
    | true=>K (σ.putOb d (.cells false e cs) (.ptr d 0))
    | false=>False
   | none=>False
  | none=>False
 | none=>False
def boxD (σ:St) (dst:Option Nat) (e:TypeId) (x:Operand) (K:St→Prop):Prop:=
 match dst,cellsOf (ev (σ.iceAll (rowsOf [ev σ x])) x) with
 | some d,some cs=>K ((σ.iceAll (rowsOf [ev σ x])).putOb d (.cells false e (zas d .bad cs)) (.ptr d 0))
 | _,_=>False
def zeT (P:Program) (σ:St) (t:TypeId) (a x:D) (K:St→Prop):Prop:=
 match cellsOf x with
 | some new=>bif Nat.beq new.length (zu P t)&&Nat.blt 0 new.length then
   match a with
   | .ptr i o=>match zg σ.ob i with
    | some (.cells p T cs)=>bif Nat.ble (o+new.length) cs.length then K { σ with ob:=qo σ.ob i (.cells p T (setFrom cs o new)) } else False
    | _=>False
   | .rptr i ix o=>match rowsOf [x] with
    | []=>match zg σ.ob i with
     | some (.row p e u xs)=>inR ix xs.length∧bif Nat.ble (o+new.length) u.width then
       match yO u (setFrom (enc u (atI u xs ix)) o (zX σ.ob new)) with
       | some y=>K { σ with ob:=qo σ.ob i (.row p e u (xs.set ix.toNat y)) }
       | none=>False
      else False
     | some (.arr u xs)=>inR ix xs.length∧bif Nat.ble (o+new.length) u.width then
       match yO u (setFrom (enc u (atI u xs ix)) o (zX σ.ob new)) with
       | some y=>K { σ with ob:=qo σ.ob i (.arr u (xs.set ix.toNat y)) }
       | none=>False
      else False
     | _=>False
    | _=>False
   | _=>False
  else False
 | none=>False
def has (μ:List Nat) (dst:Option Nat):Bool:=
 match dst with
 | none=>false
 | some d=>match μ with
  | []=>false
  | e::r=>Nat.beq d e||has r (some d)
def St.after (σ:St) (flat:Bool) (args:List D):St:=
 match flat with
 | true=>σ
 | false=>σ.iceAll (rowsOf args)
def hasN (i:Nat):List Nat→Bool
 | []=>false
 | j::r=>Nat.beq i j||hasN i r
def zqT (P:Program) (σ:St) (dst:Option Nat) (g:FuncId) (args:List D) (rts:List TypeId) (K:St→Prop):Prop:=
 match args with
 | .slo i::r=>match zg σ.ob i,rowsOf r with
  | some (.row p e u xs),[]=>match rts with
   | []=> ∃ ys:List u.I,zcq P g e u xs (zL σ.ob r) ys (.tup [])∧K (({ σ with ob:=qo σ.ob i (.row p e u ys) }:St).put dst .bad)
   | [t]=>match tyOf P 12 t with
    | some v=>match v.flat with
     | true=> ∃ ys:List u.I,∃ x:v.I,zcq P g e u xs (zL σ.ob r) ys (encV v x)∧K (({ σ with ob:=qo σ.ob i (.row p e u ys) }:St).put dst (encV v x))
     | false=>False
    | none=>False
   | _=>False
  | _,_=>False
 | _=>False
def zqU (P:Program) (μ:List Nat) (σ:St) (dst:Option Nat) (g:FuncId) (args:List D) (rts:List TypeId) (K:St→Prop):Prop:=
 match args with
 | .slo i::r=>match zg σ.ob i,hasN i (rowsOf r) with
  | some (.row false e u xs),false=>match rts with
   | [t]=>match tyOf P 12 t with
    | some (.list v)=>match has μ dst,dst,yC P t with
     | true,some d,some e' => ∃ ys:List v.I,jT P g e u xs (zL σ.ob r) (.own e' v ys)∧K (((σ.kill i).iceAll (rowsOf r)).putOb d (.row false e' v ys) (.slo d))
     | _,_,_=>False
    | _=>False
   | _=>False
  | _,_=>False
 | _=>False
def zdU (ob:List (Nat×Ob)) (id j:Nat):(f:Fd)→List D→Option (f.ty.I×List D)
 | .dat t,cs=>dec t cs
 | .row e t,cs=>match cs with
  | .slo i::r=>bif Nat.beq i (gid id j) then match zg ob i with
    | some (.row false e' t' xs)=>match decide (e' =e) with
     | true=>if h:t' =t then some (qk (congrArg Ty.list h) xs,r) else none
     | false=>none
    | _=>none
   else none
  | _=>none
 | .slf,cs=>match cs with
  | .slf i::r=>bif Nat.beq i id then some (true,r) else none
  | .ptr i o::r=>bif Nat.beq i id&&Nat.beq o 0 then some (true,r) else none
  | .pnil::r=>some (true,r)
  | _=>none
 | .buf e,cs=>match cs with
  | .slo i::r=>bif Nat.beq i (gid id j) then match zg ob i with
    | some (.buf e' xs)=>match decide (e' =e) with
     | true=>some (xs,r)
     | false=>none
    | _=>none
   else none
  | _=>none
def zaS (ob:List (Nat×Ob)) (id:Nat):Nat→(fs:List Fd)→List D→Option (gTy fs).I
 | _,[],cs=>match cs with
  | []=>some true
  | _=>none
 | j,[f],cs=>match zdU ob id j f cs with
  | some (x,[])=>some x
  | _=>none
 | j,f::q::r,cs=>match zdU ob id j f cs with
  | some (x,cs')=>match zaS ob id (j+1) (q::r) cs' with
   | some y=>some (x,y)
   | none=>none
  | none=>none
def St.gnil1 (σ:St) (id off j:Nat) (f:Fd):St:=
 match f with
 | .row e t=>match zg σ.ob id with
  | some (.cells p T cs)=>match cs[off]? with
   | some .nils=>{ σ.kill (gid id j) with ob:=qo ((gid id j,.row false e t [])::(σ.kill (gid id j)).ob) id (.cells p T ((zas (gid id j) .bad cs).set off (.slo (gid id j)))) }
   | _=>σ
  | _=>σ
 | _=>σ
def Fd.wid:Fd→Nat
 | .dat t=>t.width
 | _=>1
def St.gnils (σ:St) (id:Nat):Nat→Nat→List Fd→St
 | _,_,[]=>σ
 | off,j,f::r=>(σ.gnil1 id off j f).gnils id (off+f.wid) (j+1) r
def gFds (P:Program) (ob:List (Nat×Ob)):List Field→List D→Option (List Fd)
 | [],cs=>match cs with
  | []=>some []
  | _=>none
 | f::r,cs=>match cs with
  | .pnil::cs' =>(gFds P ob r cs').map (.slf:: ·)
  | .slf _::cs' =>(gFds P ob r cs').map (.slf:: ·)
  | .nils::cs' =>match yC P f.type with
   | some e=>match tyOf P 12 e with
    | some t=>(gFds P ob r cs').map (.row e t:: ·)
    | none=>none
   | none=>none
  | .slo i::cs' =>match zg ob i with
   | some (.buf e _)=>(gFds P ob r cs').map (.buf e:: ·)
   | some (.row _ e t _)=>(gFds P ob r cs').map (.row e t:: ·)
   | _=>none
  | _=>match tyOf P 12 f.type with
   | some t=>(gFds P ob r (cs.drop t.width)).map (.dat t:: ·)
   | none=>none
def datT (T:TypeId):Bool:=T==51
def zlp (P:Program) (ob:List (Nat×Ob)) (T:TypeId) (cs:List D):Option (List Fd):=
 match datT T with
 | true=>match tyOf P 12 T with
  | some t=>some [.dat t]
  | none=>none
 | false=>match P.underlying T with
  | some (.struct fs)=>gFds P ob fs.toList cs
  | _=>none
def gids (id:Nat):Nat→List Fd→List Nat
 | _,[]=>[]
 | j,.row _ _::r=>gid id j::gids id (j+1) r
 | j,.buf _::r=>gid id j::gids id (j+1) r
 | j,_::r=>gids id (j+1) r
def St.kills (σ:St):List Nat→St
 | []=>σ
 | i::r=>(σ.kill i).kills r
def St.gset (σ:St) (id:Nat) (p:Bool) (T:TypeId) (fs:List Fd) (y:(gTy fs).I):St:=
 {σ.kills (gids id 0 fs) with ob:=gOb id 0 fs y++qo (σ.kills (gids id 0 fs)).ob id (.cells p T (gCs id 0 fs y)) }
def zlq (P:Program) (σ:St) (dst:Option Nat) (g:FuncId) (args:List D) (rts:List TypeId) (K:St→Prop):Prop:=
 match args with
 | .ptr id 0::r=>match zg σ.ob id,rowsOf r with
  | some (.cells _ T cs0),[]=>match zlp P σ.ob T cs0 with
   | some fs=>match zg (σ.gnils id 0 0 fs).ob id with
    | some (.cells p T' cs)=>match decide (T' =T),zaS (σ.gnils id 0 0 fs).ob id 0 fs cs with
     | true,some x=>match rts with
      | []=> ∃ y:(gTy fs).I,q8 P g T fs x (zL σ.ob r) y (.tup [])∧K (((σ.gnils id 0 0 fs).gset id p T fs y).put dst .bad)
      | [t]=>match tyOf P 12 t with
       | some v=>match v.flat with
        | true=> ∃ y:(gTy fs).I,∃ z:v.I,q8 P g T fs x (zL σ.ob r) y (encV v z)∧K (((σ.gnils id 0 0 fs).gset id p T fs y).put dst (encV v z))
        | false=> ∃ y:(gTy fs).I,q8 P g T fs x (zL σ.ob r) y .bad∧K (((σ.gnils id 0 0 fs).gset id p T fs y).put dst .bad)
       | none=> ∃ y:(gTy fs).I,q8 P g T fs x (zL σ.ob r) y .bad∧K (((σ.gnils id 0 0 fs).gset id p T fs y).put dst .bad)
      | [t,t']=>match tyOf P 12 t,tyOf P 12 t' with
       | some v,some v' =>match v.flat&&v'.flat with
        | true=> ∃ y:(gTy fs).I,∃ z:v.I,∃ z' :v'.I,q8 P g T fs x (zL σ.ob r) y (.tup [encV v z,encV v' z'])∧K (((σ.gnils id 0 0 fs).gset id p T fs y).put dst (.tup [encV v z,encV v' z']))
        | false=> ∃ y:(gTy fs).I,q8 P g T fs x (zL σ.ob r) y .bad∧K (((σ.gnils id 0 0 fs).gset id p T fs y).put dst .bad)
       | _,_=> ∃ y:(gTy fs).I,q8 P g T fs x (zL σ.ob r) y .bad∧K (((σ.gnils id 0 0 fs).gset id p T fs y).put dst .bad)
      | _=>False
     | _,_=>False
    | _=>False
   | none=>False
  | _,_=>False
 | _=>False
def zou (P:Program) (σ:St) (dst:Option Nat) (g:FuncId) (args:List D) (rts:List TypeId) (K:St→Prop):Prop:=
 match args with
 | .ptr id 0::r=>match zg σ.ob id,rowsOf r with
  | some (.cells _ T cs0),[]=>match zlp P σ.ob T cs0 with
   | some fs=>match zg (σ.gnils id 0 0 fs).ob id with
    | some (.cells false T' cs)=>match decide (T' =T),zaS (σ.gnils id 0 0 fs).ob id 0 fs cs with
     | true,some x=>match rts with
      | [t]=>match tyOf P 12 t with
       | some v=>match v.flat with
        | true=> ∃ z:v.I,ziP P g T fs x (zL σ.ob r) (encV v z)∧K ((((σ.gnils id 0 0 fs).kills (gids id 0 fs)).kill id).put dst (encV v z))
        | false=>False
       | none=>False
      | _=>False
     | _,_=>False
    | _=>False
   | none=>False
  | _,_=>False
 | _=>False
def ownIf (b:Bool) (e:TypeId) (t:Ty) (xs:List t.I):D:=match b with | true=> .own e t xs | false=> .val (.list t) xs
def ziR (P:Program) (μ:List Nat) (σ:St) (dst:Option Nat) (g:FuncId) (args:List D) (rts:List TypeId) (K:St→Prop):Prop:=
 match rts with
 | []=>Spec P g (zL σ.ob args) (.tup [])∧K (σ.put dst .bad)
 | [t]=>match tyOf P 12 t with
  | some (.list u)=>match has μ dst,dst,yC P t with
   | true,some d,some e=> ∃ xs:List u.I,Spec P g (zL σ.ob args) (.own e u xs)∧K ((σ.after false args).putOb d (.row false e u xs) (.slo d))
   | false,_,_=> ∃ xs:List u.I,Spec P g (zL σ.ob args) (vl u xs)∧K ((σ.after false args).put dst (vl u xs))
   | _,_,_=>False
  | some u=> ∃ x:u.I,Spec P g (zL σ.ob args) (encV u x)∧K ((σ.after u.flat args).put dst (encV u x))
  | none=>False
 | [t,t']=>match tyOf P 12 t,tyOf P 12 t' with
  | some u,some u' =>match has μ dst,dst,yC P t,u with
   | true,some d,some e,.list v=>match has μ (some (3000000+d)) with
    | false=> ∃ xs:List v.I,∃ y:u'.I,Spec P g (zL σ.ob args) (.tup [.own e v xs,encV u' y])∧K ((σ.after false args).putOb d (.row false e v xs) (.tup [.slo d,encV u' y]))
    | true=> ∃ b:Bool,∃ xs:List v.I,∃ y:u'.I,Spec P g (zL σ.ob args) (.tup [ownIf b e v xs,encV u' y])∧
      br b (K ((σ.after false args).putOb d (.row false e v xs) (.tup [.slo d,encV u' y]))) (K ((σ.after false args).put (some d) (.tup [vl v xs,encV u' y])))
   | false,_,_,u=> ∃ x:u.I,∃ y:u'.I,Spec P g (zL σ.ob args) (.tup [encV u x,encV u' y])∧K ((σ.after (u.flat&&u'.flat) args).put dst (.tup [encV u x,encV u' y]))
   | _,_,_,_=>False
  | _,_=>False
 | [t,t',t'']=>match tyOf P 12 t,tyOf P 12 t',tyOf P 12 t'' with
  | some u,some u',some u'' => ∃ x:u.I,∃ y:u'.I,∃ z:u''.I,Spec P g (zL σ.ob args) (.tup [encV u x,encV u' y,encV u'' z])∧
    K ((σ.after (u.flat&&(u'.flat&&u''.flat)) args).put dst (.tup [encV u x,encV u' y,encV u'' z]))
  | _,_,_=>False
 | [t,t',t'',t3]=>match tyOf P 12 t,tyOf P 12 t',tyOf P 12 t'',tyOf P 12 t3 with
  | some u,some u',some u'',some u3=> ∃ x:u.I,∃ y:u'.I,∃ z:u''.I,∃ q:u3.I,Spec P g (zL σ.ob args) (.tup [encV u x,encV u' y,encV u'' z,encV u3 q])∧
    K ((σ.after false args).put dst (.tup [encV u x,encV u' y,encV u'' z,encV u3 q]))
  | _,_,_,_=>False
 | _=>False
def zlr (P:Program) (μ:List Nat) (σ:St) (dst:Option Nat) (g:FuncId) (args:List D) (rts:List TypeId) (K:St→Prop):Prop:=
 match has μ (some (1000000+g)),has μ (some (2000000+g)) with
 | false,false=>match has μ (some (4000000+g)),has μ (some (5000000+g)) with
  | false,false=>ziR P μ σ dst g args rts K
  | true,_=>zlq P σ dst g args rts K
  | false,true=>zou P σ dst g args rts K
 | true,_=>zqT P σ dst g args rts K
 | false,true=>zqU P μ σ dst g args rts K
def zls (P:Program) (g:FuncId):Option (List TypeId):=match P.funcs[g]? with | some fn=>some fn.resultTypes.toList | none=>none
def zov (P:Program) (μ:List Nat) (σ:St) (dst:Option Nat) (g:FuncId) (args:List D) (rts:List TypeId) (K:St→Prop):Prop:=
 match has μ (some (4000000+g)) with
 | true=>zlq P σ dst g args rts K
 | false=>ziR P μ σ dst g args rts K
def capD:(t:Ty)→t.I→List D
 | .pair a b,x=>capD a x.1++capD b x.2
 | .ref u,x=>[.ept (enc u x)]
 | .int k,x=>[.val (.int k) x]
 | .bool,x=>[.val .bool x]
 | .str,x=>[.val .str x]
 | .list t,x=>[.val (.list t) x]
 | .flt,x=>[.val .flt x]
 | .err,x=>[.val .err x]
 | .nfn,x=>[.val .nfn x]
 | .fn0 g,x=>[.val (.fn0 g) x]
 | .clo g t,x=>[.val (.clo g t) x]
 | .sum a b,x=>[.val (.sum a b) x]
def fnK:(t:Ty)→t.I→(D→Prop)→Prop
 | .fn0 g,_,k=>k (.fn (.func g))
 | .clo g t,x,k=>k (.clo g (capD t x))
 | .sum a b,x,k=>match x with
  | .inl y=>fnK a y k
  | .inr y=>fnK b y k
 | _,_,_=>False
def ziS (P:Program) (μ:List Nat) (σ:St) (dst:Option Nat) (args:List D) (K:St→Prop):D→Prop
 | .fn (.func g)=>match zls P g with
  | some rts=>zlr P μ σ dst g args rts K
  | none=>False
 | .clo g cs=>match zls P g with
  | some rts=>zov P μ σ dst g (args++cs) rts K
  | none=>False
 | _=>False
def zlt (P:Program) (μ:List Nat) (σ:St) (dst:Option Nat) (args:List D) (f:D) (K:St→Prop):Prop:=
 match f with
 | .val t x=>fnK t x (ziS P μ σ dst args K)
 | d=>ziS P μ σ dst args K d
def zaT:List D→Bool
 | []=>true
 | .val _ _::r=>zaT r
 | .nils::r=>zaT r
 | _::_=>false
def zh5:List D→Bool
 | []=>true
 | .val _ _::r=>zh5 r
 | .ept cs::r=>zaT cs&&zh5 r
 | _::_=>false
def St.frz2 (σ:St) (t id:Nat):St:=
 match find σ.sl t,zg σ.ob id with
 | .ptr i 0,some (.cells false _ cs)=>match Nat.beq i id&&zaT cs with
  | true=>{ σ.kill id with sl:=(t,.ept cs)::(σ.kill id).sl }
  | false=>σ
 | _,_=>σ
def St.frz1 (σ:St) (x:Operand):St:=
 match x with
 | .tmp t=>match find σ.sl t with
  | .ptr id 0=>match zg σ.ob id with
   | some (.cells false _ cs)=>(σ.iceAll (rowsOf cs)).frz2 t id
   | _=>σ
  | _=>σ
 | _=>σ
def St.frzs (σ:St):List Operand→St
 | []=>σ
 | x::r=>(σ.frz1 x).frzs r
def ziT (σ:St) (dst:Option Nat) (g:FuncId) (first:List Operand) (cap:List Operand) (K:St→Prop):Prop:=
 match first,zh5 (zL (σ.frzs cap).ob (evs (σ.frzs cap) cap)) with
 | [],true=>K (((σ.frzs cap).iceAll (rowsOf (evs (σ.frzs cap) cap))).put dst (.clo g (zL (σ.frzs cap).ob (evs (σ.frzs cap) cap))))
 | _,_=>False
def zeU (P:Program) (σ:St) (dst:Option Nat) (t:TypeId) (i:Nat) (lo hi mx:Option D) (K:St→Prop):Prop:=
 match zg σ.ob i,yC P t,lo,hi,mx with
 | some (.row false e u xs),some e',none,some (.val (.int _) n),none=>bif Nat.beq e e' &&Nat.beq (zu P e) u.width then
   (0≤n∧n≤(xs.length:Int))∧K (({ σ.kill i with ob:=(i,.row false e u (xs.take n.toNat))::(σ.kill i).ob }:St).put dst (.slo i))
  else False
 | _,_,_,_,_=>False
def wpo (P:Program) (μ:List Nat) (o:Oper) (σ:St) (K:St→Prop):Prop:=
 match o.op with
 | .alloc e=>zeS P σ o.dst e K
 | .box e x=>boxD σ o.dst e x K
 | .store t a x=>match o.dst with
  | none=>zeT P σ t (ev σ a) (ev σ x) K
  | some _=>False
 | .buildSlice t len parts=>qC P σ o.dst t len (zW σ parts.toList) K
 | .makeFunc (.func g) first cap=>ziT σ o.dst g first.toList cap.toList K
 | .slice t x lo hi mx=>match ev σ x with
  | .slo i=>match has μ (o.dst.map (6000000+ ·)) with
   | true=>zeU P σ o.dst t i (lo.map (ev σ)) (hi.map (ev σ)) (mx.map (ev σ)) K
   | false=>cutD P t (yN σ.ob (.slo i)) (lo.map (ev σ)) (hi.map (ev σ)) (mx.map (ev σ)) fun d=>K ((σ.ice i).put o.dst d)
  | d=>cutD P t d (lo.map (ev σ)) (hi.map (ev σ)) (mx.map (ev σ)) fun d=>K (σ.put o.dst d)
 | .call { callee:= .builtin .append,args,argTypes }=>match args.toList,argTypes.toList with
  | [s,x],[t,t']=>match ev σ x with
   | .val .str ys=>zcr P σ o.dst t t' (ev σ s) ys K
   | d=>zcs P σ o.dst t t' (ev σ s) d K
  | _,_=>False
 | .call { callee:= .value f,args,.. }=>zlt P μ σ o.dst (evs σ args.toList) (ev σ f) K
 | op=>wpq P σ op fun d=>K (σ.put o.dst d)
def jf (ops:List Oper) (j:Nat):Option Nat:=
 match ops[j]? with
 | some o=>o.dst
 | none=>none
def wpr (P:Program) (μ:List Nat) (ops:List Oper):List Oper→St→(St→Prop)→Prop
 | [],σ,K=>K σ
 | o::r,σ,K=>match o.guard with
  | none=>wpo P μ o σ fun σ' =>wpr P μ ops r σ' K
  | some (j,want)=>match jf ops j with
   | some t=>match find σ.sl t with
    | .val .bool x=>match want with
     | true=>br x (wpo P μ o (σ.lit t true) fun σ' =>wpr P μ ops r σ' K) (wpr P μ ops r ((σ.lit t false).put o.dst .und) K)
     | false=>br x (wpr P μ ops r ((σ.lit t true).put o.dst .und) K) (wpo P μ o (σ.lit t false) fun σ' =>wpr P μ ops r σ' K)
    | .und=>wpr P μ ops r (σ.put o.dst .und) K
    | _=>False
   | none=>False
def z6:Op→Bool
 | .move _ | .assign _ | .pick .. | .nilCheck _ | .load .. | .fieldAddr .. | .field .. | .indexAddr .. | .index .. | .slice .. | .binOp .. | .unOp .. | .convert .. | .extract .. | .build .. | .makeFunc .. =>true
 | .call { callee:= .builtin .len,.. } | .call { callee:= .builtin .max,.. } | .call { callee:= .builtin .min,.. }=>true
 | _=>false
def zdV (P:Program) (μ:List Nat):Op→Bool
 | .call { callee:= .value (.func g),.. }=>match has μ (some (1000000+g))||has μ (some (2000000+g)),has μ (some (4000000+g))||has μ (some (5000000+g)) with
  | false,false=>match zls P g with
   | some [t]=>match tyOf P 12 t with
    | some u=>u.flat
    | none=>false
   | _=>false
  | _,_=>false
 | _=>false
def zb6 (P:Program) (μ:List Nat):List Oper→Bool
 | []=>true
 | o::r=>(z6 o.op||zdV P μ o.op)&&zb6 P μ r
def zct (P:Program):Op→Bool
 | .move _=>true
 | .assign _=>true
 | .index t _ _=>ql P t
 | .binOp .mul _ (.const (.int _ _)) _ _=>true
 | .slice .. =>true
 | .build .. =>true
 | .extract .. =>true
 | .fieldAddr s _ f=>match yP P s f with | some _=>true | none=>false
 | .indexAddr .. =>true
 | _=>false
def qD (md:Region.Mode) (k:Nat):Nat→List Oper→List Nat→List Nat
 | _,[],acc=>acc
 | j,o::r,acc=>qD md k (j+1) r (bif o.after.toList.any fun e=>Region.binds md e&&(Nat.beq e.on k||hasN e.on acc) then j::acc else acc)
def yI (P:Program) (ops:Array Oper) (ok oj:Oper):Bool:=ok.apart ops oj&&((z6 ok.op&&z6 oj.op)||(zct P ok.op||zct P oj.op))
def zb7 (P:Program) (ops:Array Oper) (ok:Oper) (bl:List Nat):Nat→List Oper→Bool
 | _,[]=>true
 | j,o::r=>(hasN j bl||yI P ops ok o)&&zb7 P ops ok bl (j+1) r
def zdW (P:Program) (md:Region.Mode) (ops:Array Oper):Nat→List Oper→Bool
 | _,[]=>true
 | k,o::r=>zb7 P ops o (qD md k (k+1) r []) (k+1) r&&zdW P md ops (k+1) r
def qE (md:Region.Mode):Nat→List Oper→Bool
 | _,[]=>true
 | k,o::r=>(o.after.toList.all fun e=> !Region.binds md e||Nat.blt e.on k)&&qE md (k+1) r
def zlu (P:Program) (ops:Array Oper):Bool:=Region.noSelect ops&&qE .any 0 ops.toList&&zdW P .any ops 0 ops.toList
def zgK (P:Program) (μ:List Nat) (ops:Array Oper):Bool:=
 (zb6 P μ ops.toList&&Region.lexB .any ops)||zlu P ops
def rdyL (md:Region.Mode) (done:List Nat):Nat→List Oper→List Nat
 | _,[]=>[]
 | j,o::r=>bif !hasN j done&&o.after.toList.all (fun e=> !Region.binds md e||hasN e.on done) then j::rdyL md done (j+1) r else rdyL md done (j+1) r
def zeV (P:Program) (ops:Array Oper) (done bl:List Nat) (k:Nat) (ok:Oper):Nat→List Oper→Bool
 | _,[]=>true
 | j,o::r=>(hasN j done||(Nat.beq j k||(hasN j bl||yI P ops ok o)))&&zeV P ops done bl k ok (j+1) r
def zcu (P:Program) (md:Region.Mode) (ops:Array Oper) (done:List Nat) (k:Nat):Bool:=
 match ops.toList.drop k with
 | ok::r=>zeV P ops done (qD md k (k+1) r []) k ok 0 ops.toList
 | []=>false
def zh6 (P:Program) (md:Region.Mode) (ops:Array Oper) (done:List Nat):List Nat→Option Nat
 | []=>none
 | k::r=>bif zcu P md ops done k then some k else zh6 P md ops done r
def allA (step:Nat→Prop):List Nat→Prop
 | []=>False
 | [i]=>step i
 | i::j::r=>(True→step i)∧allA step (j::r)
def zc9 (P:Program) (μ:List Nat) (ops:Array Oper) (k:Nat) (σ:St) (K:St→Prop):Prop:=
 match ops.toList.drop k with
 | o::_=>wpr P μ ops.toList [o] σ K
 | []=>False
def wprA (P:Program) (μ:List Nat) (ops:Array Oper):Nat→List Nat→St→(St→Prop)→Prop
 | 0,done,σ,K=>match rdyL .any done 0 ops.toList with
  | []=>K σ
  | _::_=>False
 | f+1,done,σ,K=>match rdyL .any done 0 ops.toList with
  | []=>K σ
  | i::r=>match zh6 P .any ops done (i::r) with
   | some k=>zc9 P μ ops k σ fun σ' =>wprA P μ ops f (k::done) σ' K
   | none=>allA (fun k=>zc9 P μ ops k σ fun σ' =>wprA P μ ops f (k::done) σ' K) (i::r)
def zda (ops:Array Oper):Bool:=Region.noSelect ops&&qE .any 0 ops.toList
def zbB (u:Ty) (d:D):Bool:=
 match u,d with
 | .pair _ _,.agg _=>true
 | .pair _ _,_=>false
 | _,.agg _=>false
 | _,_=>true
inductive Sh where
 | val (t:Ty)
 | row (p:Bool) (id:Nat) (e:TypeId) (t:Ty)
 | arr (id:Nat) (t:Ty)
 | cel (p:Bool) (id:Nat) (T:TypeId) (t:Ty)
 | grp (p:Bool) (id:Nat) (T:TypeId) (fs:List Fd)
 | fnc (g:FuncId)
 | als (id:Nat)
 | ept (t:Ty)
 deriving Inhabited
@[reducible] def Sh.ty:Sh→Ty
 | .fnc _=> .bool
 | .val t=>t
 | .row _ _ _ t=> .list t
 | .arr _ t=> .list t
 | .cel _ _ _ t=>t
 | .grp _ _ _ fs=>gTy fs
 | .als _=> .bool
 | .ept t=>t
@[reducible] def shTy:List (Nat×Sh)→Ty
 | []=> .bool
 | (_,s)::r=>match r with
  | []=>s.ty
  | _::_=> .pair s.ty (shTy r)
def shD (s:Sh) (x:s.ty.I):D:=
 match s,x with
 | .fnc g,_=> .fn (.func g)
 | .val t,x=>encV t x
 | .row _ id _ _,_=> .slo id
 | .arr id _,_=> .aptr id
 | .cel _ id _ _,_=> .ptr id 0
 | .grp _ id _ _,_=> .ptr id 0
 | .als id,_=> .slo id
 | .ept t,x=> .ept (enc t x)
def shO (s:Sh) (x:s.ty.I):List (Nat×Ob):=
 match s,x with
 | .fnc _,_=>[]
 | .val _,_=>[]
 | .row p id e t,x=>[(id,.row p e t x)]
 | .arr id t,x=>[(id,.arr t x)]
 | .cel p id T t,x=>[(id,.cells p T (enc t x))]
 | .grp p id T fs,x=>gOb id 0 fs x++[(id,.cells p T (gCs id 0 fs x))]
 | .als _,_=>[]
 | .ept _,_=>[]
def ziU:(l:List (Nat×Sh))→(shTy l).I→List (Nat×D)
 | [],_=>[]
 | [(i,s)],x=>[(i,shD s x)]
 | (i,s)::q::r,x=>(i,shD s x.1)::ziU (q::r) x.2
def ziV:(l:List (Nat×Sh))→(shTy l).I→List (Nat×Ob)
 | [],_=>[]
 | [(_,s)],x=>shO s x
 | (_,s)::q::r,x=>shO s x.1++ziV (q::r) x.2
def zh (n:Nat) (l:List (Nat×Sh)) (x:(shTy l).I):St:={ n:=n,sl:=ziU l x,ob:=ziV l x }
def St.nilRow (σ:St) (s:Nat) (sh:Sh):St:=
 match sh with
 | .row false id e t=>match find σ.sl s with
  | .nils=>{ σ.kill id with ob:=(id,.row false e t [])::(σ.kill id).ob,sl:=(s,.slo id)::(σ.kill id).sl }
  | _=>σ
 | .grp _ id _ fs=>σ.gnils id 0 0 fs
 | _=>σ
def St.nilRows (σ:St):List (Nat×Sh)→St
 | []=>σ
 | (s,sh)::r=>(σ.nilRow s sh).nilRows r
def St.prep (σ:St):List (Nat×Sh)→St
 | []=>σ
 | (s,sh)::r=>match sh with
  | .ept _=>(σ.frz1 (.tmp s)).prep r
  | _=>(σ.nilRow s sh).prep r
def yZ:List (Nat×Sh)→List Nat
 | []=>[]
 | (_,.val _)::r=>yZ r
 | (_,.fnc _)::r=>yZ r
 | (_,.row _ id _ _)::r=>id::yZ r
 | (_,.arr id _)::r=>id::yZ r
 | (_,.cel _ id _ _)::r=>id::yZ r
 | (_,.grp _ id _ fs)::r=>(id::gids id 0 fs)++yZ r
 | (_,.als id)::r=>id::yZ r
 | (_,.ept _)::r=>yZ r
def jV (ob:List (Nat×Ob)):List Nat→List (Nat×Ob)
 | []=>ob
 | i::r=>jV (qB i .bad ob) r
def asData (ob:List (Nat×Ob)) (t:Ty) (d:D):D:=
 match cellsOf d with
 | some cs=>match zbB t d,yO t (zX ob cs) with
  | true,some x=>encV t x
  | _,_=> .bad
 | none=> .bad
def keepD (less:List (Nat×Ob)) (sl:List (Nat×D)) (s:Nat) (sh:Sh):D:=
 match sh with
 | .fnc g=>match find sl s with
  | .fn (.func k)=>bif Nat.beq k g then .fn (.func k) else .bad
  | _=> .bad
 | .val t=>asData less t (find sl s)
 | .row _ id _ _=>match find sl s with
  | .slo i=>bif Nat.beq i id then .slo i else .bad
  | _=> .bad
 | .arr id _=>match find sl s with
  | .aptr i=>bif Nat.beq i id then .aptr i else .bad
  | _=> .bad
 | .cel _ id _ _=>match find sl s with
  | .ptr i o=>bif Nat.beq i id then .ptr i o else .bad
  | _=> .bad
 | .grp _ id _ _=>match find sl s with
  | .ptr i o=>bif Nat.beq i id then .ptr i o else .bad
  | _=> .bad
 | .als id=>match find sl s with
  | .slo i=>bif Nat.beq i id then .slo i else .bad
  | _=> .bad
 | .ept t=>match find sl s with
  | .ept cs=>match yO t (zX less cs) with
   | some x=> .ept (enc t x)
   | none=> .bad
  | _=> .bad
def zdh (less:List (Nat×Ob)) (sl:List (Nat×D)):List (Nat×Sh)→List (Nat×D)
 | []=>[]
 | (s,sh)::r=>(s,keepD less sl s sh)::zdh less sl r
def zlv (less ob:List (Nat×Ob)) (sh:Sh):List (Nat×Ob):=
 match sh with
 | .fnc _=>[]
 | .val _=>[]
 | .row _ id _ _=>match zg ob id with
  | some (.row p e t xs)=>[(id,.row p e t xs)]
  | _=>[]
 | .arr id _=>match zg ob id with
  | some (.arr t xs)=>[(id,.arr t xs)]
  | _=>[]
 | .cel _ id _ t=>match zg ob id with
  | some (.cells p T cs)=>match yO t (zX less cs) with
   | some x=>[(id,.cells p T (enc t x))]
   | none=>[]
  | _=>[]
 | .grp _ id _ fs=>match zg ob id with
  | some (.cells p T cs)=>match zaS ob id 0 fs cs with
   | some x=>gOb id 0 fs x++[(id,.cells p T (gCs id 0 fs x))]
   | none=>[]
  | _=>[]
 | .als _=>[]
 | .ept _=>[]
def zgL (less ob:List (Nat×Ob)):List (Nat×Sh)→List (Nat×Ob)
 | []=>[]
 | (_,sh)::r=>zlv less ob sh++zgL less ob r
def St.keep (σ:St) (l:List (Nat×Sh)):St:=
 {n:=σ.n,sl:=zdh (jV σ.ob (yZ l)) σ.sl l,ob:=zgL (jV σ.ob (yZ l)) σ.ob l }
def St.norm (σ:St) (l:List (Nat×Sh)):St:=(σ.nilRows l).keep l
def endK (id:Nat) (l:List (Nat×Sh)) (σ0:St) (e:Exit) (σ:St):Prop:=e= .exit id∧σ.norm l=σ0
def jW (k:Exit→St→Prop) (e:Exit) (σ:St):Prop:=e= .ret∧k .ret σ
def zdi:Code→Nat
 | .region id _ _=>id
 | .seq a _=>zdi a
 | .block _ b=>zdi b
 | .loop b=>zdi b
 | .scope b=>zdi b
 | _=>0
def zdX (P:Program) (b:Code) (σ:St) (l:List (Nat×Sh)) (k:Exit→St→Prop):List Nat→Prop
 | []=>S P (.loop b) (σ.norm l) (jW k)
 | id::r=>(∃ x:(shTy l).I,S P (.loop b) (σ.norm l) (endK id l (zh σ.n l x))∧k (.exit id) (zh σ.n l x))∨zdX P b σ l k r
def zeW (tbl:List (Nat×List Nat×List (Nat×Sh))) (i:Nat):Option (List Nat×List (Nat×Sh)):=
 match tbl with
 | []=>none
 | (j,x)::r=>bif Nat.beq i j then some x else zeW r i
def zlw (l:List (Nat×Sh)) (z:St) (e:Exit) (σ:St):Prop:=
 match e with
 | .normal=>σ.norm l=z
 | _=>False
def zav (id:Nat):Code→Option (Array Oper)
 | .region i ops _=>bif Nat.beq i id then some ops else none
 | .seq a b=>match zav id a with
  | some o=>some o
  | none=>zav id b
 | .cond _ a b=>match zav id a with
  | some o=>some o
  | none=>zav id b
 | .block _ b=>zav id b
 | .loop b=>zav id b
 | .scope b=>zav id b
 | _=>none
def wpc (P:Program) (tbl:List (Nat×List Nat×List (Nat×Sh))) (μ:List Nat):Code→St→(Exit→St→Prop)→Prop
 | .skip,σ,k=>k .normal σ
 | .region id ops draw,σ,k=>match draw with
  | false=>match zeW tbl (4000000+id) with
   | some (_,l)=>wpr P μ ops.toList ops.toList σ fun σ' =>k .normal (σ'.prep l)
   | none=>wpr P μ ops.toList ops.toList σ (k .normal)
  | true=>bif zgK P μ ops then wpr P μ ops.toList ops.toList σ (k .normal) else bif zda ops then
    (match zeW tbl (2000000+id),zeW tbl (3000000+id) with
    | some (_,l1),some (_,l2)=> ∃ x:(shTy l2).I,S P (.region id ops true) (σ.norm l1) (zlw l2 (zh σ.n l2 x))∧k .normal (zh σ.n l2 x)
    | _,_=>wprA P μ ops ops.size [] σ (k .normal))
   else False
 | .seq a b,σ,k=>wpc P tbl μ a σ fun e σ' =>match e with
  | .normal=>wpc P tbl μ b σ' k
  | e=>k e σ'
 | .cond c a b,σ,k=>match ev σ c with
  | .val .bool x=>br x (wpc P tbl μ a (σ.litOp c true) k) (wpc P tbl μ b (σ.litOp c false) k)
  | _=>False
 | .block id b,σ,k=>wpc P tbl μ b σ fun e σ' =>match e with
  | .exit i=>bif Nat.beq i id then k .normal σ' else k (.exit i) σ'
  | e=>k e σ'
 | .loop b,σ,k=>match zeW tbl (zdi b) with
  | some (ids,l)=>zdX P b σ l k ids
  | none=>False
 | .exit id,σ,k=>k (.exit id) σ
 | .label _,σ,k=>k .normal σ
 | .scope b,σ,k=>wpc P tbl μ b σ fun e σ' =>match e with
  | .goto _=>False
  | e=>k e σ'
 | .ret,σ,k=>k .ret σ
 | _,_,_=>False
def yR (P:Program) (σ:St):ResultVar→D
 | .tmp t=>find σ.sl t
 | .cell a ty=>match find σ.sl a with
  | .ptr i 0=>match zg σ.ob i with
   | some (.cells _ _ cs)=>match zat P ty with
    | some true=>bif Nat.ble (zu P ty) cs.length then .agg (cs.take (zu P ty)) else .bad
    | some false=>match cs with
     | c::_=>c
     | []=> .bad
    | none=> .bad
   | _=> .bad
  | _=> .bad
def zdj (P:Program) (σ:St) (own:Bool) (rv:ResultVar) (t:TypeId):Option D:=
 match own,yR P σ rv with
 | true,.slo i=>match zg σ.ob i with
  | some (.row false e u xs)=>some (.own e u xs)
  | _=>none
 | true,.nils=>match yC P t with
  | some e=>match tyOf P 12 e with
   | some u=>some (.own e u [])
   | none=>none
  | none=>none
 | _,d=>match tyOf P 12 t,cellsOf d with
  | some u,some cs=>match zbB u d,yO u (zX σ.ob cs) with
   | true,some x=>some (encV u x)
   | _,_=>none
  | _,_=>none
def jx (P:Program) (σ:St) (own:Bool) (r:ResultVar):St:=
 match own,yR P σ r with
 | true,.slo i=>σ.kill i
 | _,_=>σ
def yY (P:Program) (σ:St):Bool→List ResultVar→List TypeId→Option (List D)
 | _,[],[]=>some []
 | own,r::rs,t::ts=>match zdj P σ own r t with
  | some d=>match yY P (jx P σ own r) false rs ts with
   | some ds=>some (d::ds)
   | none=>none
  | none=>none
 | _,_,_=>none
def resD (P:Program) (σ:St) (own:Bool) (fn:Func):Option D:=
 match yY P σ own fn.results.toList fn.resultTypes.toList with
 | some [d]=>some d
 | some ds=>some (.tup ds)
 | none=>none
def retK (P:Program) (fn:Func) (own:Bool) (d:D) (e:Exit) (σ:St):Prop:=
 match e with
 | .normal=>resD P σ own fn=some d
 | .ret=>resD P σ own fn=some d
 | _=>False
def yS:Nat→List D→List (Nat×D)
 | _,[]=>[]
 | i,d::r=>(i,d)::yS (i+1) r
def zF (fn:Func):Code:=match fn.body with | some c=>c | none=> .refuse ""
end
section
open Go.RowKit
theorem RV.len {w:World} {F:Nat→Prop}: ∀ {t:Ty} {x:t.I} {cs:List Value},RV w F t x cs→cs.length=t.width
 | .int _,_,_,h=>by simp only [RV] at h;subst h;rfl
 | .bool,_,_,h=>by simp only [RV] at h;subst h;rfl
 | .str,_,_,h=>by obtain ⟨s,rfl,_⟩:=h;rfl
 | .pair a b,x,_,h=>by obtain ⟨c1,c2,rfl,h1,h2⟩:=h;rw [List.length_append,h1.len,h2.len];rfl
 | .list _,_,_,h=>by obtain ⟨A,c,rfl,_⟩:=h;rfl
 | .flt,_,_,h=>by have h:_=_:=h;subst h;rfl
 | .err,_,_,h=>by obtain ⟨v,rfl,_⟩:=h;rfl
 | .nfn,_,_,h=>by have h:_=_:=h;subst h;rfl
 | .fn0 _,_,_,h=>by have h:_=_:=h;subst h;rfl
 | .clo _ _,_,_,h=>by obtain ⟨us,rfl,_⟩:=h;rfl
 | .ref _,_,_,h=>by obtain ⟨a,us,rfl,_⟩:=h;rfl
 | .sum _ _,_,_,h=>h.1
theorem errV.one {v:Value} {b:Bool} (h:errV v b):v.oneCell' =true:=by
 rcases h with ⟨_,rfl⟩ | ⟨_,t,u,rfl⟩<;>rfl
theorem RV.one {w:World} {F:Nat→Prop}: ∀ {t:Ty} {x:t.I} {cs:List Value},RV w F t x cs→ ∀ u∈cs,u.oneCell' =true
 | .int _,_,_,h=>by simp only [RV] at h;subst h;simp [Value.oneCell']
 | .bool,_,_,h=>by simp only [RV] at h;subst h;simp [Value.oneCell']
 | .str,_,_,h=>by obtain ⟨s,rfl,_⟩:=h;simp [Value.oneCell']
 | .pair a b,x,_,h=>by
  obtain ⟨c1,c2,rfl,h1,h2⟩:=h
  intro u hu
  rcases List.mem_append.1 hu with hu | hu
  ·exact h1.one u hu
  ·exact h2.one u hu
 | .list _,_,_,h=>by obtain ⟨A,c,rfl,_⟩:=h;simp [Value.oneCell']
 | .flt,_,_,h=>by have h:_=_:=h;subst h;simp [Value.oneCell']
 | .err,_,_,h=>by obtain ⟨v,rfl,h⟩:=h;simp [h.one]
 | .nfn,_,_,h=>by have h:_=_:=h;subst h;simp [Value.oneCell']
 | .fn0 _,_,_,h=>by have h:_=_:=h;subst h;simp [Value.oneCell']
 | .clo _ _,_,_,h=>by obtain ⟨us,rfl,_⟩:=h;simp [Value.oneCell']
 | .ref _,_,_,h=>by obtain ⟨a,us,rfl,_⟩:=h;simp [Value.oneCell']
 | .sum a b,x,_,h=>by
  obtain ⟨_,h⟩:=h
  cases x with
  | inl y=>exact RV.one (t:=a) h
  | inr y=>exact RV.one (t:=b) h
theorem z7 (a:Addr) (n:Nat):(a.add n).block=a.block:=by unfold Addr.add;split<;>rfl
theorem add_add (a:Addr) (i j:Nat):(a.add i).add j=a.add (i+j):=by
 unfold Addr.add
 by_cases hi:i=0<;>by_cases hj:j=0<;>simp [hi,hj,Nat.add_assoc]
theorem add_lit (g o n:Nat):(⟨g,o,none⟩:Addr).add n=⟨g,o+n,none⟩:=by
 unfold Addr.add;split
 ·rename_i h;subst h;rfl
 ·rfl
def Same (F:Nat→Prop) (w w' :World):Prop:= ∀ g,F g→w'.heap[g]? =w.heap[g]?
theorem Reads.keep {w w' :World} {F:Nat→Prop} {a:Addr} {us:List Value} (h:Reads w a us) (ha:F a.block) (hs:Same F w w'):Reads w' a us:=by
 intro j u hj
 obtain ⟨h1,h2⟩:=h j u hj
 exact ⟨(World.cell?_of_block (by rw [z7];exact hs _ ha)).trans h1,h2⟩
theorem RV.keep {w w' :World} {F F' :Nat→Prop} (hs:Same F w w') (hF: ∀ g,F g→F' g): ∀ {t:Ty} {x:t.I} {cs:List Value},RV w F t x cs→RV w' F' t x cs
 | .int _,_,_,h=>h
 | .bool,_,_,h=>h
 | .str,_,_,h=>h
 | .pair a b,x,_,h=>by
  obtain ⟨c1,c2,rfl,h1,h2⟩:=h
  exact ⟨c1,c2,rfl,h1.keep hs hF,h2.keep hs hF⟩
 | .list t,x,_,h=>by
  obtain ⟨A,c,rfl,h1,h2,h3⟩:=h
  refine ⟨A,c,rfl,h1,h2,fun i x hi=> ?_⟩
  obtain ⟨a,us,rfl,hb,hr,hc⟩:=h3 i x hi
  exact ⟨a,us,rfl,hF _ hb,hr.keep hs hF,hc.keep (F:=F) (by rw [z7];exact hb) hs⟩
 | .flt,_,_,h=>h
 | .err,_,_,h=>h
 | .nfn,_,_,h=>h
 | .fn0 _,_,_,h=>h
 | .clo _ t,x,_,h=>by
  obtain ⟨us,rfl,h⟩:=h
  exact ⟨us,rfl,h.keep hs hF⟩
 | .ref t,x,_,h=>by
  obtain ⟨a,us,rfl,hb,hr,hc⟩:=h
  exact ⟨a,us,rfl,hF _ hb,hr.keep hs hF,hc.keep hb hs⟩
 | .sum a b,x,_,h=>by
  obtain ⟨h1,h⟩:=h
  cases x with
  | inl y=>exact ⟨h1,RV.keep (t:=a) hs hF h⟩
  | inr y=>exact ⟨h1,RV.keep (t:=b) hs hF h⟩
theorem RE0.keep {w w' :World} {F F' :Nat→Prop} (hs:Same F w w') (hF: ∀ g,F g→F' g) {u:Value} {d:D} (h:RE0 w F u d):RE0 w' F' u d:=by
 cases d<;>simp only [RE0] at h ⊢
 case val=>exact h.keep hs hF
 case nils=>exact h
theorem RE0.toE {w:World} {F:Nat→Prop} {u:Value} {d:D} (h:RE0 w F u d):RE w F u d:=by
 cases d<;>simp only [RE0] at h
 all_goals exact h
theorem RE.keep {w w' :World} {F F' :Nat→Prop} (hs:Same F w w') (hF: ∀ g,F g→F' g) {u:Value} {d:D} (h:RE w F u d):RE w' F' u d:=by
 cases d<;>simp only [RE] at h ⊢
 case val=>exact h.keep hs hF
 case nils=>exact h
 case ept=>
  obtain ⟨a,us,h1,h2,h3,h4,h5⟩:=h
  refine ⟨a,us,h1,hF _ h2,h3.keep h2 hs,h4,fun j c hj=> ?_⟩
  obtain ⟨u',h6,h7⟩:=h5 j c hj
  exact ⟨u',h6,h7.keep hs hF⟩
def MLe (M M' :Nat→Option MO):Prop:= ∀ i mo,M i=some mo→M' i=some mo
theorem R0.keep {w w' :World} {F F' :Nat→Prop} {M M' :Nat→Option MO} (hs:Same F w w') (hF: ∀ g,F g→F' g) (hM:MLe M M') {v:Value} {d:D} (h:R0 w F M v d):R0 w' F' M' v d:=by
 cases d<;>simp only [R0] at h ⊢
 case und=>exact h
 case val=>exact h.keep hs hF
 case fn=>exact h
 case nils=>exact h
 case pnil=>exact h
 case slf=>exact h.imp_right fun ⟨mo,g,h1,h2⟩=>⟨mo,g,hM _ _ h1,h2⟩
 case clo=>
  obtain ⟨us,h1,h2,h3⟩:=h
  refine ⟨us,h1,h2,fun j c hj=> ?_⟩
  obtain ⟨u,h4,h5,h6⟩:=h3 j c hj
  exact ⟨u,h4,h5,h6.keep hs hF⟩
 case slo=>obtain ⟨mo,h1,h2⟩:=h;exact ⟨mo,hM _ _ h1,h2⟩
 case ptr=>obtain ⟨mo,g,h1,h2⟩:=h;exact ⟨mo,g,hM _ _ h1,h2⟩
 case aptr=>obtain ⟨mo,g,h1,h2⟩:=h;exact ⟨mo,g,hM _ _ h1,h2⟩
 case rptr=>obtain ⟨mo,g,h1,h2⟩:=h;exact ⟨mo,g,hM _ _ h1,h2⟩
 case ept=>
  obtain ⟨a,us,h1,h2,h3,h4,h5⟩:=h
  refine ⟨a,us,h1,hF _ h2,h3.keep h2 hs,h4,fun j c hj=> ?_⟩
  obtain ⟨u,h6,h7⟩:=h5 j c hj
  exact ⟨u,h6,h7.keep hs hF⟩
theorem R1.keep {w w' :World} {F F' :Nat→Prop} {M M' :Nat→Option MO} (hs:Same F w w') (hF: ∀ g,F g→F' g) (hM:MLe M M') {v:Value} {d:D} (h:R1 w F M v d):R1 w' F' M' v d:=by
 cases d
 case agg cs=>
  obtain ⟨vs,h1,h2,h3⟩:=h
  refine ⟨vs,h1,h2,fun j c hj=> ?_⟩
  obtain ⟨u,h4,h5,h6⟩:=h3 j c hj
  exact ⟨u,h4,h5,h6.keep hs hF hM⟩
 all_goals (simp only [R1] at h ⊢;exact R0.keep hs hF hM h)
theorem R.keep {w w' :World} {F F' :Nat→Prop} {M M' :Nat→Option MO} (hs:Same F w w') (hF: ∀ g,F g→F' g) (hM:MLe M M') {v:Value} {d:D} (h:R w F M v d):R w' F' M' v d:=by
 cases d
 case tup xs=>
  obtain ⟨vs,h1,h2,h3⟩:=h
  refine ⟨vs,h1,h2,fun j c hj=> ?_⟩
  obtain ⟨u,h4,h5⟩:=h3 j c hj
  exact ⟨u,h4,h5.keep hs hF hM⟩
 all_goals (simp only [R] at h ⊢;exact R1.keep hs hF hM h)
theorem R.of0 {w:World} {F:Nat→Prop} {M:Nat→Option MO} {v:Value} {d:D} (h:R0 w F M v d):R w F M v d:=by
 cases d<;>first | exact h | exact h.elim
theorem R1.of0 {w:World} {F:Nat→Prop} {M:Nat→Option MO} {v:Value} {d:D} (h:R0 w F M v d):R1 w F M v d:=by
 cases d<;>first | exact h | exact h.elim
theorem R.of1 {w:World} {F:Nat→Prop} {M:Nat→Option MO} {v:Value} {d:D} (h:R1 w F M v d):R w F M v d:=by
 cases d<;>first | exact h | exact h.elim
theorem Holds.keep {w w' :World} {F F' :Nat→Prop} (hs:Same F w w') (hF: ∀ g,F g→F' g) {t:Ty} {xs:List t.I} {us:List Value} (h:Holds w F t xs us):Holds w' F' t xs us:=
 fun i x hi=>(h i x hi).keep hs hF
theorem OwnR.keep {w w' :World} {F F' :Nat→Prop} (hs:Same F w w') (hF: ∀ g,F g→F' g) {B:Nat→Prop} {G:Option Nat} {v:Value} {e:TypeId} {t:Ty} {xs:List t.I}
  (hg: ∀ g,G=some g→w'.heap[g]? =w.heap[g]?) (h:OwnR w F B G v e t xs):OwnR w' F' B G v e t xs:=by
 rcases h with h | ⟨g,cap,us,h1,h2,h3,h4,h5,h6,h7,h8⟩
 ·exact .inl h
 ·exact .inr ⟨g,cap,us,h1,h2,h3,by rw [hg g h1];exact h4,h5,h6,h7,h8.keep hs hF⟩
theorem ObR.keep {w w' :World} {F F' :Nat→Prop} {M M' :Nat→Option MO} (hs:Same F w w') (hF: ∀ g,F g→F' g) (hM:MLe M M') {B:Nat→Prop} {mo:MO} {o:Ob}
  (hg: ∀ g,mo.g=some g→w'.heap[g]? =w.heap[g]?) (h:ObR w F M B mo o):ObR w' F' M' B mo o:=by
 cases o
 case cells p t cs=>
  obtain ⟨g,us,h1,h2,h3,h4⟩:=h
  refine ⟨g,us,h1,by rw [hg g h1];exact h2,h3,fun j c hj=> ?_⟩
  obtain ⟨u,h5,h6,h7⟩:=h4 j c hj
  exact ⟨u,h5,h6,h7.keep hs hF hM⟩
 case arr t xs=>
  obtain ⟨g,us,ty,h1,h2,h3,h4,h5⟩:=h
  exact ⟨g,us,ty,h1,h2,by rw [hg g h1];exact h3,h4,h5.keep hs hF⟩
 case row p e t xs=>exact ⟨h.1,h.2.keep hs hF hg⟩
 case buf e xs=>exact ⟨h.1,h.2.1.keep hs hF hg,h.2.2⟩
theorem MLe.refl (M:Nat→Option MO):MLe M M:=fun _ _ h=>h
theorem MLe.none (M:Nat→Option MO):MLe noM M:=fun _ _ h=>by cases h
theorem Inv.grow {P:Program} {w0:W0 P} {F0 F:Nat→Prop} {M:Nat→Option MO} {σ:St} {a:Act} {w w' :World} (h:Inv w0 F0 F M σ a w) (hb:Below w.heap.size w w'):Inv w0 F0 F M σ a w' :=by
 have hs:Same F w w' :=fun g hg=>hb.block g (h.flt g hg).1
 refine ⟨h.defers,h.size,fun i=>(h.slots i).keep hs (fun _ x=>x) (MLe.refl M),fun id o ho=> ?_,h.apart,fun i mi g hi hg=> ?_,fun g hg=> ?_,h.fle,?_,h.pins⟩
 ·obtain ⟨mo,h1,h2⟩:=h.obs id o ho
  exact ⟨mo,h1,h2.keep hs (fun _ x=>x) (MLe.refl M) fun g hg=>hb.block g (h.mine _ _ _ h1 hg).2.2⟩
 ·obtain ⟨h1,h2,h3⟩:=h.mine i mi g hi hg
  exact ⟨h1,h2,Nat.lt_of_lt_of_le h3 hb.size⟩
 ·obtain ⟨h1,h2⟩:=h.flt g hg
  exact ⟨Nat.lt_of_lt_of_le h1 hb.size,h2⟩
 ·exact h.below.trans hb
theorem qO (t:Nat) (d:D) (l:List (Nat×D)):find ((t,d)::l) t=d:=by simp [find]
theorem qP {t i:Nat} (d:D) (l:List (Nat×D)) (h:i≠t):find ((t,d)::l) i=find l i:=by
 have:Nat.beq i t=false:=by cases hb:Nat.beq i t with
  | false=>rfl
  | true=>exact absurd (Nat.eq_of_beq_eq_true hb) h
 simp [find,this]
theorem Inv.put {P:Program} {w0:W0 P} {F0 F:Nat→Prop} {M:Nat→Option MO} {σ:St} {a:Act} {w:World} (h:Inv w0 F0 F M σ a w) {v:Value} {d:D} (hr:R w F M v d) (dst:Option Nat):
  Inv w0 F0 F M (σ.put dst d) (a.put dst v) w:=by
 cases dst with
 | none=>exact h
 | some t=>
  refine ⟨h.defers,by simpa [St.put,Act.put] using h.size,fun i=> ?_,h.obs,h.apart,h.mine,h.flt,h.fle,h.below,h.pins⟩
  simp only [St.put,Act.put]
  by_cases hi:i=t
  ·subst hi
   rw [qO]
   by_cases hlt:i<σ.n
   ·have hb:Nat.blt i σ.n=true:=by simpa [Nat.blt_eq] using hlt
    rw [hb]
    have hsz:i<a.tmps.size:=by rw [h.size];exact hlt
    simpa [Array.getD,hsz] using hr
   ·have hb:Nat.blt i σ.n=false:=by
     cases hbb:Nat.blt i σ.n with
     | false=>rfl
     | true=>exact absurd (by simpa [Nat.blt_eq] using hbb) hlt
    rw [hb]
    exact trivial
  ·rw [qP _ _ hi]
   have:(a.tmps.setIfInBounds t v).getD i undef=a.tmps.getD i undef:=by
    simp only [Array.getD_eq_getD_getElem?]
    rw [Array.getElem?_setIfInBounds_ne (Ne.symm hi)]
   rw [this]
   exact h.slots i
theorem Inv.lit {P:Program} {w0:W0 P} {F0 F:Nat→Prop} {M:Nat→Option MO} {σ:St} {a:Act} {w:World} (h:Inv w0 F0 F M σ a w) {t:Nat} {b:Bool} (hb:a.tmps.getD t undef= .bool b):
  Inv w0 F0 F M (σ.lit t b) a w:=by
 refine ⟨h.defers,h.size,fun i=> ?_,h.obs,h.apart,h.mine,h.flt,h.fle,h.below,h.pins⟩
 simp only [St.lit]
 by_cases hi:i=t
 ·subst hi
  rw [qO,hb]
  show RV w F .bool b [Value.bool b]
  rfl
 ·rw [qP _ _ hi];exact h.slots i
theorem Inv.know {P:Program} {w0:W0 P} {F0 F:Nat→Prop} {M:Nat→Option MO} {σ:St} {a:Act} {w:World} (h:Inv w0 F0 F M σ a w) {t:Nat} {d:D} (hd:R w F M (a.tmps.getD t undef) d):
  Inv w0 F0 F M { σ with sl:=(t,d)::σ.sl } a w:=by
 refine ⟨h.defers,h.size,fun i=> ?_,h.obs,h.apart,h.mine,h.flt,h.fle,h.below,h.pins⟩
 show R w F M _ (find ((t,d)::σ.sl) i)
 by_cases hi:i=t
 ·subst hi
  rw [qO];exact hd
 ·rw [qP _ _ hi];exact h.slots i
def yu (M:Nat→Option MO) (id:Nat):Nat→Option MO:=fun j=>if j=id then none else M j
theorem zr {M:Nat→Option MO} {id j:Nat} {mo:MO} (h:yu M id j=some mo):j≠id∧M j=some mo:=by
 unfold yu at h
 split at h
 ·cases h
 ·exact ⟨‹_›,h⟩
theorem yT {M:Nat→Option MO} {id j:Nat} (h:j≠id):yu M id j=M j:=by unfold yu;rw [if_neg h]
theorem zj (i j:Nat):(i=j∧Nat.beq i j=true)∨(i≠j∧Nat.beq i j=false):=by
 by_cases h:i=j
 ·exact .inl ⟨h,by subst h;exact Nat.beq_refl i⟩
 ·refine .inr ⟨h,?_⟩
  cases hb:Nat.beq i j with
  | false=>rfl
  | true=>exact absurd (Nat.eq_of_beq_eq_true hb) h
section
variable {w:World} {F F' :Nat→Prop} {M:Nat→Option MO} {id:Nat} {new:D}
theorem R0.ice (hF: ∀ g,F g→F' g) (hn: ∀ mo,M id=some mo→R0 w F' (yu M id) mo.v new) {v:Value} {d:D} (h:R0 w F M v d):R0 w F' (yu M id) v (ic0 id new d):=by
 have hs:Same F w w:=fun _ _=>rfl
 cases d
 case slo i=>
  obtain ⟨mo,h1,rfl,h3⟩:=h
  simp only [ic0]
  rcases zj i id with ⟨rfl,hb⟩ | ⟨hne,hb⟩
  ·rw [hb];exact hn mo h1
  ·rw [hb];exact ⟨mo,by rw [yT hne];exact h1,rfl,h3⟩
 case ptr i o=>
  obtain ⟨mo,g,h1,h2⟩:=h
  simp only [ic0]
  rcases zj i id with ⟨rfl,hb⟩ | ⟨hne,hb⟩
  ·rw [hb];exact trivial
  ·rw [hb];exact ⟨mo,g,by rw [yT hne];exact h1,h2⟩
 case aptr i=>
  obtain ⟨mo,g,h1,h2⟩:=h
  simp only [ic0]
  rcases zj i id with ⟨rfl,hb⟩ | ⟨hne,hb⟩
  ·rw [hb];exact trivial
  ·rw [hb];exact ⟨mo,g,by rw [yT hne];exact h1,h2⟩
 case rptr i x o=>
  obtain ⟨mo,g,h1,h2⟩:=h
  simp only [ic0]
  rcases zj i id with ⟨rfl,hb⟩ | ⟨hne,hb⟩
  ·rw [hb];exact trivial
  ·rw [hb];exact ⟨mo,g,by rw [yT hne];exact h1,h2⟩
 case slf i=>
  simp only [ic0]
  rcases zj i id with ⟨rfl,hb⟩ | ⟨hne,hb⟩
  ·rw [hb];exact trivial
  ·rw [hb];exact h.imp_right fun ⟨mo,g,h1,h2⟩=>⟨mo,g,by rw [yT hne];exact h1,h2⟩
 case pnil=>exact h
 case clo g cs=>
  obtain ⟨us,h1,h2,h3⟩:=h
  refine ⟨us,h1,h2,fun j c hj=> ?_⟩
  obtain ⟨u,h4,h5,h6⟩:=h3 j c hj
  exact ⟨u,h4,h5,h6.keep hs hF⟩
 case agg=>exact h.elim
 case tup=>exact h.elim
 case own=>exact h.elim
 case bad=>exact trivial
 case und=>exact h
 case val=>exact RV.keep hs hF h
 case fn=>exact h
 case nils=>exact h
 case ept cs=>
  obtain ⟨a,us,h1,h2,h3,h4,h5⟩:=h
  refine ⟨a,us,h1,hF _ h2,h3,h4,fun j c hj=> ?_⟩
  obtain ⟨u,h6,h7⟩:=h5 j c hj
  exact ⟨u,h6,h7.keep hs hF⟩
theorem zcv (cs:List D): ∀ j:Nat,(zas id new cs)[j]? =(cs[j]?).map (ic0 id new):=by
 induction cs with
 | nil=>intro j;simp [zas]
 | cons c r ih=>
  intro j
  cases j with
  | zero=>simp [zas]
  | succ j=>simpa [zas] using ih j
theorem zcw (cs:List D):(zas id new cs).length=cs.length:=by
 induction cs with
 | nil=>rfl
 | cons c r ih=>simp [zas,ih]
theorem ziW (cs:List D): ∀ j:Nat,(zeR id new cs)[j]? =(cs[j]?).map (ic1 id new):=by
 induction cs with
 | nil=>intro j;simp [zeR]
 | cons c r ih=>
  intro j
  cases j with
  | zero=>simp [zeR]
  | succ j=>simpa [zeR] using ih j
theorem ziX (cs:List D):(zeR id new cs).length=cs.length:=by
 induction cs with
 | nil=>rfl
 | cons c r ih=>simp [zeR,ih]
theorem R1.ice (hF: ∀ g,F g→F' g) (hn: ∀ mo,M id=some mo→R0 w F' (yu M id) mo.v new) {v:Value} {d:D} (h:R1 w F M v d):R1 w F' (yu M id) v (ic1 id new d):=by
 cases d
 case agg cs=>
  obtain ⟨us,h1,h2,h3⟩:=h
  refine ⟨us,h1,by rw [zcw];exact h2,fun j c hj=> ?_⟩
  rw [zcv] at hj
  obtain ⟨c',hc',rfl⟩:=Option.map_eq_some_iff.1 hj
  obtain ⟨u,h4,h5,h6⟩:=h3 j c' hc'
  exact ⟨u,h4,h5,h6.ice hF hn⟩
 all_goals (simp only [R1] at h;simp only [ic1];exact R1.of0 (h.ice hF hn))
theorem R.ice (hF: ∀ g,F g→F' g) (hn: ∀ mo,M id=some mo→R0 w F' (yu M id) mo.v new) {v:Value} {d:D} (h:R w F M v d):R w F' (yu M id) v (ic2 id new d):=by
 cases d
 case tup xs=>
  obtain ⟨us,h1,h2,h3⟩:=h
  refine ⟨us,h1,by rw [ziX];exact h2,fun j c hj=> ?_⟩
  rw [ziW] at hj
  obtain ⟨c',hc',rfl⟩:=Option.map_eq_some_iff.1 hj
  obtain ⟨u,h4,h5⟩:=h3 j c' hc'
  exact ⟨u,h4,h5.ice hF hn⟩
 all_goals (simp only [R] at h;simp only [ic2];exact R.of1 (h.ice hF hn))
theorem zlx (l:List (Nat×D)) (i:Nat):find (zfL id new l) i=ic2 id new (find l i):=by
 induction l with
 | nil=>rfl
 | cons p r ih=>
  obtain ⟨j,d⟩:=p
  simp only [zfL,find]
  cases Nat.beq i j
  ·exact ih
  ·rfl
def icOb (id:Nat) (new:D):Ob→Ob
 | .cells p T cs=> .cells p T (zas id new cs)
 | o=>o
theorem qw (l:List (Nat×Ob)) (i:Nat):zg (qB id new l) i=if i=id then none else (zg l i).map (icOb id new):=by
 induction l with
 | nil=>simp [qB,zg]
 | cons p r ih=>
  obtain ⟨j,o⟩:=p
  have key:zg (qB id new ((j,o)::r)) i=zg (bif Nat.beq j id then qB id new r else (j,icOb id new o)::qB id new r) i:=by
   cases o<;>rfl
  rw [key]
  rcases zj j id with ⟨rfl,hb⟩ | ⟨hne,hb⟩
  ·rw [hb]
   simp only [cond_true,ih,zg]
   by_cases hi:i=j
   ·simp [hi]
   ·rw [if_neg hi]
    have hbb:Nat.beq i j=false:=(zj i j).resolve_left (fun h=>hi h.1) |>.2
    rw [if_neg hi];show _=Option.map _ (bif Nat.beq i j then some o else zg r i);rw [hbb];rfl
  ·rw [hb]
   show (bif Nat.beq i j then some (icOb id new o) else zg (qB id new r) i)=if i=id then none else Option.map (icOb id new) (bif Nat.beq i j then some o else zg r i)
   rw [ih]
   rcases zj i j with ⟨rfl,hbb⟩ | ⟨hij,hbb⟩
   ·simp [hne]
   ·rw [hbb];rfl
theorem ObR.ice (hF: ∀ g,F g→F' g) (hn: ∀ mo,M id=some mo→R0 w F' (yu M id) mo.v new) {B:Nat→Prop} {mo:MO} {o:Ob} (h:ObR w F M B mo o):ObR w F' (yu M id) B mo (icOb id new o):=by
 have hs:Same F w w:=fun _ _=>rfl
 cases o
 case cells p t cs=>
  obtain ⟨g,us,h1,h2,h3,h4⟩:=h
  refine ⟨g,us,h1,h2,by rw [zcw];exact h3,fun j c hj=> ?_⟩
  rw [zcv] at hj
  obtain ⟨c',hc',rfl⟩:=Option.map_eq_some_iff.1 hj
  obtain ⟨u,h5,h6,h7⟩:=h4 j c' hc'
  exact ⟨u,h5,h6,h7.ice hF hn⟩
 case arr t xs=>
  obtain ⟨g,us,ty,h1,h2,h3,h4,h5⟩:=h
  exact ⟨g,us,ty,h1,h2,h3,h4,h5.keep hs hF⟩
 case row p e t xs=>exact ⟨h.1,h.2.keep hs hF fun _ _=>rfl⟩
 case buf e xs=>exact ⟨h.1,h.2.1.keep hs hF fun _ _=>rfl,h.2.2⟩
theorem Inv.ice_ {P:Program} {w0:W0 P} {F0:Nat→Prop} {σ:St} {a:Act} (h:Inv w0 F0 F M σ a w) (hF: ∀ g,F g→F' g) (hF' : ∀ g,F' g→F g∨ ∃ mo,M id=some mo∧mo.g=some g)
  (hn: ∀ mo,M id=some mo→R0 w F' (yu M id) mo.v new):Inv w0 F0 F' (yu M id) { σ with sl:=zfL id new σ.sl,ob:=qB id new σ.ob } a w:=by
 refine ⟨h.defers,h.size,fun i=> ?_,fun j o ho=> ?_,fun i j mi mj g hi hj=> ?_,fun i mi g hi hg=> ?_,fun g hg=> ?_,fun g hg=>hF g (h.fle g hg),h.below,fun j o ho hp=> ?_⟩
 ·show R _ _ _ _ (find (zfL id new σ.sl) i)
  rw [zlx];exact (h.slots i).ice hF hn
 ·change zg (qB id new σ.ob) j=some o at ho
  rw [qw] at ho
  split at ho
  ·cases ho
  ·obtain ⟨o',h1,rfl⟩:=Option.map_eq_some_iff.1 ho
   obtain ⟨mo,h2,h3⟩:=h.obs j o' h1
   exact ⟨mo,by rw [yT ‹_›];exact h2,h3.ice hF hn⟩
 ·exact h.apart i j mi mj g (zr hi).2 (zr hj).2
 ·obtain ⟨hne,hi'⟩:=zr hi
  obtain ⟨h1,h2⟩:=h.mine i mi g hi' hg
  refine ⟨fun hc=> ?_,h2⟩
  rcases hF' g hc with hc | ⟨mo,hm,hg'⟩
  ·exact h1 hc
  ·exact hne (h.apart i id mi mo g hi' hm hg hg')
 ·rcases hF' g hg with hc | ⟨mo,hm,hg'⟩
  ·exact h.flt g hc
  ·obtain ⟨_,h2,h3⟩:=h.mine id mo g hm hg'
   exact ⟨h3,.inr h2⟩
 ·change zg (qB id new σ.ob) j=some o at ho
  rw [qw] at ho
  split at ho
  ·cases ho
  ·obtain ⟨o',h1,rfl⟩:=Option.map_eq_some_iff.1 ho
   rw [yT ‹_›]
   exact h.pins j o' h1 (by rw [← hp];cases o' <;>rfl)
theorem Inv.kill {P:Program} {w0:W0 P} {F0:Nat→Prop} {σ:St} {a:Act} (h:Inv w0 F0 F M σ a w) (id:Nat):Inv w0 F0 F (yu M id) (σ.kill id) a w:=
 h.ice_ (fun _ x=>x) (fun _ x=> .inl x) fun _ _=>trivial
theorem yp (M:Nat→Option MO) (id:Nat):yu M id id=none:=by simp [yu]
end
theorem OwnR.reads {w:World} {F F' :Nat→Prop} {B:Nat→Prop} {G:Option Nat} {v:Value} {e:TypeId} {t:Ty} {xs:List t.I} (h:OwnR w F B G v e t xs) (hF: ∀ g,F g→F' g)
  (hG: ∀ g,G=some g→F' g):RV w F' (.list t) xs [v]:=by
 rcases h with ⟨rfl,rfl,A,rfl⟩ | ⟨g,cap,us,rfl,_,rfl,hg,hc,hm,hs,hh⟩
 ·exact ⟨A,0,rfl,Nat.le_refl _,by simp [maxLen],fun i x hi=>by simp at hi⟩
 ·refine ⟨_,cap,rfl,hc,hm,fun i x hi=> ?_⟩
  have hr:=(hh i x hi).keep (w' :=w) (F' :=F') (fun _ _=>rfl) hF
  refine ⟨⟨g,0,none⟩,_,rfl,hG g rfl,hr,fun j u hj=>⟨?_,hr.one u (List.mem_of_getElem? hj)⟩⟩
  rw [add_lit,add_lit,cell_of_row w g _ us e (0,0) hg]
  rw [List.getElem?_take] at hj
  split at hj
  ·rw [List.getElem?_drop] at hj
   simpa using hj
  ·cases hj
theorem Inv.ice {P:Program} {w0:W0 P} {F0 F:Nat→Prop} {M:Nat→Option MO} {σ:St} {a:Act} {w:World} (h:Inv w0 F0 F M σ a w) (id:Nat): ∃ F' M',Inv w0 F0 F' M' (σ.ice id) a w∧(∀ g,F g→F' g):=by
 unfold St.ice
 split
 ·rename_i e t xs hf
  obtain ⟨mo,h1,h2⟩:=h.obs id _ hf
  refine ⟨fun b=>F b∨mo.g=some b,yu M id,h.ice_ (fun _ x=> .inl x) (fun g hg=>hg.imp_right fun hg=>⟨mo,h1,hg⟩) fun mo' hmo' => ?_,fun _ x=> .inl x⟩
  have:mo' =mo:=Option.some.inj (hmo'.symm.trans h1)
  subst this
  exact h2.2.reads (F' :=fun b=>F b∨mo'.g=some b) (fun _ x=>Or.inl x) fun g hg=>Or.inr hg
 ·exact ⟨F,M,h,fun _ x=>x⟩
theorem Inv.iceAll {P:Program} {w0:W0 P} {F0:Nat→Prop} {a:Act} {w:World} (l:List Nat): ∀ {F:Nat→Prop} {M:Nat→Option MO} {σ:St},Inv w0 F0 F M σ a w→
  ∃ F' M',Inv w0 F0 F' M' (σ.iceAll l) a w∧(∀ g,F g→F' g):=by
 induction l with
 | nil=>intro F M σ h;exact ⟨F,M,h,fun _ x=>x⟩
 | cons i r ih=>
  intro F M σ h
  obtain ⟨F1,M1,h1,hF1⟩:=h.ice i
  obtain ⟨F2,M2,h2,hF2⟩:=ih h1
  exact ⟨F2,M2,h2,fun g hg=>hF2 g (hF1 g hg)⟩
end
section
open Go.RowKit
section
variable {P:Program} {w0:W0 P} {w:World} {F0 F:Nat→Prop} {M:Nat→Option MO} {σ:St} {a:Act}
theorem Inv.putOb {w' :World} (h:Inv w0 F0 F M σ a w) (hb:Below w.heap.size w w') (d:Nat) (o:Ob) (p:D) (mo:MO) (v:Value)
  (hg: ∀ g,mo.g=some g→w.heap.size≤g∧g<w'.heap.size)
  (ho: ∀ M',M' d=some mo→MLe (yu M d) M' →ObR w' F M' w0.nw mo o)
  (hp: ∀ M',M' d=some mo→MLe (yu M d) M' →R w' F M' v p) (hpin:o.pin=false:=by rfl): ∃ M',Inv w0 F0 F M' (σ.putOb d o p) (a.put (some d) v) w' :=by
 have h1:=(h.kill d).grow hb
 have hM:MLe (yu M d) (fun j=>if j=d then some mo else yu M d j):=fun i m hi=>by
  have:=(zr hi).1
  simp only [this,if_false];exact hi
 have hinv:Inv w0 F0 F (fun j=>if j=d then some mo else yu M d j) { σ.kill d with ob:=(d,o)::(σ.kill d).ob } a w' :=by
  refine ⟨h1.defers,h1.size,fun i=>(h1.slots i).keep (fun _ _=>rfl) (fun _ x=>x) hM,fun j o' ho' => ?_,fun i j mi mj g hi hj hgi hgj=> ?_,fun i mi g hi hgi=> ?_,h1.flt,h1.fle,h1.below,fun j o' ho' hpo=> ?_⟩
  ·change zg ((d,o)::(σ.kill d).ob) j=some o' at ho'
   simp only [zg] at ho'
   rcases zj j d with ⟨rfl,hbq⟩ | ⟨hne,hbq⟩
   ·rw [hbq] at ho'
    have:o=o' :=Option.some.inj ho'
    subst this
    exact ⟨mo,by simp,ho _ (by simp) hM⟩
   ·rw [hbq] at ho'
    obtain ⟨m,h2,h3⟩:=h1.obs j o' ho'
    exact ⟨m,by simp only [hne,if_false];exact h2,h3.keep (fun _ _=>rfl) (fun _ x=>x) hM fun _ _=>rfl⟩
  ·have hlt: ∀ k mk g,(if k=d then some mo else yu M d k)=some mk→mk.g=some g→(k=d∧w.heap.size≤g)∨(k≠d∧g<w.heap.size∧yu M d k=some mk):=by
    intro k mk g hk hgk
    by_cases hkd:k=d
    ·simp only [hkd,if_true] at hk
     have:mo=mk:=Option.some.inj hk
     subst this
     exact .inl ⟨hkd,(hg g hgk).1⟩
    ·simp only [hkd,if_false] at hk
     exact .inr ⟨hkd,(h.mine _ _ _ (zr hk).2 hgk).2.2,hk⟩
   rcases hlt i mi g hi hgi with ⟨h2,h3⟩ | ⟨h2,h3,h4⟩<;>rcases hlt j mj g hj hgj with ⟨h5,h6⟩ | ⟨h5,h6,h7⟩
   ·rw [h2,h5]
   ·omega
   ·omega
   ·exact h1.apart i j mi mj g h4 h7 hgi hgj
  ·by_cases hid:i=d
   ·simp only [hid,if_true] at hi
    have:mo=mi:=Option.some.inj hi
    subst this
    obtain ⟨h2,h3⟩:=hg g hgi
    exact ⟨fun hc=>by have:=(h.flt g hc).1;omega,h.below.new (by omega),h3⟩
   ·simp only [hid,if_false] at hi
    exact h1.mine i mi g hi hgi
  ·change zg ((d,o)::(σ.kill d).ob) j=some o' at ho'
   simp only [zg] at ho'
   rcases zj j d with ⟨rfl,hbq⟩ | ⟨hne,hbq⟩
   ·rw [hbq] at ho'
    have:o=o' :=Option.some.inj ho'
    subst this
    rw [hpin] at hpo;cases hpo
   ·rw [hbq] at ho'
    have:=h1.pins j o' ho' hpo
    simp only [hne,if_false];exact this
 exact ⟨_,hinv.put (hp _ (by simp) hM) (some d)⟩
theorem R0.ofVal (v:Value):R0 w F M v (ofVal v):=by
 unfold Vc.ofVal
 split
 ·exact rfl
 ·exact rfl
 ·exact ⟨_,rfl,rfl⟩
 ·exact ⟨none,rfl⟩
 ·exact rfl
 ·exact rfl
 ·exact ⟨_,rfl,.inl ⟨rfl,rfl⟩⟩
 ·exact rfl
 ·exact trivial
theorem Inv.ev (h:Inv w0 F0 F M σ a w) (x:Operand):R w F M (a.eval x) (ev σ x):=by
 cases x with
 | tmp t=>exact h.slots t
 | const v=>exact R.of0 (R0.ofVal v)
 | global g=>exact trivial
 | func f=>exact rfl
theorem R.int {k:IntKind} {n:Int} {v:Value} (h:R w F M v (.val (.int k) n)):v= .int k n:=by
 have h:[v]=[Value.int k n]:=h
 simpa using h
theorem R.bool {b:Bool} {v:Value} (h:R w F M v (.val .bool b)):v= .bool b:=by
 have h:[v]=[Value.bool b]:=h
 simpa using h
theorem R.str {l:List UInt8} {v:Value} (h:R w F M v (.val .str l)): ∃ s:ByteArray,v= .string s∧s.data.toList=l:=by
 obtain ⟨s,h1,h2⟩:=h
 exact ⟨s,by simpa using h1,h2⟩
theorem R.list {t:Ty} {xs:List t.I} {v:Value} (h:R w F M v (.val (.list t) xs)): ∃ A c,v= .slice A xs.length c∧xs.length≤c∧c≤maxLen∧
  ∀ (i:Nat) x,xs[i]? =some x→ ∃ a us,A=some a∧F a.block∧RV w F t x us∧Reads w (a.add (i*t.width)) us:=by
 obtain ⟨A,c,h1,h2⟩:=h
 exact ⟨A,c,by simpa using h1,h2⟩
def Yields (P:Program) (F:Nat→Prop) (M:Nat→Option MO) (w:World) (s:Sem Value) (K:D→Prop):Prop:=
 ∃ v d,K d∧R w F M v d∧ ∀ w',Below w.heap.size w w' →s.run P w' = .ok v w'
theorem Yields.pure {v:Value} {d:D} {K:D→Prop} (hK:K d) (hr:R w F M v d):Yields P F M w (Pure.pure v) K:=⟨v,d,hK,hr,fun _ _=>rfl⟩
theorem Yields.of_eq {s s' :Sem Value} {K:D→Prop} (h:Yields P F M w s' K) (he: ∀ w',Below w.heap.size w w' →s.run P w' =s'.run P w'):Yields P F M w s K:=by
 obtain ⟨v,d,h1,h2,h3⟩:=h
 exact ⟨v,d,h1,h2,fun w' hb=>(he w' hb).trans (h3 w' hb)⟩
theorem jg {t:TypeId} {b:Bool} (h:zat P t=some b) (w' :World):(isAgg t).run P w' = .ok b w' ∧ ∃ i,P.info? t=some i∧zu P t=i.size:=by
 unfold zat at h
 cases hu:P.underlying t with
 | none=>rw [hu] at h;cases h
 | some d=>
  refine ⟨?_,?_⟩
  ·unfold isAgg
   rw [Sem.run_bind,run_underlying hu w']
   rw [hu] at h
   cases d<;>simp_all
  ·unfold Program.underlying at hu
   cases hi:P.info? t with
   | none=>simp [hi] at hu
   | some i=>exact ⟨i,rfl,by unfold zu;rw [hi]⟩
theorem qF {t:TypeId} {cs:List D} {K:D→Prop} (hk:zb5 P t cs K) (p:Addr) (hp:p.block<w.heap.size)
  (hc: ∀ (j:Nat) c,cs[j]? =some c→ ∃ u,w.cell? (p.add j)=some u∧u.oneCell' =true∧R0 w F M u c):Yields P F M w (loadVar t p) K:=by
 have hcell: ∀ w',Below w.heap.size w w' → ∀ j,w'.cell? (p.add j)=w.cell? (p.add j):=fun w' hb j=>hb.cell (by rw [z7];exact hp)
 unfold zb5 at hk
 cases hagg:zat P t with
 | none=>rw [hagg] at hk;exact hk.elim
 | some b=>
 cases b with
 | true=>
  rw [hagg] at hk
  have hk' :(bif Nat.ble (zu P t) cs.length then K (.agg (cs.take (zu P t))) else False):=hk
  cases hble:Nat.ble (zu P t) cs.length with
  | false=>rw [hble] at hk';exact hk'.elim
  | true=>
   rw [hble] at hk'
   have hle:zu P t≤cs.length:=by simpa using hble
   have hall: ∀ j,j<zu P t→ ∃ u,w.cell? (p.add j)=some u∧u.oneCell' =true∧R0 w F M u (cs.getD j .bad):=fun j hj=>by
    have:=hc j (cs.getD j .bad) (by simp [List.getD,List.getElem?_eq_getElem (show j<cs.length by omega)])
    exact this
   have: ∃ f:Nat→Value,∀ j,j<zu P t→w.cell? (p.add j)=some (f j)∧(f j).oneCell' =true∧R0 w F M (f j) (cs.getD j .bad):=by
    refine ⟨fun j=>(w.cell? (p.add j)).getD undef,fun j hj=> ?_⟩
    obtain ⟨u,h1,h2,h3⟩:=hall j hj
    have e:(w.cell? (p.add j)).getD undef=u:=by rw [h1];rfl
    show w.cell? (p.add j)=some ((w.cell? (p.add j)).getD undef)∧((w.cell? (p.add j)).getD undef).oneCell' =true∧R0 w F M ((w.cell? (p.add j)).getD undef) (cs.getD j .bad)
    rw [e]
    exact ⟨h1,h2,h3⟩
   obtain ⟨f,hf⟩:=this
   refine ⟨.agg ((List.range (zu P t)).map f).toArray,_,hk',⟨_,rfl,by simp;omega,fun j c hj=> ?_⟩,fun w' hb=> ?_⟩
   ·rw [List.getElem?_take] at hj
    split at hj
    ·rename_i hlt
     refine ⟨f j,by simp [hlt],(hf j hlt).2.1,?_⟩
     have:=(hf j hlt).2.2
     simpa [List.getD,hj] using this
    ·cases hj
   ·obtain ⟨hag,i,hi,hi2⟩:=jg hagg w'
    have hl:=run_loadCells (P:=P) w' p i.size f (fun j hj=>by rw [hcell w' hb];exact (hf j (by omega)).1)
    simp [loadVar,hag,sizeOf,typeInfo,hi,hl,hi2]
 | false=>
  rw [hagg] at hk
  cases cs with
  | nil=>exact hk.elim
  | cons c r=>
   obtain ⟨u,h1,h2,h3⟩:=hc 0 c rfl
   refine ⟨u,c,hk,R.of0 h3,fun w' hb=> ?_⟩
   obtain ⟨hag,_⟩:=jg hagg w'
   have h0:=hcell w' hb 0
   have:p.add 0=p:=by simp [Addr.add]
   rw [this] at h0 h1
   simp [loadVar,hag,h0,h1]
theorem q9: ∀ (t:Ty) (x:t.I),(enc t x).length=t.width
 | .pair a b,x=>by simp [enc,q9 a x.1,q9 b x.2,Ty.width]
 | .int _,_=>rfl
 | .bool,_=>rfl
 | .str,_=>rfl
 | .list _,_=>rfl
 | .flt,_=>rfl
 | .err,_=>rfl
 | .nfn,_=>rfl
 | .fn0 _,_=>rfl
 | .clo _ _,_=>rfl
 | .ref _,_=>rfl
 | .sum _ _,_=>rfl
theorem enc1 {t:Ty} {x:t.I} {us:List Value} (h:RV w F t x us) (he:enc t x=[.val t x]) {j:Nat} {c:D} (hj:(enc t x)[j]? =some c): ∃ u,us[j]? =some u∧RE w F u c:=by
 have hl:=h.len
 rw [← q9 t x,he] at hl
 rw [he] at hj
 match us,hl with
 | [u],_=>
  cases j with
  | zero=>
   have:D.val t x=c:=by simpa using hj
   subst this
   exact ⟨u,rfl,h⟩
  | succ j=>simp at hj
theorem yU: ∀ {t:Ty} {x:t.I} {us:List Value},RV w F t x us→ ∀ (j:Nat) c,(enc t x)[j]? =some c→ ∃ u,us[j]? =some u∧RE w F u c
 | .int k,x,us,h,j,c,hj=>enc1 h rfl hj
 | .bool,x,us,h,j,c,hj=>enc1 h rfl hj
 | .str,x,us,h,j,c,hj=>enc1 h rfl hj
 | .list t,x,us,h,j,c,hj=>enc1 h rfl hj
 | .flt,x,us,h,j,c,hj=>enc1 h rfl hj
 | .err,x,us,h,j,c,hj=>enc1 h rfl hj
 | .nfn,x,us,h,j,c,hj=>enc1 h rfl hj
 | .fn0 _,x,us,h,j,c,hj=>enc1 h rfl hj
 | .clo _ _,x,us,h,j,c,hj=>enc1 h rfl hj
 | .ref _,x,us,h,j,c,hj=>enc1 h rfl hj
 | .sum _ _,x,us,h,j,c,hj=>enc1 h rfl hj
 | .pair a b,x,us,h,j,c,hj=>by
  obtain ⟨c1,c2,rfl,h1,h2⟩:=h
  simp only [enc] at hj
  have hl:(enc a x.1).length=c1.length:=by rw [q9,h1.len]
  rcases Nat.lt_or_ge j (enc a x.1).length with hlt | hge
  ·rw [List.getElem?_append_left hlt] at hj
   obtain ⟨u,h3,h4⟩:=yU h1 j c hj
   exact ⟨u,by rw [List.getElem?_append_left (by omega)];exact h3,h4⟩
  ·rw [List.getElem?_append_right hge] at hj
   obtain ⟨u,h3,h4⟩:=yU h2 _ c hj
   exact ⟨u,by rw [List.getElem?_append_right (by omega)];rw [← hl];exact h3,h4⟩
theorem RE.to0 {u:Value} {c:D} (h:RE w F u c):R0 w F M u c:=by
 cases c<;>simp only [RE] at h
 case val=>exact h
 case nils=>exact h
 case ept=>
  obtain ⟨a,us,h1,h2,h3,h4,h5⟩:=h
  refine ⟨a,us,h1,h2,h3,h4,fun j c hj=> ?_⟩
  obtain ⟨u',h6,h7⟩:=h5 j c hj
  exact ⟨u',h6,h7.toE⟩
def QY (P:Program) (F:Nat→Prop) (M:Nat→Option MO) (a:Act) (w:World) (o:Oper) (K:D→Prop):Prop:=
 ∃ v d,K d∧R w F M v d∧ ∀ w',Below w.heap.size w w' →(execOp a.eval o).run P w' = .ok (.value v) w'
theorem Yields.qy {s:Sem Value} {K:D→Prop} {o:Oper} (h:Yields P F M w s K) (he:execOp a.eval o=(do let v ← s;Pure.pure (Next.value v))):QY P F M a w o K:=by
 obtain ⟨v,d,h1,h2,h3⟩:=h
 exact ⟨v,d,h1,h2,fun w' hb=>by rw [he,Sem.run_bind,h3 w' hb];rfl⟩
variable {o:Oper} {K:D→Prop}
theorem zqV (h:Inv w0 F0 F M σ a w) {x:Operand} (ho:o.op= .move x) (hk:K (ev σ x)):QY P F M a w o K:=
 ⟨_,_,hk,h.ev x,fun _ _=>by unfold execOp;rw [ho];rfl⟩
theorem zly (h:Inv w0 F0 F M σ a w) {x:Operand} (ho:o.op= .assign x) (hk:K (ev σ x)):QY P F M a w o K:=
 ⟨_,_,hk,h.ev x,fun _ _=>by unfold execOp;rw [ho];rfl⟩
theorem zqW (h:Inv w0 F0 F M σ a w) {c x y:Operand} (ho:o.op= .pick c x y) (hk:wpq P σ (.pick c x y) K):QY P F M a w o K:=by
 unfold wpq at hk
 dsimp only at hk
 split at hk
 ·rename_i b hb
  have hc:=h.ev c
  rw [hb] at hc
  have hc:=hc.bool
  cases b with
  | true=>exact ⟨_,_,hk,h.ev x,fun _ _=>by unfold execOp;rw [ho];simp [hc,asBool]⟩
  | false=>exact ⟨_,_,hk,h.ev y,fun _ _=>by unfold execOp;rw [ho];simp [hc,asBool]⟩
 ·exact hk.elim
theorem zh7 (h:Inv w0 F0 F M σ a w) {x:Operand} (ho:o.op= .nilCheck x) (hk:wpq P σ (.nilCheck x) K):QY P F M a w o K:=by
 unfold wpq at hk
 dsimp only at hk
 have hx:=h.ev x
 split at hk<;>rename_i hb<;>first | exact hk.elim | skip
 ·rw [hb] at hx
  obtain ⟨mo,g,h1,h2,h3⟩:=id hx
  exact ⟨_,_,hk,hx,fun _ _=>by unfold execOp;rw [ho];simp [h3]⟩
 ·rw [hb] at hx
  obtain ⟨mo,g,h1,h2,h3⟩:=id hx
  exact ⟨_,_,hk,hx,fun _ _=>by unfold execOp;rw [ho];simp [h3]⟩
 ·rw [hb] at hx
  obtain ⟨mo,g,h1,h2,h3⟩:=id hx
  exact ⟨_,_,hk,hx,fun _ _=>by unfold execOp;rw [ho];simp [h3]⟩
 ·rw [hb] at hx
  obtain ⟨ad,us,h1,h2⟩:=id hx
  exact ⟨_,_,hk,hx,fun _ _=>by unfold execOp;rw [ho];simp [h1]⟩
theorem zfO {t:Ty} {xs:List t.I} {i:Int} (h:inR i xs.length):xs[i.toNat]? =some (atI t xs i):=by
 obtain ⟨h1,h2⟩:=h
 have:i.toNat<xs.length:=by omega
 simp [atI,List.getD,List.getElem?_eq_getElem this]
theorem zgM (h:Inv w0 F0 F M σ a w) {i:Nat} {pn:Bool} {t:TypeId} {cs:List D} (hf:zg σ.ob i=some (.cells pn t cs)) {mo:MO} {g:Nat} (hm:M i=some mo) (hg:mo.g=some g) (off:Nat):
  g<w.heap.size∧ ∀ (j:Nat) c,(cs.drop off)[j]? =some c→ ∃ u,w.cell? ((⟨g,off,none⟩:Addr).add j)=some u∧u.oneCell' =true∧R0 w F M u c:=by
 obtain ⟨mo',h1,g',us,h2,h3,h4,h5⟩:=h.obs i _ hf
 have:mo' =mo:=Option.some.inj (h1.symm.trans hm)
 subst this
 have:g' =g:=Option.some.inj (h2.symm.trans hg)
 subst this
 refine ⟨(h.mine _ _ _ hm hg).2.2,fun j c hj=> ?_⟩
 rw [List.getElem?_drop] at hj
 obtain ⟨u,h6,h7,h8⟩:=h5 _ c hj
 exact ⟨u,by rw [add_lit,cell_of_row w g' _ us t (0,0) h3];exact h6,h7,h8⟩
theorem zcx {g:Nat} {us:Array Value} {ty:TypeId} {t:Ty} {xs:List t.I} (hg:w.heap[g]? =some (.cells us ty (0,0))) (hh:Holds w F t xs us.toList) {i:Int} (hi:inR i xs.length) (off:Nat):
  ∀ (j:Nat) c,((enc t (atI t xs i)).drop off)[j]? =some c→ ∃ u,w.cell? ((⟨g,i.toNat*t.width+off,none⟩:Addr).add j)=some u∧u.oneCell' =true∧R0 w F M u c:=by
 intro j c hj
 have hr:=hh i.toNat _ (zfO hi)
 rw [List.getElem?_drop] at hj
 obtain ⟨u,h1,h2⟩:=yU hr _ c hj
 refine ⟨u,?_,hr.one u (List.mem_of_getElem? h1),h2.to0⟩
 rw [List.getElem?_take] at h1
 split at h1
 ·rw [List.getElem?_drop] at h1
  rw [add_lit,cell_of_row w g _ us ty (0,0) hg]
  rw [show i.toNat*t.width+off+j=i.toNat*t.width+(off+j) by omega]
  simpa using h1
 ·cases h1
theorem zqX (h:Inv w0 F0 F M σ a w) {t:TypeId} {x:Operand} (ho:o.op= .load t x) (hk:wpq P σ (.load t x) K):QY P F M a w o K:=by
 unfold wpq at hk
 dsimp only at hk
 have hx:=h.ev x
 have key: ∀ p:Addr,a.eval x= .pointer (some p)→Yields P F M w (loadVar t p) K→QY P F M a w o K:=fun p hp hy=>
  hy.qy (by unfold execOp;rw [ho];simp only [hp,Instr.loadAt,Instr.sureAddr];rfl)
 split at hk<;>rename_i hb<;>first | exact hk.elim | skip
 ·rw [hb] at hx
  obtain ⟨ad,us,h1,h2,h3,h4,h5⟩:=hx
  refine key ad h1 (qF hk ad (h.flt _ h2).1 fun j c hj=> ?_)
  obtain ⟨u,h6,h7⟩:=h5 j c hj
  obtain ⟨h8,h9⟩:=h3 j u h6
  exact ⟨u,h8,h9,h7.to0⟩
 ·rw [hb] at hx
  obtain ⟨mo,g,h1,h2,h3⟩:=hx
  split at hk
  ·rename_i cs hf
   obtain ⟨h4,h5⟩:=zgM h hf h1 h2 _
   exact key _ h3 (qF hk _ h4 h5)
  ·exact hk.elim
 ·rw [hb] at hx
  obtain ⟨mo,g,h1,h2,h3⟩:=hx
  split at hk
  ·rename_i e u xs hf
   obtain ⟨mo',h4,h5,h6⟩:=h.obs _ _ hf
   have:mo' =mo:=Option.some.inj (h4.symm.trans h1)
   subst this
   rcases h6 with ⟨h7,h8,_⟩ | ⟨g',cap,us,h7,_,h9,h10,h11,h12,h13,h14⟩
   ·rw [h8] at h2;cases h2
   ·have:g' =g:=Option.some.inj (h7.symm.trans h2)
    subst this
    rw [h5] at h3
    exact key _ h3 (qF hk.2 _ (h.mine _ _ _ h1 h2).2.2 (zcx h10 h14 hk.1 _))
  ·rename_i u xs hf
   obtain ⟨mo',h4,g',us,ty,h5,h6,h7,h8,h9⟩:=h.obs _ _ hf
   have:mo' =mo:=Option.some.inj (h4.symm.trans h1)
   subst this
   have:g' =g:=Option.some.inj (h5.symm.trans h2)
   subst this
   rw [h6] at h3
   exact key _ h3 (qF hk.2 _ (h.mine _ _ _ h1 h2).2.2 (zcx h7 h9 hk.1 _))
  ·exact hk.elim
theorem jy {s:TypeId} {f o:Nat} {t:TypeId} (h:yP P s f=some (o,t)):
  ∃ fs fd,P.underlying s=some (.struct fs)∧fs[f]? =some fd∧fd.offset=o∧fd.type=t∧ ∃ i,P.info? t=some i∧i.size≠0:=by
 unfold yP at h
 split at h
 ·rename_i fs hu
  split at h
  ·rename_i fd hf
   rcases zj (zu P fd.type) 0 with ⟨_,hb⟩ | ⟨hne,hb⟩
   ·rw [hb] at h;cases h
   ·rw [hb] at h
    have h' :some (fd.offset,fd.type)=some (o,t):=h
    simp only [Option.some.injEq,Prod.mk.injEq] at h'
    obtain ⟨rfl,rfl⟩:=h'
    refine ⟨fs,fd,hu,hf,rfl,rfl,?_⟩
    unfold zu at hne
    split at hne
    ·rename_i i hi;exact ⟨i,hi,hne⟩
    ·exact absurd rfl hne
  ·cases h
 ·cases h
theorem zcy {s:TypeId} {f off:Nat} {t:TypeId} (h:yP P s f=some (off,t)) (p:Addr) (w' :World):
  (Instr.fieldAt s (.pointer (some p)) f).run P w' = .ok (.pointer (some (p.add off))) w' :=by
 obtain ⟨fs,fd,h1,h2,rfl,rfl,i,h3,h4⟩:=jy h
 simp [Instr.fieldAt,run_underlying h1,h2,Instr.sureAddr,fieldPlace,sizeOf,typeInfo,h3,h4]
theorem zfP (h:Inv w0 F0 F M σ a w) {s:TypeId} {x:Operand} {f:Nat} (ho:o.op= .fieldAddr s x f) (hk:wpq P σ (.fieldAddr s x f) K):QY P F M a w o K:=by
 unfold wpq at hk
 dsimp only at hk
 have hx:=h.ev x
 split at hk
 ·rename_i off t hf
  have key: ∀ (p:Addr) (d:D),a.eval x= .pointer (some p)→K d→R w F M (.pointer (some (p.add off))) d→QY P F M a w o K:=fun p d hp hd hr=>
   ⟨_,d,hd,hr,fun w' _=>by unfold execOp;rw [ho];simp [hp,zcy hf p w']⟩
  split at hk<;>rename_i hb<;>first | exact hk.elim | skip
  ·rw [hb] at hx
   obtain ⟨ad,us,h1,h2,h3,h4,h5⟩:=hx
   refine key ad _ h1 hk ⟨_,us.drop off,rfl,by rw [z7];exact h2,fun j u hj=> ?_,by simp [h4],fun j c hj=> ?_⟩
   ·rw [List.getElem?_drop] at hj
    rw [add_add];exact h3 _ u hj
   ·rw [List.getElem?_drop] at hj
    obtain ⟨u,h6,h7⟩:=h5 _ c hj
    exact ⟨u,by rw [List.getElem?_drop];exact h6,h7⟩
  ·rw [hb] at hx
   obtain ⟨mo,g,h1,h2,h3⟩:=hx
   exact key _ _ h3 hk ⟨mo,g,h1,h2,by rw [add_lit]⟩
  ·rw [hb] at hx
   obtain ⟨mo,g,h1,h2,h3⟩:=hx
   exact key _ _ h3 hk ⟨mo,g,h1,h2,by rw [add_lit,Nat.add_assoc]⟩
 ·exact hk.elim
theorem zow (h:Inv w0 F0 F M σ a w) {s:TypeId} {x:Operand} {f:Nat} (ho:o.op= .field s x f) (hk:wpq P σ (.field s x f) K):QY P F M a w o K:=by
 unfold wpq at hk
 dsimp only at hk
 have hx:=h.ev x
 split at hk
 ·rename_i off t hf
  obtain ⟨fs,fd,h1,h2,rfl,rfl,i,h3,h4⟩:=jy hf
  split at hk
  ·rename_i cs hb
   rw [hb] at hx
   obtain ⟨us,hv,h5,h6⟩:=hx
   cases hagg:zat P fd.type with
   | none=>rw [hagg] at hk;exact hk.elim
   | some b=>
    rw [hagg] at hk
    cases b with
    | true=>
     have hk' :(bif Nat.ble (fd.offset+zu P fd.type) cs.length then K (.agg ((cs.drop fd.offset).take (zu P fd.type))) else False):=hk
     cases hble:Nat.ble (fd.offset+zu P fd.type) cs.length with
     | false=>rw [hble] at hk';exact hk'.elim
     | true=>
      rw [hble] at hk'
      have hle:fd.offset+zu P fd.type≤cs.length:=by simpa using hble
      refine ⟨.agg (us.extract fd.offset (fd.offset+zu P fd.type)),_,hk',⟨_,rfl,by simp;omega,fun j c hj=> ?_⟩,fun w' hb' => ?_⟩
      ·rw [List.getElem?_take] at hj
       split at hj
       ·rename_i hlt
        rw [List.getElem?_drop] at hj
        obtain ⟨u,h7,h8,h9⟩:=h6 _ c hj
        refine ⟨u,?_,h8,h9⟩
        rw [Array.getElem?_extract]
        rw [if_pos (by omega)]
        exact h7
       ·cases hj
      ·obtain ⟨hag,i',hi',hsz⟩:=jg hagg w'
       have:i' =i:=Option.some.inj (hi'.symm.trans h3)
       subst this
       unfold execOp;rw [ho]
       simp [hv,Instr.field,run_underlying h1,h2,part,hag,sizeOf,typeInfo,hi',asAgg,hsz]
    | false=>
     cases hd:cs.drop fd.offset with
     | nil=>rw [hd] at hk;exact hk.elim
     | cons c r=>
      rw [hd] at hk
      have hc:cs[fd.offset]? =some c:=by
       have:(cs.drop fd.offset)[0]? =some c:=by rw [hd];rfl
       rw [List.getElem?_drop] at this
       simpa using this
      obtain ⟨u,h7,h8,h9⟩:=h6 _ c hc
      refine ⟨u,c,hk,R.of0 h9,fun w' hb' => ?_⟩
      obtain ⟨hag,_⟩:=jg hagg w'
      unfold execOp;rw [ho]
      simp [hv,Instr.field,run_underlying h1,h2,part,hag,asAgg,h7]
  ·exact hk.elim
 ·exact hk.elim
theorem yg (k:IntKind) (n:Int) (w' :World):(asIntOf (.int k n)).run P w' = .ok (k,n) w' :=rfl
theorem jX {e:TypeId} {n:Nat} (h:Nat.beq (zu P e) n=true) (hn:0<n): ∃ i,P.info? e=some i∧i.size=n:=by
 have h:=Nat.eq_of_beq_eq_true h
 unfold zu at h
 split at h
 ·rename_i i hi;exact ⟨i,hi,h⟩
 ·omega
theorem yj: ∀ t:Ty,0<t.width
 | .int _=>Nat.one_pos
 | .bool=>Nat.one_pos
 | .str=>Nat.one_pos
 | .list _=>Nat.one_pos
 | .flt=>Nat.one_pos
 | .err=>Nat.one_pos
 | .nfn=>Nat.one_pos
 | .fn0 _=>Nat.one_pos
 | .clo _ _=>Nat.one_pos
 | .ref _=>Nat.one_pos
 | .sum _ _=>Nat.one_pos
 | .pair a b=>by have:=yj a;simp only [Ty.width];omega
theorem zeX: ∀ {n k:Nat} {i:Int} {K:Nat→Prop},idxS n k i K→(k:Int)≤i→i<(k+n:Nat)→K i.toNat
 | 1,k,i,K,h,h1,h2=>by
  have:i.toNat=k:=by omega
  rw [this];exact h
 | n+2,k,i,K,h,h1,h2=>by
  unfold idxS at h
  by_cases hik:i=(k:Int)
  ·rw [decide_eq_true hik] at h
   subst hik
   exact h
  ·rw [decide_eq_false hik] at h
   exact zeX (n:=n+1) (k:=k+1) h (by omega) (by omega)
theorem zfQ (h:Inv w0 F0 F M σ a w) {t:TypeId} {x ix:Operand} (ho:o.op= .indexAddr t x ix) (hk:wpq P σ (.indexAddr t x ix) K):QY P F M a w o K:=by
 unfold wpq at hk
 dsimp only at hk
 have hx:=h.ev x
 have hix:=h.ev ix
 split at hk
 ·rename_i k i hb
  rw [hb] at hix
  have hi:=hix.int
  split at hk
  ·rename_i e u xs hu hb2
   rw [hb2] at hx
   obtain ⟨A,c,h1,h2,h3,h4⟩:=hx.list
   obtain ⟨hin,hk⟩:=hk
   cases hbq:Nat.beq (zu P e) u.width with
   | false=>rw [hbq] at hk;exact hk.elim
   | true=>
    rw [hbq] at hk
    obtain ⟨inf,hinf,hsz⟩:=jX hbq (yj u)
    obtain ⟨ad,us,rfl,h5,h6,h7⟩:=h4 _ _ (zfO hin)
    refine ⟨.pointer (some (ad.add (i.toNat*u.width))),_,hk,⟨_,us,rfl,by rw [z7];exact h5,h7,by rw [h6.len,q9],yU h6⟩,fun w' _=> ?_⟩
    unfold execOp;rw [ho]
    have hlt:0≤i∧i<(xs.length:Int):=hin
    simp [h1,hi,Instr.indexAt,yg,run_underlying hu,sizeOf,typeInfo,hinf,hsz,hlt]
  ·rename_i e id hu hb2
   rw [hb2] at hx
   obtain ⟨mo,h1,h2,_⟩:=hx
   split at hk
   ·rename_i e' u xs hf
    obtain ⟨hin,hk⟩:=hk
    cases hbq:Nat.beq (zu P e) u.width with
    | false=>rw [hbq] at hk;exact hk.elim
    | true=>
     rw [hbq] at hk
     obtain ⟨inf,hinf,hsz⟩:=jX hbq (yj u)
     obtain ⟨mo',h3,h4,h5⟩:=h.obs _ _ hf
     have:mo' =mo:=Option.some.inj (h3.symm.trans h1)
     subst this
     rcases h5 with ⟨h6,_⟩ | ⟨g,cap,us,h6,_,h7,h8,h9,_⟩
     ·subst h6;obtain ⟨h7,h8⟩:=hin;simp at h8;omega
     ·refine ⟨.pointer (some ⟨g,i.toNat*u.width+0,none⟩),_,hk,⟨mo',g,h1,h6,by rw [h4]⟩,fun w' _=> ?_⟩
      have hlt:0≤i∧i<(xs.length:Int):=hin
      unfold execOp;rw [ho]
      simp [h2,h7,hi,Instr.indexAt,yg,run_underlying hu,sizeOf,typeInfo,hinf,hsz,hlt,add_lit]
   ·exact hk.elim
  ·rename_i n e id hu hb2
   rw [hb2] at hx
   obtain ⟨mo,g,h1,h2,h3⟩:=hx
   split at hk
   ·rename_i u xs hf
    obtain ⟨hin,hlen,hk⟩:=hk
    cases hbq:Nat.beq (zu P e) u.width with
    | false=>rw [hbq] at hk;exact hk.elim
    | true=>
     rw [hbq] at hk
     obtain ⟨inf,hinf,hsz⟩:=jX hbq (yj u)
     obtain ⟨mo',h4,g',us,ty,h5,h6,_⟩:=h.obs _ _ hf
     have:mo' =mo:=Option.some.inj (h4.symm.trans h1)
     subst this
     refine ⟨.pointer (some ⟨g,i.toNat*u.width+0,none⟩),_,hk,⟨mo',g,h1,h2,by rw [h6]⟩,fun w' _=> ?_⟩
     have hlt:0≤i∧i<(n:Int):=hin
     unfold execOp;rw [ho]
     simp [h3,hi,Instr.indexAt,yg,run_underlying hu,sizeOf,typeInfo,hinf,hsz,hlt,add_lit,Instr.sureAddr]
   ·exact hk.elim
  ·rename_i n e id off hu hb2
   rw [hb2] at hx
   obtain ⟨mo,g,h1,h2,h3⟩:=hx
   cases hbq:Nat.blt 0 (zu P e) with
   | false=>rw [hbq] at hk;exact hk.elim
   | true=>
    rw [hbq] at hk
    obtain ⟨hin,hk⟩:=hk
    have hlt:0≤i∧i<(n:Int):=hin
    have hk:=zeX hk (by have:=hin.1;omega) (by have:=hin.2;omega)
    have hpos:0<zu P e:=Nat.le_of_ble_eq_true hbq
    obtain ⟨inf,hinf⟩: ∃ inf,P.info? e=some inf:=by
     unfold zu at hpos
     cases hi:P.info? e with
     | none=>rw [hi] at hpos;exact absurd hpos (Nat.lt_irrefl 0)
     | some inf=>exact ⟨inf,rfl⟩
    have hsz:zu P e=inf.size:=by unfold zu;rw [hinf]
    refine ⟨.pointer (some ⟨g,off+i.toNat*zu P e,none⟩),_,hk,⟨mo,g,h1,h2,rfl⟩,fun w' _=> ?_⟩
    unfold execOp;rw [ho]
    simp [h3,hi,Instr.indexAt,yg,run_underlying hu,sizeOf,typeInfo,hinf,hsz,hlt,add_lit,Instr.sureAddr]
  ·exact hk.elim
 ·exact hk.elim
theorem jh {t:TypeId} (h:ql P t=true):P.underlying t=some .string:=by
 unfold ql at h
 split at h
 ·assumption
 ·cases h
theorem z8 {t e:TypeId} (h:yC P t=some e):P.underlying t=some (.slice e):=by
 unfold yC at h
 split at h
 ·rename_i e' hu;rw [hu];simpa using h
 ·cases h
theorem zqY (s:ByteArray) (i:Nat):s[i]? =s.data.toList[i]? :=by
 rw [Array.getElem?_toList];rfl
theorem zox (h:Inv w0 F0 F M σ a w) {t:TypeId} {x ix:Operand} (ho:o.op= .index t x ix) (hk:wpq P σ (.index t x ix) K):QY P F M a w o K:=by
 unfold wpq at hk
 dsimp only at hk
 have hx:=h.ev x
 have hix:=h.ev ix
 split at hk
 ·rename_i l k i hst hb hb2
  rw [hb] at hx
  rw [hb2] at hix
  have hi:=hix.int
  obtain ⟨s,h1,rfl⟩:=hx.str
  obtain ⟨hin,hk⟩:=hk
  have hlt:i.toNat<s.data.toList.length:=by have:=hin.1;have:=hin.2;omega
  refine ⟨.int .u8 (qg s.data.toList i),_,hk,rfl,fun w' _=> ?_⟩
  have hg:s[i.toNat]? =some (s.data.toList.getD i.toNat 0):=by
   rw [zqY,List.getElem?_eq_getElem hlt];simp [List.getD,List.getElem?_eq_getElem hlt]
  have h0:0≤i:=hin.1
  unfold execOp;rw [ho]
  simp [h1,hi,Instr.index,yg,run_underlying (jh hst),h0,hg,qg]
 ·exact hk.elim
end
end
section
open Go.RowKit
section
variable {P:Program} {w0:W0 P} {w:World} {F0 F:Nat→Prop} {M:Nat→Option MO} {σ:St} {a:Act} {o:Oper} {K:D→Prop}
theorem zlz (h:Inv w0 F0 F M σ a w) {x:Option Operand} {d n:Int} (hx:optI (x.map (ev σ)) d=some n):(x=none∧n=d)∨ ∃ k,x.map a.eval=some (.int k n):=by
 cases x with
 | none=>left;exact ⟨rfl,by simpa [optI] using hx.symm⟩
 | some y=>
  right
  simp only [Option.map_some,optI] at hx
  split at hx<;>rename_i h2
  ·cases h2
  ·rename_i k m
   have hy:=h.ev y
   simp only [Option.some.injEq] at h2 hx
   rw [h2] at hy
   exact ⟨k,by simp [hy.int,hx]⟩
  ·cases hx
theorem qG {b:Bool} {len cap:Nat} {lo hi:Option Value} {l h:Int} (hl:(lo=none∧l=0)∨ ∃ k,lo=some (.int k l)) (hh:(hi=none∧h=len)∨ ∃ k,hi=some (.int k h))
  (h1:0≤l) (h2:l≤h) (h3:h≤len) (h4:len≤cap) (w' :World):(Instr.sliceBounds b len cap lo hi none).run P w' = .ok (l.toNat,h.toNat,cap) w' :=by
 have h7:0≤h:=by omega
 obtain ⟨m,rfl⟩:=Int.eq_ofNat_of_zero_le h1
 obtain ⟨n,rfl⟩:=Int.eq_ofNat_of_zero_le h7
 have h5:m≤n:=by omega
 have h6:n≤cap:=by omega
 rcases hl with ⟨rfl,hl⟩ | ⟨k,rfl⟩<;>rcases hh with ⟨rfl,hh⟩ | ⟨k',rfl⟩
 ·obtain rfl:m=0:=by omega
  obtain rfl:n=len:=by omega
  simp [Instr.sliceBounds]
 ·obtain rfl:m=0:=by omega
  simp [Instr.sliceBounds,Instr.sliceBound,yg,h6]
 ·obtain rfl:n=len:=by omega
  simp [Instr.sliceBounds,Instr.sliceBound,yg,h5]
 ·simp [Instr.sliceBounds,Instr.sliceBound,yg,h5,h6]
theorem zoy {α:Type} {l:List α} {x y:Int} {i:Nat} {u:α} (h:(slc l x y)[i]? =some u):l[x.toNat+i]? =some u∧i<y.toNat - x.toNat:=by
 unfold slc at h
 rw [List.getElem?_take] at h
 split at h
 ·rw [List.getElem?_drop] at h;exact ⟨h,‹_›⟩
 ·cases h
theorem zoz {α:Type} (l:List α) {x y:Int} (_h1:0≤x) (h2:x≤y) (h3:y≤l.length):(slc l x y).length=y.toNat - x.toNat:=by
 unfold slc;rw [List.length_take,List.length_drop];omega
theorem zeY {F' :Nat→Prop} {M' :Nat→Option MO} (h:Inv w0 F0 F M σ a w) {t:TypeId} {v:Value} {x:D} {lo hi mx:Option Operand} (hx:R w F' M' v x) (hk:cutD P t x (lo.map (ev σ)) (hi.map (ev σ)) (mx.map (ev σ)) K):
  Yields P F' M' w (Instr.sliceAt t v (lo.map a.eval) (hi.map a.eval) (mx.map a.eval)) K:=by
 have opt' : ∀ {y:Option Operand} {d n:Int},optI (y.map (ev σ)) d=some n→(y.map a.eval=none∧n=d)∨ ∃ k,y.map a.eval=some (.int k n):=fun {y d n} hy=>by
  rcases zlz h hy with ⟨rfl,h2⟩ | h2
  ·exact .inl ⟨rfl,h2⟩
  ·exact .inr h2
 unfold cutD at hk
 split at hk
 ·rename_i hm
  have hmx:mx.map a.eval=none:=by cases mx<;>simp_all
  split at hk
  ·rename_i l
   split at hk
   ·rename_i hst
    split at hk
    ·rename_i x y e1 e2
     obtain ⟨⟨h1,h2,h3⟩,hk⟩:=hk
     obtain ⟨s,rfl,rfl⟩:=hx.str
     have hlen:s.size=s.data.toList.length:=Lib.size_eq s
     refine ⟨.string (s.extract x.toNat y.toNat),_,hk,⟨_,rfl,Lib.extract_data s _ _⟩,fun w' _=> ?_⟩
     have hb:=qG (P:=P) (b:=false) (len:=s.size) (cap:=s.size) (opt' e1) (by rw [hlen];exact opt' e2) h1 h2 (by rw [hlen];exact h3) (Nat.le_refl _) w'
     simp [Instr.sliceAt,run_underlying (jh hst),Instr.slice,hmx,hb]
    ·exact hk.elim
   ·exact hk.elim
  ·rename_i u l
   split at hk
   ·rename_i e he
    cases hbq:Nat.beq (zu P e) u.width with
    | false=>rw [hbq] at hk;exact hk.elim
    | true=>
     rw [hbq] at hk
     obtain ⟨inf,hinf,hsz⟩:=jX hbq (yj u)
     have hk' :(match optI (lo.map (ev σ)) 0,optI (hi.map (ev σ)) l.length with
      | some a,some b=>(0≤a∧a≤b∧b≤(l.length:Int))∧K (.val (.list u) (slc l a b))
      | _,_=>False):=hk
     split at hk'
     ·rename_i x y e1 e2
      obtain ⟨⟨h1,h2,h3⟩,hk⟩:=hk'
      obtain ⟨A,c,rfl,hc,hm2,hel⟩:=hx.list
      have hl:=zoz l h1 h2 h3
      refine ⟨.slice (if c=x.toNat then A else A.map (·.add (x.toNat*u.width))) (y.toNat - x.toNat) (c - x.toNat),_,hk,⟨if c=x.toNat then A else A.map (·.add (x.toNat*u.width)),c - x.toNat,?_,?_,?_,fun i z hz=> ?_⟩,fun w' _=> ?_⟩
      ·rw [hl]
      ·rw [hl];omega
      ·omega
      ·obtain ⟨hz,hlt⟩:=zoy hz
       obtain ⟨ad,us,rfl,h5,h6,h7⟩:=hel _ _ hz
       rw [if_neg (by omega)]
       refine ⟨_,us,rfl,by rw [z7];exact h5,h6,?_⟩
       rw [add_add,← Nat.add_mul]
       exact h7
      ·have hb:=qG (P:=P) (b:=true) (len:=l.length) (cap:=c) (opt' e1) (opt' e2) h1 h2 h3 hc w'
       simp [Instr.sliceAt,run_underlying (z8 he),Instr.slice,hmx,hb,sizeOf,typeInfo,hinf,hsz]
     ·exact hk'.elim
   ·exact hk.elim
  ·exact hk.elim
 ·rename_i k m hm
  have hmx:mx.map a.eval=some (.int k m):=by
   cases mx with
   | none=>cases hm
   | some y=>
    have hy:=h.ev y
    simp only [Option.map_some,Option.some.injEq] at hm
    rw [hm] at hy
    simp [hy.int]
  split at hk
  ·rename_i u l x y e1 e2
   split at hk
   ·rename_i e he
    cases hbq:Nat.blt 0 (zu P e) with
    | false=>rw [hbq] at hk;exact hk.elim
    | true=>
     rw [hbq] at hk
     obtain ⟨⟨rfl,rfl,rfl⟩,hk⟩:=hk
     obtain ⟨A,c,rfl,hc,hm2,hel⟩:=hx.list
     have hpos:0<zu P e:=by simpa [Nat.blt_eq] using hbq
     have: ∃ i,P.info? e=some i:=by
      unfold zu at hpos
      split at hpos
      ·exact ⟨_,‹_›⟩
      ·omega
     obtain ⟨inf,hinf⟩:=this
     refine ⟨.slice A 0 0,_,hk,⟨A,rfl⟩,fun w' _=> ?_⟩
     have hlo:=opt' e1
     have hhi:=opt' e2
     have hhi' : ∃ k,hi.map a.eval=some (.int k 0):=by
      rcases hhi with ⟨_,h2⟩ | h2
      ·cases h2
      ·exact h2
     obtain ⟨k',hhi'⟩:=hhi'
     rcases hlo with ⟨hl,_⟩ | ⟨k'',hl⟩<;>simp [Instr.sliceAt,run_underlying (z8 he),Instr.slice,hmx,hl,hhi',Instr.sliceBounds,Instr.sliceBound,yg,sizeOf,typeInfo,hinf]
   ·exact hk.elim
  ·exact hk.elim
 ·exact hk.elim
theorem zoA (h:Inv w0 F0 F M σ a w) {t:TypeId} {x:Operand} {lo hi mx:Option Operand} (ho:o.op= .slice t x lo hi mx)
  (hk:cutD P t (ev σ x) (lo.map (ev σ)) (hi.map (ev σ)) (mx.map (ev σ)) K):QY P F M a w o K:=
 (zeY h (h.ev x) hk).qy (by unfold execOp;rw [ho])
theorem zh8 {op:BinOp} {k:IntKind} {x y:Int} (hs:op≠ .shl∧op≠ .shr) (t:TypeId) (p q:Operand) (hk:ziM op k x y K):
  Yields P F M w (do eqGuard op t p q (.int k x) (.int k y);binOp op t (.int k x) (.int k y)) K:=by
 have hg: ∀ w',(eqGuard op t p q (.int k x) (.int k y)).run P w' = .ok () w' :=fun w' =>by unfold eqGuard;cases op<;>simp
 refine Yields.of_eq (s' :=binOp op t (.int k x) (.int k y)) ?_ (fun w' _=>by rw [Sem.run_bind,hg];rfl)
 unfold ziM at hk
 cases op<;>dsimp only at hk<;>first | exact hk.elim | exact absurd rfl hs.1 | exact absurd rfl hs.2 | skip
 case quo=>exact ⟨_,_,hk.2,rfl,fun w' _=>by simp [binOp,Op.intDiv,hk.1]⟩
 case rem=>exact ⟨_,_,hk.2,rfl,fun w' _=>by simp [binOp,Op.intDiv,hk.1]⟩
 all_goals exact ⟨_,_,hk,rfl,fun w' _=>by simp [binOp,Op.intArith,Op.intBits,Op.intCmp]⟩
theorem zcz {op:BinOp} {k k' :IntKind} {x y:Int} (t:TypeId) (p q:Operand) (h0:0≤y)
  (hk:(op= .shl∧K (.val (.int k) (k.wrap (x*2 ^ (min y.toNat k.bits)))))∨(op= .shr∧K (.val (.int k) (x.fdiv (2 ^ (min y.toNat k.bits)))))):
  Yields P F M w (do eqGuard op t p q (.int k x) (.int k' y);binOp op t (.int k x) (.int k' y)) K:=by
 have hn: ¬ y<0:=by omega
 rcases hk with ⟨rfl,hk⟩ | ⟨rfl,hk⟩
 ·exact ⟨_,_,hk,rfl,fun w' _=>by simp [eqGuard,binOp,Op.shift,hn]⟩
 ·exact ⟨_,_,hk,rfl,fun w' _=>by simp [eqGuard,binOp,Op.shift,hn]⟩
theorem zh9 {op:BinOp} {x y:ByteArray} (t:TypeId) (p q:Operand) (hk:ziN op x.data.toList y.data.toList K):
  Yields P F M w (do eqGuard op t p q (.string x) (.string y);binOp op t (.string x) (.string y)) K:=by
 have hg: ∀ w',(eqGuard op t p q (.string x) (.string y)).run P w' = .ok () w' :=fun w' =>by unfold eqGuard;cases op<;>simp
 refine Yields.of_eq (s' :=binOp op t (.string x) (.string y)) ?_ (fun w' _=>by rw [Sem.run_bind,hg];rfl)
 unfold ziN at hk
 cases op<;>dsimp only at hk<;>first | exact hk.elim | skip
 case add=>
  obtain ⟨hr,hk⟩:=hk
  have h1:x.size+y.size≤1073741824:=by rw [Lib.size_eq,Lib.size_eq];exact hr
  refine ⟨.string (x++y),_,hk,⟨_,rfl,Joins.data_append x y⟩,fun w' _=> ?_⟩
  have h2: ¬ (((x.size+y.size:Nat):Int)>IntKind.i64.max):=by
   have e:IntKind.i64.max=9223372036854775807:=by kernel_rfl
   omega
  show (Op.stringOp .add x y).run P w' =_
  unfold Op.stringOp
  dsimp only
  rw [if_neg h2]
  rfl
 all_goals exact ⟨_,_,hk,rfl,fun w' _=>by simp [binOp,Op.stringOp,Lib.toList_data]⟩
theorem zfR {op:BinOp} {x y:Bool} {t:TypeId} (ht:P.underlying t=some .bool) (p q:Operand) (hk:zgJ op x y K):
  Yields P F M w (do eqGuard op t p q (.bool x) (.bool y);binOp op t (.bool x) (.bool y)) K:=by
 have hg: ∀ w',(eqGuard op t p q (.bool x) (.bool y)).run P w' = .ok () w' :=fun w' =>by unfold eqGuard;cases op<;>simp
 refine Yields.of_eq (s' :=binOp op t (.bool x) (.bool y)) ?_ (fun w' _=>by rw [Sem.run_bind,hg];rfl)
 have hd: ∀ (d:Nat) w',(Op.equalIn (d+1) t (.bool x) (.bool y)).run P w' = .ok (x==y) w' :=fun d w' =>by simp [Op.equalIn,run_underlying ht]
 have he: ∀ w',(Op.equal t (.bool x) (.bool y)).run P w' = .ok (x==y) w' :=fun w' =>hd 9999 w'
 unfold zgJ at hk
 cases op<;>dsimp only at hk<;>first | exact hk.elim | skip
 all_goals exact ⟨_,_,hk,rfl,fun w' _=>by simp [binOp,he]⟩
theorem yH {us vs:Array Value} {cs ds:List D} (hu: ∀ (j:Nat) c,cs[j]? =some c→ ∃ u,us[j]? =some u∧u.oneCell' =true∧R0 w F M u c)
  (hv: ∀ (j:Nat) c,ds[j]? =some c→ ∃ u,vs[j]? =some u∧u.oneCell' =true∧R0 w F M u c) (d:Nat):
  ∀ (fs:List Field) (r:Bool),jS P fs cs ds=some r→ ∀ w',(Op.eqFields (d+1) us vs fs).run P w' = .ok r w'
 | [],r,h,w' =>by
  have:true=r:=by simpa [jS] using h
  subst this
  simp [Op.eqFields]
 | f::fs,r,h,w' =>by
  have step: ∀ {x y:Value} {r1 r' :Bool},(f.name != "_")=true→us[f.offset]? =some x→vs[f.offset]? =some y→P.plainKey f.type=true→(Op.equalIn (d+1) f.type x y).run P w' = .ok r1 w' →
    (Op.eqFields (d+1) us vs fs).run P w' = .ok r' w' →(Op.eqFields (d+1) us vs (f::fs)).run P w' = .ok (r1&&r') w' :=by
   intro x y r1 r' hn h1 h2 h3 h4 h5
   have hn' :f.name≠ "_" :=by simpa using hn
   unfold Op.eqFields
   rw [if_pos hn']
   simp only [Sem.run_bind,run_part_plain w' h3 h1,run_part_plain w' h3 h2,h4,Result.andThen_ok]
   cases r1
   ·simp
   ·simpa using h5
  unfold jS at h
  split at h
  ·rename_i a b hn ht hc hd
   split at h
   ·rename_i r' hr
    cases h
    obtain ⟨u,h1,_,h2⟩:=hu _ _ hc
    obtain ⟨v,h3,_,h4⟩:=hv _ _ hd
    cases R.bool (w:=w) (F:=F) (M:=M) (b:=a) h2
    cases R.bool (w:=w) (F:=F) (M:=M) (b:=b) h4
    exact step hn h1 h3 (by simp [Program.plainKey,ht]) (run_equalIn_bool w' d f.type a b ht) (yH hu hv d fs r' hr w')
   ·cases h
  ·rename_i q k a k' b hn ht hc hd
   split at h
   ·rename_i r' hk hr
    cases h
    have hk' :=of_decide_eq_true hk
    subst hk'
    obtain ⟨u,h1,_,h2⟩:=hu _ _ hc
    obtain ⟨v,h3,_,h4⟩:=hv _ _ hd
    cases R.int (w:=w) (F:=F) (M:=M) (k:=k) (n:=a) h2
    cases R.int (w:=w) (F:=F) (M:=M) (k:=k) (n:=b) h4
    exact step hn h1 h3 (by simp [Program.plainKey,ht]) (run_equalIn_int w' d f.type k q a b ht) (yH hu hv d fs r' hr w')
   ·cases h
  ·rename_i a b hn ht hc hd
   split at h
   ·rename_i r' hr
    cases h
    obtain ⟨u,h1,_,h2⟩:=hu _ _ hc
    obtain ⟨v,h3,_,h4⟩:=hv _ _ hd
    obtain ⟨s1,rfl,e1⟩:=R.str (w:=w) (F:=F) (M:=M) (l:=a) h2
    obtain ⟨s2,rfl,e2⟩:=R.str (w:=w) (F:=F) (M:=M) (l:=b) h4
    subst e1 e2
    refine step hn h1 h3 (by simp [Program.plainKey,ht]) ?_ (yH hu hv d fs r' hr w')
    have:=run_equalIn_string (P:=P) w' d f.type s1 s2 ht
    rw [Lib.toList_data,Lib.toList_data] at this
    exact this
   ·cases h
  ·cases h
theorem zia {op:BinOp} {t:TypeId} {us vs:Array Value} {cs ds:List D} (p q:Operand) (hu: ∀ (j:Nat) c,cs[j]? =some c→ ∃ u,us[j]? =some u∧u.oneCell' =true∧R0 w F M u c)
  (hv: ∀ (j:Nat) c,ds[j]? =some c→ ∃ u,vs[j]? =some u∧u.oneCell' =true∧R0 w F M u c) (hk:aggD P op t cs ds K):
  Yields P F M w (do eqGuard op t p q (.agg us) (.agg vs);binOp op t (.agg us) (.agg vs)) K:=by
 unfold aggD at hk
 split at hk
 ·rename_i fs ht
  split at hk
  ·rename_i r h1 h2 h3
   have hg: ∀ w',(eqGuard op t p q (.agg us) (.agg vs)).run P w' = .ok () w' :=fun w' =>by
    unfold eqGuard;cases op<;>simp [h2]
   refine Yields.of_eq (s' :=binOp op t (.agg us) (.agg vs)) ?_ (fun w' _=>by rw [Sem.run_bind,hg];rfl)
   have hfs:P.fieldsOf t=fs:=by simp [Program.fieldsOf,ht]
   have he: ∀ w',(Op.equal t (.agg us) (.agg vs)).run P w' = .ok r w' :=fun w' =>by
    have e1:=run_equalIn_struct w' 9999 t us vs (by rw [hfs];exact ht) h1
    rw [hfs] at e1
    exact e1.trans (yH hu hv 9998 fs.toList r h3 w')
   cases op<;>dsimp only at hk<;>first | exact hk.elim | skip
   ·exact ⟨_,_,hk,rfl,fun w' _=>by simp [binOp,he]⟩
   ·exact ⟨_,_,hk,rfl,fun w' _=>by simp [binOp,he]⟩
  ·exact hk.elim
 ·exact hk.elim
theorem zoB (h:Inv w0 F0 F M σ a w) {op:BinOp} {t t' :TypeId} {x y:Operand} (ho:o.op= .binOp op t x y t') (hk:binD P op t (ev σ x) (ev σ y) K):QY P F M a w o K:=by
 have key:Yields P F M w (do eqGuard op t x y (a.eval x) (a.eval y);binOp op t (a.eval x) (a.eval y)) K→QY P F M a w o K:=fun hy=>hy.qy (by unfold execOp;rw [ho])
 have hx:=h.ev x
 have hy:=h.ev y
 unfold binD at hk
 split at hk
 ·rename_i k m k' n hb1 hb2
  rw [hb1] at hx
  rw [hb2] at hy
  rw [hx.int,hy.int] at key
  split at hk
  ·exact key (zcz t x y hk.1 (.inl ⟨rfl,hk.2⟩))
  ·exact key (zcz t x y hk.1 (.inr ⟨rfl,hk.2⟩))
  ·rename_i h1 h2
   by_cases hkk:k=k'
   ·subst hkk
    rw [decide_eq_true rfl] at hk
    exact key (zh8 ⟨h1,h2⟩ t x y hk)
   ·rw [decide_eq_false hkk] at hk
    exact hk.elim
 ·rename_i m n hb1 hb2
  rw [hb1] at hx
  rw [hb2] at hy
  obtain ⟨s1,e1,rfl⟩:=hx.str
  obtain ⟨s2,e2,rfl⟩:=hy.str
  rw [e1,e2] at key
  exact key (zh9 t x y hk)
 ·rename_i m n hb1 hb2
  rw [hb1] at hx
  rw [hb2] at hy
  rw [hx.bool,hy.bool] at key
  split at hk
  ·rename_i hbt
   refine key (zfR ?_ x y hk)
   unfold zfM at hbt
   split at hbt
   ·assumption
   ·cases hbt
  ·exact hk.elim
 ·rename_i cs ds hb1 hb2
  rw [hb1] at hx
  rw [hb2] at hy
  obtain ⟨us,e1,_,h1⟩:=hx
  obtain ⟨vs,e2,_,h2⟩:=hy
  rw [e1,e2] at key
  exact key (zia x y h1 h2 hk)
 ·exact hk.elim
theorem zoC (h:Inv w0 F0 F M σ a w) {op:BinOp} {t t' :TypeId} {x y:Operand} (ho:o.op= .binOp op t x y t') (hy:zbZ y=true) (hk:nilD P op t (ev σ x) K):QY P F M a w o K:=by
 have hyc:y= .const (.slice none 0 0):=by
  unfold zbZ at hy
  split at hy
  ·rfl
  ·cases hy
 subst hyc
 have hx:=h.ev x
 have key:Yields P F M w (do eqGuard op t x (.const (.slice none 0 0)) (a.eval x) (a.eval (.const (.slice none 0 0)));binOp op t (a.eval x) (a.eval (.const (.slice none 0 0)))) K→QY P F M a w o K:=fun hy=>hy.qy (by unfold execOp;rw [ho])
 have hev:a.eval (.const (.slice none 0 0))= .slice none 0 0:=rfl
 rw [hev] at key
 unfold nilD at hk
 split at hk
 ·rename_i u xs hb
  rw [hb] at hx
  split at hk
  ·rename_i e he
   have ht:P.underlying t=some (.slice e):=by
    unfold yC at he
    split at he
    ·rename_i e' h1;rw [h1];cases he;rfl
    ·cases he
   obtain ⟨A,c,hv,_,_,hel⟩:=hx
   have hv' :a.eval x= .slice A xs.length c:=by simpa using hv
   rw [hv'] at key
   have hg: ∀ w',(eqGuard op t x (.const (.slice none 0 0)) (.slice A xs.length c) (.slice none 0 0)).run P w' = .ok () w' :=fun w' =>by unfold eqGuard;cases op<;>simp
   have he' : ∀ w',(Op.equal t (.slice A xs.length c) (.slice none 0 0)).run P w' = .ok A.isNone w' :=fun w' =>by
    have hd: ∀ d,(Op.equalIn (d+1) t (.slice A xs.length c) (.slice none 0 0)).run P w' = .ok A.isNone w' :=fun d=>by
     cases A<;>simp [Op.equalIn,run_underlying ht]
    exact hd 9999
   have hnil:A.isNone=true→xs=[]:=fun hA=>by
    cases xs with
    | nil=>rfl
    | cons x0 r=>
     obtain ⟨a0,us,h1,_⟩:=hel 0 x0 rfl
     rw [h1] at hA;cases hA
   refine key (Yields.of_eq (s' :=binOp op t (.slice A xs.length c) (.slice none 0 0)) ?_ (fun w' _=>by rw [Sem.run_bind,hg];rfl))
   split at hk
   ·cases hA:A.isNone with
    | true=>exact ⟨.bool true,_,hk.1 (hnil hA),rfl,fun w' _=>by simp [binOp,he',hA]⟩
    | false=>exact ⟨.bool false,_,hk.2,rfl,fun w' _=>by simp [binOp,he',hA]⟩
   ·cases hA:A.isNone with
    | true=>exact ⟨.bool false,_,hk.1 (hnil hA),rfl,fun w' _=>by simp [binOp,he',hA]⟩
    | false=>exact ⟨.bool true,_,hk.2,rfl,fun w' _=>by simp [binOp,he',hA]⟩
   ·exact hk.elim
  ·exact hk.elim
 ·exact hk.elim
theorem zoD (h:Inv w0 F0 F M σ a w) {op:BinOp} {t t' :TypeId} {x y:Operand} (ho:o.op= .binOp op t x y t') (hy:zaQ y=true) (hk:errD P op t (ev σ x) K):QY P F M a w o K:=by
 have hyc:y= .const .nilIface:=by
  unfold zaQ at hy
  split at hy
  ·rfl
  ·cases hy
 subst hyc
 have hx:=h.ev x
 have key:Yields P F M w (do eqGuard op t x (.const .nilIface) (a.eval x) (a.eval (.const .nilIface));binOp op t (a.eval x) (a.eval (.const .nilIface))) K→QY P F M a w o K:=fun hy=>hy.qy (by unfold execOp;rw [ho])
 have hev:a.eval (.const .nilIface)= .nilIface:=rfl
 rw [hev] at key
 unfold errD at hk
 split at hk
 ·rename_i b ms hb ht
  rw [hb] at hx
  obtain ⟨v,hv,hev⟩:=hx
  have hv:a.eval x=v:=by simpa using hv
  rw [hv] at key
  have hg: ∀ w',(eqGuard op t x (.const .nilIface) v .nilIface).run P w' = .ok () w' :=fun w' =>by
   rcases hev with ⟨_,rfl⟩ | ⟨_,t1,u,rfl⟩<;>unfold eqGuard<;>cases op<;>simp
  have he' : ∀ w',(Op.equal t v .nilIface).run P w' = .ok (!b) w' :=fun w' =>by
   have hd: ∀ d,(Op.equalIn (d+1) t v .nilIface).run P w' = .ok (!b) w' :=fun d=>by
    rcases hev with ⟨rfl,rfl⟩ | ⟨rfl,t1,u,rfl⟩<;>simp [Op.equalIn,run_underlying ht]
   exact hd 9999
  refine key (Yields.of_eq (s' :=binOp op t v .nilIface) ?_ (fun w' _=>by rw [Sem.run_bind,hg];rfl))
  split at hk
  ·exact ⟨.bool (!b),_,hk,rfl,fun w' _=>by rcases hev with ⟨_,rfl⟩ | ⟨_,t1,u,rfl⟩<;>simp [binOp,he']⟩
  ·exact ⟨.bool b,_,hk,rfl,fun w' _=>by rcases hev with ⟨_,rfl⟩ | ⟨_,t1,u,rfl⟩<;>simp [binOp,he']⟩
  ·exact hk.elim
 ·exact hk.elim
theorem zqZ (h:Inv w0 F0 F M σ a w) {op:UnOp} {t:TypeId} {x:Operand} (ho:o.op= .unOp op t x) (hk:unD op (ev σ x) K):QY P F M a w o K:=by
 have hx:=h.ev x
 unfold unD at hk
 split at hk
 ·rename_i b hb
  rw [hb] at hx
  have e:=hx.bool
  exact ⟨_,_,hk,rfl,fun w' _=>by unfold execOp;rw [ho];simp [e,Op.unary]⟩
 ·rename_i k n hb
  rw [hb] at hx
  have e:=hx.int
  exact ⟨_,_,hk,rfl,fun w' _=>by unfold execOp;rw [ho];simp [e,Op.unary,Op.intArith]⟩
 ·exact hk.elim
theorem ziY (h:Inv w0 F0 F M σ a w) {src dst:TypeId} {x:Operand} (ho:o.op= .convert src dst x) (hk:ziO P src dst (ev σ x) K):QY P F M a w o K:=by
 have hx:=h.ev x
 unfold ziO at hk
 split at hk
 ·rename_i k' k k'' n h1 h2 hb
  rw [hb] at hx
  have e:=hx.int
  exact ⟨_,_,hk,rfl,fun w' _=>by unfold execOp;rw [ho];simp [e,convert,run_underlying h1,run_underlying h2,Conv.intToInt]⟩
 ·rename_i l h1 h2 hb
  rw [hb] at hx
  obtain ⟨s,e,rfl⟩:=hx.str
  exact ⟨.string s,_,hk,⟨s,rfl,rfl⟩,fun w' _=>by unfold execOp;rw [ho];simp [e,convert,run_underlying h1,run_underlying h2]⟩
 ·exact hk.elim
theorem zcA: ∀ (ns:List Int) (acc:ByteArray),(ns.foldl (fun r n=>r.push (UInt8.ofNat n.toNat)) acc).data.toList=acc.data.toList++strOf ns
 | [],acc=>by simp [strOf]
 | n::ns,acc=>by
  rw [List.foldl_cons,zcA ns]
  simp [strOf,ByteArray.push]
theorem zdY {t:TypeId} (h:qp P t=true): ∃ e,P.underlying t=some (.slice e)∧P.underlying e=some (.int .u8):=by
 unfold qp at h
 split at h
 ·rename_i e he
  split at h
  ·rename_i h2;exact ⟨e,he,h2⟩
  ·cases h
 ·cases h
theorem zlA {F1:Nat→Prop} {src dst:TypeId} (hs:qp P src=true) (hd:ql P dst=true) {xs:List Int} {v:Value} (h:RV w F1 (.list (.int .u8)) xs [v]):
  (convert src dst v).run P w= .ok (.string ⟨(strOf xs).toArray⟩) w:=by
 obtain ⟨e,h1,h2⟩:=zdY hs
 have h3:=jh hd
 obtain ⟨A,c,h4,_,_,h5⟩:=h
 have hv:v= .slice A xs.length c:=by simpa using h4
 subst hv
 rw [run_convert_bytes_string w src dst e A xs.length c h1 h2 h3]
 cases A with
 | none=>
  cases xs with
  | nil=>simp [Conv.bytesToString,strOf];rfl
  | cons x r=>
   obtain ⟨a,us,ha,_⟩:=h5 0 x rfl
   cases ha
 | some a=>
  have hl:=run_loadCells_list (P:=P) w a (xs.map (Value.int .u8)) (fun j u hj=>by
   rw [List.getElem?_map] at hj
   obtain ⟨x,hx,rfl⟩:=Option.map_eq_some_iff.1 hj
   obtain ⟨a',us,ha,_,h6,h7⟩:=h5 j x hx
   cases ha
   have h6' :us=[Value.int .u8 x]:=h6
   subst h6'
   have:=(h7 0 _ rfl).1
   rw [add_add] at this
   simpa [Ty.width] using this)
  rw [List.length_map] at hl
  rw [run_bytesToString w a xs.length c xs hl]
  congr 2
  have:=zcA xs ByteArray.empty
  generalize xs.foldl (fun r n=>r.push (UInt8.ofNat n.toNat)) ByteArray.empty=s at *
  cases s
  congr 1
  apply Array.toList_inj.1
  simpa using this
theorem zbC (hlt: ∀ g,F g→g<w.heap.size) {F1:Nat→Prop} (hF1: ∀ g,F1 g→g<w.heap.size) {src dst:TypeId} {x:Operand} (ho:o.op= .convert src dst x) {d:D} (hk:zfN P src dst d K)
  (hr: ∀ xs:List Int,(d= .nils∧xs=[])∨d= .val (.list (.int .u8)) xs→RV w F1 (.list (.int .u8)) xs [a.eval x]):QY P F M a w o K:=by
 have fin: ∀ xs:List Int,qp P src=true→ql P dst=true→RV w F1 (.list (.int .u8)) xs [a.eval x]→K (vs (strOf xs))→QY P F M a w o K:=fun xs h1 h2 h3 hk=>
  ⟨.string ⟨(strOf xs).toArray⟩,_,hk,⟨_,rfl,by simp⟩,fun w' hb=>by
   unfold execOp;rw [ho]
   have:=zlA h1 h2 (h3.keep (w' :=w') (F' :=F1) (fun g hg=>hb.block g (hF1 g hg)) fun _ z=>z)
   simp [this]⟩
 unfold zfN at hk
 split at hk
 ·rename_i h1 h2
  split at hk
  ·rename_i xs
   exact fin xs h1 h2 (hr xs (.inr rfl)) hk
  ·exact fin [] h1 h2 (hr [] (.inl ⟨rfl,rfl⟩)) hk
  ·exact hk.elim
 ·exact hk.elim
theorem zq0 (h:Inv w0 F0 F M σ a w) {src dst:TypeId} {x:Operand} (ho:o.op= .convert src dst x) (hk:wpq P σ (.convert src dst x) K):QY P F M a w o K:=by
 unfold wpq at hk
 dsimp only at hk
 have hx:=h.ev x
 split at hk
 ·rename_i i hb
  rw [hb] at hx
  obtain ⟨mo,hm,hv,_⟩:=hx
  refine zbC (F1:=fun b=>F b∨mo.g=some b) (fun g hg=>(h.flt g hg).1) (fun g hg=> ?_) ho hk fun xs hxs=> ?_
  ·rcases hg with hg | hg
   ·exact (h.flt g hg).1
   ·exact (h.mine _ _ _ hm hg).2.2
  ·unfold yN at hxs
   cases hf:zg σ.ob i with
   | none=>simp [hf] at hxs
   | some q=>
    cases q
    case cells p T cs=>simp [hf] at hxs
    case arr t ys=>simp [hf] at hxs
    case buf e ys=>simp [hf] at hxs
    case row pn e u ys=>
     cases pn with
     | true=>simp [hf] at hxs
     | false=>
      simp only [hf] at hxs
      rcases hxs with ⟨hxs,_⟩ | hxs
      ·cases hxs
      ·obtain ⟨mo',hm',hmk,hown⟩:=h.obs _ _ hf
       have:mo' =mo:=Option.some.inj (hm'.symm.trans hm)
       subst this
       injection hxs with e1 e2
       injection e1 with e1
       subst e1
       have e2:=eq_of_heq e2
       subst e2
       rw [hv]
       exact hown.reads (fun _ y=>Or.inl y) fun g hg=>Or.inr hg
 ·rename_i hb
  rw [hb] at hx
  obtain ⟨A,hv⟩:=hx
  refine zbC (F1:=F) (fun g hg=>(h.flt g hg).1) (fun g hg=>(h.flt g hg).1) ho hk fun xs hxs=> ?_
  rcases hxs with ⟨_,rfl⟩ | hxs
  ·rw [hv];exact ⟨A,0,rfl,Nat.le_refl _,by simp [maxLen],fun i y hy=>by simp at hy⟩
  ·cases hxs
 ·rename_i u xs hb
  rw [hb] at hx
  refine zbC (F1:=F) (fun g hg=>(h.flt g hg).1) (fun g hg=>(h.flt g hg).1) ho hk fun ys hys=> ?_
  rcases hys with ⟨hys,_⟩ | hys
  ·cases hys
  ·rw [hys] at hx
   exact hx
 ·exact ziY h ho hk
theorem ziZ (h:Inv w0 F0 F M σ a w) {x:Operand} {i:Nat} (ho:o.op= .extract x i) (hk:wpq P σ (.extract x i) K):QY P F M a w o K:=by
 unfold wpq at hk
 dsimp only at hk
 have hx:=h.ev x
 split at hk
 ·rename_i xs hb
  rw [hb] at hx
  obtain ⟨us,e,h2,h3⟩:=hx
  split at hk
  ·rename_i d hd
   obtain ⟨u,h4,h5⟩:=h3 i d hd
   exact ⟨u,d,hk,R.of1 h5,fun w' _=>by unfold execOp;rw [ho];simp [e,Instr.extract,h4]⟩
  ·exact hk.elim
 ·exact hk.elim
theorem q_len (h:Inv w0 F0 F M σ a w) {x:Operand} {t:TypeId} {c:Call} (ho:o.op= .call c) (hc:c.callee= .builtin .len) (hx:c.args.toList=[x]) (ht:c.argTypes.toList=[t]) (hk:lenD P σ.ob t (ev σ x) K):QY P F M a w o K:=by
 have hxx:=h.ev x
 have e1:c.args= #[x]:=by rw [← Array.toArray_toList (xs:=c.args),hx]
 have e2:c.argTypes= #[t]:=by rw [← Array.toArray_toList (xs:=c.argTypes),ht]
 have key: ∀ n d,K d→R w F M (.int .i64 n) d→(∀ w',(Builtin.len_ #[t] o.type #[a.eval x]).run P w' = .ok (.int .i64 n) w')→QY P F M a w o K:=fun n d hK hr hrun=>
  ⟨_,d,hK,hr,fun w' _=>by
   unfold execOp;rw [ho]
   simp [resolve,hc,e1,e2,invoke,builtin,hrun w']⟩
 unfold lenD at hk
 split at hk
 ·rename_i l hb
  rw [hb] at hxx
  obtain ⟨s,e,rfl⟩:=hxx.str
  split at hk
  ·rename_i hst
   exact key _ _ hk rfl fun w' =>by simp [Builtin.len_,e,run_underlying (jh hst),goInt]
  ·exact hk.elim
 ·rename_i u l hb
  rw [hb] at hxx
  obtain ⟨A,cc,e,_⟩:=hxx.list
  split at hk
  ·rename_i ee he
   exact key _ _ hk rfl fun w' =>by simp [Builtin.len_,e,run_underlying (z8 he),goInt]
  ·exact hk.elim
 ·rename_i hb
  rw [hb] at hxx
  obtain ⟨A,e⟩:=hxx
  split at hk
  ·rename_i ee he
   exact key _ _ hk rfl fun w' =>by simp [Builtin.len_,e,run_underlying (z8 he),goInt]
  ·exact hk.elim
 ·rename_i i hb
  rw [hb] at hxx
  obtain ⟨mo,h1,h2,_⟩:=hxx
  split at hk
  ·rename_i ee he
   split at hk
   ·rename_i e' u xs hf
    obtain ⟨mo',h3,h4,h5⟩:=h.obs _ _ hf
    have:mo' =mo:=Option.some.inj (h3.symm.trans h1)
    subst this
    refine key _ _ hk rfl fun w' => ?_
    rcases h5 with ⟨rfl,_,A,h7⟩ | ⟨g,cap,us,_,_,h7,_⟩
    ·simp [Builtin.len_,h2,h7,run_underlying (z8 he),goInt]
    ·simp [Builtin.len_,h2,h7,run_underlying (z8 he),goInt]
   ·exact hk.elim
  ·exact hk.elim
 ·exact hk.elim
theorem zi0 (h:Inv w0 F0 F M σ a w) {l:List Operand} {d d' :D} (he:evs σ l=[d,d']): ∃ x y,l=[x,y]∧R w F M (a.eval x) d∧R w F M (a.eval y) d' :=by
 match l,he with
 | [x,y],he=>
  simp only [evs,List.cons.injEq] at he
  obtain ⟨h1,h2,_⟩:=he
  exact ⟨x,y,rfl,h1 ▸ h.ev x,h2 ▸ h.ev y⟩
theorem q_max (h:Inv w0 F0 F M σ a w) {c:Call} (ho:o.op= .call c) (hc:c.callee= .builtin .max) {k:IntKind} {x y:Int} (he:evs σ c.args.toList=[.val (.int k) x,.val (.int k) y]) (hk:K (.val (.int k) (imax x y))):QY P F M a w o K:=by
 obtain ⟨p,q,hl,h1,h2⟩:=zi0 h he
 have e1:c.args= #[p,q]:=by rw [← Array.toArray_toList (xs:=c.args),hl]
 exact ⟨_,_,hk,rfl,fun w' _=>by
  unfold execOp;rw [ho]
  simp [resolve,hc,e1,invoke,builtin,Builtin.max_,Builtin.max2,h1.int,h2.int,imax]⟩
theorem q_min (h:Inv w0 F0 F M σ a w) {c:Call} (ho:o.op= .call c) (hc:c.callee= .builtin .min) {k:IntKind} {x y:Int} (he:evs σ c.args.toList=[.val (.int k) x,.val (.int k) y]) (hk:K (.val (.int k) (imin x y))):QY P F M a w o K:=by
 obtain ⟨p,q,hl,h1,h2⟩:=zi0 h he
 have e1:c.args= #[p,q]:=by rw [← Array.toArray_toList (xs:=c.args),hl]
 exact ⟨_,_,hk,rfl,fun w' _=>by
  unfold execOp;rw [ho]
  simp [resolve,hc,e1,invoke,builtin,Builtin.min_,Builtin.min2,h1.int,h2.int,imin]⟩
end
end
section
open Go.RowKit
section
variable {P:Program} {w0:W0 P} {w:World} {F0 F:Nat→Prop} {M:Nat→Option MO} {σ:St} {a:Act} {o:Oper}
def Rel (w:World) (F:Nat→Prop) (M:Nat→Option MO) (us:List Value) (cs:List D):Prop:=
 us.length=cs.length∧ ∀ (j:Nat) c,cs[j]? =some c→ ∃ u,us[j]? =some u∧u.oneCell' =true∧R0 w F M u c
def qh (us:List Value) (off:Nat):List Value→List Value
 | []=>us
 | v::r=>qh (us.set off v) (off+1) r
theorem Rel.set {us:List Value} {cs:List D} (h:Rel w F M us cs) {off:Nat} {u:Value} {c:D} (h1:u.oneCell' =true) (h2:R0 w F M u c):Rel w F M (us.set off u) (cs.set off c):=by
 refine ⟨by simp [h.1],fun j d hj=> ?_⟩
 rw [List.getElem?_set] at hj
 split at hj
 ·rename_i e
  subst e
  split at hj
  ·rename_i hlt
   have:c=d:=by simpa using hj
   subst this
   exact ⟨u,by rw [List.getElem?_set];simp [h.1,hlt],h1,h2⟩
  ·cases hj
 ·rename_i hne
  obtain ⟨u',h3,h4⟩:=h.2 j d hj
  exact ⟨u',by rw [List.getElem?_set];simp [hne,h3],h4⟩
theorem Rel.setFrom: ∀ {vs:List Value} {new:List D} {us:List Value} {cs:List D} {off:Nat},Rel w F M us cs→Rel w F M vs new→Rel w F M (qh us off vs) (setFrom cs off new)
 | [],[],_,_,_,h,_=>h
 | [],_::_,_,_,_,_,h=>by have:=h.1;simp at this
 | _::_,[],_,_,_,_,h=>by have:=h.1;simp at this
 | v::vs,d::new,us,cs,off,h,hn=>by
  obtain ⟨u,h1,h2,h3⟩:=hn.2 0 d rfl
  have:v=u:=by simpa using h1
  subst this
  show Rel w F M (qh (us.set off v) (off+1) vs) (Vc.setFrom (cs.set off d) (off+1) new)
  exact Rel.setFrom (h.set h2 h3) ⟨by have:=hn.1;simpa using this,fun j c hj=>hn.2 (j+1) c (by simpa using hj)⟩
theorem zaU: ∀ (vs us:List Value) (off:Nat),(qh us off vs).length=us.length
 | [],_,_=>rfl
 | v::r,us,off=>by rw [qh,zaU r];simp
theorem zb8: ∀ (vs us:List Value) (off:Nat),off+vs.length≤us.length→qh us off vs=us.take off++vs++us.drop (off+vs.length)
 | [],us,off,h=>by simp [qh]
 | v::r,us,off,h=>by
  simp only [List.length_cons] at h
  have hlt:off<us.length:=by omega
  rw [qh,zb8 r _ _ (by simp;omega)]
  have h1:(us.set off v).take (off+1)=us.take off++[v]:=by
   rw [List.take_succ_eq_append_getElem (by simpa using hlt),List.take_set_of_le (Nat.le_refl _)]
   simp
  have h2:(us.set off v).drop (off+1+r.length)=us.drop (off+(v::r).length):=by
   rw [List.drop_set_of_lt (by omega)]
   simp only [List.length_cons]
   congr 1
   omega
  rw [h1,h2]
  simp
theorem zdZ: ∀ (l:List Value) (k off:Nat) (cells:Array Value),((l.zipIdx k).foldl (fun cs (p:Value×Nat)=>cs.setIfInBounds (off+p.2) p.1) cells).toList=qh cells.toList (off+k) l
 | [],_,_,_=>rfl
 | v::r,k,off,cells=>by
  simp only [List.zipIdx_cons,List.foldl_cons,qh]
  rw [zdZ r (k+1) off]
  simp [Nat.add_assoc]
theorem yw {v:Value} {d:D} {new:List D} (h:R w F M v d) (hc:cellsOf d=some new):Rel w F M v.cells.toList new:=by
 have leaf:v.oneCell' =true→R0 w F M v d→new=[d]→Rel w F M v.cells.toList new:=fun h1 h2 h3=>by
  subst h3
  have:v.cells= #[v]:=by cases v<;>simp_all [Value.oneCell',Value.cells]
  rw [this]
  refine ⟨rfl,fun j c hj=> ?_⟩
  cases j with
  | zero=>
   have:d=c:=by simpa using hj
   subst this
   exact ⟨v,rfl,h1,h2⟩
  | succ j=>simp at hj
 cases d<;>simp only [cellsOf,Option.some.injEq] at hc<;>first | (cases hc;done) | skip
 case agg cs=>
  subst hc
  obtain ⟨vs,rfl,h1,h2⟩:=h
  refine ⟨by simpa [Value.cells] using h1,fun j c hj=> ?_⟩
  obtain ⟨u,h3,h4⟩:=h2 j c hj
  exact ⟨u,by simpa [Value.cells] using h3,h4⟩
 case val t x=>
  have h' :RV w F t x [v]:=h
  exact leaf (h'.one v (by simp)) h hc.symm
 case fn f=>
  have h' :v= .func f #[] #[]:=h
  exact leaf (by rw [h'];rfl) h hc.symm
 case nils=>
  obtain ⟨A,h'⟩:=id h
  exact leaf (by rw [h'];rfl) h hc.symm
 case slo i=>
  obtain ⟨mo,h1,h2,h3⟩:=id h
  exact leaf h3 h hc.symm
 case ptr i off=>
  obtain ⟨mo,g,h1,h2,h3⟩:=id h
  exact leaf (by rw [h3];rfl) h hc.symm
 case aptr i=>
  obtain ⟨mo,g,h1,h2,h3⟩:=id h
  exact leaf (by rw [h3];rfl) h hc.symm
 case pnil=>
  have h' :v= .pointer none:=h
  exact leaf (by rw [h'];rfl) h hc.symm
 case clo g cs=>
  obtain ⟨us,h1,h2⟩:=id h
  exact leaf (by rw [h1];rfl) h hc.symm
def zdk (a:Act) (l:List (Nat×Operand)):List (Nat×Value):=l.map fun p=>(p.1,a.eval p.2)
theorem zdl (h:Inv w0 F0 F M σ a w) {fs:Array Field} {place:Nat→Option (Nat×Nat)} (hp: ∀ i fd,fs[i]? =some fd→place i=some (fd.offset,zu P fd.type)):
  ∀ (l:List (Nat×Operand)) (cells:Array Value) (cs out:List D),Rel w F M cells.toList cs→zdg P fs (zW σ l) cs=some out→
   ∃ cells',Instr.fill place cells (zdk a l)=some cells' ∧Rel w F M cells'.toList out
 | [],cells,cs,out,hr,hb=>by
  simp only [zW,zdg,Option.some.injEq] at hb
  subst hb
  exact ⟨cells,rfl,hr⟩
 | (i,x)::l,cells,cs,out,hr,hb=>by
  simp only [zW,zdg] at hb
  split at hb
  ·rename_i fd new hfd hc
   have hx:=yw (h.ev x) hc
   have hlen:(a.eval x).cells.size=new.length:=by simpa using hx.1
   cases hcond:(Nat.beq new.length (zu P fd.type)&&Nat.ble (fd.offset+new.length) cs.length) with
   | false=>rw [hcond] at hb;cases hb
   | true=>
    rw [hcond] at hb
    simp only [Bool.and_eq_true] at hcond
    have h1:=Nat.eq_of_beq_eq_true hcond.1
    have h2:fd.offset+new.length≤cs.length:=Nat.le_of_ble_eq_true hcond.2
    have hsz:cells.size=cs.length:=by simpa using hr.1
    have hfold:((a.eval x).cells.zipIdx.foldl (fun cs (p:Value×Nat)=>cs.setIfInBounds (fd.offset+p.2) p.1) cells).toList=qh cells.toList fd.offset (a.eval x).cells.toList:=by
     rw [← Array.foldl_toList,Array.toList_zipIdx,zdZ];rfl
    have hr2:Rel w F M ((a.eval x).cells.zipIdx.foldl (fun cs (p:Value×Nat)=>cs.setIfInBounds (fd.offset+p.2) p.1) cells).toList (setFrom cs fd.offset new):=by
     rw [hfold];exact hr.setFrom hx
    obtain ⟨cells',h3,h4⟩:=zdl h hp l _ _ _ hr2 hb
    refine ⟨cells',?_,h4⟩
    have hne: ¬ ((decide ((a.eval x).cells.size≠zu P fd.type)||decide (fd.offset+(a.eval x).cells.size>cells.size))=true):=by
     simp only [Bool.or_eq_true,decide_eq_true_eq]
     omega
    simp only [zdk,List.map_cons,Instr.fill,hp i fd hfd]
    rw [if_neg hne]
    exact h3
  ·cases hb
theorem zdm: ∀ {zs:List D},zco zs=true→ ∀ (j:Nat) c,zs[j]? =some c→c≠ .bad
 | [],_,j,c,hj=>by simp at hj
 | z::r,hg,j,c,hj=>by
  cases z<;>simp only [zco] at hg<;>first | (cases hg;done) | skip
  all_goals
   cases j with
   | zero=>simp only [List.getElem?_cons_zero,Option.some.injEq] at hj;subst hj;simp
   | succ j=>exact zdm hg j c (by simpa using hj)
theorem zi1 {v:Value} (h:ofVal v≠ .bad):v.oneCell' =true:=by
 unfold ofVal at h
 split at h<;>first | rfl | exact absurd rfl h
theorem zbD: ∀ (l:List Value) (j:Nat),(qM l)[j]? =(l[j]?).map ofVal
 | [],j=>by simp [qM]
 | v::r,0=>by simp [qM]
 | v::r,j+1=>by simpa [qM] using zbD r j
theorem zaj: ∀ l:List Value,(qM l).length=l.length
 | []=>rfl
 | v::r=>by simp [qM,zaj r]
theorem zgN {vs:List Value} (hg:zco (qM vs)=true):Rel w F M vs (qM vs):=by
 refine ⟨(zaj vs).symm,fun j c hj=> ?_⟩
 have hne:=zdm hg j c hj
 rw [zbD] at hj
 obtain ⟨u,h1,rfl⟩:=Option.map_eq_some_iff.1 hj
 exact ⟨u,h1,zi1 hne,R0.ofVal u⟩
theorem zaV: ∀ {l:List Field},zaR P l=true→l.mapM (fun f=>(P.info? f.type).map fun i=>(f.offset,i.size))=some (l.map fun f=>(f.offset,zu P f.type))
 | [],_=>rfl
 | f::r,h=>by
  simp only [zaR,Bool.and_eq_true] at h
  have hpos:0<zu P f.type:=by simpa [Nat.blt_eq] using h.1
  have: ∃ i,P.info? f.type=some i∧zu P f.type=i.size:=by
   unfold zu at hpos ⊢
   split at hpos
   ·rename_i i hi;exact ⟨i,hi,rfl⟩
   ·omega
  obtain ⟨i,hi,hs⟩:=this
  simp [List.mapM_cons,hi,hs,zaV h.2]
variable {K:D→Prop}
theorem zoE (h:Inv w0 F0 F M σ a w) {t:TypeId} {parts:Array (Nat×Operand)} (ho:o.op= .build t parts) (hk:wpq P σ (.build t parts) K):QY P F M a w o K:=by
 unfold wpq at hk
 dsimp only at hk
 split at hk
 ·rename_i fs hu
  split at hk
  ·rename_i zs hsized hz
   split at hk
   ·rename_i cs hg hb
    unfold zaP at hz
    split at hz
    ·rename_i it hit
     split at hz
     ·rename_i zc hzero
      simp only [D.agg.injEq] at hz
      subst hz
      have hrel:Rel w F M zc.toList (qM zc.toList):=zgN hg
      obtain ⟨cells',h1,h2⟩:=zdl (P:=P) h (place:=fun i=>(fs.toList.map fun f=>(f.offset,zu P f.type)).toArray[i]?) (fun i fd hfd=>by
       simp [List.getElem?_map,hfd]) parts.toList zc _ cs hrel hb
      refine ⟨.agg cells',_,hk,⟨cells',rfl,by simpa using h2.1,fun j c hj=> ?_⟩,fun w' _=> ?_⟩
      ·obtain ⟨u,h3,h4⟩:=h2.2 j c hj
       exact ⟨u,by simpa using h3,h4⟩
      ·have hbt:P.built t (parts.map fun p=>(p.1,a.eval p.2)).toList=some cells' :=by
        unfold Program.built
        simp only [hit,hu,hzero,zaV hsized]
        rw [Array.toList_map]
        exact h1
       have hr:=run_build (P:=P) w' t (parts.map fun p=>(p.1,a.eval p.2)) cells' hbt
       unfold execOp
       rw [ho]
       simp only [Sem.run_bind]
       rw [show (Array.map (fun x=>match x with | (i,x)=>(i,a.eval x)) parts)=(parts.map fun p=>(p.1,a.eval p.2)) from rfl,hr]
       rfl
     ·rename_i v hv hzero
      have hbad: ∀ v:Value,ofVal v≠ .agg zs:=fun v=>by unfold ofVal;split<;>simp
      exact absurd hz (hbad _)
     ·cases hz
    ·cases hz
   ·exact hk.elim
  ·exact hk.elim
 ·exact hk.elim
theorem zi2 (h:Inv w0 F0 F M σ a w) (hk:wpq P σ o.op K):QY P F M a w o K:=by
 cases ho:o.op<;>rw [ho] at hk<;>try (exact (show False from hk).elim)
 case move x=>exact zqV h ho hk
 case assign x=>exact zly h ho hk
 case pick c x y=>exact zqW h ho hk
 case build t ps=>exact zoE h ho hk
 case load t x=>exact zqX h ho hk
 case nilCheck x=>exact zh7 h ho hk
 case binOp op t x y t' =>
  have hk' :(match zbZ y with | true=>nilD P op t (ev σ x) K | false=>match zaQ y with | true=>errD P op t (ev σ x) K | false=>binD P op t (ev σ x) (ev σ y) K):=hk
  cases hn:zbZ y with
  | true=>rw [hn] at hk';exact zoC h ho hn hk'
  | false=>
   rw [hn] at hk'
   have hk' :(match zaQ y with | true=>errD P op t (ev σ x) K | false=>binD P op t (ev σ x) (ev σ y) K):=hk'
   cases hi:zaQ y with
   | true=>rw [hi] at hk';exact zoD h ho hi hk'
   | false=>rw [hi] at hk';exact zoB h ho hk'
 case unOp op t x=>exact zqZ h ho hk
 case convert s d x=>exact zq0 h ho hk
 case slice t x lo hi mx=>exact zoA h ho hk
 case fieldAddr s x f=>exact zfP h ho hk
 case field s x f=>exact zow h ho hk
 case indexAddr t x ix=>exact zfQ h ho hk
 case index t x ix=>exact zox h ho hk
 case extract x i=>exact ziZ h ho hk
 case call c=>
  obtain ⟨callee,args,ats⟩:=c
  cases callee with
  | value f=>exact (show False from hk).elim
  | invoke r m=>exact (show False from hk).elim
  | builtin b=>
   cases b<;>try (exact (show False from hk).elim)
   case len=>
    unfold wpq at hk
    dsimp only at hk
    split at hk
    ·rename_i x t h1 h2
     exact q_len h ho rfl h1 h2 hk
    ·exact hk.elim
   case max=>
    unfold wpq at hk
    dsimp only at hk
    split at hk
    ·rename_i k x k' y he
     by_cases hkk:k=k'
     ·subst hkk
      rw [decide_eq_true rfl] at hk
      exact q_max h ho rfl he hk
     ·rw [decide_eq_false hkk] at hk
      exact hk.elim
    ·exact hk.elim
   case min=>
    unfold wpq at hk
    dsimp only at hk
    split at hk
    ·rename_i k x k' y he
     by_cases hkk:k=k'
     ·subst hkk
      rw [decide_eq_true rfl] at hk
      exact q_min h ho rfl he hk
     ·rw [decide_eq_false hkk] at hk
      exact hk.elim
    ·exact hk.elim
end
end
end Go.Proofs.YthcmfnkganacaaaGreatDoor.Vc
