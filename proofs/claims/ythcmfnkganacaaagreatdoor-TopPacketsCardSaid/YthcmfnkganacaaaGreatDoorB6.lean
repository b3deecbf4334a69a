/-
  THE SCHEMA: what follows for routes and hosts of a tree without faults. Plain. No condition.
-/
import Derived.Test.YthcmfnkganacaaaGreatDoorB2
import Derived.Test.YthcmfnkganacaaaGreatDoorB3
import Derived.Test.YthcmfnkganacaaaGreatDoorB5
set_option linter.unusedVariables false
set_option linter.unusedSimpArgs false
set_option maxRecDepth 100000
namespace Go.Proofs.YthcmfnkganacaaaGreatDoor.Vc
section
open Go.RowKit
def runE {A E R:Type} (f:A→E→A ⊕ R):List E→A→A ⊕ R
 | [],a=> .inl a
 | x::l,a=>match f a x with
  | .inl a' =>runE f l a'
  | .inr r=> .inr r
theorem ye {X R A E:Type} {step:X→Option (Lp X R)} (l:List E) (mk:A→Int→X) (I:Nat→A→Prop) (f:A→E→A ⊕ R)
  (hs: ∀ a (i:Nat) x,I i a→l[i]? =some x→step (mk a (i:Int))=some (match f a x with
   | .inl a' => .next (mk a' ((i:Int)+1))
   | .inr r=> .ret r))
  (hI: ∀ a (i:Nat) x a',I i a→l[i]? =some x→f a x= .inl a' →I (i+1) a')
  (he: ∀ a,I l.length a→step (mk a (l.length:Int))=some (.brk 0 (mk a l.length)))
  (a0:A) (h0:I 0 a0) (N:Nat) (hN:l.length<N):zl step N (mk a0 0)=some (match runE f l a0 with
   | .inl a=> .brk 0 (mk a l.length)
   | .inr r=> .ret r):=by
 have key: ∀ (k:Nat) (N:Nat) (i:Nat) (a:A),i+k=l.length→k<N→I i a→zl step N (mk a i)=some (match runE f (l.drop i) a with
   | .inl a=> .brk 0 (mk a l.length)
   | .inr r=> .ret r):=by
  intro k
  induction k with
  | zero=>
   intro N i a hi hN hIa
   obtain ⟨N,rfl⟩: ∃ M,N=M+1:=⟨N - 1,by omega⟩
   have:i=l.length:=by omega
   subst this
   unfold zl
   rw [he a hIa,List.drop_eq_nil_of_le (Nat.le_refl _)]
   rfl
  | succ k ih=>
   intro N i a hi hN hIa
   obtain ⟨N,rfl⟩: ∃ M,N=M+1:=⟨N - 1,by omega⟩
   have hlt:i<l.length:=by omega
   have hx:l[i]? =some l[i]:=List.getElem?_eq_getElem hlt
   unfold zl
   rw [hs a i _ hIa hx,List.drop_eq_getElem_cons hlt]
   cases hf:f a l[i] with
   | inl a' =>
    simp only [runE,hf]
    have:=ih N (i+1) a' (by omega) (by omega) (hI a i _ a' hIa hx hf)
    simpa using this
   | inr r=>simp only [runE,hf]
 simpa using key l.length N 0 a0 (by omega) hN h0
def pcs (c:UInt8):Bs→List Bs
 | []=>[[]]
 | b::l=>if b=c then []::pcs c l else match pcs c l with
  | []=>[[b]]
  | p::r=>(b::p)::r
def att (q:Bs):List Bs→List Bs
 | []=>[q]
 | p::r=>(q++p)::r
theorem zhX (c:UInt8) (l:Bs):pcs c l≠[]:=by
 cases l with
 | nil=>simp [pcs]
 | cons b l=>
  unfold pcs
  split
  ·simp
  ·split<;>simp
theorem qe {c b:UInt8} (l:Bs) (h:b≠c):pcs c (b::l)=att [b] (pcs c l):=by
 have e:pcs c (b::l)=match pcs c l with
  | []=>[[b]]
  | p::r=>(b::p)::r:=by rw [pcs,if_neg h]
 rw [e]
 have hn:=zhX c l
 revert hn
 cases pcs c l with
 | nil=>exact fun h=>absurd rfl h
 | cons p r=>exact fun _=>rfl
theorem jL (c:UInt8) (l:Bs):pcs c (c::l)=[]::pcs c l:=by rw [pcs,if_pos rfl]
theorem zk4 {L:List Bs} (h:L≠[]):att [] L=L:=by
 cases L with
 | nil=>exact absurd rfl h
 | cons p r=>rfl
theorem zqs (a b:Bs) (L:List Bs):att a (att b L)=att (a++b) L:=by cases L<;>simp [att]
theorem zhY {c:UInt8}: ∀ {l:Bs},c∉l→pcs c l=[l]
 | [],_=>rfl
 | b::l,h=>by
  simp only [List.mem_cons,not_or] at h
  rw [qe l (Ne.symm h.1),zhY h.2];rfl
theorem zk5 {c:UInt8}: ∀ {a:Bs} (b:Bs),c∉a→pcs c (a++c::b)=a::pcs c b
 | [],b,_=>jL c b
 | x::a,b,h=>by
  simp only [List.mem_cons,not_or] at h
  rw [List.cons_append,qe _ (Ne.symm h.1),zk5 b h.2];rfl
theorem zc1 (c:UInt8): ∀ (l:Bs),∀ p∈pcs c l,p.length≤l.length
 | [],p,hp=>by simp [pcs] at hp;subst hp;simp
 | b::l,p,hp=>by
  by_cases h:b=c
  ·subst h
   rw [jL] at hp
   rcases List.mem_cons.1 hp with rfl | hp
   ·simp
   ·have:=zc1 b l p hp;simp;omega
  ·rw [qe l h] at hp
   have ih:=zc1 c l
   cases hL:pcs c l with
   | nil=>exact absurd hL (zhX c l)
   | cons q r=>
    rw [hL] at hp ih
    simp only [att,List.mem_cons] at hp
    rcases hp with rfl | hp
    ·have:=ih q (by simp);simp;omega
    ·have:=ih p (by simp [hp]);simp;omega
theorem zbu (c:UInt8) (l:Bs):Lib.index (c::l) [c]=0:=by rw [Lib.index];simp [List.isPrefixOf]
theorem zbv {c b:UInt8} (l:Bs) (h:b≠c):Lib.index (b::l) [c]=if Lib.index l [c]== -1 then -1 else Lib.index l [c]+1:=by
 rw [Lib.index]
 simp [List.isPrefixOf,Ne.symm h]
theorem zbX (c:UInt8): ∀ (l:Bs) (k:Nat),l.count c≤k→Lib.splitK [c] 0 k l=pcs c l
 | [],0,_=>rfl
 | [],k+1,_=>by simp [Lib.splitK,Lib.index,pcs]
 | b::l,k,hk=>by
  by_cases h:b=c
  ·subst h
   rw [List.count_cons_self] at hk
   obtain ⟨k,rfl⟩: ∃ j,k=j+1:=⟨k - 1,by omega⟩
   rw [Lib.splitK,zbu,jL]
   simp [zbX b l k (by omega)]
  ·rw [List.count_cons_of_ne (by simpa using h)] at hk
   have ih:=zbX c l k hk
   have hge:=Lib.index_ge l [c]
   cases k with
   | zero=>
    have h0:pcs c l=[l]:=by rw [← ih];rfl
    rw [qe l h,h0];rfl
   | succ k=>
    rw [Lib.splitK,zbv l h,qe l h,← ih,Lib.splitK]
    by_cases hm:Lib.index l [c]= -1
    ·simp [hm,att]
    ·have hj:(Lib.index l [c]+1).toNat=(Lib.index l [c]).toNat+1:=by omega
     have h1:(Lib.index l [c]== -1)=false:=by simpa using hm
     have h2:(Lib.index l [c]+1== -1)=false:=by simp;omega
     simp only [h1,Bool.false_eq_true,if_false,h2,att,hj,Nat.add_zero,List.length_cons,List.length_nil,Nat.zero_add,List.take_succ_cons,List.drop_succ_cons,List.cons_append,List.nil_append]
theorem zqt (c:UInt8) (s:Bs) (hs:s.length≤100000):zpn 300000 s [c]=some (pcs c s):=by
 have h1:Lib.countB ⟨s.toArray⟩ ⟨#[c]⟩=s.count c:=Lib.count_one c s
 have h2:s.count c≤s.length:=List.count_le_length
 unfold zpn F114
 have hc:Lib.countB ⟨s.toArray⟩ ⟨([c]:Bs).toArray⟩=s.count c:=h1
 rw [hc,if_pos ⟨by omega,by simp,by omega⟩,zbX c s _ (Nat.le_refl _)]
theorem zk6 (c:UInt8) (s:Bs) (hs:s.length≤5000):F34o 300000 s (c.toNat:Int)=some (pcs c s):=by
 unfold F34o V34o
 simp only [zB,ze]
 obtain ⟨o,ho,hp⟩:=zA (R:=List Bs) (step:=fun x=>zhP 300000 x.1 x.2.1 x.2.2.1 x.2.2.2.1 x.2.2.2.2)
  (fun x=>x.1=s∧x.2.1=(c.toNat:Int)∧0≤x.2.2.2.1∧x.2.2.2.1≤x.2.2.2.2∧x.2.2.2.2≤s.length+1∧x.2.2.1.length≤x.2.2.2.2∧(x.2.2.2.2≤s.length→x.2.2.1++att (slc s x.2.2.2.1 x.2.2.2.2) (pcs c (s.drop x.2.2.2.2.toNat))=pcs c s)∧(x.2.2.2.2=s.length+1→x.2.2.1=pcs c s))
  (fun x=>(s.length+1 - x.2.2.2.2).toNat)
  (fun o=> ∃ f j,o= .brk 0 (s,(c.toNat:Int),pcs c s,f,j))
  (by
   rintro ⟨s',c',out,f,i⟩ ⟨e1,e2,h0,h1,h2,hl,hA,hB⟩
   dsimp only at e1 e2 h0 h1 h2 hl hA hB ⊢
   subst e1 e2
   unfold zhP zod
   by_cases hi:i≤(s'.length:Int)
   ·have hA:=hA hi
    have hlen:(slc s' f i).length≤s'.length:=by unfold slc;simp;omega
    have hroom:room (out.length+([(slc s' f i)]:List Bs).length):=by show _≤_;simp;omega
    have hsl:(0:Int)≤f∧f≤i∧i≤(s'.length:Int):=⟨h0,h1,hi⟩
    have hsl2:(0:Int)≤f∧f≤i∧True:=⟨h0,h1,trivial⟩
    by_cases he:i=(s'.length:Int)
    ·subst he
     have e0:decide (((s'.length:Nat):Int)≤(s'.length:Int))=true:=by simp
     simp (disch:=first | assumption | omega) only [zi,ze,zn,e0,if_true,beq_self_eq_true,zz]
     refine ⟨_,rfl,.inl ⟨_,rfl,⟨rfl,rfl,by simp only;omega,by simp only;omega,by simp only;omega,by simp only [List.length_append,List.length_cons,List.length_nil];omega,fun h=>by simp only at h;omega,fun _=> ?_⟩,by simp only;omega⟩⟩
     rw [← hA]
     have:s'.drop ((s'.length:Int)).toNat=[]:=List.drop_eq_nil_of_le (by simp)
     rw [this];simp [pcs,att]
    ·have hlt:i.toNat<s'.length:=by omega
     have hin:inR i s'.length:=⟨by omega,by omega⟩
     have hd:s'.drop i.toNat=s'[i.toNat]::s'.drop (i+1).toNat:=by
      rw [List.drop_eq_getElem_cons hlt,show (i+1).toNat=i.toNat+1 by omega]
     have hb:qg s' i=(s'[i.toNat].toNat:Int):=by unfold qg;simp [List.getD,List.getElem?_eq_getElem hlt]
     rw [hd] at hA
     simp (disch:=first | assumption | omega) only [zi,ze,zn,decide_eq_true_eq,hi,if_true,beq_iff_eq,he,if_false,zz,hb]
     by_cases hc:s'[i.toNat]=c
     ·rw [hc,jL] at hA
      rw [if_pos (by rw [hc])]
      refine ⟨.next (s',(c.toNat:Int),out++[slc s' f i],i+1,i+1),rfl,.inl ⟨_,rfl,⟨rfl,rfl,by simp only;omega,by simp only;omega,by simp only;omega,by simp only [List.length_append,List.length_cons,List.length_nil];omega,fun _=> ?_,fun h=> ?_⟩,by simp only;omega⟩⟩
      ·rw [← hA]
       have:slc s' (i+1) (i+1)=[]:=by unfold slc;simp
       simp only [this,zk4 (zhX _ _)]
       simp [att]
      ·simp only at h;omega
     ·have hcn: ¬((s'[i.toNat].toNat:Int)=(c.toNat:Int)):=fun e=>hc (UInt8.toNat_inj.1 (by omega))
      rw [if_neg hcn]
      refine ⟨.next (s',(c.toNat:Int),out,f,i+1),rfl,.inl ⟨_,rfl,⟨rfl,rfl,by simp only;omega,by simp only;omega,by simp only;omega,by simp only;omega,fun _=> ?_,fun h=> ?_⟩,by simp only;omega⟩⟩
      ·rw [← hA,qe _ hc,zqs]
       have:slc s' f (i+1)=slc s' f i++[s'[i.toNat]]:=by
        unfold slc
        have e1:(i+1).toNat - f.toNat=(i.toNat - f.toNat)+1:=by omega
        rw [e1,List.take_add_one]
        congr 1
        rw [List.getElem?_drop,show f.toNat+(i.toNat - f.toNat)=i.toNat by omega,List.getElem?_eq_getElem hlt];rfl
       simp only [this]
      ·simp only at h;omega
   ·simp only [zi,ze,decide_eq_true_eq,hi,if_false]
    have:i=s'.length+1:=by omega
    refine ⟨_,rfl,.inr ⟨by simp,f,i,?_⟩⟩
    rw [hB this]) 300000 (s,(c.toNat:Int),[],0,0) ⟨rfl,rfl,by simp,by simp,by simp only;omega,by simp,fun _=>by simp [slc,zk4 (zhX _ _)],fun h=>by simp only at h;omega⟩ (by simp only;omega)
 obtain ⟨f,j,rfl⟩:=hp
 unfold zkJ
 rw [ho]
 rfl
end
section
open Go.RowKit
theorem znn {s:Bs} {n:Int} (h:Lib.atoiAll s= .ok n): -9223372036854775808≤n∧n≤9223372036854775807:=by
 unfold Lib.atoiAll at h
 split at h
 ·cases h
 ·dsimp only at h
  split at h
  ·cases h
  ·cases h
  ·rename_i u hu
   split at h
   ·cases h
   ·split at h
    ·cases h
    ·have hn:=Lib.NumEnd.ok.inj h
     split at hn<;>omega
theorem zk7 (s:Bs) (hs:s.length≤1000000): ∃ n e,F138 300000 s=some (n,e)∧ -9223372036854775808≤n∧n≤9223372036854775807:=by
 show ∃ n e,ziu s=some (n,e)∧_
 unfold ziu
 rw [if_pos hs]
 split
 ·rename_i n h
  exact ⟨_,_,rfl,znn h⟩
 ·refine ⟨_,_,rfl,?_⟩
  unfold Lib.atoiSat
  split<;>omega
 ·exact ⟨_,_,rfl,by omega,by omega⟩
theorem zol (n:Int) (h: -9223372036854775808≤n∧n≤9223372036854775807):F139 300000 n=some (Lib.itoa n):=if_pos h
theorem zno (s:Bs) (lo hi:Int) (hs:s.length≤1000000): ∃ r,F78 300000 s lo hi=some r∧(r.2=true→imax lo 0≤r.1∧r.1≤hi∧Lib.itoa r.1=s):=by
 obtain ⟨n,e,h,hn⟩:=zk7 s hs
 unfold F78 V78
 simp only [zi,ze,zm,zM,zP,zS,zN,zD,zU,zB,zV,za,decide_eq_true_eq,Bool.not_eq_true',Bool.true_eq_false,Bool.false_eq_true,if_true,if_false,reduceCtorEq,h,zol n hn]
 cases e with
 | true=>exact ⟨_,rfl,fun h=>by cases h⟩
 | false=>
  simp only [Bool.false_eq_true,if_false]
  by_cases h1:(10:Int)<(s.length:Int)
  ·rw [if_pos h1];exact ⟨_,rfl,fun h=>by cases h⟩
  ·rw [if_neg h1]
   by_cases h2:n<imax lo 0
   ·rw [if_pos h2];exact ⟨_,rfl,fun h=>by cases h⟩
   ·rw [if_neg h2]
    by_cases h3:hi<n
    ·rw [if_pos h3];exact ⟨_,rfl,fun h=>by cases h⟩
    ·rw [if_neg h3]
     by_cases h4:Lib.itoa n=s
     ·refine ⟨(n,true),?_,fun _=>⟨by simp only;omega,by simp only;omega,h4⟩⟩
      simp [h4]
     ·refine ⟨(0,false),?_,fun h=>by cases h⟩
      simp [h4]
theorem znp:(List.range 256).all (fun k=>F36 300000 (Lib.itoa k)==some (k:Int))=true:=by kernel_rfl
theorem zeN {n:Int} (h0:0≤n) (h1:n≤255):F36 300000 (Lib.itoa n)=some n:=by
 have h:=List.all_eq_true.1 znp n.toNat (List.mem_range.2 (by omega))
 have e:((n.toNat:Nat):Int)=n:=Int.toNat_of_nonneg h0
 rw [e] at h
 exact eq_of_beq h
theorem znq:(List.range 256).all (fun k=>(Lib.itoa k).all fun c=>decide (48≤c.toNat∧c.toNat≤57))=true:=by kernel_rfl
theorem zqu {n:Int} (h0:0≤n) (h1:n≤255): ∀ c∈Lib.itoa n,48≤c.toNat∧c.toNat≤57:=by
 have h:=List.all_eq_true.1 znq n.toNat (List.mem_range.2 (by omega))
 have e:((n.toNat:Nat):Int)=n:=Int.toNat_of_nonneg h0
 rw [e] at h
 exact fun c hc=>of_decide_eq_true (List.all_eq_true.1 h c hc)
theorem zsM {s k:Int} (h0:0≤s) (h1:s<16777216) (k0:0≤k) (k1:k≤255):
  IntKind.i64.wrap (((BitVec.ofInt IntKind.i64.bits (IntKind.i64.wrap (s*2 ^ (min (8:Int).toNat (IntKind.i64.bits)))) ||| BitVec.ofInt IntKind.i64.bits k).toNat:Int))=256*s+k:=by
 obtain ⟨a,rfl⟩: ∃ a:Nat,s=a:=⟨s.toNat,by omega⟩
 obtain ⟨b,rfl⟩: ∃ b:Nat,k=b:=⟨k.toNat,by omega⟩
 have e0:(2:Int) ^ (min (8:Int).toNat (IntKind.i64.bits))=256:=by decide
 rw [e0,zz (n:=(a:Int)*256) (by omega) (by omega)]
 have e1:BitVec.ofInt IntKind.i64.bits ((a:Int)*256)=BitVec.ofNat 64 (a*256):=by
  have:((a:Int)*256)=((a*256:Nat):Int):=by omega
  rw [this];exact BitVec.ofInt_natCast 64 _
 have e2:BitVec.ofInt IntKind.i64.bits (b:Int)=BitVec.ofNat 64 b:=BitVec.ofInt_natCast 64 _
 have e3:(BitVec.ofNat 64 (a*256) ||| BitVec.ofNat 64 b).toNat=a*256+b:=by
  rw [BitVec.toNat_or,BitVec.toNat_ofNat,BitVec.toNat_ofNat,Nat.mod_eq_of_lt (by omega),Nat.mod_eq_of_lt (by omega)]
  have:=Nat.shiftLeft_add_eq_or_of_lt (show b<2 ^ 8 by omega) a
  rw [Nat.shiftLeft_eq] at this
  exact this.symm
 rw [e1,e2]
 show IntKind.i64.wrap (((BitVec.ofNat 64 (a*256) ||| BitVec.ofNat 64 b).toNat:Nat):Int)=_
 rw [e3,zz (by omega) (by omega)]
 omega
def ipOf (ks:List Int):Int:=ks.foldl (fun o k=>256*o+k) 0
theorem zfA (ks:List Int) (k:Int):ipOf (ks++[k])=256*ipOf ks+k:=by simp [ipOf]
theorem zhZ: ∀ (ks:List Int) (o:Int) (m:Nat),(∀ k∈ks,0≤k∧k≤255)→0≤o→o<256 ^ m→0≤ks.foldl (fun o k=>256*o+k) o∧ks.foldl (fun o k=>256*o+k) o<256 ^ (m+ks.length)
 | [],o,m,_,h0,h1=>⟨h0,h1⟩
 | k::ks,o,m,hb,h0,h1=>by
  have hk:=hb k (by simp)
  have:=zhZ ks (256*o+k) (m+1) (fun x hx=>hb x (by simp [hx])) (by omega) (by rw [Int.pow_succ];omega)
  rw [List.foldl_cons,List.length_cons,show m+(ks.length+1)=m+1+ks.length by omega]
  exact this
theorem zc2 {ks:List Int} (h: ∀ k∈ks,0≤k∧k≤255):0≤ipOf ks∧ipOf ks<256 ^ ks.length:=by
 have:=zhZ ks 0 0 h (by omega) (by decide)
 rwa [Nat.zero_add] at this
theorem F_ip (a:Bs) (ha:a.length≤5000): ∃ r,F77 300000 a=some r∧(r.2=true→ ∃ ks:List Int,ks.length=4∧(∀ k∈ks,0≤k∧k≤255)∧pcs 46 a=ks.map Lib.itoa∧r.1=ipOf ks):=by
 unfold F77 V77
 simp only [zi,ze,zm,zM,zP,zS,zN,zD,zU,zB,zV,za,decide_eq_true_eq,Bool.not_eq_true',Bool.true_eq_false,Bool.false_eq_true,if_true,if_false,reduceCtorEq,zqt 46 a (by omega)]
 by_cases h4:(pcs 46 a).length=4
 ·have e:((pcs 46 a).length:Int)=4:=by omega
  simp only [e,bne_self_eq_false,Bool.false_eq_true,if_false]
  generalize hl:pcs 46 a=l at h4
  have hsm: ∀ w∈l,w.length≤5000:=fun w hw=>Nat.le_trans (zc1 46 a w (hl ▸ hw)) ha
  obtain ⟨o,ho,hp⟩:=zA (R:=Int×Bool) (step:=fun x=>zmM 300000 x.1 x.2.1 x.2.2.1 x.2.2.2)
   (fun x=>x.2.1=l∧x.2.2.1=4∧0≤x.2.2.2∧x.2.2.2≤4∧ ∃ ks:List Int,(ks.length:Int)=x.2.2.2∧(∀ k∈ks,0≤k∧k≤255)∧l.take x.2.2.2.toNat=ks.map Lib.itoa∧x.1=ipOf ks)
   (fun x=>(4 - x.2.2.2).toNat)
   (fun o=>o= .ret (0,false)∨ ∃ ks:List Int,ks.length=4∧(∀ k∈ks,0≤k∧k≤255)∧l=ks.map Lib.itoa∧o= .brk 0 (ipOf ks,l,4,4))
   (by
    rintro ⟨s,l',m,i⟩ ⟨e1,e2,h0,h1,ks,hk,hb,ht,hs⟩
    dsimp only at e1 e2 h0 h1 hk ht hs ⊢
    subst e1 e2 hs
    unfold zmM zrY
    by_cases hi:i<4
    ·have hin:inR i l'.length:=⟨h0,by omega⟩
     have hlt:i.toNat<l'.length:=by omega
     have hw:atI tS l' i=l'[i.toNat]:=by unfold atI;simp [List.getD,List.getElem?_eq_getElem hlt]
     obtain ⟨⟨n,b⟩,hn,hok⟩:=zno (atI tS l' i) 0 255 (by have:=hsm _ (List.getElem_mem hlt);rw [hw];omega)
     have h8:(0:Int)≤8:=by omega
     simp (disch:=first | assumption | omega) only [zi,ze,zm,zM,zP,zS,zN,zD,zU,zB,zV,za,decide_eq_true_eq,Bool.not_eq_true',Bool.true_eq_false,Bool.false_eq_true,if_true,if_false,reduceCtorEq,zn,hi,hn]
     cases b with
     | false=>exact ⟨_,rfl,.inr ⟨by simp,.inl rfl⟩⟩
     | true=>
      obtain ⟨g1,g2,g3⟩:=hok rfl
      have g1:0≤n:=by simpa [imax] using g1
      have g2:n≤255:=g2
      have hrng:=zc2 hb
      have hp:(256:Int) ^ ks.length≤16777216:=by
       have:ks.length≤3:=by omega
       match hL:ks.length,this with
       | 0,_=>decide
       | 1,_=>decide
       | 2,_=>decide
       | 3,_=>decide
      simp (disch:=omega) only [Bool.true_eq_false,if_false,zz (n:=i+1)]
      refine ⟨_,rfl,.inl ⟨_,rfl,⟨rfl,rfl,by simp only;omega,by simp only;omega,ks++[n],by simp;omega,fun k hk' => ?_,?_,?_⟩,by simp only;omega⟩⟩
      ·rcases List.mem_append.1 hk' with h | h
       ·exact hb k h
       ·have:k=n:=by simpa using h
        subst this;exact ⟨g1,g2⟩
      ·simp only
       rw [show (i+1).toNat=i.toNat+1 by omega,List.take_add_one,ht,List.getElem?_eq_getElem hlt,← hw,← g3]
       simp
      ·simp only
       rw [zfA,zsM (by omega) (by omega) g1 g2]
    ·have:i=4:=by omega
     subst this
     simp only [zi,ze,zm,zM,zP,zS,zN,zD,zU,zB,zV,za,decide_eq_true_eq,Bool.not_eq_true',Bool.true_eq_false,Bool.false_eq_true,if_true,if_false,reduceCtorEq,hi]
     refine ⟨_,rfl,.inr ⟨by simp,.inr ⟨ks,by omega,hb,?_,rfl⟩⟩⟩
     rw [← ht,List.take_of_length_le (by simp;omega)]) 300000 (0,l,4,0) ⟨rfl,rfl,by simp,by simp,[],by simp,by simp,by simp,rfl⟩ (by simp)
  unfold zpC
  rw [ho]
  rcases hp with rfl | ⟨ks,k1,k2,k3,rfl⟩
  ·exact ⟨_,rfl,fun h=>by cases h⟩
  ·exact ⟨_,rfl,fun _=>⟨ks,k1,k2,k3,rfl⟩⟩
 ·have e:(((pcs 46 a).length:Int) !=4)=true:=by simp;omega
  simp only [e,if_true]
  exact ⟨_,rfl,fun h=>by cases h⟩
theorem R_ip (a:Bs) (ha:a.length≤5000) {ks:List Int} (h4:ks.length=4) (hb: ∀ k∈ks,0≤k∧k≤255) (hp:pcs 46 a=ks.map Lib.itoa):F35 300000 a=some (ipOf ks):=by
 unfold F35 V35
 have hq:=zk6 46 a ha
 have e46:(((46:UInt8).toNat:Nat):Int)=46:=rfl
 rw [e46] at hq
 have hL:((ks.map Lib.itoa).length:Int)=4:=by simp;omega
 have e:(((ks.map Lib.itoa).length:Int) !=4)=false:=by rw [hL];rfl
 simp only [zi,ze,zm,zM,zP,zS,zN,zD,zU,zB,zV,za,decide_eq_true_eq,Bool.not_eq_true',Bool.true_eq_false,Bool.false_eq_true,if_true,if_false,reduceCtorEq,hq,hp,e]
 have hget: ∀ (i:Nat) x,(ks.map Lib.itoa)[i]? =some x→ ∃ k,ks[i]? =some k∧x=Lib.itoa k:=fun i x hx=>by
  rw [List.getElem?_map] at hx
  cases hk:ks[i]? with
  | none=>rw [hk] at hx;cases hx
  | some k=>rw [hk] at hx;exact ⟨k,rfl,(Option.some.inj hx).symm⟩
 have hrun:=ye (R:=Int) (step:=fun x=>zkK 300000 x.1 x.2.1 x.2.2) (ks.map Lib.itoa) (fun o i=>(ks.map Lib.itoa,o,i)) (fun i o=>o=ipOf (ks.take i)) (fun o w=> .inl (256*o+(F36 300000 w).getD 0))
  (fun o i x ho hx=>by
   obtain ⟨k,hk,rfl⟩:=hget i x hx
   have hkb:=hb k (List.mem_of_getElem? hk)
   have hi:i<ks.length:=(List.getElem?_eq_some_iff.1 hk).1
   have hrng:=zc2 (ks:=ks.take i) (fun k hk=>hb k (List.mem_of_mem_take hk))
   rw [← ho] at hrng
   have hpw:(256:Int) ^ (ks.take i).length≤16777216:=by
    have:(ks.take i).length≤3:=by simp;omega
    match hL:(ks.take i).length,this with
    | 0,_=>decide
    | 1,_=>decide
    | 2,_=>decide
    | 3,_=>decide
   unfold zkK zp3
   have hin:inR (i:Int) (ks.map Lib.itoa).length:=⟨by omega,by omega⟩
   have hw:atI tS (ks.map Lib.itoa) (i:Int)=Lib.itoa k:=by
    unfold atI
    simp only [Int.toNat_natCast,List.getD,hx]
    rfl
   have hi' :(i:Int)<4:=by omega
   have c1: ¬ k<0:=by omega
   have c2: ¬ (255:Int)<k:=by omega
   simp (disch:=first | assumption | omega) only [zi,ze,zm,zM,zP,zS,zN,zD,zU,zB,zV,za,decide_eq_true_eq,Bool.not_eq_true',Bool.true_eq_false,Bool.false_eq_true,if_true,if_false,reduceCtorEq,zn,hi',hw,zeN hkb.1 hkb.2,c1,c2,zz,Option.getD_some])
  (fun o i x o' ho hx hf=>by
   obtain ⟨k,hk,rfl⟩:=hget i x hx
   have hkb:=hb k (List.mem_of_getElem? hk)
   have:256*o+(F36 300000 (Lib.itoa k)).getD 0=o' :=by simpa using hf
   rw [← this,zeN hkb.1 hkb.2,Option.getD_some,List.take_add_one,hk,ho,Option.toList_some,zfA])
  (fun o ho=>by
   unfold zkK zp3
   simp only [zi,ze,zm,zM,zP,zS,zN,zD,zU,zB,zV,za,decide_eq_true_eq,Bool.not_eq_true',Bool.true_eq_false,Bool.false_eq_true,if_true,if_false,reduceCtorEq,hL]
   rfl) 0 rfl 300000 (by omega)
 unfold zp4
 have hE: ∀ (l:List Int) (o:Int),(∀ k∈l,0≤k∧k≤255)→runE (R:=Int) (fun o w=> .inl (256*o+(F36 300000 w).getD 0)) (l.map Lib.itoa) o= .inl (l.foldl (fun o k=>256*o+k) o):=by
  intro l
  induction l with
  | nil=>intro o _;rfl
  | cons k l ih=>
   intro o hb
   have hkb:=hb k (by simp)
   simp only [List.map_cons,runE,zeN hkb.1 hkb.2,Option.getD_some,List.foldl_cons]
   exact ih _ fun x hx=>hb x (by simp [hx])
 rw [hE ks 0 hb] at hrun
 rw [hrun]
 rfl
end
section
open Go.RowKit
theorem zc3 (c:UInt8): ∀ s:Bs,(Lib.index s [c]= -1∧c∉s)∨(∃ a b,s=a++c::b∧c∉a∧Lib.index s [c]=(a.length:Int))
 | []=> .inl ⟨rfl,by simp⟩
 | x::s=>by
  by_cases h:x=c
  ·subst h
   exact .inr ⟨[],s,rfl,by simp,zbu x s⟩
  ·rw [zbv s h]
   rcases zc3 c s with ⟨h1,h2⟩ | ⟨a,b,h1,h2,h3⟩
   ·exact .inl ⟨by simp [h1],by simp [Ne.symm h,h2]⟩
   ·refine .inr ⟨x::a,b,by rw [h1];rfl,by simp [Ne.symm h,h2],?_⟩
    have:((a.length:Int)== -1)=false:=beq_false_of_ne (by omega)
    rw [h3,this]
    simp
theorem zsN (c:UInt8) (s:Bs) (hs:s.length≤1000000): ∃ r,F76 300000 s [c]=some r∧((r.2.2=true∧s=r.1++c::r.2.1∧c∉r.1)∨(r.2.2=false∧r.1=s∧r.2.1=[])):=by
 have hI:F216 300000 s [c]=some (Lib.index s [c]):=if_pos (by omega)
 unfold F76 V76
 have h137: ∃ r,F137 300000 s [c]=some r∧((r.2.2=true∧s=r.1++c::r.2.1∧c∉r.1)∨(r.2.2=false∧r.1=s∧r.2.1=[])):=by
  unfold F137 V137
  simp only [zi,ze,zm,zM,zP,zS,zN,zD,zU,zB,zV,za,decide_eq_true_eq,Bool.not_eq_true',Bool.true_eq_false,Bool.false_eq_true,if_true,if_false,reduceCtorEq,hI]
  rcases zc3 c s with ⟨h1,h2⟩ | ⟨a,b,h1,h2,h3⟩
  ·rw [h1]
   exact ⟨(s,[],false),rfl,.inr ⟨rfl,rfl,rfl⟩⟩
  ·have hl:s.length=a.length+(b.length+1):=by rw [h1];simp
   have c1:(0:Int)≤(a.length:Int):=by omega
   have c2:(0:Int)≤0∧(0:Int)≤(a.length:Int)∧(a.length:Int)≤(s.length:Int):=⟨by omega,by omega,by omega⟩
   have e1:(([c]:Bs).length:Int)=1:=rfl
   have c3:(0:Int)≤(a.length:Int)+1∧(a.length:Int)+1≤(s.length:Int)∧(s.length:Int)≤(s.length:Int):=⟨by omega,by omega,by omega⟩
   have w1:IntKind.i64.wrap ((a.length:Int)+1)=(a.length:Int)+1:=zz (by omega) (by omega)
   rw [h3,if_pos c1,zn c2,e1,w1,zn c3]
   refine ⟨_,rfl,.inl ⟨rfl,?_,?_⟩⟩
   ·simp only [slc]
    have t1:((a.length:Int)+1).toNat=a.length+1:=by omega
    have t2:s.drop (a.length+1)=b:=by
     rw [h1,show a.length+1=(a++[c]).length by simp,show a++c::b=(a++[c])++b by simp,List.drop_left]
    have t3:(s.drop (a.length+1)).take ((s.length:Int).toNat - (a.length+1))=b:=by
     rw [t2,List.take_of_length_le (by omega)]
    have t4:(s.drop (0:Int).toNat).take ((a.length:Int).toNat - (0:Int).toNat)=a:=by
     rw [h1];simp
    rw [t1,t3,t4]
    exact h1
   ·simp only [slc,h1]
    simpa using h2
 obtain ⟨r,hr,hp⟩:=h137
 simp only [zi,ze,zm,zM,zP,zS,zN,zD,zU,zB,zV,za,decide_eq_true_eq,Bool.not_eq_true',Bool.true_eq_false,Bool.false_eq_true,if_true,if_false,reduceCtorEq,hr]
 exact ⟨_,rfl,hp⟩
theorem ziI {k:Nat} (h:k≤32):1≤2 ^ k∧2 ^ k≤4294967296:=⟨Nat.one_le_two_pow,Nat.pow_le_pow_right (by omega) h⟩
theorem zom {bits:Int} (h0:0≤bits) (h1:bits≤32):F80 300000 bits=some (((2 ^ (32 - bits).toNat - 1:Nat):Int)):=by
 unfold F80 V80
 have hw:IntKind.i64.wrap (32 - bits)=32 - bits:=zz (by omega) (by omega)
 have hp:=ziI (show (32 - bits).toNat≤32 by omega)
 have hm:min (32 - bits).toNat IntKind.i64.bits=(32 - bits).toNat:=Nat.min_eq_left (by show _≤64;omega)
 have he:(1:Int)*2 ^ (32 - bits).toNat=((2 ^ (32 - bits).toNat:Nat):Int):=by simp
 rw [hw,zn (show (0:Int)≤32 - bits by omega),hm,he,ze,zz (n:=((2 ^ (32 - bits).toNat:Nat):Int)) (by omega) (by omega),zz (by omega) (by omega)]
 congr 1
 omega
theorem ofI (a:Nat):BitVec.ofInt IntKind.i64.bits (a:Int)=BitVec.ofNat 64 a:=BitVec.ofInt_natCast 64 _
theorem znr {n:Nat} (hn:n<4294967296) {k:Nat} (hk:k≤32):((BitVec.ofNat 64 n &&& BitVec.ofNat 64 (2 ^ k - 1)).toNat)=n % 2 ^ k:=by
 have hp:=ziI hk
 rw [BitVec.toNat_and,BitVec.toNat_ofNat,BitVec.toNat_ofNat,Nat.mod_eq_of_lt (by omega),Nat.mod_eq_of_lt (by omega),Nat.and_two_pow_sub_one_eq_mod]
theorem zfB {n:Nat} (hn:n<4294967296) {k:Nat} (hk:k≤32):((BitVec.ofNat 64 n &&& ~~~BitVec.ofNat 64 (2 ^ k - 1)).toNat)=n / 2 ^ k*2 ^ k:=by
 have hp:=ziI hk
 have e:n / 2 ^ k*2 ^ k=(n >>> k) <<< k:=by rw [Nat.shiftRight_eq_div_pow,Nat.shiftLeft_eq]
 rw [e]
 apply Nat.eq_of_testBit_eq
 intro i
 rw [BitVec.testBit_toNat,BitVec.getLsbD_and,BitVec.getLsbD_not,BitVec.getLsbD_ofNat,BitVec.getLsbD_ofNat,Nat.testBit_two_pow_sub_one,Nat.testBit_shiftLeft,Nat.testBit_shiftRight]
 by_cases hi:i<64
 ·by_cases hik:i<k
  ·simp [hi,hik,Nat.not_le.2 hik]
  ·have:k+(i - k)=i:=by omega
   simp [hi,hik,Nat.not_lt.1 hik,this]
 ·have hb:n.testBit i=false:=Nat.testBit_lt_two_pow (Nat.lt_of_lt_of_le hn (by
   calc 4294967296=2 ^ 32:=by decide
    _≤2 ^ i:=Nat.pow_le_pow_right (by omega) (by omega)))
  by_cases hik:k≤i
  ·have:k+(i - k)=i:=by omega
   simp [hi,this,hb]
  ·simp [hi,hik]
def jv (n bits:Int):Bool:=decide (0≤n)&&(decide (n<4294967296)&&(decide (0≤bits)&&(decide (bits≤32)&&decide (n.toNat % 2 ^ (32 - bits).toNat=0))))
theorem zbw (n bits:Int):F79 300000 n bits=some (jv n bits):=by
 unfold F79 V79 jv
 simp only [zi,ze,zm,zM,zP,zS,zN,zD,zU,zB,zV,za,decide_eq_true_eq,Bool.not_eq_true',Bool.true_eq_false,Bool.false_eq_true,if_true,if_false,reduceCtorEq]
 by_cases h1:0≤n
 ·by_cases h2:n<4294967296
  ·by_cases h3:0≤bits
   ·by_cases h4:bits≤32
    ·have e:n=((n.toNat:Nat):Int):=by omega
     have hm:=znr (n:=n.toNat) (by omega) (k:=(32 - bits).toNat) (by omega)
     have hw:IntKind.i64.wrap ((((BitVec.ofInt IntKind.i64.bits n &&& BitVec.ofInt IntKind.i64.bits (((2 ^ (32 - bits).toNat - 1:Nat):Int))).toNat:Nat):Int))=((n.toNat % 2 ^ (32 - bits).toNat:Nat):Int):=by
      rw [ofI,show BitVec.ofInt IntKind.i64.bits n=BitVec.ofNat 64 n.toNat by rw [← ofI,← e]]
      show IntKind.i64.wrap ((((BitVec.ofNat 64 n.toNat &&& BitVec.ofNat 64 (2 ^ (32 - bits).toNat - 1)).toNat:Nat):Int))=_
      rw [hm]
      have:=Nat.mod_le n.toNat (2 ^ (32 - bits).toNat)
      exact zz (by omega) (by omega)
     rw [if_pos h1,if_pos h2,if_pos h3,if_pos h4,zom h3 h4]
     simp only [za]
     rw [hw,decide_eq_true h1,decide_eq_true h2,decide_eq_true h3,decide_eq_true h4]
     simp only [Bool.true_and]
     congr 1
     by_cases hz:n.toNat % 2 ^ (32 - bits).toNat=0
     ·rw [hz];rfl
     ·rw [decide_eq_false hz]
      exact beq_false_of_ne (by omega)
    ·simp [h1,h2,h3,h4]
   ·simp [h1,h2,h3]
  ·simp [h1,h2]
 ·simp [h1]
theorem zns:(List.range 33).all (fun k=>F38 300000 (k:Int)==some (((2 ^ k:Nat):Int)))=true:=by kernel_rfl
theorem zk8 {k:Int} (h0:0≤k) (h1:k≤32):F38 300000 k=some (((2 ^ k.toNat:Nat):Int)):=by
 have h:=List.all_eq_true.1 zns k.toNat (List.mem_range.2 (by omega))
 have e:((k.toNat:Nat):Int)=k:=Int.toNat_of_nonneg h0
 rw [e] at h
 exact eq_of_beq h
theorem zfC (n bits:Int):F37 300000 n bits=some (jv n bits):=by
 unfold F37 V37 jv
 simp only [zi,ze,zm,zM,zP,zS,zN,zD,zU,zB,zV,za,decide_eq_true_eq,Bool.not_eq_true',Bool.true_eq_false,Bool.false_eq_true,if_true,if_false,reduceCtorEq]
 by_cases h1:0≤n
 ·by_cases h2:n<4294967296
  ·by_cases h3:0≤bits
   ·by_cases h4:bits≤32
    ·have hp:=ziI (show (32 - bits).toNat≤32 by omega)
     have hw:IntKind.i64.wrap (32 - bits)=32 - bits:=zz (by omega) (by omega)
     have hne:(((2 ^ (32 - bits).toNat:Nat):Int))≠0:=by omega
     have hmod:n.tmod (((2 ^ (32 - bits).toNat:Nat):Int))=((n.toNat % 2 ^ (32 - bits).toNat:Nat):Int):=by
      rw [Int.tmod_eq_emod_of_nonneg h1]
      have e:n=((n.toNat:Nat):Int):=by omega
      conv=>lhs;rw [e]
      exact (Int.natCast_emod _ _).symm
     rw [if_pos h1,if_pos h2,if_pos h3,if_pos h4,hw,zk8 (by omega) (by omega)]
     simp only [za]
     rw [zn hne,ze,hmod,decide_eq_true h1,decide_eq_true h2,decide_eq_true h3,decide_eq_true h4]
     simp only [Bool.true_and]
     congr 1
     by_cases hz:n.toNat % 2 ^ (32 - bits).toNat=0
     ·rw [hz];rfl
     ·rw [decide_eq_false hz]
      exact beq_false_of_ne (by omega)
    ·simp [h1,h2,h3,h4]
   ·simp [h1,h2,h3]
  ·simp [h1,h2]
 ·simp [h1]
def inB (n bits ip:Int):Bool:=decide (ip.toNat / 2 ^ (32 - bits).toNat=n.toNat / 2 ^ (32 - bits).toNat)
theorem zaN {n bits:Int} (h:jv n bits=true):0≤n∧n<4294967296∧0≤bits∧bits≤32∧n.toNat % 2 ^ (32 - bits).toNat=0:=by
 simpa [jv] using h
theorem F_in {n bits ip:Int} (hr:jv n bits=true) (h0:0≤ip) (h1:ip<4294967296):F40 300000 n bits ip=some (inB n bits ip):=by
 obtain ⟨r1,r2,r3,r4,r5⟩:=zaN hr
 have hp:=ziI (show (32 - bits).toNat≤32 by omega)
 unfold F40 V40
 simp only [zi,ze,zm,zM,zP,zS,zN,zD,zU,zB,zV,za,decide_eq_true_eq,Bool.not_eq_true',Bool.true_eq_false,Bool.false_eq_true,if_true,if_false,reduceCtorEq,zbw,hr]
 rw [if_pos h0,if_pos h1,zom r3 r4]
 simp only [za]
 have e:ip=((ip.toNat:Nat):Int):=by omega
 have hm:=zfB (n:=ip.toNat) (by omega) (k:=(32 - bits).toNat) (by omega)
 have hle:ip.toNat / 2 ^ (32 - bits).toNat*2 ^ (32 - bits).toNat≤ip.toNat:=Nat.div_mul_le_self _ _
 have hw:IntKind.i64.wrap ((((BitVec.ofInt IntKind.i64.bits ip &&& ~~~BitVec.ofInt IntKind.i64.bits (((2 ^ (32 - bits).toNat - 1:Nat):Int))).toNat:Nat):Int))=((ip.toNat / 2 ^ (32 - bits).toNat*2 ^ (32 - bits).toNat:Nat):Int):=by
  rw [ofI,show BitVec.ofInt IntKind.i64.bits ip=BitVec.ofNat 64 ip.toNat by rw [← ofI,← e]]
  show IntKind.i64.wrap ((((BitVec.ofNat 64 ip.toNat &&& ~~~BitVec.ofNat 64 (2 ^ (32 - bits).toNat - 1)).toNat:Nat):Int))=_
  rw [hm]
  exact zz (by omega) (by omega)
 rw [hw]
 congr 1
 unfold inB
 have hn:n.toNat / 2 ^ (32 - bits).toNat*2 ^ (32 - bits).toNat=n.toNat:=Nat.div_mul_cancel (Nat.dvd_of_mod_eq_zero r5)
 by_cases hq:ip.toNat / 2 ^ (32 - bits).toNat=n.toNat / 2 ^ (32 - bits).toNat
 ·rw [decide_eq_true hq,hq,hn]
  exact beq_iff_eq.2 (by omega)
 ·rw [decide_eq_false hq]
  refine beq_false_of_ne fun h=>hq ?_
  have h' :ip.toNat / 2 ^ (32 - bits).toNat*2 ^ (32 - bits).toNat=n.toNat / 2 ^ (32 - bits).toNat*2 ^ (32 - bits).toNat:=by omega
  exact Nat.eq_of_mul_eq_mul_right (by omega) h'
theorem zqv {n bits:Int} (hr:jv n bits=true) (ip:Int): ∃ b,F40 300000 n bits ip=some b:=by
 by_cases h0:0≤ip
 ·by_cases h1:ip<4294967296
  ·exact ⟨_,F_in hr h0 h1⟩
  ·refine ⟨false,?_⟩
   unfold F40 V40
   simp only [zi,ze,zm,zM,zP,zS,zN,zD,zU,zB,zV,za,decide_eq_true_eq,Bool.not_eq_true',Bool.true_eq_false,Bool.false_eq_true,if_true,if_false,reduceCtorEq,zbw,hr]
   rw [if_pos h0,if_neg h1]
 ·refine ⟨false,?_⟩
  unfold F40 V40
  simp only [zi,ze,zm,zM,zP,zS,zN,zD,zU,zB,zV,za,decide_eq_true_eq,Bool.not_eq_true',Bool.true_eq_false,Bool.false_eq_true,if_true,if_false,reduceCtorEq,zbw,hr]
  rw [if_neg h0]
theorem R_in {n bits ip:Int} (hr:jv n bits=true) (h0:0≤ip) (h1:ip<4294967296):F10 300000 n bits ip=some (inB n bits ip):=by
 obtain ⟨r1,r2,r3,r4,r5⟩:=zaN hr
 have hp:=ziI (show (32 - bits).toNat≤32 by omega)
 have hw:IntKind.i64.wrap (32 - bits)=32 - bits:=zz (by omega) (by omega)
 have hne:(((2 ^ (32 - bits).toNat:Nat):Int))≠0:=by omega
 unfold F10 V10
 simp only [zi,ze,zm,zM,zP,zS,zN,zD,zU,zB,zV,za,decide_eq_true_eq,Bool.not_eq_true',Bool.true_eq_false,Bool.false_eq_true,if_true,if_false,reduceCtorEq,zfC,hr]
 have hpw:=zk8 (k:=32 - bits) (by omega) (by omega)
 simp (disch:=first | assumption | omega) only [zi,ze,zm,zM,zP,zS,zN,zD,zU,zB,zV,za,decide_eq_true_eq,Bool.not_eq_true',Bool.true_eq_false,Bool.false_eq_true,if_true,if_false,reduceCtorEq,zn,h0,h1,hw,hpw]
 have hd: ∀ x:Int,0≤x→x<4294967296→IntKind.i64.wrap (x.tdiv (((2 ^ (32 - bits).toNat:Nat):Int)))=((x.toNat / 2 ^ (32 - bits).toNat:Nat):Int):=fun x hx hx1=>by
  rw [Int.tdiv_eq_ediv_of_nonneg hx]
  have e:x=((x.toNat:Nat):Int):=by omega
  have:x / (((2 ^ (32 - bits).toNat:Nat):Int))=((x.toNat / 2 ^ (32 - bits).toNat:Nat):Int):=by
   conv=>lhs;rw [e]
   exact (Int.natCast_ediv _ _).symm
  rw [this]
  have hle:=Nat.div_le_self x.toNat (2 ^ (32 - bits).toNat)
  generalize x.toNat / 2 ^ (32 - bits).toNat=q at hle ⊢
  exact zz (by omega) (by omega)
 rw [hd ip h0 h1,hd n r1 r2]
 congr 1
 unfold inB
 by_cases hq:ip.toNat / 2 ^ (32 - bits).toNat=n.toNat / 2 ^ (32 - bits).toNat
 ·rw [decide_eq_true hq,hq];exact beq_self_eq_true _
 ·rw [decide_eq_false hq];exact beq_false_of_ne (by omega)
theorem zcm (w:Bs) (hw:w.length≤5000): ∃ r,F39 300000 w=some r∧(r.2.2=true→jv r.1 r.2.1=true∧F9 300000 w=some (r.1,r.2.1)):=by
 obtain ⟨⟨a,b,ok⟩,hc,hcut⟩:=zsN 47 w (by omega)
 have hla:a.length≤w.length∧b.length≤w.length:=by
  rcases hcut with ⟨_,h,_⟩ | ⟨_,h1,h2⟩
  ·simp only at h;rw [h];simp;omega
  ·simp only at h1 h2;rw [h1,h2];simp
 obtain ⟨⟨n,is⟩,hi,hip⟩:=F_ip a (by omega)
 obtain ⟨⟨bits,th⟩,hb,hnum⟩:=zno b 0 32 (by omega)
 unfold F39 V39
 simp only [zi,ze,zm,zM,zP,zS,zN,zD,zU,zB,zV,za,decide_eq_true_eq,Bool.not_eq_true',Bool.true_eq_false,Bool.false_eq_true,if_true,if_false,reduceCtorEq,hc,hi,hb,zbw]
 cases ok with
 | false=>exact ⟨_,rfl,fun h=>by cases h⟩
 | true=>
  cases is with
  | false=>exact ⟨_,rfl,fun h=>by cases h⟩
  | true=>
   cases th with
   | false=>exact ⟨_,rfl,fun h=>by cases h⟩
   | true=>
    cases hr:jv n bits with
    | false=>exact ⟨_,rfl,fun h=>by cases h⟩
    | true=>
     refine ⟨(n,bits,true),rfl,fun _=>⟨hr,?_⟩⟩
     obtain ⟨ks,k1,k2,k3,k4⟩:=hip rfl
     obtain ⟨g1,g2,g3⟩:=hnum rfl
     have g1:0≤bits:=by simpa [imax] using g1
     have g2:bits≤32:=g2
     have g3:Lib.itoa bits=b:=g3
     have k4:n=ipOf ks:=k4
     have hcut' :w=a++47::b∧(47:UInt8)∉a:=by
      rcases hcut with ⟨_,h1,h2⟩ | ⟨h,_⟩
      ·exact ⟨h1,h2⟩
      ·cases h
     obtain ⟨hwe,hca⟩:=hcut'
     have hcb:(47:UInt8)∉b:=fun h=>by
      have:=zqu g1 (by omega) 47 (g3 ▸ h)
      exact absurd this (by decide)
     have hq:=zk6 47 w hw
     have e47:(((47:UInt8).toNat:Nat):Int)=47:=rfl
     have hpw:pcs 47 w=[a,b]:=by
      rw [show w=a++47::b from hwe,zk5 b hca,zhY hcb]
     rw [e47,hpw] at hq
     obtain ⟨r1,r2,r3,r4,r5⟩:=zaN hr
     have hnr:=zeN g1 (show bits≤255 by omega)
     rw [g3] at hnr
     unfold F9 V9
     have i0:inR 0 ([a,b]:List Bs).length:=⟨by omega,by simp⟩
     have i1:inR 1 ([a,b]:List Bs).length:=⟨by omega,by simp⟩
     have a0:atI tS ([a,b]:List Bs) 0=a:=rfl
     have a1:atI tS ([a,b]:List Bs) 1=b:=rfl
     have e2:((([a,b]:List Bs).length:Int) !=2)=false:=rfl
     have c1: ¬ n<0:=by omega
     have c2: ¬ bits<0:=by omega
     have c3: ¬ (32:Int)<bits:=by omega
     simp (disch:=first | assumption | omega) only [zi,ze,zm,zM,zP,zS,zN,zD,zU,zB,zV,za,decide_eq_true_eq,Bool.not_eq_true',Bool.true_eq_false,Bool.false_eq_true,if_true,if_false,reduceCtorEq,zn,hq,e2,a0,a1,R_ip a (by omega) k1 k2 k3,← k4,hnr,c1,c2,c3,zfC,hr]
end
section
open Go.RowKit
theorem zfD (old:Bs): ∀ (k:Nat) (s:Bs),(Lib.replaceK old [] k s).length≤s.length
 | 0,s=>Nat.le_refl _
 | k+1,s=>by
  unfold Lib.replaceK
  split
  ·exact Nat.le_refl _
  ·have:=zfD old k (s.drop ((Lib.index s old).toNat+old.length))
   simp only [List.length_drop] at this
   simp only [List.length_append,List.length_take,List.length_nil]
   by_cases h:(Lib.index s old).toNat≤s.length
   ·omega
   ·omega
theorem znt (s:Bs) (c:UInt8):(Lib.replaceAll s [c] []).length≤s.length:=by
 unfold Lib.replaceAll Lib.replace
 split
 ·exact Nat.le_refl _
 ·exact zfD _ _ _
theorem zon (s c:Bs) (hs:s.length≤1000000) (hc:c.length≤1000000) (ha:(c.all fun b=>decide (b.toNat<128))=true):F431 300000 s c=some (Lib.trimS s c):=if_pos ⟨hs,hc,ha⟩
theorem znu (s c:Bs) (hs:s.length≤1000000):F116 300000 s c=some (Lib.hasSuffix s c):=if_pos hs
theorem zsO (w:Bs) (hw:w.length≤5000): ∃ b,F378 300000 w=some b:=by
 unfold F378 V378
 simp only [zi,ze,zm,zM,zP,zS,zN,zD,zU,zB,zV,za,decide_eq_true_eq,Bool.not_eq_true',Bool.true_eq_false,Bool.false_eq_true,if_true,if_false,reduceCtorEq]
 have ht:=zon w [97,98,99,100,101,102,103,104,105,106,107,108,109,110,111,112,113,114,115,116,117,118,119,120,121,122,48,49,50,51,52,53,54,55,56,57,45] (by omega) (by decide) (by decide)
 by_cases h0:w=[]
 ·subst h0;exact ⟨_,rfl⟩
 ·have e0:(w==[])=false:=by simpa using h0
  have hin:inR 0 w.length:=⟨by omega,by cases w with
   | nil=>exact absurd rfl h0
   | cons a l=>simp⟩
  simp (disch:=first | assumption | omega) only [e0,Bool.not_false,if_true,zn,zi,ze,zm,zM,zP,zS,zN,zD,zU,zB,zV,za,decide_eq_true_eq,Bool.not_eq_true',Bool.true_eq_false,Bool.false_eq_true,if_true,if_false,reduceCtorEq,ht]
  split
  ·split
   ·split
    ·exact ⟨_,rfl⟩
    ·exact ⟨_,rfl⟩
   ·exact ⟨_,rfl⟩
  ·exact ⟨_,rfl⟩
theorem nib0:(List.range 256).all (fun k=>decide (inR (((k:Nat):Int).fdiv (2 ^ (min (4:Int).toNat (IntKind.i64.bits)))) 16)&&decide (inR (IntKind.i64.wrap (((BitVec.ofInt IntKind.i64.bits (k:Int) &&& BitVec.ofInt IntKind.i64.bits 15).toNat:Int))) 16))=true:=by kernel_rfl
theorem znv (x:Int): ∃ k:Nat,k<256∧IntKind.i64.wrap (((BitVec.ofInt IntKind.i64.bits x &&& BitVec.ofInt IntKind.i64.bits 255).toNat:Int))=(k:Int):=by
 have h:(BitVec.ofInt IntKind.i64.bits x &&& BitVec.ofInt IntKind.i64.bits 255).toNat≤255:=by
  rw [BitVec.toNat_and]
  refine Nat.le_trans Nat.and_le_right ?_
  decide
 exact ⟨_,by omega,zz (by omega) (by omega)⟩
theorem zh0 (sep:Bs): ∀ l:List Bs,(∀ w∈l,w.length≤5000)→(Lib.join l sep).length≤l.length*(5000+sep.length)
 | [],_=>by simp [Lib.join]
 | [w],h=>by
  have:=h w (by simp)
  simp [Lib.join];omega
 | w::v::l,h=>by
  have h1:=h w (by simp)
  have h2:=zh0 sep (v::l) fun x hx=>h x (by simp [hx])
  have e:Lib.join (w::v::l) sep=w++(sep++Lib.join (v::l) sep):=by simp [Lib.join,List.intercalate]
  rw [e,List.length_append,List.length_append,List.length_cons,Nat.add_mul]
  omega
theorem zk9 (l:List Bs) (sep:Bs) (h: ∀ w∈l,w.length≤5000) (hl:l.length≤100) (hs:sep.length≤10):F55 300000 l sep=some (Lib.join l sep):=by
 have h1:=zh0 sep l h
 have h2:l.length*(5000+sep.length)≤100*5010:=Nat.mul_le_mul hl (by omega)
 exact if_pos ⟨by omega,by omega⟩
theorem zla (n:Int): ∃ r,F434 300000 n=some r:=by
 unfold F434 V434
 simp only [zi,ze,zm,zM,zP,zS,zN,zD,zU,zB,zV,za,decide_eq_true_eq,Bool.not_eq_true',Bool.true_eq_false,Bool.false_eq_true,if_true,if_false,reduceCtorEq]
 split
 ·exact ⟨_,rfl⟩
 ·split
  ·exact ⟨_,rfl⟩
  ·obtain ⟨o,ho,l,i,hp,hl,hw⟩:=zA (R:=Bs×Bool) (step:=fun x=>zhv 300000 x.1 x.2.1 x.2.2)
    (fun x=>x.1=n∧ -8≤x.2.2∧x.2.2≤40∧8*(x.2.1.length:Int)+x.2.2=40∧ ∀ w∈x.2.1,w.length≤5000) (fun x=>(x.2.2+8).toNat)
    (fun o=> ∃ l i,o= .brk 0 (n,l,i)∧l.length≤100∧ ∀ w∈l,w.length≤5000)
    (by
     rintro ⟨m,l,i⟩ ⟨rfl,h0,h1,h2,hw⟩
     dsimp only at h0 h1 h2 hw ⊢
     unfold zhv zn6
     by_cases hi:0≤i
     ·obtain ⟨k,hk,he⟩:=znv (m.fdiv (2 ^ (min i.toNat IntKind.i64.bits)))
      have hn:=List.all_eq_true.1 nib0 k (List.mem_range.2 hk)
      simp only [Bool.and_eq_true,decide_eq_true_eq] at hn
      obtain ⟨hn1,hn2⟩:=hn
      have h4:(0:Int)≤4:=by omega
      have e16:([48,49,50,51,52,53,54,55,56,57,97,98,99,100,101,102]:Bs).length=16:=rfl
      simp only [he,e16]
      rw [zi,if_pos (decide_eq_true hi),zn hi,zn h4,zn hn1,zn hn2,zn (by show _≤_;simp;omega),ze]
      refine ⟨_,rfl,.inl ⟨_,rfl,⟨rfl,?_,?_,?_,fun w hw' => ?_⟩,?_⟩⟩
      ·simp only;rw [zz (by omega) (by omega)];omega
      ·simp only;rw [zz (by omega) (by omega)];omega
      ·simp only [List.length_append,List.length_cons,List.length_nil];rw [zz (by omega) (by omega)];omega
      ·rcases List.mem_append.1 hw' with h | h
       ·exact hw w h
       ·simp only [List.mem_singleton] at h;subst h;simp [strOf]
      ·simp only;rw [zz (by omega) (by omega)];omega
     ·rw [zi,if_neg (by simpa using hi),ze]
      exact ⟨_,rfl,.inr ⟨by simp,l,i,rfl,by omega,hw⟩⟩) 300000 (n,[],40) ⟨rfl,by simp,by simp,by simp,by simp⟩ (by simp)
   subst hp
   unfold zkq
   rw [ho]
   simp only [yX,zk9 l [58] hw hl (by decide),za]
   exact ⟨_,rfl⟩
theorem F_mac (w:Bs) (hw:w.length≤5000): ∃ r,F379 300000 w=some r:=by
 have h1:F433 300000 w [58] []=some (Lib.replaceAll w [58] []):=if_pos ⟨by omega,by decide,by simp;omega⟩
 have hl:=znt w 58
 have h2:F432 300000 (Lib.replaceAll w [58] []) 16 48=some (((zaK (Lib.replaceAll w [58] [])).1:Int),(zaK (Lib.replaceAll w [58] [])).2 !=0):=if_pos ⟨rfl,rfl,by omega⟩
 obtain ⟨⟨t,ok⟩,h3⟩:=zla (IntKind.i64.wrap ((zaK (Lib.replaceAll w [58] [])).1:Int))
 unfold F379 V379
 simp only [zi,ze,zm,zM,zP,zS,zN,zD,zU,zB,zV,za,decide_eq_true_eq,Bool.not_eq_true',Bool.true_eq_false,Bool.false_eq_true,if_true,if_false,reduceCtorEq,h1,h2,h3]
 split
 ·exact ⟨_,rfl⟩
 ·split
  ·exact ⟨_,rfl⟩
  ·split<;>exact ⟨_,rfl⟩
theorem zqw {c:UInt8} {s:Bs} {r:Bs×Bs×Bool} (h:(r.2.2=true∧s=r.1++c::r.2.1∧c∉r.1)∨(r.2.2=false∧r.1=s∧r.2.1=[])):r.1.length≤s.length∧r.2.1.length≤s.length:=by
 rcases h with ⟨_,h,_⟩ | ⟨_,h1,h2⟩
 ·rw [h];simp;omega
 ·rw [h1,h2];simp
set_option maxHeartbeats 4000000 in
theorem zlb (w:Bs) (hw:w.length≤5000): ∃ r,F437 300000 w=some r:=by
 obtain ⟨⟨a,b,pt⟩,h1,hc⟩:=zsN 46 w (by omega)
 have hl:=zqw hc
 simp only at hl
 obtain ⟨n,e,h2,hn⟩:=zk7 a (by omega)
 have h3:=zol n hn
 have hm:0≤imax (IntKind.i64.wrap (3 - (b.length:Int))) 0∧imax (IntKind.i64.wrap (3 - (b.length:Int))) 0≤3:=by
  rw [zz (by omega) (by omega)]
  unfold imax
  split<;>omega
 have h4:F82 300000 [48] (imax (IntKind.i64.wrap (3 - (b.length:Int))) 0)=some (Lib.repeatL [48] (imax (IntKind.i64.wrap (3 - (b.length:Int))) 0).toNat):=if_pos ⟨hm.1,by omega,by decide⟩
 have h5:(Lib.repeatL [48] (imax (IntKind.i64.wrap (3 - (b.length:Int))) 0).toNat).length≤3:=by
  rw [Lib.repeatL_length];simp;omega
 generalize Lib.repeatL [48] (imax (IntKind.i64.wrap (3 - (b.length:Int))) 0).toNat=z at h4 h5
 obtain ⟨k,e',h6,_⟩:=zk7 (b++z) (by rw [List.length_append];omega)
 have h7:=zon b [48,49,50,51,52,53,54,55,56,57] (by omega) (by decide) (by decide)
 have h8:=znu b [48] (by omega)
 have hr:room (b.length+z.length):=by show _≤_;omega
 have key: ∀ (p:Prop) [Decidable p] (x y:Option (Int×Bool)),(∃ r,x=some r)→(∃ r,y=some r)→ ∃ r,(if p then x else y)=some r:=fun p _ x y hx hy=>by split<;>assumption
 unfold F437 V437
 rw [zP,h1,za,zM]
 dsimp only
 rw [h2,za,zi]
 refine key _ _ _ ⟨_,rfl⟩ ?_
 rw [zi]
 refine key _ _ _ ⟨_,rfl⟩ ?_
 rw [zi]
 refine key _ _ _ ⟨_,rfl⟩ ?_
 rw [zm]
 dsimp only
 rw [h3,za,zi]
 refine key _ _ _ ⟨_,rfl⟩ ?_
 rw [zi]
 refine key _ _ _ ⟨_,rfl⟩ ?_
 rw [zm,h4,za,zn hr,zM,h6,za]
 dsimp only
 rw [zi]
 refine key _ _ _ ⟨_,rfl⟩ ?_
 rw [zi]
 refine key _ _ _ ⟨_,rfl⟩ ?_
 rw [zi]
 refine key _ _ _ ⟨_,rfl⟩ ?_
 rw [zm,h7,za,zi]
 refine key _ _ _ ⟨_,rfl⟩ ?_
 rw [zm,h8,za,zi]
 exact key _ _ _ ⟨_,rfl⟩ ⟨_,rfl⟩
theorem zsP (w:Bs) (hw:w.length≤5000): ∃ r,F380 300000 w=some r:=by
 unfold F380
 split
 ·exact ⟨_,rfl⟩
 ·have hl:(Lib.trimPrefix w [45]).length≤w.length:=by
   unfold Lib.trimPrefix
   split
   ·rw [List.length_drop];omega
   ·exact Nat.le_refl _
  obtain ⟨r,hr⟩:=zlb (Lib.trimPrefix w [45]) (by omega)
  rw [hr]
  simp only [Option.bind_some]
  split<;>exact ⟨_,rfl⟩
theorem zlc (k w:Bs) (hw:w.length≤5000): ∃ b,F312 300000 k w=some b:=by
 obtain ⟨r1,h1⟩:=zsO w hw
 obtain ⟨⟨x2,y2⟩,h2,_⟩:=F_ip w hw
 obtain ⟨⟨x3,y3,z3⟩,h3,_⟩:=zcm w hw
 obtain ⟨⟨x4,y4⟩,h4⟩:=F_mac w hw
 obtain ⟨⟨x5,y5⟩,h5,_⟩:=zno w 1 16777215 (by omega)
 obtain ⟨⟨x6,y6⟩,h6,_⟩:=zno w 1 1000 (by omega)
 obtain ⟨⟨x7,y7⟩,h7⟩:=zsP w hw
 unfold F312 V312
 simp only [zi,ze,zm,zM,zP,zS,zN,zD,zU,zB,zV,za,decide_eq_true_eq,Bool.not_eq_true',Bool.true_eq_false,Bool.false_eq_true,if_true,if_false,reduceCtorEq,h1,h2,h3,h4,h5,h6,h7]
 repeat' split
 all_goals exact ⟨_,rfl⟩
noncomputable def zeO (k w:Bs):Bool:=(F312 300000 k w).getD false
theorem zoo (k w:Bs) (hw:w.length≤5000):F312 300000 k w=some (zeO k w):=by
 obtain ⟨b,h⟩:=zlc k w hw
 rw [zeO,h];rfl
theorem zgD {w:Bs} (hw:w.length≤5000) (h:zeO [36,112,114,101,102,105,120] w=true): ∃ n bits,F39 300000 w=some (n,bits,true)∧jv n bits=true∧F9 300000 w=some (n,bits):=by
 obtain ⟨⟨n,bits,ok⟩,h1,h2⟩:=zcm w hw
 have h3:=zoo [36,112,114,101,102,105,120] w hw
 have c1:(([36,112,114,101,102,105,120]:Bs)==[36,110,97,109,101])=false:=by decide
 have c2:(([36,112,114,101,102,105,120]:Bs)==[36,105,112])=false:=by decide
 have h4:F312 300000 [36,112,114,101,102,105,120] w=some ok:=by
  unfold F312 V312
  simp only [zi,ze,zm,zM,zP,zS,zN,zD,zU,zB,zV,za,decide_eq_true_eq,Bool.not_eq_true',Bool.true_eq_false,Bool.false_eq_true,if_true,if_false,reduceCtorEq,c1,c2,h1,beq_self_eq_true]
 rw [h4,h] at h3
 have:ok=true:=Option.some.inj h3
 subst this
 exact ⟨n,bits,h1,h2 rfl⟩
end
section
open Go.RowKit
abbrev zp:Bs:=[104,111,115,116,115]
abbrev jM:Bs:=[36,110,97,109,101]
abbrev kIp:Bs:=[105,112]
abbrev tIp:Bs:=[36,105,112]
abbrev kMac:Bs:=[109,97,99]
abbrev tMac:Bs:=[36,109,97,99]
abbrev zc4:Bs:=[118,110,105,115]
abbrev tVni:Bs:=[36,118,110,105]
abbrev zld:Bs:=[115,117,98,110,101,116]
abbrev yh:Bs:=[36,112,114,101,102,105,120]
abbrev zR:Bs:=[98,105,110,100,105,110,103,115]
abbrev zqx:Bs:=[104,111,115,116]
abbrev kVni:Bs:=[118,110,105]
abbrev zq:Bs:=[114,111,117,116,101,115]
abbrev kVia:Bs:=[118,105,97]
abbrev yK:Bs:=[109,101,116,114,105,99]
abbrev zqy:Bs:=[36,109,101,116,114,105,99]
abbrev yF:Bs:=[112,111,108,105,99,121]
abbrev tNum:Bs:=[36,110,117,109]
abbrev zgE:Bs:=[97,99,116,105,111,110]
abbrev zqz:Bs:=[36,97,99,116,105,111,110]
abbrev zqA:Bs:=[102,114,111,109]
abbrev kTo:Bs:=[116,111]
def zG:List (List Bs×Bool×Bool):=[([zp],false,false),([zp,jM],false,false),([zp,jM,kIp],true,true),([zp,jM,kIp,tIp],false,false),([zp,jM,kMac],true,false),([zp,jM,kMac,tMac],false,false),([zp,jM,zc4],false,false),([zp,jM,zc4,tVni],false,false),([zc4],false,false),([zc4,tVni],false,false),([zc4,tVni,zld],true,true),([zc4,tVni,zld,yh],false,false),([zR],false,false),([zR,tIp],false,false),([zR,tIp,zqx],true,true),([zR,tIp,zqx,jM],false,false),([zR,tIp,kMac],true,true),([zR,tIp,kMac,tMac],false,false),([zR,tIp,kVni],true,true),([zR,tIp,kVni,tVni],false,false),([zq],false,false),([zq,yh],false,false),([zq,yh,kVia],true,true),([zq,yh,kVia,jM],false,false),([zq,yh,yK],true,false),([zq,yh,yK,zqy],false,false),([yF],false,false),([yF,tNum],false,false),([yF,tNum,zgE],true,true),([yF,tNum,zgE,zqz],false,false),([yF,tNum,zqA],true,false),([yF,tNum,zqA,yh],false,false),([yF,tNum,kTo],true,false),([yF,tNum,kTo,yh],false,false)]
abbrev Rl:=List Bs×Bool×Bool
theorem zqB:F57o 300000=some zG:=by kernel_rfl
noncomputable def fitB (p w:Bs):Bool:=if Lib.hasPrefix p [36]=true then zeO p w else p==w
noncomputable def matB:List Bs→List Bs→Bool
 | [],[]=>true
 | p::ps,w::ws=>fitB p w&&matB ps ws
 | _,_=>false
theorem zeP: ∀ {p q:List Bs},matB p q=true→p.length=q.length
 | [],[],_=>rfl
 | _::p,_::q,h=>by
  simp only [matB,Bool.and_eq_true] at h
  simp [zeP h.2]
theorem F_fit (p w:Bs) (hw:w.length≤5000):F197 300000 p w=some (fitB p w):=by
 have h1:F125 300000 p [36]=some (Lib.hasPrefix p [36]):=rfl
 unfold F197 V197 fitB
 simp only [zi,ze,zm,zM,zP,zS,zN,zD,zU,zB,zV,za,decide_eq_true_eq,Bool.not_eq_true',Bool.true_eq_false,Bool.false_eq_true,if_true,if_false,reduceCtorEq,h1,zoo p w hw]
 split<;>rfl
theorem znw (p q:List Bs) (hq: ∀ w∈q,w.length≤5000) (hp:p.length≤1000):F122 300000 p q=some (matB p q):=by
 have h:zei 300000 p q=some (matB p q):=by
  unfold zei zhw
  simp only [zi,ze,zm,zM,zP,zS,zN,zD,zU,zB,zV,za,decide_eq_true_eq,Bool.not_eq_true',Bool.true_eq_false,Bool.false_eq_true,if_true,if_false,reduceCtorEq]
  by_cases hl:p.length=q.length
  ·have e:((p.length:Int) !=(q.length:Int))=false:=by simp;omega
   simp only [e,Bool.false_eq_true,if_false]
   have hrun:=ye (R:=Bool) (step:=fun x=>jr 300000 x.1 x.2.1 x.2.2.1 x.2.2.2.1 x.2.2.2.2) p (fun (_:List Bs) i=>(q,true,p,(p.length:Int),i)) (fun i a=>a=q.drop i)
    (fun a x=>match a with
     | w::r=>if fitB x w=true then .inl r else .inr false
     | []=> .inr false)
    (fun a i x ha hx=>by
     have hi:i<p.length:=(List.getElem?_eq_some_iff.1 hx).1
     have hiq:i<q.length:=by omega
     have hd:q.drop i=q[i]::q.drop (i+1):=List.drop_eq_getElem_cons hiq
     subst ha
     unfold jr zbO
     have i1:inR (i:Int) p.length:=⟨by omega,by omega⟩
     have i2:inR (i:Int) q.length:=⟨by omega,by omega⟩
     have hi' :(i:Int)<(p.length:Int):=by omega
     have e1:atI tS p (i:Int)=x:=by unfold atI;simp [List.getD,hx]
     have e2:atI tS q (i:Int)=q[i]:=by unfold atI;simp [List.getD,List.getElem?_eq_getElem hiq]
     simp (disch:=first | assumption | omega) only [zi,ze,zm,zM,zP,zS,zN,zD,zU,zB,zV,za,decide_eq_true_eq,Bool.not_eq_true',Bool.true_eq_false,Bool.false_eq_true,if_true,if_false,reduceCtorEq,zn,hi',e1,e2,F_fit x q[i] (hq _ (List.getElem_mem hiq)),zz]
     rw [hd]
     dsimp only
     cases fitB x q[i]<;>rfl)
    (fun a i x a' ha hx hf=>by
     have hiq:i<q.length:=by have:=(List.getElem?_eq_some_iff.1 hx).1;omega
     have hd:q.drop i=q[i]::q.drop (i+1):=List.drop_eq_getElem_cons hiq
     subst ha
     rw [hd] at hf
     dsimp only at hf
     split at hf
     ·exact (Sum.inl.inj hf).symm
     ·cases hf)
    (fun a ha=>by
     unfold jr zbO
     simp only [zi,ze,zm,zM,zP,zS,zN,zD,zU,zB,zV,za,decide_eq_true_eq,Bool.not_eq_true',Bool.true_eq_false,Bool.false_eq_true,if_true,if_false,reduceCtorEq,Int.lt_irrefl,decide_false])
    q rfl 300000 (by omega)
   unfold zbP
   rw [hrun]
   have hE: ∀ (p q:List Bs),p.length=q.length→runE (R:=Bool) (fun a x=>match a with
     | w::r=>if fitB x w=true then .inl r else .inr false
     | []=> .inr false) p q=if matB p q=true then .inl [] else .inr false:=by
    intro p
    induction p with
    | nil=>
     intro q hl
     cases q with
     | nil=>rfl
     | cons w q=>cases hl
    | cons x p ih=>
     intro q hl
     cases q with
     | nil=>cases hl
     | cons w q=>
      simp only [runE,matB]
      by_cases hf:fitB x w=true
      ·simp only [hf,if_true,Bool.true_and];exact ih q (by simpa using hl)
      ·simp only [Bool.not_eq_true] at hf
       simp only [hf,Bool.false_eq_true,if_false,Bool.false_and]
   rw [hE p q hl]
   cases matB p q<;>rfl
  ·have e:((p.length:Int) !=(q.length:Int))=true:=by simp;omega
   simp only [e,if_true]
   cases hm:matB p q with
   | false=>rfl
   | true=>exact absurd (zeP hm) hl
 unfold F122 V122
 simp only [zi,ze,zm,zM,zP,zS,zN,zD,zU,zB,zV,za,decide_eq_true_eq,Bool.not_eq_true',Bool.true_eq_false,Bool.false_eq_true,if_true,if_false,reduceCtorEq,h]
def fnd1 {E:Type} (p:E→Bool):List E→Nat→Nat ⊕ Int:=runE fun a x=>if p x=true then .inr (a:Int) else .inl (a+1)
theorem zc5 {E:Type} (p:E→Bool): ∀ (l:List E) (a:Nat),(∃ i x,fnd1 p l a= .inr (((a+i:Nat):Int))∧l[i]? =some x∧p x=true∧l.find? p=some x)∨(fnd1 p l a= .inl (a+l.length)∧l.find? p=none)
 | [],a=> .inr ⟨rfl,rfl⟩
 | x::l,a=>by
  cases hp:p x with
  | true=>exact .inl ⟨0,x,by simp [fnd1,runE,hp],rfl,hp,by simp [hp]⟩
  | false=>
   have e:fnd1 p (x::l) a=fnd1 p l (a+1):=by simp [fnd1,runE,hp]
   rcases zc5 p l (a+1) with ⟨i,y,h1,h2,h3,h4⟩ | ⟨h1,h2⟩
   ·exact .inl ⟨i+1,y,by rw [e,h1,show a+1+i=a+(i+1) by omega],by simpa using h2,h3,by simp [hp,h4]⟩
   ·exact .inr ⟨by rw [e,h1,List.length_cons,show a+1+l.length=a+(l.length+1) by omega],by simp [hp,h2]⟩
theorem zh1 (l:List Rl) (i:Nat) {x:Rl} (h:l[i]? =some x):atI (.pair (.list tS) (.pair tB tB)) l (i:Int)=x:=by
 unfold atI
 rw [Int.toNat_natCast]
 simp only [List.getD,h]
 rfl
theorem F_idx (l:List Rl) (q:List Bs) (hl:l.length≤1000) (hr: ∀ r∈l,r.1.length≤1000) (hq: ∀ w∈q,w.length≤5000):zej 300000 l q=some (match fnd1 (fun r=>matB r.1 q) l 0 with
  | .inr i=>i
  | .inl _=> -1):=by
 unfold zej zhx
 simp only [zi,ze,zm,zM,zP,zS,zN,zD,zU,zB,zV,za,decide_eq_true_eq,Bool.not_eq_true',Bool.true_eq_false,Bool.false_eq_true,if_true,if_false,reduceCtorEq]
 have hrun:=ye (R:=Int) (step:=fun x=>js 300000 x.1 x.2.1 x.2.2.1 x.2.2.2) l (fun (_:Nat) i=>(l,q,(l.length:Int),i)) (fun i a=>a=i)
  (fun a x=>if matB x.1 q=true then .inr (a:Int) else .inl (a+1))
  (fun a i x ha hx=>by
   subst ha
   have hi:a<l.length:=(List.getElem?_eq_some_iff.1 hx).1
   unfold js zbQ
   have i1:inR (a:Int) l.length:=⟨by omega,by omega⟩
   have hi' :(a:Int)<(l.length:Int):=by omega
   have hm:F121 300000 x q=some (matB x.1 q):=by
    unfold F121 V121
    simp only [zi,ze,zm,zM,zP,zS,zN,zD,zU,zB,zV,za,decide_eq_true_eq,Bool.not_eq_true',Bool.true_eq_false,Bool.false_eq_true,if_true,if_false,reduceCtorEq,znw x.1 q hq (hr x (List.mem_of_getElem? hx))]
   simp (disch:=first | assumption | omega) only [zi,ze,zm,zM,zP,zS,zN,zD,zU,zB,zV,za,decide_eq_true_eq,Bool.not_eq_true',Bool.true_eq_false,Bool.false_eq_true,if_true,if_false,reduceCtorEq,zn,hi',zh1 l a hx,hm,zz]
   cases matB x.1 q<;>rfl)
  (fun a i x a' ha hx hf=>by
   subst ha
   split at hf
   ·cases hf
   ·exact (Sum.inl.inj hf).symm)
  (fun a ha=>by
   unfold js zbQ
   simp only [zi,ze,zm,zM,zP,zS,zN,zD,zU,zB,zV,za,decide_eq_true_eq,Bool.not_eq_true',Bool.true_eq_false,Bool.false_eq_true,if_true,if_false,reduceCtorEq,Int.lt_irrefl,decide_false]) 0 rfl 300000 (by omega)
 unfold zbR
 have hz:fnd1 (fun r:Rl=>matB r.1 q) l 0=runE (A:=Nat) (R:=Int) (fun a (x:Rl)=>if matB x.1 q=true then .inr (a:Int) else .inl (a+1)) l 0:=rfl
 rw [hz]
 generalize runE (A:=Nat) (R:=Int) (fun a (x:Rl)=>if matB x.1 q=true then .inr (a:Int) else .inl (a+1)) l 0=z at hrun ⊢
 cases z with
 | inl v=>rw [hrun];rfl
 | inr v=>rw [hrun];rfl
theorem zqC (l:List Rl) (q:List Bs) (hl:l.length≤1000) (hr: ∀ r∈l,r.1.length≤1000) (hq: ∀ w∈q,w.length≤5000):F59 300000 l q=some (match l.find? (fun r=>matB r.1 q) with
  | some r=>(r,true)
  | none=>(([],false,false),false)):=by
 have h:=F_idx l q hl hr hq
 unfold F59 V59
 rcases zc5 (fun r:Rl=>matB r.1 q) l 0 with ⟨i,x,h1,h2,h3,h4⟩ | ⟨h1,h2⟩
 ·rw [h1] at h
  rw [h4]
  have hi:i<l.length:=(List.getElem?_eq_some_iff.1 h2).1
  have i1:inR (((0+i:Nat):Int)) l.length:=⟨by omega,by omega⟩
  have hn: ¬ (((0+i:Nat):Int))<0:=by omega
  have e:atI (.pair (.list tS) (.pair tB tB)) l (((0+i:Nat):Int))=x:=by rw [Nat.zero_add];exact zh1 l i h2
  simp (disch:=first | assumption | omega) only [zi,ze,zm,zM,zP,zS,zN,zD,zU,zB,zV,za,decide_eq_true_eq,Bool.not_eq_true',Bool.true_eq_false,Bool.false_eq_true,if_true,if_false,reduceCtorEq,zn,h,hn,e]
 ·rw [h1] at h
  rw [h2]
  have hn:(-1:Int)<0:=by omega
  simp only [zi,ze,zm,zM,zP,zS,zN,zD,zU,zB,zV,za,decide_eq_true_eq,Bool.not_eq_true',Bool.true_eq_false,Bool.false_eq_true,if_true,if_false,reduceCtorEq,h,hn]
noncomputable def qu (l:List Rl) (q:List Bs):List Bs:=(l.filter fun r=>r.2.2&&matB r.1.dropLast q).map fun r=>r.1.getLastD []
theorem zqD (l:List Rl) (q:List Bs) (hl:l.length≤1000) (hr: ∀ r∈l,r.1.length≤1000∧r.1≠[]) (hq: ∀ w∈q,w.length≤5000):zpG 300000 l q=some (qu l q):=by
 unfold zpG zr4
 simp only [zi,ze,zm,zM,zP,zS,zN,zD,zU,zB,zV,za,decide_eq_true_eq,Bool.not_eq_true',Bool.true_eq_false,Bool.false_eq_true,if_true,if_false,reduceCtorEq]
 have hrun:=ye (R:=List Bs) (step:=fun x=>zcU 300000 x.1 x.2.1 x.2.2.1 x.2.2.2.1 x.2.2.2.2) l (fun (out:List Bs) i=>(q,out,l,(l.length:Int),i)) (fun i a=>a.length≤i)
  (fun out r=> .inl (if (r.2.2&&matB r.1.dropLast q)=true then out++[r.1.getLastD []] else out))
  (fun out i r ha hx=>by
   have hi:i<l.length:=(List.getElem?_eq_some_iff.1 hx).1
   obtain ⟨hr1,hr2⟩:=hr r (List.mem_of_getElem? hx)
   have hpos:1≤r.1.length:=by
    cases h:r.1 with
    | nil=>exact absurd h hr2
    | cons a b=>simp
   unfold zcU zgn
   have i1:inR (i:Int) l.length:=⟨by omega,by omega⟩
   have hi' :(i:Int)<(l.length:Int):=by omega
   have w1:IntKind.i64.wrap ((r.1.length:Int) - 1)=((r.1.length - 1:Nat):Int):=by rw [zz (by omega) (by omega)];omega
   have c1:(0:Int)≤0∧(0:Int)≤(((r.1.length - 1:Nat):Int))∧(((r.1.length - 1:Nat):Int))≤(r.1.length:Int):=⟨by omega,by omega,by omega⟩
   have c2:inR (((r.1.length - 1:Nat):Int)) r.1.length:=⟨by omega,by omega⟩
   have e1:slc r.1 0 (((r.1.length - 1:Nat):Int))=r.1.dropLast:=by
    unfold slc
    rw [List.dropLast_eq_take]
    simp
   have e2:atI tS r.1 (((r.1.length - 1:Nat):Int))=r.1.getLastD []:=by
    unfold atI
    rw [Int.toNat_natCast,List.getLastD_eq_getLast?,List.getLast?_eq_getElem?]
    rfl
   have hm:=znw r.1.dropLast q hq (by simp;omega)
   have rm:room (out.length+([r.1.getLastD []]:List Bs).length):=by show _≤_;simp;omega
   simp (disch:=first | assumption | omega) only [zi,ze,zm,zM,zP,zS,zN,zD,zU,zB,zV,za,decide_eq_true_eq,Bool.not_eq_true',Bool.true_eq_false,Bool.false_eq_true,if_true,if_false,reduceCtorEq,zn,hi',zh1 l i hx,w1,e1,e2,hm,zz]
   cases r.2.2 with
   | false=>rfl
   | true=>
    cases matB r.1.dropLast q<;>rfl)
  (fun out i r out' ha hx hf=>by
   have:=Sum.inl.inj hf
   subst this
   split<;>simp<;>omega)
  (fun a ha=>by
   unfold zcU zgn
   simp only [zi,ze,zm,zM,zP,zS,zN,zD,zU,zB,zV,za,decide_eq_true_eq,Bool.not_eq_true',Bool.true_eq_false,Bool.false_eq_true,if_true,if_false,reduceCtorEq,Int.lt_irrefl,decide_false]) [] (Nat.le_refl _) 300000 (by omega)
 unfold zgo
 rw [hrun]
 have hE: ∀ (l:List Rl) (out:List Bs),runE (R:=List Bs) (fun out r=> .inl (if (r.2.2&&matB r.1.dropLast q)=true then out++[r.1.getLastD []] else out)) l out= .inl (out++qu l q):=by
  intro l
  induction l with
  | nil=>intro out;simp [runE,qu]
  | cons r l ih=>
   intro out
   simp only [runE]
   rw [ih]
   congr 1
   unfold qu
   rw [List.filter_cons]
   split<;>simp
 rw [hE]
 simp
theorem zle (l:List Rl) (q:List Bs) (hl:l.length≤1000) (hr: ∀ r∈l,r.1.length≤1000) (hq: ∀ w∈q,w.length≤5000) (h0:q≠[]) (h1:q.length≤1000): ∃ e,F60 300000 l q=some e:=by
 have hpos:1≤q.length:=by
  cases q with
  | nil=>exact absurd rfl h0
  | cons a b=>simp
 have w1:IntKind.i64.wrap ((q.length:Int) - 1)=((q.length - 1:Nat):Int):=by rw [zz (by omega) (by omega)];omega
 have h124: ∀ r∈l,∃ b,F124 300000 r (((q.length - 1:Nat):Int)) q=some b:=by
  intro r hrm
  unfold F124 V124
  rw [zi]
  have w2:IntKind.i64.wrap ((((q.length - 1:Nat):Int))+1)=(q.length:Int):=by rw [zz (by omega) (by omega)];omega
  by_cases hlen:(r.1.length:Int)=(q.length:Int)
  ·have c1:(0:Int)≤0∧(0:Int)≤(((q.length - 1:Nat):Int))∧(((q.length - 1:Nat):Int))≤(r.1.length:Int):=⟨by omega,by omega,by omega⟩
   have c2:(0:Int)≤0∧(0:Int)≤(((q.length - 1:Nat):Int))∧(((q.length - 1:Nat):Int))≤(q.length:Int):=⟨by omega,by omega,by omega⟩
   have c3:inR (((q.length - 1:Nat):Int)) r.1.length:=⟨by omega,by omega⟩
   have hm:=znw (slc r.1 0 (((q.length - 1:Nat):Int))) (slc q 0 (((q.length - 1:Nat):Int))) (fun w hw=>hq w (List.mem_of_mem_drop (List.mem_of_mem_take hw))) (by have:=hr r hrm;unfold slc;simp;omega)
   have h125: ∀ w,F125 300000 w [36]=some (Lib.hasPrefix w [36]):=fun _=>rfl
   rw [w2,if_pos (by simpa using hlen),zn c1,zn c2,zm,hm,za,zi]
   split
   ·rw [zn c3,zm,h125,za];exact ⟨_,rfl⟩
   ·exact ⟨_,rfl⟩
  ·rw [w2,if_neg (by simpa using hlen)]
   exact ⟨_,rfl⟩
 have h120: ∃ i,zek 300000 l (((q.length - 1:Nat):Int)) q=some i:=by
  unfold zek zhy
  simp only [zi,ze,zm,zM,zP,zS,zN,zD,zU,zB,zV,za,decide_eq_true_eq,Bool.not_eq_true',Bool.true_eq_false,Bool.false_eq_true,if_true,if_false,reduceCtorEq]
  obtain ⟨o,ho,hp⟩:=zA (R:=Int) (step:=fun x=>zar 300000 x.1 x.2.1 x.2.2.1 x.2.2.2)
   (fun x=>x.1=l∧x.2.1=((((q.length - 1:Nat):Int)),q)∧x.2.2.1=(l.length:Int)∧0≤x.2.2.2∧x.2.2.2≤(l.length:Int)) (fun x=>(l.length - x.2.2.2).toNat)
   (fun o=>(∃ r,o= .ret r)∨ ∃ y,o= .brk 0 y)
   (by
    rintro ⟨l',k,n,i⟩ ⟨e1,e2,e3,g0,g1⟩
    dsimp only at e1 e2 e3 g0 g1 ⊢
    subst e1 e2 e3
    unfold zar zdK
    by_cases hi:i<(l'.length:Int)
    ·have i1:inR i l'.length:=⟨g0,hi⟩
     have hlt:i.toNat<l'.length:=by omega
     obtain ⟨b,hb⟩:=h124 l'[i.toNat] (List.getElem_mem hlt)
     have e:atI (.pair (.list tS) (.pair tB tB)) l' i=l'[i.toNat]:=by
      have:=zh1 l' i.toNat (List.getElem?_eq_getElem hlt)
      rwa [Int.toNat_of_nonneg g0] at this
     simp (disch:=first | assumption | omega) only [zi,ze,zm,zM,zP,zS,zN,zD,zU,zB,zV,za,decide_eq_true_eq,Bool.not_eq_true',Bool.true_eq_false,Bool.false_eq_true,if_true,if_false,reduceCtorEq,zn,hi,e,hb,zz]
     cases b with
     | true=>exact ⟨_,rfl,.inr ⟨by simp,.inl ⟨_,rfl⟩⟩⟩
     | false=>exact ⟨_,rfl,.inl ⟨_,rfl,⟨rfl,rfl,rfl,by simp only;omega,by simp only;omega⟩,by simp only;omega⟩⟩
    ·simp only [zi,ze,zm,zM,zP,zS,zN,zD,zU,zB,zV,za,decide_eq_true_eq,Bool.not_eq_true',Bool.true_eq_false,Bool.false_eq_true,if_true,if_false,reduceCtorEq,hi,decide_false]
     exact ⟨_,rfl,.inr ⟨by simp,.inr ⟨_,rfl⟩⟩⟩) 300000 (l,((((q.length - 1:Nat):Int)),q),(l.length:Int),0) ⟨rfl,rfl,rfl,by simp,by simp⟩ (by simp only;omega)
  unfold zbS
  rw [ho]
  rcases hp with ⟨r,rfl⟩ | ⟨y,rfl⟩
  ·exact ⟨_,rfl⟩
  ·exact ⟨_,rfl⟩
 obtain ⟨i,hi⟩:=h120
 have h123:zel 300000 l (((q.length - 1:Nat):Int)) q=some (decide ((0:Int)≤i)):=by
  unfold zel zhA
  simp only [zi,ze,zm,zM,zP,zS,zN,zD,zU,zB,zV,za,decide_eq_true_eq,Bool.not_eq_true',Bool.true_eq_false,Bool.false_eq_true,if_true,if_false,reduceCtorEq,hi]
 unfold F60 V60
 rw [zm,w1,h123,za,zi]
 split<;>exact ⟨_,rfl⟩
end
section
open Go.RowKit
theorem zfE {Q:Bs→Prop}: ∀ (u:List Ln) (p:List Bs),(∀ w∈p,Q w)→(∀ l∈u,Q l.2.1)→ ∀ w∈after p u,Q w
 | [],p,hp,_=>hp
 | l::u,p,hp,hu=>zfE u (nx p l) (fun w hw=>by
   unfold nx at hw
   rcases List.mem_append.1 hw with h | h
   ·exact hp w (List.mem_of_mem_take h)
   ·rw [List.mem_singleton.1 h];exact hu l (by simp)) fun l' hl=>hu l' (by simp [hl])
theorem zc6 {t:List Ln} (h:zE t=true): ∀ l∈t,l.2.1.length≤40:=fun l hl=>by
 obtain ⟨i,hi,rfl⟩:=List.getElem_of_mem hl
 exact (zJ.1 (jR (zC.1 h).2 hi).1).2.2.1
theorem zbx {t:List Ln} (h:zE t=true) (i:Nat) (hi:i<t.length): ∀ w∈pth t i,w.length≤40:=by
 rw [zdL t hi]
 exact zfE _ [] (by simp) fun l hl=>zc6 h l (List.mem_of_mem_take hl)
theorem zdO {t:List Ln} (h:zE t=true) (k:Nat):(t.getD k (0,[],0)).2.1.length≤40:=by
 by_cases hk:k<t.length
 ·rw [zt t hk];exact zc6 h _ (List.getElem_mem hk)
 ·simp [List.getD,List.getElem?_eq_none (Nat.le_of_not_lt hk)]
theorem zc7 {t:List Ln} (h:zE t=true) {i:Nat} (hi:i<t.length):1≤(pth t i).length∧(pth t i).length≤16:=by
 obtain ⟨h200,hrf⟩:=zC.1 h
 rw [zah hrf hi]
 have:=zJ.1 (jR hrf hi).1
 omega
def wdI (t:List Ln) (k:Int):Bs:=(t.getD k.toNat (0,[],0)).2.1
theorem zai {t:List Ln} {i k:Int} (h:k∈zI t i):0≤k∧k<t.length:=by
 unfold zI at h
 obtain ⟨n,hn,rfl⟩:=List.mem_map.1 h
 have:=List.mem_range.1 (List.mem_filter.1 hn).1
 omega
theorem zby (t:List Ln) (i:Int):(zI t i).length≤t.length:=by
 unfold zI
 rw [List.length_map]
 exact Nat.le_trans (List.length_filter_le _ _) (by simp)
theorem zdP {t:List Ln} {q:List Bs} {i:Nat} (h:fndS t q=some i):i<t.length:=(zeM h).2.1
theorem zgF {t:List Ln} (hr:zE t=true) {i:Nat} (hi:i<t.length):F64o 300000 t (i:Int)=some (zI t i):=by
 obtain ⟨h200,hrf⟩:=zC.1 hr
 rw [zsJ 300000 t i (by omega),if_pos ⟨hr,by omega,by omega⟩]
theorem F_has (t:List Ln) (ks:List Int) (w:Bs) (hk: ∀ k∈ks,0≤k∧k<t.length) (hl:ks.length≤1000):zeo 300000 ks t w=some (ks.any fun k=>wdI t k==w):=by
 have hrun:=ye (R:=Int) (step:=fun x=>jt 300000 x.1 x.2.1 x.2.2.1 x.2.2.2) ks (fun (_:Nat) i=>(ks,(t,w),(ks.length:Int),i)) (fun i a=>a=i)
  (fun a k=>if (wdI t k==w)=true then .inr (a:Int) else .inl (a+1))
  (fun a i k ha hx=>by
   subst ha
   have hi:a<ks.length:=(List.getElem?_eq_some_iff.1 hx).1
   have hkr:=hk k (List.mem_of_getElem? hx)
   unfold jt zbT
   have i1:inR (a:Int) ks.length:=⟨by omega,by omega⟩
   have i2:inR k t.length:=hkr
   have hi' :(a:Int)<(ks.length:Int):=by omega
   have e:atI tI ks (a:Int)=k:=by
    unfold atI
    rw [Int.toNat_natCast]
    simp only [List.getD,hx]
    rfl
   have h128:F128 300000 k t w=some (wdI t k==w):=by
    unfold F128 V128
    rw [zn i2]
    rfl
   simp (disch:=first | assumption | omega) only [zi,ze,zm,zM,zP,zS,zN,zD,zU,zB,zV,za,decide_eq_true_eq,Bool.not_eq_true',Bool.true_eq_false,Bool.false_eq_true,if_true,if_false,reduceCtorEq,zn,hi',e,h128,zz]
   cases wdI t k==w<;>rfl)
  (fun a i x a' ha hx hf=>by
   subst ha
   split at hf
   ·cases hf
   ·exact (Sum.inl.inj hf).symm)
  (fun a ha=>by
   unfold jt zbT
   simp only [zi,ze,zm,zM,zP,zS,zN,zD,zU,zB,zV,za,decide_eq_true_eq,Bool.not_eq_true',Bool.true_eq_false,Bool.false_eq_true,if_true,if_false,reduceCtorEq,Int.lt_irrefl,decide_false]) 0 rfl 300000 (by omega)
 have h199:zen 300000 ks t w=some (match fnd1 (fun k=>wdI t k==w) ks 0 with
  | .inr i=>i
  | .inl _=> -1):=by
  unfold zen zhC
  simp only [zi,ze,zm,zM,zP,zS,zN,zD,zU,zB,zV,za,decide_eq_true_eq,Bool.not_eq_true',Bool.true_eq_false,Bool.false_eq_true,if_true,if_false,reduceCtorEq]
  unfold zbU
  have hz:fnd1 (fun k:Int=>wdI t k==w) ks 0=runE (A:=Nat) (R:=Int) (fun a (k:Int)=>if (wdI t k==w)=true then .inr (a:Int) else .inl (a+1)) ks 0:=rfl
  rw [hz]
  generalize runE (A:=Nat) (R:=Int) (fun a (k:Int)=>if (wdI t k==w)=true then .inr (a:Int) else .inl (a+1)) ks 0=z at hrun ⊢
  cases z with
  | inl v=>rw [hrun];rfl
  | inr v=>rw [hrun];rfl
 unfold zeo zhE
 simp only [zi,ze,zm,zM,zP,zS,zN,zD,zU,zB,zV,za,decide_eq_true_eq,Bool.not_eq_true',Bool.true_eq_false,Bool.false_eq_true,if_true,if_false,reduceCtorEq,h199]
 rcases zc5 (fun k:Int=>wdI t k==w) ks 0 with ⟨i,x,h1,h2,h3,h4⟩ | ⟨h1,h2⟩
 ·rw [h1]
  dsimp only
  rw [decide_eq_true (Int.natCast_nonneg _),List.any_eq_true.2 ⟨x,List.mem_of_getElem? h2,h3⟩]
 ·rw [h1]
  dsimp only
  have:(ks.any fun k=>wdI t k==w)=false:=by
   rw [List.any_eq_false]
   exact List.find?_eq_none.1 h2
  rw [this];rfl
theorem zbz {t:List Ln} (hr:zE t=true) (a b:Bs):F201 300000 t a b=some (fndS t [a,b]).isSome:=by
 obtain ⟨h200,hrf⟩:=zC.1 hr
 unfold F201 V201
 simp only [zi,ze,zm,zM,zP,zS,zN,zD,zU,zB,zV,za,decide_eq_true_eq,Bool.not_eq_true',Bool.true_eq_false,Bool.false_eq_true,if_true,if_false,reduceCtorEq,zk1 300000 t [a,b] (by omega)]
 cases fndS t [a,b]<;>rfl
theorem zqE {t:List Ln} (hr:zE t=true) {i:Nat} (hi:i<t.length) {p:List Bs} (hp: ∀ w∈p,w.length≤40) (h4:p.length=4): ∃ b,F200 300000 t i p=some b:=by
 obtain ⟨h200,hrf⟩:=zC.1 hr
 unfold F200 V200
 simp only [zi,ze,zm,zM,zP,zS,zN,zD,zU,zB,zV,za,decide_eq_true_eq,Bool.not_eq_true',Bool.true_eq_false,Bool.false_eq_true,if_true,if_false,reduceCtorEq]
 obtain ⟨o,ho,hq⟩:=zA (R:=Bool) (step:=fun x=>zhF 300000 x.1 x.2.1 x.2.2.1 x.2.2.2)
  (fun x=>x.1=t∧x.2.1=p∧x.2.2.1=(i:Int)∧0≤x.2.2.2∧x.2.2.2≤(i:Int)) (fun x=>(i - x.2.2.2).toNat)
  (fun o=>(∃ r,o= .ret r)∨ ∃ y,o= .brk 0 y)
  (by
   rintro ⟨t',p',n,k⟩ ⟨e1,e2,e3,g0,g1⟩
   dsimp only at e1 e2 e3 g0 g1 ⊢
   subst e1 e2 e3
   unfold zhF zn8
   by_cases hk:k<(i:Int)
   ·have hkl:k.toNat<t'.length:=by omega
    have hth:qY t' k=true:=qd.2 ⟨g0,by omega,hr⟩
    have h58:=zoi 300000 t' k (by omega)
    rw [if_pos hth] at h58
    have i3:inR 3 p'.length:=⟨by omega,by omega⟩
    have hm:=znw [[104,111,115,116,115],[36,110,97,109,101],[105,112],atI tS p' 3] (pth t' k.toNat) (fun w hw=>Nat.le_trans (zbx hr _ hkl w hw) (by omega)) (by simp)
    simp (disch:=first | assumption | omega) only [zi,ze,zm,zM,zP,zS,zN,zD,zU,zB,zV,za,decide_eq_true_eq,Bool.not_eq_true',Bool.true_eq_false,Bool.false_eq_true,if_true,if_false,reduceCtorEq,zn,hk,h58,hm,zz]
    cases matB [[104,111,115,116,115],[36,110,97,109,101],[105,112],atI tS p' 3] (pth t' k.toNat) with
    | true=>exact ⟨_,rfl,.inr ⟨by simp,.inl ⟨_,rfl⟩⟩⟩
    | false=>exact ⟨_,rfl,.inl ⟨_,rfl,⟨rfl,rfl,rfl,by simp only;omega,by simp only;omega⟩,by simp only;omega⟩⟩
   ·simp only [zi,ze,zm,zM,zP,zS,zN,zD,zU,zB,zV,za,decide_eq_true_eq,Bool.not_eq_true',Bool.true_eq_false,Bool.false_eq_true,if_true,if_false,reduceCtorEq,hk,decide_false]
    exact ⟨_,rfl,.inr ⟨by simp,.inr ⟨_,rfl⟩⟩⟩) 300000 (t,p,(i:Int),0) ⟨rfl,rfl,rfl,by simp,by simp⟩ (by simp only;omega)
 unfold zks
 rw [ho]
 rcases hq with ⟨r,rfl⟩ | ⟨y,rfl⟩
 ·exact ⟨_,rfl⟩
 ·exact ⟨_,rfl⟩
theorem zlf {t:List Ln} (hr:zE t=true) {a b:Bs} (ha:a.length≤40): ∃ c,F202 300000 t a b=some c:=by
 obtain ⟨h200,hrf⟩:=zC.1 hr
 obtain ⟨⟨m,is⟩,hm,_⟩:=F_ip a (by omega)
 unfold F202 V202
 rw [zM,zk1 300000 t _ (by omega)]
 cases hf:fndS t [[118,110,105,115],b,[115,117,98,110,101,116]] with
 | none=>exact ⟨false,rfl⟩
 | some i=>
  have hi:=zdP hf
  dsimp only
  simp only [za]
  rw [zi,if_neg (by simp),zm,zgF hr hi,za,zi]
  split
  ·exact ⟨_,rfl⟩
  ·rename_i hne
   have hpos:0<(zI t i).length:=by
    have:(zI t i).length≠0:=fun h=>hne (by simp [h])
    omega
   have i0:inR 0 (zI t i).length:=⟨by omega,by omega⟩
   have hk0:atI tI (zI t i) 0∈zI t i:=by
    have:atI tI (zI t i) 0=(zI t i)[0]:=by unfold atI;simp [List.getD,List.getElem?_eq_getElem hpos]
    rw [this];exact List.getElem_mem hpos
   have hkr:=zai hk0
   have i1:inR (atI tI (zI t i) 0) t.length:=hkr
   obtain ⟨⟨n,bits,ok⟩,h39,hok⟩:=zcm (atI tLn t (atI tI (zI t i) 0)).2.1 (by
    have:=zdO hr (atI tI (zI t i) 0).toNat
    exact Nat.le_trans this (by omega))
   rw [zn i0,zn i0,zn i1,zP,h39,za,zM]
   dsimp only
   rw [hm,za,zi]
   cases ok with
   | false=>exact ⟨_,rfl⟩
   | true=>
    obtain ⟨c,hc⟩:=zqv (hok rfl).1 m
    rw [if_pos rfl,zm]
    dsimp only at hc ⊢
    rw [hc]
    exact ⟨_,rfl⟩
theorem ziJ:zG.all (fun r=>decide (r.1.length≤4)&&(r.1.all (fun w=>decide (w.length≤40))&&(decide (r.1≠[])&&((decide (r.1.length=4)||(!(Lib.join r.1 [32]==[104,111,115,116,115,32,36,110,97,109,101,32,105,112,32,36,105,112])&&(!(Lib.join r.1 [32]==[98,105,110,100,105,110,103,115,32,36,105,112,32,104,111,115,116,32,36,110,97,109,101])&&(!(Lib.join r.1 [32]==[114,111,117,116,101,115,32,36,112,114,101,102,105,120,32,118,105,97,32,36,110,97,109,101])&&(!(Lib.join r.1 [32]==[104,111,115,116,115,32,36,110,97,109,101,32,118,110,105,115,32,36,118,110,105])&& !(Lib.join r.1 [32]==[98,105,110,100,105,110,103,115,32,36,105,112,32,118,110,105,32,36,118,110,105]))))))))))=true:=by kernel_rfl
theorem jw {r:Rl} (h:r∈zG):r.1.length≤4∧(∀ w∈r.1,w.length≤40)∧r.1≠[]∧(r.1.length=4∨(Lib.join r.1 [32]≠[104,111,115,116,115,32,36,110,97,109,101,32,105,112,32,36,105,112]∧Lib.join r.1 [32]≠[98,105,110,100,105,110,103,115,32,36,105,112,32,104,111,115,116,32,36,110,97,109,101]∧Lib.join r.1 [32]≠[114,111,117,116,101,115,32,36,112,114,101,102,105,120,32,118,105,97,32,36,110,97,109,101]∧Lib.join r.1 [32]≠[104,111,115,116,115,32,36,110,97,109,101,32,118,110,105,115,32,36,118,110,105]∧Lib.join r.1 [32]≠[98,105,110,100,105,110,103,115,32,36,105,112,32,118,110,105,32,36,118,110,105])):=by
 have:=List.all_eq_true.1 ziJ r h
 simp only [Bool.and_eq_true,Bool.or_eq_true,decide_eq_true_eq,List.all_eq_true,Bool.not_eq_true',beq_eq_false_iff_ne,ne_eq] at this
 exact this
theorem zsQ {α:Type} {X:Option α} {Q:α→Prop} (h: ∃ m,X=some m) (hq: ∀ m,Q m): ∃ m,X=some m∧Q m:=h.imp fun m hm=>⟨hm,hq m⟩
set_option maxHeartbeats 4000000 in
theorem zqF {t:List Ln} (hr:zE t=true) {i:Nat} (hi:i<t.length) {r:Rl} (hrm:r∈zG) (hm:matB r.1 (pth t i)=true):
  ∃ m,F130 300000 t i r.1 (pth t i)=some m∧(r.1=[zq,yh,kVia,jM]→m= !(fndS t [zp,(pth t i).getD 3 []]).isSome):=by
 obtain ⟨f1,f2,f3,f4⟩:=jw hrm
 have hj:=zk9 r.1 [32] (fun w hw=>Nat.le_trans (f2 w hw) (by omega)) (by omega) (by decide)
 have hpw:=zbx hr i hi
 have hlen:=zeP hm
 unfold F130 V130
 rw [zm,hj,za]
 rcases f4 with h4 | ⟨n1,n2,n3,n4,n5⟩
 ·have hp4:(pth t i).length=4:=by omega
  have i3:inR 3 (pth t i).length:=⟨by omega,by omega⟩
  have i1:inR 1 (pth t i).length:=⟨by omega,by omega⟩
  have e3:atI tS (pth t i) 3=(pth t i).getD 3 []:=rfl
  obtain ⟨b,hb⟩:=zqE hr hi hpw hp4
  obtain ⟨c,hc⟩:=zlf hr (a:=atI tS (pth t i) 1) (b:=atI tS (pth t i) 3) (hpw _ (by
   have:atI tS (pth t i) 1=(pth t i)[1]:=by unfold atI;simp [List.getD,List.getElem?_eq_getElem (show 1<(pth t i).length by omega)]
   rw [this];exact List.getElem_mem _))
  by_cases hvia:r.1=[zq,yh,kVia,jM]
  ·rw [hvia]
   have j1:(Lib.join [zq,yh,kVia,jM] [32]==[104,111,115,116,115,32,36,110,97,109,101,32,105,112,32,36,105,112])=false:=by kernel_rfl
   have j2:(Lib.join [zq,yh,kVia,jM] [32]==[98,105,110,100,105,110,103,115,32,36,105,112,32,104,111,115,116,32,36,110,97,109,101])=false:=by kernel_rfl
   have j3:(Lib.join [zq,yh,kVia,jM] [32]==[114,111,117,116,101,115,32,36,112,114,101,102,105,120,32,118,105,97,32,36,110,97,109,101])=true:=by kernel_rfl
   rw [zi,j1,if_neg (by decide),zi,j2,if_neg (by decide),zi,j3,if_pos rfl,zn i3,zm,zbz hr,za,ze]
   exact ⟨_,rfl,fun _=>rfl⟩
  ·refine zsQ ?_ fun m h=>absurd h hvia
   rw [zi]
   split
   ·rw [zm,hb];exact ⟨_,rfl⟩
   ·rw [zi]
    split
    ·rw [zn i3,zm,zbz hr];exact ⟨_,rfl⟩
    ·rw [zi]
     split
     ·rw [zn i3,zm,zbz hr];exact ⟨_,rfl⟩
     ·rw [zi]
      split
      ·rw [zn i3,zm,zbz hr];exact ⟨_,rfl⟩
      ·rw [zi]
       split
       ·rw [zn i3,zm,zbz hr,za,zi]
        split
        ·exact ⟨_,rfl⟩
        ·rw [zn i1,zn i3,zm,hc];exact ⟨_,rfl⟩
       ·exact ⟨_,rfl⟩
 ·rw [zi,if_neg (by simpa using n1),zi,if_neg (by simpa using n2),zi,if_neg (by simpa using n3),zi,if_neg (by simpa using n4),zi,if_neg (by simpa using n5)]
  refine ⟨_,rfl,fun h=>absurd ?_ n3⟩
  rw [h]
  exact eq_of_beq (by kernel_rfl)
end
section
open Go.RowKit
abbrev Ft:=List Bs×Int
theorem znx (x:List Bs) (h:x.length≤1073741824):zpb 300000 x=some x:=by
 unfold zpb zri
 exact qt (Nat.ble_eq_true_of_le h)
noncomputable def zgG (t:List Ln) (i:Int) (p:List Bs):List Ft:=((qu zG p).filter fun w=> !(zI t i).any fun k=>wdI t k==w).map fun w=>(p++[w],1)
theorem zfF (p:List Bs):(qu zG p).length≤34:=by
 unfold qu
 rw [List.length_map]
 exact List.length_filter_le _ _
theorem zny (t:List Ln) (i:Int) (p:List Bs):(zgG t i p).length≤34:=by
 unfold zgG
 rw [List.length_map]
 exact Nat.le_trans (List.length_filter_le _ _) (zfF p)
set_option maxHeartbeats 4000000 in
theorem zsR {t:List Ln} (hr:zE t=true) (i:Int) (r:Rl) (p:List Bs) (hp:p.length≤16) (out0:List Ft) (h0:out0.length≤1):
  zac 300000 (i,p,t,r,out0,zI t i,qu zG p,((qu zG p).length:Int),0)=some (.brk 0 (i,p,t,r,out0++zgG t i p,zI t i,qu zG p,((qu zG p).length:Int),((qu zG p).length:Int))):=by
 obtain ⟨h200,hrf⟩:=zC.1 hr
 have hnl:=zfF p
 have hkl:=zby t i
 have hrun:=ye (R:=List Ft) (step:=fun x=>zfr 300000 x.1 x.2.1 x.2.2.1 x.2.2.2.1 x.2.2.2.2.1 x.2.2.2.2.2.1 x.2.2.2.2.2.2.1 x.2.2.2.2.2.2.2.1 x.2.2.2.2.2.2.2.2) (qu zG p) (fun (out:List Ft) k=>(i,p,t,r,out,zI t i,qu zG p,((qu zG p).length:Int),k)) (fun k a=>a.length≤k+1)
  (fun out w=> .inl (if (!(zI t i).any fun k=>wdI t k==w)=true then out++[(p++[w],1)] else out))
  (fun out k w ha hx=>by
   have hk:k<(qu zG p).length:=(List.getElem?_eq_some_iff.1 hx).1
   unfold zfr zkt
   have i1:inR (k:Int) (qu zG p).length:=⟨by omega,by omega⟩
   have hk' :(k:Int)<((qu zG p).length:Int):=by omega
   have e:atI tS (qu zG p) (k:Int)=w:=by unfold atI;simp [List.getD,hx]
   have hh:=F_has t (zI t i) w (fun k hk=>zai hk) (by omega)
   have w1:IntKind.i64.wrap ((k:Int)+1)=(k:Int)+1:=zz (by omega) (by omega)
   have r1:room (p.length+([w]:List Bs).length):=by show _≤_;simp;omega
   have r2:room (out.length+([((p++([w]:List Bs)),1)]:List Ft).length):=by show _≤_;simp;omega
   rw [zi,if_pos (decide_eq_true hk'),zn i1,zn i1]
   simp only [e,w1]
   rw [zm,hh,za,zi]
   by_cases hs:(!(zI t i).any fun k=>wdI t k==w)=true
   ·rw [if_pos hs,if_pos hs]
    refine zkh (q:=(Lp.next (i,p,t,r,out++[(p++[w],1)],zI t i,qu zG p,((qu zG p).length:Int),(k:Int)+1):Lp (Int×List Bs×List Ln×Rl×List Ft×List Int×List Bs×Int×Int) (List Ft))) _ _ ?_ (zkh _ _ ?_ ?_)
    all_goals
     rw [zm,znx p (by omega),za,zn r1,zn r2,ze]
   ·rw [if_neg hs,if_neg hs]
    rfl)
  (fun out k w out' ha hx hf=>by
   have:=Sum.inl.inj hf
   subst this
   split<;>simp<;>omega)
  (fun out ha=>by
   unfold zfr zkt
   rw [zi,if_neg (by simp)]
   rfl) out0 (by omega) 300000 (by omega)
 unfold zac
 rw [hrun]
 have hE: ∀ (l:List Bs) (out:List Ft),runE (R:=List Ft) (fun out w=> .inl (if (!(zI t i).any fun k=>wdI t k==w)=true then out++[(p++[w],1)] else out)) l out= .inl (out++(l.filter fun w=> !(zI t i).any fun k=>wdI t k==w).map fun w=>(p++[w],1)):=by
  intro l
  induction l with
  | nil=>intro out;simp [runE]
  | cons w l ih=>
   intro out
   simp only [runE]
   rw [ih]
   congr 1
   rw [List.filter_cons]
   split<;>simp
 rw [hE]
 rfl
def zlg (t:List Ln) (i:Nat) (r:Rl):Prop:=
 (r.2.1=true→(zI t i).length=1)∧(∀ w∈qu zG (pth t i),∃ k∈zI t i,wdI t k=w)∧(r.1=[zq,yh,kVia,jM]→(fndS t [zp,(pth t i).getD 3 []]).isSome=true)
set_option maxHeartbeats 4000000 in
theorem zsS {t:List Ln} (hr:zE t=true) {i:Nat} (hi:i<t.length) {r:Rl} (hrm:r∈zG) (hm:matB r.1 (pth t i)=true):
  ∃ out,F62o 300000 t i zG r (pth t i)=some out∧out.length≤40∧(out=[]→zlg t i r):=by
 obtain ⟨h200,hrf⟩:=zC.1 hr
 obtain ⟨m,hmeant,hmv⟩:=zqF hr hi hrm hm
 have hps:=zc7 hr hi
 have hpw:=zbx hr i hi
 have hn:=zqD zG (pth t i) (by decide) (fun r hr=>⟨Nat.le_trans (jw hr).1 (by omega),(jw hr).2.2.1⟩) (fun w hw=>Nat.le_trans (hpw w hw) (by omega))
 have hml:=zny t i (pth t i)
 have tail: ∀ out0:List Ft,out0.length≤1→ ∃ out,(Vt.c1 (zfq 300000 zG (pth t i)) (fun x2=> .f1 (l:=qm) (o:=zac 300000 (i,pth t i,t,r,out0,zI t i,x2,(x2.length:Int),0)) (zad 300000 (i,pth t i,t,r,out0,zI t i,x2,(x2.length:Int),0)) (fun x3=> .c1 (P130 300000 x3.2.2.1 x3.1 x3.2.2.2.1.1 x3.2.1) (fun x4=> .br x4 (.ck (room (x3.2.2.2.2.1.length+([(x3.2.1,7)]:(List ((List Bs)×Int))).length)) (.leaf (x3.2.2.2.2.1++([(x3.2.1,7)]:(List ((List Bs)×Int)))))) (.leaf x3.2.2.2.2.1)))):Vt (List Ft) (Option D) (fun q=>some (E62o q))).eval=some out∧out.length≤40∧(out=[]→out0=[]∧zgG t i (pth t i)=[]∧m=false):=by
  intro out0 h0
  rw [zm,hn,za,zB,zsR hr i r (pth t i) hps.2 out0 h0,yX,zm]
  dsimp only
  rw [hmeant,za,zi]
  have r1:room ((out0++zgG t i (pth t i)).length+([(pth t i,7)]:List Ft).length):=by show _≤_;simp;omega
  cases m with
  | true=>
   rw [if_pos rfl,zn r1,ze]
   exact ⟨_,rfl,by simp;omega,fun h=>by simp at h⟩
  | false=>
   rw [if_neg (by decide),ze]
   refine ⟨_,rfl,by simp;omega,fun h=> ?_⟩
   have:=List.append_eq_nil_iff.1 h
   exact ⟨this.1,this.2,rfl⟩
 have ok: ∀ hlen:(r.2.1=true→(zI t i).length=1),zgG t i (pth t i)=[]→m=false→zlg t i r:=by
  intro hlen h1 h2
  refine ⟨hlen,fun w hw=> ?_,fun h=> ?_⟩
  ·unfold zgG at h1
   have h3:=List.map_eq_nil_iff.1 h1
   have h4:=List.filter_eq_nil_iff.1 h3 w hw
   have h5:((zI t i).any fun k=>wdI t k==w)=true:=by simpa using h4
   obtain ⟨k,hk,he⟩:=List.any_eq_true.1 h5
   exact ⟨k,hk,eq_of_beq he⟩
  ·have:=hmv h
   rw [h2] at this
   simpa using this.symm
 have r0: ∀ e:Int,room (([]:List Ft).length+([(pth t i,e)]:List Ft).length):=fun e=>by show _≤_;simp
 unfold F62o V62o
 rw [zm,zgF hr hi,za,zi]
 by_cases hone:r.2.1=true
 ·rw [if_pos hone,zi]
  by_cases hz:(((zI t i).length:Int)==0)=true
  ·rw [if_pos hz,zn (r0 1)]
   obtain ⟨out,h1,h2,h3⟩:=tail ([]++[(pth t i,1)]) (by simp)
   exact ⟨out,h1,h2,fun h=>by have:=(h3 h).1;simp at this⟩
  ·rw [if_neg hz,zi,if_pos hone,zi]
   by_cases hm1:decide ((1:Int)<((zI t i).length:Int))=true
   ·rw [if_pos hm1,zn (r0 4)]
    obtain ⟨out,h1,h2,h3⟩:=tail ([]++[(pth t i,4)]) (by simp)
    exact ⟨out,h1,h2,fun h=>by have:=(h3 h).1;simp at this⟩
   ·rw [if_neg hm1]
    obtain ⟨out,h1,h2,h3⟩:=tail [] (by simp)
    refine ⟨out,h1,h2,fun h=>ok (fun _=> ?_) (h3 h).2.1 (h3 h).2.2⟩
    have a1:((zI t i).length:Int)≠0:=by simpa using hz
    have a2: ¬ (1:Int)<((zI t i).length:Int):=by simpa using hm1
    omega
 ·rw [if_neg hone,zi,if_neg hone]
  obtain ⟨out,h1,h2,h3⟩:=tail [] (by simp)
  exact ⟨out,h1,h2,fun h=>ok (fun h' =>absurd h' hone) (h3 h).2.1 (h3 h).2.2⟩
def Good (t:List Ln) (i:Nat):Prop:= ∃ r,r∈zG∧matB r.1 (pth t i)=true∧zlg t i r
set_option maxHeartbeats 4000000 in
theorem zqG {t:List Ln} (hr:zE t=true): ∃ l,F24o 300000 t=some (l,0)∧(l=[]→ ∀ i,i<t.length→Good t i):=by
 obtain ⟨h200,hrf⟩:=zC.1 hr
 have hpos: ∀ i,i<t.length→pth t i≠[]:=fun i hi h=>by
  have:=(zc7 hr hi).1
  rw [h] at this
  simp at this
 unfold F24o V24o
 rw [zm,zeK 300000 t (by omega),hr,za,zi,if_neg (by decide),zm,zqB,za,zB]
 obtain ⟨o,ho,hp⟩:=zA (R:=List Ft×Int) (step:=fun x=>zhG 300000 x.1 x.2.1 x.2.2.1 x.2.2.2)
  (fun x=>x.1=t∧x.2.1=zG∧0≤x.2.2.2∧x.2.2.2≤(t.length:Int)∧(x.2.2.1.length:Int)≤40*x.2.2.2∧(x.2.2.1=[]→ ∀ j:Nat,(j:Int)<x.2.2.2→Good t j)) (fun x=>(t.length - x.2.2.2).toNat)
  (fun o=> ∃ out i,o= .brk 0 (t,zG,out,i)∧(out=[]→ ∀ j:Nat,j<t.length→Good t j))
  (by
   rintro ⟨t',rs,out,i⟩ ⟨e1,e2,g0,g1,g2,g3⟩
   dsimp only at e1 e2 g0 g1 g2 g3 ⊢
   subst e1 e2
   unfold zhG zn9
   by_cases hi:i<(t'.length:Int)
   ·have hil:i.toNat<t'.length:=by omega
    have ei:((i.toNat:Nat):Int)=i:=Int.toNat_of_nonneg g0
    have hth:qY t' i=true:=qd.2 ⟨g0,hi,hr⟩
    have h58:=zoi 300000 t' i (by omega)
    rw [if_pos hth] at h58
    have hpw: ∀ w∈pth t' i.toNat,w.length≤5000:=fun w hw=>Nat.le_trans (zbx hr _ hil w hw) (by omega)
    have h59:=zqC zG (pth t' i.toNat) (by decide) (fun r hr=>Nat.le_trans (jw hr).1 (by omega)) hpw
    rw [zi,if_pos (decide_eq_true hi),zM,h58,za,zM]
    dsimp only
    rw [h59,za,zi]
    cases hf:zG.find? (fun r=>matB r.1 (pth t' i.toNat)) with
    | none=>
     dsimp only
     obtain ⟨e,he⟩:=zle zG (pth t' i.toNat) (by decide) (fun r hr=>Nat.le_trans (jw hr).1 (by omega)) hpw (hpos _ hil) (by have:=(zc7 hr hil).2;omega)
     have h61:=zsI 300000 t' i (by omega)
     rw [if_pos hth] at h61
     have hgt:=zgv t' i.toNat
     have hle:=zez t' hil
     have r1:room (out.length+([(pth t' i.toNat,e)]:List Ft).length):=by show _≤_;simp;omega
     rw [if_pos (show (!false)=true from rfl),zm,he,za,zn r1,zm,h61,za,ze]
     refine ⟨_,rfl,.inl ⟨_,rfl,⟨rfl,rfl,?_,?_,?_,fun h=> ?_⟩,?_⟩⟩
     ·simp only;rw [zz (n:=(endN t' i.toNat:Int) - 1) (by omega) (by omega),zz (by omega) (by omega)];omega
     ·simp only;rw [zz (n:=(endN t' i.toNat:Int) - 1) (by omega) (by omega),zz (by omega) (by omega)];omega
     ·simp only [List.length_append,List.length_cons,List.length_nil];rw [zz (n:=(endN t' i.toNat:Int) - 1) (by omega) (by omega),zz (by omega) (by omega)];omega
     ·simp at h
     ·simp only;rw [zz (n:=(endN t' i.toNat:Int) - 1) (by omega) (by omega),zz (by omega) (by omega)];omega
    | some r=>
     dsimp only
     have hrm:=List.mem_of_find?_eq_some hf
     have hmt:matB r.1 (pth t' i.toNat)=true:=by simpa using List.find?_some hf
     obtain ⟨l,hl1,hl2,hl3⟩:=zsS hr hil hrm hmt
     rw [ei] at hl1
     have r1:room (out.length+l.length):=by show _≤_;omega
     rw [if_neg (by decide),zm,hl1,za,zn r1,ze]
     refine ⟨_,rfl,.inl ⟨_,rfl,⟨rfl,rfl,?_,?_,?_,fun h j hj=> ?_⟩,?_⟩⟩
     ·simp only;rw [zz (by omega) (by omega)];omega
     ·simp only;rw [zz (by omega) (by omega)];omega
     ·simp only [List.length_append];rw [zz (by omega) (by omega)];omega
     ·simp only at h hj
      rw [zz (by omega) (by omega)] at hj
      obtain ⟨ha,hb⟩:=List.append_eq_nil_iff.1 h
      rcases Int.lt_or_le (j:Int) i with h1 | h1
      ·exact g3 ha j h1
      ·have:j=i.toNat:=by omega
       subst this
       exact ⟨r,hrm,hmt,hl3 hb⟩
     ·simp only;rw [zz (by omega) (by omega)];omega
   ·rw [zi,if_neg (by simpa using hi),ze]
    exact ⟨_,rfl,.inr ⟨by simp,out,i,rfl,fun h j hj=>g3 h j (by omega)⟩⟩) 300000 (t,zG,[],0) ⟨rfl,rfl,by simp,by simp,by simp,fun _ j hj=>by simp only at hj;omega⟩ (by simp only;omega)
 unfold zku
 rw [ho]
 obtain ⟨out,i,rfl,hg⟩:=hp
 exact ⟨out,rfl,hg⟩
end
section
open Go.RowKit
def undS (t:List Ln) (q:List Bs):List Bs:=match fndS t q with
 | some i=>(zI t i).map (wdI t)
 | none=>[]
theorem zcn {t:List Ln} (hr:zE t=true) {i:Nat} (hi:i<t.length) {k:Int} (hk:k∈zI t i):k.toNat<t.length∧pth t k.toNat=pth t i++[wdI t k]:=by
 obtain ⟨h200,hrf⟩:=zC.1 hr
 have hr0:=zai hk
 have hkl:k.toNat<t.length:=by omega
 refine ⟨hkl,?_⟩
 unfold zI at hk
 obtain ⟨n,hn,rfl⟩:=List.mem_map.1 hk
 have hu:yn t n=(i:Int):=by simpa using (List.mem_filter.1 hn).2
 simp only [Int.toNat_natCast] at hkl ⊢
 rcases ju hrf hkl with ⟨_,h1,_⟩ | ⟨_,u,h1,_,h2,_⟩
 ·rw [hu] at h1;omega
 ·have:u=i:=by rw [hu] at h1;omega
  subst this
  rw [h2]
  unfold wdI
  rw [Int.toNat_natCast,zt t hkl]
theorem zqH {t:List Ln} (hr:zE t=true) {q:List Bs} {w:Bs} (hw:w∈undS t q): ∃ i k:Nat,fndS t q=some i∧k<t.length∧pth t k=q++[w]:=by
 unfold undS at hw
 cases hf:fndS t q with
 | none=>rw [hf] at hw;cases hw
 | some i=>
  rw [hf] at hw
  obtain ⟨k,hk,rfl⟩:=List.mem_map.1 hw
  have hi:=zdP hf
  obtain ⟨h1,h2⟩:=zcn hr hi hk
  exact ⟨i,k.toNat,rfl,h1,by rw [h2,(zeM hf).2.2]⟩
theorem zop {t:List Ln} (hr:zE t=true) {i:Nat} (hi:i<t.length):undS t (pth t i)=(zI t i).map (wdI t):=by
 unfold undS
 rw [zeL hr hi rfl]
theorem zlh (d:Int) (w:Bs): ∀ (r:List Ln) (m:Nat) (l:Ln),innB d w r=true→r[m]? =some l→(∀ j,j<m→d≤(r.getD j (0,[],0)).1)→l.1=d→bl w l.2.1=true
 | [],m,l,_,h,_,_=>by simp at h
 | x::r,0,l,hi,h,_,hd=>by
  have:x=l:=by simpa using h
  subst this
  unfold innB at hi
  rw [if_pos (by omega)] at hi
  cases hb:bl w x.2.1 with
  | true=>rfl
  | false=>rw [if_pos ⟨hd,hb⟩] at hi;cases hi
 | x::r,m+1,l,hi,h,hj,hd=>by
  have h0:=hj 0 (by omega)
  have h0:d≤x.1:=by simpa using h0
  unfold innB at hi
  rw [if_pos h0] at hi
  split at hi
  ·cases hi
  ·exact zlh d w r m l hi (by simpa using h) (fun j hjm=>by simpa using hj (j+1) (by omega)) hd
theorem znz {t:List Ln} (hr:zE t=true) {i:Nat} (hi:i<t.length):((zI t i).map (wdI t)).Pairwise fun a b=>bl a b=true:=by
 obtain ⟨h200,hrf⟩:=zC.1 hr
 unfold zI
 rw [List.map_map]
 refine List.Pairwise.map _ (R:=fun a b:Nat=>a<b∧a∈(List.range t.length).filter (fun k=>yn t k==(i:Int))∧b∈(List.range t.length).filter (fun k=>yn t k==(i:Int))) (fun a b ⟨hab,ha,hb⟩=> ?_) ?_
 ·obtain ⟨ha1,ha2⟩:=List.mem_filter.1 ha
  obtain ⟨hb1,hb2⟩:=List.mem_filter.1 hb
  have hal:=List.mem_range.1 ha1
  have hbl:=List.mem_range.1 hb1
  have hau:yn t a=(i:Int):=by simpa using ha2
  have hbu:yn t b=(i:Int):=by simpa using hb2
  obtain ⟨a1,a2,a3⟩:=(zeA hrf hi hal).1 hau
  obtain ⟨b1,b2,b3⟩:=(zeA hrf hi hbl).1 hbu
  have hp:=(zok t).1 hrf |>.2 a hal
  unfold zc0 at hp
  have hg:=zlh _ _ _ (b - (a+1)) (t[b]) hp (by rw [List.getElem?_drop,show a+1+(b - (a+1))=b by omega,List.getElem?_eq_getElem hbl]) (fun j hj=>by
   have e:(t.drop (a+1)).getD j (0,[],0)=t.getD (a+1+j) (0,[],0):=by simp [List.getD,List.getElem?_drop]
   rw [e]
   have:=zkQ t i (a+1+j) (by omega) (by omega)
   rw [zt t hi] at this
   rw [zt t hal]
   omega) (by rw [zt t hal];omega)
  simp only [Function.comp,wdI,Int.toNat_natCast]
  rw [zt t hbl]
  exact hg
 ·have h1:((List.range t.length).filter (fun k=>yn t k==(i:Int))).Pairwise (fun a b=>a<b):=List.Pairwise.filter _ List.pairwise_lt_range
  exact List.Pairwise.imp_of_mem (fun ha hb hab=>⟨hab,ha,hb⟩) h1
theorem zqI {t:List Ln} (hr:zE t=true) (q:List Bs):(undS t q).Pairwise fun a b=>bl a b=true:=by
 unfold undS
 cases hf:fndS t q with
 | none=>exact List.Pairwise.nil
 | some i=>exact znz hr (zdP hf)
theorem ziK {r:Rl} (h:r∈zG) {w:Bs} (hm:matB r.1 [zq,w]=true):zeO yh w=true:=by
 simp only [zG,List.mem_cons,List.not_mem_nil,or_false] at h
 rcases h with rfl | rfl | rfl | rfl | rfl | rfl | rfl | rfl | rfl | rfl | rfl | rfl | rfl | rfl | rfl | rfl | rfl | rfl | rfl | rfl | rfl | rfl | rfl | rfl | rfl | rfl | rfl | rfl | rfl | rfl | rfl | rfl | rfl | rfl
 all_goals first
  | (simp [matB,fitB,Lib.hasPrefix] at hm;done)
  | (simp [matB,fitB,Lib.hasPrefix];done)
  | simpa [matB,fitB,Lib.hasPrefix] using hm
theorem znA {r:Rl} (h:r∈zG) {w:Bs} (hm:matB r.1 [zq,w,kVia]=true):r.2.1=true:=by
 simp only [zG,List.mem_cons,List.not_mem_nil,or_false] at h
 rcases h with rfl | rfl | rfl | rfl | rfl | rfl | rfl | rfl | rfl | rfl | rfl | rfl | rfl | rfl | rfl | rfl | rfl | rfl | rfl | rfl | rfl | rfl | rfl | rfl | rfl | rfl | rfl | rfl | rfl | rfl | rfl | rfl | rfl | rfl
 all_goals first
  | (simp [matB,fitB,Lib.hasPrefix] at hm;done)
  | (simp [matB,fitB,Lib.hasPrefix];done)
  | simpa [matB,fitB,Lib.hasPrefix] using hm
theorem zli {r:Rl} (h:r∈zG) {g:Bs} (hm:matB r.1 [zp,g]=true):zeO jM g=true:=by
 simp only [zG,List.mem_cons,List.not_mem_nil,or_false] at h
 rcases h with rfl | rfl | rfl | rfl | rfl | rfl | rfl | rfl | rfl | rfl | rfl | rfl | rfl | rfl | rfl | rfl | rfl | rfl | rfl | rfl | rfl | rfl | rfl | rfl | rfl | rfl | rfl | rfl | rfl | rfl | rfl | rfl | rfl | rfl
 all_goals first
  | (simp [matB,fitB,Lib.hasPrefix] at hm;done)
  | (simp [matB,fitB,Lib.hasPrefix];done)
  | simpa [matB,fitB,Lib.hasPrefix] using hm
theorem znB {r:Rl} (h:r∈zG) {g:Bs} (hm:matB r.1 [zp,g,kIp]=true):r.2.1=true:=by
 simp only [zG,List.mem_cons,List.not_mem_nil,or_false] at h
 rcases h with rfl | rfl | rfl | rfl | rfl | rfl | rfl | rfl | rfl | rfl | rfl | rfl | rfl | rfl | rfl | rfl | rfl | rfl | rfl | rfl | rfl | rfl | rfl | rfl | rfl | rfl | rfl | rfl | rfl | rfl | rfl | rfl | rfl | rfl
 all_goals first
  | (simp [matB,fitB,Lib.hasPrefix] at hm;done)
  | (simp [matB,fitB,Lib.hasPrefix];done)
  | simpa [matB,fitB,Lib.hasPrefix] using hm
theorem zlj {r:Rl} (h:r∈zG) {w g:Bs} (hm:matB r.1 [zq,w,kVia,g]=true):r.1=[zq,yh,kVia,jM]:=by
 simp only [zG,List.mem_cons,List.not_mem_nil,or_false] at h
 rcases h with rfl | rfl | rfl | rfl | rfl | rfl | rfl | rfl | rfl | rfl | rfl | rfl | rfl | rfl | rfl | rfl | rfl | rfl | rfl | rfl | rfl | rfl | rfl | rfl | rfl | rfl | rfl | rfl | rfl | rfl | rfl | rfl | rfl | rfl
 all_goals first
  | (simp [matB,fitB,Lib.hasPrefix] at hm;done)
  | rfl
theorem znC {w:Bs} (h:zeO yh w=true):kVia∈qu zG [zq,w]:=by
 refine List.mem_map.2 ⟨([zq,yh,kVia],true,true),List.mem_filter.2 ⟨by simp [zG],?_⟩,rfl⟩
 simp [matB,fitB,Lib.hasPrefix,h]
theorem zqJ {g:Bs} (h:zeO jM g=true):kIp∈qu zG [zp,g]:=by
 refine List.mem_map.2 ⟨([zp,jM,kIp],true,true),List.mem_filter.2 ⟨by simp [zG],?_⟩,rfl⟩
 simp [matB,fitB,Lib.hasPrefix,h]
theorem zdQ {α:Type} {l:List α} (h:l.length=1): ∃ x,l=[x]:=by
 match l,h with
 | [x],_=>exact ⟨x,rfl⟩
theorem znD {t:List Ln} (hr:zE t=true) (hG: ∀ i,i<t.length→Good t i) {w:Bs} (hw:w∈undS t [zq]):
  zeO yh w=true∧ ∃ g ip,undS t [zq,w,kVia]=[g]∧undS t [zp,g,kIp]=[ip]:=by
 obtain ⟨i,k,_,hk,hp⟩:=zqH hr hw
 have hp:pth t k=[zq,w]:=hp
 obtain ⟨r,hrm,hm,hl⟩:=hG k hk
 rw [hp] at hm
 have ht:=ziK hrm hm
 refine ⟨ht,?_⟩
 obtain ⟨k1,hk1,hw1⟩:=hl.2.1 kVia (by rw [hp];exact znC ht)
 obtain ⟨hl1,hp1⟩:=zcn hr hk hk1
 rw [hp,hw1] at hp1
 have hp1:pth t k1.toNat=[zq,w,kVia]:=hp1
 obtain ⟨r1,hrm1,hm1,hlk1⟩:=hG _ hl1
 rw [hp1] at hm1
 obtain ⟨k2,hk2⟩:=zdQ (hlk1.1 (znA hrm1 hm1))
 have hu1:undS t [zq,w,kVia]=[wdI t k2]:=by rw [← hp1,zop hr hl1,hk2];rfl
 obtain ⟨hl2,hp2⟩:=zcn hr hl1 (show k2∈zI t k1.toNat by rw [hk2];simp)
 rw [hp1] at hp2
 have hp2:pth t k2.toNat=[zq,w,kVia,wdI t k2]:=hp2
 obtain ⟨r2,hrm2,hm2,hlk2⟩:=hG _ hl2
 rw [hp2] at hm2
 have hs:=hlk2.2.2 (zlj hrm2 hm2)
 rw [hp2] at hs
 have hs:(fndS t [zp,wdI t k2]).isSome=true:=hs
 obtain ⟨j,hj⟩:=Option.isSome_iff_exists.1 hs
 have hjl:=zdP hj
 have hpj:=(zeM hj).2.2
 obtain ⟨r3,hrm3,hm3,hlk3⟩:=hG _ hjl
 rw [hpj] at hm3
 obtain ⟨k3,hk3,hw3⟩:=hlk3.2.1 kIp (by rw [hpj];exact zqJ (zli hrm3 hm3))
 obtain ⟨hl3,hp3⟩:=zcn hr hjl hk3
 rw [hpj,hw3] at hp3
 have hp3:pth t k3.toNat=[zp,wdI t k2,kIp]:=hp3
 obtain ⟨r4,hrm4,hm4,hlk4⟩:=hG _ hl3
 rw [hp3] at hm4
 obtain ⟨k4,hk4⟩:=zdQ (hlk4.1 (znB hrm4 hm4))
 exact ⟨wdI t k2,wdI t k4,hu1,by rw [← hp3,zop hr hl3,hk4];rfl⟩
end
end Go.Proofs.YthcmfnkganacaaaGreatDoor.Vc
