/-
  WHAT THE DOCUMENT's FUNCTIONS ON TREES ANSWER: the same. No condition.
-/
import Derived.Test.YthcmfnkganacaaaGreatDoorB3
import Derived.Test.YthcmfnkganacaaaGreatDoorB4
import Derived.Test.YthcmfnkganacaaaGreatDoorB1
set_option linter.unusedVariables false
set_option linter.unusedSimpArgs false
set_option maxRecDepth 100000
namespace Go.Proofs.YthcmfnkganacaaaGreatDoor.Vc
section
open Go.RowKit
def E31o:(List (Bs×(Int×(Bs×Bs))))→D:=fun x=> .own 79 (.pair tS (.pair tI (.pair tS tS))) x
noncomputable def V31o (N:Nat) (a0:(List (Bs×(Int×(Bs×Bs))))):Vt (List (Bs×(Int×(Bs×Bs)))) (Option D) (fun q=>some (E31o q)):=
 .c1 (P69o N a0) (fun x1=> .cr (zqc N x1) (fun x2=> .cr (P72t N x2) (fun x3=> .leaf x3)))
noncomputable def F31o (N:Nat) (a0:(List (Bs×(Int×(Bs×Bs))))):Option (List (Bs×(Int×(Bs×Bs)))):=(V31o N a0).eval
def t31o:List (Nat×List Nat×List (Nat×Sh)):=[]
theorem P31o (N:Nat) (a0:(List (Bs×(Int×(Bs×Bs))))): ∀ r,F31o N a0=some r→Spec Tryz.prog 31 [.val (.list (.pair tS (.pair tI (.pair tS tS)))) a0] (E31o r):=fun r h=>zk (fn:=Tryz.f31) rfl rfl rfl rfl true (zb (tbl:=t31o) (μ:=[5,9,1000070,2000072]) mixed _ _ _ (by
 have h1:=Vt.sound _ h
 refine Eq.mp ?_ h1
 kernel_rfl))
def E7o:((List (Bs×(Int×(Bs×Bs))))×Int)→D:=fun x=> .tup [.own 79 (.pair tS (.pair tI (.pair tS tS))) x.1,encV tI x.2]
abbrev zeH:List (Nat×Sh):=[(6,.ept (.list tLn)),(7,.row false 48 79 (.pair tS (.pair tI (.pair tS tS)))),(9,.val tS),(27,.row false 27 9 tS),(28,.val tI),(29,.val tI)]
abbrev zbV:List (Nat×Sh):=[(6,.ept (.list tLn)),(7,.row false 48 79 (.pair tS (.pair tI (.pair tS tS)))),(27,.row false 27 9 tS),(28,.val tI),(29,.val tI)]
set_option maxHeartbeats 4000000 in
noncomputable def zkY (N:Nat) (s6:(List Ln)) (s7:(List (Bs×(Int×(Bs×Bs))))) (s9:Bs) (s27:(List Bs)) (s28:Int) (s29:Int):Vt (shTy zbV).I St (fun x=>zh 52 zbV x):=
 .c1 (P27o N s6 s9) (fun x1=> .c1 (P28o N s6 s9) (fun x2=> .c1 (P29o N s6 s9) (fun x3=> .c1 (P30o N s6 s9) (fun x4=> .c1 (P26o N ([x1,x2,x3,x4]:(List (List (Bs×(Int×(Bs×Bs))))))) (fun x5=> .ck (room (s7.length+x5.length)) (.leaf (s6,(s7++x5),s27,s28,s29)))))))
noncomputable def zgB (N:Nat) (x:((List Ln)×(List (Bs×(Int×(Bs×Bs))))×Bs×(List Bs)×Int×Int)):Option (((List Ln)×(List (Bs×(Int×(Bs×Bs))))×(List Bs)×Int×Int)):=(zkY N x.1 x.2.1 x.2.2.1 x.2.2.2.1 x.2.2.2.2.1 x.2.2.2.2.2).eval
set_option maxHeartbeats 4000000 in
theorem zqf (N:Nat) (x:(shTy zeH).I): ∀ o,zgB N x=some o→S Tryz.prog (.region 11 ((zav 11 (zF Tryz.f7)).getD #[]) true) (zh 52 zeH x) (zlw zbV (zh 52 zbV o)):=
 fun o h=>zkl (μ:=[12,27,36,39,42,45,47]) mixed (by kernel_rfl) (by
  have h1:=Vt.sound _ h
  refine Eq.mp ?_ h1
  kernel_rfl)
abbrev zeI:List (Nat×Sh):=[(6,.ept (.list tLn)),(7,.row false 48 79 (.pair tS (.pair tI (.pair tS tS)))),(27,.row false 27 9 tS),(28,.val tI),(29,.val tI)]
noncomputable def b7o_9:Code:=zo 9 (zF Tryz.f7)
noncomputable def zsF (N:Nat) (s6:(List Ln)) (s7:(List (Bs×(Int×(Bs×Bs))))) (s27:(List Bs)) (s28:Int) (s29:Int):Vt (Lp (shTy zeI).I ((List (Bs×(Int×(Bs×Bs))))×Int)) (O3 (Option D)) (encO 52 zeI [1] (fun q=>some (E7o q))):=
 .br (decide (s29<s28)) (.ck (inR s29 s27.length) (.ck (inR s29 s27.length) (.cr (zqf N (s6,s7,(atI tS s27 s29),s27,s28,s29)) (fun x1=> .leaf (.next (x1.1,x1.2.1,x1.2.2.1,x1.2.2.2.1,(IntKind.i64.wrap (x1.2.2.2.2+1)))))))) (.leaf (.brk 0 (s6,s7,s27,s28,s29)))
noncomputable def znl (N:Nat) (s6:(List Ln)) (s7:(List (Bs×(Int×(Bs×Bs))))) (s27:(List Bs)) (s28:Int) (s29:Int):Option (Lp ((List Ln)×(List (Bs×(Int×(Bs×Bs))))×(List Bs)×Int×Int) ((List (Bs×(Int×(Bs×Bs))))×Int)):=(zsF N s6 s7 s27 s28 s29).eval
noncomputable def zqg (N:Nat) (x:((List Ln)×(List (Bs×(Int×(Bs×Bs))))×(List Bs)×Int×Int)):Option (Lp ((List Ln)×(List (Bs×(Int×(Bs×Bs))))×(List Bs)×Int×Int) ((List (Bs×(Int×(Bs×Bs))))×Int)):=zl (fun x=>znl N x.1 x.2.1 x.2.2.1 x.2.2.2.1 x.2.2.2.2) N x
theorem zsG (N:Nat) (x:(shTy zeI).I): ∀ o,zqg N x=some o→S Tryz.prog (.loop b7o_9) (zh 52 zeI x) (zK (rdD Tryz.prog Tryz.f7 true) zeI (encO 52 zeI [1] (fun q=>some (E7o q)) o)):=
 fun o h=>zH (l:=zeI) (step:=fun x=>znl N x.1 x.2.1 x.2.2.1 x.2.2.2.1 x.2.2.2.2) (fun x o h=>zb (tbl:=[(2000011,[],zeH),(3000011,[],zbV)]) (μ:=[12,27,36,39,42,45,47]) mixed _ _ _ (by
  have h1:=Vt.sound _ h
  refine Eq.mp ?_ h1
  kernel_rfl)) N x o h
noncomputable def V7o (N:Nat) (a0:(List Ln)):Vt ((List (Bs×(Int×(Bs×Bs))))×Int) (Option D) (fun q=>some (E7o q)):=
 .c2 (P24o N a0) (fun x1 x2=> .br (x2 !=0) (.leaf (([]:(List (Bs×(Int×(Bs×Bs))))),x2)) (.br (decide ((0:Int)<(x1.length:Int))) (.leaf (([]:(List (Bs×(Int×(Bs×Bs))))),7)) (.c1 (P25o N a0 ([([104,111,115,116,115]:Bs)]:(List Bs))) (fun x3=> .f1 (l:=zeI) (o:=zqg N (a0,([]:(List (Bs×(Int×(Bs×Bs))))),x3,(x3.length:Int),0)) (zsG N (a0,([]:(List (Bs×(Int×(Bs×Bs))))),x3,(x3.length:Int),0)) (fun x4=> .c1 (P31o N x4.2.1) (fun x5=> .leaf (x5,0)))))))
noncomputable def F7o (N:Nat) (a0:(List Ln)):Option ((List (Bs×(Int×(Bs×Bs))))×Int):=(V7o N a0).eval
def t7o:List (Nat×List Nat×List (Nat×Sh)):=[(9,[1],zeI),(2000011,[],zeH),(3000011,[],zbV),(4000006,[],[(6,.ept (.list tLn))])]
theorem P7o (N:Nat) (a0:(List Ln)): ∀ r,F7o N a0=some r→Spec Tryz.prog 7 [.val (.list tLn) a0] (E7o r):=fun r h=>zk (fn:=Tryz.f7) rfl rfl rfl rfl true (zb (tbl:=t7o) (μ:=[12,27,36,39,42,45,47,51]) mixed _ _ _ (by
 have h1:=Vt.sound _ h
 refine Eq.mp ?_ h1
 kernel_rfl))
def E3:Bool→D:=fun x=>encV tB x
abbrev zeJ:List (Nat×Sh):=[(0,.val (.list tLn)),(2,.val (.int .u32)),(7,.row false 28 79 (.pair tS (.pair tI (.pair tS tS)))),(10,.val tS),(11,.val tI),(12,.val tS),(60,.row false 60 9 tS),(61,.val tI),(62,.val tI)]
noncomputable def b3_10:Code:=zo 10 (zF Tryz.f3)
noncomputable def zqh (N:Nat) (s0:(List Ln)) (s2:Int) (s7:(List (Bs×(Int×(Bs×Bs))))) (s10:Bs) (s11:Int) (s12:Bs) (s60:(List Bs)) (s61:Int) (s62:Int):Vt (Lp (shTy zeJ).I Bool) (O3 (Option D)) (encO 143 zeJ [0] (fun q=>some (E3 q))):=
 .br (decide (s62<s61)) (.ck (inR s62 s60.length) (.ck (inR s62 s60.length) (.c2 (P9 N (atI tS s60 s62)) (fun x1 x2=> .c1 (P10 N x1 x2 (IntKind.i64.wrap s2)) (fun x3=> .br (!x3) (.leaf (.next (s0,s2,s7,s10,s11,s12,s60,s61,(IntKind.i64.wrap (s62+1))))) (.br (decide (x2≤s11)) (.leaf (.next (s0,s2,s7,s10,s11,s12,s60,s61,(IntKind.i64.wrap (s62+1))))) (.c1 (P8o N s0 ([([114,111,117,116,101,115]:Bs),(atI tS s60 s62),([118,105,97]:Bs)]:(List Bs))) (fun x4=> .c1 (P8o N s0 ([([114,111,117,116,101,115]:Bs),(atI tS s60 s62),([109,101,116,114,105,99]:Bs)]:(List Bs))) (fun x5=> .ck (room (x5.length+([([48]:Bs)]:(List Bs)).length)) (.br ((x4.length:Int) !=1) (.leaf (.ret false)) (.ck (inR 0 x4.length) (.ck (inR 0 x4.length) (.c1 (P8o N s0 ([([104,111,115,116,115]:Bs),(atI tS x4 0),([105,112]:Bs)]:(List Bs))) (fun x6=> .br ((x6.length:Int) !=1) (.leaf (.ret false)) (.ck (inR 0 x6.length) (.ck (inR 0 x6.length) (.ck (room ((atI tS x6 0).length+([32]:Bs).length)) (.ck (inR 0 (x5++([([48]:Bs)]:(List Bs))).length) (.ck (inR 0 (x5++([([48]:Bs)]:(List Bs))).length) (.ck (room (((atI tS x6 0)++([32]:Bs)).length+(atI tS (x5++([([48]:Bs)]:(List Bs))) 0).length)) (.ck (inR 0 x4.length) (.ck (inR 0 x4.length) (.br ((atI tS x4 0)==s10) (.ck (inR 0 (x5++([([48]:Bs)]:(List Bs))).length) (.ck (inR 0 (x5++([([48]:Bs)]:(List Bs))).length) (.ck (room (([108,111,99,97,108,32]:Bs).length+(atI tS (x5++([([48]:Bs)]:(List Bs))) 0).length)) (.leaf (.next (s0,s2,s7,s10,x2,(([108,111,99,97,108,32]:Bs)++(atI tS (x5++([([48]:Bs)]:(List Bs))) 0)),s60,s61,(IntKind.i64.wrap (s62+1)))))))) (.leaf (.next (s0,s2,s7,s10,x2,(((atI tS x6 0)++([32]:Bs))++(atI tS (x5++([([48]:Bs)]:(List Bs))) 0)),s60,s61,(IntKind.i64.wrap (s62+1)))))))))))))))))))))))))))) (.leaf (.brk 0 (s0,s2,s7,s10,s11,s12,s60,s61,s62)))
noncomputable def zkZ (N:Nat) (s0:(List Ln)) (s2:Int) (s7:(List (Bs×(Int×(Bs×Bs))))) (s10:Bs) (s11:Int) (s12:Bs) (s60:(List Bs)) (s61:Int) (s62:Int):Option (Lp ((List Ln)×Int×(List (Bs×(Int×(Bs×Bs))))×Bs×Int×Bs×(List Bs)×Int×Int) Bool):=(zqh N s0 s2 s7 s10 s11 s12 s60 s61 s62).eval
noncomputable def zqi (N:Nat) (x:((List Ln)×Int×(List (Bs×(Int×(Bs×Bs))))×Bs×Int×Bs×(List Bs)×Int×Int)):Option (Lp ((List Ln)×Int×(List (Bs×(Int×(Bs×Bs))))×Bs×Int×Bs×(List Bs)×Int×Int) Bool):=zl (fun x=>zkZ N x.1 x.2.1 x.2.2.1 x.2.2.2.1 x.2.2.2.2.1 x.2.2.2.2.2.1 x.2.2.2.2.2.2.1 x.2.2.2.2.2.2.2.1 x.2.2.2.2.2.2.2.2) N x
theorem zsH (N:Nat) (x:(shTy zeJ).I): ∀ o,zqi N x=some o→S Tryz.prog (.loop b3_10) (zh 143 zeJ x) (zK (rdD Tryz.prog Tryz.f3 false) zeJ (encO 143 zeJ [0] (fun q=>some (E3 q)) o)):=
 fun o h=>zH (l:=zeJ) (step:=fun x=>zkZ N x.1 x.2.1 x.2.2.1 x.2.2.2.1 x.2.2.2.2.1 x.2.2.2.2.2.1 x.2.2.2.2.2.2.1 x.2.2.2.2.2.2.2.1 x.2.2.2.2.2.2.2.2) (fun x o h=>zb (tbl:=[]) (μ:=[28,33,60,85,89,100]) mixed _ _ _ (by
  have h1:=Vt.sound _ h
  refine Eq.mp ?_ h1
  kernel_rfl)) N x o h
noncomputable def V3 (N:Nat) (a0:(List Ln)) (a1:Int) (a2:Int):Vt Bool (Option D) (fun q=>some (E3 q)):=
 .c1 (P5 N a0) (fun x1=> .br (!x1) (.c1 (P6 N) (fun x2=> .leaf x2)) (.c2 (P7o N a0) (fun x3 x4=> .c1 (P8o N a0 ([([104,111,115,116,115]:Bs)]:(List Bs))) (fun x5=> .br (x4 !=0) (.br (x4==0) (.c1 (P6 N) (fun x6=> .leaf x6)) (.br (x4==7) (.c1 (P6 N) (fun x7=> .leaf x7)) (.leaf false))) (.br ((x5.length:Int)==0) (.br (x4==0) (.c1 (P6 N) (fun x8=> .leaf x8)) (.br (x4==7) (.c1 (P6 N) (fun x9=> .leaf x9)) (.leaf false))) (.ck ((x5.length:Int)≠0) (.ck (inR ((IntKind.i64.wrap a1).tmod (x5.length:Int)) x5.length) (.ck (inR ((IntKind.i64.wrap a1).tmod (x5.length:Int)) x5.length) (.c1 (P8o N a0 ([([114,111,117,116,101,115]:Bs)]:(List Bs))) (fun x10=> .f1 (l:=zeJ) (o:=zqi N (a0,a2,x3,(atI tS x5 ((IntKind.i64.wrap a1).tmod (x5.length:Int))),(-1),([]:Bs),x10,(x10.length:Int),0)) (zsH N (a0,a2,x3,(atI tS x5 ((IntKind.i64.wrap a1).tmod (x5.length:Int))),(-1),([]:Bs),x10,(x10.length:Int),0)) (fun x11=> .c2 (P11 N x11.2.2.1 x11.2.2.2.1 (IntKind.i64.wrap x11.2.1)) (fun x12 x13=> .br (x12==x11.2.2.2.2.2.1) (.br (x13==(decide ((0:Int)≤x11.2.2.2.2.1))) (.c1 (P6 N) (fun x14=> .leaf x14)) (.leaf false)) (.leaf false)))))))))))))
noncomputable def F3 (N:Nat) (a0:(List Ln)) (a1:Int) (a2:Int):Option Bool:=(V3 N a0 a1 a2).eval
def t3:List (Nat×List Nat×List (Nat×Sh)):=[(10,[0],zeJ)]
theorem P3 (N:Nat) (a0:(List Ln)) (a1:Int) (a2:Int): ∀ r,F3 N a0 a1 a2=some r→Spec Tryz.prog 3 [.val (.list tLn) a0,.val (.int .u8) a1,.val (.int .u32) a2] (E3 r):=fun r h=>zk (fn:=Tryz.f3) rfl rfl rfl rfl false (zb (tbl:=t3) (μ:=[28,33,60,85,89,100]) mixed _ _ _ (by
 have h1:=Vt.sound _ h
 refine Eq.mp ?_ h1
 kernel_rfl))
end
section
theorem zaM (t:List Ln) (i:Int):atI tLn t i=t.getD i.toNat (0,[],0):=rfl
theorem drop_cons (t:List Ln) {i:Int} (h0:0≤i) (h:i<t.length):t.drop i.toNat=atI tLn t i::t.drop (i+1).toNat:=by
 rw [List.drop_eq_getElem_cons (by omega:i.toNat<t.length),show (i+1).toNat=i.toNat+1 by omega]
 congr 1
 rw [zaM];simp [show i.toNat<t.length by omega]
theorem zqj (N:Nat) (l:Ln):F113 N l=some (snd l):=by
 unfold F113 V113 snd
 simp only [zi,ze,decide_eq_true_eq]
 repeat' split
 all_goals simp [*]
 all_goals omega
theorem zqk (N:Nat) (t:List Ln) (hN:t.length<N) (h200:t.length≤200): ∃ o,zpy N (([([]:Bs),[],[],[],[],[],[],[],[],[],[],[],[],[],[],[]]:List Bs),(-1),t,(t.length:Int),0)=some o∧
  ((∃ x,o= .brk 0 x∧rf [] t=true)∨(o= .ret false∧rf [] t=false)):=by
 refine zA (R:=Bool) (step:=fun x=>zkn N x.1 x.2.1 x.2.2.1 x.2.2.2.1 x.2.2.2.2)
  (fun x=>x.2.2.1=t∧x.2.2.2.1=(t.length:Int)∧0≤x.2.2.2.2∧x.2.2.2.2≤t.length∧x.1.length=16∧ ∃ p:List Bs,p.length≤16∧x.2.1=(p.length:Int) - 1∧x.1.take p.length=p∧rf p (t.drop x.2.2.2.2.toNat)=rf [] t)
  (fun x=>(t.length - x.2.2.2.2).toNat) _
  (fun x hx=> ?_) N _ ⟨rfl,rfl,by simp,by simp,rfl,[],by simp,rfl,rfl,rfl⟩ (by simpa using hN)
 obtain ⟨last,depth,t',n,i⟩:=x
 obtain ⟨h1,h2,h0,hle,hlen,p,hp16,hdp,htk,hrf⟩:=hx
 dsimp only at h1 h2 h0 hle hlen hp16 hdp htk hrf ⊢
 subst h1;subst h2
 by_cases hi:i<t'.length
 ·rw [drop_cons t' h0 hi] at hrf
  have hin:inR i t'.length:=⟨h0,hi⟩
  obtain ⟨l,hl⟩: ∃ l:Ln,atI tLn t' i=l:=⟨_,rfl⟩
  rw [hl] at hrf
  unfold zkn zpx
  simp (disch:=first | assumption | omega) only [zi,ze,zm,zn,decide_eq_true_eq,hi,if_true,zqj,hl,za,Bool.not_eq_true']
  by_cases hs:snd l=true
  ·obtain ⟨s1,s2,s3,s4,s5⟩:=zJ.1 hs
   simp only [hs,Bool.true_eq_false,if_false]
   rw [zz (by omega) (by omega)]
   have hd:inR l.1 16:=⟨s1,s2⟩
   have hd2:inR l.1 last.length:=by rw [hlen];exact hd
   have good:l.1≤p.length→(l.1=p.length∨bl (p.getD l.1.toNat []) l.2.1=true)→
     (∀ y,y=(last.set l.1.toNat l.2.1,l.1,t',(t'.length:Int),IntKind.i64.wrap (i+1))→((y.2.2.1=t' ∧y.2.2.2.1=(t'.length:Int)∧0≤y.2.2.2.2∧y.2.2.2.2≤t'.length∧y.1.length=16∧
      ∃ p:List Bs,p.length≤16∧y.2.1=(p.length:Int) - 1∧y.1.take p.length=p∧rf p (t'.drop y.2.2.2.2.toNat)=rf [] t')∧(t'.length - y.2.2.2.2).toNat<(t'.length - i).toNat)):=by
    intro hg1 hg2 y hy
    subst hy
    rw [zz (by omega) (by omega)]
    have hn:=zag s1 hg1
    refine ⟨⟨rfl,rfl,by simp;omega,by simp;omega,by simp [hlen],nx p l,by rw [hn];omega,by rw [hn];simp;omega,?_,?_⟩,by simp;omega⟩
    ·rw [hn]
     unfold nx
     simp only
     rw [List.take_succ_eq_append_getElem (by simp [hlen];omega),List.take_set_of_le (by omega)]
     congr 1
     ·rw [← htk,List.take_take,Nat.min_eq_left (by omega)]
     ·simp
    ·simp only
     rw [← hrf]
     rw [rf,hs,Bool.true_and,decide_eq_true hg1,Bool.true_and]
     rcases hg2 with hg2 | hg2
     ·rw [decide_eq_true hg2];simp
     ·rw [hg2];simp
   by_cases hg1:(depth+1:Int)<l.1
   ·refine ⟨_,by simp [hg1],.inr ⟨by simp,.inr ⟨rfl,?_⟩⟩⟩
    rw [← hrf,rf,decide_eq_false (show ¬ l.1≤(p.length:Int) by omega)];simp
   ·rw [if_neg hg1]
    by_cases hg2:l.1≤depth
    ·rw [if_pos hg2]
     have hat:atI tS last l.1=p.getD l.1.toNat []:=by
      show last.getD _ _=_
      rw [← htk,List.getD_eq_getElem?_getD,List.getD_eq_getElem?_getD,List.getElem?_take_of_lt (by omega)];rfl
     rw [hat,zhn]
     by_cases hb:bl (p.getD l.1.toNat []) l.2.1=true
     ·rw [show Op.bytesLess (p.getD l.1.toNat []) l.2.1=true from hb]
      simp (disch:=first | assumption | omega) only [zi,ze,zn,Bool.not_true,Bool.false_eq_true,if_false]
      have:=good (by omega) (.inr hb) _ rfl
      exact ⟨_,rfl,.inl ⟨_,rfl,this.1,this.2⟩⟩
     ·have hb' :Op.bytesLess (p.getD l.1.toNat []) l.2.1=false:=by simpa using hb
      rw [hb']
      refine ⟨.ret false,?_,.inr ⟨by simp,.inr ⟨rfl,?_⟩⟩⟩
      ·simp (disch:=first | assumption | omega) only [zi,ze,zn,Bool.not_false,if_true]
      ·rw [← hrf,rf]
       have:decide (l.1=(p.length:Int))=false:=by simp;omega
       rw [this,show bl (p.getD l.1.toNat []) l.2.1=false from hb'];simp
    ·rw [if_neg hg2]
     simp (disch:=first | assumption | omega) only [ze,zn]
     have:=good (by omega) (.inl (by omega)) _ rfl
     exact ⟨_,rfl,.inl ⟨_,rfl,this.1,this.2⟩⟩
  ·refine ⟨_,by simp [hs],.inr ⟨by simp,.inr ⟨rfl,?_⟩⟩⟩
   rw [← hrf];simp [rf,hs]
 ·refine ⟨.brk 0 (last,depth,t',(t'.length:Int),i),?_,.inr ⟨by simp,.inl ⟨_,rfl,?_⟩⟩⟩
  ·simp [zkn,zpx,hi]
  ·rw [← hrf,List.drop_of_length_le (by omega)];rfl
theorem zeK (N:Nat) (t:List Ln) (hN:t.length<N):F56 N t=some (zE t):=by
 unfold F56 V56 zE
 simp only [zi,ze,decide_eq_true_eq,zB]
 by_cases h200:(200:Int)<t.length
 ·rw [if_pos h200];simp;omega
 ·rw [if_neg h200]
  have hd:decide (t.length≤200)=true:=by simp;omega
  rw [hd,Bool.true_and]
  obtain ⟨o,ho,⟨x,rfl,h⟩ | ⟨rfl,h⟩⟩:=zqk N t hN (by omega)
  ·rw [ho,h];rfl
  ·rw [ho,h];rfl
theorem zql (N:Nat) (a b:List Bs) (hN:a.length<N) (hm:a.length≤maxLen):F73 N a b=some (decide (a=b)):=by
 unfold F73 V73
 simp only [zi,ze,zB,bne_iff_ne,ne_eq]
 by_cases hl:(a.length:Int)=b.length
 ·rw [if_neg (by simpa using hl)]
  have:=zee (R:=Bool) (step:=fun x=>zm4 N x.1 x.2.1 x.2.2) a.length (fun i=>a.getD i []==b.getD i []) (fun i=>(a,b,i)) false (fun i h0 hi=>by
   unfold zm4 zsi
   by_cases h:i<a.length
   ·have h1:inR i a.length:=⟨h0,h⟩
    have h2:inR i b.length:=⟨h0,by omega⟩
    simp (disch:=first | assumption | (unfold maxLen at hm;omega)) only [zi,ze,zn,decide_eq_true_eq,h,if_true,zz]
    exact zfn (a.getD i.toNat []==b.getD i.toNat []) _ _
   ·simp [h]) N hN
  unfold zpV
  rw [this]
  by_cases he:a=b
  ·rw [if_pos ((zdI [] (by omega)).2 he)];simp [he]
  ·rw [if_neg (fun h=>he ((zdI [] (by omega)).1 h))];simp [he]
 ·rw [if_pos (by simpa using hl)]
  have:a≠b:=fun h=>hl (by rw [h])
  simp [this]
def zoh (t:List Ln):Bool:=decide (t.length≤220)&&t.all fun l=>decide (l.2.1.length≤100)
theorem zqm (N:Nat) (t:List Ln) (hN:220<N):F21 N t=some (zoh t):=by
 unfold F21 V21 zoh
 simp only [zi,ze,zB,decide_eq_true_eq]
 by_cases hl:(220:Int)<t.length
 ·rw [if_pos hl];simp;omega
 ·rw [if_neg hl,decide_eq_true (by omega),Bool.true_and]
  have:=zee (R:=Bool) (step:=fun x=>zmK N x.1 x.2) t.length (fun i=>decide ((t.getD i (0,[],0)).2.1.length≤100)) (fun i=>(t,i)) false (fun i h0 hi=>by
   unfold zmK zrN
   by_cases h:i<t.length
   ·have h1:inR i t.length:=⟨h0,h⟩
    simp (disch:=first | assumption | omega) only [zi,ze,zn,decide_eq_true_eq,h,if_true,zz]
    show (if (100:Int)<((t.getD i.toNat (0,[],0)).2.1.length:Int) then _ else _)=_
    by_cases he:(t.getD i.toNat (0,[],0)).2.1.length≤100
    ·rw [if_neg (by omega),if_pos he]
    ·rw [if_pos (by omega),if_neg he]
   ·simp [h]) N (by omega)
  unfold zpt
  rw [this,zmG (0,[],0) (fun l:Ln=>decide (l.2.1.length≤100))]
  cases t.all fun l=>decide (l.2.1.length≤100)<;>simp
def qY (t:List Ln) (i:Int):Bool:=decide (0≤i)&&(decide (i<t.length)&&zE t)
theorem qd {t:List Ln} {i:Int}:qY t i=true↔0≤i∧i<t.length∧zE t=true:=by simp [qY]
theorem zgC (N:Nat) (t:List Ln) (i:Int) (hN:t.length<N):F117 N t i=some (qY t i):=by
 unfold F117 V117 qY
 simp only [zi,ze,zm,decide_eq_true_eq,zeK N t hN,za]
 by_cases h0:0≤i<;>by_cases h1:i<t.length<;>simp [h0,h1]
theorem zqn (N:Nat) (t:List Ln) (i:Int) (hN:t.length<N):F118 N t i=some (if qY t i=true then yn t i.toNat else -1):=by
 unfold F118 V118
 simp only [zi,ze,zm,zB,zgC N t i hN,za,Bool.not_eq_true']
 by_cases ht:qY t i=true
 ·simp only [ht,Bool.true_eq_false,if_false,if_true]
  obtain ⟨h0,h1,hr⟩:=qd.1 ht
  have h200:=(zC.1 hr).1
  obtain ⟨o,ho,hp⟩:=zA (R:=Int) (step:=fun x=>zht N x.1 x.2.1 x.2.2)
   (fun x=>x.1=t∧x.2.1=i∧ -1≤x.2.2∧x.2.2≤i∧unS t (t.getD i.toNat (0,[],0)).1 (x.2.2+1).toNat=yn t i.toNat) (fun x=>(x.2.2+1).toNat) (fun o=>o= .brk 0 (t,i,yn t i.toNat))
   (by
    rintro ⟨t',i',k⟩ ⟨e1,e2,hk0,hki,hu⟩
    dsimp only at e1 e2 hk0 hki hu ⊢
    subst e1;subst e2
    unfold zht zn4
    by_cases hk:0≤k
    ·have h2:inR k t'.length:=⟨hk,by omega⟩
     have h3:inR i' t'.length:=⟨h0,h1⟩
     rw [show (k+1).toNat=k.toNat+1 by omega] at hu
     unfold unS at hu
     simp (disch:=first | assumption | omega) only [zi,ze,zn,decide_eq_true_eq,hk,if_true,zz]
     show ∃ o,(if (t'.getD i'.toNat (0,[],0)).1≤(t'.getD k.toNat (0,[],0)).1 then _ else _)=_∧_
     split at hu
     ·rename_i hlt
      rw [if_neg (by omega)]
      refine ⟨_,rfl,.inr ⟨by simp,?_⟩⟩
      rw [← hu,Int.toNat_of_nonneg hk]
     ·rename_i hge
      rw [if_pos (by omega)]
      refine ⟨_,rfl,.inl ⟨_,rfl,⟨rfl,rfl,by simp;omega,by simp;omega,?_⟩,by simp;omega⟩⟩
      simp only
      rw [show (k - 1+1).toNat=k.toNat by omega];exact hu
    ·refine ⟨.brk 0 (t',i',k),by simp [hk],.inr ⟨by simp,?_⟩⟩
     have:k= -1:=by omega
     subst this
     rw [show ((-1:Int)+1).toNat=0 from rfl] at hu
     rw [← hu];rfl) N (t,i,i) ⟨rfl,rfl,by simp;omega,Int.le_refl _,by
      simp only;rw [show (i+1).toNat=i.toNat+1 by omega];unfold yn;rw [unS,if_neg (by omega)]⟩ (by simp;omega)
  unfold zko
  rw [ho,hp];rfl
 ·simp [ht]
theorem zsI (N:Nat) (t:List Ln) (i:Int) (hN:t.length<N):F61 N t i=some (if qY t i=true then (endN t i.toNat:Int) else 0):=by
 unfold F61 V61
 simp only [zi,ze,zm,zB,zgC N t i hN,za,Bool.not_eq_true']
 by_cases ht:qY t i=true
 ·simp only [ht,Bool.true_eq_false,if_false,if_true]
  obtain ⟨h0,h1,hr⟩:=qd.1 ht
  have h200:=(zC.1 hr).1
  rw [zz (by omega) (by omega)]
  obtain ⟨o,ho,hp⟩:=zA (R:=Int) (step:=fun x=>zmV N x.1 x.2.1 x.2.2)
   (fun x=>x.1=t∧x.2.1=i∧0≤x.2.2∧x.2.2≤t.length∧x.2.2.toNat+cntD (t.getD i.toNat (0,[],0)).1 (t.drop x.2.2.toNat)=endN t i.toNat) (fun x=>(t.length - x.2.2).toNat) (fun o=>o= .brk 0 (t,i,(endN t i.toNat:Int)))
   (by
    rintro ⟨t',i',k⟩ ⟨e1,e2,hk0,hki,hu⟩
    dsimp only at e1 e2 hk0 hki hu ⊢
    subst e1;subst e2
    unfold zmV zr1
    by_cases hk:k<t'.length
    ·have h2:inR k t'.length:=⟨hk0,by omega⟩
     have h3:inR i' t'.length:=⟨h0,h1⟩
     rw [drop_cons t' hk0 hk,cntD] at hu
     simp (disch:=first | assumption | omega) only [zi,ze,zn,decide_eq_true_eq,hk,if_true,zz]
     show ∃ o,(if (t'.getD i'.toNat (0,[],0)).1<(atI tLn t' k).1 then _ else _)=_∧_
     split at hu
     ·rename_i hlt
      rw [if_pos hlt]
      exact ⟨_,rfl,.inl ⟨_,rfl,⟨rfl,rfl,by simp;omega,by simp;omega,by simp only;omega⟩,by simp;omega⟩⟩
     ·rename_i hge
      rw [if_neg hge]
      refine ⟨_,rfl,.inr ⟨by simp,?_⟩⟩
      rw [← hu,Nat.add_zero,Int.toNat_of_nonneg hk0]
    ·refine ⟨.brk 0 (t',i',k),by simp [hk],.inr ⟨by simp,?_⟩⟩
     rw [List.drop_of_length_le (by omega)] at hu
     rw [← hu,cntD,Nat.add_zero,Int.toNat_of_nonneg hk0]) N (t,i,i+1) ⟨rfl,rfl,by simp;omega,by simp;omega,by
      simp only;rw [show (i+1).toNat=i.toNat+1 by omega];rfl⟩ (by simp;omega)
  unfold zpE
  rw [ho,hp];rfl
 ·simp [ht]
end
section
theorem zbt (p:Nat→Bool) {a e n:Nat} (h1:a≤e) (h2:e≤n) (hp: ∀ k,k<n→p k=true→a≤k∧k<e):(List.range n).filter p=(List.range' a (e - a)).filter p:=by
 rw [List.range_eq_range']
 have e1:List.range' 0 n=List.range' 0 a++(List.range' a (e - a)++List.range' e (n - e)):=by
  rw [show List.range' e (n - e)=List.range' (a+1*(e - a)) (n - e) by congr 1;omega,List.range'_append,
   show List.range' a (e - a+(n - e))=List.range' (0+1*a) (e - a+(n - e)) by congr 1;omega,List.range'_append]
  congr 1;omega
 rw [e1,List.filter_append,List.filter_append]
 have f1:(List.range' 0 a).filter p=[]:=by
  rw [List.filter_eq_nil_iff]
  intro k hk hpk
  rw [List.mem_range'_1] at hk
  have:=hp k (by omega) hpk
  omega
 have f2:(List.range' e (n - e)).filter p=[]:=by
  rw [List.filter_eq_nil_iff]
  intro k hk hpk
  rw [List.mem_range'_1] at hk
  have:=hp k (by omega) hpk
  omega
 rw [f1,f2];simp
def zI (t:List Ln) (i:Int):List Int:=((List.range t.length).filter fun k=>yn t k==i).map fun k:Nat=>(k:Int)
def fndS (t:List Ln) (q:List Bs):Option Nat:=if zE t=true then (pths [] t).findIdx? (· ==q) else none
theorem znm {t:List Ln} {q:List Bs}:q∈pths [] t↔ ∃ i,i<t.length∧pth t i=q:=by
 constructor
 ·intro h
  obtain ⟨i,hi⟩:=List.getElem?_of_mem h
  have hl:i<t.length:=by have:=(List.getElem?_eq_some_iff.1 hi).1;simpa using this
  exact ⟨i,hl,by unfold pth;rw [List.getD_eq_getElem?_getD,hi];rfl⟩
 ·rintro ⟨i,hi,rfl⟩
  unfold pth
  rw [List.getD_eq_getElem?_getD,List.getElem?_eq_getElem (by simpa using hi)]
  exact List.getElem_mem _
theorem zqo {t:List Ln} (h:rf [] t=true) {i j:Nat} (hi:i<t.length) (hj:j<t.length) (he:pth t i=pth t j):i=j:=by
 have hn:=zdN t [] h
 unfold pth at he
 rw [List.getD_eq_getElem?_getD,List.getD_eq_getElem?_getD,List.getElem?_eq_getElem (by simpa using hi),List.getElem?_eq_getElem (by simpa using hj)] at he
 exact (List.getElem_inj hn).1 (by simpa using he)
theorem zeL {t:List Ln} (h:zE t=true) {q:List Bs} {i:Nat} (hi:i<t.length) (he:pth t i=q):fndS t q=some i:=by
 unfold fndS
 rw [if_pos h,List.findIdx?_eq_some_iff_getElem]
 have hr:=(zC.1 h).2
 have hget: ∀ k (hk:k<(pths [] t).length),(pths [] t)[k]=pth t k:=fun k hk=>by unfold pth;rw [List.getD_eq_getElem?_getD,List.getElem?_eq_getElem hk];rfl
 refine ⟨by simpa using hi,by rw [hget];simpa using he,fun j hj=> ?_⟩
 rw [hget j (by simp;omega)]
 simp only [beq_iff_eq]
 intro e
 have:=zqo hr (by omega) hi (e.trans he.symm)
 omega
theorem zcl {t:List Ln} {q:List Bs} (he: ∀ i,i<t.length→pth t i≠q):fndS t q=none:=by
 unfold fndS
 split
 ·rw [List.findIdx?_eq_none_iff]
  intro x hx
  obtain ⟨i,hi,rfl⟩:=znm.1 hx
  simpa using he i hi
 ·rfl
theorem zeM {t:List Ln} {q:List Bs} {i:Nat} (h:fndS t q=some i):zE t=true∧i<t.length∧pth t i=q:=by
 unfold fndS at h
 split at h
 ·rename_i hr
  rw [List.findIdx?_eq_some_iff_getElem] at h
  obtain ⟨h1,h2,_⟩:=h
  refine ⟨hr,by simpa using h1,?_⟩
  unfold pth
  rw [List.getD_eq_getElem?_getD,List.getElem?_eq_getElem h1]
  simpa using h2
 ·cases h
theorem zoi (N:Nat) (t:List Ln) (i:Int) (hN:t.length<N):F58o N t i=some (if qY t i=true then (pth t i.toNat,0) else ([],1)):=by
 unfold F58o V58o
 simp only [zi,ze,zm,zB,zgC N t i hN,za,Bool.not_eq_true']
 by_cases ht:qY t i=true
 ·simp only [ht,Bool.true_eq_false,if_false,if_true]
  obtain ⟨h0,h1,hr⟩:=qd.1 ht
  obtain ⟨h200,hrf⟩:=zC.1 hr
  have h16:(pth t i.toNat).length≤16:=by
   have hi:i.toNat<t.length:=by omega
   rw [zah hrf hi];have:=zJ.1 (jR hrf hi).1;omega
  obtain ⟨o,ho,hp⟩:=zA (R:=List Bs×Int) (step:=fun x=>zhu N x.1 x.2.1 x.2.2)
   (fun x=>x.1=t∧ -1≤x.2.2∧x.2.2<t.length∧(0≤x.2.2→pth t x.2.2.toNat++x.2.1.reverse=pth t i.toNat)∧(x.2.2= -1→x.2.1.reverse=pth t i.toNat)) (fun x=>(x.2.2+1).toNat)
   (fun o=>o= .brk 0 (t,(pth t i.toNat).reverse,-1))
   (by
    rintro ⟨t',out,k⟩ ⟨e1,hk0,hki,hu1,hu2⟩
    dsimp only at e1 hk0 hki hu1 hu2 ⊢
    subst e1
    unfold zhu zn5
    by_cases hk:0≤k
    ·have hu:=hu1 hk
     have hkl:k.toNat<t'.length:=by omega
     have h2:inR k t'.length:=⟨hk,by omega⟩
     have hlen:out.length≤16:=by
      have:=congrArg List.length hu
      simp at this;omega
     have hroom:room (out.length+([(atI tLn t' k).2.1]:List Bs).length):=by show _≤_;simp;omega
     have htk:qY t' k=true:=qd.2 ⟨hk,hki,hr⟩
     simp (disch:=first | assumption | omega) only [zi,ze,zn,zm,decide_eq_true_eq,hk,if_true,zqn N t' k hN,htk,za]
     refine ⟨_,rfl,.inl ⟨_,rfl,?_⟩⟩
     have hw:(atI tLn t' k).2.1=(t'[k.toNat]).2.1:=by rw [zaM,zt t' hkl]
     have hlt:=zkM t' (t'.getD k.toNat (0,[],0)).1 k.toNat
     have hge:=zkN t' (t'.getD k.toNat (0,[],0)).1 k.toNat
     have hun:yn t' k.toNat=unS t' (t'.getD k.toNat (0,[],0)).1 k.toNat:=rfl
     refine ⟨⟨rfl,by simp only;omega,by simp only;omega,fun h=> ?_,fun h=> ?_⟩,by simp only;omega⟩
     ·simp only at h ⊢
      rcases ju hrf hkl with ⟨_,hn,_⟩ | ⟨_,u,hn,_,hp,_⟩
      ·omega
      ·rw [hn,hw,List.reverse_append]
       simp only [List.reverse_cons,List.reverse_nil,List.nil_append]
       rw [← hu,hp];simp
     ·simp only at h ⊢
      rcases ju hrf hkl with ⟨_,hn,hp⟩ | ⟨_,u,hn,_⟩
      ·rw [hw,List.reverse_append]
       simp only [List.reverse_cons,List.reverse_nil,List.nil_append]
       rw [← hu,hp]
      ·omega
    ·refine ⟨.brk 0 (t',out,k),by simp [hk],.inr ⟨by simp,?_⟩⟩
     have:k= -1:=by omega
     subst this
     rw [← hu2 rfl,List.reverse_reverse]) N (t,[],i) ⟨rfl,by simp only;omega,h1,fun _=>by simp,fun h=>by simp only at h;omega⟩ (by simp only;omega)
  unfold zkp
  rw [ho,hp]
  simp [zpr]
 ·simp [ht]
theorem zoj (N:Nat) (t:List Ln) (d:Int) (a e:Nat) (hae:a≤e) (het:e≤t.length) (h200:t.length≤200) (hN:t.length<N):
  zfp N (t,(e:Int),d,[],(a:Int))=some (.brk 0 (t,(e:Int),d,((List.range' a (e - a)).filter fun k=>(t.getD k (0,[],0)).1==d).map (fun k:Nat=>(k:Int)),(e:Int))):=by
 unfold zfp
 have:=zfm (R:=List Int) (step:=fun x=>zhB N x.1 x.2.1 x.2.2.1 x.2.2.2.1 x.2.2.2.2) e
  (fun (out:List Int) k=>if ((t.getD k (0,[],0)).1==d)=true then out++[(k:Int)] else out) (fun out k=>(t,(e:Int),d,out,k))
  (fun out k=>out.length≤k) (fun out k hI hk=>by
   show (if _ then _ else _:List Int).length≤_
   split
   ·simp;omega
   ·omega) (fun out k hI hk=>by
   unfold zhB zn7
   by_cases h:k<e
   ·have hk' :(k:Int)<e:=by omega
    have c1:inR (k:Int) t.length:=⟨by omega,by omega⟩
    have hroom:room (out.length+([(k:Int)]:List Int).length):=by show _≤_;simp;omega
    simp (disch:=first | assumption | omega) only [zi,ze,zn,decide_eq_true_eq,hk',if_true,h,zz]
    show (if ((t.getD k (0,[],0)).1==d)=true then _ else _)=_
    split<;>rfl
   ·have hk' : ¬ (k:Int)<e:=by omega
    simp [hk',h]) [] a (by simp) hae N (by omega)
 rw [this,zdH]
 simp
theorem zsJ (N:Nat) (t:List Ln) (i:Int) (hN:t.length<N):F64o N t i=some (if zE t=true∧ -1≤i∧i<t.length then zI t i else []):=by
 unfold F64o V64o
 simp only [zi,ze,zm,zeK N t hN,za,Bool.not_eq_true',decide_eq_true_eq,zB]
 by_cases hr:zE t=true
 ·obtain ⟨h200,hrf⟩:=zC.1 hr
  simp only [hr,Bool.true_eq_false,if_false,true_and]
  by_cases h1:i< -1
  ·rw [if_pos h1,if_neg (by omega)]
  ·rw [if_neg h1]
   by_cases h2:(t.length:Int)≤i
   ·rw [if_pos h2,if_neg (by omega)]
   ·rw [if_neg h2]
    have hrhs:(if -1≤i∧i<(t.length:Int) then zI t i else [])=zI t i:=if_pos ⟨by omega,by omega⟩
    rw [hrhs]
    by_cases h3:0≤i
    ·rw [if_pos h3]
     have htk:qY t i=true:=qd.2 ⟨h3,by omega,hr⟩
     have hil:i.toNat<t.length:=by omega
     have c1:inR i t.length:=⟨h3,by omega⟩
     simp (disch:=first | assumption | omega) only [zsI N t i hN,htk,if_true,za,zn,zB,ze]
     have hb:=zJ.1 (jR hrf hil).1
     have hd:(atI tLn t i).1=(t[i.toNat]).1:=by rw [zaM,zt t hil]
     rw [hd,zz (by omega) (by omega),zz (by omega) (by omega)]
     have he2:=zgv t i.toNat
     have:=zoj N t ((t[i.toNat]).1+1) (i.toNat+1) (endN t i.toNat) (by omega) (zez t hil) h200 hN
     rw [show ((i.toNat+1:Nat):Int)=i+1 by omega] at this
     rw [this,yX]
     simp only [Option.some.injEq]
     unfold zI
     have hbe: ∀ k,k<t.length→(yn t k==i)=true→i.toNat+1≤k∧k<endN t i.toNat:=fun k hk hku=>by
      have:yn t k=(i.toNat:Int):=by rw [beq_iff_eq.1 hku];omega
      have:=(zeA hrf hil hk).1 this
      omega
     rw [zbt _ (show i.toNat+1≤endN t i.toNat by omega) (zez t hil) hbe]
     congr 1
     apply List.filter_congr
     intro k hk
     rw [List.mem_range'_1] at hk
     have hkl:k<t.length:=by have:=zez t hil;omega
     have hi' :(i.toNat:Int)=i:=by omega
     have hk2:=zeA hrf hil hkl
     rw [hi'] at hk2
     rw [Bool.eq_iff_iff,beq_iff_eq,beq_iff_eq,hk2,zt t hkl]
     constructor
     ·intro h;exact ⟨by omega,by omega,h⟩
     ·intro h;exact h.2.2
    ·rw [if_neg h3]
     have hi:i= -1:=by omega
     subst hi
     have:=zoj N t 0 0 t.length (Nat.zero_le _) (Nat.le_refl _) h200 hN
     rw [show ((0:Nat):Int)=0 from rfl] at this
     rw [this,yX]
     simp only [Option.some.injEq]
     unfold zI
     rw [Nat.sub_zero,← List.range_eq_range']
     congr 1
     apply List.filter_congr
     intro k hk
     have hkl:k<t.length:=by simpa using hk
     rw [Bool.eq_iff_iff,beq_iff_eq,beq_iff_eq,zna hrf hkl,zt t hkl]
 ·have:zE t=false:=by simpa using hr
  simp [this]
theorem zk0 {t:List Ln} {i j:Nat} (h1:i≤j) (h2:j<t.length):pth t j∈pths (after [] (t.take i)) (t.drop i):=by
 have h3:=zcY [] (t.take i) (t.drop i)
 rw [List.take_append_drop] at h3
 unfold pth
 rw [List.getD_eq_getElem?_getD,h3,List.getElem?_append_right (by simp;omega)]
 rw [List.getElem?_eq_getElem (by simp;omega)]
 exact List.getElem_mem _
theorem zk1 (N:Nat) (t:List Ln) (q:List Bs) (hN:t.length<N):F63 N t q=some (match fndS t q with | some i=>((i:Int),true) | none=>(0,false)):=by
 unfold F63 V63
 simp only [zi,ze,zm,zeK N t hN,za,Bool.not_eq_true',zB,decide_eq_true_eq]
 by_cases hr:zE t=true
 ·obtain ⟨h200,hrf⟩:=zC.1 hr
  simp only [hr,Bool.true_eq_false,if_false]
  by_cases h1:(q.length:Int)=0
  ·rw [if_pos (by simpa using h1),zcl]
   intro i hi e
   have:=zah hrf hi
   rw [e] at this;omega
  ·rw [if_neg (by simpa using h1)]
   by_cases h2:(16:Int)<q.length
   ·rw [if_pos h2,zcl]
    intro i hi e
    have:=zah hrf hi
    have hb:=zJ.1 (jR hrf hi).1
    rw [e] at this;omega
   ·rw [if_neg h2]
    obtain ⟨o,ho,hp⟩:=zA (R:=Int×Bool) (step:=fun x=>zm2 N x.1 x.2.1 x.2.2.1 x.2.2.2.1 x.2.2.2.2)
     (fun x=>x.1=q∧x.2.2.1=t∧x.2.2.2.1=(t.length:Int)∧0≤x.2.2.2.2∧x.2.2.2.2≤t.length∧ ∃ m:Nat,x.2.1=(m:Int)∧m<q.length∧m≤(after [] (t.take x.2.2.2.2.toNat)).length∧
      (after [] (t.take x.2.2.2.2.toNat)).take m=q.take m∧((after [] (t.take x.2.2.2.2.toNat)).length=m∨(after [] (t.take x.2.2.2.2.toNat)).getD m []≠q.getD m [])∧ ∀ j,j<x.2.2.2.2.toNat→pth t j≠q)
     (fun x=>(t.length - x.2.2.2.2).toNat)
     (fun o=>(∃ i:Nat,o= .ret ((i:Int),true)∧i<t.length∧pth t i=q)∨((o= .ret (0,false)∨ ∃ x,o= .brk 0 x)∧ ∀ j,j<t.length→pth t j≠q))
     (by
      rintro ⟨q',deep,t',n,i⟩ ⟨e1,e2,e3,h0,hle,m,hm,hmq,hmp,htk,hor,hno⟩
      dsimp only at e1 e2 e3 h0 hle hm hmp htk hor hno ⊢
      subst e1;subst e2;subst e3;subst hm
      unfold zm2 zr6
      by_cases hi:i<t'.length
      ·have hil:i.toNat<t'.length:=by omega
       have c1:inR i t'.length:=⟨h0,hi⟩
       have c2:inR (m:Int) q'.length:=⟨by omega,by omega⟩
       obtain ⟨l,hl⟩: ∃ l:Ln,t'[i.toNat]=l:=⟨_,rfl⟩
       have hat:atI tLn t' i=l:=by rw [zaM,zt t' hil,hl]
       obtain ⟨hs,hd,hw⟩:=jR hrf hil
       rw [hl] at hs hd hw
       obtain ⟨p,hpp⟩: ∃ p,after [] (t'.take i.toNat)=p:=⟨_,rfl⟩
       rw [hpp] at hd hw hmp htk hor
       have hb:=zJ.1 hs
       have hpi:pth t' i.toNat=nx p l:=by rw [zdL t' hil,zQ [] t' hil,hpp,hl]
       have hnx:after [] (t'.take (i.toNat+1))=nx p l:=by rw [zQ [] t' hil,hpp,hl]
       have hq:atI tS q' (m:Int)=q'.getD m []:=rfl
       simp (disch:=first | assumption | omega) only [zi,ze,zn,decide_eq_true_eq,hi,if_true,hat,zz,hq]
       have goon: ∀ m' :Nat,m' <q'.length→m' ≤(nx p l).length→(nx p l).take m' =q'.take m' →((nx p l).length=m' ∨(nx p l).getD m' []≠q'.getD m' [])→nx p l≠q' →
         (∃ y,(Lp.next (q',(m' :Int),t',(t'.length:Int),i+1):Lp (List Bs×Int×List Ln×Int×Int) (Int×Bool))= .next y∧(y.1=q' ∧y.2.2.1=t' ∧y.2.2.2.1=(t'.length:Int)∧0≤y.2.2.2.2∧y.2.2.2.2≤t'.length∧ ∃ m:Nat,y.2.1=(m:Int)∧m<q'.length∧m≤(after [] (t'.take y.2.2.2.2.toNat)).length∧
          (after [] (t'.take y.2.2.2.2.toNat)).take m=q'.take m∧((after [] (t'.take y.2.2.2.2.toNat)).length=m∨(after [] (t'.take y.2.2.2.2.toNat)).getD m []≠q'.getD m [])∧ ∀ j,j<y.2.2.2.2.toNat→pth t' j≠q')∧(t'.length - y.2.2.2.2).toNat<(t'.length - i).toNat):=by
        intro m' g1 g2 g3 g4 g5
        refine ⟨_,rfl,⟨rfl,rfl,rfl,by simp only;omega,by simp only;omega,m',rfl,g1,?_⟩,by simp only;omega⟩
        simp only
        rw [show (i+1).toNat=i.toNat+1 by omega,hnx]
        refine ⟨g2,g3,g4,fun j hj=> ?_⟩
        rcases Nat.lt_or_ge j i.toNat with h | h
        ·exact hno j h
        ·have:j=i.toNat:=by omega
         subst this
         rw [hpi];exact g5
       have hat2: ∀ e,e<l.1.toNat→(nx p l).getD e []=p.getD e []:=fun e he=>by
        unfold nx
        rw [List.getD_eq_getElem?_getD,List.getElem?_append_left (by simp;omega),List.getElem?_take_of_lt he,List.getD_eq_getElem?_getD]
       have hat3:(nx p l).getD l.1.toNat []=l.2.1:=by
        unfold nx
        rw [List.getD_eq_getElem?_getD,List.getElem?_append_right (by simp;omega)]
        simp [show l.1.toNat - min l.1.toNat p.length=0 by omega]
       have htk2: ∀ e,e≤l.1.toNat→(nx p l).take e=p.take e:=fun e he=>by
        unfold nx
        rw [List.take_append_of_le_length (by simp;omega),List.take_take,Nat.min_eq_left he]
       have hlen:=zag hb.1 hd
       by_cases g1:l.1<(m:Int)
       ·rw [if_pos g1]
        refine ⟨_,rfl,.inr ⟨by simp,.inr ⟨.inl rfl,fun j hj=> ?_⟩⟩⟩
        rcases Nat.lt_or_ge j i.toNat with h | h
        ·exact hno j h
        ·
         have hqe:q'.getD l.1.toNat []=p.getD l.1.toNat []:=by
          have:(p.take m)[l.1.toNat]? =(q'.take m)[l.1.toNat]? :=by rw [htk]
          rw [List.getElem?_take_of_lt (by omega),List.getElem?_take_of_lt (by omega)] at this
          rw [List.getD_eq_getElem?_getD,List.getD_eq_getElem?_getD,this]
         have hbl:bl (q'.getD l.1.toNat []) ((nx p l).getD l.1.toNat [])=true:=by
          rw [hqe,hat3];exact hw.resolve_left (by omega)
         have htake:(nx p l).take l.1.toNat=q'.take l.1.toNat:=by
          rw [htk2 _ (Nat.le_refl _)]
          have:=congrArg (List.take l.1.toNat) htk
          rw [List.take_take,List.take_take,Nat.min_eq_left (by omega)] at this
          exact this
         rcases Nat.lt_or_eq_of_le h with h' | h'
         ·have hm:=zk0 (t:=t') (i:=i.toNat+1) (j:=j) (by omega) hj
          rw [hnx] at hm
          have hrr:=(zey hrf (i.toNat+1)).2
          rw [hnx] at hrr
          exact gone _ _ q' l.1.toNat hrr htake (by omega) (by omega) hbl _ hm
         ·rw [← h',hpi]
          intro e
          rw [e,zbq] at hbl;cases hbl
       ·rw [if_neg g1]
        by_cases g2:(m:Int)<l.1
        ·rw [if_pos g2]
         have hne:p.getD m []≠q'.getD m []:=hor.resolve_left (by omega)
         have hne' :(nx p l).getD m []≠q'.getD m []:=by rw [hat2 m (by omega)];exact hne
         exact ⟨_,rfl,.inl (goon m hmq (by omega) (by rw [htk2 m (by omega)];exact htk) (.inr hne') (fun e=>hne' (by rw [e])))⟩
        ·rw [if_neg g2]
         have hlm:l.1.toNat=m:=by omega
         by_cases g3:l.2.1=q'.getD m []
         ·rw [if_neg (by simp [g3])]
          have hnq:nx p l=q'.take (m+1):=by
           unfold nx
           rw [hlm,htk,g3,List.take_succ_eq_append_getElem hmq,List.getD_eq_getElem?_getD,List.getElem?_eq_getElem hmq];rfl
          by_cases g4:(m:Int)=(q'.length:Int) - 1
          ·rw [if_pos (by simpa using g4)]
           refine ⟨_,rfl,.inr ⟨by simp,.inl ⟨i.toNat,by rw [Int.toNat_of_nonneg h0],hil,?_⟩⟩⟩
           rw [hpi,hnq,List.take_of_length_le (by omega)]
          ·rw [if_neg (by simpa using g4)]
           have:=goon (m+1) (by omega) (by omega) (by rw [hnq,List.take_take,Nat.min_self]) (.inl (by omega)) (fun e=>by
            have:=congrArg List.length e
            rw [hlen] at this;omega)
           rw [show ((m+1:Nat):Int)=(m:Int)+1 by omega] at this
           exact ⟨_,rfl,.inl this⟩
         ·rw [if_pos (by simpa using g3)]
          have hne' :(nx p l).getD m []≠q'.getD m []:=by rw [← hlm,hat3,hlm];exact g3
          exact ⟨_,rfl,.inl (goon m hmq (by omega) (by rw [htk2 m (by omega)];exact htk) (.inr hne') (fun e=>hne' (by rw [e])))⟩
      ·refine ⟨.brk 0 (q',(m:Int),t',(t'.length:Int),i),by simp [hi],.inr ⟨by simp,.inr ⟨.inr ⟨_,rfl⟩,fun j hj=>hno j (by omega)⟩⟩⟩) N (q,0,t,(t.length:Int),0)
     ⟨rfl,rfl,rfl,by simp,by simp,0,rfl,by omega,Nat.zero_le _,rfl,.inl rfl,fun j hj=>by simp at hj⟩ (by simp only;omega)
    unfold zpI
    rw [ho]
    rcases hp with ⟨i,rfl,hi,he⟩ | ⟨hx,hn⟩
    ·rw [zeL hr hi he];rfl
    ·rw [zcl hn]
     rcases hx with rfl | ⟨x,rfl⟩<;>rfl
 ·have:zE t=false:=by simpa using hr
  simp [this,fndS]
end
section
theorem zk2 (N:Nat) (t:List Ln) (i:Int) (h0:0≤i) (h1:i<t.length) (hm:t.length≤1073741824) (hN:t.length<N):F75 N t i=some (yn t i.toNat):=by
 unfold F75 V75
 simp only [zB,ze]
 have:=zdG (R:=Int) (step:=fun x=>zm5 N x.1 x.2.1 x.2.2.1 x.2.2.2) i.toNat
  (fun (out:Int) k=>if (t.getD k (0,[],0)).1<(t.getD i.toNat (0,[],0)).1 then (k:Int) else out) (fun out k=>(t,i,out,k)) (fun _ _=>True) (fun _ _ _ _=>trivial) (fun out k _ hk=>by
   unfold zm5 zsk
   by_cases h:k<i.toNat
   ·have hk' :(k:Int)<i:=by omega
    have c1:inR (k:Int) t.length:=⟨by omega,by omega⟩
    have c2:inR i t.length:=⟨h0,h1⟩
    simp (disch:=first | assumption | omega) only [zi,ze,zn,decide_eq_true_eq,hk',if_true,h,zz]
    show (if (t.getD k (0,[],0)).1<(t.getD i.toNat (0,[],0)).1 then _ else _)=_
    split<;>rfl
   ·have hk' : ¬ (k:Int)<i:=by omega
    have:(k:Int)=i:=by omega
    simp [hk',h]) (-1) trivial N (by omega)
 unfold zpW
 rw [this,yX]
 simp only [Option.some.injEq]
 unfold yn
 generalize (t.getD i.toNat (0,[],0)).1=d
 induction i.toNat with
 | zero=>rfl
 | succ k ih=>rw [List.range_succ,List.foldl_append,ih];rfl
theorem zqp (N:Nat) (t:List Ln) (i:Int) (hrf:rf [] t=true) (hm:t.length≤1073741824) (h0:0≤i) (h1:i<t.length) (hN:t.length<N):F74 N t i=some (pth t i.toNat):=by
 unfold F74 V74
 simp only [zB,ze]
 have h16:(pth t i.toNat).length≤16:=by
  have hi:i.toNat<t.length:=by omega
  rw [zah hrf hi];have:=zJ.1 (jR hrf hi).1;omega
 obtain ⟨o,ho,hp⟩:=zA (R:=List Bs) (step:=fun x=>zm6 N x.1 x.2.1 x.2.2)
  (fun x=>x.1=t∧ -1≤x.2.1∧x.2.1<t.length∧(0≤x.2.1→pth t x.2.1.toNat++x.2.2=pth t i.toNat)∧(x.2.1= -1→x.2.2=pth t i.toNat)) (fun x=>(x.2.1+1).toNat)
  (fun o=>o= .brk 0 (t,-1,pth t i.toNat))
  (by
   rintro ⟨t',k,out⟩ ⟨e1,hk0,hki,hu1,hu2⟩
   dsimp only at e1 hk0 hki hu1 hu2 ⊢
   subst e1
   unfold zm6 zsm
   by_cases hk:0≤k
   ·have hu:=hu1 hk
    have hkl:k.toNat<t'.length:=by omega
    have h2:inR k t'.length:=⟨hk,by omega⟩
    have hlen:out.length≤16:=by
     have:=congrArg List.length hu
     simp at this;omega
    have hroom:room (([(atI tLn t' k).2.1]:List Bs).length+out.length):=by show _≤_;simp;omega
    have hroom2:room (([(atI tLn t' k).2.1]:List Bs).length):=by show _≤_;simp
    simp (disch:=first | assumption | omega) only [zi,ze,zn,zm,decide_eq_true_eq,hk,if_true,zk2 N t' k hk hki (by omega) hN,za]
    refine ⟨_,rfl,.inl ⟨_,rfl,?_⟩⟩
    have hw:(atI tLn t' k).2.1=(t'[k.toNat]).2.1:=by rw [zaM,zt t' hkl]
    have hlt:=zkM t' (t'.getD k.toNat (0,[],0)).1 k.toNat
    have hge:=zkN t' (t'.getD k.toNat (0,[],0)).1 k.toNat
    have hun:yn t' k.toNat=unS t' (t'.getD k.toNat (0,[],0)).1 k.toNat:=rfl
    refine ⟨⟨rfl,by simp only;omega,by simp only;omega,fun h=> ?_,fun h=> ?_⟩,by simp only;omega⟩
    ·simp only at h ⊢
     rcases ju hrf hkl with ⟨_,hn,_⟩ | ⟨_,u,hn,_,hp,_⟩
     ·omega
     ·rw [hn,hw,← hu,hp];simp
    ·simp only at h ⊢
     rcases ju hrf hkl with ⟨_,hn,hp⟩ | ⟨_,u,hn,_⟩
     ·rw [hw,← hu,hp]
     ·omega
   ·refine ⟨.brk 0 (t',k,out),by simp [hk],.inr ⟨by simp,?_⟩⟩
    have:k= -1:=by omega
    subst this
    rw [← hu2 rfl]) N (t,i,[]) ⟨rfl,by simp only;omega,h1,fun _=>by simp,fun h=>by simp only at h;omega⟩ (by simp only;omega)
 unfold zpX
 rw [ho,hp];rfl
theorem zsK (N:Nat) (t:List Ln) (i:Int) (hm:t.length≤1073741824) (hN:t.length<N):F33o N t i=some (zI t i):=by
 unfold F33o V33o
 simp only [zB,ze]
 have:=zdG (R:=List Int) (step:=fun x=>zhO N x.1 x.2.1 x.2.2.1 x.2.2.2) t.length
  (fun (out:List Int) k=>if (yn t k==i)=true then out++[(k:Int)] else out) (fun out k=>(t,i,out,k))
  (fun out k=>out.length≤k) (fun out k hI hk=>by
   show (if _ then _ else _:List Int).length≤_
   split
   ·simp;omega
   ·omega) (fun out k hI hk=>by
   unfold zhO zob
   by_cases h:k<t.length
   ·have hk' :(k:Int)<t.length:=by omega
    have hroom:room (out.length+([(k:Int)]:List Int).length):=by show _≤_;simp;omega
    simp (disch:=first | assumption | omega) only [zi,ze,zn,zm,decide_eq_true_eq,hk',if_true,h,zz,zk2 N t k (by omega) hk' hm hN,za,Int.toNat_natCast]
    by_cases hb:(yn t k==i)=true
    ·rw [if_pos hb,if_pos hb]
    ·rw [if_neg hb,if_neg hb]
   ·have hk' : ¬ (k:Int)<t.length:=by omega
    simp [hk',h]) [] (by simp) N hN
 unfold zkH
 rw [this,zdH]
 simp [zI]
theorem zqq (N:Nat) (t:List Ln) (q:List Bs) (hrf:rf [] t=true) (hm:t.length≤1073741824) (hq:q.length≤1073741824) (hN:t.length+16<N): ∃ i:Int,F32 N t q=some i∧((0≤i∧i<t.length∧pth t i.toNat=q)∨(i= -1∧ ∀ j,j<t.length→pth t j≠q)):=by
 unfold F32 V32
 simp only [zB,ze]
 obtain ⟨o,ho,hp⟩:=zA (R:=Int) (step:=fun x=>zm7 N x.1 x.2.1 x.2.2)
  (fun x=>x.1=t∧x.2.1=q∧0≤x.2.2∧x.2.2≤t.length∧ ∀ j,j<x.2.2.toNat→pth t j≠q) (fun x=>(t.length - x.2.2).toNat)
  (fun o=>(∃ i:Nat,o= .ret (i:Int)∧i<t.length∧pth t i=q)∨((∃ x,o= .brk 0 x)∧ ∀ j,j<t.length→pth t j≠q))
  (by
   rintro ⟨t',q',i⟩ ⟨e1,e2,h0,hle,hno⟩
   dsimp only at e1 e2 h0 hle hno ⊢
   subst e1;subst e2
   unfold zm7 zso
   by_cases hi:i<t'.length
   ·have hil:i.toNat<t'.length:=by omega
    have c1:inR i t'.length:=⟨h0,hi⟩
    have e1:atI tLn t' i=t'[i.toNat]:=by rw [zaM,zt t' hil]
    have hb:=zJ.1 (jR hrf hil).1
    have hlen:=zah hrf hil
    have goon:pth t' i.toNat≠q' →(∃ y,(Lp.next (t',q',i+1):Lp (List Ln×List Bs×Int) Int)= .next y∧(y.1=t' ∧y.2.1=q' ∧0≤y.2.2∧y.2.2≤t'.length∧ ∀ j,j<y.2.2.toNat→pth t' j≠q')∧(t'.length - y.2.2).toNat<(t'.length - i).toNat):=by
     intro hne
     refine ⟨_,rfl,⟨rfl,rfl,by simp only;omega,by simp only;omega,fun j hj=> ?_⟩,by simp only;omega⟩
     simp only at hj
     rcases Nat.lt_or_ge j i.toNat with h | h
     ·exact hno j h
     ·have:j=i.toNat:=by omega
      subst this;exact hne
    simp (disch:=first | assumption | omega) only [zi,ze,zn,zm,decide_eq_true_eq,hi,if_true,e1,zz,zqp N t' i hrf hm h0 hi (by omega),za,
     zql N (pth t' i.toNat) q' (by omega) (by unfold maxLen;omega)]
    by_cases g1:(t'[i.toNat]).1=(q'.length:Int) - 1
    ·rw [if_pos (by simpa using g1)]
     by_cases g2:pth t' i.toNat=q'
     ·rw [if_pos g2]
      exact ⟨_,rfl,.inr ⟨by simp,.inl ⟨i.toNat,by rw [Int.toNat_of_nonneg h0],hil,g2⟩⟩⟩
     ·rw [if_neg g2]
      exact ⟨_,rfl,.inl (goon g2)⟩
    ·rw [if_neg (by simpa using g1)]
     exact ⟨_,rfl,.inl (goon (fun e=>by rw [e] at hlen;omega))⟩
   ·refine ⟨.brk 0 (t',q',i),by simp [hi],.inr ⟨by simp,.inr ⟨⟨_,rfl⟩,fun j hj=>hno j (by omega)⟩⟩⟩) N (t,q,0)
  ⟨rfl,rfl,by simp,by simp,fun j hj=>by simp at hj⟩ (by simp only;omega)
 unfold zpY
 rw [ho]
 rcases hp with ⟨i,rfl,hi,he⟩ | ⟨⟨x,rfl⟩,hn⟩
 ·exact ⟨i,rfl,.inl ⟨by omega,by omega,by rwa [Int.toNat_natCast]⟩⟩
 ·exact ⟨-1,rfl,.inr ⟨rfl,hn⟩⟩
theorem zsL (N:Nat) (t:List Ln) (q:List Bs) (hr:zE t=true) (hq:q.length≤1073741824) (hN:t.length+16<N):F32 N t q=some (match fndS t q with | some i=>(i:Int) | none=> -1):=by
 obtain ⟨h200,hrf⟩:=zC.1 hr
 obtain ⟨i,ho,⟨h0,hi,he⟩ | ⟨rfl,hn⟩⟩:=zqq N t q hrf (by omega) hq hN
 ·rw [ho,zeL hr (i:=i.toNat) (by omega) he];simp [Int.toNat_of_nonneg h0]
 ·rw [ho,zcl hn]
def innB (d:Int) (w:Bs):List Ln→Bool
 | []=>true
 | l::r=>if d≤l.1 then (if l.1=d∧bl w l.2.1=false then false else innB d w r) else true
def oneB (t:List Ln) (k:Nat):Bool:=snd (t.getD k (0,[],0))&&(if k=0 then decide ((t.getD k (0,[],0)).1=0) else decide ((t.getD k (0,[],0)).1≤(t.getD (k - 1) (0,[],0)).1+1))
def zc0 (t:List Ln) (k:Nat):Bool:=innB (t.getD k (0,[],0)).1 (t.getD k (0,[],0)).2.1 (t.drop (k+1))
theorem zbW: ∀ (r:List Ln) (q:List Bs) (w0 w:Bs) (s:List Bs),(w0=w∨bl w0 w=true)→rf (q++w::s) r=true→innB q.length w0 r=true
 | [],_,_,_,_,_,_=>rfl
 | l::r,q,w0,w,s,hw,h=>by
  rw [zaL] at h
  obtain ⟨hs,hl,hlt,hr⟩:=h
  have h0:=(zJ.1 hs).1
  unfold innB
  split
  ·rename_i hd
   rcases Int.lt_or_eq_of_le hd with h1 | h1
   ·rw [if_neg (by omega)]
    refine zbW r q w0 w (s.take (l.1.toNat - q.length - 1)++[l.2.1]) hw ?_
    have:nx (q++w::s) l=q++w::(s.take (l.1.toNat - q.length - 1)++[l.2.1]):=by
     unfold nx
     rw [List.take_append,List.take_of_length_le (by omega),show l.1.toNat - q.length=(l.1.toNat - q.length - 1)+1 by omega,List.take_succ_cons]
     simp
    rw [← this];exact hr
   ·have hb:bl w l.2.1=true:=by
     rcases hlt with h2 | h2
     ·simp at h2;omega
     ·rw [← h1] at h2
      simpa using h2
    have hb0:bl w0 l.2.1=true:=by
     rcases hw with rfl | hw
     ·exact hb
     ·exact jH hw hb
    rw [if_neg (by rw [hb0];simp)]
    refine zbW r q w0 l.2.1 [] (.inr hb0) ?_
    have:nx (q++w::s) l=q++l.2.1::[]:=by
     unfold nx
     rw [← h1,Int.toNat_natCast,List.take_append_of_le_length (Nat.le_refl _),List.take_of_length_le (Nat.le_refl _)]
    rw [← this];exact hr
  ·rfl
theorem zk3 (d:Int) (w:Bs): ∀ (r:List Ln) (m:Nat) (l:Ln),innB d w r=true→r[m]? =some l→(∀ j,j<m→d<(r.getD j (0,[],0)).1)→l.1=d→bl w l.2.1=true
 | [],m,l,_,h,_,_=>by simp at h
 | x::r,0,l,hi,h,_,hd=>by
  have:x=l:=by simpa using h
  subst this
  unfold innB at hi
  rw [if_pos (by omega)] at hi
  cases hb:bl w x.2.1 with
  | true=>rfl
  | false=>rw [if_pos ⟨hd,hb⟩] at hi;cases hi
 | x::r,m+1,l,hi,h,hj,hd=>by
  have h0:=hj 0 (by omega)
  simp only [List.getD_cons_zero] at h0
  unfold innB at hi
  rw [if_pos (by omega),if_neg (by omega)] at hi
  exact zk3 d w r m l hi (by simpa using h) (fun j hjm=>by simpa using hj (j+1) (by omega)) hd
theorem zok (t:List Ln):rf [] t=true↔(∀ k,k<t.length→oneB t k=true)∧(∀ k,k<t.length→zc0 t k=true):=by
 constructor
 ·intro h
  constructor
  ·intro k hk
   obtain ⟨h1,h2,_⟩:=jR h hk
   unfold oneB
   rw [zt t hk,h1,Bool.true_and]
   split
   ·rename_i h0
    subst h0
    have:=(zJ.1 h1).1
    simp [after] at h2 ⊢;omega
   ·rename_i h0
    have hk1:k - 1<t.length:=by omega
    have hal:=zbr h hk1
    rw [show k - 1+1=k by omega] at hal
    rw [hal] at h2
    have:=(zJ.1 (jR h hk1).1).1
    rw [zt t hk1]
    simp;omega
  ·intro k hk
   unfold zc0
   rw [zt t hk]
   obtain ⟨h1,h2,_⟩:=jR h hk
   have h3:=(zJ.1 h1).1
   have hr:=(zey h (k+1)).2
   rw [zQ [] t hk] at hr
   have:=zbW (t.drop (k+1)) ((after [] (t.take k)).take (t[k]).1.toNat) (t[k]).2.1 (t[k]).2.1 [] (.inl rfl) hr
   rw [List.length_take,Nat.min_eq_left (by omega),Int.toNat_of_nonneg h3] at this
   exact this
 ·rintro ⟨hA,hB⟩
  have key: ∀ k,k≤t.length→rf [] (t.take k)=true∧(0<k→(after [] (t.take k)).length=(t.getD (k - 1) (0,[],0)).1.toNat+1)∧
    ∀ d,d<(after [] (t.take k)).length→ ∃ i,i<k∧(t.getD i (0,[],0)).1=(d:Int)∧(t.getD i (0,[],0)).2.1=(after [] (t.take k)).getD d []∧ ∀ j,i<j→j<k→(d:Int)<(t.getD j (0,[],0)).1:=by
   intro k
   induction k with
   | zero=>intro _;exact ⟨rfl,fun h=>by omega,fun d hd=>by simp [after] at hd⟩
   | succ k ih=>
    intro hk
    have hkl:k<t.length:=by omega
    obtain ⟨h1,h2,h3⟩:=ih (by omega)
    have ho:=hA k hkl
    unfold oneB at ho
    rw [zt t hkl] at ho
    simp only [Bool.and_eq_true] at ho
    obtain ⟨hs,hd⟩:=ho
    have hb:=zJ.1 hs
    have hle:(t[k]).1≤(after [] (t.take k)).length:=by
     split at hd
     ·rename_i h0
      have:(t[k]).1=0:=by simpa using hd
      omega
     ·rename_i h0
      rw [h2 (by omega)]
      have hd' :(t[k]).1≤(t.getD (k - 1) (0,[],0)).1+1:=by simpa using hd
      omega
    have hstep:(t[k]).1=(after [] (t.take k)).length∨bl ((after [] (t.take k)).getD (t[k]).1.toNat []) (t[k]).2.1=true:=by
     rcases Int.lt_or_eq_of_le hle with h | h
     ·right
      obtain ⟨i,hi,e1,e2,e3⟩:=h3 (t[k]).1.toNat (by omega)
      rw [Int.toNat_of_nonneg hb.1] at e1 e3
      rw [← e2]
      have hp:=hB i (by omega)
      unfold zc0 at hp
      rw [e1] at hp
      refine zk3 _ _ _ (k - (i+1)) t[k] hp ?_ (fun j hj=> ?_) rfl
      ·rw [List.getElem?_drop,show i+1+(k - (i+1))=k by omega,List.getElem?_eq_getElem hkl]
      ·have:=e3 (i+1+j) (by omega) (by omega)
       simpa [List.getD_eq_getElem?_getD,List.getElem?_drop] using this
     ·left;exact h
    have hn:=zag hb.1 hle
    refine ⟨?_,fun _=> ?_,fun d hdl=> ?_⟩
    ·rw [List.take_succ_eq_append_getElem hkl,zcX,h1,Bool.true_and,zaL]
     exact ⟨hs,hle,hstep,rfl⟩
    ·rw [zQ [] t hkl,hn,Nat.add_sub_cancel,zt t hkl]
    ·rw [zQ [] t hkl] at hdl ⊢
     rw [hn] at hdl
     rcases Nat.lt_or_ge d (t[k]).1.toNat with h | h
     ·obtain ⟨i,hi,e1,e2,e3⟩:=h3 d (by omega)
      refine ⟨i,by omega,e1,?_,fun j hj1 hj2=> ?_⟩
      ·rw [e2]
       unfold nx
       rw [List.getD_eq_getElem?_getD,List.getD_eq_getElem?_getD,List.getElem?_append_left (by simp;omega),List.getElem?_take_of_lt h]
      ·rcases Nat.lt_or_ge j k with h4 | h4
       ·exact e3 j hj1 h4
       ·have:j=k:=by omega
        subst this
        rw [zt t hkl];omega
     ·have hdk:d=(t[k]).1.toNat:=by omega
      subst hdk
      refine ⟨k,by omega,by rw [zt t hkl];omega,?_,fun j h1 h2=>by omega⟩
      rw [zt t hkl]
      unfold nx
      rw [List.getD_eq_getElem?_getD,List.getElem?_append_right (by simp;omega)]
      simp [show (t[k]).1.toNat - min (t[k]).1.toNat (after [] (t.take k)).length=0 by omega]
  have:=(key t.length (Nat.le_refl _)).1
  rwa [List.take_of_length_le (Nat.le_refl _)] at this
theorem W_inn (N:Nat) (t:List Ln) (i:Int) (h0:0≤i) (h1:i<t.length) (h200:t.length≤200) (hN:t.length<N): ∃ o,zhr N (t,i,i+1)=some o∧
  ((o= .ret false∧zc0 t i.toNat=false)∨(∃ k,o= .brk 0 (t,i,k)∧zc0 t i.toNat=true)):=by
 unfold zhr
 refine zA (R:=Bool) (step:=fun x=>zhq N x.1 x.2.1 x.2.2)
  (fun x=>x.1=t∧x.2.1=i∧0≤x.2.2∧x.2.2≤t.length∧innB (t.getD i.toNat (0,[],0)).1 (t.getD i.toNat (0,[],0)).2.1 (t.drop x.2.2.toNat)=zc0 t i.toNat) (fun x=>(t.length - x.2.2).toNat) _ (by
   rintro ⟨t',i',k⟩ ⟨e1,e2,hk0,hki,hu⟩
   dsimp only at e1 e2 hk0 hki hu ⊢
   subst e1;subst e2
   unfold zhq zn0
   have e2:atI tLn t' i' =t'.getD i'.toNat (0,[],0):=rfl
   by_cases hk:k<t'.length
   ·have c1:inR k t'.length:=⟨hk0,by omega⟩
    have c2:inR i' t'.length:=⟨h0,h1⟩
    rw [drop_cons t' hk0 hk,innB] at hu
    obtain ⟨l,hl⟩: ∃ l:Ln,atI tLn t' k=l:=⟨_,rfl⟩
    rw [hl] at hu
    have goon:innB (t'.getD i'.toNat (0,[],0)).1 (t'.getD i'.toNat (0,[],0)).2.1 (t'.drop (k+1).toNat)=zc0 t' i'.toNat→(∃ y,(Lp.next (t',i',k+1):Lp (List Ln×Int×Int) Bool)= .next y∧(y.1=t' ∧y.2.1=i' ∧0≤y.2.2∧y.2.2≤t'.length∧
      innB (t'.getD i'.toNat (0,[],0)).1 (t'.getD i'.toNat (0,[],0)).2.1 (t'.drop y.2.2.toNat)=zc0 t' i'.toNat)∧(t'.length - y.2.2).toNat<(t'.length - k).toNat):=fun h=>⟨_,rfl,⟨rfl,rfl,by simp only;omega,by simp only;omega,h⟩,by simp only;omega⟩
    simp (disch:=first | assumption | omega) only [zi,ze,zn,decide_eq_true_eq,hk,if_true,hl,e2,zz]
    rw [zhn]
    generalize t'.getD i'.toNat (0,[],0)=li at *
    by_cases g1:li.1≤l.1
    ·rw [if_pos g1] at hu ⊢
     by_cases g2:l.1=li.1
     ·rw [if_pos (by simpa using g2)]
      by_cases g3:bl li.2.1 l.2.1=true
      ·rw [if_neg (by rw [g3];simp)] at hu
       rw [show Op.bytesLess li.2.1 l.2.1=true from g3]
       exact ⟨_,rfl,.inl (goon hu)⟩
      ·have g3' :bl li.2.1 l.2.1=false:=by simpa using g3
       rw [if_pos ⟨g2,g3'⟩] at hu
       rw [show Op.bytesLess li.2.1 l.2.1=false from g3']
       exact ⟨_,rfl,.inr ⟨by simp,.inl ⟨rfl,hu.symm⟩⟩⟩
     ·rw [if_neg (by simpa using g2)]
      rw [if_neg (fun h=>g2 h.1)] at hu
      exact ⟨_,rfl,.inl (goon hu)⟩
    ·rw [if_neg g1] at hu ⊢
     exact ⟨_,rfl,.inr ⟨by simp,.inr ⟨_,rfl,hu.symm⟩⟩⟩
   ·refine ⟨.brk 0 (t',i',k),by simp [hk],.inr ⟨by simp,.inr ⟨_,rfl,?_⟩⟩⟩
    rw [List.drop_of_length_le (by omega)] at hu
    exact hu.symm) N _ ⟨rfl,rfl,by simp only;omega,by simp only;omega,by simp only;rw [show (i+1).toNat=i.toNat+1 by omega];rfl⟩ (by simp only;omega)
theorem zqr (N:Nat) (t:List Ln) (hN:t.length<N):F22 N t=some (zE t):=by
 unfold F22 V22 zE
 simp only [zi,ze,zB,decide_eq_true_eq]
 by_cases h200:(200:Int)<t.length
 ·rw [if_pos h200];simp;omega
 ·rw [if_neg h200,decide_eq_true (by omega:t.length≤200),Bool.true_and]
  have w1:=zfl (R:=Bool) (step:=fun x=>zmL N x.1 x.2) t.length (oneB t) (fun i=>(t,i)) false (fun i h0 hi hprev=>by
   unfold zmL zrP
   by_cases h:i<t.length
   ·have c1:inR i t.length:=⟨h0,h⟩
    have hil:i.toNat<t.length:=by omega
    have e1:atI tLn t i=t.getD i.toNat (0,[],0):=rfl
    obtain ⟨l,hl⟩: ∃ l:Ln,t.getD i.toNat (0,[],0)=l:=⟨_,rfl⟩
    unfold oneB
    simp (disch:=first | assumption | omega) only [zi,ze,zn,decide_eq_true_eq,h,if_true,e1,hl,zz]
    by_cases g1:l.1<0
    ·rw [if_pos g1,if_neg];intro hh;have:=(zJ.1 (by simp only [Bool.and_eq_true] at hh;exact hh.1)).1;omega
    rw [if_neg g1]
    by_cases g2:15<l.1
    ·rw [if_pos g2,if_neg];intro hh;have:=(zJ.1 (by simp only [Bool.and_eq_true] at hh;exact hh.1));omega
    rw [if_neg g2]
    by_cases g3:(40:Int)<l.2.1.length
    ·rw [if_pos g3,if_neg];intro hh;have:=(zJ.1 (by simp only [Bool.and_eq_true] at hh;exact hh.1));omega
    rw [if_neg g3]
    by_cases g4:l.2.2<0
    ·rw [if_pos g4,if_neg];intro hh;have:=(zJ.1 (by simp only [Bool.and_eq_true] at hh;exact hh.1));omega
    rw [if_neg g4]
    by_cases g5:3<l.2.2
    ·rw [if_pos g5,if_neg];intro hh;have:=(zJ.1 (by simp only [Bool.and_eq_true] at hh;exact hh.1));omega
    rw [if_neg g5]
    have hs:snd l=true:=zJ.2 ⟨by omega,by omega,by omega,by omega,by omega⟩
    rw [hs,Bool.true_and]
    by_cases g6:i=0
    ·subst g6
     by_cases g7:l.1=0
     ·simp [g7]
     ·simp [g7]
    ·have g6' :0<i:=by omega
     have c2:inR (i - 1) t.length:=⟨by omega,by omega⟩
     have e2:atI tLn t (i - 1)=t.getD (i.toNat - 1) (0,[],0):=by rw [zaM];congr 1;omega
     rw [if_neg (by simpa using g6),if_pos g6',if_neg (by omega: ¬ i.toNat=0)]
     obtain ⟨l',hl'⟩: ∃ l:Ln,t.getD (i.toNat - 1) (0,[],0)=l:=⟨_,rfl⟩
     have hp:=hprev (i.toNat - 1) (by omega)
     unfold oneB at hp
     rw [hl'] at hp
     simp only [Bool.and_eq_true] at hp
     have hb' :=zJ.1 hp.1
     rw [zn c2,zi,e2,hl',zz (by omega) (by omega),ze,ze]
     by_cases g7:l.1≤l'.1+1
     ·rw [if_neg (by simp;omega),if_pos (by simpa using g7)]
     ·rw [if_pos (by simp;omega),if_neg (by simpa using g7)]
   ·simp [h]) N (by omega)
  have w2:=zee (R:=Bool) (step:=fun x=>zhs N x.1 x.2) t.length (zc0 t) (fun i=>(t,i)) false (fun i h0 hi=>by
   unfold zhs zn1
   by_cases h:i<t.length
   ·obtain ⟨o,ho,hp⟩:=W_inn N t i h0 h (by omega) hN
    simp only [zi,Vt.g1,zmF,decide_eq_true_eq,h,if_true]
    rw [zz (by omega) (by omega),ho]
    rcases hp with ⟨rfl,hp⟩ | ⟨k,rfl,hp⟩
    ·rw [if_neg (by rw [hp];simp),zgj]
    ·rw [if_pos hp,yX,ze,zz (by simp only;omega) (by simp only;omega)]
   ·simp [h]) N (by omega)
  unfold zpu
  rw [w1]
  have hiff:=zok t
  by_cases g1:(List.range t.length).all (oneB t)=true
  ·rw [if_pos g1,yX]
   unfold zkm
   rw [w2]
   by_cases g2:(List.range t.length).all (zc0 t)=true
   ·rw [if_pos g2,yX]
    have:rf [] t=true:=hiff.2 ⟨fun k hk=>List.all_eq_true.1 g1 k (by simpa using hk),fun k hk=>List.all_eq_true.1 g2 k (by simpa using hk)⟩
    rw [this]
   ·rw [if_neg g2,zgj]
    have:rf [] t=false:=by
     cases h:rf [] t with
     | false=>rfl
     | true=>exact absurd (List.all_eq_true.2 fun k hk=>(hiff.1 h).2 k (by simpa using hk)) g2
    rw [this];rfl
  ·rw [if_neg g1,zgj]
   have:rf [] t=false:=by
    cases h:rf [] t with
    | false=>rfl
    | true=>exact absurd (List.all_eq_true.2 fun k hk=>(hiff.1 h).1 k (by simpa using hk)) g1
   rw [this];rfl
end
end Go.Proofs.YthcmfnkganacaaaGreatDoor.Vc
