/-
  WHAT THE FUNCTIONS DO WITH DATA, printed by a program from the translation. No condition.
-/
import Derived.Test.YthcmfnkganacaaaGreatDoorB2
import Derived.Test.YthcmfnkganacaaaGreatDoorA7
import Derived.Test.YthcmfnkganacaaaGreatDoorA6
set_option linter.unusedVariables false
set_option linter.unusedSimpArgs false
set_option maxRecDepth 100000
namespace Go.Proofs.YthcmfnkganacaaaGreatDoor.Vc
open Go.RowKit
def E21:Bool→D:=fun x=>encV tB x
abbrev zef:List (Nat×Sh):=[(0,.val (.list tLn)),(3,.val tI)]
noncomputable def b21_4:Code:=zo 4 (zF Tryz.f21)
noncomputable def zrN (N:Nat) (s0:(List Ln)) (s3:Int):Vt (Lp (shTy zef).I Bool) (O3 (Option D)) (encO 20 zef [0] (fun q=>some (E21 q))):=
 .br (decide (s3<(s0.length:Int))) (.ck (inR s3 s0.length) (.br (decide ((100:Int)<(((atI tLn s0 s3).2.1).length:Int))) (.leaf (.ret false)) (.leaf (.next (s0,(IntKind.i64.wrap (s3+1))))))) (.leaf (.brk 0 (s0,s3)))
noncomputable def zmK (N:Nat) (s0:(List Ln)) (s3:Int):Option (Lp ((List Ln)×Int) Bool):=(zrN N s0 s3).eval
noncomputable def zpt (N:Nat) (x:((List Ln)×Int)):Option (Lp ((List Ln)×Int) Bool):=zl (fun x=>zmK N x.1 x.2) N x
theorem zrO (N:Nat) (x:(shTy zef).I): ∀ o,zpt N x=some o→S Tryz.prog (.loop b21_4) (zh 20 zef x) (zK (rdD Tryz.prog Tryz.f21 false) zef (encO 20 zef [0] (fun q=>some (E21 q)) o)):=
 fun o h=>zH (l:=zef) (step:=fun x=>zmK N x.1 x.2) (fun x o h=>zb (tbl:=[]) (μ:=[]) mixed _ _ _ (by
  have h1:=Vt.sound _ h
  refine Eq.mp ?_ h1
  kernel_rfl)) N x o h
noncomputable def V21 (N:Nat) (a0:(List Ln)):Vt Bool (Option D) (fun q=>some (E21 q)):=
 .br (decide ((220:Int)<(a0.length:Int))) (.leaf false) (.f1 (l:=zef) (o:=zpt N (a0,0)) (zrO N (a0,0)) (fun x1=> .leaf true))
noncomputable def F21 (N:Nat) (a0:(List Ln)):Option Bool:=(V21 N a0).eval
def t21:List (Nat×List Nat×List (Nat×Sh)):=[(4,[0],zef)]
theorem P21 (N:Nat) (a0:(List Ln)): ∀ r,F21 N a0=some r→Spec Tryz.prog 21 [.val (.list tLn) a0] (E21 r):=fun r h=>zk (fn:=Tryz.f21) rfl rfl rfl rfl false (zb (tbl:=t21) (μ:=[]) mixed _ _ _ (by
 have h1:=Vt.sound _ h
 refine Eq.mp ?_ h1
 kernel_rfl))
def E22:Bool→D:=fun x=>encV tB x
abbrev zcT:List (Nat×Sh):=[(0,.val (.list tLn)),(3,.val tI)]
noncomputable def b22_4:Code:=zo 4 (zF Tryz.f22)
noncomputable def zrP (N:Nat) (s0:(List Ln)) (s3:Int):Vt (Lp (shTy zcT).I Bool) (O3 (Option D)) (encO 118 zcT [0] (fun q=>some (E22 q))):=
 .br (decide (s3<(s0.length:Int))) (.ck (inR s3 s0.length) (.br (decide (((atI tLn s0 s3).1)<0)) (.leaf (.ret false)) (.br (decide ((15:Int)<((atI tLn s0 s3).1))) (.leaf (.ret false)) (.br (decide ((40:Int)<(((atI tLn s0 s3).2.1).length:Int))) (.leaf (.ret false)) (.br (decide (((atI tLn s0 s3).2.2)<0)) (.leaf (.ret false)) (.br (decide ((3:Int)<((atI tLn s0 s3).2.2))) (.leaf (.ret false)) (.br (s3==0) (.br (((atI tLn s0 s3).1) !=0) (.leaf (.ret false)) (.br (decide ((0:Int)<s3)) (.ck (inR (IntKind.i64.wrap (s3 - 1)) s0.length) (.br (decide ((IntKind.i64.wrap (((atI tLn s0 (IntKind.i64.wrap (s3 - 1))).1)+1))<((atI tLn s0 s3).1))) (.leaf (.ret false)) (.leaf (.next (s0,(IntKind.i64.wrap (s3+1))))))) (.leaf (.next (s0,(IntKind.i64.wrap (s3+1))))))) (.br (decide ((0:Int)<s3)) (.ck (inR (IntKind.i64.wrap (s3 - 1)) s0.length) (.br (decide ((IntKind.i64.wrap (((atI tLn s0 (IntKind.i64.wrap (s3 - 1))).1)+1))<((atI tLn s0 s3).1))) (.leaf (.ret false)) (.leaf (.next (s0,(IntKind.i64.wrap (s3+1))))))) (.leaf (.next (s0,(IntKind.i64.wrap (s3+1))))))))))))) (.leaf (.brk 0 (s0,s3)))
noncomputable def zmL (N:Nat) (s0:(List Ln)) (s3:Int):Option (Lp ((List Ln)×Int) Bool):=(zrP N s0 s3).eval
noncomputable def zpu (N:Nat) (x:((List Ln)×Int)):Option (Lp ((List Ln)×Int) Bool):=zl (fun x=>zmL N x.1 x.2) N x
theorem zrQ (N:Nat) (x:(shTy zcT).I): ∀ o,zpu N x=some o→S Tryz.prog (.loop b22_4) (zh 118 zcT x) (zK (rdD Tryz.prog Tryz.f22 false) zcT (encO 118 zcT [0] (fun q=>some (E22 q)) o)):=
 fun o h=>zH (l:=zcT) (step:=fun x=>zmL N x.1 x.2) (fun x o h=>zb (tbl:=[]) (μ:=[]) mixed _ _ _ (by
  have h1:=Vt.sound _ h
  refine Eq.mp ?_ h1
  kernel_rfl)) N x o h
abbrev zaA:List (Nat×Sh):=[(0,.val (.list tLn)),(5,.val tI),(6,.val tI)]
noncomputable def zrR:Code:=zo 15 (zF Tryz.f22)
noncomputable def zn0 (N:Nat) (s0:(List Ln)) (s5:Int) (s6:Int):Vt (Lp (shTy zaA).I Bool) (O3 (Option D)) (encO 118 zaA [4] (fun q=>some (E22 q))):=
 .br (decide (s6<(s0.length:Int))) (.ck (inR s6 s0.length) (.ck (inR s5 s0.length) (.br (decide (((atI tLn s0 s5).1)≤((atI tLn s0 s6).1))) (.ck (inR s6 s0.length) (.ck (inR s5 s0.length) (.br (((atI tLn s0 s6).1)==((atI tLn s0 s5).1)) (.ck (inR s6 s0.length) (.ck (inR s5 s0.length) (.br ((Op.bytesLess ((atI tLn s0 s6).2.1) ((atI tLn s0 s5).2.1))||(((atI tLn s0 s6).2.1)==((atI tLn s0 s5).2.1))) (.leaf (.ret false)) (.leaf (.next (s0,s5,(IntKind.i64.wrap (s6+1)))))))) (.leaf (.next (s0,s5,(IntKind.i64.wrap (s6+1)))))))) (.leaf (.brk 0 (s0,s5,s6)))))) (.leaf (.brk 0 (s0,s5,s6)))
noncomputable def zhq (N:Nat) (s0:(List Ln)) (s5:Int) (s6:Int):Option (Lp ((List Ln)×Int×Int) Bool):=(zn0 N s0 s5 s6).eval
noncomputable def zhr (N:Nat) (x:((List Ln)×Int×Int)):Option (Lp ((List Ln)×Int×Int) Bool):=zl (fun x=>zhq N x.1 x.2.1 x.2.2) N x
theorem zpv (N:Nat) (x:(shTy zaA).I): ∀ o,zhr N x=some o→S Tryz.prog (.loop zrR) (zh 118 zaA x) (zK (rdD Tryz.prog Tryz.f22 false) zaA (encO 118 zaA [4] (fun q=>some (E22 q)) o)):=
 fun o h=>zH (l:=zaA) (step:=fun x=>zhq N x.1 x.2.1 x.2.2) (fun x o h=>zb (tbl:=[(4,[0],zcT)]) (μ:=[]) mixed _ _ _ (by
  have h1:=Vt.sound _ h
  refine Eq.mp ?_ h1
  kernel_rfl)) N x o h
abbrev zbb:List (Nat×Sh):=[(0,.val (.list tLn)),(5,.val tI)]
noncomputable def zrS:Code:=zo 12 (zF Tryz.f22)
noncomputable def zn1 (N:Nat) (s0:(List Ln)) (s5:Int):Vt (Lp (shTy zbb).I Bool) (O3 (Option D)) (encO 118 zbb [2] (fun q=>some (E22 q))):=
 .br (decide (s5<(s0.length:Int))) (.g1 (l:=zaA) (o:=zhr N (s0,s5,(IntKind.i64.wrap (s5+1)))) (zpv N (s0,s5,(IntKind.i64.wrap (s5+1)))) (fun x1=> .leaf (.next (x1.1,(IntKind.i64.wrap (x1.2.1+1)))))) (.leaf (.brk 0 (s0,s5)))
noncomputable def zhs (N:Nat) (s0:(List Ln)) (s5:Int):Option (Lp ((List Ln)×Int) Bool):=(zn1 N s0 s5).eval
noncomputable def zkm (N:Nat) (x:((List Ln)×Int)):Option (Lp ((List Ln)×Int) Bool):=zl (fun x=>zhs N x.1 x.2) N x
theorem zpw (N:Nat) (x:(shTy zbb).I): ∀ o,zkm N x=some o→S Tryz.prog (.loop zrS) (zh 118 zbb x) (zK (rdD Tryz.prog Tryz.f22 false) zbb (encO 118 zbb [2] (fun q=>some (E22 q)) o)):=
 fun o h=>zH (l:=zbb) (step:=fun x=>zhs N x.1 x.2) (fun x o h=>zb (tbl:=[(4,[0],zcT),(15,[4],zaA)]) (μ:=[]) mixed _ _ _ (by
  have h1:=Vt.sound _ h
  refine Eq.mp ?_ h1
  kernel_rfl)) N x o h
noncomputable def V22 (N:Nat) (a0:(List Ln)):Vt Bool (Option D) (fun q=>some (E22 q)):=
 .br (decide ((200:Int)<(a0.length:Int))) (.leaf false) (.f1 (l:=zcT) (o:=zpu N (a0,0)) (zrQ N (a0,0)) (fun x1=> .f1 (l:=zbb) (o:=zkm N (x1.1,0)) (zpw N (x1.1,0)) (fun x2=> .leaf true)))
noncomputable def F22 (N:Nat) (a0:(List Ln)):Option Bool:=(V22 N a0).eval
def t22:List (Nat×List Nat×List (Nat×Sh)):=[(4,[0],zcT),(15,[4],zaA),(12,[2],zbb)]
theorem P22 (N:Nat) (a0:(List Ln)): ∀ r,F22 N a0=some r→Spec Tryz.prog 22 [.val (.list tLn) a0] (E22 r):=fun r h=>zk (fn:=Tryz.f22) rfl rfl rfl rfl false (zb (tbl:=t22) (μ:=[]) mixed _ _ _ (by
 have h1:=Vt.sound _ h
 refine Eq.mp ?_ h1
 kernel_rfl))
def E5:Bool→D:=fun x=>encV tB x
noncomputable def V5 (N:Nat) (a0:(List Ln)):Vt Bool (Option D) (fun q=>some (E5 q)):=
 .c1 (P21 N a0) (fun x1=> .br x1 (.br (decide ((a0.length:Int)≤60)) (.c1 (P22 N a0) (fun x2=> .leaf x2)) (.leaf false)) (.leaf false))
noncomputable def F5 (N:Nat) (a0:(List Ln)):Option Bool:=(V5 N a0).eval
def t5:List (Nat×List Nat×List (Nat×Sh)):=[]
theorem P5 (N:Nat) (a0:(List Ln)): ∀ r,F5 N a0=some r→Spec Tryz.prog 5 [.val (.list tLn) a0] (E5 r):=fun r h=>zk (fn:=Tryz.f5) rfl rfl rfl rfl false (zb (tbl:=t5) (μ:=[]) mixed _ _ _ (by
 have h1:=Vt.sound _ h
 refine Eq.mp ?_ h1
 kernel_rfl))
def E113:Bool→D:=fun x=>encV tB x
noncomputable def V113 (N:Nat) (a0:Ln):Vt Bool (Option D) (fun q=>some (E113 q)):=
 .br (decide ((0:Int)≤a0.1)) (.br (decide (a0.1<16)) (.br (decide ((a0.2.1.length:Int)≤40)) (.br (decide ((0:Int)≤a0.2.2)) (.leaf (decide (a0.2.2≤3))) (.leaf false)) (.leaf false)) (.leaf false)) (.leaf false)
noncomputable def F113 (N:Nat) (a0:Ln):Option Bool:=(V113 N a0).eval
def t113:List (Nat×List Nat×List (Nat×Sh)):=[]
theorem P113 (N:Nat) (a0:Ln): ∀ r,F113 N a0=some r→Spec Tryz.prog 113 [.agg [.val tI a0.1,.val tS a0.2.1,.val tI a0.2.2]] (E113 r):=fun r h=>zk (fn:=Tryz.f113) rfl rfl rfl rfl false (zb (tbl:=t113) (μ:=[]) mixed _ _ _ (by
 have h1:=Vt.sound _ h
 refine Eq.mp ?_ h1
 kernel_rfl))
def E56:Bool→D:=fun x=>encV tB x
abbrev zeg:List (Nat×Sh):=[(3,.arr 3 tS),(4,.val tI),(10,.val (.list tLn)),(11,.val tI),(12,.val tI)]
noncomputable def b56_6:Code:=zo 6 (zF Tryz.f56)
noncomputable def zpx (N:Nat) (s3:(List Bs)) (s4:Int) (s10:(List Ln)) (s11:Int) (s12:Int):Vt (Lp (shTy zeg).I Bool) (O3 (Option D)) (encO 48 zeg [0] (fun q=>some (E56 q))):=
 .br (decide (s12<s11)) (.ck (inR s12 s10.length) (.c1 (P113 N (atI tLn s10 s12)) (fun x1=> .br (!x1) (.leaf (.ret false)) (.br (decide ((IntKind.i64.wrap (s4+1))<((atI tLn s10 s12).1))) (.leaf (.ret false)) (.br (decide (((atI tLn s10 s12).1)≤s4)) (.ck (inR ((atI tLn s10 s12).1) 16) (.ck (s3.length=16) (.ck (inR ((atI tLn s10 s12).1) s3.length) (.br ((Op.bytesLess ((atI tLn s10 s12).2.1) (atI tS s3 ((atI tLn s10 s12).1)))||(((atI tLn s10 s12).2.1)==(atI tS s3 ((atI tLn s10 s12).1)))) (.leaf (.ret false)) (.ck (inR ((atI tLn s10 s12).1) 16) (.ck (s3.length=16) (.ck (inR ((atI tLn s10 s12).1) s3.length) (.leaf (.next ((s3.set ((atI tLn s10 s12).1).toNat ((atI tLn s10 s12).2.1)),(atI tLn s10 s12).1,s10,s11,(IntKind.i64.wrap (s12+1)))))))))))) (.ck (inR ((atI tLn s10 s12).1) 16) (.ck (s3.length=16) (.ck (inR ((atI tLn s10 s12).1) s3.length) (.leaf (.next ((s3.set ((atI tLn s10 s12).1).toNat ((atI tLn s10 s12).2.1)),(atI tLn s10 s12).1,s10,s11,(IntKind.i64.wrap (s12+1))))))))))))) (.leaf (.brk 0 (s3,s4,s10,s11,s12)))
noncomputable def zkn (N:Nat) (s3:(List Bs)) (s4:Int) (s10:(List Ln)) (s11:Int) (s12:Int):Option (Lp ((List Bs)×Int×(List Ln)×Int×Int) Bool):=(zpx N s3 s4 s10 s11 s12).eval
noncomputable def zpy (N:Nat) (x:((List Bs)×Int×(List Ln)×Int×Int)):Option (Lp ((List Bs)×Int×(List Ln)×Int×Int) Bool):=zl (fun x=>zkn N x.1 x.2.1 x.2.2.1 x.2.2.2.1 x.2.2.2.2) N x
theorem zrT (N:Nat) (x:(shTy zeg).I): ∀ o,zpy N x=some o→S Tryz.prog (.loop b56_6) (zh 48 zeg x) (zK (rdD Tryz.prog Tryz.f56 false) zeg (encO 48 zeg [0] (fun q=>some (E56 q)) o)):=
 fun o h=>zH (l:=zeg) (step:=fun x=>zkn N x.1 x.2.1 x.2.2.1 x.2.2.2.1 x.2.2.2.2) (fun x o h=>zb (tbl:=[]) (μ:=[]) mixed _ _ _ (by
  have h1:=Vt.sound _ h
  refine Eq.mp ?_ h1
  kernel_rfl)) N x o h
noncomputable def V56 (N:Nat) (a0:(List Ln)):Vt Bool (Option D) (fun q=>some (E56 q)):=
 .br (decide ((200:Int)<(a0.length:Int))) (.leaf false) (.f1 (l:=zeg) (o:=zpy N (([([]:Bs),([]:Bs),([]:Bs),([]:Bs),([]:Bs),([]:Bs),([]:Bs),([]:Bs),([]:Bs),([]:Bs),([]:Bs),([]:Bs),([]:Bs),([]:Bs),([]:Bs),([]:Bs)]:(List Bs)),(-1),a0,(a0.length:Int),0)) (zrT N (([([]:Bs),([]:Bs),([]:Bs),([]:Bs),([]:Bs),([]:Bs),([]:Bs),([]:Bs),([]:Bs),([]:Bs),([]:Bs),([]:Bs),([]:Bs),([]:Bs),([]:Bs),([]:Bs)]:(List Bs)),(-1),a0,(a0.length:Int),0)) (fun x1=> .leaf true))
noncomputable def F56 (N:Nat) (a0:(List Ln)):Option Bool:=(V56 N a0).eval
def t56:List (Nat×List Nat×List (Nat×Sh)):=[(6,[0],zeg)]
theorem P56 (N:Nat) (a0:(List Ln)): ∀ r,F56 N a0=some r→Spec Tryz.prog 56 [.val (.list tLn) a0] (E56 r):=fun r h=>zk (fn:=Tryz.f56) rfl rfl rfl rfl false (zb (tbl:=t56) (μ:=[]) mixed _ _ _ (by
 have h1:=Vt.sound _ h
 refine Eq.mp ?_ h1
 kernel_rfl))
def E57o:(List ((List Bs)×(Bool×Bool)))→D:=fun x=> .own 130 (.pair (.list tS) (.pair tB tB)) x
abbrev zbc:List (Nat×Sh):=[(1,.row false 23 130 (.pair (.list tS) (.pair tB tB))),(5,.row false 5 9 tS),(6,.val tI),(7,.val tI)]
noncomputable def zrU:Code:=zo 3 (zF Tryz.f57)
noncomputable def zrV (N:Nat) (s1:(List ((List Bs)×(Bool×Bool)))) (s5:(List Bs)) (s6:Int) (s7:Int):Vt (Lp (shTy zbc).I (List ((List Bs)×(Bool×Bool)))) (O3 (Option D)) (encO 26 zbc [0] (fun q=>some (E57o q))):=
 .br (decide (s7<s6)) (.ck (inR s7 s5.length) (.ck (inR s7 s5.length) (.c1 (P115 N (atI tS s5 s7) ([43,33]:Bs)) (fun x1=> .c1 (zpo N x1 ([32]:Bs)) (fun x2=> .c1 (P116 N (atI tS s5 s7) ([33]:Bs)) (fun x3=> .ck (room (s1.length+([(x2,(!(x1==(atI tS s5 s7))),x3)]:(List ((List Bs)×(Bool×Bool)))).length)) (.leaf (.next ((s1++([(x2,(!(x1==(atI tS s5 s7))),x3)]:(List ((List Bs)×(Bool×Bool))))),s5,s6,(IntKind.i64.wrap (s7+1))))))))))) (.leaf (.brk 0 (s1,s5,s6,s7)))
noncomputable def zn2 (N:Nat) (s1:(List ((List Bs)×(Bool×Bool)))) (s5:(List Bs)) (s6:Int) (s7:Int):Option (Lp ((List ((List Bs)×(Bool×Bool)))×(List Bs)×Int×Int) (List ((List Bs)×(Bool×Bool)))):=(zrV N s1 s5 s6 s7).eval
noncomputable def zn3 (N:Nat) (x:((List ((List Bs)×(Bool×Bool)))×(List Bs)×Int×Int)):Option (Lp ((List ((List Bs)×(Bool×Bool)))×(List Bs)×Int×Int) (List ((List Bs)×(Bool×Bool)))):=zl (fun x=>zn2 N x.1 x.2.1 x.2.2.1 x.2.2.2) N x
theorem zpz (N:Nat) (x:(shTy zbc).I): ∀ o,zn3 N x=some o→S Tryz.prog (.loop zrU) (zh 26 zbc x) (zK (rdD Tryz.prog Tryz.f57 true) zbc (encO 26 zbc [0] (fun q=>some (E57o q)) o)):=
 fun o h=>zH (l:=zbc) (step:=fun x=>zn2 N x.1 x.2.1 x.2.2.1 x.2.2.2) (fun x o h=>zb (tbl:=[]) (μ:=[5,15]) mixed _ _ _ (by
  have h1:=Vt.sound _ h
  refine Eq.mp ?_ h1
  kernel_rfl)) N x o h
noncomputable def V57o (N:Nat):Vt (List ((List Bs)×(Bool×Bool))) (Option D) (fun q=>some (E57o q)):=
 .c1 (zpo N ([104,111,115,116,115,124,104,111,115,116,115,32,36,110,97,109,101,124,104,111,115,116,115,32,36,110,97,109,101,32,105,112,33,124,104,111,115,116,115,32,36,110,97,109,101,32,105,112,32,36,105,112,124,104,111,115,116,115,32,36,110,97,109,101,32,109,97,99,43,124,104,111,115,116,115,32,36,110,97,109,101,32,109,97,99,32,36,109,97,99,124,104,111,115,116,115,32,36,110,97,109,101,32,118,110,105,115,124,104,111,115,116,115,32,36,110,97,109,101,32,118,110,105,115,32,36,118,110,105,124,118,110,105,115,124,118,110,105,115,32,36,118,110,105,124,118,110,105,115,32,36,118,110,105,32,115,117,98,110,101,116,33,124,118,110,105,115,32,36,118,110,105,32,115,117,98,110,101,116,32,36,112,114,101,102,105,120,124,98,105,110,100,105,110,103,115,124,98,105,110,100,105,110,103,115,32,36,105,112,124,98,105,110,100,105,110,103,115,32,36,105,112,32,104,111,115,116,33,124,98,105,110,100,105,110,103,115,32,36,105,112,32,104,111,115,116,32,36,110,97,109,101,124,98,105,110,100,105,110,103,115,32,36,105,112,32,109,97,99,33,124,98,105,110,100,105,110,103,115,32,36,105,112,32,109,97,99,32,36,109,97,99,124,98,105,110,100,105,110,103,115,32,36,105,112,32,118,110,105,33,124,98,105,110,100,105,110,103,115,32,36,105,112,32,118,110,105,32,36,118,110,105,124,114,111,117,116,101,115,124,114,111,117,116,101,115,32,36,112,114,101,102,105,120,124,114,111,117,116,101,115,32,36,112,114,101,102,105,120,32,118,105,97,33,124,114,111,117,116,101,115,32,36,112,114,101,102,105,120,32,118,105,97,32,36,110,97,109,101,124,114,111,117,116,101,115,32,36,112,114,101,102,105,120,32,109,101,116,114,105,99,43,124,114,111,117,116,101,115,32,36,112,114,101,102,105,120,32,109,101,116,114,105,99,32,36,109,101,116,114,105,99,124,112,111,108,105,99,121,124,112,111,108,105,99,121,32,36,110,117,109,124,112,111,108,105,99,121,32,36,110,117,109,32,97,99,116,105,111,110,33,124,112,111,108,105,99,121,32,36,110,117,109,32,97,99,116,105,111,110,32,36,97,99,116,105,111,110,124,112,111,108,105,99,121,32,36,110,117,109,32,102,114,111,109,43,124,112,111,108,105,99,121,32,36,110,117,109,32,102,114,111,109,32,36,112,114,101,102,105,120,124,112,111,108,105,99,121,32,36,110,117,109,32,116,111,43,124,112,111,108,105,99,121,32,36,110,117,109,32,116,111,32,36,112,114,101,102,105,120]:Bs) ([124]:Bs)) (fun x1=> .f1 (l:=zbc) (o:=zn3 N (([]:(List ((List Bs)×(Bool×Bool)))),x1,(x1.length:Int),0)) (zpz N (([]:(List ((List Bs)×(Bool×Bool)))),x1,(x1.length:Int),0)) (fun x4=> .leaf x4.1))
noncomputable def F57o (N:Nat):Option (List ((List Bs)×(Bool×Bool))):=(V57o N ).eval
def t57o:List (Nat×List Nat×List (Nat×Sh)):=[(3,[0],zbc)]
theorem P57o (N:Nat): ∀ r,F57o N=some r→Spec Tryz.prog 57 [] (E57o r):=fun r h=>zk (fn:=Tryz.f57) rfl rfl rfl rfl true (zb (tbl:=t57o) (μ:=[5,15]) mixed _ _ _ (by
 have h1:=Vt.sound _ h
 refine Eq.mp ?_ h1
 kernel_rfl))
def E117:Bool→D:=fun x=>encV tB x
noncomputable def V117 (N:Nat) (a0:(List Ln)) (a1:Int):Vt Bool (Option D) (fun q=>some (E117 q)):=
 .br (decide ((0:Int)≤a1)) (.br (decide (a1<(a0.length:Int))) (.c1 (P56 N a0) (fun x1=> .leaf x1)) (.leaf false)) (.leaf false)
noncomputable def F117 (N:Nat) (a0:(List Ln)) (a1:Int):Option Bool:=(V117 N a0 a1).eval
def t117:List (Nat×List Nat×List (Nat×Sh)):=[]
theorem P117 (N:Nat) (a0:(List Ln)) (a1:Int): ∀ r,F117 N a0 a1=some r→Spec Tryz.prog 117 [.val (.list tLn) a0,.val tI a1] (E117 r):=fun r h=>zk (fn:=Tryz.f117) rfl rfl rfl rfl false (zb (tbl:=t117) (μ:=[]) mixed _ _ _ (by
 have h1:=Vt.sound _ h
 refine Eq.mp ?_ h1
 kernel_rfl))
def E118:Int→D:=fun x=>encV tI x
abbrev zbd:List (Nat×Sh):=[(0,.val (.list tLn)),(1,.val tI),(5,.val tI)]
noncomputable def zrW:Code:=zo 4 (zF Tryz.f118)
noncomputable def zn4 (N:Nat) (s0:(List Ln)) (s1:Int) (s5:Int):Vt (Lp (shTy zbd).I Int) (O3 (Option D)) (encO 29 zbd [0] (fun q=>some (E118 q))):=
 .br (decide ((0:Int)≤s5)) (.ck (inR s5 s0.length) (.ck (inR s1 s0.length) (.br (decide (((atI tLn s0 s1).1)≤((atI tLn s0 s5).1))) (.leaf (.next (s0,s1,(IntKind.i64.wrap (s5 - 1))))) (.leaf (.brk 0 (s0,s1,s5)))))) (.leaf (.brk 0 (s0,s1,s5)))
noncomputable def zht (N:Nat) (s0:(List Ln)) (s1:Int) (s5:Int):Option (Lp ((List Ln)×Int×Int) Int):=(zn4 N s0 s1 s5).eval
noncomputable def zko (N:Nat) (x:((List Ln)×Int×Int)):Option (Lp ((List Ln)×Int×Int) Int):=zl (fun x=>zht N x.1 x.2.1 x.2.2) N x
theorem zpA (N:Nat) (x:(shTy zbd).I): ∀ o,zko N x=some o→S Tryz.prog (.loop zrW) (zh 29 zbd x) (zK (rdD Tryz.prog Tryz.f118 false) zbd (encO 29 zbd [0] (fun q=>some (E118 q)) o)):=
 fun o h=>zH (l:=zbd) (step:=fun x=>zht N x.1 x.2.1 x.2.2) (fun x o h=>zb (tbl:=[]) (μ:=[]) mixed _ _ _ (by
  have h1:=Vt.sound _ h
  refine Eq.mp ?_ h1
  kernel_rfl)) N x o h
noncomputable def V118 (N:Nat) (a0:(List Ln)) (a1:Int):Vt Int (Option D) (fun q=>some (E118 q)):=
 .c1 (P117 N a0 a1) (fun x1=> .br (!x1) (.leaf (-1)) (.f1 (l:=zbd) (o:=zko N (a0,a1,a1)) (zpA N (a0,a1,a1)) (fun x2=> .leaf x2.2.2)))
noncomputable def F118 (N:Nat) (a0:(List Ln)) (a1:Int):Option Int:=(V118 N a0 a1).eval
def t118:List (Nat×List Nat×List (Nat×Sh)):=[(4,[0],zbd)]
theorem P118 (N:Nat) (a0:(List Ln)) (a1:Int): ∀ r,F118 N a0 a1=some r→Spec Tryz.prog 118 [.val (.list tLn) a0,.val tI a1] (E118 r):=fun r h=>zk (fn:=Tryz.f118) rfl rfl rfl rfl false (zb (tbl:=t118) (μ:=[]) mixed _ _ _ (by
 have h1:=Vt.sound _ h
 refine Eq.mp ?_ h1
 kernel_rfl))
def E58o:((List Bs)×Int)→D:=fun x=> .tup [.own 9 tS x.1,encV tI x.2]
abbrev zbe:List (Nat×Sh):=[(0,.val (.list tLn)),(6,.row false 25 9 tS),(7,.val tI)]
noncomputable def zrX:Code:=zo 5 (zF Tryz.f58)
noncomputable def zn5 (N:Nat) (s0:(List Ln)) (s6:(List Bs)) (s7:Int):Vt (Lp (shTy zbe).I ((List Bs)×Int)) (O3 (Option D)) (encO 29 zbe [0] (fun q=>some (E58o q))):=
 .br (decide ((0:Int)≤s7)) (.ck (inR s7 s0.length) (.ck (room (s6.length+([(atI tLn s0 s7).2.1]:(List Bs)).length)) (.c1 (P118 N s0 s7) (fun x1=> .leaf (.next (s0,(s6++([(atI tLn s0 s7).2.1]:(List Bs))),x1)))))) (.leaf (.brk 0 (s0,s6,s7)))
noncomputable def zhu (N:Nat) (s0:(List Ln)) (s6:(List Bs)) (s7:Int):Option (Lp ((List Ln)×(List Bs)×Int) ((List Bs)×Int)):=(zn5 N s0 s6 s7).eval
noncomputable def zkp (N:Nat) (x:((List Ln)×(List Bs)×Int)):Option (Lp ((List Ln)×(List Bs)×Int) ((List Bs)×Int)):=zl (fun x=>zhu N x.1 x.2.1 x.2.2) N x
theorem zpB (N:Nat) (x:(shTy zbe).I): ∀ o,zkp N x=some o→S Tryz.prog (.loop zrX) (zh 29 zbe x) (zK (rdD Tryz.prog Tryz.f58 true) zbe (encO 29 zbe [0] (fun q=>some (E58o q)) o)):=
 fun o h=>zH (l:=zbe) (step:=fun x=>zhu N x.1 x.2.1 x.2.2) (fun x o h=>zb (tbl:=[]) (μ:=[]) mixed _ _ _ (by
  have h1:=Vt.sound _ h
  refine Eq.mp ?_ h1
  kernel_rfl)) N x o h
noncomputable def V58o (N:Nat) (a0:(List Ln)) (a1:Int):Vt ((List Bs)×Int) (Option D) (fun q=>some (E58o q)):=
 .c1 (P117 N a0 a1) (fun x1=> .br (!x1) (.leaf (([]:(List Bs)),1)) (.f1 (l:=zbe) (o:=zkp N (a0,([]:(List Bs)),a1)) (zpB N (a0,([]:(List Bs)),a1)) (fun x1=> .cr (P119r N x1.2.1) (fun x2=> .leaf (x2,0)))))
noncomputable def F58o (N:Nat) (a0:(List Ln)) (a1:Int):Option ((List Bs)×Int):=(V58o N a0 a1).eval
def t58o:List (Nat×List Nat×List (Nat×Sh)):=[(5,[0],zbe)]
theorem P58o (N:Nat) (a0:(List Ln)) (a1:Int): ∀ r,F58o N a0 a1=some r→Spec Tryz.prog 58 [.val (.list tLn) a0,.val tI a1] (E58o r):=fun r h=>zk (fn:=Tryz.f58) rfl rfl rfl rfl true (zb (tbl:=t58o) (μ:=[1000119]) mixed _ _ _ (by
 have h1:=Vt.sound _ h
 refine Eq.mp ?_ h1
 kernel_rfl))
def E78:(Int×Bool)→D:=fun x=> .tup [encV tI x.1,encV tB x.2]
noncomputable def V78 (N:Nat) (a0:Bs) (a1:Int) (a2:Int):Vt (Int×Bool) (Option D) (fun q=>some (E78 q)):=
 .c2 (P138 N a0) (fun x1 x2=> .br x2 (.leaf (0,false)) (.br (decide ((10:Int)<(a0.length:Int))) (.leaf (0,false)) (.br (decide (x1<(imax a1 0))) (.leaf (0,false)) (.br (decide (a2<x1)) (.leaf (0,false)) (.c1 (P139 N x1) (fun x3=> .br (!(x3==a0)) (.leaf (0,false)) (.leaf (x1,true))))))))
noncomputable def F78 (N:Nat) (a0:Bs) (a1:Int) (a2:Int):Option (Int×Bool):=(V78 N a0 a1 a2).eval
def t78:List (Nat×List Nat×List (Nat×Sh)):=[]
theorem P78 (N:Nat) (a0:Bs) (a1:Int) (a2:Int): ∀ r,F78 N a0 a1 a2=some r→Spec Tryz.prog 78 [.val tS a0,.val tI a1,.val tI a2] (E78 r):=fun r h=>zk (fn:=Tryz.f78) rfl rfl rfl rfl false (zb (tbl:=t78) (μ:=[]) mixed _ _ _ (by
 have h1:=Vt.sound _ h
 refine Eq.mp ?_ h1
 kernel_rfl))
def E77:(Int×Bool)→D:=fun x=> .tup [encV tI x.1,encV tB x.2]
abbrev zeh:List (Nat×Sh):=[(5,.val tI),(15,.row false 11 9 tS),(16,.val tI),(17,.val tI)]
noncomputable def b77_6:Code:=zo 6 (zF Tryz.f77)
noncomputable def zrY (N:Nat) (s5:Int) (s15:(List Bs)) (s16:Int) (s17:Int):Vt (Lp (shTy zeh).I (Int×Bool)) (O3 (Option D)) (encO 34 zeh [0] (fun q=>some (E77 q))):=
 .br (decide (s17<s16)) (.ck (inR s17 s15.length) (.ck (inR s17 s15.length) (.c2 (P78 N (atI tS s15 s17) 0 255) (fun x1 x2=> .br (!x2) (.leaf (.ret (0,false))) (.ck (0≤(8:Int)) (.leaf (.next ((IntKind.i64.wrap (((BitVec.ofInt IntKind.i64.bits (IntKind.i64.wrap (s5*2 ^ (min (8:Int).toNat (IntKind.i64.bits)))) ||| BitVec.ofInt IntKind.i64.bits x1).toNat:Int))),s15,s16,(IntKind.i64.wrap (s17+1)))))))))) (.leaf (.brk 0 (s5,s15,s16,s17)))
noncomputable def zmM (N:Nat) (s5:Int) (s15:(List Bs)) (s16:Int) (s17:Int):Option (Lp (Int×(List Bs)×Int×Int) (Int×Bool)):=(zrY N s5 s15 s16 s17).eval
noncomputable def zpC (N:Nat) (x:(Int×(List Bs)×Int×Int)):Option (Lp (Int×(List Bs)×Int×Int) (Int×Bool)):=zl (fun x=>zmM N x.1 x.2.1 x.2.2.1 x.2.2.2) N x
theorem zrZ (N:Nat) (x:(shTy zeh).I): ∀ o,zpC N x=some o→S Tryz.prog (.loop b77_6) (zh 34 zeh x) (zK (rdD Tryz.prog Tryz.f77 false) zeh (encO 34 zeh [0] (fun q=>some (E77 q)) o)):=
 fun o h=>zH (l:=zeh) (step:=fun x=>zmM N x.1 x.2.1 x.2.2.1 x.2.2.2) (fun x o h=>zb (tbl:=[]) (μ:=[11]) mixed _ _ _ (by
  have h1:=Vt.sound _ h
  refine Eq.mp ?_ h1
  kernel_rfl)) N x o h
noncomputable def V77 (N:Nat) (a0:Bs):Vt (Int×Bool) (Option D) (fun q=>some (E77 q)):=
 .c1 (zpo N a0 ([46]:Bs)) (fun x1=> .br ((x1.length:Int) !=4) (.leaf (0,false)) (.f1 (l:=zeh) (o:=zpC N (0,x1,(x1.length:Int),0)) (zrZ N (0,x1,(x1.length:Int),0)) (fun x2=> .leaf (x2.1,true))))
noncomputable def F77 (N:Nat) (a0:Bs):Option (Int×Bool):=(V77 N a0).eval
def t77:List (Nat×List Nat×List (Nat×Sh)):=[(6,[0],zeh)]
theorem P77 (N:Nat) (a0:Bs): ∀ r,F77 N a0=some r→Spec Tryz.prog 77 [.val tS a0] (E77 r):=fun r h=>zk (fn:=Tryz.f77) rfl rfl rfl rfl false (zb (tbl:=t77) (μ:=[11]) mixed _ _ _ (by
 have h1:=Vt.sound _ h
 refine Eq.mp ?_ h1
 kernel_rfl))
def E80:Int→D:=fun x=>encV tI x
noncomputable def V80 (N:Nat) (a0:Int):Vt Int (Option D) (fun q=>some (E80 q)):=
 .ck (0≤(IntKind.i64.wrap (32 - a0))) (.leaf (IntKind.i64.wrap ((IntKind.i64.wrap (1*2 ^ (min (IntKind.i64.wrap (32 - a0)).toNat (IntKind.i64.bits)))) - 1)))
noncomputable def F80 (N:Nat) (a0:Int):Option Int:=(V80 N a0).eval
def t80:List (Nat×List Nat×List (Nat×Sh)):=[]
theorem P80 (N:Nat) (a0:Int): ∀ r,F80 N a0=some r→Spec Tryz.prog 80 [.val tI a0] (E80 r):=fun r h=>zk (fn:=Tryz.f80) rfl rfl rfl rfl false (zb (tbl:=t80) (μ:=[]) mixed _ _ _ (by
 have h1:=Vt.sound _ h
 refine Eq.mp ?_ h1
 kernel_rfl))
def E79:Bool→D:=fun x=>encV tB x
noncomputable def V79 (N:Nat) (a0:Int) (a1:Int):Vt Bool (Option D) (fun q=>some (E79 q)):=
 .br (decide ((0:Int)≤a0)) (.br (decide (a0<4294967296)) (.br (decide ((0:Int)≤a1)) (.br (decide (a1≤32)) (.c1 (P80 N a1) (fun x1=> .leaf ((IntKind.i64.wrap (((BitVec.ofInt IntKind.i64.bits a0 &&& BitVec.ofInt IntKind.i64.bits x1).toNat:Int)))==0))) (.leaf false)) (.leaf false)) (.leaf false)) (.leaf false)
noncomputable def F79 (N:Nat) (a0:Int) (a1:Int):Option Bool:=(V79 N a0 a1).eval
def t79:List (Nat×List Nat×List (Nat×Sh)):=[]
theorem P79 (N:Nat) (a0:Int) (a1:Int): ∀ r,F79 N a0 a1=some r→Spec Tryz.prog 79 [.val tI a0,.val tI a1] (E79 r):=fun r h=>zk (fn:=Tryz.f79) rfl rfl rfl rfl false (zb (tbl:=t79) (μ:=[]) mixed _ _ _ (by
 have h1:=Vt.sound _ h
 refine Eq.mp ?_ h1
 kernel_rfl))
def E39:(Int×Int×Bool)→D:=fun x=> .tup [encV tI x.1,encV tI x.2.1,encV tB x.2.2]
noncomputable def V39 (N:Nat) (a0:Bs):Vt (Int×Int×Bool) (Option D) (fun q=>some (E39 q)):=
 .c3 (P76 N a0 ([47]:Bs)) (fun x1 x2 x3=> .c2 (P77 N x1) (fun x4 x5=> .c2 (P78 N x2 0 32) (fun x6 x7=> .br (!x3) (.leaf (0,0,false)) (.br (!x5) (.leaf (0,0,false)) (.br (!x7) (.leaf (0,0,false)) (.c1 (P79 N x4 x6) (fun x8=> .br (!x8) (.leaf (0,0,false)) (.leaf (x4,x6,true)))))))))
noncomputable def F39 (N:Nat) (a0:Bs):Option (Int×Int×Bool):=(V39 N a0).eval
def t39:List (Nat×List Nat×List (Nat×Sh)):=[]
theorem P39 (N:Nat) (a0:Bs): ∀ r,F39 N a0=some r→Spec Tryz.prog 39 [.val tS a0] (E39 r):=fun r h=>zk (fn:=Tryz.f39) rfl rfl rfl rfl false (zb (tbl:=t39) (μ:=[]) mixed _ _ _ (by
 have h1:=Vt.sound _ h
 refine Eq.mp ?_ h1
 kernel_rfl))
def E378:Bool→D:=fun x=>encV tB x
noncomputable def V378 (N:Nat) (a0:Bs):Vt Bool (Option D) (fun q=>some (E378 q)):=
 .br (!(a0==([]:Bs))) (.br (decide ((a0.length:Int)≤16)) (.ck (inR 0 a0.length) (.br (decide ((97:Int)≤(qg a0 0))) (.ck (inR 0 a0.length) (.br (decide ((qg a0 0)≤122)) (.c1 (P431 N a0 ([97,98,99,100,101,102,103,104,105,106,107,108,109,110,111,112,113,114,115,116,117,118,119,120,121,122,48,49,50,51,52,53,54,55,56,57,45]:Bs)) (fun x1=> .leaf (x1==([]:Bs)))) (.leaf false))) (.leaf false))) (.leaf false)) (.leaf false)
noncomputable def F378 (N:Nat) (a0:Bs):Option Bool:=(V378 N a0).eval
def t378:List (Nat×List Nat×List (Nat×Sh)):=[]
theorem P378 (N:Nat) (a0:Bs): ∀ r,F378 N a0=some r→Spec Tryz.prog 378 [.val tS a0] (E378 r):=fun r h=>zk (fn:=Tryz.f378) rfl rfl rfl rfl false (zb (tbl:=t378) (μ:=[]) mixed _ _ _ (by
 have h1:=Vt.sound _ h
 refine Eq.mp ?_ h1
 kernel_rfl))
def E434:(Bs×Bool)→D:=fun x=> .tup [encV tS x.1,encV tB x.2]
abbrev zbf:List (Nat×Sh):=[(0,.val tI),(4,.row false 31 9 tS),(5,.val tI)]
noncomputable def zr0:Code:=zo 5 (zF Tryz.f434)
noncomputable def zn6 (N:Nat) (s0:Int) (s4:(List Bs)) (s5:Int):Vt (Lp (shTy zbf).I (Bs×Bool)) (O3 (Option D)) (encO 34 zbf [0] (fun q=>some (E434 q))):=
 .br (decide ((0:Int)≤s5)) (.ck (0≤s5) (.ck (0≤(4:Int)) (.ck (inR ((IntKind.i64.wrap (((BitVec.ofInt IntKind.i64.bits (s0.fdiv (2 ^ (min s5.toNat (IntKind.i64.bits)))) &&& BitVec.ofInt IntKind.i64.bits 255).toNat:Int))).fdiv (2 ^ (min (4:Int).toNat (IntKind.i64.bits)))) ([48,49,50,51,52,53,54,55,56,57,97,98,99,100,101,102]:Bs).length) (.ck (inR (IntKind.i64.wrap (((BitVec.ofInt IntKind.i64.bits (IntKind.i64.wrap (((BitVec.ofInt IntKind.i64.bits (s0.fdiv (2 ^ (min s5.toNat (IntKind.i64.bits)))) &&& BitVec.ofInt IntKind.i64.bits 255).toNat:Int))) &&& BitVec.ofInt IntKind.i64.bits 15).toNat:Int))) ([48,49,50,51,52,53,54,55,56,57,97,98,99,100,101,102]:Bs).length) (.ck (room (s4.length+([(strOf ([(qg ([48,49,50,51,52,53,54,55,56,57,97,98,99,100,101,102]:Bs) ((IntKind.i64.wrap (((BitVec.ofInt IntKind.i64.bits (s0.fdiv (2 ^ (min s5.toNat (IntKind.i64.bits)))) &&& BitVec.ofInt IntKind.i64.bits 255).toNat:Int))).fdiv (2 ^ (min (4:Int).toNat (IntKind.i64.bits))))),(qg ([48,49,50,51,52,53,54,55,56,57,97,98,99,100,101,102]:Bs) (IntKind.i64.wrap (((BitVec.ofInt IntKind.i64.bits (IntKind.i64.wrap (((BitVec.ofInt IntKind.i64.bits (s0.fdiv (2 ^ (min s5.toNat (IntKind.i64.bits)))) &&& BitVec.ofInt IntKind.i64.bits 255).toNat:Int))) &&& BitVec.ofInt IntKind.i64.bits 15).toNat:Int))))]:(List Int)))]:(List Bs)).length)) (.leaf (.next (s0,(s4++([(strOf ([(qg ([48,49,50,51,52,53,54,55,56,57,97,98,99,100,101,102]:Bs) ((IntKind.i64.wrap (((BitVec.ofInt IntKind.i64.bits (s0.fdiv (2 ^ (min s5.toNat (IntKind.i64.bits)))) &&& BitVec.ofInt IntKind.i64.bits 255).toNat:Int))).fdiv (2 ^ (min (4:Int).toNat (IntKind.i64.bits))))),(qg ([48,49,50,51,52,53,54,55,56,57,97,98,99,100,101,102]:Bs) (IntKind.i64.wrap (((BitVec.ofInt IntKind.i64.bits (IntKind.i64.wrap (((BitVec.ofInt IntKind.i64.bits (s0.fdiv (2 ^ (min s5.toNat (IntKind.i64.bits)))) &&& BitVec.ofInt IntKind.i64.bits 255).toNat:Int))) &&& BitVec.ofInt IntKind.i64.bits 15).toNat:Int))))]:(List Int)))]:(List Bs))),(IntKind.i64.wrap (s5 - 8)))))))))) (.leaf (.brk 0 (s0,s4,s5)))
noncomputable def zhv (N:Nat) (s0:Int) (s4:(List Bs)) (s5:Int):Option (Lp (Int×(List Bs)×Int) (Bs×Bool)):=(zn6 N s0 s4 s5).eval
noncomputable def zkq (N:Nat) (x:(Int×(List Bs)×Int)):Option (Lp (Int×(List Bs)×Int) (Bs×Bool)):=zl (fun x=>zhv N x.1 x.2.1 x.2.2) N x
theorem zpD (N:Nat) (x:(shTy zbf).I): ∀ o,zkq N x=some o→S Tryz.prog (.loop zr0) (zh 34 zbf x) (zK (rdD Tryz.prog Tryz.f434 false) zbf (encO 34 zbf [0] (fun q=>some (E434 q)) o)):=
 fun o h=>zH (l:=zbf) (step:=fun x=>zhv N x.1 x.2.1 x.2.2) (fun x o h=>zb (tbl:=[]) (μ:=[]) mixed _ _ _ (by
  have h1:=Vt.sound _ h
  refine Eq.mp ?_ h1
  kernel_rfl)) N x o h
noncomputable def V434 (N:Nat) (a0:Int):Vt (Bs×Bool) (Option D) (fun q=>some (E434 q)):=
 .br (decide (a0<0)) (.leaf (([]:Bs),false)) (.br (decide ((281474976710656:Int)≤a0)) (.leaf (([]:Bs),false)) (.f1 (l:=zbf) (o:=zkq N (a0,([]:(List Bs)),40)) (zpD N (a0,([]:(List Bs)),40)) (fun x1=> .c1 (P55 N x1.2.1 ([58]:Bs)) (fun x2=> .leaf (x2,true)))))
noncomputable def F434 (N:Nat) (a0:Int):Option (Bs×Bool):=(V434 N a0).eval
def t434:List (Nat×List Nat×List (Nat×Sh)):=[(5,[0],zbf)]
theorem P434 (N:Nat) (a0:Int): ∀ r,F434 N a0=some r→Spec Tryz.prog 434 [.val tI a0] (E434 r):=fun r h=>zk (fn:=Tryz.f434) rfl rfl rfl rfl false (zb (tbl:=t434) (μ:=[]) mixed _ _ _ (by
 have h1:=Vt.sound _ h
 refine Eq.mp ?_ h1
 kernel_rfl))
def E379:(Int×Bool)→D:=fun x=> .tup [encV tI x.1,encV tB x.2]
noncomputable def V379 (N:Nat) (a0:Bs):Vt (Int×Bool) (Option D) (fun q=>some (E379 q)):=
 .c1 (P433 N a0 ([58]:Bs) ([]:Bs)) (fun x1=> .c2 (P432 N x1 16 48) (fun x2 x3=> .c2 (P434 N (IntKind.i64.wrap x2)) (fun x4 x5=> .br x3 (.leaf (0,false)) (.br (!x5) (.leaf (0,false)) (.br (!(x4==a0)) (.leaf (0,false)) (.leaf ((IntKind.i64.wrap x2),true)))))))
noncomputable def F379 (N:Nat) (a0:Bs):Option (Int×Bool):=(V379 N a0).eval
def t379:List (Nat×List Nat×List (Nat×Sh)):=[]
theorem P379 (N:Nat) (a0:Bs): ∀ r,F379 N a0=some r→Spec Tryz.prog 379 [.val tS a0] (E379 r):=fun r h=>zk (fn:=Tryz.f379) rfl rfl rfl rfl false (zb (tbl:=t379) (μ:=[]) mixed _ _ _ (by
 have h1:=Vt.sound _ h
 refine Eq.mp ?_ h1
 kernel_rfl))
def E312:Bool→D:=fun x=>encV tB x
noncomputable def V312 (N:Nat) (a0:Bs) (a1:Bs):Vt Bool (Option D) (fun q=>some (E312 q)):=
 .br (a0==([36,110,97,109,101]:Bs)) (.c1 (P378 N a1) (fun x1=> .leaf x1)) (.br (a0==([36,105,112]:Bs)) (.c2 (P77 N a1) (fun x2 x3=> .leaf x3)) (.br (a0==([36,112,114,101,102,105,120]:Bs)) (.c3 (P39 N a1) (fun x4 x5 x6=> .leaf x6)) (.br (a0==([36,109,97,99]:Bs)) (.c2 (P379 N a1) (fun x7 x8=> .leaf x8)) (.br (a0==([36,118,110,105]:Bs)) (.c2 (P78 N a1 1 16777215) (fun x9 x10=> .leaf x10)) (.br (a0==([36,110,117,109]:Bs)) (.c2 (P78 N a1 1 1000) (fun x11 x12=> .leaf x12)) (.br (a0==([36,109,101,116,114,105,99]:Bs)) (.c2 (P380 N a1) (fun x13 x14=> .leaf x14)) (.br (a0==([36,97,99,116,105,111,110]:Bs)) (.br (a1==([112,101,114,109,105,116]:Bs)) (.leaf true) (.leaf (a1==([100,101,110,121]:Bs)))) (.leaf false))))))))
noncomputable def F312 (N:Nat) (a0:Bs) (a1:Bs):Option Bool:=(V312 N a0 a1).eval
def t312:List (Nat×List Nat×List (Nat×Sh)):=[]
theorem P312 (N:Nat) (a0:Bs) (a1:Bs): ∀ r,F312 N a0 a1=some r→Spec Tryz.prog 312 [.val tS a0,.val tS a1] (E312 r):=fun r h=>zk (fn:=Tryz.f312) rfl rfl rfl rfl false (zb (tbl:=t312) (μ:=[]) mixed _ _ _ (by
 have h1:=Vt.sound _ h
 refine Eq.mp ?_ h1
 kernel_rfl))
def E197:Bool→D:=fun x=>encV tB x
noncomputable def V197 (N:Nat) (a0:Bs) (a1:Bs):Vt Bool (Option D) (fun q=>some (E197 q)):=
 .c1 (P125 N a0 ([36]:Bs)) (fun x1=> .br x1 (.c1 (P312 N a0 a1) (fun x2=> .leaf x2)) (.leaf (a0==a1)))
noncomputable def F197 (N:Nat) (a0:Bs) (a1:Bs):Option Bool:=(V197 N a0 a1).eval
def t197:List (Nat×List Nat×List (Nat×Sh)):=[]
theorem P197 (N:Nat) (a0:Bs) (a1:Bs): ∀ r,F197 N a0 a1=some r→Spec Tryz.prog 197 [.val tS a0,.val tS a1] (E197 r):=fun r h=>zk (fn:=Tryz.f197) rfl rfl rfl rfl false (zb (tbl:=t197) (μ:=[]) mixed _ _ _ (by
 have h1:=Vt.sound _ h
 refine Eq.mp ?_ h1
 kernel_rfl))
def zcf:Bool→D:=fun x=>encV tB x
abbrev yx:List (Nat×Sh):=[(1,.val (.list tS)),(2,.fnc 197),(15,.val (.list tS)),(16,.val tI),(17,.val tI)]
noncomputable def ziA:Code:=zo 4 (zF Tryz.f196)
noncomputable def zbO (N:Nat) (s1:(List Bs)) (s2:Bool) (s15:(List Bs)) (s16:Int) (s17:Int):Vt (Lp (shTy yx).I Bool) (O3 (Option D)) (encO 32 yx [0] (fun q=>some (zcf q))):=
 .br (decide (s17<s16)) (.ck (inR s17 s15.length) (.ck (inR s17 s1.length) (.c1 (P197 N (atI tS s15 s17) (atI tS s1 s17)) (fun x1=> .br (!x1) (.leaf (.ret false)) (.leaf (.next (s1,true,s15,s16,(IntKind.i64.wrap (s17+1))))))))) (.leaf (.brk 0 (s1,true,s15,s16,s17)))
noncomputable def jr (N:Nat) (s1:(List Bs)) (s2:Bool) (s15:(List Bs)) (s16:Int) (s17:Int):Option (Lp ((List Bs)×Bool×(List Bs)×Int×Int) Bool):=(zbO N s1 s2 s15 s16 s17).eval
noncomputable def zbP (N:Nat) (x:((List Bs)×Bool×(List Bs)×Int×Int)):Option (Lp ((List Bs)×Bool×(List Bs)×Int×Int) Bool):=zl (fun x=>jr N x.1 x.2.1 x.2.2.1 x.2.2.2.1 x.2.2.2.2) N x
theorem zgk (N:Nat) (x:(shTy yx).I): ∀ o,zbP N x=some o→S Tryz.prog (.loop ziA) (zh 32 yx x) (zK (rdD Tryz.prog Tryz.f196 false) yx (encO 32 yx [0] (fun q=>some (zcf q)) o)):=
 fun o h=>zH (l:=yx) (step:=fun x=>jr N x.1 x.2.1 x.2.2.1 x.2.2.2.1 x.2.2.2.2) (fun x o h=>zb (tbl:=[]) (μ:=[]) mixed _ _ _ (by
  have h1:=Vt.sound _ h
  refine Eq.mp ?_ h1
  kernel_rfl)) N x o h
noncomputable def zhw (N:Nat) (a0:(List Bs)) (a1:(List Bs)):Vt Bool (Option D) (fun q=>some (zcf q)):=
 .br ((a0.length:Int) !=(a1.length:Int)) (.leaf false) (.f1 (l:=yx) (o:=zbP N (a1,true,a0,(a0.length:Int),0)) (zgk N (a1,true,a0,(a0.length:Int),0)) (fun x1=> .leaf true))
noncomputable def zei (N:Nat) (a0:(List Bs)) (a1:(List Bs)):Option Bool:=(zhw N a0 a1).eval
def zmN:List (Nat×List Nat×List (Nat×Sh)):=[(4,[0],yx)]
theorem zmO (N:Nat) (a0:(List Bs)) (a1:(List Bs)): ∀ r,zei N a0 a1=some r→Spec Tryz.prog 196 [.val (.list tS) a0,.val (.list tS) a1,.fn (.func 197)] (zcf r):=fun r h=>zk (fn:=Tryz.f196) rfl rfl rfl rfl false (zb (tbl:=zmN) (μ:=[]) mixed _ _ _ (by
 have h1:=Vt.sound _ h
 refine Eq.mp ?_ h1
 kernel_rfl))
def E122:Bool→D:=fun x=>encV tB x
noncomputable def V122 (N:Nat) (a0:(List Bs)) (a1:(List Bs)):Vt Bool (Option D) (fun q=>some (E122 q)):=
 .c1 (zmO N a0 a1) (fun x1=> .leaf x1)
noncomputable def F122 (N:Nat) (a0:(List Bs)) (a1:(List Bs)):Option Bool:=(V122 N a0 a1).eval
def t122:List (Nat×List Nat×List (Nat×Sh)):=[]
theorem P122 (N:Nat) (a0:(List Bs)) (a1:(List Bs)): ∀ r,F122 N a0 a1=some r→Spec Tryz.prog 122 [.val (.list tS) a0,.val (.list tS) a1] (E122 r):=fun r h=>zk (fn:=Tryz.f122) rfl rfl rfl rfl false (zb (tbl:=t122) (μ:=[]) mixed _ _ _ (by
 have h1:=Vt.sound _ h
 refine Eq.mp ?_ h1
 kernel_rfl))
def E121:Bool→D:=fun x=>encV tB x
noncomputable def V121 (N:Nat) (a0:((List Bs)×(Bool×Bool))) (c0:(List Bs)):Vt Bool (Option D) (fun q=>some (E121 q)):=
 .c1 (P122 N a0.1 c0) (fun x1=> .leaf x1)
noncomputable def F121 (N:Nat) (a0:((List Bs)×(Bool×Bool))) (c0:(List Bs)):Option Bool:=(V121 N a0 c0).eval
def t121:List (Nat×List Nat×List (Nat×Sh)):=[]
theorem P121 (N:Nat) (a0:((List Bs)×(Bool×Bool))) (c0:(List Bs)): ∀ r,F121 N a0 c0=some r→Spec Tryz.prog 121 [.agg [.val (.list tS) a0.1,.val tB a0.2.1,.val tB a0.2.2],.ept [.val (.list tS) c0]] (E121 r):=fun r h=>zk (fn:=Tryz.f121) rfl rfl rfl rfl false (zb (tbl:=t121) (μ:=[]) mixed _ _ _ (by
 have h1:=Vt.sound _ h
 refine Eq.mp ?_ h1
 kernel_rfl))
def zcg:Int→D:=fun x=>encV tI x
abbrev yz:List (Nat×Sh):=[(0,.val (.list (.pair (.list tS) (.pair tB tB)))),(1,.val (.clo 121 (.ref (.list tS)))),(7,.val tI),(8,.val tI)]
noncomputable def ziB:Code:=zo 2 (zF Tryz.f120)
noncomputable def zbQ (N:Nat) (s0:(List ((List Bs)×(Bool×Bool)))) (s1:(List Bs)) (s7:Int) (s8:Int):Vt (Lp (shTy yz).I Int) (O3 (Option D)) (encO 19 yz [0] (fun q=>some (zcg q))):=
 .br (decide (s8<s7)) (.ck (inR s8 s0.length) (.c1 (P121 N (atI (.pair (.list tS) (.pair tB tB)) s0 s8) s1) (fun x1=> .br x1 (.leaf (.ret s8)) (.leaf (.next (s0,s1,s7,(IntKind.i64.wrap (s8+1)))))))) (.leaf (.brk 0 (s0,s1,s7,s8)))
noncomputable def js (N:Nat) (s0:(List ((List Bs)×(Bool×Bool)))) (s1:(List Bs)) (s7:Int) (s8:Int):Option (Lp ((List ((List Bs)×(Bool×Bool)))×(List Bs)×Int×Int) Int):=(zbQ N s0 s1 s7 s8).eval
noncomputable def zbR (N:Nat) (x:((List ((List Bs)×(Bool×Bool)))×(List Bs)×Int×Int)):Option (Lp ((List ((List Bs)×(Bool×Bool)))×(List Bs)×Int×Int) Int):=zl (fun x=>js N x.1 x.2.1 x.2.2.1 x.2.2.2) N x
theorem zgl (N:Nat) (x:(shTy yz).I): ∀ o,zbR N x=some o→S Tryz.prog (.loop ziB) (zh 19 yz x) (zK (rdD Tryz.prog Tryz.f120 false) yz (encO 19 yz [0] (fun q=>some (zcg q)) o)):=
 fun o h=>zH (l:=yz) (step:=fun x=>js N x.1 x.2.1 x.2.2.1 x.2.2.2) (fun x o h=>zb (tbl:=[]) (μ:=[]) mixed _ _ _ (by
  have h1:=Vt.sound _ h
  refine Eq.mp ?_ h1
  kernel_rfl)) N x o h
noncomputable def zhx (N:Nat) (a0:(List ((List Bs)×(Bool×Bool)))) (k0:(List Bs)):Vt Int (Option D) (fun q=>some (zcg q)):=
 .f1 (l:=yz) (o:=zbR N (a0,k0,(a0.length:Int),0)) (zgl N (a0,k0,(a0.length:Int),0)) (fun x1=> .leaf (-1))
noncomputable def zej (N:Nat) (a0:(List ((List Bs)×(Bool×Bool)))) (k0:(List Bs)):Option Int:=(zhx N a0 k0).eval
def zmP:List (Nat×List Nat×List (Nat×Sh)):=[(2,[0],yz)]
theorem zmQ (N:Nat) (a0:(List ((List Bs)×(Bool×Bool)))) (k0:(List Bs)): ∀ r,zej N a0 k0=some r→Spec Tryz.prog 120 [.val (.list (.pair (.list tS) (.pair tB tB))) a0,.clo 121 [.ept [.val (.list tS) k0]]] (zcg r):=fun r h=>zk (fn:=Tryz.f120) rfl rfl rfl rfl false (zb (tbl:=zmP) (μ:=[]) mixed _ _ _ (by
 have h1:=Vt.sound _ h
 refine Eq.mp ?_ h1
 kernel_rfl))
def E59:(((List Bs)×(Bool×Bool))×Bool)→D:=fun x=> .tup [encV (.pair (.list tS) (.pair tB tB)) x.1,encV tB x.2]
noncomputable def V59 (N:Nat) (a0:(List ((List Bs)×(Bool×Bool)))) (a1:(List Bs)):Vt (((List Bs)×(Bool×Bool))×Bool) (Option D) (fun q=>some (E59 q)):=
 .c1 (zmQ N a0 a1) (fun x1=> .br (decide (x1<0)) (.leaf ((([]:(List Bs)),false,false),false)) (.ck (inR x1 a0.length) (.leaf ((atI (.pair (.list tS) (.pair tB tB)) a0 x1),true))))
noncomputable def F59 (N:Nat) (a0:(List ((List Bs)×(Bool×Bool)))) (a1:(List Bs)):Option (((List Bs)×(Bool×Bool))×Bool):=(V59 N a0 a1).eval
def t59:List (Nat×List Nat×List (Nat×Sh)):=[]
theorem P59 (N:Nat) (a0:(List ((List Bs)×(Bool×Bool)))) (a1:(List Bs)): ∀ r,F59 N a0 a1=some r→Spec Tryz.prog 59 [.val (.list (.pair (.list tS) (.pair tB tB))) a0,.val (.list tS) a1] (E59 r):=fun r h=>zk (fn:=Tryz.f59) rfl rfl rfl rfl false (zb (tbl:=t59) (μ:=[]) mixed _ _ _ (by
 have h1:=Vt.sound _ h
 refine Eq.mp ?_ h1
 kernel_rfl))
def E124:Bool→D:=fun x=>encV tB x
noncomputable def V124 (N:Nat) (a0:((List Bs)×(Bool×Bool))) (c0:Int) (c1:(List Bs)):Vt Bool (Option D) (fun q=>some (E124 q)):=
 .br ((a0.1.length:Int)==(IntKind.i64.wrap (c0+1))) (.ck ((0:Int)≤0∧(0:Int)≤c0∧c0≤(a0.1.length:Int)) (.ck ((0:Int)≤0∧(0:Int)≤c0∧c0≤(c1.length:Int)) (.c1 (P122 N (slc a0.1 0 c0) (slc c1 0 c0)) (fun x1=> .br x1 (.ck (inR c0 a0.1.length) (.c1 (P125 N (atI tS a0.1 c0) ([36]:Bs)) (fun x2=> .leaf x2))) (.leaf false))))) (.leaf false)
noncomputable def F124 (N:Nat) (a0:((List Bs)×(Bool×Bool))) (c0:Int) (c1:(List Bs)):Option Bool:=(V124 N a0 c0 c1).eval
def t124:List (Nat×List Nat×List (Nat×Sh)):=[]
theorem P124 (N:Nat) (a0:((List Bs)×(Bool×Bool))) (c0:Int) (c1:(List Bs)): ∀ r,F124 N a0 c0 c1=some r→Spec Tryz.prog 124 [.agg [.val (.list tS) a0.1,.val tB a0.2.1,.val tB a0.2.2],.ept [.val tI c0],.ept [.val (.list tS) c1]] (E124 r):=fun r h=>zk (fn:=Tryz.f124) rfl rfl rfl rfl false (zb (tbl:=t124) (μ:=[]) mixed _ _ _ (by
 have h1:=Vt.sound _ h
 refine Eq.mp ?_ h1
 kernel_rfl))
def zch:Int→D:=fun x=>encV tI x
abbrev yA:List (Nat×Sh):=[(0,.val (.list (.pair (.list tS) (.pair tB tB)))),(1,.val (.clo 124 (.pair (.ref tI) (.ref (.list tS))))),(7,.val tI),(8,.val tI)]
noncomputable def ziC:Code:=zo 2 (zF Tryz.f120)
noncomputable def zdK (N:Nat) (s0:(List ((List Bs)×(Bool×Bool)))) (s1:(Int×(List Bs))) (s7:Int) (s8:Int):Vt (Lp (shTy yA).I Int) (O3 (Option D)) (encO 19 yA [0] (fun q=>some (zch q))):=
 .br (decide (s8<s7)) (.ck (inR s8 s0.length) (.c1 (P124 N (atI (.pair (.list tS) (.pair tB tB)) s0 s8) s1.1 s1.2) (fun x1=> .br x1 (.leaf (.ret s8)) (.leaf (.next (s0,s1,s7,(IntKind.i64.wrap (s8+1)))))))) (.leaf (.brk 0 (s0,s1,s7,s8)))
noncomputable def zar (N:Nat) (s0:(List ((List Bs)×(Bool×Bool)))) (s1:(Int×(List Bs))) (s7:Int) (s8:Int):Option (Lp ((List ((List Bs)×(Bool×Bool)))×(Int×(List Bs))×Int×Int) Int):=(zdK N s0 s1 s7 s8).eval
noncomputable def zbS (N:Nat) (x:((List ((List Bs)×(Bool×Bool)))×(Int×(List Bs))×Int×Int)):Option (Lp ((List ((List Bs)×(Bool×Bool)))×(Int×(List Bs))×Int×Int) Int):=zl (fun x=>zar N x.1 x.2.1 x.2.2.1 x.2.2.2) N x
theorem zgm (N:Nat) (x:(shTy yA).I): ∀ o,zbS N x=some o→S Tryz.prog (.loop ziC) (zh 19 yA x) (zK (rdD Tryz.prog Tryz.f120 false) yA (encO 19 yA [0] (fun q=>some (zch q)) o)):=
 fun o h=>zH (l:=yA) (step:=fun x=>zar N x.1 x.2.1 x.2.2.1 x.2.2.2) (fun x o h=>zb (tbl:=[]) (μ:=[]) mixed _ _ _ (by
  have h1:=Vt.sound _ h
  refine Eq.mp ?_ h1
  kernel_rfl)) N x o h
noncomputable def zhy (N:Nat) (a0:(List ((List Bs)×(Bool×Bool)))) (k0:Int) (k1:(List Bs)):Vt Int (Option D) (fun q=>some (zch q)):=
 .f1 (l:=yA) (o:=zbS N (a0,(k0,k1),(a0.length:Int),0)) (zgm N (a0,(k0,k1),(a0.length:Int),0)) (fun x1=> .leaf (-1))
noncomputable def zek (N:Nat) (a0:(List ((List Bs)×(Bool×Bool)))) (k0:Int) (k1:(List Bs)):Option Int:=(zhy N a0 k0 k1).eval
def zmR:List (Nat×List Nat×List (Nat×Sh)):=[(2,[0],yA)]
theorem zmS (N:Nat) (a0:(List ((List Bs)×(Bool×Bool)))) (k0:Int) (k1:(List Bs)): ∀ r,zek N a0 k0 k1=some r→Spec Tryz.prog 120 [.val (.list (.pair (.list tS) (.pair tB tB))) a0,.clo 124 [.ept [.val tI k0],.ept [.val (.list tS) k1]]] (zch r):=fun r h=>zk (fn:=Tryz.f120) rfl rfl rfl rfl false (zb (tbl:=zmR) (μ:=[]) mixed _ _ _ (by
 have h1:=Vt.sound _ h
 refine Eq.mp ?_ h1
 kernel_rfl))
def zhz:Bool→D:=fun x=>encV tB x
noncomputable def zhA (N:Nat) (a0:(List ((List Bs)×(Bool×Bool)))) (k0:Int) (k1:(List Bs)):Vt Bool (Option D) (fun q=>some (zhz q)):=
 .c1 (zmS N a0 k0 k1) (fun x1=> .leaf (decide ((0:Int)≤x1)))
noncomputable def zel (N:Nat) (a0:(List ((List Bs)×(Bool×Bool)))) (k0:Int) (k1:(List Bs)):Option Bool:=(zhA N a0 k0 k1).eval
def zmT:List (Nat×List Nat×List (Nat×Sh)):=[]
theorem zmU (N:Nat) (a0:(List ((List Bs)×(Bool×Bool)))) (k0:Int) (k1:(List Bs)): ∀ r,zel N a0 k0 k1=some r→Spec Tryz.prog 123 [.val (.list (.pair (.list tS) (.pair tB tB))) a0,.clo 124 [.ept [.val tI k0],.ept [.val (.list tS) k1]]] (zhz r):=fun r h=>zk (fn:=Tryz.f123) rfl rfl rfl rfl false (zb (tbl:=zmT) (μ:=[]) mixed _ _ _ (by
 have h1:=Vt.sound _ h
 refine Eq.mp ?_ h1
 kernel_rfl))
def E60:Int→D:=fun x=>encV tI x
noncomputable def V60 (N:Nat) (a0:(List ((List Bs)×(Bool×Bool)))) (a1:(List Bs)):Vt Int (Option D) (fun q=>some (E60 q)):=
 .c1 (zmU N a0 (IntKind.i64.wrap ((a1.length:Int) - 1)) a1) (fun x1=> .br x1 (.leaf 2) (.leaf 3))
noncomputable def F60 (N:Nat) (a0:(List ((List Bs)×(Bool×Bool)))) (a1:(List Bs)):Option Int:=(V60 N a0 a1).eval
def t60:List (Nat×List Nat×List (Nat×Sh)):=[]
theorem P60 (N:Nat) (a0:(List ((List Bs)×(Bool×Bool)))) (a1:(List Bs)): ∀ r,F60 N a0 a1=some r→Spec Tryz.prog 60 [.val (.list (.pair (.list tS) (.pair tB tB))) a0,.val (.list tS) a1] (E60 r):=fun r h=>zk (fn:=Tryz.f60) rfl rfl rfl rfl false (zb (tbl:=t60) (μ:=[]) mixed _ _ _ (by
 have h1:=Vt.sound _ h
 refine Eq.mp ?_ h1
 kernel_rfl))
def E61:Int→D:=fun x=>encV tI x
abbrev zem:List (Nat×Sh):=[(0,.val (.list tLn)),(1,.val tI),(5,.val tI)]
noncomputable def b61_4:Code:=zo 4 (zF Tryz.f61)
noncomputable def zr1 (N:Nat) (s0:(List Ln)) (s1:Int) (s5:Int):Vt (Lp (shTy zem).I Int) (O3 (Option D)) (encO 32 zem [0] (fun q=>some (E61 q))):=
 .br (decide (s5<(s0.length:Int))) (.ck (inR s5 s0.length) (.ck (inR s1 s0.length) (.br (decide (((atI tLn s0 s1).1)<((atI tLn s0 s5).1))) (.leaf (.next (s0,s1,(IntKind.i64.wrap (s5+1))))) (.leaf (.brk 0 (s0,s1,s5)))))) (.leaf (.brk 0 (s0,s1,s5)))
noncomputable def zmV (N:Nat) (s0:(List Ln)) (s1:Int) (s5:Int):Option (Lp ((List Ln)×Int×Int) Int):=(zr1 N s0 s1 s5).eval
noncomputable def zpE (N:Nat) (x:((List Ln)×Int×Int)):Option (Lp ((List Ln)×Int×Int) Int):=zl (fun x=>zmV N x.1 x.2.1 x.2.2) N x
theorem zr2 (N:Nat) (x:(shTy zem).I): ∀ o,zpE N x=some o→S Tryz.prog (.loop b61_4) (zh 32 zem x) (zK (rdD Tryz.prog Tryz.f61 false) zem (encO 32 zem [0] (fun q=>some (E61 q)) o)):=
 fun o h=>zH (l:=zem) (step:=fun x=>zmV N x.1 x.2.1 x.2.2) (fun x o h=>zb (tbl:=[]) (μ:=[]) mixed _ _ _ (by
  have h1:=Vt.sound _ h
  refine Eq.mp ?_ h1
  kernel_rfl)) N x o h
noncomputable def V61 (N:Nat) (a0:(List Ln)) (a1:Int):Vt Int (Option D) (fun q=>some (E61 q)):=
 .c1 (P117 N a0 a1) (fun x1=> .br (!x1) (.leaf 0) (.f1 (l:=zem) (o:=zpE N (a0,a1,(IntKind.i64.wrap (a1+1)))) (zr2 N (a0,a1,(IntKind.i64.wrap (a1+1)))) (fun x2=> .leaf x2.2.2)))
noncomputable def F61 (N:Nat) (a0:(List Ln)) (a1:Int):Option Int:=(V61 N a0 a1).eval
def t61:List (Nat×List Nat×List (Nat×Sh)):=[(4,[0],zem)]
theorem P61 (N:Nat) (a0:(List Ln)) (a1:Int): ∀ r,F61 N a0 a1=some r→Spec Tryz.prog 61 [.val (.list tLn) a0,.val tI a1] (E61 r):=fun r h=>zk (fn:=Tryz.f61) rfl rfl rfl rfl false (zb (tbl:=t61) (μ:=[]) mixed _ _ _ (by
 have h1:=Vt.sound _ h
 refine Eq.mp ?_ h1
 kernel_rfl))
def E64o:(List Int)→D:=fun x=> .own 3 tI x
abbrev zaB:List (Nat×Sh):=[(0,.val (.list tLn)),(6,.val tI),(7,.val tI),(8,.row false 54 3 tI),(9,.val tI)]
noncomputable def zr3:Code:=zo 8 (zF Tryz.f64)
noncomputable def zn7 (N:Nat) (s0:(List Ln)) (s6:Int) (s7:Int) (s8:(List Int)) (s9:Int):Vt (Lp (shTy zaB).I (List Int)) (O3 (Option D)) (encO 56 zaB [0] (fun q=>some (E64o q))):=
 .br (decide (s9<s6)) (.ck (inR s9 s0.length) (.br (((atI tLn s0 s9).1)==s7) (.ck (room (s8.length+([s9]:(List Int)).length)) (.leaf (.next (s0,s6,s7,(s8++([s9]:(List Int))),(IntKind.i64.wrap (s9+1)))))) (.leaf (.next (s0,s6,s7,s8,(IntKind.i64.wrap (s9+1))))))) (.leaf (.brk 0 (s0,s6,s7,s8,s9)))
noncomputable def zhB (N:Nat) (s0:(List Ln)) (s6:Int) (s7:Int) (s8:(List Int)) (s9:Int):Option (Lp ((List Ln)×Int×Int×(List Int)×Int) (List Int)):=(zn7 N s0 s6 s7 s8 s9).eval
noncomputable def zfp (N:Nat) (x:((List Ln)×Int×Int×(List Int)×Int)):Option (Lp ((List Ln)×Int×Int×(List Int)×Int) (List Int)):=zl (fun x=>zhB N x.1 x.2.1 x.2.2.1 x.2.2.2.1 x.2.2.2.2) N x
theorem zkr (N:Nat) (x:(shTy zaB).I): ∀ o,zfp N x=some o→S Tryz.prog (.loop zr3) (zh 56 zaB x) (zK (rdD Tryz.prog Tryz.f64 true) zaB (encO 56 zaB [0] (fun q=>some (E64o q)) o)):=
 fun o h=>zH (l:=zaB) (step:=fun x=>zhB N x.1 x.2.1 x.2.2.1 x.2.2.2.1 x.2.2.2.2) (fun x o h=>zb (tbl:=[]) (μ:=[]) mixed _ _ _ (by
  have h1:=Vt.sound _ h
  refine Eq.mp ?_ h1
  kernel_rfl)) N x o h
noncomputable def V64o (N:Nat) (a0:(List Ln)) (a1:Int):Vt (List Int) (Option D) (fun q=>some (E64o q)):=
 .c1 (P56 N a0) (fun x1=> .br (!x1) (.leaf ([]:(List Int))) (.br (decide (a1<(-1))) (.leaf ([]:(List Int))) (.br (decide ((a0.length:Int)≤a1)) (.leaf ([]:(List Int))) (.br (decide ((0:Int)≤a1)) (.c1 (P61 N a0 a1) (fun x2=> .ck (inR a1 a0.length) (.f1 (l:=zaB) (o:=zfp N (a0,x2,(IntKind.i64.wrap (((atI tLn a0 a1).1)+1)),([]:(List Int)),(IntKind.i64.wrap (a1+1)))) (zkr N (a0,x2,(IntKind.i64.wrap (((atI tLn a0 a1).1)+1)),([]:(List Int)),(IntKind.i64.wrap (a1+1)))) (fun x1=> .leaf x1.2.2.2.1)))) (.f1 (l:=zaB) (o:=zfp N (a0,(a0.length:Int),0,([]:(List Int)),0)) (zkr N (a0,(a0.length:Int),0,([]:(List Int)),0)) (fun x2=> .leaf x2.2.2.2.1))))))
noncomputable def F64o (N:Nat) (a0:(List Ln)) (a1:Int):Option (List Int):=(V64o N a0 a1).eval
def t64o:List (Nat×List Nat×List (Nat×Sh)):=[(8,[0],zaB)]
theorem P64o (N:Nat) (a0:(List Ln)) (a1:Int): ∀ r,F64o N a0 a1=some r→Spec Tryz.prog 64 [.val (.list tLn) a0,.val tI a1] (E64o r):=fun r h=>zk (fn:=Tryz.f64) rfl rfl rfl rfl true (zb (tbl:=t64o) (μ:=[]) mixed _ _ _ (by
 have h1:=Vt.sound _ h
 refine Eq.mp ?_ h1
 kernel_rfl))
def zmW:(List Bs)→D:=fun x=> .own 9 tS x
abbrev jI:List (Nat×Sh):=[(1,.val (.list tS)),(5,.row false 36 9 tS),(9,.val (.list (.pair (.list tS) (.pair tB tB)))),(10,.val tI),(11,.val tI)]
noncomputable def zpF:Code:=zo 3 (zF Tryz.f126)
noncomputable def zgn (N:Nat) (s1:(List Bs)) (s5:(List Bs)) (s9:(List ((List Bs)×(Bool×Bool)))) (s10:Int) (s11:Int):Vt (Lp (shTy jI).I (List Bs)) (O3 (Option D)) (encO 39 jI [0] (fun q=>some (zmW q))):=
 .br (decide (s11<s10)) (.ck (inR s11 s9.length) (.br ((atI (.pair (.list tS) (.pair tB tB)) s9 s11).2.2) (.ck ((0:Int)≤0∧(0:Int)≤(IntKind.i64.wrap ((((atI (.pair (.list tS) (.pair tB tB)) s9 s11).1).length:Int) - 1))∧(IntKind.i64.wrap ((((atI (.pair (.list tS) (.pair tB tB)) s9 s11).1).length:Int) - 1))≤(((atI (.pair (.list tS) (.pair tB tB)) s9 s11).1).length:Int)) (.c1 (P122 N (slc ((atI (.pair (.list tS) (.pair tB tB)) s9 s11).1) 0 (IntKind.i64.wrap ((((atI (.pair (.list tS) (.pair tB tB)) s9 s11).1).length:Int) - 1))) s1) (fun x1=> .br x1 (.ck (inR (IntKind.i64.wrap ((((atI (.pair (.list tS) (.pair tB tB)) s9 s11).1).length:Int) - 1)) ((atI (.pair (.list tS) (.pair tB tB)) s9 s11).1).length) (.ck (room (s5.length+([(atI tS ((atI (.pair (.list tS) (.pair tB tB)) s9 s11).1) (IntKind.i64.wrap ((((atI (.pair (.list tS) (.pair tB tB)) s9 s11).1).length:Int) - 1)))]:(List Bs)).length)) (.leaf (.next (s1,(s5++([(atI tS ((atI (.pair (.list tS) (.pair tB tB)) s9 s11).1) (IntKind.i64.wrap ((((atI (.pair (.list tS) (.pair tB tB)) s9 s11).1).length:Int) - 1)))]:(List Bs))),s9,s10,(IntKind.i64.wrap (s11+1))))))) (.leaf (.next (s1,s5,s9,s10,(IntKind.i64.wrap (s11+1)))))))) (.leaf (.next (s1,s5,s9,s10,(IntKind.i64.wrap (s11+1))))))) (.leaf (.brk 0 (s1,s5,s9,s10,s11)))
noncomputable def zcU (N:Nat) (s1:(List Bs)) (s5:(List Bs)) (s9:(List ((List Bs)×(Bool×Bool)))) (s10:Int) (s11:Int):Option (Lp ((List Bs)×(List Bs)×(List ((List Bs)×(Bool×Bool)))×Int×Int) (List Bs)):=(zgn N s1 s5 s9 s10 s11).eval
noncomputable def zgo (N:Nat) (x:((List Bs)×(List Bs)×(List ((List Bs)×(Bool×Bool)))×Int×Int)):Option (Lp ((List Bs)×(List Bs)×(List ((List Bs)×(Bool×Bool)))×Int×Int) (List Bs)):=zl (fun x=>zcU N x.1 x.2.1 x.2.2.1 x.2.2.2.1 x.2.2.2.2) N x
theorem zmX (N:Nat) (x:(shTy jI).I): ∀ o,zgo N x=some o→S Tryz.prog (.loop zpF) (zh 39 jI x) (zK (rdD Tryz.prog Tryz.f126 true) jI (encO 39 jI [0] (fun q=>some (zmW q)) o)):=
 fun o h=>zH (l:=jI) (step:=fun x=>zcU N x.1 x.2.1 x.2.2.1 x.2.2.2.1 x.2.2.2.2) (fun x o h=>zb (tbl:=[]) (μ:=[]) mixed _ _ _ (by
  have h1:=Vt.sound _ h
  refine Eq.mp ?_ h1
  kernel_rfl)) N x o h
noncomputable def zr4 (N:Nat) (a0:(List ((List Bs)×(Bool×Bool)))) (a1:(List Bs)):Vt (List Bs) (Option D) (fun q=>some (zmW q)):=
 .f1 (l:=jI) (o:=zgo N (a1,([]:(List Bs)),a0,(a0.length:Int),0)) (zmX N (a1,([]:(List Bs)),a0,(a0.length:Int),0)) (fun x2=> .leaf x2.2.1)
noncomputable def zpG (N:Nat) (a0:(List ((List Bs)×(Bool×Bool)))) (a1:(List Bs)):Option (List Bs):=(zr4 N a0 a1).eval
def t126o:List (Nat×List Nat×List (Nat×Sh)):=[(3,[0],jI)]
theorem zfq (N:Nat) (a0:(List ((List Bs)×(Bool×Bool)))) (a1:(List Bs)): ∀ r,zpG N a0 a1=some r→Spec Tryz.prog 126 [.val (.list (.pair (.list tS) (.pair tB tB))) a0,.val (.list tS) a1] (zmW r):=fun r h=>zk (fn:=Tryz.f126) rfl rfl rfl rfl true (zb (tbl:=t126o) (μ:=[]) mixed _ _ _ (by
 have h1:=Vt.sound _ h
 refine Eq.mp ?_ h1
 kernel_rfl))
def E128:Bool→D:=fun x=>encV tB x
noncomputable def V128 (N:Nat) (a0:Int) (c0:(List Ln)) (c1:Bs):Vt Bool (Option D) (fun q=>some (E128 q)):=
 .ck (inR a0 c0.length) (.leaf (((atI tLn c0 a0).2.1)==c1))
noncomputable def F128 (N:Nat) (a0:Int) (c0:(List Ln)) (c1:Bs):Option Bool:=(V128 N a0 c0 c1).eval
def t128:List (Nat×List Nat×List (Nat×Sh)):=[]
theorem P128 (N:Nat) (a0:Int) (c0:(List Ln)) (c1:Bs): ∀ r,F128 N a0 c0 c1=some r→Spec Tryz.prog 128 [.val tI a0,.ept [.val (.list tLn) c0],.ept [.val tS c1]] (E128 r):=fun r h=>zk (fn:=Tryz.f128) rfl rfl rfl rfl false (zb (tbl:=t128) (μ:=[]) mixed _ _ _ (by
 have h1:=Vt.sound _ h
 refine Eq.mp ?_ h1
 kernel_rfl))
def zci:Int→D:=fun x=>encV tI x
abbrev yB:List (Nat×Sh):=[(0,.val (.list tI)),(1,.val (.clo 128 (.pair (.ref (.list tLn)) (.ref tS)))),(7,.val tI),(8,.val tI)]
noncomputable def ziD:Code:=zo 2 (zF Tryz.f199)
noncomputable def zbT (N:Nat) (s0:(List Int)) (s1:((List Ln)×Bs)) (s7:Int) (s8:Int):Vt (Lp (shTy yB).I Int) (O3 (Option D)) (encO 19 yB [0] (fun q=>some (zci q))):=
 .br (decide (s8<s7)) (.ck (inR s8 s0.length) (.c1 (P128 N (atI tI s0 s8) s1.1 s1.2) (fun x1=> .br x1 (.leaf (.ret s8)) (.leaf (.next (s0,s1,s7,(IntKind.i64.wrap (s8+1)))))))) (.leaf (.brk 0 (s0,s1,s7,s8)))
noncomputable def jt (N:Nat) (s0:(List Int)) (s1:((List Ln)×Bs)) (s7:Int) (s8:Int):Option (Lp ((List Int)×((List Ln)×Bs)×Int×Int) Int):=(zbT N s0 s1 s7 s8).eval
noncomputable def zbU (N:Nat) (x:((List Int)×((List Ln)×Bs)×Int×Int)):Option (Lp ((List Int)×((List Ln)×Bs)×Int×Int) Int):=zl (fun x=>jt N x.1 x.2.1 x.2.2.1 x.2.2.2) N x
theorem zgp (N:Nat) (x:(shTy yB).I): ∀ o,zbU N x=some o→S Tryz.prog (.loop ziD) (zh 19 yB x) (zK (rdD Tryz.prog Tryz.f199 false) yB (encO 19 yB [0] (fun q=>some (zci q)) o)):=
 fun o h=>zH (l:=yB) (step:=fun x=>jt N x.1 x.2.1 x.2.2.1 x.2.2.2) (fun x o h=>zb (tbl:=[]) (μ:=[]) mixed _ _ _ (by
  have h1:=Vt.sound _ h
  refine Eq.mp ?_ h1
  kernel_rfl)) N x o h
noncomputable def zhC (N:Nat) (a0:(List Int)) (k0:(List Ln)) (k1:Bs):Vt Int (Option D) (fun q=>some (zci q)):=
 .f1 (l:=yB) (o:=zbU N (a0,(k0,k1),(a0.length:Int),0)) (zgp N (a0,(k0,k1),(a0.length:Int),0)) (fun x1=> .leaf (-1))
noncomputable def zen (N:Nat) (a0:(List Int)) (k0:(List Ln)) (k1:Bs):Option Int:=(zhC N a0 k0 k1).eval
def zmY:List (Nat×List Nat×List (Nat×Sh)):=[(2,[0],yB)]
theorem zmZ (N:Nat) (a0:(List Int)) (k0:(List Ln)) (k1:Bs): ∀ r,zen N a0 k0 k1=some r→Spec Tryz.prog 199 [.val (.list tI) a0,.clo 128 [.ept [.val (.list tLn) k0],.ept [.val tS k1]]] (zci r):=fun r h=>zk (fn:=Tryz.f199) rfl rfl rfl rfl false (zb (tbl:=zmY) (μ:=[]) mixed _ _ _ (by
 have h1:=Vt.sound _ h
 refine Eq.mp ?_ h1
 kernel_rfl))
def zhD:Bool→D:=fun x=>encV tB x
noncomputable def zhE (N:Nat) (a0:(List Int)) (k0:(List Ln)) (k1:Bs):Vt Bool (Option D) (fun q=>some (zhD q)):=
 .c1 (zmZ N a0 k0 k1) (fun x1=> .leaf (decide ((0:Int)≤x1)))
noncomputable def zeo (N:Nat) (a0:(List Int)) (k0:(List Ln)) (k1:Bs):Option Bool:=(zhE N a0 k0 k1).eval
def zm0:List (Nat×List Nat×List (Nat×Sh)):=[]
theorem zm1 (N:Nat) (a0:(List Int)) (k0:(List Ln)) (k1:Bs): ∀ r,zeo N a0 k0 k1=some r→Spec Tryz.prog 127 [.val (.list tI) a0,.clo 128 [.ept [.val (.list tLn) k0],.ept [.val tS k1]]] (zhD r):=fun r h=>zk (fn:=Tryz.f127) rfl rfl rfl rfl false (zb (tbl:=zm0) (μ:=[]) mixed _ _ _ (by
 have h1:=Vt.sound _ h
 refine Eq.mp ?_ h1
 kernel_rfl))
def E200:Bool→D:=fun x=>encV tB x
abbrev zbg:List (Nat×Sh):=[(0,.val (.list tLn)),(2,.val (.list tS)),(10,.val tI),(11,.val tI)]
noncomputable def zr5:Code:=zo 2 (zF Tryz.f200)
noncomputable def zn8 (N:Nat) (s0:(List Ln)) (s2:(List Bs)) (s10:Int) (s11:Int):Vt (Lp (shTy zbg).I Bool) (O3 (Option D)) (encO 27 zbg [0] (fun q=>some (E200 q))):=
 .br (decide (s11<s10)) (.c2 (P58o N s0 s11) (fun x1 x2=> .ck (inR 3 s2.length) (.c1 (P122 N ([([104,111,115,116,115]:Bs),([36,110,97,109,101]:Bs),([105,112]:Bs),(atI tS s2 3)]:(List Bs)) x1) (fun x3=> .br x3 (.leaf (.ret true)) (.leaf (.next (s0,s2,s10,(IntKind.i64.wrap (s11+1))))))))) (.leaf (.brk 0 (s0,s2,s10,s11)))
noncomputable def zhF (N:Nat) (s0:(List Ln)) (s2:(List Bs)) (s10:Int) (s11:Int):Option (Lp ((List Ln)×(List Bs)×Int×Int) Bool):=(zn8 N s0 s2 s10 s11).eval
noncomputable def zks (N:Nat) (x:((List Ln)×(List Bs)×Int×Int)):Option (Lp ((List Ln)×(List Bs)×Int×Int) Bool):=zl (fun x=>zhF N x.1 x.2.1 x.2.2.1 x.2.2.2) N x
theorem zpH (N:Nat) (x:(shTy zbg).I): ∀ o,zks N x=some o→S Tryz.prog (.loop zr5) (zh 27 zbg x) (zK (rdD Tryz.prog Tryz.f200 false) zbg (encO 27 zbg [0] (fun q=>some (E200 q)) o)):=
 fun o h=>zH (l:=zbg) (step:=fun x=>zhF N x.1 x.2.1 x.2.2.1 x.2.2.2) (fun x o h=>zb (tbl:=[]) (μ:=[17]) mixed _ _ _ (by
  have h1:=Vt.sound _ h
  refine Eq.mp ?_ h1
  kernel_rfl)) N x o h
noncomputable def V200 (N:Nat) (a0:(List Ln)) (a1:Int) (a2:(List Bs)):Vt Bool (Option D) (fun q=>some (E200 q)):=
 .f1 (l:=zbg) (o:=zks N (a0,a2,a1,0)) (zpH N (a0,a2,a1,0)) (fun x1=> .leaf false)
noncomputable def F200 (N:Nat) (a0:(List Ln)) (a1:Int) (a2:(List Bs)):Option Bool:=(V200 N a0 a1 a2).eval
def t200:List (Nat×List Nat×List (Nat×Sh)):=[(2,[0],zbg)]
theorem P200 (N:Nat) (a0:(List Ln)) (a1:Int) (a2:(List Bs)): ∀ r,F200 N a0 a1 a2=some r→Spec Tryz.prog 200 [.val (.list tLn) a0,.val tI a1,.val (.list tS) a2] (E200 r):=fun r h=>zk (fn:=Tryz.f200) rfl rfl rfl rfl false (zb (tbl:=t200) (μ:=[17]) mixed _ _ _ (by
 have h1:=Vt.sound _ h
 refine Eq.mp ?_ h1
 kernel_rfl))
def E63:(Int×Bool)→D:=fun x=> .tup [encV tI x.1,encV tB x.2]
abbrev zep:List (Nat×Sh):=[(1,.val (.list tS)),(6,.val tI),(22,.val (.list tLn)),(23,.val tI),(24,.val tI)]
noncomputable def b63_5:Code:=zo 5 (zF Tryz.f63)
noncomputable def zr6 (N:Nat) (s1:(List Bs)) (s6:Int) (s22:(List Ln)) (s23:Int) (s24:Int):Vt (Lp (shTy zep).I (Int×Bool)) (O3 (Option D)) (encO 58 zep [0] (fun q=>some (E63 q))):=
 .br (decide (s24<s23)) (.ck (inR s24 s22.length) (.br (decide (((atI tLn s22 s24).1)<s6)) (.leaf (.ret (0,false))) (.br (decide (s6<((atI tLn s22 s24).1))) (.leaf (.next (s1,s6,s22,s23,(IntKind.i64.wrap (s24+1))))) (.ck (inR s6 s1.length) (.br (!(((atI tLn s22 s24).2.1)==(atI tS s1 s6))) (.leaf (.next (s1,s6,s22,s23,(IntKind.i64.wrap (s24+1))))) (.br (s6==(IntKind.i64.wrap ((s1.length:Int) - 1))) (.leaf (.ret (s24,true))) (.leaf (.next (s1,(IntKind.i64.wrap (s6+1)),s22,s23,(IntKind.i64.wrap (s24+1))))))))))) (.leaf (.brk 0 (s1,s6,s22,s23,s24)))
noncomputable def zm2 (N:Nat) (s1:(List Bs)) (s6:Int) (s22:(List Ln)) (s23:Int) (s24:Int):Option (Lp ((List Bs)×Int×(List Ln)×Int×Int) (Int×Bool)):=(zr6 N s1 s6 s22 s23 s24).eval
noncomputable def zpI (N:Nat) (x:((List Bs)×Int×(List Ln)×Int×Int)):Option (Lp ((List Bs)×Int×(List Ln)×Int×Int) (Int×Bool)):=zl (fun x=>zm2 N x.1 x.2.1 x.2.2.1 x.2.2.2.1 x.2.2.2.2) N x
theorem zr7 (N:Nat) (x:(shTy zep).I): ∀ o,zpI N x=some o→S Tryz.prog (.loop b63_5) (zh 58 zep x) (zK (rdD Tryz.prog Tryz.f63 false) zep (encO 58 zep [0] (fun q=>some (E63 q)) o)):=
 fun o h=>zH (l:=zep) (step:=fun x=>zm2 N x.1 x.2.1 x.2.2.1 x.2.2.2.1 x.2.2.2.2) (fun x o h=>zb (tbl:=[]) (μ:=[]) mixed _ _ _ (by
  have h1:=Vt.sound _ h
  refine Eq.mp ?_ h1
  kernel_rfl)) N x o h
noncomputable def V63 (N:Nat) (a0:(List Ln)) (a1:(List Bs)):Vt (Int×Bool) (Option D) (fun q=>some (E63 q)):=
 .c1 (P56 N a0) (fun x1=> .br (!x1) (.leaf (0,false)) (.br ((a1.length:Int)==0) (.leaf (0,false)) (.br (decide ((16:Int)<(a1.length:Int))) (.leaf (0,false)) (.f1 (l:=zep) (o:=zpI N (a1,0,a0,(a0.length:Int),0)) (zr7 N (a1,0,a0,(a0.length:Int),0)) (fun x2=> .leaf (0,false))))))
noncomputable def F63 (N:Nat) (a0:(List Ln)) (a1:(List Bs)):Option (Int×Bool):=(V63 N a0 a1).eval
def t63:List (Nat×List Nat×List (Nat×Sh)):=[(5,[0],zep)]
theorem P63 (N:Nat) (a0:(List Ln)) (a1:(List Bs)): ∀ r,F63 N a0 a1=some r→Spec Tryz.prog 63 [.val (.list tLn) a0,.val (.list tS) a1] (E63 r):=fun r h=>zk (fn:=Tryz.f63) rfl rfl rfl rfl false (zb (tbl:=t63) (μ:=[]) mixed _ _ _ (by
 have h1:=Vt.sound _ h
 refine Eq.mp ?_ h1
 kernel_rfl))
def E201:Bool→D:=fun x=>encV tB x
noncomputable def V201 (N:Nat) (a0:(List Ln)) (a1:Bs) (a2:Bs):Vt Bool (Option D) (fun q=>some (E201 q)):=
 .c2 (P63 N a0 ([a1,a2]:(List Bs))) (fun x1 x2=> .leaf x2)
noncomputable def F201 (N:Nat) (a0:(List Ln)) (a1:Bs) (a2:Bs):Option Bool:=(V201 N a0 a1 a2).eval
def t201:List (Nat×List Nat×List (Nat×Sh)):=[]
theorem P201 (N:Nat) (a0:(List Ln)) (a1:Bs) (a2:Bs): ∀ r,F201 N a0 a1 a2=some r→Spec Tryz.prog 201 [.val (.list tLn) a0,.val tS a1,.val tS a2] (E201 r):=fun r h=>zk (fn:=Tryz.f201) rfl rfl rfl rfl false (zb (tbl:=t201) (μ:=[]) mixed _ _ _ (by
 have h1:=Vt.sound _ h
 refine Eq.mp ?_ h1
 kernel_rfl))
def E40:Bool→D:=fun x=>encV tB x
noncomputable def V40 (N:Nat) (a0:Int) (a1:Int) (a2:Int):Vt Bool (Option D) (fun q=>some (E40 q)):=
 .c1 (P79 N a0 a1) (fun x1=> .br x1 (.br (decide ((0:Int)≤a2)) (.br (decide (a2<4294967296)) (.c1 (P80 N a1) (fun x2=> .leaf ((IntKind.i64.wrap (((BitVec.ofInt IntKind.i64.bits a2 &&& ~~~BitVec.ofInt IntKind.i64.bits x2).toNat:Int)))==a0))) (.leaf false)) (.leaf false)) (.leaf false))
noncomputable def F40 (N:Nat) (a0:Int) (a1:Int) (a2:Int):Option Bool:=(V40 N a0 a1 a2).eval
def t40:List (Nat×List Nat×List (Nat×Sh)):=[]
theorem P40 (N:Nat) (a0:Int) (a1:Int) (a2:Int): ∀ r,F40 N a0 a1 a2=some r→Spec Tryz.prog 40 [.val tI a0,.val tI a1,.val tI a2] (E40 r):=fun r h=>zk (fn:=Tryz.f40) rfl rfl rfl rfl false (zb (tbl:=t40) (μ:=[]) mixed _ _ _ (by
 have h1:=Vt.sound _ h
 refine Eq.mp ?_ h1
 kernel_rfl))
def E202:Bool→D:=fun x=>encV tB x
noncomputable def V202 (N:Nat) (a0:(List Ln)) (a1:Bs) (a2:Bs):Vt Bool (Option D) (fun q=>some (E202 q)):=
 .c2 (P63 N a0 ([([118,110,105,115]:Bs),a2,([115,117,98,110,101,116]:Bs)]:(List Bs))) (fun x1 x2=> .br (!x2) (.leaf false) (.c1 (P64o N a0 x1) (fun x3=> .br ((x3.length:Int)==0) (.leaf false) (.ck (inR 0 x3.length) (.ck (inR 0 x3.length) (.ck (inR (atI tI x3 0) a0.length) (.c3 (P39 N ((atI tLn a0 (atI tI x3 0)).2.1)) (fun x4 x5 x6=> .c2 (P77 N a1) (fun x7 x8=> .br x6 (.c1 (P40 N x4 x5 x7) (fun x9=> .leaf (!x9))) (.leaf false))))))))))
noncomputable def F202 (N:Nat) (a0:(List Ln)) (a1:Bs) (a2:Bs):Option Bool:=(V202 N a0 a1 a2).eval
def t202:List (Nat×List Nat×List (Nat×Sh)):=[]
theorem P202 (N:Nat) (a0:(List Ln)) (a1:Bs) (a2:Bs): ∀ r,F202 N a0 a1 a2=some r→Spec Tryz.prog 202 [.val (.list tLn) a0,.val tS a1,.val tS a2] (E202 r):=fun r h=>zk (fn:=Tryz.f202) rfl rfl rfl rfl false (zb (tbl:=t202) (μ:=[25]) mixed _ _ _ (by
 have h1:=Vt.sound _ h
 refine Eq.mp ?_ h1
 kernel_rfl))
def E130:Bool→D:=fun x=>encV tB x
noncomputable def V130 (N:Nat) (a0:(List Ln)) (a1:Int) (a2:(List Bs)) (a3:(List Bs)):Vt Bool (Option D) (fun q=>some (E130 q)):=
 .c1 (P55 N a2 ([32]:Bs)) (fun x1=> .br (x1==([104,111,115,116,115,32,36,110,97,109,101,32,105,112,32,36,105,112]:Bs)) (.c1 (P200 N a0 a1 a3) (fun x2=> .leaf x2)) (.br (x1==([98,105,110,100,105,110,103,115,32,36,105,112,32,104,111,115,116,32,36,110,97,109,101]:Bs)) (.ck (inR 3 a3.length) (.c1 (P201 N a0 ([104,111,115,116,115]:Bs) (atI tS a3 3)) (fun x3=> .leaf (!x3)))) (.br (x1==([114,111,117,116,101,115,32,36,112,114,101,102,105,120,32,118,105,97,32,36,110,97,109,101]:Bs)) (.ck (inR 3 a3.length) (.c1 (P201 N a0 ([104,111,115,116,115]:Bs) (atI tS a3 3)) (fun x4=> .leaf (!x4)))) (.br (x1==([104,111,115,116,115,32,36,110,97,109,101,32,118,110,105,115,32,36,118,110,105]:Bs)) (.ck (inR 3 a3.length) (.c1 (P201 N a0 ([118,110,105,115]:Bs) (atI tS a3 3)) (fun x5=> .leaf (!x5)))) (.br (x1==([98,105,110,100,105,110,103,115,32,36,105,112,32,118,110,105,32,36,118,110,105]:Bs)) (.ck (inR 3 a3.length) (.c1 (P201 N a0 ([118,110,105,115]:Bs) (atI tS a3 3)) (fun x6=> .br (!x6) (.leaf true) (.ck (inR 1 a3.length) (.ck (inR 3 a3.length) (.c1 (P202 N a0 (atI tS a3 1) (atI tS a3 3)) (fun x7=> .leaf x7))))))) (.leaf false))))))
noncomputable def F130 (N:Nat) (a0:(List Ln)) (a1:Int) (a2:(List Bs)) (a3:(List Bs)):Option Bool:=(V130 N a0 a1 a2 a3).eval
def t130:List (Nat×List Nat×List (Nat×Sh)):=[]
theorem P130 (N:Nat) (a0:(List Ln)) (a1:Int) (a2:(List Bs)) (a3:(List Bs)): ∀ r,F130 N a0 a1 a2 a3=some r→Spec Tryz.prog 130 [.val (.list tLn) a0,.val tI a1,.val (.list tS) a2,.val (.list tS) a3] (E130 r):=fun r h=>zk (fn:=Tryz.f130) rfl rfl rfl rfl false (zb (tbl:=t130) (μ:=[]) mixed _ _ _ (by
 have h1:=Vt.sound _ h
 refine Eq.mp ?_ h1
 kernel_rfl))
def E62o:(List ((List Bs)×Int))→D:=fun x=> .own 135 (.pair (.list tS) tI) x
abbrev qm:List (Nat×Sh):=[(1,.val tI),(4,.val (.list tS)),(5,.ept (.list tLn)),(8,.cel false 8 130 (.pair (.list tS) (.pair tB tB))),(11,.row false 900011 135 (.pair (.list tS) tI)),(12,.row false 17 3 tI),(46,.row false 46 9 tS),(47,.val tI),(48,.val tI)]
noncomputable def zr8:Code:=zo 8 (zF Tryz.f62)
noncomputable def zkt (N:Nat) (s1:Int) (s4:(List Bs)) (s5:(List Ln)) (s8:((List Bs)×(Bool×Bool))) (s11:(List ((List Bs)×Int))) (s12:(List Int)) (s46:(List Bs)) (s47:Int) (s48:Int):Vt (Lp (shTy qm).I (List ((List Bs)×Int))) (O3 (Option D)) (encO 78 qm [1] (fun q=>some (E62o q))):=
 .br (decide (s48<s47)) (.ck (inR s48 s46.length) (.ck (inR s48 s46.length) (.c1 (zm1 N s12 s5 (atI tS s46 s48)) (fun x1=> .br (!x1) (.nb (.c1 (zmj N s4) (fun x2=> .ck (room (x2.length+([(atI tS s46 s48)]:(List Bs)).length)) (.ck (room (s11.length+([((x2++([(atI tS s46 s48)]:(List Bs))),1)]:(List ((List Bs)×Int))).length)) (.leaf (.next (s1,s4,s5,s8,(s11++([((x2++([(atI tS s46 s48)]:(List Bs))),1)]:(List ((List Bs)×Int)))),s12,s46,s47,(IntKind.i64.wrap (s48+1)))))))) (.nb (.c1 (zmj N s4) (fun x3=> .ck (room (x3.length+([(atI tS s46 s48)]:(List Bs)).length)) (.ck (room (s11.length+([((x3++([(atI tS s46 s48)]:(List Bs))),1)]:(List ((List Bs)×Int))).length)) (.leaf (.next (s1,s4,s5,s8,(s11++([((x3++([(atI tS s46 s48)]:(List Bs))),1)]:(List ((List Bs)×Int)))),s12,s46,s47,(IntKind.i64.wrap (s48+1)))))))) (.c1 (zmj N s4) (fun x4=> .ck (room (x4.length+([(atI tS s46 s48)]:(List Bs)).length)) (.ck (room (s11.length+([((x4++([(atI tS s46 s48)]:(List Bs))),1)]:(List ((List Bs)×Int))).length)) (.leaf (.next (s1,s4,s5,s8,(s11++([((x4++([(atI tS s46 s48)]:(List Bs))),1)]:(List ((List Bs)×Int)))),s12,s46,s47,(IntKind.i64.wrap (s48+1)))))))))) (.leaf (.next (s1,s4,s5,s8,s11,s12,s46,s47,(IntKind.i64.wrap (s48+1))))))))) (.leaf (.brk 0 (s1,s4,s5,s8,s11,s12,s46,s47,s48)))
noncomputable def zfr (N:Nat) (s1:Int) (s4:(List Bs)) (s5:(List Ln)) (s8:((List Bs)×(Bool×Bool))) (s11:(List ((List Bs)×Int))) (s12:(List Int)) (s46:(List Bs)) (s47:Int) (s48:Int):Option (Lp (Int×(List Bs)×(List Ln)×((List Bs)×(Bool×Bool))×(List ((List Bs)×Int))×(List Int)×(List Bs)×Int×Int) (List ((List Bs)×Int))):=(zkt N s1 s4 s5 s8 s11 s12 s46 s47 s48).eval
noncomputable def zac (N:Nat) (x:(Int×(List Bs)×(List Ln)×((List Bs)×(Bool×Bool))×(List ((List Bs)×Int))×(List Int)×(List Bs)×Int×Int)):Option (Lp (Int×(List Bs)×(List Ln)×((List Bs)×(Bool×Bool))×(List ((List Bs)×Int))×(List Int)×(List Bs)×Int×Int) (List ((List Bs)×Int))):=zl (fun x=>zfr N x.1 x.2.1 x.2.2.1 x.2.2.2.1 x.2.2.2.2.1 x.2.2.2.2.2.1 x.2.2.2.2.2.2.1 x.2.2.2.2.2.2.2.1 x.2.2.2.2.2.2.2.2) N x
theorem zad (N:Nat) (x:(shTy qm).I): ∀ o,zac N x=some o→S Tryz.prog (.loop zr8) (zh 78 qm x) (zK (rdD Tryz.prog Tryz.f62 true) qm (encO 78 qm [1] (fun q=>some (E62o q)) o)):=
 fun o h=>zH (l:=qm) (step:=fun x=>zfr N x.1 x.2.1 x.2.2.1 x.2.2.2.1 x.2.2.2.2.1 x.2.2.2.2.2.1 x.2.2.2.2.2.2.1 x.2.2.2.2.2.2.2.1 x.2.2.2.2.2.2.2.2) (fun x o h=>zb (tbl:=[]) (μ:=[17,46,58]) mixed _ _ _ (by
  have h1:=Vt.sound _ h
  refine Eq.mp ?_ h1
  kernel_rfl)) N x o h
noncomputable def V62o (N:Nat) (a0:(List Ln)) (a1:Int) (a2:(List ((List Bs)×(Bool×Bool)))) (a3:((List Bs)×(Bool×Bool))) (a4:(List Bs)):Vt (List ((List Bs)×Int)) (Option D) (fun q=>some (E62o q)):=
 .c1 (P64o N a0 a1) (fun x1=> .br a3.2.1 (.br ((x1.length:Int)==0) (.ck (room (([]:(List ((List Bs)×Int))).length+([(a4,1)]:(List ((List Bs)×Int))).length)) (.c1 (zfq N a2 a4) (fun x2=> .f1 (l:=qm) (o:=zac N (a1,a4,a0,a3,(([]:(List ((List Bs)×Int)))++([(a4,1)]:(List ((List Bs)×Int)))),x1,x2,(x2.length:Int),0)) (zad N (a1,a4,a0,a3,(([]:(List ((List Bs)×Int)))++([(a4,1)]:(List ((List Bs)×Int)))),x1,x2,(x2.length:Int),0)) (fun x3=> .c1 (P130 N x3.2.2.1 x3.1 x3.2.2.2.1.1 x3.2.1) (fun x4=> .br x4 (.ck (room (x3.2.2.2.2.1.length+([(x3.2.1,7)]:(List ((List Bs)×Int))).length)) (.leaf (x3.2.2.2.2.1++([(x3.2.1,7)]:(List ((List Bs)×Int)))))) (.leaf x3.2.2.2.2.1)))))) (.br a3.2.1 (.br (decide ((1:Int)<(x1.length:Int))) (.ck (room (([]:(List ((List Bs)×Int))).length+([(a4,4)]:(List ((List Bs)×Int))).length)) (.c1 (zfq N a2 a4) (fun x5=> .f1 (l:=qm) (o:=zac N (a1,a4,a0,a3,(([]:(List ((List Bs)×Int)))++([(a4,4)]:(List ((List Bs)×Int)))),x1,x5,(x5.length:Int),0)) (zad N (a1,a4,a0,a3,(([]:(List ((List Bs)×Int)))++([(a4,4)]:(List ((List Bs)×Int)))),x1,x5,(x5.length:Int),0)) (fun x6=> .c1 (P130 N x6.2.2.1 x6.1 x6.2.2.2.1.1 x6.2.1) (fun x7=> .br x7 (.ck (room (x6.2.2.2.2.1.length+([(x6.2.1,7)]:(List ((List Bs)×Int))).length)) (.leaf (x6.2.2.2.2.1++([(x6.2.1,7)]:(List ((List Bs)×Int)))))) (.leaf x6.2.2.2.2.1)))))) (.c1 (zfq N a2 a4) (fun x8=> .f1 (l:=qm) (o:=zac N (a1,a4,a0,a3,([]:(List ((List Bs)×Int))),x1,x8,(x8.length:Int),0)) (zad N (a1,a4,a0,a3,([]:(List ((List Bs)×Int))),x1,x8,(x8.length:Int),0)) (fun x9=> .c1 (P130 N x9.2.2.1 x9.1 x9.2.2.2.1.1 x9.2.1) (fun x10=> .br x10 (.ck (room (x9.2.2.2.2.1.length+([(x9.2.1,7)]:(List ((List Bs)×Int))).length)) (.leaf (x9.2.2.2.2.1++([(x9.2.1,7)]:(List ((List Bs)×Int)))))) (.leaf x9.2.2.2.2.1)))))) (.c1 (zfq N a2 a4) (fun x11=> .f1 (l:=qm) (o:=zac N (a1,a4,a0,a3,([]:(List ((List Bs)×Int))),x1,x11,(x11.length:Int),0)) (zad N (a1,a4,a0,a3,([]:(List ((List Bs)×Int))),x1,x11,(x11.length:Int),0)) (fun x12=> .c1 (P130 N x12.2.2.1 x12.1 x12.2.2.2.1.1 x12.2.1) (fun x13=> .br x13 (.ck (room (x12.2.2.2.2.1.length+([(x12.2.1,7)]:(List ((List Bs)×Int))).length)) (.leaf (x12.2.2.2.2.1++([(x12.2.1,7)]:(List ((List Bs)×Int)))))) (.leaf x12.2.2.2.2.1))))))) (.br a3.2.1 (.br (decide ((1:Int)<(x1.length:Int))) (.ck (room (([]:(List ((List Bs)×Int))).length+([(a4,4)]:(List ((List Bs)×Int))).length)) (.c1 (zfq N a2 a4) (fun x14=> .f1 (l:=qm) (o:=zac N (a1,a4,a0,a3,(([]:(List ((List Bs)×Int)))++([(a4,4)]:(List ((List Bs)×Int)))),x1,x14,(x14.length:Int),0)) (zad N (a1,a4,a0,a3,(([]:(List ((List Bs)×Int)))++([(a4,4)]:(List ((List Bs)×Int)))),x1,x14,(x14.length:Int),0)) (fun x15=> .c1 (P130 N x15.2.2.1 x15.1 x15.2.2.2.1.1 x15.2.1) (fun x16=> .br x16 (.ck (room (x15.2.2.2.2.1.length+([(x15.2.1,7)]:(List ((List Bs)×Int))).length)) (.leaf (x15.2.2.2.2.1++([(x15.2.1,7)]:(List ((List Bs)×Int)))))) (.leaf x15.2.2.2.2.1)))))) (.c1 (zfq N a2 a4) (fun x17=> .f1 (l:=qm) (o:=zac N (a1,a4,a0,a3,([]:(List ((List Bs)×Int))),x1,x17,(x17.length:Int),0)) (zad N (a1,a4,a0,a3,([]:(List ((List Bs)×Int))),x1,x17,(x17.length:Int),0)) (fun x18=> .c1 (P130 N x18.2.2.1 x18.1 x18.2.2.2.1.1 x18.2.1) (fun x19=> .br x19 (.ck (room (x18.2.2.2.2.1.length+([(x18.2.1,7)]:(List ((List Bs)×Int))).length)) (.leaf (x18.2.2.2.2.1++([(x18.2.1,7)]:(List ((List Bs)×Int)))))) (.leaf x18.2.2.2.2.1)))))) (.c1 (zfq N a2 a4) (fun x20=> .f1 (l:=qm) (o:=zac N (a1,a4,a0,a3,([]:(List ((List Bs)×Int))),x1,x20,(x20.length:Int),0)) (zad N (a1,a4,a0,a3,([]:(List ((List Bs)×Int))),x1,x20,(x20.length:Int),0)) (fun x21=> .c1 (P130 N x21.2.2.1 x21.1 x21.2.2.2.1.1 x21.2.1) (fun x22=> .br x22 (.ck (room (x21.2.2.2.2.1.length+([(x21.2.1,7)]:(List ((List Bs)×Int))).length)) (.leaf (x21.2.2.2.2.1++([(x21.2.1,7)]:(List ((List Bs)×Int)))))) (.leaf x21.2.2.2.2.1)))))))
noncomputable def F62o (N:Nat) (a0:(List Ln)) (a1:Int) (a2:(List ((List Bs)×(Bool×Bool)))) (a3:((List Bs)×(Bool×Bool))) (a4:(List Bs)):Option (List ((List Bs)×Int)):=(V62o N a0 a1 a2 a3 a4).eval
def t62o:List (Nat×List Nat×List (Nat×Sh)):=[(8,[1],qm),(4000001,[],[(11,.row false 900011 135 (.pair (.list tS) tI)),(5,.ept (.list tLn))])]
theorem P62o (N:Nat) (a0:(List Ln)) (a1:Int) (a2:(List ((List Bs)×(Bool×Bool)))) (a3:((List Bs)×(Bool×Bool))) (a4:(List Bs)): ∀ r,F62o N a0 a1 a2 a3 a4=some r→Spec Tryz.prog 62 [.val (.list tLn) a0,.val tI a1,.val (.list (.pair (.list tS) (.pair tB tB))) a2,.agg [.val (.list tS) a3.1,.val tB a3.2.1,.val tB a3.2.2],.val (.list tS) a4] (E62o r):=fun r h=>zk (fn:=Tryz.f62) rfl rfl rfl rfl true (zb (tbl:=t62o) (μ:=[17,46,58]) mixed _ _ _ (by
 have h1:=Vt.sound _ h
 refine Eq.mp ?_ h1
 kernel_rfl))
def E24o:((List ((List Bs)×Int))×Int)→D:=fun x=> .tup [.own 135 (.pair (.list tS) tI) x.1,encV tI x.2]
abbrev zbh:List (Nat×Sh):=[(0,.val (.list tLn)),(4,.val (.list (.pair (.list tS) (.pair tB tB)))),(5,.row false 42 135 (.pair (.list tS) tI)),(6,.val tI)]
noncomputable def zr9:Code:=zo 6 (zF Tryz.f24)
noncomputable def zn9 (N:Nat) (s0:(List Ln)) (s4:(List ((List Bs)×(Bool×Bool)))) (s5:(List ((List Bs)×Int))) (s6:Int):Vt (Lp (shTy zbh).I ((List ((List Bs)×Int))×Int)) (O3 (Option D)) (encO 56 zbh [0] (fun q=>some (E24o q))):=
 .br (decide (s6<(s0.length:Int))) (.c2 (P58o N s0 s6) (fun x1 x2=> .c2 (P59 N s4 x1) (fun x3 x4=> .br (!x4) (.c1 (P60 N s4 x1) (fun x5=> .ck (room (s5.length+([(x1,x5)]:(List ((List Bs)×Int))).length)) (.c1 (P61 N s0 s6) (fun x6=> .leaf (.next (s0,s4,(s5++([(x1,x5)]:(List ((List Bs)×Int)))),(IntKind.i64.wrap ((IntKind.i64.wrap (x6 - 1))+1)))))))) (.c1 (P62o N s0 s6 s4 x3 x1) (fun x7=> .ck (room (s5.length+x7.length)) (.leaf (.next (s0,s4,(s5++x7),(IntKind.i64.wrap (s6+1)))))))))) (.leaf (.brk 0 (s0,s4,s5,s6)))
noncomputable def zhG (N:Nat) (s0:(List Ln)) (s4:(List ((List Bs)×(Bool×Bool)))) (s5:(List ((List Bs)×Int))) (s6:Int):Option (Lp ((List Ln)×(List ((List Bs)×(Bool×Bool)))×(List ((List Bs)×Int))×Int) ((List ((List Bs)×Int))×Int)):=(zn9 N s0 s4 s5 s6).eval
noncomputable def zku (N:Nat) (x:((List Ln)×(List ((List Bs)×(Bool×Bool)))×(List ((List Bs)×Int))×Int)):Option (Lp ((List Ln)×(List ((List Bs)×(Bool×Bool)))×(List ((List Bs)×Int))×Int) ((List ((List Bs)×Int))×Int)):=zl (fun x=>zhG N x.1 x.2.1 x.2.2.1 x.2.2.2) N x
theorem zpJ (N:Nat) (x:(shTy zbh).I): ∀ o,zku N x=some o→S Tryz.prog (.loop zr9) (zh 56 zbh x) (zK (rdD Tryz.prog Tryz.f24 true) zbh (encO 56 zbh [0] (fun q=>some (E24o q)) o)):=
 fun o h=>zH (l:=zbh) (step:=fun x=>zhG N x.1 x.2.1 x.2.2.1 x.2.2.2) (fun x o h=>zb (tbl:=[]) (μ:=[14,24,53]) mixed _ _ _ (by
  have h1:=Vt.sound _ h
  refine Eq.mp ?_ h1
  kernel_rfl)) N x o h
noncomputable def V24o (N:Nat) (a0:(List Ln)):Vt ((List ((List Bs)×Int))×Int) (Option D) (fun q=>some (E24o q)):=
 .c1 (P56 N a0) (fun x1=> .br (!x1) (.leaf (([]:(List ((List Bs)×Int))),1)) (.c1 (P57o N) (fun x2=> .f1 (l:=zbh) (o:=zku N (a0,x2,([]:(List ((List Bs)×Int))),0)) (zpJ N (a0,x2,([]:(List ((List Bs)×Int))),0)) (fun x6=> .leaf (x6.2.2.1,0)))))
noncomputable def F24o (N:Nat) (a0:(List Ln)):Option ((List ((List Bs)×Int))×Int):=(V24o N a0).eval
def t24o:List (Nat×List Nat×List (Nat×Sh)):=[(6,[0],zbh)]
theorem P24o (N:Nat) (a0:(List Ln)): ∀ r,F24o N a0=some r→Spec Tryz.prog 24 [.val (.list tLn) a0] (E24o r):=fun r h=>zk (fn:=Tryz.f24) rfl rfl rfl rfl true (zb (tbl:=t24o) (μ:=[14,24,53]) mixed _ _ _ (by
 have h1:=Vt.sound _ h
 refine Eq.mp ?_ h1
 kernel_rfl))
def E25o:(List Bs)→D:=fun x=> .own 9 tS x
abbrev zbi:List (Nat×Sh):=[(0,.val (.list tLn)),(7,.row false 33 9 tS),(20,.row false 20 3 tI),(21,.val tI),(22,.val tI)]
noncomputable def zsa:Code:=zo 6 (zF Tryz.f25)
noncomputable def zkv (N:Nat) (s0:(List Ln)) (s7:(List Bs)) (s20:(List Int)) (s21:Int) (s22:Int):Vt (Lp (shTy zbi).I (List Bs)) (O3 (Option D)) (encO 36 zbi [0] (fun q=>some (E25o q))):=
 .br (decide (s22<s21)) (.ck (inR s22 s20.length) (.ck (inR s22 s20.length) (.ck (inR (atI tI s20 s22) s0.length) (.ck (room (s7.length+([(atI tLn s0 (atI tI s20 s22)).2.1]:(List Bs)).length)) (.leaf (.next (s0,(s7++([(atI tLn s0 (atI tI s20 s22)).2.1]:(List Bs))),s20,s21,(IntKind.i64.wrap (s22+1))))))))) (.leaf (.brk 0 (s0,s7,s20,s21,s22)))
noncomputable def zft (N:Nat) (s0:(List Ln)) (s7:(List Bs)) (s20:(List Int)) (s21:Int) (s22:Int):Option (Lp ((List Ln)×(List Bs)×(List Int)×Int×Int) (List Bs)):=(zkv N s0 s7 s20 s21 s22).eval
noncomputable def zkw (N:Nat) (x:((List Ln)×(List Bs)×(List Int)×Int×Int)):Option (Lp ((List Ln)×(List Bs)×(List Int)×Int×Int) (List Bs)):=zl (fun x=>zft N x.1 x.2.1 x.2.2.1 x.2.2.2.1 x.2.2.2.2) N x
theorem zpK (N:Nat) (x:(shTy zbi).I): ∀ o,zkw N x=some o→S Tryz.prog (.loop zsa) (zh 36 zbi x) (zK (rdD Tryz.prog Tryz.f25 true) zbi (encO 36 zbi [0] (fun q=>some (E25o q)) o)):=
 fun o h=>zH (l:=zbi) (step:=fun x=>zft N x.1 x.2.1 x.2.2.1 x.2.2.2.1 x.2.2.2.2) (fun x o h=>zb (tbl:=[]) (μ:=[20]) mixed _ _ _ (by
  have h1:=Vt.sound _ h
  refine Eq.mp ?_ h1
  kernel_rfl)) N x o h
noncomputable def V25o (N:Nat) (a0:(List Ln)) (a1:(List Bs)):Vt (List Bs) (Option D) (fun q=>some (E25o q)):=
 .c2 (P63 N a0 a1) (fun x1 x2=> .br (!x2) (.leaf ([]:(List Bs))) (.c1 (P64o N a0 x1) (fun x3=> .f1 (l:=zbi) (o:=zkw N (a0,([]:(List Bs)),x3,(x3.length:Int),0)) (zpK N (a0,([]:(List Bs)),x3,(x3.length:Int),0)) (fun x1=> .leaf x1.2.1))))
noncomputable def F25o (N:Nat) (a0:(List Ln)) (a1:(List Bs)):Option (List Bs):=(V25o N a0 a1).eval
def t25o:List (Nat×List Nat×List (Nat×Sh)):=[(6,[0],zbi)]
theorem P25o (N:Nat) (a0:(List Ln)) (a1:(List Bs)): ∀ r,F25o N a0 a1=some r→Spec Tryz.prog 25 [.val (.list tLn) a0,.val (.list tS) a1] (E25o r):=fun r h=>zk (fn:=Tryz.f25) rfl rfl rfl rfl true (zb (tbl:=t25o) (μ:=[20]) mixed _ _ _ (by
 have h1:=Vt.sound _ h
 refine Eq.mp ?_ h1
 kernel_rfl))
def E26o:(List (Bs×(Int×(Bs×Bs))))→D:=fun x=> .own 79 (.pair tS (.pair tI (.pair tS tS))) x
abbrev zaC:List (Nat×Sh):=[(0,.val (.list (.list (.pair tS (.pair tI (.pair tS tS)))))),(3,.val tI),(9,.val (.list (.list (.pair tS (.pair tI (.pair tS tS)))))),(10,.val tI),(11,.val tI)]
noncomputable def zsb:Code:=zo 3 (zF Tryz.f26)
noncomputable def zkx (N:Nat) (s0:(List (List (Bs×(Int×(Bs×Bs)))))) (s3:Int) (s9:(List (List (Bs×(Int×(Bs×Bs)))))) (s10:Int) (s11:Int):Vt (Lp (shTy zaC).I (List (Bs×(Int×(Bs×Bs))))) (O3 (Option D)) (encO 36 zaC [0] (fun q=>some (E26o q))):=
 .br (decide (s11<s10)) (.ck (inR s11 s9.length) (.br (decide ((IntKind.i64.wrap (s3+((atI (.list (.pair tS (.pair tI (.pair tS tS)))) s9 s11).length:Int)))<0)) (.fail) (.leaf (.next (s0,(IntKind.i64.wrap (s3+((atI (.list (.pair tS (.pair tI (.pair tS tS)))) s9 s11).length:Int))),s9,s10,(IntKind.i64.wrap (s11+1))))))) (.leaf (.brk 0 (s0,s3,s9,s10,s11)))
noncomputable def zfu (N:Nat) (s0:(List (List (Bs×(Int×(Bs×Bs)))))) (s3:Int) (s9:(List (List (Bs×(Int×(Bs×Bs)))))) (s10:Int) (s11:Int):Option (Lp ((List (List (Bs×(Int×(Bs×Bs)))))×Int×(List (List (Bs×(Int×(Bs×Bs)))))×Int×Int) (List (Bs×(Int×(Bs×Bs))))):=(zkx N s0 s3 s9 s10 s11).eval
noncomputable def zky (N:Nat) (x:((List (List (Bs×(Int×(Bs×Bs)))))×Int×(List (List (Bs×(Int×(Bs×Bs)))))×Int×Int)):Option (Lp ((List (List (Bs×(Int×(Bs×Bs)))))×Int×(List (List (Bs×(Int×(Bs×Bs)))))×Int×Int) (List (Bs×(Int×(Bs×Bs))))):=zl (fun x=>zfu N x.1 x.2.1 x.2.2.1 x.2.2.2.1 x.2.2.2.2) N x
theorem zpL (N:Nat) (x:(shTy zaC).I): ∀ o,zky N x=some o→S Tryz.prog (.loop zsb) (zh 36 zaC x) (zK (rdD Tryz.prog Tryz.f26 true) zaC (encO 36 zaC [0] (fun q=>some (E26o q)) o)):=
 fun o h=>zH (l:=zaC) (step:=fun x=>zfu N x.1 x.2.1 x.2.2.1 x.2.2.2.1 x.2.2.2.2) (fun x o h=>zb (tbl:=[]) (μ:=[]) mixed _ _ _ (by
  have h1:=Vt.sound _ h
  refine Eq.mp ?_ h1
  kernel_rfl)) N x o h
abbrev jJ:List (Nat×Sh):=[(6,.row false 24 79 (.pair tS (.pair tI (.pair tS tS)))),(25,.val (.list (.list (.pair tS (.pair tI (.pair tS tS)))))),(26,.val tI),(27,.val tI)]
noncomputable def zpM:Code:=zo 11 (zF Tryz.f26)
noncomputable def zgq (N:Nat) (s6:(List (Bs×(Int×(Bs×Bs))))) (s25:(List (List (Bs×(Int×(Bs×Bs)))))) (s26:Int) (s27:Int):Vt (Lp (shTy jJ).I (List (Bs×(Int×(Bs×Bs))))) (O3 (Option D)) (encO 36 jJ [2] (fun q=>some (E26o q))):=
 .br (decide (s27<s26)) (.ck (inR s27 s25.length) (.ck (room (s6.length+(atI (.list (.pair tS (.pair tI (.pair tS tS)))) s25 s27).length)) (.leaf (.next ((s6++(atI (.list (.pair tS (.pair tI (.pair tS tS)))) s25 s27)),s25,s26,(IntKind.i64.wrap (s27+1))))))) (.leaf (.brk 0 (s6,s25,s26,s27)))
noncomputable def zcV (N:Nat) (s6:(List (Bs×(Int×(Bs×Bs))))) (s25:(List (List (Bs×(Int×(Bs×Bs)))))) (s26:Int) (s27:Int):Option (Lp ((List (Bs×(Int×(Bs×Bs))))×(List (List (Bs×(Int×(Bs×Bs)))))×Int×Int) (List (Bs×(Int×(Bs×Bs))))):=(zgq N s6 s25 s26 s27).eval
noncomputable def zgr (N:Nat) (x:((List (Bs×(Int×(Bs×Bs))))×(List (List (Bs×(Int×(Bs×Bs)))))×Int×Int)):Option (Lp ((List (Bs×(Int×(Bs×Bs))))×(List (List (Bs×(Int×(Bs×Bs)))))×Int×Int) (List (Bs×(Int×(Bs×Bs))))):=zl (fun x=>zcV N x.1 x.2.1 x.2.2.1 x.2.2.2) N x
theorem zm3 (N:Nat) (x:(shTy jJ).I): ∀ o,zgr N x=some o→S Tryz.prog (.loop zpM) (zh 36 jJ x) (zK (rdD Tryz.prog Tryz.f26 true) jJ (encO 36 jJ [2] (fun q=>some (E26o q)) o)):=
 fun o h=>zH (l:=jJ) (step:=fun x=>zcV N x.1 x.2.1 x.2.2.1 x.2.2.2) (fun x o h=>zb (tbl:=[(3,[0],zaC)]) (μ:=[24]) mixed _ _ _ (by
  have h1:=Vt.sound _ h
  refine Eq.mp ?_ h1
  kernel_rfl)) N x o h
noncomputable def V26o (N:Nat) (a0:(List (List (Bs×(Int×(Bs×Bs)))))):Vt (List (Bs×(Int×(Bs×Bs)))) (Option D) (fun q=>some (E26o q)):=
 .f1 (l:=zaC) (o:=zky N (a0,0,a0,(a0.length:Int),0)) (zpL N (a0,0,a0,(a0.length:Int),0)) (fun x1=> .c1 (zrs N x1.2.1) (fun x2=> .f1 (l:=jJ) (o:=zgr N (x2,x1.1,(x1.1.length:Int),0)) (zm3 N (x2,x1.1,(x1.1.length:Int),0)) (fun x3=> .leaf x3.1)))
noncomputable def F26o (N:Nat) (a0:(List (List (Bs×(Int×(Bs×Bs)))))):Option (List (Bs×(Int×(Bs×Bs)))):=(V26o N a0).eval
def t26o:List (Nat×List Nat×List (Nat×Sh)):=[(3,[0],zaC),(11,[2],jJ)]
theorem P26o (N:Nat) (a0:(List (List (Bs×(Int×(Bs×Bs)))))): ∀ r,F26o N a0=some r→Spec Tryz.prog 26 [.val (.list (.list (.pair tS (.pair tI (.pair tS tS))))) a0] (E26o r):=fun r h=>zk (fn:=Tryz.f26) rfl rfl rfl rfl true (zb (tbl:=t26o) (μ:=[24]) mixed _ _ _ (by
 have h1:=Vt.sound _ h
 refine Eq.mp ?_ h1
 kernel_rfl))
def E203:Int→D:=fun x=>encV tI x
abbrev zbj:List (Nat×Sh):=[(0,.val (.list tS)),(1,.val tS),(7,.val tI),(8,.val tI)]
noncomputable def zsc:Code:=zo 2 (zF Tryz.f203)
noncomputable def zoa (N:Nat) (s0:(List Bs)) (s1:Bs) (s7:Int) (s8:Int):Vt (Lp (shTy zbj).I Int) (O3 (Option D)) (encO 19 zbj [0] (fun q=>some (E203 q))):=
 .br (decide (s8<s7)) (.ck (inR s8 s0.length) (.br (s1==(atI tS s0 s8)) (.leaf (.ret s8)) (.leaf (.next (s0,s1,s7,(IntKind.i64.wrap (s8+1))))))) (.leaf (.brk 0 (s0,s1,s7,s8)))
noncomputable def zhH (N:Nat) (s0:(List Bs)) (s1:Bs) (s7:Int) (s8:Int):Option (Lp ((List Bs)×Bs×Int×Int) Int):=(zoa N s0 s1 s7 s8).eval
noncomputable def zkz (N:Nat) (x:((List Bs)×Bs×Int×Int)):Option (Lp ((List Bs)×Bs×Int×Int) Int):=zl (fun x=>zhH N x.1 x.2.1 x.2.2.1 x.2.2.2) N x
theorem zpN (N:Nat) (x:(shTy zbj).I): ∀ o,zkz N x=some o→S Tryz.prog (.loop zsc) (zh 19 zbj x) (zK (rdD Tryz.prog Tryz.f203 false) zbj (encO 19 zbj [0] (fun q=>some (E203 q)) o)):=
 fun o h=>zH (l:=zbj) (step:=fun x=>zhH N x.1 x.2.1 x.2.2.1 x.2.2.2) (fun x o h=>zb (tbl:=[]) (μ:=[]) mixed _ _ _ (by
  have h1:=Vt.sound _ h
  refine Eq.mp ?_ h1
  kernel_rfl)) N x o h
noncomputable def V203 (N:Nat) (a0:(List Bs)) (a1:Bs):Vt Int (Option D) (fun q=>some (E203 q)):=
 .f1 (l:=zbj) (o:=zkz N (a0,a1,(a0.length:Int),0)) (zpN N (a0,a1,(a0.length:Int),0)) (fun x1=> .leaf (-1))
noncomputable def F203 (N:Nat) (a0:(List Bs)) (a1:Bs):Option Int:=(V203 N a0 a1).eval
def t203:List (Nat×List Nat×List (Nat×Sh)):=[(2,[0],zbj)]
theorem P203 (N:Nat) (a0:(List Bs)) (a1:Bs): ∀ r,F203 N a0 a1=some r→Spec Tryz.prog 203 [.val (.list tS) a0,.val tS a1] (E203 r):=fun r h=>zk (fn:=Tryz.f203) rfl rfl rfl rfl false (zb (tbl:=t203) (μ:=[]) mixed _ _ _ (by
 have h1:=Vt.sound _ h
 refine Eq.mp ?_ h1
 kernel_rfl))
def E131:Bool→D:=fun x=>encV tB x
noncomputable def V131 (N:Nat) (a0:(List Bs)) (a1:Bs):Vt Bool (Option D) (fun q=>some (E131 q)):=
 .c1 (P203 N a0 a1) (fun x1=> .leaf (decide ((0:Int)≤x1)))
noncomputable def F131 (N:Nat) (a0:(List Bs)) (a1:Bs):Option Bool:=(V131 N a0 a1).eval
def t131:List (Nat×List Nat×List (Nat×Sh)):=[]
theorem P131 (N:Nat) (a0:(List Bs)) (a1:Bs): ∀ r,F131 N a0 a1=some r→Spec Tryz.prog 131 [.val (.list tS) a0,.val tS a1] (E131 r):=fun r h=>zk (fn:=Tryz.f131) rfl rfl rfl rfl false (zb (tbl:=t131) (μ:=[]) mixed _ _ _ (by
 have h1:=Vt.sound _ h
 refine Eq.mp ?_ h1
 kernel_rfl))
def E66:Bool→D:=fun x=>encV tB x
noncomputable def V66 (N:Nat) (a0:(List Ln)) (a1:Bs) (a2:Bs):Vt Bool (Option D) (fun q=>some (E66 q)):=
 .c1 (P25o N a0 ([([104,111,115,116,115]:Bs),a1,([118,110,105,115]:Bs)]:(List Bs))) (fun x1=> .c1 (P131 N x1 a2) (fun x2=> .leaf x2))
noncomputable def F66 (N:Nat) (a0:(List Ln)) (a1:Bs) (a2:Bs):Option Bool:=(V66 N a0 a1 a2).eval
def t66:List (Nat×List Nat×List (Nat×Sh)):=[]
theorem P66 (N:Nat) (a0:(List Ln)) (a1:Bs) (a2:Bs): ∀ r,F66 N a0 a1 a2=some r→Spec Tryz.prog 66 [.agg [.val (.list tLn) a0],.val tS a1,.val tS a2] (E66 r):=fun r h=>zk (fn:=Tryz.f66) rfl rfl rfl rfl false (zb (tbl:=t66) (μ:=[11]) mixed _ _ _ (by
 have h1:=Vt.sound _ h
 refine Eq.mp ?_ h1
 kernel_rfl))
def E68:Bs→D:=fun x=>encV tS x
noncomputable def V68 (N:Nat) (a0:(List Ln)) (a1:Bs) (a2:(List Bs)):Vt Bs (Option D) (fun q=>some (E68 q)):=
 .c1 (P25o N a0 a2) (fun x1=> .br ((x1.length:Int)==0) (.leaf a1) (.ck (inR 0 x1.length) (.ck (inR 0 x1.length) (.leaf (atI tS x1 0)))))
noncomputable def F68 (N:Nat) (a0:(List Ln)) (a1:Bs) (a2:(List Bs)):Option Bs:=(V68 N a0 a1 a2).eval
def t68:List (Nat×List Nat×List (Nat×Sh)):=[]
theorem P68 (N:Nat) (a0:(List Ln)) (a1:Bs) (a2:(List Bs)): ∀ r,F68 N a0 a1 a2=some r→Spec Tryz.prog 68 [.val (.list tLn) a0,.val tS a1,.val (.list tS) a2] (E68 r):=fun r h=>zk (fn:=Tryz.f68) rfl rfl rfl rfl false (zb (tbl:=t68) (μ:=[10]) mixed _ _ _ (by
 have h1:=Vt.sound _ h
 refine Eq.mp ?_ h1
 kernel_rfl))
def E67:Bs→D:=fun x=>encV tS x
noncomputable def V67 (N:Nat) (a0:(List Ln)) (a1:Bs):Vt Bs (Option D) (fun q=>some (E67 q)):=
 .c1 (P68 N a0 ([]:Bs) ([([104,111,115,116,115]:Bs),a1,([105,112]:Bs)]:(List Bs))) (fun x1=> .leaf x1)
noncomputable def F67 (N:Nat) (a0:(List Ln)) (a1:Bs):Option Bs:=(V67 N a0 a1).eval
def t67:List (Nat×List Nat×List (Nat×Sh)):=[]
theorem P67 (N:Nat) (a0:(List Ln)) (a1:Bs): ∀ r,F67 N a0 a1=some r→Spec Tryz.prog 67 [.agg [.val (.list tLn) a0],.val tS a1] (E67 r):=fun r h=>zk (fn:=Tryz.f67) rfl rfl rfl rfl false (zb (tbl:=t67) (μ:=[]) mixed _ _ _ (by
 have h1:=Vt.sound _ h
 refine Eq.mp ?_ h1
 kernel_rfl))
def E27o:(List (Bs×(Int×(Bs×Bs))))→D:=fun x=> .own 79 (.pair tS (.pair tI (.pair tS tS))) x
abbrev zaD:List (Nat×Sh):=[(1,.val tS),(2,.cel false 2 75 (.list tLn)),(5,.row false 46 79 (.pair tS (.pair tI (.pair tS tS)))),(7,.val tS),(14,.row false 14 9 tS),(15,.val tI),(16,.val tI),(23,.row false 23 9 tS),(24,.val tI),(25,.val tI)]
noncomputable def zsd:Code:=zo 6 (zF Tryz.f27)
noncomputable def zkA (N:Nat) (s1:Bs) (s2:(List Ln)) (s5:(List (Bs×(Int×(Bs×Bs))))) (s7:Bs) (s14:(List Bs)) (s15:Int) (s16:Int) (s23:(List Bs)) (s24:Int) (s25:Int):Vt (Lp (shTy zaD).I (List (Bs×(Int×(Bs×Bs))))) (O3 (Option D)) (encO 50 zaD [2] (fun q=>some (E27o q))):=
 .br (decide (s25<s24)) (.ck (inR s25 s23.length) (.ck (inR s25 s23.length) (.br (!((atI tS s23 s25)==s1)) (.c1 (P66 N s2 (atI tS s23 s25) s7) (fun x1=> .br x1 (.c1 (P67 N s2 (atI tS s23 s25)) (fun x2=> .ck (room (s5.length+([(s1,1,s7,x2)]:(List (Bs×(Int×(Bs×Bs))))).length)) (.leaf (.next (s1,s2,(s5++([(s1,1,s7,x2)]:(List (Bs×(Int×(Bs×Bs)))))),s7,s14,s15,s16,s23,s24,(IntKind.i64.wrap (s25+1))))))) (.leaf (.next (s1,s2,s5,s7,s14,s15,s16,s23,s24,(IntKind.i64.wrap (s25+1))))))) (.leaf (.next (s1,s2,s5,s7,s14,s15,s16,s23,s24,(IntKind.i64.wrap (s25+1)))))))) (.leaf (.brk 0 (s1,s2,s5,s7,s14,s15,s16,s23,s24,s25)))
noncomputable def zhI (N:Nat) (s1:Bs) (s2:(List Ln)) (s5:(List (Bs×(Int×(Bs×Bs))))) (s7:Bs) (s14:(List Bs)) (s15:Int) (s16:Int) (s23:(List Bs)) (s24:Int) (s25:Int):Option (Lp (Bs×(List Ln)×(List (Bs×(Int×(Bs×Bs))))×Bs×(List Bs)×Int×Int×(List Bs)×Int×Int) (List (Bs×(Int×(Bs×Bs))))):=(zkA N s1 s2 s5 s7 s14 s15 s16 s23 s24 s25).eval
noncomputable def zhJ (N:Nat) (x:(Bs×(List Ln)×(List (Bs×(Int×(Bs×Bs))))×Bs×(List Bs)×Int×Int×(List Bs)×Int×Int)):Option (Lp (Bs×(List Ln)×(List (Bs×(Int×(Bs×Bs))))×Bs×(List Bs)×Int×Int×(List Bs)×Int×Int) (List (Bs×(Int×(Bs×Bs))))):=zl (fun x=>zhI N x.1 x.2.1 x.2.2.1 x.2.2.2.1 x.2.2.2.2.1 x.2.2.2.2.2.1 x.2.2.2.2.2.2.1 x.2.2.2.2.2.2.2.1 x.2.2.2.2.2.2.2.2.1 x.2.2.2.2.2.2.2.2.2) N x
theorem zpO (N:Nat) (x:(shTy zaD).I): ∀ o,zhJ N x=some o→S Tryz.prog (.loop zsd) (zh 50 zaD x) (zK (rdD Tryz.prog Tryz.f27 true) zaD (encO 50 zaD [2] (fun q=>some (E27o q)) o)):=
 fun o h=>zH (l:=zaD) (step:=fun x=>zhI N x.1 x.2.1 x.2.2.1 x.2.2.2.1 x.2.2.2.2.1 x.2.2.2.2.2.1 x.2.2.2.2.2.2.1 x.2.2.2.2.2.2.2.1 x.2.2.2.2.2.2.2.2.1 x.2.2.2.2.2.2.2.2.2) (fun x o h=>zb (tbl:=[]) (μ:=[14,23]) mixed _ _ _ (by
  have h1:=Vt.sound _ h
  refine Eq.mp ?_ h1
  kernel_rfl)) N x o h
abbrev zbk:List (Nat×Sh):=[(1,.val tS),(2,.cel false 2 75 (.list tLn)),(5,.row false 46 79 (.pair tS (.pair tI (.pair tS tS)))),(14,.row false 14 9 tS),(15,.val tI),(16,.val tI)]
noncomputable def zse:Code:=zo 3 (zF Tryz.f27)
noncomputable def zkB (N:Nat) (s1:Bs) (s2:(List Ln)) (s5:(List (Bs×(Int×(Bs×Bs))))) (s14:(List Bs)) (s15:Int) (s16:Int):Vt (Lp (shTy zbk).I (List (Bs×(Int×(Bs×Bs))))) (O3 (Option D)) (encO 50 zbk [0] (fun q=>some (E27o q))):=
 .br (decide (s16<s15)) (.ck (inR s16 s14.length) (.ck (inR s16 s14.length) (.c1 (P25o N s2 ([([104,111,115,116,115]:Bs)]:(List Bs))) (fun x1=> .g1 (l:=zaD) (o:=zhJ N (s1,s2,s5,(atI tS s14 s16),s14,s15,s16,x1,(x1.length:Int),0)) (zpO N (s1,s2,s5,(atI tS s14 s16),s14,s15,s16,x1,(x1.length:Int),0)) (fun x2=> .leaf (.next (x2.1,x2.2.1,x2.2.2.1,x2.2.2.2.2.1,x2.2.2.2.2.2.1,(IntKind.i64.wrap (x2.2.2.2.2.2.2.1+1))))))))) (.leaf (.brk 0 (s1,s2,s5,s14,s15,s16)))
noncomputable def zfv (N:Nat) (s1:Bs) (s2:(List Ln)) (s5:(List (Bs×(Int×(Bs×Bs))))) (s14:(List Bs)) (s15:Int) (s16:Int):Option (Lp (Bs×(List Ln)×(List (Bs×(Int×(Bs×Bs))))×(List Bs)×Int×Int) (List (Bs×(Int×(Bs×Bs))))):=(zkB N s1 s2 s5 s14 s15 s16).eval
noncomputable def zhK (N:Nat) (x:(Bs×(List Ln)×(List (Bs×(Int×(Bs×Bs))))×(List Bs)×Int×Int)):Option (Lp (Bs×(List Ln)×(List (Bs×(Int×(Bs×Bs))))×(List Bs)×Int×Int) (List (Bs×(Int×(Bs×Bs))))):=zl (fun x=>zfv N x.1 x.2.1 x.2.2.1 x.2.2.2.1 x.2.2.2.2.1 x.2.2.2.2.2) N x
theorem zpP (N:Nat) (x:(shTy zbk).I): ∀ o,zhK N x=some o→S Tryz.prog (.loop zse) (zh 50 zbk x) (zK (rdD Tryz.prog Tryz.f27 true) zbk (encO 50 zbk [0] (fun q=>some (E27o q)) o)):=
 fun o h=>zH (l:=zbk) (step:=fun x=>zfv N x.1 x.2.1 x.2.2.1 x.2.2.2.1 x.2.2.2.2.1 x.2.2.2.2.2) (fun x o h=>zb (tbl:=[(6,[2],zaD)]) (μ:=[14,23]) mixed _ _ _ (by
  have h1:=Vt.sound _ h
  refine Eq.mp ?_ h1
  kernel_rfl)) N x o h
noncomputable def V27o (N:Nat) (a0:(List Ln)) (a1:Bs):Vt (List (Bs×(Int×(Bs×Bs)))) (Option D) (fun q=>some (E27o q)):=
 .c1 (P25o N a0 ([([104,111,115,116,115]:Bs),a1,([118,110,105,115]:Bs)]:(List Bs))) (fun x1=> .f1 (l:=zbk) (o:=zhK N (a1,a0,([]:(List (Bs×(Int×(Bs×Bs))))),x1,(x1.length:Int),0)) (zpP N (a1,a0,([]:(List (Bs×(Int×(Bs×Bs))))),x1,(x1.length:Int),0)) (fun x3=> .leaf x3.2.2.1))
noncomputable def F27o (N:Nat) (a0:(List Ln)) (a1:Bs):Option (List (Bs×(Int×(Bs×Bs)))):=(V27o N a0 a1).eval
def t27o:List (Nat×List Nat×List (Nat×Sh)):=[(6,[2],zaD),(3,[0],zbk)]
theorem P27o (N:Nat) (a0:(List Ln)) (a1:Bs): ∀ r,F27o N a0 a1=some r→Spec Tryz.prog 27 [.agg [.val (.list tLn) a0],.val tS a1] (E27o r):=fun r h=>zk (fn:=Tryz.f27) rfl rfl rfl rfl true (zb (tbl:=t27o) (μ:=[14,23]) mixed _ _ _ (by
 have h1:=Vt.sound _ h
 refine Eq.mp ?_ h1
 kernel_rfl))
def E28o:(List (Bs×(Int×(Bs×Bs))))→D:=fun x=> .own 79 (.pair tS (.pair tI (.pair tS tS))) x
abbrev zae:List (Nat×Sh):=[(1,.val tS),(2,.ept (.list tLn)),(5,.row false 49 79 (.pair tS (.pair tI (.pair tS tS)))),(7,.val tS),(8,.val tS),(14,.row false 14 9 tS),(15,.val tI),(16,.val tI)]
abbrev jc:List (Nat×Sh):=[(1,.val tS),(2,.ept (.list tLn)),(5,.row false 49 79 (.pair tS (.pair tI (.pair tS tS)))),(7,.val tS),(8,.val tS),(9,.val tS),(10,.val tS),(14,.row false 14 9 tS),(15,.val tI),(16,.val tI)]
set_option maxHeartbeats 4000000 in
noncomputable def zkC (N:Nat) (s1:Bs) (s2:(List Ln)) (s5:(List (Bs×(Int×(Bs×Bs))))) (s7:Bs) (s8:Bs) (s14:(List Bs)) (s15:Int) (s16:Int):Vt (shTy jc).I St (fun x=>zh 67 jc x):=
 .nb (.nb (.c1 (P68 N s2 ([]:Bs) ([([98,105,110,100,105,110,103,115]:Bs),s7,([109,97,99]:Bs)]:(List Bs))) (fun x1=> .c1 (P68 N s2 ([]:Bs) ([([98,105,110,100,105,110,103,115]:Bs),s7,([104,111,115,116]:Bs)]:(List Bs))) (fun x2=> .leaf (s1,s2,s5,s7,s8,x1,x2,s14,s15,s16)))) (.c1 (P68 N s2 ([]:Bs) ([([98,105,110,100,105,110,103,115]:Bs),s7,([109,97,99]:Bs)]:(List Bs))) (fun x3=> .c1 (P68 N s2 ([]:Bs) ([([98,105,110,100,105,110,103,115]:Bs),s7,([104,111,115,116]:Bs)]:(List Bs))) (fun x4=> .leaf (s1,s2,s5,s7,s8,x3,x4,s14,s15,s16))))) (.c1 (P68 N s2 ([]:Bs) ([([98,105,110,100,105,110,103,115]:Bs),s7,([109,97,99]:Bs)]:(List Bs))) (fun x5=> .c1 (P68 N s2 ([]:Bs) ([([98,105,110,100,105,110,103,115]:Bs),s7,([104,111,115,116]:Bs)]:(List Bs))) (fun x6=> .leaf (s1,s2,s5,s7,s8,x5,x6,s14,s15,s16))))
noncomputable def zgs (N:Nat) (x:(Bs×(List Ln)×(List (Bs×(Int×(Bs×Bs))))×Bs×Bs×(List Bs)×Int×Int)):Option ((Bs×(List Ln)×(List (Bs×(Int×(Bs×Bs))))×Bs×Bs×Bs×Bs×(List Bs)×Int×Int)):=(zkC N x.1 x.2.1 x.2.2.1 x.2.2.2.1 x.2.2.2.2.1 x.2.2.2.2.2.1 x.2.2.2.2.2.2.1 x.2.2.2.2.2.2.2).eval
set_option maxHeartbeats 4000000 in
theorem zpQ (N:Nat) (x:(shTy zae).I): ∀ o,zgs N x=some o→S Tryz.prog (.region 7 ((zav 7 (zF Tryz.f28)).getD #[]) true) (zh 67 zae x) (zlw jc (zh 67 jc o)):=
 fun o h=>zkl (μ:=[14]) mixed (by kernel_rfl) (by
  have h1:=Vt.sound _ h
  refine Eq.mp ?_ h1
  kernel_rfl)
abbrev zbl:List (Nat×Sh):=[(1,.val tS),(2,.ept (.list tLn)),(5,.row false 49 79 (.pair tS (.pair tI (.pair tS tS)))),(14,.row false 14 9 tS),(15,.val tI),(16,.val tI)]
noncomputable def zsf:Code:=zo 3 (zF Tryz.f28)
noncomputable def zkD (N:Nat) (s1:Bs) (s2:(List Ln)) (s5:(List (Bs×(Int×(Bs×Bs))))) (s14:(List Bs)) (s15:Int) (s16:Int):Vt (Lp (shTy zbl).I (List (Bs×(Int×(Bs×Bs))))) (O3 (Option D)) (encO 67 zbl [0] (fun q=>some (E28o q))):=
 .br (decide (s16<s15)) (.ck (inR s16 s14.length) (.ck (inR s16 s14.length) (.c1 (P68 N s2 ([]:Bs) ([([98,105,110,100,105,110,103,115]:Bs),(atI tS s14 s16),([118,110,105]:Bs)]:(List Bs))) (fun x1=> .c1 (P66 N s2 s1 x1) (fun x2=> .br (!x2) (.leaf (.next (s1,s2,s5,s14,s15,(IntKind.i64.wrap (s16+1))))) (.cr (zpQ N (s1,s2,s5,(atI tS s14 s16),x1,s14,s15,s16)) (fun x3=> .ck (room (x3.2.2.2.2.1.length+([32]:Bs).length)) (.ck (room ((x3.2.2.2.2.1++([32]:Bs)).length+x3.2.2.2.1.length)) (.ck (room (x3.2.2.1.length+([(x3.1,2,((x3.2.2.2.2.1++([32]:Bs))++x3.2.2.2.1),x3.2.2.2.2.2.1)]:(List (Bs×(Int×(Bs×Bs))))).length)) (.br (!(x3.2.2.2.2.2.2.1==x3.1)) (.ck (room (x3.2.2.2.2.1.length+([32]:Bs).length)) (.ck (room ((x3.2.2.2.2.1++([32]:Bs)).length+x3.2.2.2.2.2.1.length)) (.c1 (P67 N x3.2.1 x3.2.2.2.2.2.2.1) (fun x4=> .ck (room ((x3.2.2.1++([(x3.1,2,((x3.2.2.2.2.1++([32]:Bs))++x3.2.2.2.1),x3.2.2.2.2.2.1)]:(List (Bs×(Int×(Bs×Bs)))))).length+([(x3.1,3,((x3.2.2.2.2.1++([32]:Bs))++x3.2.2.2.2.2.1),x4)]:(List (Bs×(Int×(Bs×Bs))))).length)) (.leaf (.next (x3.1,x3.2.1,((x3.2.2.1++([(x3.1,2,((x3.2.2.2.2.1++([32]:Bs))++x3.2.2.2.1),x3.2.2.2.2.2.1)]:(List (Bs×(Int×(Bs×Bs))))))++([(x3.1,3,((x3.2.2.2.2.1++([32]:Bs))++x3.2.2.2.2.2.1),x4)]:(List (Bs×(Int×(Bs×Bs)))))),x3.2.2.2.2.2.2.2.1,x3.2.2.2.2.2.2.2.2.1,(IntKind.i64.wrap (x3.2.2.2.2.2.2.2.2.2+1))))))))) (.leaf (.next (x3.1,x3.2.1,(x3.2.2.1++([(x3.1,2,((x3.2.2.2.2.1++([32]:Bs))++x3.2.2.2.1),x3.2.2.2.2.2.1)]:(List (Bs×(Int×(Bs×Bs)))))),x3.2.2.2.2.2.2.2.1,x3.2.2.2.2.2.2.2.2.1,(IntKind.i64.wrap (x3.2.2.2.2.2.2.2.2.2+1))))))))))))))) (.leaf (.brk 0 (s1,s2,s5,s14,s15,s16)))
noncomputable def zfw (N:Nat) (s1:Bs) (s2:(List Ln)) (s5:(List (Bs×(Int×(Bs×Bs))))) (s14:(List Bs)) (s15:Int) (s16:Int):Option (Lp (Bs×(List Ln)×(List (Bs×(Int×(Bs×Bs))))×(List Bs)×Int×Int) (List (Bs×(Int×(Bs×Bs))))):=(zkD N s1 s2 s5 s14 s15 s16).eval
noncomputable def zhL (N:Nat) (x:(Bs×(List Ln)×(List (Bs×(Int×(Bs×Bs))))×(List Bs)×Int×Int)):Option (Lp (Bs×(List Ln)×(List (Bs×(Int×(Bs×Bs))))×(List Bs)×Int×Int) (List (Bs×(Int×(Bs×Bs))))):=zl (fun x=>zfw N x.1 x.2.1 x.2.2.1 x.2.2.2.1 x.2.2.2.2.1 x.2.2.2.2.2) N x
theorem zpR (N:Nat) (x:(shTy zbl).I): ∀ o,zhL N x=some o→S Tryz.prog (.loop zsf) (zh 67 zbl x) (zK (rdD Tryz.prog Tryz.f28 true) zbl (encO 67 zbl [0] (fun q=>some (E28o q)) o)):=
 fun o h=>zH (l:=zbl) (step:=fun x=>zfw N x.1 x.2.1 x.2.2.1 x.2.2.2.1 x.2.2.2.2.1 x.2.2.2.2.2) (fun x o h=>zb (tbl:=[(2000007,[],zae),(2000007,[],zae),(2000007,[],zae),(3000007,[],jc),(3000007,[],jc),(3000007,[],jc)]) (μ:=[14]) mixed _ _ _ (by
  have h1:=Vt.sound _ h
  refine Eq.mp ?_ h1
  kernel_rfl)) N x o h
noncomputable def V28o (N:Nat) (a0:(List Ln)) (a1:Bs):Vt (List (Bs×(Int×(Bs×Bs)))) (Option D) (fun q=>some (E28o q)):=
 .c1 (P25o N a0 ([([98,105,110,100,105,110,103,115]:Bs)]:(List Bs))) (fun x1=> .f1 (l:=zbl) (o:=zhL N (a1,a0,([]:(List (Bs×(Int×(Bs×Bs))))),x1,(x1.length:Int),0)) (zpR N (a1,a0,([]:(List (Bs×(Int×(Bs×Bs))))),x1,(x1.length:Int),0)) (fun x4=> .leaf x4.2.2.1))
noncomputable def F28o (N:Nat) (a0:(List Ln)) (a1:Bs):Option (List (Bs×(Int×(Bs×Bs)))):=(V28o N a0 a1).eval
def t28o:List (Nat×List Nat×List (Nat×Sh)):=[(3,[0],zbl),(2000007,[],zae),(2000007,[],zae),(2000007,[],zae),(3000007,[],jc),(3000007,[],jc),(3000007,[],jc),(4000000,[],[(2,.ept (.list tLn))])]
theorem P28o (N:Nat) (a0:(List Ln)) (a1:Bs): ∀ r,F28o N a0 a1=some r→Spec Tryz.prog 28 [.agg [.val (.list tLn) a0],.val tS a1] (E28o r):=fun r h=>zk (fn:=Tryz.f28) rfl rfl rfl rfl true (zb (tbl:=t28o) (μ:=[14]) mixed _ _ _ (by
 have h1:=Vt.sound _ h
 refine Eq.mp ?_ h1
 kernel_rfl))
def E29o:(List (Bs×(Int×(Bs×Bs))))→D:=fun x=> .own 79 (.pair tS (.pair tI (.pair tS tS))) x
abbrev zbm:List (Nat×Sh):=[(1,.val tS),(2,.cel false 2 75 (.list tLn)),(5,.row false 43 79 (.pair tS (.pair tI (.pair tS tS)))),(13,.row false 13 9 tS),(14,.val tI),(15,.val tI)]
noncomputable def zsg:Code:=zo 3 (zF Tryz.f29)
noncomputable def zkE (N:Nat) (s1:Bs) (s2:(List Ln)) (s5:(List (Bs×(Int×(Bs×Bs))))) (s13:(List Bs)) (s14:Int) (s15:Int):Vt (Lp (shTy zbm).I (List (Bs×(Int×(Bs×Bs))))) (O3 (Option D)) (encO 46 zbm [0] (fun q=>some (E29o q))):=
 .br (decide (s15<s14)) (.ck (inR s15 s13.length) (.ck (inR s15 s13.length) (.c1 (P68 N s2 ([]:Bs) ([([114,111,117,116,101,115]:Bs),(atI tS s13 s15),([118,105,97]:Bs)]:(List Bs))) (fun x1=> .c1 (P67 N s2 x1) (fun x2=> .br (x1==s1) (.ck (room (([108,111,99,97,108]:Bs).length+([32]:Bs).length)) (.c1 (P68 N s2 ([48]:Bs) ([([114,111,117,116,101,115]:Bs),(atI tS s13 s15),([109,101,116,114,105,99]:Bs)]:(List Bs))) (fun x3=> .ck (room ((([108,111,99,97,108]:Bs)++([32]:Bs)).length+x3.length)) (.ck (room (s5.length+([(s1,4,(atI tS s13 s15),((([108,111,99,97,108]:Bs)++([32]:Bs))++x3))]:(List (Bs×(Int×(Bs×Bs))))).length)) (.leaf (.next (s1,s2,(s5++([(s1,4,(atI tS s13 s15),((([108,111,99,97,108]:Bs)++([32]:Bs))++x3))]:(List (Bs×(Int×(Bs×Bs)))))),s13,s14,(IntKind.i64.wrap (s15+1))))))))) (.ck (room (x2.length+([32]:Bs).length)) (.c1 (P68 N s2 ([48]:Bs) ([([114,111,117,116,101,115]:Bs),(atI tS s13 s15),([109,101,116,114,105,99]:Bs)]:(List Bs))) (fun x4=> .ck (room ((x2++([32]:Bs)).length+x4.length)) (.ck (room (s5.length+([(s1,4,(atI tS s13 s15),((x2++([32]:Bs))++x4))]:(List (Bs×(Int×(Bs×Bs))))).length)) (.leaf (.next (s1,s2,(s5++([(s1,4,(atI tS s13 s15),((x2++([32]:Bs))++x4))]:(List (Bs×(Int×(Bs×Bs)))))),s13,s14,(IntKind.i64.wrap (s15+1)))))))))))))) (.leaf (.brk 0 (s1,s2,s5,s13,s14,s15)))
noncomputable def zfx (N:Nat) (s1:Bs) (s2:(List Ln)) (s5:(List (Bs×(Int×(Bs×Bs))))) (s13:(List Bs)) (s14:Int) (s15:Int):Option (Lp (Bs×(List Ln)×(List (Bs×(Int×(Bs×Bs))))×(List Bs)×Int×Int) (List (Bs×(Int×(Bs×Bs))))):=(zkE N s1 s2 s5 s13 s14 s15).eval
noncomputable def zhM (N:Nat) (x:(Bs×(List Ln)×(List (Bs×(Int×(Bs×Bs))))×(List Bs)×Int×Int)):Option (Lp (Bs×(List Ln)×(List (Bs×(Int×(Bs×Bs))))×(List Bs)×Int×Int) (List (Bs×(Int×(Bs×Bs))))):=zl (fun x=>zfx N x.1 x.2.1 x.2.2.1 x.2.2.2.1 x.2.2.2.2.1 x.2.2.2.2.2) N x
theorem zpS (N:Nat) (x:(shTy zbm).I): ∀ o,zhM N x=some o→S Tryz.prog (.loop zsg) (zh 46 zbm x) (zK (rdD Tryz.prog Tryz.f29 true) zbm (encO 46 zbm [0] (fun q=>some (E29o q)) o)):=
 fun o h=>zH (l:=zbm) (step:=fun x=>zfx N x.1 x.2.1 x.2.2.1 x.2.2.2.1 x.2.2.2.2.1 x.2.2.2.2.2) (fun x o h=>zb (tbl:=[]) (μ:=[13]) mixed _ _ _ (by
  have h1:=Vt.sound _ h
  refine Eq.mp ?_ h1
  kernel_rfl)) N x o h
noncomputable def V29o (N:Nat) (a0:(List Ln)) (a1:Bs):Vt (List (Bs×(Int×(Bs×Bs)))) (Option D) (fun q=>some (E29o q)):=
 .c1 (P25o N a0 ([([114,111,117,116,101,115]:Bs)]:(List Bs))) (fun x1=> .f1 (l:=zbm) (o:=zhM N (a1,a0,([]:(List (Bs×(Int×(Bs×Bs))))),x1,(x1.length:Int),0)) (zpS N (a1,a0,([]:(List (Bs×(Int×(Bs×Bs))))),x1,(x1.length:Int),0)) (fun x4=> .leaf x4.2.2.1))
noncomputable def F29o (N:Nat) (a0:(List Ln)) (a1:Bs):Option (List (Bs×(Int×(Bs×Bs)))):=(V29o N a0 a1).eval
def t29o:List (Nat×List Nat×List (Nat×Sh)):=[(3,[0],zbm)]
theorem P29o (N:Nat) (a0:(List Ln)) (a1:Bs): ∀ r,F29o N a0 a1=some r→Spec Tryz.prog 29 [.agg [.val (.list tLn) a0],.val tS a1] (E29o r):=fun r h=>zk (fn:=Tryz.f29) rfl rfl rfl rfl true (zb (tbl:=t29o) (μ:=[13]) mixed _ _ _ (by
 have h1:=Vt.sound _ h
 refine Eq.mp ?_ h1
 kernel_rfl))
def E30o:(List (Bs×(Int×(Bs×Bs))))→D:=fun x=> .own 79 (.pair tS (.pair tI (.pair tS tS))) x
abbrev zaf:List (Nat×Sh):=[(1,.val tS),(2,.ept (.list tLn)),(5,.row false 41 79 (.pair tS (.pair tI (.pair tS tS)))),(7,.val tS),(12,.row false 12 9 tS),(13,.val tI),(14,.val tI)]
abbrev jd:List (Nat×Sh):=[(1,.val tS),(2,.ept (.list tLn)),(5,.row false 41 79 (.pair tS (.pair tI (.pair tS tS)))),(7,.val tS),(8,.row false 33 9 tS),(12,.row false 12 9 tS),(13,.val tI),(14,.val tI)]
set_option maxHeartbeats 4000000 in
noncomputable def zkF (N:Nat) (s1:Bs) (s2:(List Ln)) (s5:(List (Bs×(Int×(Bs×Bs))))) (s7:Bs) (s12:(List Bs)) (s13:Int) (s14:Int):Vt (shTy jd).I St (fun x=>zh 44 jd x):=
 .nb (.nb (.c1 (P68 N s2 ([]:Bs) ([([112,111,108,105,99,121]:Bs),s7,([97,99,116,105,111,110]:Bs)]:(List Bs))) (fun x1=> .nb (.nb (.c1 (P68 N s2 ([97,110,121]:Bs) ([([112,111,108,105,99,121]:Bs),s7,([102,114,111,109]:Bs)]:(List Bs))) (fun x2=> .c1 (P68 N s2 ([97,110,121]:Bs) ([([112,111,108,105,99,121]:Bs),s7,([116,111]:Bs)]:(List Bs))) (fun x3=> .leaf (s1,s2,s5,s7,([x1,x2,x3]:(List Bs)),s12,s13,s14)))) (.c1 (P68 N s2 ([97,110,121]:Bs) ([([112,111,108,105,99,121]:Bs),s7,([102,114,111,109]:Bs)]:(List Bs))) (fun x4=> .c1 (P68 N s2 ([97,110,121]:Bs) ([([112,111,108,105,99,121]:Bs),s7,([116,111]:Bs)]:(List Bs))) (fun x5=> .leaf (s1,s2,s5,s7,([x1,x4,x5]:(List Bs)),s12,s13,s14))))) (.c1 (P68 N s2 ([97,110,121]:Bs) ([([112,111,108,105,99,121]:Bs),s7,([102,114,111,109]:Bs)]:(List Bs))) (fun x6=> .c1 (P68 N s2 ([97,110,121]:Bs) ([([112,111,108,105,99,121]:Bs),s7,([116,111]:Bs)]:(List Bs))) (fun x7=> .leaf (s1,s2,s5,s7,([x1,x6,x7]:(List Bs)),s12,s13,s14)))))) (.nb (.nb (.c1 (P68 N s2 ([]:Bs) ([([112,111,108,105,99,121]:Bs),s7,([97,99,116,105,111,110]:Bs)]:(List Bs))) (fun x8=> .nb (.c1 (P68 N s2 ([97,110,121]:Bs) ([([112,111,108,105,99,121]:Bs),s7,([102,114,111,109]:Bs)]:(List Bs))) (fun x9=> .c1 (P68 N s2 ([97,110,121]:Bs) ([([112,111,108,105,99,121]:Bs),s7,([116,111]:Bs)]:(List Bs))) (fun x10=> .leaf (s1,s2,s5,s7,([x8,x9,x10]:(List Bs)),s12,s13,s14)))) (.c1 (P68 N s2 ([97,110,121]:Bs) ([([112,111,108,105,99,121]:Bs),s7,([102,114,111,109]:Bs)]:(List Bs))) (fun x11=> .c1 (P68 N s2 ([97,110,121]:Bs) ([([112,111,108,105,99,121]:Bs),s7,([116,111]:Bs)]:(List Bs))) (fun x12=> .leaf (s1,s2,s5,s7,([x8,x11,x12]:(List Bs)),s12,s13,s14)))))) (.c1 (P68 N s2 ([]:Bs) ([([112,111,108,105,99,121]:Bs),s7,([97,99,116,105,111,110]:Bs)]:(List Bs))) (fun x13=> .c1 (P68 N s2 ([97,110,121]:Bs) ([([112,111,108,105,99,121]:Bs),s7,([102,114,111,109]:Bs)]:(List Bs))) (fun x14=> .c1 (P68 N s2 ([97,110,121]:Bs) ([([112,111,108,105,99,121]:Bs),s7,([116,111]:Bs)]:(List Bs))) (fun x15=> .leaf (s1,s2,s5,s7,([x13,x14,x15]:(List Bs)),s12,s13,s14)))))) (.nb (.c1 (P68 N s2 ([]:Bs) ([([112,111,108,105,99,121]:Bs),s7,([97,99,116,105,111,110]:Bs)]:(List Bs))) (fun x16=> .c1 (P68 N s2 ([97,110,121]:Bs) ([([112,111,108,105,99,121]:Bs),s7,([102,114,111,109]:Bs)]:(List Bs))) (fun x17=> .c1 (P68 N s2 ([97,110,121]:Bs) ([([112,111,108,105,99,121]:Bs),s7,([116,111]:Bs)]:(List Bs))) (fun x18=> .leaf (s1,s2,s5,s7,([x16,x17,x18]:(List Bs)),s12,s13,s14))))) (.c1 (P68 N s2 ([]:Bs) ([([112,111,108,105,99,121]:Bs),s7,([97,99,116,105,111,110]:Bs)]:(List Bs))) (fun x19=> .c1 (P68 N s2 ([97,110,121]:Bs) ([([112,111,108,105,99,121]:Bs),s7,([102,114,111,109]:Bs)]:(List Bs))) (fun x20=> .c1 (P68 N s2 ([97,110,121]:Bs) ([([112,111,108,105,99,121]:Bs),s7,([116,111]:Bs)]:(List Bs))) (fun x21=> .leaf (s1,s2,s5,s7,([x19,x20,x21]:(List Bs)),s12,s13,s14)))))))) (.nb (.nb (.nb (.c1 (P68 N s2 ([]:Bs) ([([112,111,108,105,99,121]:Bs),s7,([97,99,116,105,111,110]:Bs)]:(List Bs))) (fun x22=> .nb (.c1 (P68 N s2 ([97,110,121]:Bs) ([([112,111,108,105,99,121]:Bs),s7,([102,114,111,109]:Bs)]:(List Bs))) (fun x23=> .c1 (P68 N s2 ([97,110,121]:Bs) ([([112,111,108,105,99,121]:Bs),s7,([116,111]:Bs)]:(List Bs))) (fun x24=> .leaf (s1,s2,s5,s7,([x22,x23,x24]:(List Bs)),s12,s13,s14)))) (.c1 (P68 N s2 ([97,110,121]:Bs) ([([112,111,108,105,99,121]:Bs),s7,([102,114,111,109]:Bs)]:(List Bs))) (fun x25=> .c1 (P68 N s2 ([97,110,121]:Bs) ([([112,111,108,105,99,121]:Bs),s7,([116,111]:Bs)]:(List Bs))) (fun x26=> .leaf (s1,s2,s5,s7,([x22,x25,x26]:(List Bs)),s12,s13,s14)))))) (.c1 (P68 N s2 ([]:Bs) ([([112,111,108,105,99,121]:Bs),s7,([97,99,116,105,111,110]:Bs)]:(List Bs))) (fun x27=> .c1 (P68 N s2 ([97,110,121]:Bs) ([([112,111,108,105,99,121]:Bs),s7,([102,114,111,109]:Bs)]:(List Bs))) (fun x28=> .c1 (P68 N s2 ([97,110,121]:Bs) ([([112,111,108,105,99,121]:Bs),s7,([116,111]:Bs)]:(List Bs))) (fun x29=> .leaf (s1,s2,s5,s7,([x27,x28,x29]:(List Bs)),s12,s13,s14)))))) (.c1 (P68 N s2 ([]:Bs) ([([112,111,108,105,99,121]:Bs),s7,([97,99,116,105,111,110]:Bs)]:(List Bs))) (fun x30=> .c1 (P68 N s2 ([97,110,121]:Bs) ([([112,111,108,105,99,121]:Bs),s7,([102,114,111,109]:Bs)]:(List Bs))) (fun x31=> .c1 (P68 N s2 ([97,110,121]:Bs) ([([112,111,108,105,99,121]:Bs),s7,([116,111]:Bs)]:(List Bs))) (fun x32=> .leaf (s1,s2,s5,s7,([x30,x31,x32]:(List Bs)),s12,s13,s14)))))) (.nb (.nb (.c1 (P68 N s2 ([]:Bs) ([([112,111,108,105,99,121]:Bs),s7,([97,99,116,105,111,110]:Bs)]:(List Bs))) (fun x33=> .c1 (P68 N s2 ([97,110,121]:Bs) ([([112,111,108,105,99,121]:Bs),s7,([102,114,111,109]:Bs)]:(List Bs))) (fun x34=> .c1 (P68 N s2 ([97,110,121]:Bs) ([([112,111,108,105,99,121]:Bs),s7,([116,111]:Bs)]:(List Bs))) (fun x35=> .leaf (s1,s2,s5,s7,([x33,x34,x35]:(List Bs)),s12,s13,s14))))) (.c1 (P68 N s2 ([]:Bs) ([([112,111,108,105,99,121]:Bs),s7,([97,99,116,105,111,110]:Bs)]:(List Bs))) (fun x36=> .c1 (P68 N s2 ([97,110,121]:Bs) ([([112,111,108,105,99,121]:Bs),s7,([102,114,111,109]:Bs)]:(List Bs))) (fun x37=> .c1 (P68 N s2 ([97,110,121]:Bs) ([([112,111,108,105,99,121]:Bs),s7,([116,111]:Bs)]:(List Bs))) (fun x38=> .leaf (s1,s2,s5,s7,([x36,x37,x38]:(List Bs)),s12,s13,s14)))))) (.c1 (P68 N s2 ([]:Bs) ([([112,111,108,105,99,121]:Bs),s7,([97,99,116,105,111,110]:Bs)]:(List Bs))) (fun x39=> .c1 (P68 N s2 ([97,110,121]:Bs) ([([112,111,108,105,99,121]:Bs),s7,([102,114,111,109]:Bs)]:(List Bs))) (fun x40=> .c1 (P68 N s2 ([97,110,121]:Bs) ([([112,111,108,105,99,121]:Bs),s7,([116,111]:Bs)]:(List Bs))) (fun x41=> .leaf (s1,s2,s5,s7,([x39,x40,x41]:(List Bs)),s12,s13,s14)))))))
noncomputable def zgt (N:Nat) (x:(Bs×(List Ln)×(List (Bs×(Int×(Bs×Bs))))×Bs×(List Bs)×Int×Int)):Option ((Bs×(List Ln)×(List (Bs×(Int×(Bs×Bs))))×Bs×(List Bs)×(List Bs)×Int×Int)):=(zkF N x.1 x.2.1 x.2.2.1 x.2.2.2.1 x.2.2.2.2.1 x.2.2.2.2.2.1 x.2.2.2.2.2.2).eval
set_option maxHeartbeats 4000000 in
theorem zpT (N:Nat) (x:(shTy zaf).I): ∀ o,zgt N x=some o→S Tryz.prog (.region 5 ((zav 5 (zF Tryz.f30)).getD #[]) true) (zh 44 zaf x) (zlw jd (zh 44 jd o)):=
 fun o h=>zkl (μ:=[12]) mixed (by kernel_rfl) (by
  have h1:=Vt.sound _ h
  refine Eq.mp ?_ h1
  kernel_rfl)
abbrev zbn:List (Nat×Sh):=[(1,.val tS),(2,.ept (.list tLn)),(5,.row false 41 79 (.pair tS (.pair tI (.pair tS tS)))),(12,.row false 12 9 tS),(13,.val tI),(14,.val tI)]
noncomputable def zsh:Code:=zo 3 (zF Tryz.f30)
noncomputable def zkG (N:Nat) (s1:Bs) (s2:(List Ln)) (s5:(List (Bs×(Int×(Bs×Bs))))) (s12:(List Bs)) (s13:Int) (s14:Int):Vt (Lp (shTy zbn).I (List (Bs×(Int×(Bs×Bs))))) (O3 (Option D)) (encO 44 zbn [0] (fun q=>some (E30o q))):=
 .br (decide (s14<s13)) (.ck (inR s14 s12.length) (.ck (inR s14 s12.length) (.cr (zpT N (s1,s2,s5,(atI tS s12 s14),s12,s13,s14)) (fun x1=> .c1 (P55 N x1.2.2.2.2.1 ([32]:Bs)) (fun x2=> .ck (room (x1.2.2.1.length+([(x1.1,5,x1.2.2.2.1,x2)]:(List (Bs×(Int×(Bs×Bs))))).length)) (.leaf (.next (x1.1,x1.2.1,(x1.2.2.1++([(x1.1,5,x1.2.2.2.1,x2)]:(List (Bs×(Int×(Bs×Bs)))))),x1.2.2.2.2.2.1,x1.2.2.2.2.2.2.1,(IntKind.i64.wrap (x1.2.2.2.2.2.2.2+1)))))))))) (.leaf (.brk 0 (s1,s2,s5,s12,s13,s14)))
noncomputable def zfy (N:Nat) (s1:Bs) (s2:(List Ln)) (s5:(List (Bs×(Int×(Bs×Bs))))) (s12:(List Bs)) (s13:Int) (s14:Int):Option (Lp (Bs×(List Ln)×(List (Bs×(Int×(Bs×Bs))))×(List Bs)×Int×Int) (List (Bs×(Int×(Bs×Bs))))):=(zkG N s1 s2 s5 s12 s13 s14).eval
noncomputable def zhN (N:Nat) (x:(Bs×(List Ln)×(List (Bs×(Int×(Bs×Bs))))×(List Bs)×Int×Int)):Option (Lp (Bs×(List Ln)×(List (Bs×(Int×(Bs×Bs))))×(List Bs)×Int×Int) (List (Bs×(Int×(Bs×Bs))))):=zl (fun x=>zfy N x.1 x.2.1 x.2.2.1 x.2.2.2.1 x.2.2.2.2.1 x.2.2.2.2.2) N x
theorem zpU (N:Nat) (x:(shTy zbn).I): ∀ o,zhN N x=some o→S Tryz.prog (.loop zsh) (zh 44 zbn x) (zK (rdD Tryz.prog Tryz.f30 true) zbn (encO 44 zbn [0] (fun q=>some (E30o q)) o)):=
 fun o h=>zH (l:=zbn) (step:=fun x=>zfy N x.1 x.2.1 x.2.2.1 x.2.2.2.1 x.2.2.2.2.1 x.2.2.2.2.2) (fun x o h=>zb (tbl:=[(2000005,[],zaf),(2000005,[],zaf),(2000005,[],zaf),(3000005,[],jd),(3000005,[],jd),(3000005,[],jd)]) (μ:=[12]) mixed _ _ _ (by
  have h1:=Vt.sound _ h
  refine Eq.mp ?_ h1
  kernel_rfl)) N x o h
noncomputable def V30o (N:Nat) (a0:(List Ln)) (a1:Bs):Vt (List (Bs×(Int×(Bs×Bs)))) (Option D) (fun q=>some (E30o q)):=
 .c1 (P25o N a0 ([([112,111,108,105,99,121]:Bs)]:(List Bs))) (fun x1=> .f1 (l:=zbn) (o:=zhN N (a1,a0,([]:(List (Bs×(Int×(Bs×Bs))))),x1,(x1.length:Int),0)) (zpU N (a1,a0,([]:(List (Bs×(Int×(Bs×Bs))))),x1,(x1.length:Int),0)) (fun x3=> .leaf x3.2.2.1))
noncomputable def F30o (N:Nat) (a0:(List Ln)) (a1:Bs):Option (List (Bs×(Int×(Bs×Bs)))):=(V30o N a0 a1).eval
def t30o:List (Nat×List Nat×List (Nat×Sh)):=[(3,[0],zbn),(2000005,[],zaf),(2000005,[],zaf),(2000005,[],zaf),(3000005,[],jd),(3000005,[],jd),(3000005,[],jd),(4000000,[],[(2,.ept (.list tLn))])]
theorem P30o (N:Nat) (a0:(List Ln)) (a1:Bs): ∀ r,F30o N a0 a1=some r→Spec Tryz.prog 30 [.agg [.val (.list tLn) a0],.val tS a1] (E30o r):=fun r h=>zk (fn:=Tryz.f30) rfl rfl rfl rfl true (zb (tbl:=t30o) (μ:=[12]) mixed _ _ _ (by
 have h1:=Vt.sound _ h
 refine Eq.mp ?_ h1
 kernel_rfl))
def E73:Bool→D:=fun x=>encV tB x
abbrev zeq:List (Nat×Sh):=[(0,.val (.list tS)),(1,.val (.list tS)),(5,.val tI)]
noncomputable def b73_4:Code:=zo 4 (zF Tryz.f73)
noncomputable def zsi (N:Nat) (s0:(List Bs)) (s1:(List Bs)) (s5:Int):Vt (Lp (shTy zeq).I Bool) (O3 (Option D)) (encO 26 zeq [0] (fun q=>some (E73 q))):=
 .br (decide (s5<(s0.length:Int))) (.ck (inR s5 s0.length) (.ck (inR s5 s1.length) (.br (!((atI tS s0 s5)==(atI tS s1 s5))) (.leaf (.ret false)) (.leaf (.next (s0,s1,(IntKind.i64.wrap (s5+1)))))))) (.leaf (.brk 0 (s0,s1,s5)))
noncomputable def zm4 (N:Nat) (s0:(List Bs)) (s1:(List Bs)) (s5:Int):Option (Lp ((List Bs)×(List Bs)×Int) Bool):=(zsi N s0 s1 s5).eval
noncomputable def zpV (N:Nat) (x:((List Bs)×(List Bs)×Int)):Option (Lp ((List Bs)×(List Bs)×Int) Bool):=zl (fun x=>zm4 N x.1 x.2.1 x.2.2) N x
theorem zsj (N:Nat) (x:(shTy zeq).I): ∀ o,zpV N x=some o→S Tryz.prog (.loop b73_4) (zh 26 zeq x) (zK (rdD Tryz.prog Tryz.f73 false) zeq (encO 26 zeq [0] (fun q=>some (E73 q)) o)):=
 fun o h=>zH (l:=zeq) (step:=fun x=>zm4 N x.1 x.2.1 x.2.2) (fun x o h=>zb (tbl:=[]) (μ:=[]) mixed _ _ _ (by
  have h1:=Vt.sound _ h
  refine Eq.mp ?_ h1
  kernel_rfl)) N x o h
noncomputable def V73 (N:Nat) (a0:(List Bs)) (a1:(List Bs)):Vt Bool (Option D) (fun q=>some (E73 q)):=
 .br ((a0.length:Int) !=(a1.length:Int)) (.leaf false) (.f1 (l:=zeq) (o:=zpV N (a0,a1,0)) (zsj N (a0,a1,0)) (fun x1=> .leaf true))
noncomputable def F73 (N:Nat) (a0:(List Bs)) (a1:(List Bs)):Option Bool:=(V73 N a0 a1).eval
def t73:List (Nat×List Nat×List (Nat×Sh)):=[(4,[0],zeq)]
theorem P73 (N:Nat) (a0:(List Bs)) (a1:(List Bs)): ∀ r,F73 N a0 a1=some r→Spec Tryz.prog 73 [.val (.list tS) a0,.val (.list tS) a1] (E73 r):=fun r h=>zk (fn:=Tryz.f73) rfl rfl rfl rfl false (zb (tbl:=t73) (μ:=[]) mixed _ _ _ (by
 have h1:=Vt.sound _ h
 refine Eq.mp ?_ h1
 kernel_rfl))
def E75:Int→D:=fun x=>encV tI x
abbrev zer:List (Nat×Sh):=[(0,.val (.list tLn)),(1,.val tI),(5,.val tI),(6,.val tI)]
noncomputable def b75_3:Code:=zo 3 (zF Tryz.f75)
noncomputable def zsk (N:Nat) (s0:(List Ln)) (s1:Int) (s5:Int) (s6:Int):Vt (Lp (shTy zer).I Int) (O3 (Option D)) (encO 25 zer [0] (fun q=>some (E75 q))):=
 .br (decide (s6<s1)) (.ck (inR s6 s0.length) (.ck (inR s1 s0.length) (.br (decide (((atI tLn s0 s6).1)<((atI tLn s0 s1).1))) (.leaf (.next (s0,s1,s6,(IntKind.i64.wrap (s6+1))))) (.leaf (.next (s0,s1,s5,(IntKind.i64.wrap (s6+1)))))))) (.leaf (.brk 0 (s0,s1,s5,s6)))
noncomputable def zm5 (N:Nat) (s0:(List Ln)) (s1:Int) (s5:Int) (s6:Int):Option (Lp ((List Ln)×Int×Int×Int) Int):=(zsk N s0 s1 s5 s6).eval
noncomputable def zpW (N:Nat) (x:((List Ln)×Int×Int×Int)):Option (Lp ((List Ln)×Int×Int×Int) Int):=zl (fun x=>zm5 N x.1 x.2.1 x.2.2.1 x.2.2.2) N x
theorem zsl (N:Nat) (x:(shTy zer).I): ∀ o,zpW N x=some o→S Tryz.prog (.loop b75_3) (zh 25 zer x) (zK (rdD Tryz.prog Tryz.f75 false) zer (encO 25 zer [0] (fun q=>some (E75 q)) o)):=
 fun o h=>zH (l:=zer) (step:=fun x=>zm5 N x.1 x.2.1 x.2.2.1 x.2.2.2) (fun x o h=>zb (tbl:=[]) (μ:=[]) mixed _ _ _ (by
  have h1:=Vt.sound _ h
  refine Eq.mp ?_ h1
  kernel_rfl)) N x o h
noncomputable def V75 (N:Nat) (a0:(List Ln)) (a1:Int):Vt Int (Option D) (fun q=>some (E75 q)):=
 .f1 (l:=zer) (o:=zpW N (a0,a1,(-1),0)) (zsl N (a0,a1,(-1),0)) (fun x1=> .leaf x1.2.2.1)
noncomputable def F75 (N:Nat) (a0:(List Ln)) (a1:Int):Option Int:=(V75 N a0 a1).eval
def t75:List (Nat×List Nat×List (Nat×Sh)):=[(3,[0],zer)]
theorem P75 (N:Nat) (a0:(List Ln)) (a1:Int): ∀ r,F75 N a0 a1=some r→Spec Tryz.prog 75 [.val (.list tLn) a0,.val tI a1] (E75 r):=fun r h=>zk (fn:=Tryz.f75) rfl rfl rfl rfl false (zb (tbl:=t75) (μ:=[]) mixed _ _ _ (by
 have h1:=Vt.sound _ h
 refine Eq.mp ?_ h1
 kernel_rfl))
def E74:(List Bs)→D:=fun x=>encV (.list tS) x
abbrev zes:List (Nat×Sh):=[(0,.val (.list tLn)),(1,.val tI),(5,.val (.list tS))]
noncomputable def b74_2:Code:=zo 2 (zF Tryz.f74)
noncomputable def zsm (N:Nat) (s0:(List Ln)) (s1:Int) (s5:(List Bs)):Vt (Lp (shTy zes).I (List Bs)) (O3 (Option D)) (encO 24 zes [0] (fun q=>some (E74 q))):=
 .br (decide ((0:Int)≤s1)) (.ck (inR s1 s0.length) (.ck (room ([(atI tLn s0 s1).2.1]:(List Bs)).length) (.ck (room (([(atI tLn s0 s1).2.1]:(List Bs)).length+s5.length)) (.c1 (P75 N s0 s1) (fun x1=> .leaf (.next (s0,x1,(([(atI tLn s0 s1).2.1]:(List Bs))++s5)))))))) (.leaf (.brk 0 (s0,s1,s5)))
noncomputable def zm6 (N:Nat) (s0:(List Ln)) (s1:Int) (s5:(List Bs)):Option (Lp ((List Ln)×Int×(List Bs)) (List Bs)):=(zsm N s0 s1 s5).eval
noncomputable def zpX (N:Nat) (x:((List Ln)×Int×(List Bs))):Option (Lp ((List Ln)×Int×(List Bs)) (List Bs)):=zl (fun x=>zm6 N x.1 x.2.1 x.2.2) N x
theorem zsn (N:Nat) (x:(shTy zes).I): ∀ o,zpX N x=some o→S Tryz.prog (.loop b74_2) (zh 24 zes x) (zK (rdD Tryz.prog Tryz.f74 false) zes (encO 24 zes [0] (fun q=>some (E74 q)) o)):=
 fun o h=>zH (l:=zes) (step:=fun x=>zm6 N x.1 x.2.1 x.2.2) (fun x o h=>zb (tbl:=[]) (μ:=[]) mixed _ _ _ (by
  have h1:=Vt.sound _ h
  refine Eq.mp ?_ h1
  kernel_rfl)) N x o h
noncomputable def V74 (N:Nat) (a0:(List Ln)) (a1:Int):Vt (List Bs) (Option D) (fun q=>some (E74 q)):=
 .f1 (l:=zes) (o:=zpX N (a0,a1,([]:(List Bs)))) (zsn N (a0,a1,([]:(List Bs)))) (fun x2=> .leaf x2.2.2)
noncomputable def F74 (N:Nat) (a0:(List Ln)) (a1:Int):Option (List Bs):=(V74 N a0 a1).eval
def t74:List (Nat×List Nat×List (Nat×Sh)):=[(2,[0],zes)]
theorem P74 (N:Nat) (a0:(List Ln)) (a1:Int): ∀ r,F74 N a0 a1=some r→Spec Tryz.prog 74 [.val (.list tLn) a0,.val tI a1] (E74 r):=fun r h=>zk (fn:=Tryz.f74) rfl rfl rfl rfl false (zb (tbl:=t74) (μ:=[]) mixed _ _ _ (by
 have h1:=Vt.sound _ h
 refine Eq.mp ?_ h1
 kernel_rfl))
def E32:Int→D:=fun x=>encV tI x
abbrev zet:List (Nat×Sh):=[(0,.val (.list tLn)),(1,.val (.list tS)),(5,.val tI)]
noncomputable def b32_2:Code:=zo 2 (zF Tryz.f32)
noncomputable def zso (N:Nat) (s0:(List Ln)) (s1:(List Bs)) (s5:Int):Vt (Lp (shTy zet).I Int) (O3 (Option D)) (encO 29 zet [0] (fun q=>some (E32 q))):=
 .br (decide (s5<(s0.length:Int))) (.ck (inR s5 s0.length) (.br (((atI tLn s0 s5).1)==(IntKind.i64.wrap ((s1.length:Int) - 1))) (.c1 (P74 N s0 s5) (fun x1=> .c1 (P73 N x1 s1) (fun x2=> .br x2 (.leaf (.ret s5)) (.leaf (.next (s0,s1,(IntKind.i64.wrap (s5+1)))))))) (.leaf (.next (s0,s1,(IntKind.i64.wrap (s5+1))))))) (.leaf (.brk 0 (s0,s1,s5)))
noncomputable def zm7 (N:Nat) (s0:(List Ln)) (s1:(List Bs)) (s5:Int):Option (Lp ((List Ln)×(List Bs)×Int) Int):=(zso N s0 s1 s5).eval
noncomputable def zpY (N:Nat) (x:((List Ln)×(List Bs)×Int)):Option (Lp ((List Ln)×(List Bs)×Int) Int):=zl (fun x=>zm7 N x.1 x.2.1 x.2.2) N x
theorem zsp (N:Nat) (x:(shTy zet).I): ∀ o,zpY N x=some o→S Tryz.prog (.loop b32_2) (zh 29 zet x) (zK (rdD Tryz.prog Tryz.f32 false) zet (encO 29 zet [0] (fun q=>some (E32 q)) o)):=
 fun o h=>zH (l:=zet) (step:=fun x=>zm7 N x.1 x.2.1 x.2.2) (fun x o h=>zb (tbl:=[]) (μ:=[]) mixed _ _ _ (by
  have h1:=Vt.sound _ h
  refine Eq.mp ?_ h1
  kernel_rfl)) N x o h
noncomputable def V32 (N:Nat) (a0:(List Ln)) (a1:(List Bs)):Vt Int (Option D) (fun q=>some (E32 q)):=
 .f1 (l:=zet) (o:=zpY N (a0,a1,0)) (zsp N (a0,a1,0)) (fun x1=> .leaf (-1))
noncomputable def F32 (N:Nat) (a0:(List Ln)) (a1:(List Bs)):Option Int:=(V32 N a0 a1).eval
def t32:List (Nat×List Nat×List (Nat×Sh)):=[(2,[0],zet)]
theorem P32 (N:Nat) (a0:(List Ln)) (a1:(List Bs)): ∀ r,F32 N a0 a1=some r→Spec Tryz.prog 32 [.val (.list tLn) a0,.val (.list tS) a1] (E32 r):=fun r h=>zk (fn:=Tryz.f32) rfl rfl rfl rfl false (zb (tbl:=t32) (μ:=[]) mixed _ _ _ (by
 have h1:=Vt.sound _ h
 refine Eq.mp ?_ h1
 kernel_rfl))
def E33o:(List Int)→D:=fun x=> .own 3 tI x
abbrev zbo:List (Nat×Sh):=[(0,.val (.list tLn)),(1,.val tI),(5,.row false 21 3 tI),(6,.val tI)]
noncomputable def zsq:Code:=zo 3 (zF Tryz.f33)
noncomputable def zob (N:Nat) (s0:(List Ln)) (s1:Int) (s5:(List Int)) (s6:Int):Vt (Lp (shTy zbo).I (List Int)) (O3 (Option D)) (encO 23 zbo [0] (fun q=>some (E33o q))):=
 .br (decide (s6<(s0.length:Int))) (.c1 (P75 N s0 s6) (fun x1=> .br (x1==s1) (.ck (room (s5.length+([s6]:(List Int)).length)) (.leaf (.next (s0,s1,(s5++([s6]:(List Int))),(IntKind.i64.wrap (s6+1)))))) (.leaf (.next (s0,s1,s5,(IntKind.i64.wrap (s6+1))))))) (.leaf (.brk 0 (s0,s1,s5,s6)))
noncomputable def zhO (N:Nat) (s0:(List Ln)) (s1:Int) (s5:(List Int)) (s6:Int):Option (Lp ((List Ln)×Int×(List Int)×Int) (List Int)):=(zob N s0 s1 s5 s6).eval
noncomputable def zkH (N:Nat) (x:((List Ln)×Int×(List Int)×Int)):Option (Lp ((List Ln)×Int×(List Int)×Int) (List Int)):=zl (fun x=>zhO N x.1 x.2.1 x.2.2.1 x.2.2.2) N x
theorem zpZ (N:Nat) (x:(shTy zbo).I): ∀ o,zkH N x=some o→S Tryz.prog (.loop zsq) (zh 23 zbo x) (zK (rdD Tryz.prog Tryz.f33 true) zbo (encO 23 zbo [0] (fun q=>some (E33o q)) o)):=
 fun o h=>zH (l:=zbo) (step:=fun x=>zhO N x.1 x.2.1 x.2.2.1 x.2.2.2) (fun x o h=>zb (tbl:=[]) (μ:=[]) mixed _ _ _ (by
  have h1:=Vt.sound _ h
  refine Eq.mp ?_ h1
  kernel_rfl)) N x o h
noncomputable def V33o (N:Nat) (a0:(List Ln)) (a1:Int):Vt (List Int) (Option D) (fun q=>some (E33o q)):=
 .f1 (l:=zbo) (o:=zkH N (a0,a1,([]:(List Int)),0)) (zpZ N (a0,a1,([]:(List Int)),0)) (fun x2=> .leaf x2.2.2.1)
noncomputable def F33o (N:Nat) (a0:(List Ln)) (a1:Int):Option (List Int):=(V33o N a0 a1).eval
def t33o:List (Nat×List Nat×List (Nat×Sh)):=[(3,[0],zbo)]
theorem P33o (N:Nat) (a0:(List Ln)) (a1:Int): ∀ r,F33o N a0 a1=some r→Spec Tryz.prog 33 [.val (.list tLn) a0,.val tI a1] (E33o r):=fun r h=>zk (fn:=Tryz.f33) rfl rfl rfl rfl true (zb (tbl:=t33o) (μ:=[]) mixed _ _ _ (by
 have h1:=Vt.sound _ h
 refine Eq.mp ?_ h1
 kernel_rfl))
def E8o:(List Bs)→D:=fun x=> .own 9 tS x
abbrev zdd:List (Nat×Sh):=[(0,.val (.list tLn)),(6,.row false 36 9 tS),(7,.row false 19 3 tI),(8,.val tI)]
noncomputable def b8o_9:Code:=zo 9 (zF Tryz.f8)
noncomputable def zp0 (N:Nat) (s0:(List Ln)) (s6:(List Bs)) (s7:(List Int)) (s8:Int):Vt (Lp (shTy zdd).I (List Bs)) (O3 (Option D)) (encO 38 zdd [0] (fun q=>some (E8o q))):=
 .br (decide (s8<(s7.length:Int))) (.ck (inR s8 s7.length) (.ck (inR s8 s7.length) (.ck (inR (atI tI s7 s8) s0.length) (.ck (room (s6.length+([(atI tLn s0 (atI tI s7 s8)).2.1]:(List Bs)).length)) (.leaf (.next (s0,(s6++([(atI tLn s0 (atI tI s7 s8)).2.1]:(List Bs))),s7,(IntKind.i64.wrap (s8+1))))))))) (.leaf (.brk 0 (s0,s6,s7,s8)))
noncomputable def zkI (N:Nat) (s0:(List Ln)) (s6:(List Bs)) (s7:(List Int)) (s8:Int):Option (Lp ((List Ln)×(List Bs)×(List Int)×Int) (List Bs)):=(zp0 N s0 s6 s7 s8).eval
noncomputable def zm8 (N:Nat) (x:((List Ln)×(List Bs)×(List Int)×Int)):Option (Lp ((List Ln)×(List Bs)×(List Int)×Int) (List Bs)):=zl (fun x=>zkI N x.1 x.2.1 x.2.2.1 x.2.2.2) N x
theorem zoc (N:Nat) (x:(shTy zdd).I): ∀ o,zm8 N x=some o→S Tryz.prog (.loop b8o_9) (zh 38 zdd x) (zK (rdD Tryz.prog Tryz.f8 true) zdd (encO 38 zdd [0] (fun q=>some (E8o q)) o)):=
 fun o h=>zH (l:=zdd) (step:=fun x=>zkI N x.1 x.2.1 x.2.2.1 x.2.2.2) (fun x o h=>zb (tbl:=[]) (μ:=[19]) mixed _ _ _ (by
  have h1:=Vt.sound _ h
  refine Eq.mp ?_ h1
  kernel_rfl)) N x o h
noncomputable def V8o (N:Nat) (a0:(List Ln)) (a1:(List Bs)):Vt (List Bs) (Option D) (fun q=>some (E8o q)):=
 .br (decide ((0:Int)<(a1.length:Int))) (.c1 (P32 N a0 a1) (fun x1=> .br (decide (x1<0)) (.leaf ([]:(List Bs))) (.c1 (P33o N a0 x1) (fun x2=> .f1 (l:=zdd) (o:=zm8 N (a0,([]:(List Bs)),x2,0)) (zoc N (a0,([]:(List Bs)),x2,0)) (fun x1=> .leaf x1.2.1))))) (.c1 (P33o N a0 (-1)) (fun x2=> .f1 (l:=zdd) (o:=zm8 N (a0,([]:(List Bs)),x2,0)) (zoc N (a0,([]:(List Bs)),x2,0)) (fun x3=> .leaf x3.2.1)))
noncomputable def F8o (N:Nat) (a0:(List Ln)) (a1:(List Bs)):Option (List Bs):=(V8o N a0 a1).eval
def t8o:List (Nat×List Nat×List (Nat×Sh)):=[(9,[0],zdd)]
theorem P8o (N:Nat) (a0:(List Ln)) (a1:(List Bs)): ∀ r,F8o N a0 a1=some r→Spec Tryz.prog 8 [.val (.list tLn) a0,.val (.list tS) a1] (E8o r):=fun r h=>zk (fn:=Tryz.f8) rfl rfl rfl rfl true (zb (tbl:=t8o) (μ:=[19]) mixed _ _ _ (by
 have h1:=Vt.sound _ h
 refine Eq.mp ?_ h1
 kernel_rfl))
def E34o:(List Bs)→D:=fun x=> .own 9 tS x
abbrev zbp:List (Nat×Sh):=[(0,.val tS),(1,.val (.int .u8)),(5,.row false 31 9 tS),(6,.val tI),(7,.val tI)]
noncomputable def zsr:Code:=zo 4 (zF Tryz.f34)
noncomputable def zod (N:Nat) (s0:Bs) (s1:Int) (s5:(List Bs)) (s6:Int) (s7:Int):Vt (Lp (shTy zbp).I (List Bs)) (O3 (Option D)) (encO 35 zbp [0] (fun q=>some (E34o q))):=
 .br (decide (s7≤(s0.length:Int))) (.br (s7==(s0.length:Int)) (.ck ((0:Int)≤s6∧s6≤s7∧s7≤(s0.length:Int)) (.ck (room (s5.length+([(slc s0 s6 s7)]:(List Bs)).length)) (.leaf (.next (s0,s1,(s5++([(slc s0 s6 s7)]:(List Bs))),(IntKind.i64.wrap (s7+1)),(IntKind.i64.wrap (s7+1))))))) (.ck (inR s7 s0.length) (.br ((qg s0 s7)==s1) (.ck ((0:Int)≤s6∧s6≤s7∧s7≤(s0.length:Int)) (.ck (room (s5.length+([(slc s0 s6 s7)]:(List Bs)).length)) (.leaf (.next (s0,s1,(s5++([(slc s0 s6 s7)]:(List Bs))),(IntKind.i64.wrap (s7+1)),(IntKind.i64.wrap (s7+1))))))) (.leaf (.next (s0,s1,s5,s6,(IntKind.i64.wrap (s7+1)))))))) (.leaf (.brk 0 (s0,s1,s5,s6,s7)))
noncomputable def zhP (N:Nat) (s0:Bs) (s1:Int) (s5:(List Bs)) (s6:Int) (s7:Int):Option (Lp (Bs×Int×(List Bs)×Int×Int) (List Bs)):=(zod N s0 s1 s5 s6 s7).eval
noncomputable def zkJ (N:Nat) (x:(Bs×Int×(List Bs)×Int×Int)):Option (Lp (Bs×Int×(List Bs)×Int×Int) (List Bs)):=zl (fun x=>zhP N x.1 x.2.1 x.2.2.1 x.2.2.2.1 x.2.2.2.2) N x
theorem zp1 (N:Nat) (x:(shTy zbp).I): ∀ o,zkJ N x=some o→S Tryz.prog (.loop zsr) (zh 35 zbp x) (zK (rdD Tryz.prog Tryz.f34 true) zbp (encO 35 zbp [0] (fun q=>some (E34o q)) o)):=
 fun o h=>zH (l:=zbp) (step:=fun x=>zhP N x.1 x.2.1 x.2.2.1 x.2.2.2.1 x.2.2.2.2) (fun x o h=>zb (tbl:=[]) (μ:=[]) mixed _ _ _ (by
  have h1:=Vt.sound _ h
  refine Eq.mp ?_ h1
  kernel_rfl)) N x o h
noncomputable def V34o (N:Nat) (a0:Bs) (a1:Int):Vt (List Bs) (Option D) (fun q=>some (E34o q)):=
 .f1 (l:=zbp) (o:=zkJ N (a0,a1,([]:(List Bs)),0,0)) (zp1 N (a0,a1,([]:(List Bs)),0,0)) (fun x1=> .leaf x1.2.2.1)
noncomputable def F34o (N:Nat) (a0:Bs) (a1:Int):Option (List Bs):=(V34o N a0 a1).eval
def t34o:List (Nat×List Nat×List (Nat×Sh)):=[(4,[0],zbp)]
theorem P34o (N:Nat) (a0:Bs) (a1:Int): ∀ r,F34o N a0 a1=some r→Spec Tryz.prog 34 [.val tS a0,.val (.int .u8) a1] (E34o r):=fun r h=>zk (fn:=Tryz.f34) rfl rfl rfl rfl true (zb (tbl:=t34o) (μ:=[]) mixed _ _ _ (by
 have h1:=Vt.sound _ h
 refine Eq.mp ?_ h1
 kernel_rfl))
def E36:Int→D:=fun x=>encV tI x
abbrev zde:List (Nat×Sh):=[(0,.val tS),(3,.val tI),(4,.val tI)]
noncomputable def b36_5:Code:=zo 5 (zF Tryz.f36)
noncomputable def U36_5 (N:Nat) (s0:Bs) (s3:Int) (s4:Int):Vt (Lp (shTy zde).I Int) (O3 (Option D)) (encO 48 zde [0] (fun q=>some (E36 q))):=
 .br (decide (s4<(s0.length:Int))) (.ck (inR s4 s0.length) (.br (decide ((qg s0 s4)<48)) (.leaf (.ret (-1))) (.ck (inR s4 s0.length) (.br (decide ((57:Int)<(qg s0 s4))) (.leaf (.ret (-1))) (.ck (inR s4 s0.length) (.leaf (.next (s0,(IntKind.i64.wrap ((IntKind.i64.wrap (10*s3))+(IntKind.i64.wrap (IntKind.u8.wrap ((qg s0 s4) - 48))))),(IntKind.i64.wrap (s4+1)))))))))) (.leaf (.brk 0 (s0,s3,s4)))
noncomputable def zss (N:Nat) (s0:Bs) (s3:Int) (s4:Int):Option (Lp (Bs×Int×Int) Int):=(U36_5 N s0 s3 s4).eval
noncomputable def zp2 (N:Nat) (x:(Bs×Int×Int)):Option (Lp (Bs×Int×Int) Int):=zl (fun x=>zss N x.1 x.2.1 x.2.2) N x
theorem zoe (N:Nat) (x:(shTy zde).I): ∀ o,zp2 N x=some o→S Tryz.prog (.loop b36_5) (zh 48 zde x) (zK (rdD Tryz.prog Tryz.f36 false) zde (encO 48 zde [0] (fun q=>some (E36 q)) o)):=
 fun o h=>zH (l:=zde) (step:=fun x=>zss N x.1 x.2.1 x.2.2) (fun x o h=>zb (tbl:=[]) (μ:=[]) mixed _ _ _ (by
  have h1:=Vt.sound _ h
  refine Eq.mp ?_ h1
  kernel_rfl)) N x o h
noncomputable def V36 (N:Nat) (a0:Bs):Vt Int (Option D) (fun q=>some (E36 q)):=
 .br (decide ((a0.length:Int)<1)) (.leaf (-1)) (.br (decide ((10:Int)<(a0.length:Int))) (.leaf (-1)) (.ck (inR 0 a0.length) (.br ((qg a0 0)==48) (.br (decide ((1:Int)<(a0.length:Int))) (.leaf (-1)) (.f1 (l:=zde) (o:=zp2 N (a0,0,0)) (zoe N (a0,0,0)) (fun x1=> .leaf x1.2.1))) (.f1 (l:=zde) (o:=zp2 N (a0,0,0)) (zoe N (a0,0,0)) (fun x2=> .leaf x2.2.1)))))
noncomputable def F36 (N:Nat) (a0:Bs):Option Int:=(V36 N a0).eval
def t36:List (Nat×List Nat×List (Nat×Sh)):=[(5,[0],zde)]
theorem P36 (N:Nat) (a0:Bs): ∀ r,F36 N a0=some r→Spec Tryz.prog 36 [.val tS a0] (E36 r):=fun r h=>zk (fn:=Tryz.f36) rfl rfl rfl rfl false (zb (tbl:=t36) (μ:=[]) mixed _ _ _ (by
 have h1:=Vt.sound _ h
 refine Eq.mp ?_ h1
 kernel_rfl))
def E35:Int→D:=fun x=>encV tI x
abbrev zeu:List (Nat×Sh):=[(3,.row false 8 9 tS),(4,.val tI),(5,.val tI)]
noncomputable def b35_6:Code:=zo 6 (zF Tryz.f35)
noncomputable def zp3 (N:Nat) (s3:(List Bs)) (s4:Int) (s5:Int):Vt (Lp (shTy zeu).I Int) (O3 (Option D)) (encO 32 zeu [0] (fun q=>some (E35 q))):=
 .br (decide (s5<4)) (.ck (inR s5 s3.length) (.ck (inR s5 s3.length) (.c1 (P36 N (atI tS s3 s5)) (fun x1=> .br (decide (x1<0)) (.leaf (.ret (-1))) (.br (decide ((255:Int)<x1)) (.leaf (.ret (-1))) (.leaf (.next (s3,(IntKind.i64.wrap ((IntKind.i64.wrap (256*s4))+x1)),(IntKind.i64.wrap (s5+1)))))))))) (.leaf (.brk 0 (s3,s4,s5)))
noncomputable def zkK (N:Nat) (s3:(List Bs)) (s4:Int) (s5:Int):Option (Lp ((List Bs)×Int×Int) Int):=(zp3 N s3 s4 s5).eval
noncomputable def zp4 (N:Nat) (x:((List Bs)×Int×Int)):Option (Lp ((List Bs)×Int×Int) Int):=zl (fun x=>zkK N x.1 x.2.1 x.2.2) N x
theorem zst (N:Nat) (x:(shTy zeu).I): ∀ o,zp4 N x=some o→S Tryz.prog (.loop b35_6) (zh 32 zeu x) (zK (rdD Tryz.prog Tryz.f35 false) zeu (encO 32 zeu [0] (fun q=>some (E35 q)) o)):=
 fun o h=>zH (l:=zeu) (step:=fun x=>zkK N x.1 x.2.1 x.2.2) (fun x o h=>zb (tbl:=[]) (μ:=[8]) mixed _ _ _ (by
  have h1:=Vt.sound _ h
  refine Eq.mp ?_ h1
  kernel_rfl)) N x o h
noncomputable def V35 (N:Nat) (a0:Bs):Vt Int (Option D) (fun q=>some (E35 q)):=
 .c1 (P34o N a0 46) (fun x1=> .br ((x1.length:Int) !=4) (.leaf (-1)) (.f1 (l:=zeu) (o:=zp4 N (x1,0,0)) (zst N (x1,0,0)) (fun x2=> .leaf x2.2.1)))
noncomputable def F35 (N:Nat) (a0:Bs):Option Int:=(V35 N a0).eval
def t35:List (Nat×List Nat×List (Nat×Sh)):=[(6,[0],zeu)]
theorem P35 (N:Nat) (a0:Bs): ∀ r,F35 N a0=some r→Spec Tryz.prog 35 [.val tS a0] (E35 r):=fun r h=>zk (fn:=Tryz.f35) rfl rfl rfl rfl false (zb (tbl:=t35) (μ:=[8]) mixed _ _ _ (by
 have h1:=Vt.sound _ h
 refine Eq.mp ?_ h1
 kernel_rfl))
def E38:Int→D:=fun x=>encV tI x
abbrev zev:List (Nat×Sh):=[(0,.val tI),(3,.val tI),(4,.val tI)]
noncomputable def b38_3:Code:=zo 3 (zF Tryz.f38)
noncomputable def U38_3 (N:Nat) (s0:Int) (s3:Int) (s4:Int):Vt (Lp (shTy zev).I Int) (O3 (Option D)) (encO 13 zev [0] (fun q=>some (E38 q))):=
 .br (decide (s4<s0)) (.leaf (.next (s0,(IntKind.i64.wrap (2*s3)),(IntKind.i64.wrap (s4+1))))) (.leaf (.brk 0 (s0,s3,s4)))
noncomputable def zsu (N:Nat) (s0:Int) (s3:Int) (s4:Int):Option (Lp (Int×Int×Int) Int):=(U38_3 N s0 s3 s4).eval
noncomputable def zsv (N:Nat) (x:(Int×Int×Int)):Option (Lp (Int×Int×Int) Int):=zl (fun x=>zsu N x.1 x.2.1 x.2.2) N x
theorem zsw (N:Nat) (x:(shTy zev).I): ∀ o,zsv N x=some o→S Tryz.prog (.loop b38_3) (zh 13 zev x) (zK (rdD Tryz.prog Tryz.f38 false) zev (encO 13 zev [0] (fun q=>some (E38 q)) o)):=
 fun o h=>zH (l:=zev) (step:=fun x=>zsu N x.1 x.2.1 x.2.2) (fun x o h=>zb (tbl:=[]) (μ:=[]) mixed _ _ _ (by
  have h1:=Vt.sound _ h
  refine Eq.mp ?_ h1
  kernel_rfl)) N x o h
noncomputable def V38 (N:Nat) (a0:Int):Vt Int (Option D) (fun q=>some (E38 q)):=
 .f1 (l:=zev) (o:=zsv N (a0,1,0)) (zsw N (a0,1,0)) (fun x1=> .leaf x1.2.1)
noncomputable def F38 (N:Nat) (a0:Int):Option Int:=(V38 N a0).eval
def t38:List (Nat×List Nat×List (Nat×Sh)):=[(3,[0],zev)]
theorem P38 (N:Nat) (a0:Int): ∀ r,F38 N a0=some r→Spec Tryz.prog 38 [.val tI a0] (E38 r):=fun r h=>zk (fn:=Tryz.f38) rfl rfl rfl rfl false (zb (tbl:=t38) (μ:=[]) mixed _ _ _ (by
 have h1:=Vt.sound _ h
 refine Eq.mp ?_ h1
 kernel_rfl))
def E37:Bool→D:=fun x=>encV tB x
noncomputable def V37 (N:Nat) (a0:Int) (a1:Int):Vt Bool (Option D) (fun q=>some (E37 q)):=
 .br (decide ((0:Int)≤a0)) (.br (decide (a0<4294967296)) (.br (decide ((0:Int)≤a1)) (.br (decide (a1≤32)) (.c1 (P38 N (IntKind.i64.wrap (32 - a1))) (fun x1=> .ck (x1≠0) (.leaf ((a0.tmod x1)==0)))) (.leaf false)) (.leaf false)) (.leaf false)) (.leaf false)
noncomputable def F37 (N:Nat) (a0:Int) (a1:Int):Option Bool:=(V37 N a0 a1).eval
def t37:List (Nat×List Nat×List (Nat×Sh)):=[]
theorem P37 (N:Nat) (a0:Int) (a1:Int): ∀ r,F37 N a0 a1=some r→Spec Tryz.prog 37 [.val tI a0,.val tI a1] (E37 r):=fun r h=>zk (fn:=Tryz.f37) rfl rfl rfl rfl false (zb (tbl:=t37) (μ:=[]) mixed _ _ _ (by
 have h1:=Vt.sound _ h
 refine Eq.mp ?_ h1
 kernel_rfl))
def E9:(Int×Int)→D:=fun x=> .tup [encV tI x.1,encV tI x.2]
noncomputable def V9 (N:Nat) (a0:Bs):Vt (Int×Int) (Option D) (fun q=>some (E9 q)):=
 .c1 (P34o N a0 47) (fun x1=> .br ((x1.length:Int) !=2) (.leaf ((-1),0)) (.ck (inR 0 x1.length) (.ck (inR 0 x1.length) (.c1 (P35 N (atI tS x1 0)) (fun x2=> .ck (inR 1 x1.length) (.ck (inR 1 x1.length) (.c1 (P36 N (atI tS x1 1)) (fun x3=> .br (decide (x2<0)) (.leaf ((-1),0)) (.br (decide (x3<0)) (.leaf ((-1),0)) (.br (decide ((32:Int)<x3)) (.leaf ((-1),0)) (.c1 (P37 N x2 x3) (fun x4=> .br (!x4) (.leaf ((-1),0)) (.leaf (x2,x3))))))))))))))
noncomputable def F9 (N:Nat) (a0:Bs):Option (Int×Int):=(V9 N a0).eval
def t9:List (Nat×List Nat×List (Nat×Sh)):=[]
theorem P9 (N:Nat) (a0:Bs): ∀ r,F9 N a0=some r→Spec Tryz.prog 9 [.val tS a0] (E9 r):=fun r h=>zk (fn:=Tryz.f9) rfl rfl rfl rfl false (zb (tbl:=t9) (μ:=[8]) mixed _ _ _ (by
 have h1:=Vt.sound _ h
 refine Eq.mp ?_ h1
 kernel_rfl))
def E10:Bool→D:=fun x=>encV tB x
noncomputable def V10 (N:Nat) (a0:Int) (a1:Int) (a2:Int):Vt Bool (Option D) (fun q=>some (E10 q)):=
 .c1 (P37 N a0 a1) (fun x1=> .br x1 (.br (decide ((0:Int)≤a2)) (.br (decide (a2<4294967296)) (.c1 (P38 N (IntKind.i64.wrap (32 - a1))) (fun x2=> .ck (x2≠0) (.c1 (P38 N (IntKind.i64.wrap (32 - a1))) (fun x3=> .ck (x3≠0) (.leaf ((IntKind.i64.wrap (a2.tdiv x2))==(IntKind.i64.wrap (a0.tdiv x3)))))))) (.leaf false)) (.leaf false)) (.leaf false))
noncomputable def F10 (N:Nat) (a0:Int) (a1:Int) (a2:Int):Option Bool:=(V10 N a0 a1 a2).eval
def t10:List (Nat×List Nat×List (Nat×Sh)):=[]
theorem P10 (N:Nat) (a0:Int) (a1:Int) (a2:Int): ∀ r,F10 N a0 a1 a2=some r→Spec Tryz.prog 10 [.val tI a0,.val tI a1,.val tI a2] (E10 r):=fun r h=>zk (fn:=Tryz.f10) rfl rfl rfl rfl false (zb (tbl:=t10) (μ:=[]) mixed _ _ _ (by
 have h1:=Vt.sound _ h
 refine Eq.mp ?_ h1
 kernel_rfl))
def E11:(Bs×Bool)→D:=fun x=> .tup [encV tS x.1,encV tB x.2]
abbrev zew:List (Nat×Sh):=[(1,.val tS),(2,.val tI),(8,.val tI),(9,.val tS),(15,.val (.list (.pair tS (.pair tI (.pair tS tS))))),(16,.val tI),(17,.val tI)]
noncomputable def b11_3:Code:=zo 3 (zF Tryz.f11)
noncomputable def zp5 (N:Nat) (s1:Bs) (s2:Int) (s8:Int) (s9:Bs) (s15:(List (Bs×(Int×(Bs×Bs))))) (s16:Int) (s17:Int):Vt (Lp (shTy zew).I (Bs×Bool)) (O3 (Option D)) (encO 58 zew [0] (fun q=>some (E11 q))):=
 .br (decide (s17<s16)) (.ck (inR s17 s15.length) (.c3 (P39 N ((atI (.pair tS (.pair tI (.pair tS tS))) s15 s17).2.2.1)) (fun x1 x2 x3=> .br (((atI (.pair tS (.pair tI (.pair tS tS))) s15 s17).1)==s1) (.br (((atI (.pair tS (.pair tI (.pair tS tS))) s15 s17).2.1)==4) (.br x3 (.br (decide (s8<x2)) (.c1 (P40 N x1 x2 s2) (fun x4=> .br x4 (.leaf (.next (s1,s2,x2,(atI (.pair tS (.pair tI (.pair tS tS))) s15 s17).2.2.2,s15,s16,(IntKind.i64.wrap (s17+1))))) (.leaf (.next (s1,s2,s8,s9,s15,s16,(IntKind.i64.wrap (s17+1))))))) (.leaf (.next (s1,s2,s8,s9,s15,s16,(IntKind.i64.wrap (s17+1)))))) (.leaf (.next (s1,s2,s8,s9,s15,s16,(IntKind.i64.wrap (s17+1)))))) (.leaf (.next (s1,s2,s8,s9,s15,s16,(IntKind.i64.wrap (s17+1)))))) (.leaf (.next (s1,s2,s8,s9,s15,s16,(IntKind.i64.wrap (s17+1)))))))) (.leaf (.brk 0 (s1,s2,s8,s9,s15,s16,s17)))
noncomputable def zkL (N:Nat) (s1:Bs) (s2:Int) (s8:Int) (s9:Bs) (s15:(List (Bs×(Int×(Bs×Bs))))) (s16:Int) (s17:Int):Option (Lp (Bs×Int×Int×Bs×(List (Bs×(Int×(Bs×Bs))))×Int×Int) (Bs×Bool)):=(zp5 N s1 s2 s8 s9 s15 s16 s17).eval
noncomputable def zp6 (N:Nat) (x:(Bs×Int×Int×Bs×(List (Bs×(Int×(Bs×Bs))))×Int×Int)):Option (Lp (Bs×Int×Int×Bs×(List (Bs×(Int×(Bs×Bs))))×Int×Int) (Bs×Bool)):=zl (fun x=>zkL N x.1 x.2.1 x.2.2.1 x.2.2.2.1 x.2.2.2.2.1 x.2.2.2.2.2.1 x.2.2.2.2.2.2) N x
theorem zsx (N:Nat) (x:(shTy zew).I): ∀ o,zp6 N x=some o→S Tryz.prog (.loop b11_3) (zh 58 zew x) (zK (rdD Tryz.prog Tryz.f11 false) zew (encO 58 zew [0] (fun q=>some (E11 q)) o)):=
 fun o h=>zH (l:=zew) (step:=fun x=>zkL N x.1 x.2.1 x.2.2.1 x.2.2.2.1 x.2.2.2.2.1 x.2.2.2.2.2.1 x.2.2.2.2.2.2) (fun x o h=>zb (tbl:=[]) (μ:=[]) mixed _ _ _ (by
  have h1:=Vt.sound _ h
  refine Eq.mp ?_ h1
  kernel_rfl)) N x o h
noncomputable def V11 (N:Nat) (a0:(List (Bs×(Int×(Bs×Bs))))) (a1:Bs) (a2:Int):Vt (Bs×Bool) (Option D) (fun q=>some (E11 q)):=
 .f1 (l:=zew) (o:=zp6 N (a1,a2,(-1),([]:Bs),a0,(a0.length:Int),0)) (zsx N (a1,a2,(-1),([]:Bs),a0,(a0.length:Int),0)) (fun x1=> .leaf (x1.2.2.2.1,(decide ((0:Int)≤x1.2.2.1))))
noncomputable def F11 (N:Nat) (a0:(List (Bs×(Int×(Bs×Bs))))) (a1:Bs) (a2:Int):Option (Bs×Bool):=(V11 N a0 a1 a2).eval
def t11:List (Nat×List Nat×List (Nat×Sh)):=[(3,[0],zew)]
theorem P11 (N:Nat) (a0:(List (Bs×(Int×(Bs×Bs))))) (a1:Bs) (a2:Int): ∀ r,F11 N a0 a1 a2=some r→Spec Tryz.prog 11 [.val (.list (.pair tS (.pair tI (.pair tS tS)))) a0,.val tS a1,.val tI a2] (E11 r):=fun r h=>zk (fn:=Tryz.f11) rfl rfl rfl rfl false (zb (tbl:=t11) (μ:=[]) mixed _ _ _ (by
 have h1:=Vt.sound _ h
 refine Eq.mp ?_ h1
 kernel_rfl))
end Go.Proofs.YthcmfnkganacaaaGreatDoor.Vc
