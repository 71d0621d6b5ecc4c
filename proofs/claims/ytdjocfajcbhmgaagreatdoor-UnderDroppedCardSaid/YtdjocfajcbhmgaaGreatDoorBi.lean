/- Contracts: book.Of. -/
import Derived.Test.YtdjocfajcbhmgaaGreatDoorAu
import Derived.Test.YtdjocfajcbhmgaaGreatDoorZ24
import Derived.Test.YtdjocfajcbhmgaaGreatDoorZ25
import Derived.Test.YtdjocfajcbhmgaaGreatDoorBc
import Derived.Laws.StructEq
set_option maxHeartbeats 64000000
set_option linter.unusedSimpArgs false
set_option linter.unusedVariables false
set_option linter.unusedSectionVars false
namespace Go.Sy
open Go.Proofs
set_option maxRecDepth 100000
attribute [local irreducible] SOps Goes DOps EOps FOps GOps
def sF.val(f:sF):Value:=.agg #[.int .i64 f.1,.int .i64 f.2.1,.int .i64 f.2.2]
theorem U5(x y:sF)(w:World):(Op.equalIn 10000 47 (sF.val x) (sF.val y)).run Tryz.prog w=.ok (decide (x=y)) w:=by
 have u3:=Tryz.underlying3
 have a3:=Tryz.isAgg3
 have z3:=Tryz.sizeOf3
 have u9:=Tryz.underlying45
 have a9:=Tryz.isAgg45
 have z9:=Tryz.sizeOf45
 have hS:Tryz.prog.underlying 47=some (.struct (Tryz.prog.fieldsOf 47)):=by kernel_rfl
 have hp:Tryz.prog.stoodInHeld 47=false:=by kernel_rfl
 obtain⟨a,b,c⟩:=x
 obtain⟨a',b',c'⟩:=y
 simp only[sF.val]
 rw[show(10000:Nat)=9999+1 from rfl,run_equalIn_agg w 9999 47 _ _ hS hp]
 simp only[Program.fieldsOf,Tryz.underlying47]
 go_simp
 by_cases h1:a=a'<;>by_cases h2:b=b'<;>by_cases h3:c=c'<;>simp[h1,h2,h3]
section
variable {C:Ctx} {n:Nat} {tm:TM} {mm:MM} {o:Oper} {d:Nat}
theorem G3{I:Nat→Prop}{H:Nat→Value}{Z:Nat→Nat}{w:World}{M:Nat→Prop}{v:Value}{m:sF}(h:cu I H Z w M v (Ag (yx m))):v=sF.val m:=by
 obtain⟨vs,rfl,hs,hr⟩:=h
 obtain⟨u0,g0,r0⟩:=hr 0 _ J
 obtain⟨u1,g1,r1⟩:=hr 1 _ J
 obtain⟨u2,g2,r2⟩:=hr 2 _ J
 have r0:=aV.cA r0
 have r1:=aV.cA r1
 have r2:=aV.cA r2
 subst r0 r1 r2
 have hs:vs.size=3:=hs
 unfold sF.val
 congr 1
 apply Array.ext
 ·simpa using hs
 ·intro i hi Qs
  have:i=0∨i=1∨i=2:=by omega
  rcases this with rfl|rfl|rfl
  ·rw[cy hi]at g0;injection g0 with g0
  ·rw[cy hi]at g1;injection g1 with g1
  ·rw[cy hi]at g2;injection g2 with g2
theorem HV{p:BinOp}{t':Nat}{x y:Operand}{a b:sF}(hP:C.P=Tryz.prog)(ho:o.op=.binOp p 47 x y t')(hp:p=.eql∨p=.neq)(hx:cx tm x=some (Ag (yx a)))(hy:cx tm y=some (Ag (yx b)))(hd:o.dst=some d)(hn:Nat.blt d n=true):
 ea C n o tm mm d (.v (.one (.c (.bool (match p with|.eql=>decide (a=b)|_=>!decide (a=b)))))):=
 ea.val hd hn _ fun H Z A w hm=>by
  have h1:A.eval x=sF.val a:=G3 (c8 hm hx)
  have h2:A.eval y=sF.val b:=G3 (c8 hm hy)
  have hq:Tryz.prog.eqGuardType Tryz.prog.depth 47=false:=by kernel_rfl
  have heq:=U5 a b w
  simp only[sF.val]at h1 h2 heq
  refine⟨.bool (match p with|.eql=>decide (a=b)|_=>!decide (a=b)),?_,.bool _⟩
  rw[hP]
  rcases hp with rfl|rfl
  ·simp only[execOp,ho,h1,h2,Sem.run_bind,run_eqGuard_agg w _ _ _ _ _ _ hq,Result.andThen_ok,run_eql_struct,heq,Sem.run_pure]
  ·simp only[execOp,ho,h1,h2,Sem.run_bind,run_eqGuard_agg w _ _ _ _ _ _ hq,Result.andThen_ok,run_neq_struct,heq,Sem.run_pure]
theorem oE{t':Nat}{x y:Operand}{L l:List Oper}{T:TM→MM→Prop}(a b:sF)(hP:C.P=Tryz.prog)(ho:o.op=.binOp .neq 47 x y t')(hx:cx tm x=some (Ag (yx a)))(hy:cx tm y=some (Ag (yx b)))(hd:o.dst=some d)(hn:Nat.blt d n=true)(hg:aY L tm o=some true)
 (g:SOps C n L.toArray l ((d,.v (.one (.c (.bool (!decide (a=b))))))::bo tm d) mm T):SOps C n L.toArray (o::l) tm mm T:=
 cB (HV (mm:=mm) (p:=.neq) hP ho (.inr rfl) hx hy hd hn).wp hg g
end
def ThF:da:=[(104,⟨1,8,false,none,.other⟩),(108,⟨1,24,false,some [.bA],.slice 104⟩)]
theorem I8:a8 Tryz.prog ThF:=BT (by kernel_rfl)
theorem SX(ps:List b7)(ls:List Loc)(hc:er Tryz.prog 39 [] [C1 (cK ps),C1 (dW ls)] (si (kz ps ls)) []):
 er Tryz.prog 38 [[cK ps],[dW ls]] [.one (.ptr given 0),.one (.ptr (given+1) 0)] (si (kz ps ls)) [[cK ps],[dW ls]]:=by
 refine bn (c:=_) Tryz.func38 rfl rfl rfl (by decide) fun w M0 H Z=>?_
 repeat'(first|refine aA ?_|(refine aB ?_ ?_<;>first|exact aD|(refine aE ?_;intro hb))|refine aZ th Tryz.func38 (.inr ⟨_,rfl⟩) J J J ?_ rfl|(refine aR hc [] J J J J J J J J J J ?_;refine ao th J ?_))
 all_goals exact .refl _
theorem SU(ps:List b7)(ls:List Loc)(hc:er Tryz.prog 41 [] [C1 (cK ps),C1 (dW ls)] (si (jX (sw ps ls))) []):
 er Tryz.prog 40 [[cK ps],[dW ls]] [.one (.ptr given 0),.one (.ptr (given+1) 0)] (si (jX (sw ps ls))) [[cK ps],[dW ls]]:=by
 refine bn (c:=_) Tryz.func40 rfl rfl rfl (by decide) fun w M0 H Z=>?_
 repeat'(first|refine aA ?_|(refine aB ?_ ?_<;>first|exact aD|(refine aE ?_;intro hb))|refine aZ th Tryz.func40 (.inr ⟨_,rfl⟩) J J J ?_ rfl|(refine aR hc [] J J J J J J J J J J ?_;refine ao th J ?_))
 all_goals exact .refl _
theorem SR(ps:List b7)(ls:List Loc)(hc:er Tryz.prog 45 [] [C1 (cK ps),C1 (dW ls)] (si (j4 (fX ps ls) ps ls)) []):
 er Tryz.prog 44 [[cK ps],[dW ls]] [.one (.ptr given 0),.one (.ptr (given+1) 0)] (si (j4 (fX ps ls) ps ls)) [[cK ps],[dW ls]]:=by
 refine bn (c:=_) Tryz.func44 rfl rfl rfl (by decide) fun w M0 H Z=>?_
 repeat'(first|refine aA ?_|(refine aB ?_ ?_<;>first|exact aD|(refine aE ?_;intro hb))|refine aZ th Tryz.func44 (.inr ⟨_,rfl⟩) J J J ?_ rfl|(refine aR hc [] J J J J J J J J J J ?_;refine ao th J ?_))
 all_goals exact .refl _
theorem SS(ps:List b7)(ls:List Loc)(hc:er Tryz.prog 43 [] [C1 (cK ps),C1 (dW ls)] (Kf (fe ps ls)) []):
 er Tryz.prog 42 [[cK ps],[dW ls],[.bA]] [.one (.ptr given 0),.one (.ptr (given+1) 0),.one (.ptr (given+2) 0)] (si (fe ps ls).2) [[cK ps],[dW ls],[iL (fe ps ls).1]]:=by
 refine bn (c:=_) Tryz.func42 rfl rfl rfl (by decide) fun w M0 H Z=>?_
 repeat'(first|refine aA ?_|(refine aB ?_ ?_<;>first|exact aD|(refine aE ?_;intro hb))|refine aZ th Tryz.func42 (.inr ⟨_,rfl⟩) J J J ?_ rfl|(refine aR hc [] J J J J J J J J J J ?_;refine ao th J ?_))
 all_goals exact .refl _
theorem SQ(x:List (Nat×Loc))(hc:er Tryz.prog 47 [] [C1 (iL x)] (si (gG 0 x)) []):
 er Tryz.prog 46 [[iL x]] [.one (.ptr given 0)] (si (gG 0 x)) [[iL x]]:=by
 refine bn (c:=_) Tryz.func46 rfl rfl rfl (by decide) fun w M0 H Z=>?_
 repeat'(first|refine aA ?_|(refine aB ?_ ?_<;>first|exact aD|(refine aE ?_;intro hb))|refine aZ th Tryz.func46 (.inr ⟨_,rfl⟩) J J J ?_ rfl|(refine aR hc [] J J J J J J J J J J ?_;refine ao th J ?_))
 all_goals exact .refl _
def Mt(r:Bk×sF):ST:=.fo [Ag r.1.cs,Ag (yx r.2)]
theorem mO(f:sF):BL (.fo [.agg [.c .bA,.c .bA,.c .bA],Ag (yx f)]) (Mt (H4,f)):=.fo (.cons (.agg (.cons (.c (.nil 3)) (.cons (.c (.nil 1)) (.cons (.c (.nil 1)) .nil)))) (.cons (.refl _) .nil))
theorem nK{s:ByteArray}(h:cg s=true):s.size≤12:=by
 unfold cg at h
 rw[←Gc]
 split at h
 ·cases h
 ·rename_i c r hs
  simp only[av,decide_eq_true_eq]at h
  rw[hs,cd];omega
theorem H9{ps:List b7}(hl:ps.length≤6)(hv:∀p∈ps,dj p=true):pr ps:=⟨by omega,fun p hp=>by
 obtain⟨_,h2,h3⟩:=oH (hv p hp)
 have:=nK h3
 exact⟨by omega,fun r hr=>by have:=nK (h2 r hr);omega⟩⟩
theorem zh{ps:List b7}{ls:List Loc}(ha:∀p∈ps,(kg p).2=0)(hl:∀l∈ls,fP l=true):∀l∈cL ps ls,fP l=true:=fun l h=>by
 rcases aK.1 h with h|h
 ·obtain⟨p,hp,h⟩:=bu.1 h
  obtain⟨r,hr,rfl⟩:=aL.1 h
  obtain⟨S,hS⟩:=kp ((p9 (ha p hp)).2.1 r hr)
  exact Cf hS
 ·obtain⟨m,hm,rfl⟩:=aL.1 h
  exact wS (hl m hm)
theorem zi{ls:List Loc}:∀{ps:List b7},(∀p∈ps,dj p=true)→(cL ps ls).length≤5 * ps.length+ls.length
 |[],_=>by simp[cL]
 |p::ps,h=>by
  have h1:=zi (ls:=ls) (ps:=ps) fun q hq=>h q (ab _ hq)
  have h2:=hJ (h p ah)
  simp only[cL,ef,au,ak,cd]at h1⊢
  omega
def p6(X:List (Nat×Loc)):Nat→CT
 |0|1|2=>.bA
 |_=>iL X
abbrev We(k:Nat):TM:=[(2,.v (.one (.ptr 2 0))),(3,.v (.one (.ptr 3 0))),(4,.v (.one (.ptr 4 0))),(5,.v (.one (.ptr 5 0))),(6,.v (.one (.ptr 6 0))),(17,.v (.one (.u5 16 5))),(18,.v (C1 (.int .i64 5))),(19,.v (C1 (.int .i64 (k:Int))))]
abbrev Wf(ps:List b7)(ls:List Loc)(c:CT):MM:=[(16,.box [.kD 38 [2,3],.kD 40 [2,3],.kD 42 [2,3,6],.kD 44 [2,3],.kD 46 [6]]),(6,.box [.c c]),(5,rB),(4,.box [.c .bA,.c .bA,.c .bA]),(3,.box [.c (dW ls)]),(2,.box [.c (cK ps)])]
theorem SP(ps:List b7)(ls:List Loc)(gf:∀p∈ps,er Tryz.prog 91 [] [Ag p.cs] (PO (kg p)) [])(hB:∀p∈ps,ix p)(hL:∀l∈ls,pt l):er Tryz.prog 12 [] [C1 (cK ps),C1 (dW ls)] (Mt (Tk ps ls)) []:=by
 have c1:=SX ps ls (L1 ps ls hB hL)
 obtain⟨R,hR⟩:∃R,R=Tk ps ls:=⟨_,rfl⟩
 rw[←hR]
 unfold Tk at hR
 refine bn (c:=_) Tryz.func12 rfl rfl rfl (by decide) fun w M0 H Z=>?_
 repeat'(first|refine aA ?_|(refine aB ?_ ?_<;>first|exact aD|(refine aE ?_;intro hb))|((first|refine QV I8 J J J Tryz.zeroValue104 rfl rfl rfl rfl rfl rfl rfl rfl rfl ?_|refine QW I8 J J J J J J ?_);refine ao th J ?_))
 refine bE (fun k:Nat=>k≤5∧(0 < k→kz ps ls=lo)∧(1 < k→jX (sw ps ls)=lo)∧(2 < k→(fe ps ls).2=lo)∧(3 < k→j4 (fX ps ls) ps ls=lo)∧(4 < k→gG 0 (fe ps ls).1=lo))
  We (fun k=>Wf ps ls (p6 (fe ps ls).1 k)) (fun k=>5 - k) 0 ⟨by omega,by omega,by omega,by omega,by omega,by omega⟩
  aH (fun k hk ih=>?_)
 obtain⟨hk,h1,h2,h3,h4,h5⟩:=hk
 have cT:=fun(bj:k < 5) hp=>ih (k+1) hp (by omega)
 clear ih
 have XI:k=0∨k=1∨k=2∨k=3∨k=4∨k=5:=by omega
 rcases XI with rfl|rfl|rfl|rfl|rfl|rfl
 ·have zF:=fun(h:kz ps ls=lo)=>cT (by omega) ⟨by omega,fun _=>h,by omega,by omega,by omega,by omega⟩
  have gA:=fun(h:¬kz ps ls=lo)=>hR.trans (by rw[if_pos h])
  clear cT hR h1 h2 h3 h4 h5
  generalize (fe ps ls).1=X at *
  generalize kz ps ls=F at *
  repeat'(first|(refine o5 [4,5] mix J J J J J ?_;refine o8 th J ?_)|refine aA ?_|(refine aB ?_ ?_<;>first|exact aD|(refine aE ?_;intro hb))|((first|refine vL I8 0 J J J J J J J J J ?_|refine rN I8 J J J J J J J J J ?_|refine ua c1 [2,3] J J J J J J J J J J J J ?_|refine oE F lo J J J J J J J ?_|refine bH J J J J J J (by decide) ?_);refine ao th J ?_))
  ·rw[gA (by simpa using hb)]
   refine aZ th Tryz.func12 (.inr ⟨_,rfl⟩) J J J ?_ rfl
   exact mO _
  ·exact aS (zF (by simpa using hb))
 ·obtain⟨q1,q2,q3,q4⟩:=sf (h1 (by omega))
  have c2:=SU ps ls (M9 ps ls q1 q2)
  have zF:=fun(h:jX (sw ps ls)=lo)=>cT (by omega) ⟨by omega,fun _=>h1 (by omega),fun _=>h,by omega,by omega,by omega⟩
  have gA:=fun(h:¬jX (sw ps ls)=lo)=>hR.trans (by rw[if_neg (fun e=>e (h1 (by omega))),if_pos h])
  clear cT hR h1 h2 h3 h4 h5
  clear q3 q4
  generalize (fe ps ls).1=X at *
  generalize jX (sw ps ls)=F at *
  repeat'(first|(refine o5 [4,5] mix J J J J J ?_;refine o8 th J ?_)|refine aA ?_|(refine aB ?_ ?_<;>first|exact aD|(refine aE ?_;intro hb))|((first|refine vL I8 1 J J J J J J J J J ?_|refine rN I8 J J J J J J J J J ?_|refine ua c2 [2,3] J J J J J J J J J J J J ?_|refine oE F lo J J J J J J J ?_|refine bH J J J J J J (by decide) ?_);refine ao th J ?_))
  ·rw[gA (by simpa using hb)]
   refine aZ th Tryz.func12 (.inr ⟨_,rfl⟩) J J J ?_ rfl
   exact mO _
  ·exact aS (zF (by simpa using hb))
 ·obtain⟨q1,q2,q3,q4⟩:=sf (h1 (by omega))
  have c3:=SS ps ls (Az ps ls q1 q2 gf fun l hl=>⟨hL l hl,(q4 l hl).1⟩)
  have zF:=fun(h:(fe ps ls).2=lo)=>cT (by omega) ⟨by omega,fun _=>h1 (by omega),fun _=>h2 (by omega),fun _=>h,by omega,by omega⟩
  have gA:=fun(h:¬(fe ps ls).2=lo)=>hR.trans (by rw[if_neg (fun e=>e (h1 (by omega))),if_neg (fun e=>e (h2 (by omega))),if_pos h])
  clear cT hR h1 h2 h3 h4 h5
  clear q3 q4
  generalize fe ps ls=X at *
  obtain⟨X,F⟩:=X
  simp only at zF gA c3
  repeat'(first|(refine o5 [4,5] mix J J J J J ?_;refine o8 th J ?_)|refine aA ?_|(refine aB ?_ ?_<;>first|exact aD|(refine aE ?_;intro hb))|((first|refine vL I8 2 J J J J J J J J J ?_|refine rN I8 J J J J J J J J J ?_|refine ua c3 [2,3,6] J J J J J J J J J J J J ?_|refine oE F lo J J J J J J J ?_|refine bH J J J J J J (by decide) ?_);refine ao th J ?_))
  ·rw[gA (by simpa using hb)]
   refine aZ th Tryz.func12 (.inr ⟨_,rfl⟩) J J J ?_ rfl
   exact mO _
  ·exact aS (zF (by simpa using hb))
 ·obtain⟨q1,q2,q3,q4⟩:=sf (h1 (by omega))
  have c4:=SR ps ls (Of ps ls (H9 q1 q3) q2)
  have zF:=fun(h:j4 (fX ps ls) ps ls=lo)=>cT (by omega) ⟨by omega,fun _=>h1 (by omega),fun _=>h2 (by omega),fun _=>h3 (by omega),fun _=>h,by omega⟩
  have gA:=fun(h:¬j4 (fX ps ls) ps ls=lo)=>hR.trans (by rw[if_neg (fun e=>e (h1 (by omega))),if_neg (fun e=>e (h2 (by omega))),if_neg (fun e=>e (h3 (by omega))),if_pos h])
  clear cT hR h1 h2 h3 h4 h5
  clear q3 q4
  generalize (fe ps ls).1=X at *
  generalize j4 (fX ps ls) ps ls=F at *
  repeat'(first|(refine o5 [4,5] mix J J J J J ?_;refine o8 th J ?_)|refine aA ?_|(refine aB ?_ ?_<;>first|exact aD|(refine aE ?_;intro hb))|((first|refine vL I8 3 J J J J J J J J J ?_|refine rN I8 J J J J J J J J J ?_|refine ua c4 [2,3] J J J J J J J J J J J J ?_|refine oE F lo J J J J J J J ?_|refine bH J J J J J J (by decide) ?_);refine ao th J ?_))
  ·rw[gA (by simpa using hb)]
   refine aZ th Tryz.func12 (.inr ⟨_,rfl⟩) J J J ?_ rfl
   exact mO _
  ·exact aS (zF (by simpa using hb))
 ·obtain⟨q1,q2,q3,q4⟩:=sf (h1 (by omega))
  obtain⟨r1,r2⟩:=vY (h3 (by omega))
  have iN:=zh r1 fun l hl=>(q4 l hl).1
  rw[←r2]at iN
  have c5:=SQ _ (Om (fe ps ls).1 fun q hq=>by have:=(l8 (iN _ (bp hq))).2;omega)
  clear iN r1 r2
  have zF:=fun(h:gG 0 (fe ps ls).1=lo)=>cT (by omega) ⟨by omega,fun _=>h1 (by omega),fun _=>h2 (by omega),fun _=>h3 (by omega),fun _=>h4 (by omega),fun _=>h⟩
  have gA:=fun(h:¬gG 0 (fe ps ls).1=lo)=>hR.trans (by rw[if_neg (fun e=>e (h1 (by omega))),if_neg (fun e=>e (h2 (by omega))),if_neg (fun e=>e (h3 (by omega))),if_neg (fun e=>e (h4 (by omega))),if_pos h])
  clear cT hR h1 h2 h3 h4 h5
  clear q3 q4
  generalize (fe ps ls).1=X at *
  generalize gG 0 X=F at *
  repeat'(first|(refine o5 [4,5] mix J J J J J ?_;refine o8 th J ?_)|refine aA ?_|(refine aB ?_ ?_<;>first|exact aD|(refine aE ?_;intro hb))|((first|refine vL I8 4 J J J J J J J J J ?_|refine rN I8 J J J J J J J J J ?_|refine ua c5 [6] J J J J J J J J J J J J ?_|refine oE F lo J J J J J J J ?_|refine bH J J J J J J (by decide) ?_);refine ao th J ?_))
  ·rw[gA (by simpa using hb)]
   refine aZ th Tryz.func12 (.inr ⟨_,rfl⟩) J J J ?_ rfl
   exact mO _
  ·exact aS (zF (by simpa using hb))
 ·obtain⟨q1,q2,q3,q4⟩:=sf (h1 (by omega))
  obtain⟨r1,r2⟩:=vY (h3 (by omega))
  have iN:=zh r1 fun l hl=>(q4 l hl).1
  have hlen:=zi (ls:=ls) q3
  rw[←r2]at iN hlen
  have cM:=CM (fe ps ls).1 0 (by omega) (h5 (by omega))
  have cb:=PB (fe ps ls).1 (by simp only[ij,ak]at hlen;omega) (by omega) iN
  rw[hR.trans (by rw[if_neg (fun e=>e (h1 (by omega))),if_neg (fun e=>e (h2 (by omega))),if_neg (fun e=>e (h3 (by omega))),if_neg (fun e=>e (h4 (by omega))),if_neg (fun e=>e (h5 (by omega)))])]
  clear cT hR h1 h2 h3 h4 h5 q3 q4 r1 r2 iN hlen cM
  generalize (fe ps ls).1=X at *
  repeat'(first|refine aA ?_|(refine aB ?_ ?_<;>first|exact aD|(refine aE ?_;intro hb))|(refine aR cb [] J J J J J J J J J J ?_;refine ao th J ?_))
  refine aZ th Tryz.func12 (.inr ⟨_,rfl⟩) J J J ?_ rfl
  exact .refl _
theorem Vi(ps:List b7)(ls:List Loc)(hB:∀p∈ps,ix p)(hL:∀l∈ls,pt l):er Tryz.prog 12 [] [C1 (cK ps),C1 (dW ls)] (Mt (Tk ps ls)) []:=SP ps ls (fun p hp=>Vl p (hB p hp)) hB hL
end Go.Sy
