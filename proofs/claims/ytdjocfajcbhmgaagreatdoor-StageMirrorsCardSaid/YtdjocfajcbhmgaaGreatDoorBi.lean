/- Contracts: book.Of. -/
import Derived.Test.YtdjocfajcbhmgaaGreatDoorBg
import Derived.Test.YtdjocfajcbhmgaaGreatDoorZ21
import Derived.Test.YtdjocfajcbhmgaaGreatDoorBc
import Derived.Test.YtdjocfajcbhmgaaGreatDoorSymZw
import Derived.Laws.StructEq
set_option linter.unusedSimpArgs false
set_option linter.unusedVariables false
set_option linter.unusedSectionVars false
namespace Go.Sy
open Go.Proofs
set_option maxRecDepth 100000
attribute [local irreducible] SOps Goes DOps EOps FOps GOps
def qX.val(f:qX):Value:=.agg #[.int .i64 f.1,.int .i64 f.2.1,.int .i64 f.2.2]
theorem Rg(x y:qX)(w:World):(Op.equalIn 10000 47 (qX.val x) (qX.val y)).run Tryz.prog w=.ok (decide (x=y)) w:=by
 have u3:=Tryz.underlying3
 have a3:=Tryz.isAgg3
 have z3:=Tryz.sizeOf3
 have u9:=Tryz.underlying45
 have a9:=Tryz.isAgg45
 have z9:=Tryz.sizeOf45
 have hS:Tryz.prog.underlying 47=some (.struct (Tryz.prog.fieldsOf 47)):=by kernel_rfl
 have hp:Tryz.prog.stoodInHeld 47=false:=by kernel_rfl
 obtain⟨a,b,c⟩:=x
 obtain⟨a',b',c'⟩:=y
 simp only[qX.val]
 rw[show(10000:Nat)=9999+1 from rfl,run_equalIn_agg w 9999 47 _ _ hS hp]
 simp only[Program.fieldsOf,Tryz.underlying47]
 go_simp
 by_cases h1:a=a'<;>by_cases h2:b=b'<;>by_cases h3:c=c'<;>simp[h1,h2,h3]
section
variable {C:Ctx} {n:Nat} {tm:TM} {mm:MM} {o:Oper} {d:Nat}
theorem D2{I:Nat→Prop}{H:Nat→Value}{Z:Nat→Nat}{w:World}{M:Nat→Prop}{v:Value}{m:qX}(h:cF I H Z w M v (Ag (vO m))):v=qX.val m:=by
 obtain⟨vs,rfl,hs,hr⟩:=h
 obtain⟨u0,g0,r0⟩:=hr 0 _ J
 obtain⟨u1,g1,r1⟩:=hr 1 _ J
 obtain⟨u2,g2,r2⟩:=hr 2 _ J
 have r0:=a7.cH r0
 have r1:=a7.cH r1
 have r2:=a7.cH r2
 subst r0 r1 r2
 have hs:vs.size=3:=hs
 unfold qX.val
 congr 1
 apply Array.ext
 ·simpa using hs
 ·intro i hi Mq
  have:i=0∨i=1∨i=2:=by omega
  rcases this with rfl|rfl|rfl
  ·rw[bW hi]at g0;injection g0 with g0
  ·rw[bW hi]at g1;injection g1 with g1
  ·rw[bW hi]at g2;injection g2 with g2
theorem EJ{p:BinOp}{t':Nat}{x y:Operand}{a b:qX}(hP:C.P=Tryz.prog)(ho:o.op=.binOp p 47 x y t')(hp:p=.eql∨p=.neq)(hx:dM tm x=some (Ag (vO a)))(hy:dM tm y=some (Ag (vO b)))(hd:o.dst=some d)(hn:Nat.blt d n=true):
 eO C n o tm mm d (.v (.one (.c (.bool (match p with|.eql=>decide (a=b)|_=>!decide (a=b)))))):=
 eO.val hd hn _ fun H Z A w hm=>by
  have h1:A.eval x=qX.val a:=D2 (ee hm hx)
  have h2:A.eval y=qX.val b:=D2 (ee hm hy)
  have hq:Tryz.prog.eqGuardType Tryz.prog.depth 47=false:=by kernel_rfl
  have heq:=Rg a b w
  simp only[qX.val]at h1 h2 heq
  refine⟨.bool (match p with|.eql=>decide (a=b)|_=>!decide (a=b)),?_,.bool _⟩
  rw[hP]
  rcases hp with rfl|rfl
  ·simp only[execOp,ho,h1,h2,Sem.run_bind,run_eqGuard_agg w _ _ _ _ _ _ hq,Result.andThen_ok,run_eql_struct,heq,Sem.run_pure]
  ·simp only[execOp,ho,h1,h2,Sem.run_bind,run_eqGuard_agg w _ _ _ _ _ _ hq,Result.andThen_ok,run_neq_struct,heq,Sem.run_pure]
theorem ns{t':Nat}{x y:Operand}{L l:List Oper}{T:TM→MM→Prop}(a b:qX)(hP:C.P=Tryz.prog)(ho:o.op=.binOp .neq 47 x y t')(hx:dM tm x=some (Ag (vO a)))(hy:dM tm y=some (Ag (vO b)))(hd:o.dst=some d)(hn:Nat.blt d n=true)(hg:bp L tm o=some true)
 (g:SOps C n L.toArray l ((d,.v (.one (.c (.bool (!decide (a=b))))))::bw tm d) mm T):SOps C n L.toArray (o::l) tm mm T:=
 dO (EJ (mm:=mm) (p:=.neq) hP ho (.inr rfl) hx hy hd hn).wp hg g
end
def WS:dD:=[(104,⟨1,8,false,none,.other⟩),(108,⟨1,24,false,some [.bK],.slice 104⟩)]
theorem FN:bz Tryz.prog WS:=y5 (by kernel_rfl)
theorem O1(ps:List dr)(ls:List Loc)(hc:dy Tryz.prog 39 [] [C1 (cJ ps),C1 (dx ls)] (qD (jP ps ls)) []):
 dy Tryz.prog 38 [[cJ ps],[dx ls]] [.one (.ptr given 0),.one (.ptr (given+1) 0)] (qD (jP ps ls)) [[cJ ps],[dx ls]]:=by
 refine bd (c:=_) Tryz.func38 rfl rfl rfl (by decide) fun w M0 H Z=>?_
 repeat'(first|refine bH J ?_|(refine al ?_;refine aj th J ?_)|(refine au mix J J ?_;refine ak th J ?_)|(refine ao mix J J ?_;refine ay th J ?_)|refine SOps.nil ?_|refine DOps.nil ?_|refine EOps.nil ?_ rfl rfl|((first|refine aq J J ?_ ?_|refine av J J J ?_ ?_|refine aU J ?_ ?_)<;>intro hb<;>(try simp only[aF]at hb)<;>first|(exfalso;omega)|refine aj th J ?_|refine ak th J ?_|skip)|refine aT th Tryz.func38 (.inr ⟨_,rfl⟩) J J J ?_ rfl|(refine aS hc [] J J J J J J J J J J ?_;refine aj th J ?_))
 all_goals exact .refl _
theorem O0(ps:List dr)(ls:List Loc)(hc:dy Tryz.prog 41 [] [C1 (cJ ps),C1 (dx ls)] (qD (jr (qN ps ls))) []):
 dy Tryz.prog 40 [[cJ ps],[dx ls]] [.one (.ptr given 0),.one (.ptr (given+1) 0)] (qD (jr (qN ps ls))) [[cJ ps],[dx ls]]:=by
 refine bd (c:=_) Tryz.func40 rfl rfl rfl (by decide) fun w M0 H Z=>?_
 repeat'(first|refine bH J ?_|(refine al ?_;refine aj th J ?_)|(refine au mix J J ?_;refine ak th J ?_)|(refine ao mix J J ?_;refine ay th J ?_)|refine SOps.nil ?_|refine DOps.nil ?_|refine EOps.nil ?_ rfl rfl|((first|refine aq J J ?_ ?_|refine av J J J ?_ ?_|refine aU J ?_ ?_)<;>intro hb<;>(try simp only[aF]at hb)<;>first|(exfalso;omega)|refine aj th J ?_|refine ak th J ?_|skip)|refine aT th Tryz.func40 (.inr ⟨_,rfl⟩) J J J ?_ rfl|(refine aS hc [] J J J J J J J J J J ?_;refine aj th J ?_))
 all_goals exact .refl _
theorem OY(ps:List dr)(ls:List Loc)(hc:dy Tryz.prog 45 [] [C1 (cJ ps),C1 (dx ls)] (qD (jz (fN ps ls) ps ls)) []):
 dy Tryz.prog 44 [[cJ ps],[dx ls]] [.one (.ptr given 0),.one (.ptr (given+1) 0)] (qD (jz (fN ps ls) ps ls)) [[cJ ps],[dx ls]]:=by
 refine bd (c:=_) Tryz.func44 rfl rfl rfl (by decide) fun w M0 H Z=>?_
 repeat'(first|refine bH J ?_|(refine al ?_;refine aj th J ?_)|(refine au mix J J ?_;refine ak th J ?_)|(refine ao mix J J ?_;refine ay th J ?_)|refine SOps.nil ?_|refine DOps.nil ?_|refine EOps.nil ?_ rfl rfl|((first|refine aq J J ?_ ?_|refine av J J J ?_ ?_|refine aU J ?_ ?_)<;>intro hb<;>(try simp only[aF]at hb)<;>first|(exfalso;omega)|refine aj th J ?_|refine ak th J ?_|skip)|refine aT th Tryz.func44 (.inr ⟨_,rfl⟩) J J J ?_ rfl|(refine aS hc [] J J J J J J J J J J ?_;refine aj th J ?_))
 all_goals exact .refl _
theorem OZ(ps:List dr)(ls:List Loc)(hc:dy Tryz.prog 43 [] [C1 (cJ ps),C1 (dx ls)] (G0 (eJ ps ls)) []):
 dy Tryz.prog 42 [[cJ ps],[dx ls],[.bK]] [.one (.ptr given 0),.one (.ptr (given+1) 0),.one (.ptr (given+2) 0)] (qD (eJ ps ls).2) [[cJ ps],[dx ls],[il (eJ ps ls).1]]:=by
 refine bd (c:=_) Tryz.func42 rfl rfl rfl (by decide) fun w M0 H Z=>?_
 repeat'(first|refine bH J ?_|(refine al ?_;refine aj th J ?_)|(refine au mix J J ?_;refine ak th J ?_)|(refine ao mix J J ?_;refine ay th J ?_)|refine SOps.nil ?_|refine DOps.nil ?_|refine EOps.nil ?_ rfl rfl|((first|refine aq J J ?_ ?_|refine av J J J ?_ ?_|refine aU J ?_ ?_)<;>intro hb<;>(try simp only[aF]at hb)<;>first|(exfalso;omega)|refine aj th J ?_|refine ak th J ?_|skip)|refine aT th Tryz.func42 (.inr ⟨_,rfl⟩) J J J ?_ rfl|(refine aS hc [] J J J J J J J J J J ?_;refine aj th J ?_))
 all_goals exact .refl _
theorem OX(x:List (Nat×Loc))(hc:dy Tryz.prog 47 [] [C1 (il x)] (qD (fX 0 x)) []):
 dy Tryz.prog 46 [[il x]] [.one (.ptr given 0)] (qD (fX 0 x)) [[il x]]:=by
 refine bd (c:=_) Tryz.func46 rfl rfl rfl (by decide) fun w M0 H Z=>?_
 repeat'(first|refine bH J ?_|(refine al ?_;refine aj th J ?_)|(refine au mix J J ?_;refine ak th J ?_)|(refine ao mix J J ?_;refine ay th J ?_)|refine SOps.nil ?_|refine DOps.nil ?_|refine EOps.nil ?_ rfl rfl|((first|refine aq J J ?_ ?_|refine av J J J ?_ ?_|refine aU J ?_ ?_)<;>intro hb<;>(try simp only[aF]at hb)<;>first|(exfalso;omega)|refine aj th J ?_|refine ak th J ?_|skip)|refine aT th Tryz.func46 (.inr ⟨_,rfl⟩) J J J ?_ rfl|(refine aS hc [] J J J J J J J J J J ?_;refine aj th J ?_))
 all_goals exact .refl _
def MK(r:Bk×qX):ST:=.gE [Ag r.1.cs,Ag (vO r.2)]
theorem lV(f:qX):Eh (.gE [.agg [.c .bK,.c .bK,.c .bK],Ag (vO f)]) (MK (ER,f)):=.gE (.cons (.agg (.cons (.c (.nil 3)) (.cons (.c (.nil 1)) (.cons (.c (.nil 1)) .nil)))) (.cons (.refl _) .nil))
theorem uf{s:ByteArray}(h:bZ s=true):s.size≤12:=by
 unfold bZ at h
 rw[←Dj]
 split at h
 ·cases h
 ·rename_i c r hs
  simp only[ax,decide_eq_true_eq]at h
  rw[hs,dT];omega
theorem EX{ps:List dr}(hl:ps.length≤6)(hv:∀p∈ps,fK p=true):n9 ps:=⟨by omega,fun p hp=>by
 obtain⟨_,h2,h3⟩:=tC (hv p hp)
 have:=uf h3
 exact⟨by omega,fun r hr=>by have:=uf (h2 r hr);omega⟩⟩
theorem wJ{ps:List dr}{ls:List Loc}(ha:∀p∈ps,(k9 p).2=0)(hl:∀l∈ls,c7 l=true):∀l∈jx ps ls,c7 l=true:=fun l h=>by
 rcases aQ.1 h with h|h
 ·obtain⟨p,hp,h⟩:=bt.1 h
  obtain⟨r,hr,rfl⟩:=aE.1 h
  obtain⟨S,hS⟩:=tD ((oL (ha p hp)).2.1 r hr)
  exact zB hS
 ·obtain⟨m,hm,rfl⟩:=aE.1 h
  exact gW (hl m hm)
theorem wK{ls:List Loc}:∀{ps:List dr},(∀p∈ps,fK p=true)→(jx ps ls).length≤5 * ps.length+ls.length
 |[],_=>by simp[jx]
 |p::ps,h=>by
  have h1:=wK (ls:=ls) (ps:=ps) fun q hq=>h q (ab _ hq)
  have h2:=sZ (h p ah)
  simp only[jx,lL,aL,aw,dT]at h1⊢
  omega
def p6(X:List (Nat×Loc)):Nat→CT
 |0|1|2=>.bK
 |_=>il X
abbrev SA(k:Nat):TM:=[(2,.v (.one (.ptr 2 0))),(3,.v (.one (.ptr 3 0))),(4,.v (.one (.ptr 4 0))),(5,.v (.one (.ptr 5 0))),(6,.v (.one (.ptr 6 0))),(17,.v (.one (.td 16 5))),(18,.v (C1 (.int .i64 5))),(19,.v (C1 (.int .i64 (k:Int))))]
abbrev SB(ps:List dr)(ls:List Loc)(c:CT):MM:=[(16,.box [.ku 38 [2,3],.ku 40 [2,3],.ku 42 [2,3,6],.ku 44 [2,3],.ku 46 [6]]),(6,.box [.c c]),(5,pV),(4,.box [.c .bK,.c .bK,.c .bK]),(3,.box [.c (dx ls)]),(2,.box [.c (cJ ps)])]
set_option maxHeartbeats 32000000 in
theorem OW(ps:List dr)(ls:List Loc)(fP:∀p∈ps,dy Tryz.prog 91 [] [Ag p.cs] (Ry (k9 p)) [])(hB:∀p∈ps,yI p)(hL:∀l∈ls,iv l):dy Tryz.prog 12 [] [C1 (cJ ps),C1 (dx ls)] (MK (P0 ps ls)) []:=by
 have c1:=O1 ps ls (IG ps ls hB hL)
 obtain⟨R,hR⟩:∃R,R=P0 ps ls:=⟨_,rfl⟩
 rw[←hR]
 unfold P0 at hR
 refine bd (c:=_) Tryz.func12 rfl rfl rfl (by decide) fun w M0 H Z=>?_
 repeat'(first|refine bH J ?_|(refine al ?_;refine aj th J ?_)|(refine au mix J J ?_;refine ak th J ?_)|(refine ao mix J J ?_;refine ay th J ?_)|refine SOps.nil ?_|refine DOps.nil ?_|refine EOps.nil ?_ rfl rfl|((first|refine aq J J ?_ ?_|refine av J J J ?_ ?_|refine aU J ?_ ?_)<;>intro hb<;>(try simp only[aF]at hb)<;>first|(exfalso;omega)|refine aj th J ?_|refine ak th J ?_|skip)|((first|refine MY FN J J J Tryz.zeroValue104 rfl rfl rfl rfl rfl rfl rfl rfl rfl ?_|refine MZ FN J J J J J J ?_);refine aj th J ?_))
 refine bE (fun k:Nat=>k≤5∧(0 < k→jP ps ls=kE)∧(1 < k→jr (qN ps ls)=kE)∧(2 < k→(eJ ps ls).2=kE)∧(3 < k→jz (fN ps ls) ps ls=kE)∧(4 < k→fX 0 (eJ ps ls).1=kE))
  SA (fun k=>SB ps ls (p6 (eJ ps ls).1 k)) (fun k=>5 - k) 0 ⟨by omega,by omega,by omega,by omega,by omega,by omega⟩
  (fun a w h=>h.sub (by(repeat refine⟨⟨_,rfl,.refl _⟩,?_⟩);trivial) (by(repeat refine⟨⟨_,rfl,.refl _⟩,?_⟩);trivial) J J J) (fun k hk ih=>?_)
 obtain⟨hk,h1,h2,h3,h4,h5⟩:=hk
 have cS:=fun(bo:k < 5) hp=>ih (k+1) hp (by omega)
 clear ih
 have Ue:k=0∨k=1∨k=2∨k=3∨k=4∨k=5:=by omega
 rcases Ue with rfl|rfl|rfl|rfl|rfl|rfl
 ·have JC:=fun(h:jP ps ls=kE)=>cS (by omega) ⟨by omega,fun _=>h,by omega,by omega,by omega,by omega⟩
  have fO:=fun(h:¬jP ps ls=kE)=>hR.trans (by rw[if_pos h])
  clear cS hR h1 h2 h3 h4 h5
  generalize (eJ ps ls).1=X at *
  generalize jP ps ls=F at *
  repeat'(first|(refine nM [4,5] mix J J J J J ?_;refine ay th J ?_)|refine bH J ?_|(refine al ?_;refine aj th J ?_)|(refine au mix J J ?_;refine ak th J ?_)|(refine ao mix J J ?_;refine ay th J ?_)|refine SOps.nil ?_|refine DOps.nil ?_|refine EOps.nil ?_ rfl rfl|((first|refine aq J J ?_ ?_|refine av J J J ?_ ?_|refine aU J ?_ ?_)<;>intro hb<;>(try simp only[aF]at hb)<;>first|(exfalso;omega)|refine aj th J ?_|refine ak th J ?_|skip)|((first|refine tB FN 0 J J J J J J J J J ?_|refine p8 FN J J J J J J J J J ?_|refine oW c1 [2,3] J J J J J J J J J J J J ?_|refine ns F kE J J J J J J J ?_|refine bO J J J J J J (by decide) ?_);refine aj th J ?_))
  ·rw[fO (by simpa using hb)]
   refine aT th Tryz.func12 (.inr ⟨_,rfl⟩) J J J ?_ rfl
   exact lV _
  ·exact bJ (by(repeat refine⟨⟨_,rfl,.refl _⟩,?_⟩);trivial) (by(repeat refine⟨⟨_,rfl,.refl _⟩,?_⟩);trivial) J J J (JC (by simpa using hb))
 ·obtain⟨q1,q2,q3,q4⟩:=qA (h1 (by omega))
  have c2:=O0 ps ls (JI ps ls q1 q2)
  have JC:=fun(h:jr (qN ps ls)=kE)=>cS (by omega) ⟨by omega,fun _=>h1 (by omega),fun _=>h,by omega,by omega,by omega⟩
  have fO:=fun(h:¬jr (qN ps ls)=kE)=>hR.trans (by rw[if_neg (fun e=>e (h1 (by omega))),if_pos h])
  clear cS hR h1 h2 h3 h4 h5
  clear q3 q4
  generalize (eJ ps ls).1=X at *
  generalize jr (qN ps ls)=F at *
  repeat'(first|(refine nM [4,5] mix J J J J J ?_;refine ay th J ?_)|refine bH J ?_|(refine al ?_;refine aj th J ?_)|(refine au mix J J ?_;refine ak th J ?_)|(refine ao mix J J ?_;refine ay th J ?_)|refine SOps.nil ?_|refine DOps.nil ?_|refine EOps.nil ?_ rfl rfl|((first|refine aq J J ?_ ?_|refine av J J J ?_ ?_|refine aU J ?_ ?_)<;>intro hb<;>(try simp only[aF]at hb)<;>first|(exfalso;omega)|refine aj th J ?_|refine ak th J ?_|skip)|((first|refine tB FN 1 J J J J J J J J J ?_|refine p8 FN J J J J J J J J J ?_|refine oW c2 [2,3] J J J J J J J J J J J J ?_|refine ns F kE J J J J J J J ?_|refine bO J J J J J J (by decide) ?_);refine aj th J ?_))
  ·rw[fO (by simpa using hb)]
   refine aT th Tryz.func12 (.inr ⟨_,rfl⟩) J J J ?_ rfl
   exact lV _
  ·exact bJ (by(repeat refine⟨⟨_,rfl,.refl _⟩,?_⟩);trivial) (by(repeat refine⟨⟨_,rfl,.refl _⟩,?_⟩);trivial) J J J (JC (by simpa using hb))
 ·obtain⟨q1,q2,q3,q4⟩:=qA (h1 (by omega))
  have c3:=OZ ps ls (xS ps ls q1 q2 fP fun l hl=>⟨hL l hl,(q4 l hl).1⟩)
  have JC:=fun(h:(eJ ps ls).2=kE)=>cS (by omega) ⟨by omega,fun _=>h1 (by omega),fun _=>h2 (by omega),fun _=>h,by omega,by omega⟩
  have fO:=fun(h:¬(eJ ps ls).2=kE)=>hR.trans (by rw[if_neg (fun e=>e (h1 (by omega))),if_neg (fun e=>e (h2 (by omega))),if_pos h])
  clear cS hR h1 h2 h3 h4 h5
  clear q3 q4
  generalize eJ ps ls=X at *
  obtain⟨X,F⟩:=X
  simp only at JC fO c3
  repeat'(first|(refine nM [4,5] mix J J J J J ?_;refine ay th J ?_)|refine bH J ?_|(refine al ?_;refine aj th J ?_)|(refine au mix J J ?_;refine ak th J ?_)|(refine ao mix J J ?_;refine ay th J ?_)|refine SOps.nil ?_|refine DOps.nil ?_|refine EOps.nil ?_ rfl rfl|((first|refine aq J J ?_ ?_|refine av J J J ?_ ?_|refine aU J ?_ ?_)<;>intro hb<;>(try simp only[aF]at hb)<;>first|(exfalso;omega)|refine aj th J ?_|refine ak th J ?_|skip)|((first|refine tB FN 2 J J J J J J J J J ?_|refine p8 FN J J J J J J J J J ?_|refine oW c3 [2,3,6] J J J J J J J J J J J J ?_|refine ns F kE J J J J J J J ?_|refine bO J J J J J J (by decide) ?_);refine aj th J ?_))
  ·rw[fO (by simpa using hb)]
   refine aT th Tryz.func12 (.inr ⟨_,rfl⟩) J J J ?_ rfl
   exact lV _
  ·exact bJ (by(repeat refine⟨⟨_,rfl,.refl _⟩,?_⟩);trivial) (by(repeat refine⟨⟨_,rfl,.refl _⟩,?_⟩);trivial) J J J (JC (by simpa using hb))
 ·obtain⟨q1,q2,q3,q4⟩:=qA (h1 (by omega))
  have c4:=OY ps ls (Kx ps ls (EX q1 q3) q2)
  have JC:=fun(h:jz (fN ps ls) ps ls=kE)=>cS (by omega) ⟨by omega,fun _=>h1 (by omega),fun _=>h2 (by omega),fun _=>h3 (by omega),fun _=>h,by omega⟩
  have fO:=fun(h:¬jz (fN ps ls) ps ls=kE)=>hR.trans (by rw[if_neg (fun e=>e (h1 (by omega))),if_neg (fun e=>e (h2 (by omega))),if_neg (fun e=>e (h3 (by omega))),if_pos h])
  clear cS hR h1 h2 h3 h4 h5
  clear q3 q4
  generalize (eJ ps ls).1=X at *
  generalize jz (fN ps ls) ps ls=F at *
  repeat'(first|(refine nM [4,5] mix J J J J J ?_;refine ay th J ?_)|refine bH J ?_|(refine al ?_;refine aj th J ?_)|(refine au mix J J ?_;refine ak th J ?_)|(refine ao mix J J ?_;refine ay th J ?_)|refine SOps.nil ?_|refine DOps.nil ?_|refine EOps.nil ?_ rfl rfl|((first|refine aq J J ?_ ?_|refine av J J J ?_ ?_|refine aU J ?_ ?_)<;>intro hb<;>(try simp only[aF]at hb)<;>first|(exfalso;omega)|refine aj th J ?_|refine ak th J ?_|skip)|((first|refine tB FN 3 J J J J J J J J J ?_|refine p8 FN J J J J J J J J J ?_|refine oW c4 [2,3] J J J J J J J J J J J J ?_|refine ns F kE J J J J J J J ?_|refine bO J J J J J J (by decide) ?_);refine aj th J ?_))
  ·rw[fO (by simpa using hb)]
   refine aT th Tryz.func12 (.inr ⟨_,rfl⟩) J J J ?_ rfl
   exact lV _
  ·exact bJ (by(repeat refine⟨⟨_,rfl,.refl _⟩,?_⟩);trivial) (by(repeat refine⟨⟨_,rfl,.refl _⟩,?_⟩);trivial) J J J (JC (by simpa using hb))
 ·obtain⟨q1,q2,q3,q4⟩:=qA (h1 (by omega))
  obtain⟨r1,r2⟩:=tP (h3 (by omega))
  have gw:=wJ r1 fun l hl=>(q4 l hl).1
  rw[←r2]at gw
  have c5:=OX _ (KI (eJ ps ls).1 fun q hq=>by have:=(fp (gw _ (bQ hq))).2;omega)
  clear gw r1 r2
  have JC:=fun(h:fX 0 (eJ ps ls).1=kE)=>cS (by omega) ⟨by omega,fun _=>h1 (by omega),fun _=>h2 (by omega),fun _=>h3 (by omega),fun _=>h4 (by omega),fun _=>h⟩
  have fO:=fun(h:¬fX 0 (eJ ps ls).1=kE)=>hR.trans (by rw[if_neg (fun e=>e (h1 (by omega))),if_neg (fun e=>e (h2 (by omega))),if_neg (fun e=>e (h3 (by omega))),if_neg (fun e=>e (h4 (by omega))),if_pos h])
  clear cS hR h1 h2 h3 h4 h5
  clear q3 q4
  generalize (eJ ps ls).1=X at *
  generalize fX 0 X=F at *
  repeat'(first|(refine nM [4,5] mix J J J J J ?_;refine ay th J ?_)|refine bH J ?_|(refine al ?_;refine aj th J ?_)|(refine au mix J J ?_;refine ak th J ?_)|(refine ao mix J J ?_;refine ay th J ?_)|refine SOps.nil ?_|refine DOps.nil ?_|refine EOps.nil ?_ rfl rfl|((first|refine aq J J ?_ ?_|refine av J J J ?_ ?_|refine aU J ?_ ?_)<;>intro hb<;>(try simp only[aF]at hb)<;>first|(exfalso;omega)|refine aj th J ?_|refine ak th J ?_|skip)|((first|refine tB FN 4 J J J J J J J J J ?_|refine p8 FN J J J J J J J J J ?_|refine oW c5 [6] J J J J J J J J J J J J ?_|refine ns F kE J J J J J J J ?_|refine bO J J J J J J (by decide) ?_);refine aj th J ?_))
  ·rw[fO (by simpa using hb)]
   refine aT th Tryz.func12 (.inr ⟨_,rfl⟩) J J J ?_ rfl
   exact lV _
  ·exact bJ (by(repeat refine⟨⟨_,rfl,.refl _⟩,?_⟩);trivial) (by(repeat refine⟨⟨_,rfl,.refl _⟩,?_⟩);trivial) J J J (JC (by simpa using hb))
 ·obtain⟨q1,q2,q3,q4⟩:=qA (h1 (by omega))
  obtain⟨r1,r2⟩:=tP (h3 (by omega))
  have gw:=wJ r1 fun l hl=>(q4 l hl).1
  have hlen:=wK (ls:=ls) q3
  rw[←r2]at gw hlen
  have c8:=Ah (eJ ps ls).1 0 (by omega) (h5 (by omega))
  have cb:=LD (eJ ps ls).1 (by simp only[gC,aw]at hlen;omega) (by omega) gw
  rw[hR.trans (by rw[if_neg (fun e=>e (h1 (by omega))),if_neg (fun e=>e (h2 (by omega))),if_neg (fun e=>e (h3 (by omega))),if_neg (fun e=>e (h4 (by omega))),if_neg (fun e=>e (h5 (by omega)))])]
  clear cS hR h1 h2 h3 h4 h5 q3 q4 r1 r2 gw hlen c8
  generalize (eJ ps ls).1=X at *
  repeat'(first|refine bH J ?_|(refine al ?_;refine aj th J ?_)|(refine au mix J J ?_;refine ak th J ?_)|(refine ao mix J J ?_;refine ay th J ?_)|refine SOps.nil ?_|refine DOps.nil ?_|refine EOps.nil ?_ rfl rfl|((first|refine aq J J ?_ ?_|refine av J J J ?_ ?_|refine aU J ?_ ?_)<;>intro hb<;>(try simp only[aF]at hb)<;>first|(exfalso;omega)|refine aj th J ?_|refine ak th J ?_|skip)|(refine aS cb [] J J J J J J J J J J ?_;refine aj th J ?_))
  refine aT th Tryz.func12 (.inr ⟨_,rfl⟩) J J J ?_ rfl
  exact .refl _
end Go.Sy
