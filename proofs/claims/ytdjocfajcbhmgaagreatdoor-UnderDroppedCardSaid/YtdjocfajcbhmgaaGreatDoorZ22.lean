/- Contracts: project.Role. -/
import Derived.Test.YtdjocfajcbhmgaaGreatDoorAu
import Derived.Test.YtdjocfajcbhmgaaGreatDoorJh
import Derived.Test.YtdjocfajcbhmgaaGreatDoorZ4
set_option maxHeartbeats 64000000
set_option linter.unusedSimpArgs false
set_option linter.unusedVariables false
set_option linter.unusedSectionVars false
namespace Go.Sy
open Go.Proofs
set_option maxRecDepth 100000
attribute [local irreducible] SOps Goes DOps EOps FOps GOps
def lE(p:b7)(role:ByteArray)(S:List (List Int)):Prop:=∀m∈S,∃l,m=bV p role l
section
variable {p:b7} {role:ByteArray} {S:List (List Int)}
theorem lE.look(h:lE p role S)(set:List Int):lE p role (cp p role S set).2:=by
 intro m hm
 rcases lu (p:=p) (role:=role) S set with⟨_,e⟩|⟨_,_,e⟩|⟨_,_,_,e⟩|⟨_,_,_,e⟩
 ·rw[e]at hm;exact h m hm
 ·rw[e]at hm;exact h m hm
 ·rw[e]at hm;exact h m hm
 ·rw[e]at hm
  rcases aK.1 hm with hm|hm
  ·exact h m hm
  ·exact⟨set,aq.1 hm⟩
theorem lE.ax{arr:List bD}:∀(ls:List ByteArray) {out:List bD} {S:List (List Int)},lE p role S→lE p role (di p role arr ls out S).2
 |[],_,_,h=>h
 |s::ls,out,S,h=>by
  rw[di]
  split
  ·exact lE.ax ls (h.look _)
  ·exact h.look _
theorem lE.qF(h:lE p role S)(near:List Int):lE p role (dT p role S near).2:=by
 unfold dT
 cases near with
 |nil=>exact h
 |cons x0 r=>
  simp only
  repeat' split
  all_goals first|exact h|exact lE.ax _ h
theorem Nr(hv:dj p=true)(h:lE p role S)(hs:ki S):po p S:=⟨hs,fun m hm=>by obtain⟨l,rfl⟩:=h m hm;exact(nJ hv role l).1⟩
theorem Ei(S:List (List Int))(near:List Int):∃r,(dT p role S near).2=S++r:=by
 have ha:∀(arr:List bD) (ls:List ByteArray) (out:List bD) (S:List (List Int)),∃r,(di p role arr ls out S).2=S++r:=by
  intro arr ls
  induction ls with
  |nil=>intro out S;exact⟨[],by simp[di]⟩
  |cons s ls ih=>
   intro out S
   obtain⟨r1,h1⟩:=wN (p:=p) (role:=role) S (df arr s)
   rw[di]
   split
   ·obtain⟨r2,h2⟩:=ih (out++[⟨s,(kc arr s).1,(kc arr s).2,(cp p role S (df arr s)).1.1⟩]) (cp p role S (df arr s)).2
    exact⟨r1++r2,by rw[h2,h1,bf]⟩
   ·exact⟨r1,h1⟩
 unfold dT
 cases near with
 |nil=>exact⟨[],by simp⟩
 |cons x0 r=>
  simp only
  repeat' split
  all_goals first|exact⟨[],(et S).symm⟩|exact ha _ _ _ _
end
section
open Go.RowKit
variable {C:Ctx} {n:Nat} {tm:TM} {mm:MM} {o:Oper} {d:Nat}
theorem s5{Θ:da}(bt:a8 C.P Θ){t:TypeId}{z cz:Nat}{zv:Value}{zs:List SC}{fs:List (Nat×Nat)}{parts:Array (Nat×Operand)}{r:List SC}
 (Wo:∀w,(zeroValue t).run C.P w=.ok zv w)(Wn:∀(I:Nat→Prop) (H:Nat→Value) (Z:Nat→Nat) (w:World) (M:Nat→Prop),Pw (fun u c=>u.oneCell'=true∧bS I H Z w M u c) zv.cells.toList zs)
 (ho:o.op=.build t parts)(ht:aP Θ t=some ⟨z,cz,true,none,.struct fs⟩)(hl:nL (eC Θ fs) tm zs parts.toList=some r)
 (hd:o.dst=some d)(hn:Nat.blt d n=true):
 ea C n o tm mm d (.v (.agg r)):=
 ea.val hd hn _ fun H Z a w hm=>by
  obtain⟨inf,de,hf⟩:=gI bt ht
  have hp:=Wn (cU mm) H Z w (cO C H mm)
  obtain⟨lK,g1,g2⟩:=j5 hm (eC Θ fs) parts.toList _ _ r hp hl
  have A4:=hf.sh
  cases de<;>simp only[dA]at A4<;>try(cases A4;done)
  rename_i fields
  simp only[av]at A4
  obtain⟨s1,s2⟩:=A4
  have R6:fields.toList.map (fun f=>(f.offset,f.type))=fs:=by simpa using s1
  have gf:∀f∈fields.toList,C.P.cellsOf f.type≠0:=by
   intro f fK
   have:=Array.all_eq_true_iff_forall_mem.1 s2 f (by simpa using fK)
   simpa using this
  have qY:(fields.mapM (m:=Sem) fun f=>do pure (f.offset,←sizeOf f.type)).run C.P w=.ok (fields.map fun f=>(f.offset,C.P.cellsOf f.type)) w:=by
   have:=wK (P:=C.P) (w:=w) fields.toList gf
   rw[sG]
   simp only[Sem.run_map,this,Result.andThen_ok,cF]
   simp[←cF]
  refine⟨.agg lK,?_,?_⟩
  ·have iX:Instr.fill (fun i=>(fields.map fun f=>(f.offset,C.P.cellsOf f.type))[i]?) zv.cells (parts.map fun(i,x)=>(i,a.eval x)).toList=some lK:=by
    rw[←g1,kG]
    refine q8 _ _ _ _ ?_
    intro x hx
    obtain⟨y,hy,rfl⟩:=aL.1 hx
    have Lc:=oP hl y hy
    obtain⟨p,sa⟩:=lj.1 Lc
    obtain⟨t',ti,k1,k2,k3⟩:=jY sa
    simp only[sa]
    rw[←R6]at k1
    simp at k1
    obtain⟨f,LD,OQ,UO⟩:=k1
    obtain⟨jK,qw,fK⟩:=gI bt k2
    have Xp:C.P.cellsOf f.type=ti.size:=by
     unfold Program.cellsOf
     rw[UO,fK.info]
     simp[fK.size]
    have:p=(f.offset,ti.size):=by rw[OQ,←k3]
    simp[LD,Xp,this]
   simp only[execOp,ho,Instr.build,Sem.run_bind,Wo,Result.andThen_ok,hf.underlying,qY,iX,Sem.run_pure]
  ·refine⟨lK,rfl,by simpa using g2.1,fun j c hc=>?_⟩
   obtain⟨u,hu,_,hr⟩:=g2.2 j c hc
   exact⟨u,by simpa using hu,hr⟩
end
section
variable {C:Ctx} {n:Nat} {tm:TM} {mm:MM} {L l:List Oper} {T:TM→MM→Prop} {o:Oper} {d:Nat}
theorem JP{Θ:da}(bt:a8 C.P Θ){t:TypeId}{z cz:Nat}{zv:Value}{zs:List SC}{fs:List (Nat×Nat)}{parts:Array (Nat×Operand)}{r:List SC}
 (Wo:∀w,(zeroValue t).run C.P w=.ok zv w)(Wn:∀(I:Nat→Prop) (H:Nat→Value) (Z:Nat→Nat) (w:World) (M:Nat→Prop),Pw (fun u c=>u.oneCell'=true∧bS I H Z w M u c) zv.cells.toList zs)
 (ho:o.op=.build t parts)(ht:aP Θ t=some ⟨z,cz,true,none,.struct fs⟩)(hl:nL (eC Θ fs) tm zs parts.toList=some r)(hd:o.dst=some d)(hn:Nat.blt d n=true)(hg:aY L tm o=some true)
 (k:SOps C n L.toArray l ((d,.v (.agg r))::bo tm d) mm T):SOps C n L.toArray (o::l) tm mm T:=
 cB (s5 (n:=n) bt Wo Wn ho ht hl hd hn).wp hg k
theorem HG(I:Nat→Prop)(H:Nat→Value)(Z:Nat→Nat)(w:World)(M:Nat→Prop):Pw (fun u c=>u.oneCell'=true∧bS I H Z w M u c)
 (Value.agg #[.string ⟨#[]⟩,.slice none 0 0,.slice none 0 0,.string ⟨#[]⟩,.slice none 0 0,.map none]).cells.toList [.c (.str ⟨#[]⟩),.c .bA,.c .bA,.c (.str ⟨#[]⟩),.c .bA,.any]:=
 Pw.cons ⟨rfl,aV.str _⟩ (Pw.cons ⟨rfl,aV.bA⟩ (Pw.cons ⟨rfl,aV.bA⟩ (Pw.cons ⟨rfl,aV.str _⟩ (Pw.cons ⟨rfl,aV.bA⟩ (Pw.cons ⟨rfl,trivial⟩ Pw.nil)))))
end
theorem wH{s:ByteArray}(h:cg s=true):s.size≤100:=by
 unfold cg at h
 split at h
 ·cases h
 ·rename_i c r hc
  simp only[av,decide_eq_true_eq]at h
  have:s.size=s.data.toList.length:=by simp
  rw[this,hc,cd];omega
theorem HI{p:b7}(hv:dj p=true){role:ByteArray}(hh:hasB p.aW role=true):cg role=true∧cg p.name=true:=by
 unfold dj at hv
 simp only[av]at hv
 exact⟨a7.1 hv.2.2.2.2.1 role (fh.1 hh),hv.1⟩
abbrev T7(r:Loc×Int):ST:=.fo [Ag r.1.cs,C1 (.int .i64 r.2)]
theorem r7(e:Int):BL (.fo [Ag [.str ⟨#[]⟩,.bA],C1 (.int .i64 e)]) (T7 (ug,e)):=.fo (.cons (.agg (.cons (.refl _) (.cons (.c (.nil 3)) .nil))) (.cons (.refl _) .nil))
theorem Q2(p:b7)(hB:ix p)(role:ByteArray):er Tryz.prog 18 [] [Ag p.cs,C1 (.str role)] (T7 (dm p role)) []:=by
 have iN:=xf p hB
 have qZ:=Dn p.aW role
 cases hv:dj p with
 |false=>
  rw[hv]at iN
  rw[vM (by rw[hv];simp)]
  refine bn (c:=_) Tryz.func18 rfl rfl rfl (by decide) fun w M0 H Z=>?_
  repeat'(first|refine aA ?_|(refine aB ?_ ?_<;>first|exact aD|(refine aE ?_;intro hb))|refine aZ th Tryz.func18 (.inr ⟨_,rfl⟩) J J J ?_ rfl|(refine aR iN [] J J J J J J J J J J ?_;refine ao th J ?_))
  all_goals first|exact r7 800|(exfalso;revert hb;simp;done)
 |true=>
  rw[hv]at iN
  cases hh:hasB p.aW role with
  |false=>
   rw[hh]at qZ
   rw[vM (by rw[hh];simp)]
   refine bn (c:=_) Tryz.func18 rfl rfl rfl (by decide) fun w M0 H Z=>?_
   repeat'(first|refine aA ?_|(refine aB ?_ ?_<;>first|exact aD|(refine aE ?_;intro hb))|refine aZ th Tryz.func18 (.inr ⟨_,rfl⟩) J J J ?_ rfl|((first|refine aR iN [] J J J J J J J J J J ?_|refine aR qZ [] J J J J J J J J J J ?_);refine ao th J ?_))
   all_goals first|exact r7 800|(exfalso;revert hb;simp;done)
  |true=>
   rw[hh]at qZ
   obtain⟨Ql,Qk⟩:=HI hv hh
   have A3:=wH Ql
   have VE:=wH Qk
   have mA:=hJ hv
   have Yt:po p []:=⟨⟨mC,by simp⟩,fun m hm=>by cases hm⟩
   have jS:=KT p hv hB role hh (.slice none 0 0) [] Yt [0] (by simp;omega) (by simp)
   have om:dm p role=if(cp p role [] [0]).1.2=0 then
    if(fc p role 41 0 [] (cp p role [] [0]).2).2=0 then(⟨fm p.name role,(fc p role 41 0 [] (cp p role [] [0]).2).1⟩,0)else(ug,(fc p role 41 0 [] (cp p role [] [0]).2).2)
    else(ug,(cp p role [] [0]).1.2):=by unfold dm;rw[hv,hh];rfl
   have XE:lE p role (cp p role [] [0]).2:=lE.look (S:=[]) (fun m hm=>by cases hm) _
   have Xw:ki (cp p role [] [0]).2:=r5 Yt.Ao _
   obtain⟨⟨⟨i0,e0⟩,S0⟩,hL⟩:∃L,L=cp p role [] [0]:=⟨_,rfl⟩
   unfold GB at jS
   rw[←hL]at jS om XE Xw
   simp only at jS om XE Xw
   refine bn (c:=_) Tryz.func18 rfl rfl rfl (by decide) fun w M0 H Z=>?_
   repeat'((fail_if_success refine o6 4 J ?_);first|refine aA ?_|(refine aB ?_ ?_<;>first|exact aD|(refine aE ?_;intro hb))|((first|refine aR iN [] J J J J J J J J J J ?_|refine aR qZ [] J J J J J J J J J J ?_|refine JP th Tryz.zeroValue120 HG J J J J J J ?_);refine ao th J ?_))
   all_goals try(exfalso;revert hb;simp;done)
   refine lh 190 22 1 J J ?_
   refine j8 190 J J J J ?_
   refine xg 28 4 J J ?_
   repeat'(first|refine aA ?_|(refine aB ?_ ?_<;>first|exact aD|(refine aE ?_;intro hb))|((first|(refine fa 31 J J ?_;refine B1 31 (.v (C1 (ch [0]))) J (.v (.one (.c (.nn true 1 _)))) ?_)|refine iI jS [(given,28),(given+1,26),(1,190)] J J J J ⟨rfl,rfl,rfl,trivial⟩ ⟨rfl,rfl,rfl,rfl,rfl⟩ (fun _=>⟨rfl,rfl,rfl,rfl,rfl,rfl,rfl⟩) (fun _=>rfl) (fun _=>rfl) J J J (fun v0 _=>?_));refine ao th J ?_)|(refine Gh J J J J J J (by first|omega|(simp only[ByteArray.size_append,show(ByteArray.mk #[46]).size=1 from rfl];omega)) ?_;refine ao th J ?_))
   ·rw[om,if_neg (by assumption)]
    refine aZ th Tryz.func18 (.inr ⟨_,rfl⟩) J J J ?_ rfl
    exact r7 _
   have ZF:e0=0:=by assumption
   rw[if_pos ZF]at om
   obtain⟨RS,OU⟩:∃RS,RS=fc p role 41 0 [] S0:=⟨_,rfl⟩
   rw[←OU]at om
   refine kv 9 1 191 39 3 J J J J ?_
   refine fz (fun(i:Nat) (s:List jk×List (List Int)×Value)=>s.1.length=i∧i≤s.2.1.length∧lE p role s.2.1∧ki s.2.1∧RS=fc p role (41 - i) i s.1 s.2.1)
    (fun i _=>[(4,.v (.one (.ptr 4 0))),(5,.v (C1 (.int .i64 0))),(6,.v (.one (.ptr 28 0))),(9,.v (.one (.ptr 9 0))),(10,.v (C1 (.int .i64 (i:Int))))])
    (fun _ s=>[(191,.arr false 39 3 (s.1.map jk.cs)),(9,.box [.c (.str (fm p.name role)),.own 191]),(4,.box [.c (.str ⟨#[]⟩),.c .bA]),
      (28,.box [.c (.str p.name),.c (bL p.aW),.c (lZ p.points),.c (.str role),.c (.val s.2.2),.mp 26]),(26,oQ s.2.1),(190,.bF 22 1 [(s.2.2,jO s.2.1)])])
    (fun i _=>41 - i) 0 ([],S0,v0) ⟨rfl,aF _,XE,Xw,OU⟩
    aH (fun i s hi ih=>?_)
   obtain⟨out,S,v⟩:=s
   obtain⟨RU,hle,hF,hO,cZ⟩:=hi
   simp only at RU hle hF hO cZ⊢
   have hl40:=hO.len
   have Ix:((jO S).length:Int)=(S.length:Int):=by simp
   by_cases bj:i < S.length
   ·have hx:(jO S)[i]? =some [ch S[i]]:=by simp[bj]
    obtain⟨l0,WZ⟩:=hF S[i] (an bj)
    obtain⟨_,UC,od⟩:=nJ hv role l0
    rw[←WZ]at UC od
    have GK:=HN p hv hB role hh v S (Nr hv hF hO) S[i] od UC
    have Yw:=hF.qF S[i]
    have Yu:=F9 (p:=p) (role:=role) hO S[i]
    obtain⟨rg,OC⟩:=Ei (p:=p) (role:=role) S S[i]
    rw[show 41 - i=(40 - i)+1 by omega,fc,aa bj]at cZ
    obtain⟨⟨⟨t2,e2⟩,S2⟩,hT⟩:∃L,L=dT p role S S[i]:=⟨_,rfl⟩
    unfold tX at GK
    simp only[←hT]at GK Yw Yu cZ OC
    have cT:=fun(h0:e2=0) v2=>ih (i+1) (out++[t2],S2,v2) ⟨by simp[RU],by simp only;rw[OC,au];omega,Yw,Yu,by rw[cZ,if_pos h0,show 41 - (i+1)=40 - i by omega]⟩ (by omega)
    have Di:=fun(h0:¬e2=0)=>(show RS=([],e2) by rw[cZ,if_neg h0])
    clear ih cZ
    obtain⟨nr,WQ⟩:∃nr,nr=S[i]:=⟨_,rfl⟩
    rw[←WQ]at hx GK
    repeat'(first|refine aA ?_|(refine aB ?_ ?_<;>first|exact aD|(refine aE ?_;intro hb))|((first|refine oD th 190 0 J J J J J J J J _ Ix ?_|refine vK th (r:=190) J J J J J J J J J J 0 J i J (by simpa using bj) ?_|refine rM th (r:=190) J J J J J J J J 0 J hx J ?_|refine iI GK [(given,28),(given+1,26),(1,190)] J J J J ⟨rfl,rfl,rfl,trivial⟩ ⟨rfl,rfl,rfl,rfl,rfl⟩ (fun _=>⟨rfl,rfl,rfl,rfl,rfl,rfl,rfl⟩) (fun _=>rfl) (fun _=>rfl) J J J (fun v2 _=>?_));refine ao th J ?_)|(refine nB 9 1 J ?_;refine eo th J J J J J J J J J J J J J J J (by constructor<;>simp<;>omega) ?_;refine ao th J ?_)|(refine bH J J J J J J (by omega) ?_;refine ao th J ?_))
    ·have he:=Di (by assumption)
     rw[he,if_neg (by assumption)]at om
     rw[om]
     refine aZ th Tryz.func18 (.inr ⟨_,rfl⟩) J J J ?_ rfl
     exact r7 _
    ·exact aS (h2:=by exact⟨⟨_,rfl,fE (by simp)⟩,⟨_,rfl,.refl _⟩,⟨_,rfl,.refl _⟩,⟨_,rfl,.refl _⟩,⟨_,rfl,.refl _⟩,⟨_,rfl,.refl _⟩,trivial⟩) (cT (by assumption) v2)
   ·rw[show 41 - i=(40 - i)+1 by omega,fc,bR (by omega)]at cZ
    simp only at cZ
    clear ih
    rw[cZ,if_pos J]at om
    rw[om]
    repeat'(first|(refine dY 191 J J ?_)|refine aA ?_|(refine aB ?_ ?_<;>first|exact aD|(refine aE ?_;intro hb))|(refine oD th 190 0 J J J J J J J J _ Ix ?_;refine ao th J ?_))
    refine aZ th Tryz.func18 (.inr ⟨_,rfl⟩) J J J ?_ rfl
    exact .refl _
abbrev dW(l:List Loc):CT:=.slice false 2 (l.map Loc.cs)
abbrev PO(r:(List Loc×Int)×Int):ST:=.fo [C1 (dW r.1.1),C1 (.int .i64 r.1.2),C1 (.int .i64 r.2)]
theorem CL(i e:Int):BL (.fo [C1 .bA,C1 (.int .i64 i),C1 (.int .i64 e)]) (PO (([],i),e)):=.fo (.cons (.one (.c (.nil 2))) (.cons (.refl _) (.cons (.refl _) .nil)))
theorem Vl(p:b7)(hB:ix p):er Tryz.prog 91 [] [Ag p.cs] (PO (kg p)) []:=by
 have iN:=xf p hB
 unfold kg
 cases hv:dj p with
 |false=>
  rw[hv]at iN
  rw[if_neg (by decide)]
  refine bn (c:=_) Tryz.func91 rfl rfl rfl (by decide) fun w M0 H Z=>?_
  repeat'(first|refine aA ?_|(refine aB ?_ ?_<;>first|exact aD|(refine aE ?_;intro hb))|refine aZ th Tryz.func91 (.inr ⟨_,rfl⟩) J J J ?_ rfl|(refine aR iN [] J J J J J J J J J J ?_;refine ao th J ?_))
  all_goals first|exact CL 0 800|(exfalso;revert hb;simp;done)
 |true=>
  rw[hv]at iN
  rw[if_pos J]
  have mA:=hJ hv
  obtain⟨RS,OU⟩:∃RS,RS=re p 0 p.aW []:=⟨_,rfl⟩
  rw[←OU]
  refine bn (c:=_) Tryz.func91 rfl rfl rfl (by decide) fun w M0 H Z=>?_
  repeat'(first|refine aA ?_|(refine aB ?_ ?_<;>first|exact aD|(refine aE ?_;intro hb))|(refine aR iN [] J J J J J J J J J J ?_;refine ao th J ?_))
  all_goals try(exfalso;revert hb;simp;done)
  refine pX 5 290 42 2 J J J ?_
  refine fz (fun(i:Nat) (out:List Loc)=>i≤p.aW.length∧out.length=i∧RS=re p i (p.aW.drop i) out)
   (fun i _=>[(1,.v (.one (.ptr 1 0))),(5,.v (.one (.own 290))),(14,.v (C1 (bL p.aW))),(15,.v (C1 (.int .i64 (p.aW.length:Int)))),(16,.v (C1 (.int .i64 (i:Int))))])
   (fun _ out=>[(290,.arr false 42 2 (out.map Loc.cs)),(1,.box (p.cs.map SC.c))])
   (fun i _=>p.aW.length - i) 0 [] ⟨aF _,rfl,OU⟩
   aH (fun i out hi ih=>?_)
  obtain⟨hi,RU,cZ⟩:=hi
  by_cases bj:i < p.aW.length
  ·have hx:(p.aW.map fun s=>[CT.str s])[i]? =some [.str p.aW[i]]:=by simp[bj]
   have Li:=Q2 p hB p.aW[i]
   rw[cX bj,re]at cZ
   obtain⟨⟨l1,e1⟩,hR⟩:∃R,R=dm p p.aW[i]:=⟨_,rfl⟩
   rw[←hR]at Li cZ
   simp only at Li cZ
   have cT:=fun(h0:e1=0)=>ih (i+1) (out++[l1]) ⟨bj,by simp[RU],by rw[cZ,if_pos h0]⟩ (by omega)
   have Di:=fun(h0:¬e1=0)=>(show RS=(([],(i:Int)),e1) by rw[cZ,if_neg h0])
   clear ih cZ
   repeat'(first|refine aA ?_|(refine aB ?_ ?_<;>first|exact aD|(refine aE ?_;intro hb))|((first|refine bO th J J J J J J J J J i _ J hx ?_|refine aR Li [] J J J J J J J J J J ?_);refine ao th J ?_)|(refine eo th J J J J J J J J J J J J J J J (by constructor<;>simp<;>omega) ?_;refine ao th J ?_)|(refine bH J J J J J J (by omega) ?_;refine ao th J ?_))
   ·rw[Di (by assumption)]
    refine aZ th Tryz.func91 (.inr ⟨_,rfl⟩) J J J ?_ rfl
    exact CL _ _
   ·exact aS (h2:=by exact⟨⟨_,rfl,fE (by simp)⟩,⟨_,rfl,.refl _⟩,trivial⟩) (cT (by assumption))
  ·rw[jf (by omega),re]at cZ
   clear ih
   rw[cZ]
   repeat'(first|(refine dY 290 J J ?_)|refine aA ?_|(refine aB ?_ ?_<;>first|exact aD|(refine aE ?_;intro hb))|fail)
   refine aZ th Tryz.func91 (.inr ⟨_,rfl⟩) J J J ?_ rfl
   exact .refl _
end Go.Sy
