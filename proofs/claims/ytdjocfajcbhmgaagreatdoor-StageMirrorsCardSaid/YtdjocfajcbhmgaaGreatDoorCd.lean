/- The law StageMirrors. -/
import Derived.Test.YtdjocfajcbhmgaaGreatDoorZ35
import Derived.Test.YtdjocfajcbhmgaaGreatDoorBj
import Derived.Test.YtdjocfajcbhmgaaGreatDoorZ36
set_option linter.unusedSimpArgs false
set_option linter.unusedVariables false
set_option linter.unusedSectionVars false
namespace Go.Sy
open Go.Proofs
set_option maxRecDepth 100000
attribute [local irreducible] SOps Goes DOps EOps FOps GOps
theorem r5.Rw{P:Program}{f:FuncId}{pre:MM}{args args':List SV}{ι:Type}{Q:ι→Prop}{res:ι→ST}{post:ι→MM}(h:r5 P f pre args Q res post)(hl:vP args' args):r5 P f pre args' Q res post:=
 ⟨h.ok,fun w M0 H Z vs dp hp=>h.calls w M0 H Z vs dp (vP.rep hl hp)⟩
theorem Kb{q:ByteArray}{l:List fe}{i:Nat}(h:i < l.length)(g:fe)(hg:gS q l[i]=g):(((l.take i).map (gS q)++l.drop i).map fe.cs).set i g.cs=((l.take (i+1)).map (gS q)++l.drop (i+1)).map fe.cs:=by
 subst hg;exact Gu (gS q) fe.cs l i h
def M8(n:Nat)(x:Int):Nat:=(IntKind.i64.wrap ((IntKind.u64.wrap x).tmod (IntKind.u64.wrap (n:Int)))).toNat
theorem G6{n:Nat}(h1:1≤n)(h:n≤100000000)(x:Int):IntKind.i64.wrap ((IntKind.u64.wrap x).tmod (IntKind.u64.wrap (n:Int)))=(M8 n x:Int)∧M8 n x < n∧IntKind.u64.wrap (n:Int)≠0:=by
 have hw:IntKind.u64.wrap (n:Int)=(n:Int):=tf (by omega) (by omega)
 have hr:=PU (x:=x) (n:=(n:Int)) (by omega) (by omega)
 have hi:IntKind.i64.wrap ((IntKind.u64.wrap x).tmod (n:Int))=(IntKind.u64.wrap x).tmod (n:Int):=IntWalk.i64_in _ (by omega)
 unfold M8
 rw[hw,hi]
 omega
def PY(l:List Mv)(x:Int):Mv:=(l[M8 l.length x]?).getD ⟨0,0,⟨#[]⟩⟩
theorem M9{l:List Mv}(h1:1≤l.length)(h:l.length≤100000000)(x:Int):(l.map Mv.cs)[M8 l.length x]? =some (PY l x).cs∧PY l x∈l:=by
 obtain⟨_,hl,_⟩:=G6 h1 h x
 constructor
 ·simp[PY,hl]
 ·unfold PY;rw[aa hl];exact az hl
theorem Cd{b:Bk}{roles:List ByteArray}{s:jd}(h:fa b roles s=true):(c9 b roles s).length≤5000000:=by
 unfold c9
 rw[if_pos h]
 have h1:=so (mi (ow h)) roles s roles.length
 have h2:=(ki h).2.1
 omega
theorem Rl{b:Bk}{roles:List ByteArray}{s:jd}{m:Mv}(h:m∈c9 b roles s):dy Tryz.prog 28 [] [Ag b.cs,C1 (bh roles),Ag s.cs,Ag m.cs] (.gE [Ag (qW b roles s m).cs,C1 (.int .i64 0)]) []:=by
 have hM:=(ov h).1
 have hc:=Rk b roles s m (mi (ow hM))
 rw[show IT b roles s m=(qW b roles s m,0) by unfold IT;rw[if_neg (by rw[hM];simp),if_neg (by simpa using h)]]at hc
 exact hc
abbrev Sm(jK:List Int)(k:Nat):TM:=[(1,.v (C1 (cA jK))),(9,.v (.one (.ptr 9 0))),(15,.v (.one (.ptr 15 0))),(17,.v (C1 (.int .i64 (k:Int))))]
abbrev Sn(b:Bk)(s:jd):MM:=[(15,.box [.c (cA s.at_),.c (jL s.bY)]),(9,.box [.c (jV b.nodes),.c (bh b.names),.c (cA b.roots)])]
set_option maxHeartbeats 32000000 in
theorem iN(made jK:List Int)(gx:made.length * 8≤140737488355328):dy Tryz.prog 8 [] [C1 (cA made),C1 (cA jK)] (Rv (.bool true)) []:=by
 have N9:=(NA fY [] (by simp) made 0 (aM _)).Rw (args':=[.one (.ptr given 0),C1 (.str fY),C1 .bK]) (.cons (.one (.refl _)) (.cons (.one (.refl _)) (.cons (.one (.c (.nil 1))) .nil)))
 obtain⟨NP,Uc,hlen⟩:=KH (name:=fY) (types:=[]) (fun t h=>by cases h) (by simp) made 0
 have TT:∀t∈(vE fY [] made 0).1.turns,∀a∈t.aP,a.kind < 5:=tn _
 obtain⟨q,hq⟩:∃q,q=(vE fY [] made 0).2:=⟨_,rfl⟩
 rw[←hq]at N9
 obtain⟨a,ha⟩:∃a,a=(vE fY [] made 0).1:=⟨_,rfl⟩
 have TW:a.name=fY:=by rw[ha];rfl
 rw[←ha]at N9 hlen NP Uc TT
 clear ha hq
 obtain⟨l,hl⟩:∃l,l=xU vf a:=⟨_,rfl⟩
 have hv:c7 l=true:=by rw[hl];exact EE (by decide) NP
 have h1:jb vf l:=by rw[hl];exact BX _ _
 have hn:l.name=fY:=by rw[hl];exact TW
 have AO:∀t∈l.turns,∃u∈a.turns,t.aP=u.aP:=fun t ht=>by
  rw[hl]at ht
  obtain⟨u,hu,rfl⟩:=aE.1 (show t∈a.turns.map (gS vf)from ht)
  exact⟨u,hu,BW _ _⟩
 have hc:∀t∈l.turns,∀x∈t.aP,x.kind < 5:=fun t ht x hx=>by
  obtain⟨u,hu,e⟩:=AO t ht
  rw[e]at hx;exact TT u hu x hx
 have hB:iv l:=fun t ht x hx=>by
  obtain⟨u,hu,e⟩:=AO t ht
  rw[e]at hx;exact Uc u hu x hx
 have U8:iv (dk l):=fun t ht x hx=>by
  obtain⟨u,hu,rfl⟩:=aE.1 (show t∈(bj l).turns.map (fS sn)from ht)
  rw[lT]at hx
  exact Gi hB u hu x hx
 have Oa:l.cs=[.str fY,gi (a.turns.map (gS vf))]:=by rw[hl,←TW];rfl
 have Uo:=Sz l hB sn
 rw[(Ni h1 hv (by decide) (by decide)).2,Oa]at Uo
 have Up:=(OW [] [l,dk l] (fun p hp=>by cases hp) (fun p hp=>by cases hp) (fun m hm=>by
  rcases ae.1 hm with rfl|hm
  ·exact hB
  ·rw[aH]at hm;subst hm;exact U8)).args (args':=[C1 .bK,C1 (dx [l,dk l])]) (.cons (.one (.c (.nil 3))) (.cons (.one (.refl _)) .nil))
 rw[Nj (Ab hv hn hc),wT hv]at Up
 obtain⟨hP,hM,hL⟩:=KD hv hn hc h1
 have hG:=HA hv h1
 have FX:=(fp (gW hv)).1
 have QG:([bj l,dk l].map Loc.name)=[fY,j9]:=by show[l.name,j9]=_;rw[hn]
 have Vd:=GF (cM [bj l,dk l]) fY (by have:=mD [bj l,dk l];exact dN this (show 2≤1000000 by decide))
 have Vc:=GF (cM [bj l,dk l]) j9 (by have:=mD [bj l,dk l];exact dN this (show 2≤1000000 by decide))
 rw[BF hP,QG,if_pos (by decide)]at Vd Vc
 have U1:Bt.map (fun r=>eV [bj l,dk l] (oQ l r).name)=[eV [bj l,dk l] fY,eV [bj l,dk l] j9]:=by
  show[eV _ (oQ l sn).name,eV _ (oQ l vf).name]=_
  rw[jX,jW,show(bj l).name=fY from hn];rfl
 have gw:=HC hP (roles:=Bt) (by decide) (by decide) (by decide) hM
 have dQ:=GD hL gw J
 rw[U1]at gw dQ
 have Rq:=D9 (cM [bj l,dk l]) nh [eV [bj l,dk l] fY,eV [bj l,dk l] j9] (by simp)
 rw[show kP (cM [bj l,dk l]) nh [eV [bj l,dk l] fY,eV [bj l,dk l] j9]=(nj 2 [eV [bj l,dk l] fY,eV [bj l,dk l] j9],0) by unfold kP;rw[if_neg (by decide)];exact if_pos gw]at Rq
 have hA:∀r∈Bt,(0:Int)=0∧(0:Int)≤0∧(0:Int) < ((bj l).turns.length:Int):=fun _ _=>⟨rfl,Int.le_refl _,by omega⟩
 have AA:∀s,(∃w c,Bm (cM [bj l,dk l]) Bt (oQ l) (fun r=>eV [bj l,dk l] (oQ l r).name) s w c)→fa (cM [bj l,dk l]) Bt s=true∧(nv (cM [bj l,dk l]) Bt s=true∨c9 (cM [bj l,dk l]) Bt s≠[])∧
  ∀m∈c9 (cM [bj l,dk l]) Bt s,∃w c,Bm (cM [bj l,dk l]) Bt (oQ l) (fun r=>eV [bj l,dk l] (oQ l r).name) (qW (cM [bj l,dk l]) Bt s m) w c:=fun s ⟨w,c,hr⟩=>⟨hr.may,hr.free hL hG hA,fun m hm=>hr.step hL hm⟩
 have mS:∃w c,Bm (cM [bj l,dk l]) Bt (oQ l) (fun r=>eV [bj l,dk l] (oQ l r).name) (nj 2 [eV [bj l,dk l] fY,eV [bj l,dk l] j9]) w c:=⟨_,_,dQ⟩
 have UG:(dk l).cs=[.str j9,gi (lz sn l).turns]:=rfl
 rw[show dx [l,dk l]=.slice false 2 [[.str fY,gi (a.turns.map (gS vf))],[.str j9,gi (lz sn l).turns]] by show CT.slice false 2 [l.cs,(dk l).cs]=_;rw[Oa,UG]]at Up
 have QD:(lz sn l).cs=[.str (lz sn l).name,gi (lz sn l).turns]:=rfl
 rw[QD]at Uo
 clear Oa UG QD hv h1 AO hc hB U8 NP Uc TT hl TW U1 dQ gw hP hM hL hG hA QG FX
 obtain⟨R,hR,Ov⟩:∃R:jd→Prop,(∀s,R s→fa (cM [bj l,dk l]) nh s=true∧(nv (cM [bj l,dk l]) nh s=true∨c9 (cM [bj l,dk l]) nh s≠[])∧∀m∈c9 (cM [bj l,dk l]) nh s,R (qW (cM [bj l,dk l]) nh s m))∧R (nj 2 [eV [bj l,dk l] fY,eV [bj l,dk l] j9]):=⟨_,AA,mS⟩
 clear AA mS
 generalize cM [bj l,dk l]=B at *
 generalize eV [bj l,dk l] fY=r1 at *
 generalize eV [bj l,dk l] j9=r2 at *
 generalize lz sn l=m at *
 refine bd (c:=_) Tryz.func8 rfl rfl rfl (by decide) fun w M0 H Z=>?_
 refine gl 1 J fun vJ=>?_
 simp only[aw]at vJ
 repeat'(first|(exfalso;revert hb;simp;done)|refine bH J ?_|(refine al ?_;refine aj th J ?_)|(refine au mix J J ?_;refine ak th J ?_)|(refine ao mix J J ?_;refine ay th J ?_)|refine SOps.nil ?_|refine DOps.nil ?_|refine EOps.nil ?_ rfl rfl|((first|refine aq J J ?_ ?_|refine av J J J ?_ ?_|refine aU J ?_ ?_)<;>intro hb<;>(try simp only[aF]at hb)<;>first|(exfalso;omega)|refine aj th J ?_|refine ak th J ?_|skip)|((first|refine aS Ft [] J J J J J J J J J J ?_|refine JW (P2 made (by omega)) J J J J J J J ?_|refine qa N9 [(given,24)] J J J J ⟨rfl,trivial⟩ ⟨rfl,rfl,rfl,rfl,rfl⟩ (fun _=>⟨rfl,rfl,rfl,rfl,rfl,rfl,rfl⟩) (fun _=>rfl) (fun _=>rfl) J J J (fun v _=>?_));refine aj th J ?_))
 refine OH 200 201 5 1 J J J J J J J J ?_
 refine bE (fun i:Nat=>i≤a.turns.length)
  (fun i=>[(1,.v (C1 (cA jK))),(5,.v (.one (.ptr 5 0))),(6,.v (C1 (.int .i64 (i:Int))))])
  (fun i=>[(5,.box [.c (.str fY),.own 201]),(201,.arr false 39 3 (((a.turns.take i).map (gS vf)++a.turns.drop i).map fe.cs))])
  (fun i=>a.turns.length - i) 0 (aM _)
  (fun a w h=>h.sub (by exact⟨⟨_,rfl,.refl _⟩,⟨_,rfl,.refl _⟩,⟨_,rfl,aC J⟩,trivial⟩) (by exact⟨⟨_,rfl,.refl _⟩,⟨_,rfl,dd J⟩,trivial⟩) J J J) (fun i hi ih=>?_)
 by_cases bo:i < a.turns.length
 ·have hx:=HB (gS vf) fe.cs a.turns i bo
  have mT:((((a.turns.take i).map (gS vf)++a.turns.drop i).map fe.cs).length:Int)=(a.turns.length:Int):=by simp;omega
  have hll2:((((a.turns.take i).map (gS vf)++a.turns.drop i)).length:Int)=(a.turns.length:Int):=by simp;omega
  have cS:=ih (i+1) bo (by omega)
  obtain⟨t,ht⟩:∃t,t=a.turns[i]:=⟨_,rfl⟩
  have HY:=fun g=>Kb (q:=vf) bo g
  rw[←ht]at hx HY
  clear ht ih
  repeat'(first|refine bH J ?_|(refine al ?_;refine aj th J ?_)|(refine au mix J J ?_;refine ak th J ?_)|(refine ao mix J J ?_;refine ay th J ?_)|refine SOps.nil ?_|refine DOps.nil ?_|refine EOps.nil ?_ rfl rfl|((first|refine aq J J ?_ ?_|refine av J J J ?_ ?_|refine aU J ?_ ?_)<;>intro hb<;>(try simp only[aF]at hb)<;>first|(exfalso;omega)|refine aj th J ?_|refine ak th J ?_|skip)|((first|(refine GB th J J J J J J J J J J i J (by simp;omega) ?_)|refine Dp th _ J J J J hx J J J J J ?_|refine zg th _ J J J J hx J J J J J J J ?_|refine bO J J J J J J (by omega) ?_);refine aj th J ?_))
  all_goals first
   |exact bJ (by exact⟨⟨_,rfl,.refl _⟩,⟨_,rfl,.refl _⟩,⟨_,rfl,aC (by omega)⟩,trivial⟩) (by exact⟨⟨_,rfl,.refl _⟩,⟨_,rfl,dd (HY ⟨t.kind,vf,t.aP⟩ (by unfold gS;rw[if_neg (by assumption)]))⟩,trivial⟩) J J J cS
   |exact bJ (by exact⟨⟨_,rfl,.refl _⟩,⟨_,rfl,.refl _⟩,⟨_,rfl,aC (by omega)⟩,trivial⟩) (by exact⟨⟨_,rfl,.refl _⟩,⟨_,rfl,dd ((Gt hx).symm.trans (HY t (by unfold gS;rw[if_pos (by assumption)])))⟩,trivial⟩) J J J cS
 ·clear ih
  rw[ek (by omega),List.drop_of_length_le (by omega),cV]
  repeat'((fail_if_success refine Rc 9 J ?_);first|refine bH J ?_|(refine al ?_;refine aj th J ?_)|(refine au mix J J ?_;refine ak th J ?_)|(refine ao mix J J ?_;refine ay th J ?_)|refine SOps.nil ?_|refine DOps.nil ?_|refine EOps.nil ?_ rfl rfl|((first|refine aq J J ?_ ?_|refine av J J J ?_ ?_|refine aU J ?_ ?_)<;>intro hb<;>(try simp only[aF]at hb)<;>first|(exfalso;omega)|refine aj th J ?_|refine ak th J ?_|skip))
  refine dZ 201 J J ?_
  repeat'(first|(exfalso;revert hb;simp;done)|refine bH J ?_|(refine al ?_;refine aj th J ?_)|(refine au mix J J ?_;refine ak th J ?_)|(refine ao mix J J ?_;refine ay th J ?_)|refine SOps.nil ?_|refine DOps.nil ?_|refine EOps.nil ?_ rfl rfl|((first|refine aq J J ?_ ?_|refine av J J J ?_ ?_|refine aU J ?_ ?_)<;>intro hb<;>(try simp only[aF]at hb)<;>first|(exfalso;omega)|refine aj th J ?_|refine ak th J ?_|skip)|((first|refine aS Uo [] J J J J J J J J J J ?_|(refine nq 54 J J ?_;refine L3 54 (.v (C1 (.slice false 2 [[.str fY,gi (a.turns.map (gS vf))],[.str j9,gi m.turns]]))) J (.v (.one (.c (.nn true 2 _)))) ?_;refine aS Up [] J J J J J J J J J J ?_)|refine aS Vd [] J J J J J J J J J J ?_|refine aS Vc [] J J J J J J J J J J ?_);refine aj th J ?_)|((first|refine iY C2 J J J J J J J ?_|refine MG th J J J J J J J J J J J J (.nn true 1 _) ?_|refine iY Rq J J J J J J J ?_);refine ay th J ?_))
  refine qx (fun(k:Nat) (s:jd)=>k≤jK.length∧k≤60∧R s) (fun k _=>Sm jK k) (fun _ s=>Sn B s) (fun k _=>jK.length - k) 0 (nj 2 [r1,r2]) ⟨aM _,by omega,Ov⟩
   (fun a w h=>h.sub (by exact⟨⟨_,rfl,.refl _⟩,⟨_,rfl,.refl _⟩,⟨_,rfl,.refl _⟩,⟨_,rfl,aC J⟩,trivial⟩) (by exact⟨⟨_,rfl,.refl _⟩,⟨_,rfl,.refl _⟩,trivial⟩) J J J) (fun k s hk ih=>?_)
  obtain⟨hk,hk60,hs⟩:=hk
  obtain⟨hM,uH,JE⟩:=hR s hs
  have hfew:=Cd hM
  have KY:=s5 B nh s (mi (ow hM))
  have Po:=Hf B nh s
  by_cases cj:c9 B nh s=[]
  ·rw[cj]at KY
   rw[uH.resolve_right (fun h=>h cj)]at Po
   clear ih JE
   by_cases bo:k < jK.length∧k < 60
   all_goals
    repeat'(first|(exfalso;revert hb;simp;done)|(exfalso;simp only[aw]at hb;omega)|refine bH J ?_|(refine al ?_;refine aj th J ?_)|(refine au mix J J ?_;refine ak th J ?_)|(refine ao mix J J ?_;refine ay th J ?_)|refine SOps.nil ?_|refine DOps.nil ?_|refine EOps.nil ?_ rfl rfl|((first|refine aq J J ?_ ?_|refine av J J J ?_ ?_|refine aU J ?_ ?_)<;>intro hb<;>(try simp only[aF]at hb)<;>first|(exfalso;omega)|refine aj th J ?_|refine ak th J ?_|skip)|((first|refine dq C2 [] J J J J J J J J J J J ?_|refine dq KY [] J J J J J J J J J J J ?_|refine dq Po [] J J J J J J J J J J J ?_);refine ak th J ?_))
    all_goals
     refine aT th Tryz.func8 (.inr ⟨_,rfl⟩) J J J ?_ rfl
     exact .refl _
  ·have FX:1≤(c9 B nh s).length:=fq.2 cj
   by_cases bo:k < jK.length∧k < 60
   ·obtain⟨bo,QK⟩:=bo
    have hx:(jK.map fun r=>[CT.int .i64 r])[k]? =some [.int .i64 jK[k]]:=by simp[bo]
    obtain⟨VL,NY⟩:=M9 FX (by omega) jK[k]
    obtain⟨rL,mZ,VK⟩:=G6 FX (by omega) jK[k]
    have TG:=Rl NY
    have cS:=ih (k+1) (qW B nh s (PY (c9 B nh s) jK[k])) ⟨bo,QK,JE _ NY⟩ (by omega)
    clear ih JE
    have S7:IntKind.i64.wrap ((IntKind.u64.wrap jK[k]).tmod (IntKind.u64.wrap (((c9 B nh s).map Mv.cs).length:Int)))=(M8 (c9 B nh s).length jK[k]:Int):=by rw[aw];exact rL
    have S5:IntKind.u64.wrap (((c9 B nh s).map Mv.cs).length:Int)≠0:=by rw[aw];exact VK
    repeat'(first|(exfalso;revert hb;simp;done)|(exfalso;simp only[aw]at hb;omega)|refine bH J ?_|(refine al ?_;refine aj th J ?_)|(refine au mix J J ?_;refine ak th J ?_)|(refine ao mix J J ?_;refine ay th J ?_)|refine SOps.nil ?_|refine DOps.nil ?_|refine EOps.nil ?_ rfl rfl|((first|refine aq J J ?_ ?_|refine av J J J ?_ ?_|refine aU J ?_ ?_)<;>intro hb<;>(try simp only[aF]at hb)<;>first|(exfalso;omega)|refine aj th J ?_|refine ak th J ?_|skip)|((first|refine dq C2 [] J J J J J J J J J J J ?_|refine dq KY [] J J J J J J J J J J J ?_);refine ak th J ?_)|((first|refine iY C2 J J J J J J J ?_|refine iC th J J J J J J J J J k _ J hx ?_|refine Ri J J J J J J S5 ?_|refine iC th J J J J J J J J J (M8 (c9 B nh s).length jK[k]) _ S7 VL ?_|refine iY TG J J J J J J J ?_);refine ay th J ?_)|(refine bO J J J J J J (by omega) ?_;refine aj th J ?_))
    all_goals
     exact bJ (by exact⟨⟨_,rfl,.refl _⟩,⟨_,rfl,.refl _⟩,⟨_,rfl,.refl _⟩,⟨_,rfl,aC (by omega)⟩,trivial⟩) (by exact⟨⟨_,rfl,.refl _⟩,⟨_,rfl,.refl _⟩,trivial⟩) J J J cS
   ·clear ih JE
    repeat'(first|(exfalso;revert hb;simp;done)|(exfalso;simp only[aw]at hb;omega)|refine bH J ?_|(refine al ?_;refine aj th J ?_)|(refine au mix J J ?_;refine ak th J ?_)|(refine ao mix J J ?_;refine ay th J ?_)|refine SOps.nil ?_|refine DOps.nil ?_|refine EOps.nil ?_ rfl rfl|((first|refine aq J J ?_ ?_|refine av J J J ?_ ?_|refine aU J ?_ ?_)<;>intro hb<;>(try simp only[aF]at hb)<;>first|(exfalso;omega)|refine aj th J ?_|refine ak th J ?_|skip)|((first|refine dq C2 [] J J J J J J J J J J J ?_|refine dq KY [] J J J J J J J J J J J ?_|refine dq Po [] J J J J J J J J J J J ?_);refine ak th J ?_))
    all_goals
     refine aT th Tryz.func8 (.inr ⟨_,rfl⟩) J J J ?_ rfl
     first|exact .refl _|exact fi (by simp)
end Go.Sy
