/- Layer: fields of elements of a pool's rows; a literal becomes a pool within a region; what lies in pools is told by a row of one's own. -/
import Derived.Test.YtdjocfajcbhmgaaGreatDoorZ13
import Derived.Test.YtdjocfajcbhmgaaGreatDoorBu1
set_option linter.unusedSimpArgs false
set_option linter.unusedVariables false
set_option linter.unusedSectionVars false
namespace Go.Sy
open Go.RowKit
section
variable {C:Ctx} {n:Nat} {tm:TM} {mm:MM} {o:Oper} {d:Nat}
theorem EI{Θ:da}(bt:a8 C.P Θ){t:TypeId}{ti:fN}{x y:Operand}{i k j off e sz:Nat}{qs:PQ}{v:Value}{xs:List (List CT)}{s:SV}{cs x0 x1:List CT}
 (ho:o.op=.store t x y)(ht:aP Θ t=some ti)(hx:aQ tm x=some (.c (.val (lL v (j * sz+off)))))(hi:getM mm i=some (.bF e sz qs))(hk:qs[k]? =some (v,xs))(hj:xs[j]? =some x0)
 (hy:cx tm y=some s)(hc:iG s.cells=some cs)(cM:Nat.beq cs.length ti.size=true)(yp:gl x0 off cs=some x1)(GQ:s.cells.all SC.known=true)(iJ:Nat.blt i given=true)(gA:eD i mm=true)(hd:o.dst=none):
 xX C n o tm mm (jF i tm) (cS mm i (.bF e sz (qs.set k (v,xs.set j x1)))):=by
 intro a w ⟨H,Z,hm⟩
 obtain⟨inf,de,hf⟩:=gI bt ht
 obtain⟨hH,c6⟩:=hm.mem _ (aT hi)
 have c6:eF w (cO C H mm) e sz qs:=c6
 obtain⟨us,dH,hlen,cC⟩:=c6.row hk
 have C5:=aV.gH (aU hm hx)
 obtain⟨OA,WL⟩:=jo yp
 have fg:j < xs.length:=(ai.1 hj).1
 have Iq:x0.length=sz:=hlen x0 (aj hj)
 have sC:cs.length=ti.size:=aJ cM
 obtain⟨c1,c2⟩:=(c8 hm hy).cells hm GQ
 have xa:Pw (fun u c=>aV w (cO C H mm) u c) (a.eval y).cells.toList cs:=
  iF hc ⟨by simpa using c1,fun j c hc=>let⟨u,hu,_,hr⟩:=c2 j c hc;⟨u,by simpa using hu,hr⟩⟩
 have uU:∀v∈(a.eval y).cells.toList,v.oneCell'=true:=by
  intro v hv
  obtain⟨j,hj,R1⟩:=aC.1 hv
  have fg:j < cs.length:=by rw[←xa.1];exact hj
  obtain⟨u,hu,hr⟩:=xa.2 j cs[j] (aa fg)
  rw[aa hj,R1]at hu
  injection hu with hu
  rw[hu];exact hr.one
 have jB:(a.eval y).cells.toList.length=cs.length:=xa.1
 rcases dH.2 with⟨_,h0⟩|⟨g,cap,cur,hv,UN,qv,jC,kL,yv,ob⟩
 ·omega
 subst hv
 simp only[lL,jJ,fq]at C5
 have Qq:j * sz+sz≤xs.length * sz:=by
  have:=br sz (show j+1≤xs.length from fg)
  rw[ec]at this;omega
 have Qv:xs.length * sz≤cap * sz:=br _ jC
 obtain⟨p,hp⟩:∃p,p=j * sz+off:=⟨_,rfl⟩
 have M3:p+cs.length≤j * sz+sz:=by omega
 rw[←hp]at C5
 have dL:=run_storeCells_at (P:=C.P) g p e (a.eval y).cells.toList 0 cur w qv (by rw[jB,yv];omega) uU
 have mS:(a.eval y).cells.size=ti.size:=by rw[←sC,←jB];simp
 have jh:=setRow_heap w g cur (cur.toList.take (p+0)++(a.eval y).cells.toList++cur.toList.drop (p+0+(a.eval y).cells.toList.length)).toArray e (0,0) qv
 have dy:=ll w g (cur.toList.take (p+0)++(a.eval y).cells.toList++cur.toList.drop (p+0+(a.eval y).cells.toList.length)).toArray
 generalize Jc:w.setRow g (cur.toList.take (p+0)++(a.eval y).cells.toList++cur.toList.drop (p+0+(a.eval y).cells.toList.length)).toArray=w' at jh dy dL
 have uo:(Value.slice (some ⟨g,0,none⟩) xs.length cap,xs)∈qs:=aj hk
 have GJ:us=cur.toList.take (xs.length * sz):=ob.symm
 have Dk:cur.toList.length=cap * sz:=by simpa using yv
 refine .inr ⟨w',?_,Sy.jV H i (gg (qs.set k (.slice (some ⟨g,0,none⟩) xs.length cap,xs.set j x1))),Z,?_⟩
 ·simp only[execOp,ho,C5,Instr.storeAt,Instr.sureAddr,storeVar,Sem.run_bind,Sem.run_pure,Result.andThen_ok,hf.sizeOf,mS,ne_eq,not_true,if_false,dL]
 ·rw[hd]
  refine hm.vb hi (a6.mp iJ) gA (dy.yb fun b _ hb=>⟨_,uo,by rw[hb];rfl⟩) (by simpa[Act.put]using hm.defers) (by simp[Act.put,hm.size]) ?_ ?_ ?_
  ·intro q hq b dS
   rcases dt hq with hq|rfl
   ·exact .inl ⟨q,hq,dS⟩
   ·exact .inl ⟨_,uo,dS⟩
  ·intro M' iP gb
   have Fc:x1.length=sz:=by rw[OA,au,au,aO,dV,Iq];omega
   refine c6.set hk ⟨us.take p++(a.eval y).cells.toList++us.drop (p+cs.length),⟨?_,.inr ⟨g,cap,_,by simp,UN,jh,by simpa using jC,kL,?_,?_⟩⟩,fun q hq=>?_,fun l q hq m ct qh=>?_⟩ dy.size
    (fun b hb cV=>dy.block b hb (fun e=>cV (by rw[e];rfl))) gb iP (fun b hb=>.inl hb)
   ·have qf:=dH.1
    rw[au,au,aO,dV,jB,qf,gO];omega
   ·rw[tT,au,au,aO,dV,jB,Dk];omega
   ·simp only[gO,qA]
    rw[oy (by rw[jB];omega) (by omega),ob,jB]
   ·rcases dt hq with hq|rfl
    ·exact hlen q hq
    ·exact Fc
   ·have qf:us.length=xs.length * sz:=dH.1
    rw[cv]at hq
    have De:∀{q:List CT},q.length=sz→q[m]? =some ct→m < sz:=fun h1 h2=>by rw[←h1];exact(ai.1 h2).1
    have fy:∀{r u},us[r]? =some u→(r < p∨p+cs.length≤r)→(us.take p++(a.eval y).cells.toList++us.drop (p+cs.length))[r]? =some u:=by
     intro r u hu hr
     have BF:=(ai.1 hu).1
     rcases hr with hr|hr
     ·rw[bf,aw (by rw[aO];omega),bU,if_pos hr]
      exact hu
     ·rw[aN (by rw[au,aO,jB];omega),cf]
      rw[←hu];congr 1;rw[au,aO,jB];omega
    split at hq
    ·rename_i Ly;subst Ly
     injection hq with hq;subst hq
     have Iv:=De Fc qh
     by_cases Iu:m < off∨off+cs.length≤m
     ·have Sa:x0[m]? =some ct:=by
       rw[OA]at qh
       rcases Iu with Iu|Iu
       ·rw[bf,aw (by rw[aO];omega),bU,if_pos Iu]at qh
        exact qh
       ·rw[aN (by rw[au,aO];omega),cf]at qh
        rw[←qh];congr 1;rw[au,aO];omega
      obtain⟨u,hu,hr⟩:=cC j x0 hj m ct Sa
      exact⟨u,fy hu (by omega),aV.mono hr dy.size gb iP⟩
     ·have R9:cs[m - off]? =some ct:=by
       rw[OA,aw (by rw[au,aO];omega),aN (by rw[aO];omega)]at qh
       rw[←qh];congr 1;rw[aO];omega
      obtain⟨u,hu,hr⟩:=xa.2 (m - off) ct R9
      refine⟨u,?_,aV.mono hr dy.size gb iP⟩
      rw[aw (by rw[au,aO,jB,qf];omega),aN (by rw[aO,qf];omega)]
      rw[←hu];congr 1;rw[aO,qf];omega
    ·rename_i Ly
     have hl:l < xs.length:=(ai.1 hq).1
     have Iv:=De (hlen q (aj hq)) qh
     obtain⟨u,hu,hr⟩:=cC l q hq m ct qh
     refine⟨u,fy hu ?_,aV.mono hr dy.size gb iP⟩
     rcases bJ l j with bj|UM
     ·have hle:l * sz+sz≤j * sz:=by
       have:=br sz (show l+1≤j from bj)
       rw[ec]at this;omega
      omega
     ·have hle:j * sz+sz≤l * sz:=by
       have:=br sz (show j+1≤l by omega)
       rw[ec]at this;omega
      omega
  ·intro p hp
   obtain⟨h1,h2⟩:=ja hp
   exact .inl ⟨p,h1,rfl,rfl,h2⟩
theorem HS{Θ:da}(bt:a8 C.P Θ){t:TypeId}{z cz:Nat}{ag:Bool}{zr:Option (List CT)}{fs:List (Nat×Nat)}{x:Operand}{k off:Nat}{v:Value}{i c q e sz:Nat}{qs:PQ}{xs:List (List CT)}
 (ho:o.op=.fieldAddr t x k)(ht:aP Θ t=some ⟨z,cz,ag,zr,.struct fs⟩)(hx:aQ tm x=some (.c (.val (lL v q))))(hi:getM mm i=some (.bF e sz qs))(hc:qs[c]? =some (v,xs))(Ur:0 < xs.length)(hk:ga fs k=some off)
 (hd:o.dst=some d)(hn:Nat.blt d n=true):
 ea C n o tm mm d (.v (.one (.c (.val (lL v (q+off)))))):=
 ea.val hd hn _ fun H Z a w hm=>by
  obtain⟨inf,de,hf⟩:=gI bt ht
  have C5:=aV.gH (aU hm hx)
  obtain⟨hH,c6⟩:=hm.mem _ (aT hi)
  have c6:eF w (cO C H mm) e sz qs:=c6
  obtain⟨us,g1,_⟩:=c6.row hc
  obtain⟨ad,hv,cC⟩:∃ad:Addr,a.eval x=.pointer (some ad)∧aV w (cO C H mm) (.pointer (some (ad.add off))) (.val (lL v (q+off))):=by
   rcases g1.2 with⟨_,h0⟩|⟨b,cap,cur,rfl,rest⟩
   ·omega
   refine⟨_,C5,?_⟩
   simp only[lL]
   rw[add_add]
   exact aV.val _ J
  have A4:=hf.sh
  cases de<;>simp only[dA]at A4<;>try(cases A4;done)
  rename_i fields
  simp only[av]at A4
  obtain⟨s1,s2⟩:=A4
  have R6:fields.toList.map (fun f=>(f.offset,f.type))=fs:=by simpa using s1
  have fy:∀(l:List (Nat×Nat)) (q:Nat) (o':Nat),ga l q=some o'→∃t',l[q]? =some (o',t'):=by
   intro l
   induction l with
   |nil=>intro q o' h;cases q<;>simp[ga]at h
   |cons p l ih=>
    intro q o' h
    obtain⟨p1,p2⟩:=p
    cases q with
    |zero=>simp[ga]at h;subst h;exact⟨p2,rfl⟩
    |succ q=>simp[ga]at h;simpa using ih q o' h
  obtain⟨t',Ir⟩:=fy fs k off hk
  rw[←R6]at Ir
  simp at Ir
  obtain⟨f,LD,OQ,UO⟩:=Ir
  have Fp:C.P.cellsOf f.type≠0:=by
   have:=Array.all_eq_true.1 s2
   obtain⟨bj,Xd⟩:=bd.1 LD
   have:=this k bj
   rw[Xd]at this
   simpa using this
  have Fk:(fieldPlace ad f).run C.P w=.ok (ad.add f.offset) w:=by
   unfold fieldPlace
   unfold Program.cellsOf at Fp
   cases hq:C.P.info? f.type with
   |none=>rw[hq]at Fp;simp at Fp
   |some jn=>
    rw[hq]at Fp
    simp at Fp
    simp[sizeOf,typeInfo,hq,Fp]
  refine⟨.pointer (some (ad.add off)),?_,cC⟩
  simp[execOp,ho,hv,Instr.fieldAt,hf.underlying,LD,Instr.sureAddr,Fk,OQ]
end
section
variable {C:Ctx} {n:Nat} {tm:TM} {mm:MM} {L l:List Oper} {T:TM→MM→Prop} {o:Oper} {d:Nat} {x y:Operand}
end
inductive V5(sz:Nat)(qs:PQ):CT→CT→Prop
 |refl (c:CT):V5 sz qs c c
 |row {v:Value} {xs:List (List CT)} (h:(v,xs)∈qs):V5 sz qs (.val v) (.slice false sz xs)
inductive D4(sz:Nat)(qs:PQ):List CT→List CT→Prop
 |refl (l:List CT):D4 sz qs l l
 |cons {a b:CT} {x y:List CT} (h:V5 sz qs a b) (hr:D4 sz qs x y):D4 sz qs (a::x) (b::y)
inductive MS(sz:Nat)(qs:PQ):List (List CT)→List (List CT)→Prop
 |refl (l:List (List CT)):MS sz qs l l
 |cons {a b:List CT} {x y:List (List CT)} (h:D4 sz qs a b) (hr:MS sz qs x y):MS sz qs (a::x) (b::y)
theorem D4.get{sz:Nat}{qs:PQ}:∀{x y:List CT},D4 sz qs x y→x.length=y.length∧∀(j:Nat) (c:CT),y[j]? =some c→∃b,x[j]? =some b∧V5 sz qs b c
 |_,_,.refl l=>⟨rfl,fun j c h=>⟨c,h,.refl c⟩⟩
 |_,_,.cons h hr=>by
  obtain⟨h1,h2⟩:=hr.get
  refine⟨by simp[h1],fun j c hc=>?_⟩
  cases j with
  |zero=>simp at hc;subst hc;exact⟨_,by simp,h⟩
  |succ j=>simpa using h2 j c (by simpa using hc)
theorem MS.get{sz:Nat}{qs:PQ}:∀{xs ys:List (List CT)},MS sz qs xs ys→xs.length=ys.length∧∀(i:Nat) (y:List CT),ys[i]? =some y→∃x,xs[i]? =some x∧D4 sz qs x y
 |_,_,.refl l=>⟨rfl,fun j c h=>⟨c,h,.refl c⟩⟩
 |_,_,.cons h hr=>by
  obtain⟨h1,h2⟩:=hr.get
  refine⟨by simp[h1],fun j c hc=>?_⟩
  cases j with
  |zero=>simp at hc;subst hc;exact⟨_,by simp,h⟩
  |succ j=>simpa using h2 j c (by simpa using hc)
section
variable {C:Ctx} {n:Nat} {tm:TM} {mm:MM}
theorem Has.O8{a:Act}{w:World}(i j:Nat){e sz e' Nf:Nat}{qs:PQ}{v:Value}{rows:List (List CT)}(yW:List (List CT))(km:Nat.beq i j=false)(hi:getM mm i=some (.bF e sz qs))(iJ:Nat.blt i given=true)(hj:getM mm j=some (.bF e' Nf [(v,rows)]))
 (gA:eD i mm=true)(qX:gn i tm=true)(GN:MS sz qs rows yW)(h:Has C n tm mm a w):
 Has C n tm (cS (fO [i] mm) j (.bF e' Nf [(v,yW)])) a w:=by
 refine h.xu km hi iJ hj gA qX fun I I' H Z w M M' hI hM hp hn dX=>?_
 obtain⟨h1,h2,h3⟩:=dX
 refine⟨h1,fun k q hq=>?_,fun k l q r hq hr j7=>?_⟩
 ·cases k with
  |zero=>
   simp at hq;subst hq
   obtain⟨us,g1,g2,g3⟩:=h2 0 (v,rows) J
   obtain⟨k1,k2⟩:=GN.get
   refine⟨us,by rw[←k1];exact g1,fun x hx=>?_,fun k y hy m c hc=>?_⟩
   ·obtain⟨k,hk,rfl⟩:=aC.1 hx
    obtain⟨x0,Iq,Fc⟩:=k2 k _ (aa hk)
    rw[←Fc.get.1];exact g2 x0 (aj Iq)
   ·obtain⟨x0,Iq,Fc⟩:=k2 k y hy
    obtain⟨b,hb,ZR⟩:=Fc.get.2 m c hc
    obtain⟨u,hu,hr⟩:=g3 k x0 Iq m b hb
    cases ZR with
    |refl=>exact⟨u,hu,hr.mono (ay _) (fun _ _ _=>rfl) hM⟩
    |row hq=>
     have:u=_:=aV.gH hr
     subst this
     obtain⟨q,Qh⟩:=List.mem_iff_getElem?.1 hq
     exact⟨_,hu,(hp.row (k:=q) Qh).frozen hM (hn _ hq)⟩
  |succ k=>simp at hq
 ·cases k with
  |zero=>
   cases l with
   |zero=>exact absurd J j7
   |succ l=>simp at hr
  |succ k=>simp at hq
variable {f:FuncId} {R:Ending→World→Prop} {k:List Item}
theorem IH(i j:Nat){e sz e' Nf:Nat}{qs:PQ}{v:Value}{rows:List (List CT)}(yW:List (List CT))(km:Nat.beq i j=false)(hi:getM mm i=some (.bF e sz qs))(iJ:Nat.blt i given=true)(hj:getM mm j=some (.bF e' Nf [(v,rows)]))
 (gA:eD i mm=true)(qX:gn i tm=true)(GN:MS sz qs rows yW)(g:Goes C f n R k tm (cS (fO [i] mm) j (.bF e' Nf [(v,yW)]))):Goes C f n R k tm mm:=
 g.mono fun _ _ h=>h.O8 i j yW km hi iJ hj gA qX GN
end
section
variable {C:Ctx} {n:Nat} {L l:List Oper} {o:Oper} {d:Nat}
variable {ι:Type} {cN:TM} {ET:Nat→ι→TM} {MMx:Nat→ι→MM} {k:Nat} {x:ι}
theorem G6{Θ:da}(bt:a8 C.P Θ){s:ST}(hv:vE Θ (aX (aI L o) (cN++ET k x)) (MMx k x) o.op=some s)(hd:o.dst=some d)(hn:Nat.blt d n=true)(hg:aY L (aX (aI L o) (cN++ET k x)) o=some true)(M4:E6 d cN=true)
 (vr:ET (k+1) x=[(d,s)])(hM:MMx (k+1) x=MMx k x):lF C n L cN ET MMx k x o:=SF (jU bt hv hd hn).Em hg M4 vr hM
end
section
variable {C:Ctx} {n:Nat} {L l:List Oper} {tm cq:TM} {E:List Nat} {i:Nat} {mmf:Nat→MM} {TF:TM→Prop} {o:Oper} {d:Nat} {x:Operand}
theorem U4{p q:Operand}{ty rk:TypeId}{a b:Int}(ho:o.op=.binOp .add ty p q rk)(hx:aQ (aX (aI L o) tm) p=some (.c (.int .i64 a)))(hy:aQ (aX (aI L o) tm) q=some (.c (.int .i64 b)))(hd:o.dst=some d)(hn:Nat.blt d n=true)(hg:aY L (aX (aI L o) tm) o=some true)(lg:eV E i=false)
 (m:Int)(hm:a+b=m)(hr:-9223372036854775808≤m∧m≤9223372036854775807)(k:FOps C n mmf L cq E (i+1) l ((d,.v (.one (.c (.int .i64 m))))::bo tm d) TF):FOps C n mmf L cq E i (o::l) tm TF:=by
 subst hm
 exact L3 (fun mm'=>iE (p:=.add) ho hx hy (IntWalk.i64_in _ hr) hd hn) lg hg hd k
end
section
variable {C:Ctx} {n:Nat} {L:List Oper} {tm:TM}
theorem Ai.nil{ι:Type}{cN:TM}{ET:Nat→ι→TM}{m:Nat}:Ai L cN ET m []:=trivial
end
section
variable {C:Ctx} {f:FuncId} {n:Nat} {R:Ending→World→Prop} {k:List Item} {tm:TM} {mm:MM}
end
end Go.Sy
