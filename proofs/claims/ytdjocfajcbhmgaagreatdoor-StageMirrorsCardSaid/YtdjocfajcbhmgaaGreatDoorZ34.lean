/- The plain law of freedom: a stage whose roles stand at types of one whole, and what each said and heard. -/
import Derived.Test.YtdjocfajcbhmgaaGreatDoorZ33
import Derived.Test.YtdjocfajcbhmgaaGreatDoorBl1
import Derived.Test.YtdjocfajcbhmgaaGreatDoorZ26
import Derived.Test.YtdjocfajcbhmgaaGreatDoorGk
set_option linter.unusedSimpArgs false
set_option linter.unusedVariables false
set_option linter.unusedSectionVars false
namespace Go.Sy
theorem tg{l:Loc}(hv:c7 l=true):∀(w:List ByteArray) {t c:Int},0≤t∧t < (l.turns.length:Int)→gN l.g t w=some c→0≤c∧c < (l.turns.length:Int)
 |[],t,c,h,hw=>by rw[gN]at hw;injection hw with hw;subst hw;exact h
 |s::w,t,c,h,hw=>by
  obtain⟨a,ha,hw⟩:=kz hw
  have:=(mQ hv).1 t a (qC ha).1
  rw[show l.g.length=l.turns.length by simp[Loc.g]]at this
  exact tg hv w this hw
theorem om{roles:List ByteArray}(h:roles.Nodup){i j:Nat}(hi:i < roles.length)(hj:j < roles.length)(e:roles[i]=roles[j]):i=j:=by
 have:=bm.1 (bA.1 h)
 rcases cv i j with h3|h3|h3
 ·exact absurd e (this i j hi hj h3)
 ·exact h3
 ·exact absurd e.symm (this j i hj hi h3)
theorem qe{roles:List ByteArray}(h:roles.Nodup){i:Nat}(hi:i < roles.length):dw roles roles[i]=(i:Int):=by
 obtain⟨k,hk,e,he⟩:=oh (az hi)
 rw[e,om h hk hi he]
structure LX(b:Bk)(roles:List ByteArray)(M:ByteArray→Loc)(base:ByteArray→Int):Prop where
 once:roles.Nodup
 may:∀r∈roles,c7 (M r)=true
 low:∀r∈roles,0≤base r
 nd:∀r∈roles,∀t:Int,0≤t→t < ((M r).turns.length:Int)→∃x,b.nodes[(base r+t).toNat]? =some x∧x.kind=(bn (M r) t).kind∧x.peer=(bn (M r) t).peer∧
  x.aP.map (fun e=>(e.label,e.next))=(bn (M r) t).aP.map fun a=>(a.label,base r+a.next)
 peer:∀r∈roles,∀t:Int,0≤t→t < ((M r).turns.length:Int)→(bn (M r) t).kind≠0→(bn (M r) t).peer∈roles∧(bn (M r) t).peer≠r
structure Bm(b:Bk)(roles:List ByteArray)(M:ByteArray→Loc)(base:ByteArray→Int)(s:jd)(w:ByteArray→List ByteArray)(c:ByteArray→Int):Prop where
 may:fa b roles s=true
 at_:∀i (h:i < roles.length),s.at_[i]? =some (base roles[i]+c roles[i])
 walk:∀r∈roles,gN (M r).g 0 (w r)=some (c r)
 bY:∀i j (hi:i < roles.length) (hj:j < roles.length),i≠j→fV (M roles[i]) 1 roles[j] 0 (w roles[i])=fV (M roles[j]) 2 roles[i] 0 (w roles[j])++cf s (i * roles.length+j)
 own:∀i,i < roles.length→cf s (i * roles.length+i)=[]
section
variable {b:Bk} {roles:List ByteArray} {M:ByteArray→Loc} {base:ByteArray→Int} {s:jd} {w:ByteArray→List ByteArray} {c:ByteArray→Int}
theorem Bm.range(h:LX b roles M base)(hr:Bm b roles M base s w c){r:ByteArray}(hm:r∈roles):0≤c r∧c r < ((M r).turns.length:Int):=by
 have:=(fp (h.may r hm)).1
 exact tg (h.may r hm) _ (by omega) (hr.walk r hm)
theorem Bm.node(h:LX b roles M base)(hr:Bm b roles M base s w c){i:Nat}(hi:i < roles.length):(cG b s i).kind=(bn (M roles[i]) (c roles[i])).kind∧(cG b s i).peer=(bn (M roles[i]) (c roles[i])).peer∧
 (cG b s i).aP.map (fun e=>(e.label,e.next))=(bn (M roles[i]) (c roles[i])).aP.map fun a=>(a.label,base roles[i]+a.next):=by
 have hm:=az hi
 obtain⟨h0,h1⟩:=hr.range h hm
 obtain⟨x,hx,k1,k2,k3⟩:=h.nd _ hm _ h0 h1
 have:cG b s i=x:=by
  unfold cG vj
  rw[hr.at_ i hi,jT,hx];rfl
 rw[this];exact⟨k1,k2,k3⟩
theorem Bm.zero(h:LX b roles M base)(hr:Bm b roles M base s w c){i:Nat}(hi:i < roles.length)(h0:(cG b s i).kind=0):(bn (M roles[i]) (c roles[i])).aP=[]:=by
 have hm:=az hi
 obtain⟨r0,r1⟩:=hr.range h hm
 have hk:=(hr.node h hi).1
 have:=ml (h.may _ hm) _ (od ⟨r0,r1⟩)
 unfold gd at this
 rw[if_pos (by rw[←hk];exact h0)]at this
 simp only[ax,eQ]at this
 exact this.2
theorem Bm.peer(h:LX b roles M base)(hr:Bm b roles M base s w c){i:Nat}(hi:i < roles.length)(h0:(cG b s i).kind≠0):∃j,∃hj:j < roles.length,j≠i∧(bn (M roles[i]) (c roles[i])).peer=roles[j]∧iz b roles s i=(j:Int):=by
 have hm:=az hi
 obtain⟨r0,r1⟩:=hr.range h hm
 obtain⟨k1,k2,_⟩:=hr.node h hi
 obtain⟨p1,p2⟩:=h.peer _ hm _ r0 r1 (by rw[←k1];exact h0)
 obtain⟨j,hj,e⟩:=aB.1 p1
 have jc:j≠i:=fun e2=>p2 (by rw[←e];congr 1)
 refine⟨j,hj,jc,e.symm,?_⟩
 unfold iz
 rw[k2,←e,qe h.once hj,if_neg (by omega)]
theorem ON{l:Loc}(hv:c7 l=true){t:Int}{a:bM}(ha:a∈(bn l t).aP):ma l t a.label=some a:=by
 unfold ma
 rw[cg]
 have hn:=(mQ hv).2.2 t
 rw[cg]at hn
 cases hf:(bn l t).aP.find? fun b=>decide (b.label=a.label)with
 |none=>have:=iD.1 hf a ha;simp at this
 |some b=>
  have hb:=vT hf
  have hm:=j4 hf
  rw[wR hn hm ha (by simpa using hb)]
theorem tz{r:Nat}{label:ByteArray}:∀{aP:List Edge} {at_:List Int} {e:Edge},(aP.map Edge.label).Nodup→e∈aP→e.label=label→e9 r label at_ aP=at_.set r e.next
 |a::l,at_,e,hn,he,hl=>by
  rw[bF,iJ]at hn
  have hs:e9 r label at_ (a::l)=e9 r label (if a.label=label then at_.set r a.next else at_) l:=rfl
  rw[hs]
  rcases ae.1 he with rfl|he
  ·rw[if_pos hl]
   have fO:∀(l:List Edge) (at_:List Int),(∀x∈l,x.label≠label)→e9 r label at_ l=at_:=by
    intro l
    induction l with
    |nil=>intro at_ _;rfl
    |cons x l ih=>
     intro at_ hx
     have hs:e9 r label at_ (x::l)=e9 r label (if x.label=label then at_.set r x.next else at_) l:=rfl
     rw[hs,if_neg (hx x ah)]
     exact ih _ fun y hy=>hx y (ab _ hy)
   exact fO l _ fun x hx e2=>hn.1 (by rw[hl,←e2];exact bQ hx)
  ·rw[if_neg (fun e2=>hn.1 (by rw[e2,←hl];exact bQ he))]
   exact tz hn.2 he hl
theorem G8{l:List Edge}{m:List bM}{k:Int}(h:l.map (fun e=>(e.label,e.next))=m.map fun a=>(a.label,k+a.next)){e:Edge}(he:e∈l):∃a∈m,a.label=e.label∧e.next=k+a.next:=by
 have:(e.label,e.next)∈m.map fun a=>(a.label,k+a.next):=by rw[←h];exact bQ he
 obtain⟨a,ha,e2⟩:=aE.1 this
 injection e2 with h1 h2
 exact⟨a,ha,h1,h2.symm⟩
theorem ED{l:List Edge}{m:List bM}{k:Int}(h:l.map (fun e=>(e.label,e.next))=m.map fun a=>(a.label,k+a.next)){a:bM}(ha:a∈m):∃e∈l,e.label=a.label∧e.next=k+a.next:=by
 have:(a.label,k+a.next)∈l.map fun e=>(e.label,e.next):=by rw[h];exact bQ ha
 obtain⟨e,he,e2⟩:=aE.1 this
 injection e2 with h1 h2
 exact⟨e,he,h1,h2⟩
theorem G9{l:List Edge}{m:List bM}{k:Int}(h:l.map (fun e=>(e.label,e.next))=m.map fun a=>(a.label,k+a.next)):l.map Edge.label=m.map bM.label:=by
 have:=congrArg (List.map Prod.fst) h
 rw[dA,dA]at this
 exact this
theorem J9{n i j k m:Nat}(hj:j < n)(hm:m < n)(h:i * n+j=k * n+m):i=k∧j=m:=by
 have h1:(i * n+j) / n=i:=by rw[vk,Nat.mul_add_div (by omega),jU hj,lI]
 have h2:(k * n+m) / n=k:=by rw[vk,Nat.mul_add_div (by omega),jU hm,lI]
 have:i=k:=by rw[←h1,←h2,h]
 subst this
 exact⟨rfl,by omega⟩
theorem Bm.step(h:LX b roles M base)(hr:Bm b roles M base s w c){m:Mv}(hm:m∈c9 b roles s):∃w' c',Bm b roles M base (qW b roles s m) w' c':=by
 have QJ:=Nx hm
 obtain⟨hM,i,j,hc⟩:=ov hm
 obtain⟨n1,n5,Fm,vJ,w7⟩:=ki hM
 have hi:=hc.lt
 have hj:=hc.MV
 have RX:=az hi
 obtain⟨k1,k2,k3⟩:=hr.node h hi
 have Mo:(cG b s i).kind≠0:=by rcases hc.kind with⟨_,e,_⟩|⟨_,e,_⟩<;>omega
 obtain⟨j',AI,jc,rL,RU⟩:=hr.peer h hi Mo
 have:j'=j:=by rw[hc.peer]at RU;omega
 subst this
 obtain⟨e,he,Q1⟩:=hc.arm
 obtain⟨a,ha,TX,Wd⟩:=G8 k3 he
 have hf:ma (M roles[i]) (c roles[i]) m.label=some a:=by rw[←Q1,←TX];exact ON (h.may _ RX) ha
 have fO:((cG b s i).aP.map Edge.label).Nodup:=by
  rw[G9 k3]
  have:=(mQ (h.may _ RX)).2.2 (c roles[i])
  rwa [cg]at this
 have Fk:(qW b roles s m).at_=s.at_.set i (base roles[i]+a.next):=by rw[IS hc,tz fO he Q1,Wd]
 obtain⟨w',Jv⟩:∃w':ByteArray→List ByteArray,w'=fun r=>if r=roles[i]then w r++[m.label]else w r:=⟨_,rfl⟩
 obtain⟨c',yR⟩:∃c':ByteArray→Int,c'=fun r=>if r=roles[i]then a.next else c r:=⟨_,rfl⟩
 have wi:w' roles[i]=w roles[i]++[m.label]:=by rw[Jv];exact if_pos J
 have ci:c' roles[i]=a.next:=by rw[yR];exact if_pos J
 have wo:∀k (hk:k < roles.length),k≠i→w' roles[k]=w roles[k]:=fun k hk kS=>by
  rw[Jv];exact if_neg fun e=>kS (om h.once hk hi e)
 have co:∀k (hk:k < roles.length),k≠i→c' roles[k]=c roles[k]:=fun k hk kS=>by
  rw[yR];exact if_neg fun e=>kS (om h.once hk hi e)
 clear Jv yR
 have Ff:∀(K:Int) (q:ByteArray),fV (M roles[i]) K q 0 (w' roles[i])=fV (M roles[i]) K q 0 (w roles[i])++(if(bn (M roles[i]) (c roles[i])).kind=K∧(bn (M roles[i]) (c roles[i])).peer=q then[m.label]else[]):=fun K q=>by
  rw[wi,wm _ (hr.walk _ RX) hf]
 have Fg:gB b roles s m < s.bY.length:=by rw[vJ];exact hc.St
 have Mk:∀q,cf (qW b roles s m) q=if q=gB b roles s m then ka b roles s m else cf s q:=fun q=>by
  have:=ui (a:=(qW b roles s m).at_) Fg (ka b roles s m) q
  exact this
 have QQ:=hc.ka
 refine⟨w',c',QJ,fun k hk=>?_,fun r KT=>?_,fun k l hk hl kl=>?_,fun k hk=>?_⟩
 ·rw[Fk]
  by_cases kS:k=i
  ·subst kS
   rw[List.getElem?_set_self (by omega),ci]
  ·rw[List.getElem?_set_ne (Ne.symm kS),co k hk kS];exact hr.at_ k hk
 ·obtain⟨k,hk,rfl⟩:=aB.1 KT
  by_cases kS:k=i
  ·subst kS
   rw[wi,ci];exact vW _ (hr.walk _ RX) hf
  ·rw[wo k hk kS,co k hk kS];exact hr.walk _ KT
 ·have h0:=hr.bY k l hk hl kl
  rw[Mk]
  rcases QQ with⟨kk,bo,DT⟩|⟨kk,rest,FT,DT⟩
  ·
   have DR:(bn (M roles[i]) (c roles[i])).kind=1:=by
    rcases hc.kind with⟨_,e,_⟩|⟨e,_⟩
    ·rw[←k1];exact e
    ·omega
   have hq:gB b roles s m=i * roles.length+j':=by
    rcases hc.queue with⟨_,e⟩|⟨e,_⟩
    ·exact e
    ·omega
   have AD:∀(x:Nat) (hx:x < roles.length) (q:ByteArray),fV (M roles[x]) 2 q 0 (w' roles[x])=fV (M roles[x]) 2 q 0 (w roles[x]):=fun x hx q=>by
    by_cases NM:x=i
    ·subst NM;rw[Ff,if_neg (by rw[DR];simp),cV]
    ·rw[wo x hx NM]
   rw[AD l hl]
   by_cases kS:k=i∧l=j'
   ·obtain⟨rfl,rfl⟩:=kS
    rw[if_pos hq.symm,DT,Ff,if_pos ⟨DR,rL⟩,h0,hq,br]
   ·rw[if_neg (by rw[hq];intro e;exact kS (J9 hl hj e))]
    by_cases AG:k=i
    ·subst AG
     rw[Ff,if_neg (fun e=>kS ⟨rfl,om h.once hl hj (by rw[←e.2,rL])⟩),cV];exact h0
    ·rw[wo k hk AG];exact h0
  ·
   have s9:(bn (M roles[i]) (c roles[i])).kind=2:=by
    rcases hc.kind with⟨e,_⟩|⟨_,e,_⟩
    ·omega
    ·rw[←k1];exact e
   have hq:gB b roles s m=j' * roles.length+i:=by
    rcases hc.queue with⟨e,_⟩|⟨_,e⟩
    ·omega
    ·exact e
   have FR:∀(x:Nat) (hx:x < roles.length) (q:ByteArray),fV (M roles[x]) 1 q 0 (w' roles[x])=fV (M roles[x]) 1 q 0 (w roles[x]):=fun x hx q=>by
    by_cases NM:x=i
    ·subst NM;rw[Ff,if_neg (by rw[s9];simp),cV]
    ·rw[wo x hx NM]
   rw[FR k hk]
   by_cases kS:k=j'∧l=i
   ·obtain⟨rfl,rfl⟩:=kS
    rw[if_pos hq.symm,DT,Ff,if_pos ⟨s9,rL⟩,h0,←hq,FT,br];rfl
   ·rw[if_neg (by rw[hq];intro e;exact kS (J9 hl hi e))]
    by_cases AG:l=i
    ·subst AG
     rw[Ff,if_neg (fun e=>kS ⟨om h.once hk hj (by rw[←e.2,rL]),rfl⟩),cV];exact h0
    ·rw[wo l hl AG];exact h0
 ·rw[Mk,if_neg]
  ·exact hr.own k hk
  ·intro e
   rcases hc.queue with⟨_,e2⟩|⟨_,e2⟩
   ·rw[e2]at e;have:=J9 hk hj e;omega
   ·rw[e2]at e;have:=J9 hk hi e;omega
theorem Bm.free{X:Type}{At:ByteArray→X→Int→Prop}(h:LX b roles M base)(hG:Pa roles M At){x0:X}(hA:∀r∈roles,At r x0 0)(hr:Bm b roles M base s w c):nv b roles s=true∨c9 b roles s≠[]:=by
 obtain⟨n1,n5,Fm,vJ,w7⟩:=ki hr.may
 obtain⟨bY,DV⟩:∃bY:ByteArray→ByteArray→List ByteArray,∀i j,(hi:i < roles.length)→(hj:j < roles.length)→bY roles[i] roles[j]=cf s (i * roles.length+j):=
  ⟨fun r q=>cf s ((dw roles r).toNat * roles.length+(dw roles q).toNat),fun i j hi hj=>by simp only;rw[qe h.once hi,qe h.once hj];rfl⟩
 have uH:=Fp hG _ x0 (fun _=>0) w c bY (aA _) hA hr.walk fun r KT q S2 cj=>by
  obtain⟨i,hi,rfl⟩:=aB.1 KT
  obtain⟨j,hj,rfl⟩:=aB.1 S2
  rw[DV i j hi hj]
  exact hr.bY i j hi hj fun e=>cj (by subst e;rfl)
 rcases uH with⟨hz,N8⟩|⟨r,KT,q,S2,cj,rL,Q4⟩
 ·left
  unfold nv
  rw[hr.may,bT,ax]
  refine⟨aV.2 fun i hi=>?_,?_⟩
  ·have FZ:=cc.1 hi
   have US:i < roles.length:=by omega
   have:=(hr.node h US).1
   simp only[decide_eq_true_eq]
   rw[this];exact hz _ (az US)
  ·rw[Bool.not_eq_true',eo]
   intro m hm
   obtain⟨q,hq,rfl⟩:=aB.1 hm
   have VQ:0 < roles.length:=by omega
   have Qt:q < roles.length * roles.length:=by omega
   have lC:q / roles.length < roles.length:=Nat.div_lt_of_lt_mul Qt
   have Qs:q % roles.length < roles.length:=vl _ VQ
   have vg:q / roles.length * roles.length+q % roles.length=q:=Nat.div_add_mod' q _
   have VW:cf s q=s.bY[q]:=by unfold cf;rw[aa hq];rfl
   have:cf s q=[]:=by
    by_cases hd:q / roles.length=q % roles.length
    ·have:=hr.own _ lC
     rw[←vg]
     rw[←hd];exact this
    ·have:=N8 _ (az lC) _ (az Qs) (fun e=>hd (om h.once lC Qs e))
     rw[DV _ _ lC Qs,vg]at this;exact this
   rw[←VW,this];simp
 ·right
  obtain⟨i,hi,rfl⟩:=aB.1 KT
  obtain⟨j,hj,rfl⟩:=aB.1 S2
  obtain⟨k1,k2,k3⟩:=hr.node h hi
  have jc:i≠j:=fun e=>cj (by subst e;rfl)
  have RU:iz b roles s i=(j:Int):=by
   unfold iz
   rw[k2,rL,qe h.once hj,if_neg (by omega)]
  have K1:∀a∈(bn (M roles[i]) (c roles[i])).aP,∃e∈(cG b s i).aP,e.label=a.label:=fun a ha=>by
   obtain⟨e,he,h1,_⟩:=ED k3 ha
   exact⟨e,he,h1⟩
  rcases Q4 with⟨hk,N5,DT⟩|⟨hk,z,rest,a,DT,hf⟩
  ·rw[cg]at N5
   obtain⟨a,ha⟩:=qY _ N5
   obtain⟨e,he,Q1⟩:=K1 a ha
   have hc:jo b roles s ⟨1,i,e.label⟩ i j:=⟨hi,hj,Ne.symm jc,rfl,RU,.inl ⟨rfl,by rw[k1];exact hk,by rw[←DV i j hi hj,DT];simp⟩,e,he,rfl⟩
   exact List.ne_nil_of_mem (z7 hr.may hc)
  ·obtain⟨h1,h2⟩:=qC hf
   rw[cg]at h1
   obtain⟨e,he,Q1⟩:=K1 a h1
   have hc:jo b roles s ⟨2,i,z⟩ i j:=⟨hi,hj,Ne.symm jc,rfl,RU,.inr ⟨rfl,by rw[k1];exact hk,rest,by rw[←DV j i hj hi];exact DT⟩,e,he,by rw[Q1];exact h2⟩
   exact List.ne_nil_of_mem (z7 hr.may hc)
end
theorem FF{L:List Loc}(hP:mI L){roles:List ByteArray}(ho:roles.Nodup){M:ByteArray→Loc}(hM:∀r∈roles,M r∈L)
 (rL:∀r∈roles,∀t∈(M r).turns,t.kind≠0→t.peer∈roles∧t.peer≠r):LX (cM L) roles M fun r=>eV L (M r).name:=by
 refine⟨ho,fun r hr=>hP.may _ (hM r hr),fun r hr=>?_,fun r hr t h0 h1=>?_,fun r hr t h0 h1 hk=>rL r hr _ (od ⟨h0,h1⟩) hk⟩
 ·obtain⟨i,hi,e⟩:=aB.1 (hM r hr)
  show 0≤eV L (M r).name
  rw[←e,yB hP.nodup hi];omega
 ·refine⟨_,I8 hP (hM r hr) h0 h1,rfl,rfl,?_⟩
  show((bn (M r) t).aP.map _).map _=_
  rw[dA];rfl
theorem Mc(n q:Nat)(roots:List Int):cf (nj n roots) q=[]:=by
 unfold cf nj
 simp only
 rw[gM]
 split<;>rfl
theorem GD{b:Bk}{roles:List ByteArray}{M:ByteArray→Loc}{base:ByteArray→Int}(hl:LX b roles M base){roots:List Int}(hM:fa b roles (nj roles.length roots)=true)(hr:roots=roles.map base):
 Bm b roles M base (nj roles.length roots) (fun _=>[]) fun _=>0:=by
 refine⟨hM,fun i hi=>?_,fun r _=>rfl,fun i j hi hj _=>?_,fun i _=>Mc _ _ _⟩
 ·show roots[i]? =_
  rw[hr,aI,aa hi];simp
 ·rw[Mc];rfl
theorem HC{L:List Loc}(hP:mI L){roles:List ByteArray}(ho:roles.Nodup)(h1:1≤roles.length)(h5:roles.length≤5){M:ByteArray→Loc}(hM:∀r∈roles,M r∈L):fa (cM L) roles (nj roles.length (roles.map fun r=>eV L (M r).name))=true:=by
 refine DK (xr hP) h1 h5 (Hm ho) (by simp[nj]) (by simp[nj]) (fun v hv=>?_) fun m hm=>?_
 ·obtain⟨r,hr,rfl⟩:=aE.1 (show v∈roles.map _ from hv)
  have hlen:(cM L).nodes.length=fI L:=im L
  rw[hlen]
  exact pJ hP.nodup (fun l hl=>(fp (hP.may l hl)).1) (bQ (hM r hr))
 ·rw[(List.mem_replicate.1 (show m∈List.replicate _ _ from hm)).2];simp
end Go.Sy
