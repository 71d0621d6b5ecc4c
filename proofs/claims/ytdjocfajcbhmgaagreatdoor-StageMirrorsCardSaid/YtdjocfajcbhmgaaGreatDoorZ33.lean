/- The plain law of freedom: roles that follow types of one whole never all wait for each other. -/
import Derived.Test.YtdjocfajcbhmgaaGreatDoorBl1
import Derived.Test.YtdjocfajcbhmgaaGreatDoorZ30
set_option linter.unusedSimpArgs false
set_option linter.unusedVariables false
set_option linter.unusedSectionVars false
namespace Go.Sy
def ma(l:Loc)(t:Int)(s:ByteArray):Option bM:=(cP l.g t).find? fun a=>decide (a.label=s)
def fV(l:Loc)(k:Int)(q:ByteArray):Int→List ByteArray→List ByteArray
 |_,[]=>[]
 |t,s::w=>match ma l t s with
  |none=>[]
  |some a=>(if(bn l t).kind=k∧(bn l t).peer=q then[s]else[])++fV l k q a.next w
theorem gr{l:Loc}{k:Int}{q:ByteArray}{t:Int}{s:ByteArray}{w:List ByteArray}{a:bM}(h:ma l t s=some a):
 fV l k q t (s::w)=(if(bn l t).kind=k∧(bn l t).peer=q then[s]else[])++fV l k q a.next w:=by rw[fV,h]
theorem kz{l:Loc}{t c:Int}{s:ByteArray}{w:List ByteArray}(h:gN l.g t (s::w)=some c):∃a,ma l t s=some a∧gN l.g a.next w=some c:=by
 rw[gN]at h
 unfold ma
 cases hf:(cP l.g t).find? fun a=>decide (a.label=s)with
 |none=>rw[hf]at h;cases h
 |some a=>rw[hf]at h;exact⟨a,rfl,h⟩
theorem qC{l:Loc}{t:Int}{s:ByteArray}{a:bM}(h:ma l t s=some a):a∈cP l.g t∧a.label=s:=
 ⟨j4 h,by simpa using vT h⟩
theorem wm{l:Loc}{k:Int}{q s:ByteArray}{a:bM}:∀(w:List ByteArray) {t c:Int},gN l.g t w=some c→ma l c s=some a→
 fV l k q t (w++[s])=fV l k q t w++(if(bn l c).kind=k∧(bn l c).peer=q then[s]else[])
 |[],t,c,h,hf=>by
  rw[gN]at h;injection h with h;subst h
  rw[cw,gr hf];simp[fV]
 |z::w,t,c,h,hf=>by
  obtain⟨b,hb,h⟩:=kz h
  rw[cX,gr hb,gr hb,wm w h hf,br]
theorem vW{l:Loc}{s:ByteArray}{a:bM}:∀(w:List ByteArray) {t c:Int},gN l.g t w=some c→ma l c s=some a→gN l.g t (w++[s])=some a.next
 |[],t,c,h,hf=>by
  rw[gN]at h;injection h with h;subst h
  unfold ma at hf
  rw[cw,gN,hf];rfl
 |z::w,t,c,h,hf=>by
  rw[gN]at h
  rw[cX,gN]
  split at h
  ·cases h
  ·exact vW w h hf
def Pa{X:Type}(roles:List ByteArray)(M:ByteArray→Loc)(At:ByteArray→X→Int→Prop):Prop:=
 ∀(x:X) (t:ByteArray→Int),(∀r∈roles,At r x (t r))→
  (∀r∈roles,(bn (M r) (t r)).kind=0∧cP (M r).g (t r)=[])∨
  ∃s∈roles,∃q∈roles,s≠q∧((bn (M s) (t s)).kind=1∧(bn (M s) (t s)).peer=q∧cP (M s).g (t s)≠[])∧((bn (M q) (t q)).kind=2∧(bn (M q) (t q)).peer=s)∧
   ∀z a,ma (M s) (t s) z=some a→∃x' b,ma (M q) (t q) z=some b∧At s x' a.next∧At q x' b.next∧∀r∈roles,r≠s→r≠q→At r x' (t r)
def RH(roles:List ByteArray)(M:ByteArray→Loc)(c:ByteArray→Int)(bY:ByteArray→ByteArray→List ByteArray):Prop:=
 ((∀r∈roles,(bn (M r) (c r)).kind=0)∧∀r∈roles,∀q∈roles,r≠q→bY r q=[])∨
 ∃r∈roles,∃q∈roles,r≠q∧(bn (M r) (c r)).peer=q∧
  (((bn (M r) (c r)).kind=1∧cP (M r).g (c r)≠[]∧bY r q=[])∨((bn (M r) (c r)).kind=2∧∃s l a,bY q r=s::l∧ma (M r) (c r) s=some a))
theorem Gl{α:Type}{f g:α→Nat}:∀{l:List α},(∀r∈l,f r≤g r)→(l.map f).sum≤(l.map g).sum
 |[],_=>aA _
 |a::l,h=>by
  have h1:=h a ah
  have h2:=Gl (l:=l) fun r hr=>h r (ab _ hr)
  simp only[bF,nf];omega
theorem BB{α:Type}{f g:α→Nat}{s:α}:∀{l:List α},(∀r∈l,f r≤g r)→s∈l→f s < g s→(l.map f).sum < (l.map g).sum
 |a::l,h,hs,bo=>by
  have h1:=h a ah
  have h3:=fun r hr=>h r (ab a hr)
  simp only[bF,nf]
  rcases ae.1 hs with rfl|hs
  ·have h2:=Gl h3;omega
  ·have h2:=BB h3 hs bo;omega
theorem y6{α:Type}:∀(l:List α),(l.map fun _=>0).sum=0
 |[]=>rfl
 |_::l=>by rw[bF,nf,y6 l]
theorem El{l:Loc}{t c:Int}{w:List ByteArray}(ha:cP l.g t=[])(h:gN l.g t w=some c):w=[]∧c=t:=by
 cases w with
 |nil=>rw[gN]at h;injection h with h;exact⟨rfl,h.symm⟩
 |cons s w=>
  obtain⟨a,hf,_⟩:=kz h
  have:=(qC hf).1
  rw[ha]at this;cases this
theorem Fp{X:Type}{roles:List ByteArray}{M:ByteArray→Loc}{At:ByteArray→X→Int→Prop}(hG:Pa roles M At):
 ∀(n:Nat) (x:X) (t:ByteArray→Int) (w:ByteArray→List ByteArray) (c:ByteArray→Int) (bY:ByteArray→ByteArray→List ByteArray),(roles.map fun r=>(w r).length).sum≤n→
  (∀r∈roles,At r x (t r))→(∀r∈roles,gN (M r).g (t r) (w r)=some (c r))→
  (∀r∈roles,∀q∈roles,r≠q→fV (M r) 1 q (t r) (w r)=fV (M q) 2 r (t q) (w q)++bY r q)→RH roles M c bY:=by
 intro n
 induction n with
 |zero=>
  intro x t w c bY hn hA hW hF
  have hw:∀r∈roles,w r=[]:=fun r hr=>by
   by_cases he:w r=[]
   ·exact he
   ·have h0:0 < (w r).length:=fq.2 he
    have:=BB (f:=fun _=>0) (g:=fun r=>(w r).length) (fun r _=>aM _) hr h0
    have h2:=y6 roles
    omega
  have hc:∀r∈roles,c r=t r:=fun r hr=>by
   have:=hW r hr
   rw[hw r hr,gN]at this
   injection this with this;exact this.symm
  have hm:∀r∈roles,∀q∈roles,r≠q→bY r q=[]:=fun r hr q hq cj=>by
   have:=hF r hr q hq cj
   rw[hw r hr,hw q hq,fV,fV,cw]at this
   exact this.symm
  rcases hG x t hA with h|⟨s,hs,q,hq,cj,⟨h1,h2,h3⟩,_⟩
  ·exact .inl ⟨fun r hr=>by rw[hc r hr];exact(h r hr).1,hm⟩
  ·exact .inr ⟨s,hs,q,hq,cj,by rw[hc s hs];exact h2,.inl ⟨by rw[hc s hs];exact h1,by rw[hc s hs];exact h3,hm s hs q hq cj⟩⟩
 |succ n Vn=>
  intro x t w c bY hn hA hW hF
  rcases hG x t hA with h|⟨s,hs,q,hq,cj,⟨h1,h2,h3⟩,⟨h4,h5⟩,h6⟩
  ·have hw:∀r∈roles,w r=[]∧c r=t r:=fun r hr=>El (h r hr).2 (hW r hr)
   refine .inl ⟨fun r hr=>by rw[(hw r hr).2];exact(h r hr).1,fun r hr q hq cj=>?_⟩
   have:=hF r hr q hq cj
   rw[(hw r hr).1,(hw q hq).1,fV,fV,cw]at this
   exact this.symm
  ·have F2:=hF s hs q hq cj
   have Mw:=hW s hs
   cases NO:w s with
   |nil=>
    rw[NO,fV]at F2
    rw[NO,gN]at Mw
    injection Mw with Mw
    have hm:bY s q=[]:=(List.append_eq_nil_iff.1 F2.symm).2
    exact .inr ⟨s,hs,q,hq,cj,by rw[←Mw];exact h2,.inl ⟨by rw[←Mw];exact h1,by rw[←Mw];exact h3,hm⟩⟩
   |cons z ws=>
    rw[NO]at Mw F2
    obtain⟨a,ha,Ws⟩:=kz Mw
    obtain⟨x',b,hb,k1,k2,k3⟩:=h6 z a ha
    rw[gr ha,if_pos ⟨h1,h2⟩]at F2
    have Mx:=hW q hq
    cases Pk:w q with
    |nil=>
     rw[Pk,fV,cw]at F2
     rw[Pk,gN]at Mx
     injection Mx with Mx
     refine .inr ⟨q,hq,s,hs,Ne.symm cj,by rw[←Mx];exact h5,.inr ⟨by rw[←Mx];exact h4,z,_,b,F2.symm,by rw[←Mx];exact hb⟩⟩
    |cons z' wq=>
     rw[Pk]at Mx F2
     obtain⟨b',pP,Wr⟩:=kz Mx
     rw[gr pP,if_pos ⟨h4,h5⟩]at F2
     have hz:z=z':=by
      simp only[cX,cw,vU]at F2
      exact F2.1
     subst hz
     rw[hb]at pP
     injection pP with pP
     subst pP
     have UJ:¬q=s:=Ne.symm cj
     have WH:fV (M s) 1 q a.next ws=fV (M q) 2 s b.next wq++bY s q:=by
      simp only[cX,cw,vU]at F2
      exact F2.2
     obtain⟨t',DQ⟩:∃t':ByteArray→Int,t'=fun r=>if r=s then a.next else if r=q then b.next else t r:=⟨_,rfl⟩
     obtain⟨w',Jv⟩:∃w':ByteArray→List ByteArray,w'=fun r=>if r=s then ws else if r=q then wq else w r:=⟨_,rfl⟩
     have ts:t' s=a.next:=by rw[DQ];exact if_pos J
     have tq:t' q=b.next:=by rw[DQ];simp[UJ]
     have to:∀r,r≠s→r≠q→t' r=t r:=fun r n1 n2=>by rw[DQ];simp[n1,n2]
     have vs:w' s=ws:=by rw[Jv];exact if_pos J
     have vq:w' q=wq:=by rw[Jv];simp[UJ]
     have vo:∀r,r≠s→r≠q→w' r=w r:=fun r n1 n2=>by rw[Jv];simp[n1,n2]
     clear DQ Jv
     have e1:∀o,o≠q→fV (M s) 1 o (t s) (w s)=fV (M s) 1 o (t' s) (w' s):=fun o ho=>by
      rw[ts,vs,NO,gr ha,if_neg (fun e=>ho (by rw[←e.2,h2])),cw]
     have e2:∀o,fV (M s) 2 o (t s) (w s)=fV (M s) 2 o (t' s) (w' s):=fun o=>by
      rw[ts,vs,NO,gr ha,if_neg (fun e=>by rw[h1]at e;exact absurd e.1 (by decide)),cw]
     have e3:∀o,fV (M q) 1 o (t q) (w q)=fV (M q) 1 o (t' q) (w' q):=fun o=>by
      rw[tq,vq,Pk,gr hb,if_neg (fun e=>by rw[h4]at e;exact absurd e.1 (by decide)),cw]
     have e4:∀o,o≠s→fV (M q) 2 o (t q) (w q)=fV (M q) 2 o (t' q) (w' q):=fun o ho=>by
      rw[tq,vq,Pk,gr hb,if_neg (fun e=>ho (by rw[←e.2,h5])),cw]
     have f1:∀r o,(r=s→o≠q)→fV (M r) 1 o (t r) (w r)=fV (M r) 1 o (t' r) (w' r):=fun r o h=>by
      by_cases n1:r=s
      ·rw[n1];exact e1 o (h n1)
      ·by_cases n2:r=q
       ·rw[n2];exact e3 o
       ·rw[to r n1 n2,vo r n1 n2]
     have f2:∀r o,(r=q→o≠s)→fV (M r) 2 o (t r) (w r)=fV (M r) 2 o (t' r) (w' r):=fun r o h=>by
      by_cases n1:r=s
      ·rw[n1];exact e2 o
      ·by_cases n2:r=q
       ·rw[n2];exact e4 o (h n2)
       ·rw[to r n1 n2,vo r n1 n2]
     refine Vn x' t' w' c bY ?_ (fun r hr=>?_) (fun r hr=>?_) fun r hr o ho w7=>?_
     ·have:=BB (f:=fun r=>(w' r).length) (g:=fun r=>(w r).length) (l:=roles) (fun r _=>?_) hs (by rw[vs,NO];simp)
      ·omega
      ·by_cases n1:r=s
       ·rw[n1,vs,NO];simp
       ·by_cases n2:r=q
        ·rw[n2,vq,Pk];simp
        ·rw[vo r n1 n2];exact aA _
     ·by_cases n1:r=s
      ·rw[n1,ts];exact k1
      ·by_cases n2:r=q
       ·rw[n2,tq];exact k2
       ·rw[to r n1 n2];exact k3 r hr n1 n2
     ·by_cases n1:r=s
      ·rw[n1,ts,vs];exact Ws
      ·by_cases n2:r=q
       ·rw[n2,tq,vq];exact Wr
       ·rw[to r n1 n2,vo r n1 n2];exact hW r hr
     ·by_cases n1:r=s∧o=q
      ·obtain⟨rfl,rfl⟩:=n1
       rw[ts,vs,tq,vq];exact WH
      ·have h:=hF r hr o ho w7
       rw[f1 r o (fun e1 e2=>n1 ⟨e1,e2⟩),f2 o r (fun e1 e2=>n1 ⟨e2,e1⟩)]at h
       exact h
def JR(l:List Int)(r:Nat):Option Int→List Int
 |none=>l
 |some v=>l.set r v
theorem Gv(l:List Int){r q:Nat}(h:q≠r)(o:Option Int):(JR l r o)[q]? =l[q]? :=by
 cases o with
 |none=>rfl
 |some v=>simp[JR,List.getElem?_set_ne (Ne.symm h)]
theorem pf(r:Nat)(label:ByteArray):∀aP:List Edge,∃o:Option Int,(∀at_,e9 r label at_ aP=JR at_ r o)∧∀v,o=some v→∃a∈aP,a.next=v
 |[]=>⟨none,fun _=>rfl,fun v h=>by cases h⟩
 |a::l=>by
  obtain⟨o,h1,h2⟩:=pf r label l
  have hs:∀at_,e9 r label at_ (a::l)=e9 r label (if a.label=label then at_.set r a.next else at_) l:=fun _=>rfl
  by_cases ha:a.label=label
  ·cases o with
   |none=>
    refine⟨some a.next,fun at_=>by rw[hs,h1,if_pos ha];rfl,fun v hv=>⟨a,ah,by injection hv⟩⟩
   |some v=>
    refine⟨some v,fun at_=>by rw[hs,h1,if_pos ha];simp[JR],fun v' hv=>?_⟩
    obtain⟨x,hx,e⟩:=h2 v' hv
    exact⟨x,ab _ hx,e⟩
  ·refine⟨o,fun at_=>by rw[hs,h1,if_neg ha],fun v hv=>?_⟩
   obtain⟨x,hx,e⟩:=h2 v hv
   exact⟨x,ab _ hx,e⟩
theorem FG{b:Bk}(h:fH b=true){x:Nd}(hx:x∈b.nodes):∀a∈x.aP,0≤a.next∧a.next < (b.nodes.length:Int):=by
 have hn:j7 b.nodes.length x=true:=by
  simp only[fH,ax,aV]at h
  exact h.2.2.2 x hx
 intro a ha
 unfold j7 at hn
 split at hn
 ·simp only[ax,decide_eq_true_eq]at hn
  have:x.aP=[]:=b6 hn.2
  rw[this]at ha;cases ha
 ·simp only[ax]at hn
  have h5:=hn.2.2.2.2
  unfold u6 at h5
  rw[aV]at h5
  obtain⟨i,hi,rfl⟩:=aB.1 ha
  have:=h5 i (cc.2 hi)
  unfold tZ at this
  rw[aa hi]at this
  simp only[ax,decide_eq_true_eq]at this
  exact⟨this.2.2.1,this.2.2.2.1⟩
section
variable {b:Bk} {roles:List ByteArray} {s:jd}
theorem ow(h:fa b roles s=true):fH b=true:=by
 simp only[fa,ax]at h;exact h.1
theorem E2(h:fa b roles s=true):lR roles=true:=by
 simp only[fa,ax]at h;exact h.2.2.2.1
theorem DK(hb:fH b=true)(h1:1≤roles.length)(h5:roles.length≤5)(ho:lR roles=true)(ha:s.at_.length=roles.length)(hm:s.bY.length=roles.length * roles.length)
 (hr:∀v∈s.at_,0≤v∧v < (b.nodes.length:Int))(hl:∀m∈s.bY,m.length≤64):fa b roles s=true:=by
 simp only[fa,ax,decide_eq_true_eq,aV]
 refine⟨hb,h1,h5,ho,ha,hm,fun v hv=>by simpa[LH]using hr v hv,?_⟩
 simp only[Bool.not_eq_true',eo]
 intro m DT
 have:=hl m DT
 simp[wY];omega
theorem Gq{r:Nat}(h:vc b s r):cG b s r∈b.nodes:=by
 have h1:=h.lt
 have e:vj s r=(s.at_[r]).toNat:=by simp[vj,h1]
 have hl:(s.at_[r]).toNat < b.nodes.length:=by have:=h.ge;have:=h.le;omega
 simp[cG,e,hl]
theorem jo.mem{m:Mv}{r t:Nat}(h:jo b roles s m r t):m∈ey b roles s r:=by
 have h0:¬((t:Int) < 0):=by omega
 obtain⟨kind,role,label⟩:=m
 have AB:=h.role
 simp only at AB
 subst AB
 obtain⟨a,ha,Fm⟩:=h.arm
 simp only at Fm
 rcases h.kind with⟨hk,hn,hl⟩|⟨hk,hn,rest,hq⟩
 ·simp only at hk;subst hk
  simp only[ey,h.peer,h0,if_false,cZ]
  rw[if_pos ⟨hn,hl⟩]
  exact aE.2 ⟨a,ha,by rw[Fm]⟩
 ·simp only at hk hq;subst hk
  have DR:¬((cG b s r).kind=1∧(cf s (r * roles.length+t)).length < 64):=fun e=>by rw[hn]at e;simp at e
  simp only[ey,h.peer,h0,if_false,cZ]
  rw[if_neg DR,if_pos hn,hq]
  simp only
  rw[if_pos (cu.2 ⟨a,ha,by simpa using Fm⟩)]
  exact aH.2 rfl
theorem z7{m:Mv}{r t:Nat}(hM:fa b roles s=true)(h:jo b roles s m r t):m∈c9 b roles s:=by
 unfold c9
 rw[if_pos hM]
 exact bt.2 ⟨r,cc.2 h.lt,h.mem⟩
theorem jo.queue{m:Mv}{r t:Nat}(h:jo b roles s m r t):(m.kind=1∧gB b roles s m=r * roles.length+t)∨(m.kind=2∧gB b roles s m=t * roles.length+r):=by
 have hr:m.role.toNat=r:=by rw[h.role];simp
 have hp:wI b roles s r=t:=by rw[wI,h.peer];simp
 rcases h.kind with⟨hk,_⟩|⟨hk,_⟩
 ·exact .inl ⟨hk,by simp[gB,hk,hr,hp]⟩
 ·exact .inr ⟨hk,by simp[gB,hk,hr,hp]⟩
theorem jo.St{m:Mv}{r t:Nat}(h:jo b roles s m r t):gB b roles s m < roles.length * roles.length:=by
 have key:∀x y,x < roles.length→y < roles.length→x * roles.length+y < roles.length * roles.length:=fun x y hx hy=>by
  have:=bq roles.length (show x+1≤roles.length from hx)
  rw[dt]at this;omega
 rcases h.queue with⟨_,e⟩|⟨_,e⟩<;>rw[e]
 ·exact key _ _ h.lt h.MV
 ·exact key _ _ h.MV h.lt
theorem jo.ka{m:Mv}{r t:Nat}(h:jo b roles s m r t):(m.kind=1∧(cf s (gB b roles s m)).length < 64∧ka b roles s m=cf s (gB b roles s m)++[m.label])∨
 (m.kind=2∧∃rest,cf s (gB b roles s m)=m.label::rest∧ka b roles s m=rest):=by
 rcases h.kind with⟨hk,hn,hl⟩|⟨hk,hn,rest,hq⟩
 ·rcases h.queue with⟨_,e⟩|⟨h2,_⟩
  ·exact .inl ⟨hk,by rw[e];exact hl,by simp[Sy.ka,hk]⟩
  ·omega
 ·rcases h.queue with⟨h2,_⟩|⟨_,e⟩
  ·omega
  ·refine .inr ⟨hk,rest,by rw[e];exact hq,?_⟩
   have:¬(m.kind=1):=by omega
   rw[Sy.ka,if_neg this,e,hq];rfl
theorem IS{m:Mv}{r t:Nat}(h:jo b roles s m r t):(qW b roles s m).at_=e9 r m.label s.at_ (cG b s r).aP:=by
 have hr:m.role.toNat=r:=by rw[h.role];simp
 simp[qW,hr]
theorem ui{l:List (List ByteArray)}{a:List Int}{q:Nat}(hq:q < l.length)(m:List ByteArray)(i:Nat):cf ⟨a,l.set q m⟩ i=if i=q then m else cf ⟨a,l⟩ i:=by
 unfold cf
 by_cases h:i=q
 ·subst h;simp[hq]
 ·rw[if_neg h]
  simp only
  rw[List.getElem?_set_ne (Ne.symm h)]
theorem Nx{m:Mv}(h:m∈c9 b roles s):fa b roles (qW b roles s m)=true:=by
 obtain⟨hM,r,t,hc⟩:=ov h
 obtain⟨h1,h5,h3,h4,w7⟩:=ki hM
 have hb:=ow hM
 obtain⟨o,ho,hv⟩:=pf r m.label (cG b s r).aP
 have Fk:=IS hc
 refine DK hb h1 h5 (E2 hM) (by rw[Fk,pg];exact h3) (by simp[qW,h4]) (fun v Qb=>?_) (fun q hq=>?_)
 ·rw[Fk,ho]at Qb
  have hold:∀v∈s.at_,0≤v∧v < (b.nodes.length:Int):=fun v hv=>by
   obtain⟨i,hi,rfl⟩:=aB.1 hv
   have:=w7 i (by omega)
   exact⟨this.ge,this.le⟩
  cases o with
  |none=>exact hold v Qb
  |some u=>
   rcases eF Qb with Qb|rfl
   ·exact hold v Qb
   ·obtain⟨a,ha,e⟩:=hv _ J
    rw[←e]
    exact FG hb (Gq (w7 r hc.lt)) a ha
 ·have hq:q∈s.bY.set (gB b roles s m) (ka b roles s m):=hq
  rcases eF hq with hq|rfl
  ·exact rF hM q hq
  ·rcases hc.ka with⟨_,hl,e⟩|⟨_,rest,e1,e2⟩
   ·rw[e];simp;omega
   ·rw[e2]
    have hm:cf s (gB b roles s m)∈s.bY:=by
     have:=hc.St
     have hl:gB b roles s m < s.bY.length:=by omega
     simp[cf,hl]
    have:=rF hM _ hm
    rw[e1]at this
    simp at this;omega
theorem DN{n a b c d:Nat}(hb:b < n)(hd:d < n)(h:a * n+b=c * n+d):a=c∧b=d:=by
 have hn:0 < n:=by omega
 have h1:(a * n+b) / n=a:=by rw[pa,mJ _ _ hn,jU hb];omega
 have h2:(c * n+d) / n=c:=by rw[pa,mJ _ _ hn,jU hd];omega
 have Wo:a=c:=by rw[←h1,h,h2]
 subst Wo
 exact⟨rfl,by omega⟩
theorem jo.after{p q:Mv}{r1 t1 r2 t2:Nat}(hM:fa b roles s=true)(hp:jo b roles s p r1 t1)(hq:jo b roles s q r2 t2)(cj:r1≠r2):jo b roles (qW b roles s p) q r2 t2:=by
 obtain⟨h1,h5,h3,h4,w7⟩:=ki hM
 obtain⟨o,ho,hv⟩:=pf r1 p.label (cG b s r1).aP
 have Fk:=IS hp
 rw[ho]at Fk
 have TV:vj (qW b roles s p) r2=vj s r2:=by simp only[vj];rw[Fk,Gv _ (Ne.symm cj)]
 have kI:cG b (qW b roles s p) r2=cG b s r2:=by simp only[cG,TV]
 have rL:iz b roles (qW b roles s p) r2=iz b roles s r2:=by simp only[iz,kI]
 have KU:gB b roles s p < s.bY.length:=by rw[h4];exact hp.St
 have vJ:∀i,cf (qW b roles s p) i=if i=gB b roles s p then Sy.ka b roles s p else cf s i:=fun i=>ui KU _ i
 refine⟨hq.lt,hq.MV,hq.ne,hq.role,by rw[rL];exact hq.peer,?_,by rw[kI];exact hq.arm⟩
 rw[kI]
 rcases hq.kind with⟨hk,hn,hl⟩|⟨hk,hn,rest,UL⟩
 ·refine .inl ⟨hk,hn,?_⟩
  rw[vJ]
  split
  ·rename_i he
   rcases hp.ka with⟨yP,_,e⟩|⟨AG,rs,e1,e2⟩
   ·rcases hp.queue with⟨_,e'⟩|⟨h2,_⟩
    ·rw[e']at he
     exact absurd (DN hq.MV hp.MV he).1.symm cj
    ·omega
   ·rw[e2]
    rw[←he]at e1
    rw[e1]at hl
    simp at hl;omega
  ·exact hl
 ·refine .inr ⟨hk,hn,?_⟩
  rw[vJ]
  split
  ·rename_i he
   rcases hp.ka with⟨yP,_,e⟩|⟨AG,rs,e1,e2⟩
   ·rw[e,←he,UL]
    exact⟨rest++[p.label],rfl⟩
   ·rcases hp.queue with⟨h2,_⟩|⟨_,e'⟩
    ·omega
    ·rw[e']at he
     exact absurd (DN hq.lt hp.lt he).2.symm cj
  ·exact⟨rest,UL⟩
end
end Go.Sy
