/- The plain law: subtyping is the largest simulation; it is reflexive and transitive on valid books. -/
import Derived.Test.YtdjocfajcbhmgaaGreatDoorZ32
import Derived.Test.YtdjocfajcbhmgaaGreatDoorBl1
import Derived.Test.YtdjocfajcbhmgaaGreatDoorZ29
import Derived.Test.YtdjocfajcbhmgaaGreatDoorZ30
set_option linter.unusedSimpArgs false
set_option linter.unusedVariables false
set_option linter.unusedSectionVars false
namespace Go.Sy
def Hp(l:List Edge):Prop:=∀i (h:i+1 < l.length),gQ l[i].label l[i+1].label=true
theorem Hp.lt{l:List Edge}(h:Hp l):∀(d i:Nat) (hj:i+d+1 < l.length),gQ l[i].label l[i+d+1].label=true
 |0,i,hj=>h i hj
 |d+1,i,hj=>iT (h.lt d i (by omega)) (h (i+d+1) hj)
theorem Hp.inj{l:List Edge}(h:Hp l){i j:Nat}(hi:i < l.length)(hj:j < l.length)(he:l[i].label=l[j].label):i=j:=by
 rcases bI i j with bj|heq|bj
 ·obtain⟨d,rfl⟩:∃d,j=i+d+1:=⟨j - i - 1,by omega⟩
  have:=h.lt d i hj
  rw[he,lV]at this;cases this
 ·exact heq
 ·obtain⟨d,rfl⟩:∃d,i=j+d+1:=⟨i - j - 1,by omega⟩
  have:=h.lt d j hi
  rw[he,lV]at this;cases this
theorem FL{x:Nd}{s:ByteArray}:jE x s=none↔∀e∈x.ax,e.label≠s:=by
 unfold jE
 rw[du]
 simp
theorem xq{x:Nd}{s:ByteArray}:(jE x s).isSome=true↔∃e∈x.ax,e.label=s:=by
 cases h:jE x s with
 |none=>
  simp only[lJ,cP,false_iff]
  rintro⟨e,he,hs⟩
  exact FL.1 h e he hs
 |some c=>
  simp only[lI,true_iff]
  exact⟨c,tB h⟩
theorem tW{x y:Nd}:kR x y=true↔∀a∈x.ax,∃e∈y.ax,e.label=a.label:=by
 have h0:kR x y=true↔∀a∈x.ax,(jE y a.label).isSome=true:=by simp[kR,Option.isSome_iff_ne_none]
 rw[h0]
 exact⟨fun h a ha=>xq.1 (h a ha),fun h a ha=>xq.2 (h a ha)⟩
structure tR(S:Int×Int→Prop)(k:Int)(a c:Edge):Prop where
 kind:a.kind=c.kind
 send:a.kind=5→k=1→S (c.at_,a.at_)
 recv:a.kind=5→k=2→S (a.at_,c.at_)
 next:S (a.next,c.next)
structure uG(S:Int×Int→Prop)(x y:Nd):Prop where
 kind:x.kind=y.kind
 peer:x.peer=y.peer
 send:x.kind=1→kR y x=true
 recv:x.kind=2→kR x y=true
 ax:∀a∈x.ax,∀c,jE y a.label=some c→tR S x.kind a c
theorem PE{S:Int×Int→Prop}{k:Int}{y:Nd}{a:Edge}:(∃u,pf k y a=some u∧∀q∈u,S q)↔∀c,jE y a.label=some c→tR S k a c:=by
 unfold pf
 cases h:jE y a.label with
 |none=>simp
 |some c=>
  simp only[cI,forall_eq']
  by_cases hk:a.kind=c.kind
  ·rw[if_pos hk]
   constructor
   ·rintro⟨u,hu,hS⟩
    injection hu with hu;subst hu
    refine⟨hk,fun h5 h1=>hS _ ?_,fun h5 h1=>hS _ ?_,hS _ (by simp)⟩
    ·rw[if_pos ⟨h5,h1⟩];simp
    ·rw[if_pos (⟨h5,h1⟩:a.kind=5∧k=2)];simp
   ·intro hE
    refine⟨_,rfl,fun q hq=>?_⟩
    rcases aK.1 hq with hq|hq
    ·split at hq
     ·rename_i h5;simp at hq;subst hq;exact hE.send h5.1 h5.2
     ·cases hq
    ·rcases aK.1 hq with hq|hq
     ·split at hq
      ·rename_i h5;simp at hq;subst hq;exact hE.recv h5.1 h5.2
      ·cases hq
     ·simp at hq;subst hq;exact hE.next
  ·rw[if_neg hk]
   constructor
   ·rintro⟨u,hu,_⟩;cases hu
   ·intro hE;exact absurd hE.kind hk
theorem DO{S:Int×Int→Prop}{k:Int}{y:Nd}:∀{l:List Edge},(∃u,fL k y l=some u∧∀q∈u,S q)↔∀a∈l,∀c,jE y a.label=some c→tR S k a c
 |[]=>by simp[fL]
 |a::l=>by
  have ih:=DO (S:=S) (k:=k) (y:=y) (l:=l)
  have hE:=PE (S:=S) (k:=k) (y:=y) (a:=a)
  rw[List.forall_mem_cons,←ih,←hE]
  show(∃u',(match pf k y a with|none=>none|some u=>match fL k y l with|none=>none|some v=>some (u++v))=some u'∧∀q∈u',S q)↔_
  clear ih hE
  cases h1:pf k y a with
  |none=>simp
  |some u=>
   cases h2:fL k y l with
   |none=>simp
   |some v=>
    simp only[cI,exists_eq_left']
    constructor
    ·intro h;exact⟨fun q hq=>h q (dN _ hq),fun q hq=>h q (bQ _ hq)⟩
    ·rintro⟨h1,h2⟩ q hq
     rcases aK.1 hq with hq|hq
     ·exact h1 q hq
     ·exact h2 q hq
theorem MB{S:Int×Int→Prop}{x y:Nd}:(∃u,qz x y=some u∧∀q∈u,S q)↔uG S x y:=by
 unfold qz
 by_cases hl:qT x y=true
 ·rw[if_pos hl,DO]
  simp only[qT,av,decide_eq_true_eq,eu,Bool.not_eq_true',decide_eq_false_iff_not]at hl
  obtain⟨h1,h2,h3,h4⟩:=hl
  constructor
  ·intro h;exact⟨h1,h2,fun hk=>h3.resolve_left (by simp[hk]),fun hk=>h4.resolve_left (by simp[hk]),h⟩
  ·intro h;exact h.ax
 ·rw[if_neg hl]
  constructor
  ·rintro⟨u,hu,_⟩;cases hu
  ·intro h
   refine absurd ?_ hl
   simp only[qT,av,decide_eq_true_eq,eu,Bool.not_eq_true',decide_eq_false_iff_not]
   refine⟨h.kind,h.peer,?_,?_⟩
   ·by_cases hk:x.kind=1
    ·exact .inr (h.send hk)
    ·exact .inl hk
   ·by_cases hk:x.kind=2
    ·exact .inr (h.recv hk)
    ·exact .inl hk
def S9(b:Bk)(S:Int×Int→Prop):Prop:=∀p,S p→GH b.nodes.length p∧uG S (tb b p.1) (tb b p.2)
theorem SZ{b:Bk}{S:Int×Int→Prop}{p:Int×Int}:(∃u,ke b p=some u∧∀q∈u,S q)↔uG S (tb b p.1) (tb b p.2):=MB
theorem tR.mono{S T:Int×Int→Prop}(h:∀p,S p→T p){k:Int}{a c:Edge}(hE:tR S k a c):tR T k a c:=⟨hE.kind,fun h1 h2=>h _ (hE.send h1 h2),fun h1 h2=>h _ (hE.recv h1 h2),h _ hE.next⟩
theorem uG.mono{S T:Int×Int→Prop}(h:∀p,S p→T p){x y:Nd}(hA:uG S x y):uG T x y:=⟨hA.kind,hA.peer,hA.send,hA.recv,fun a ha c hc=>(hA.ax a ha c hc).mono h⟩
theorem qm{b:Bk}(hb:eJ b=true){S:Int×Int→Prop}(hS:S9 b S):∀(f i:Nat) (out:List (Int×Int)),b.nodes.length * b.nodes.length+1≤f+i→i≤out.length→out.Nodup→(∀p∈out,S p)→(B2 b f i out).isSome=true
 |0,i,out,hf,hi,hn,hd=>by
  have:=K6 hn (fun p hp=>(hS p (hd p hp)).1)
  omega
 |f+1,i,out,hf,hi,hn,hd=>by
  unfold B2
  cases hx:out[i]? with
  |none=>rfl
  |some p=>
   obtain⟨sb,_⟩:=ai.1 hx
   obtain⟨u,hu,hq⟩:=SZ.2 (hS p (hd p (aj hx))).2
   simp only[hu]
   obtain⟨r,hr⟩:=rh u out
   refine qm hb hS f (i+1) _ (by omega) (by rw[hr,au];omega) (nR hn) (fun q rm=>?_)
   rcases nS.1 rm with h|h
   ·exact hd q h
   ·exact hq q h
theorem EH{n:Nat}{x y:Int}:jv n x y=true↔GH n (x,y):=by
 simp[jv,GH];omega
theorem RD{b:Bk}(hb:eJ b=true){S:Int×Int→Prop}(hS:S9 b S){x y:Int}(h:S (x,y)):E7 b x y=true:=by
 unfold E7 iM
 rw[if_pos]
 ·exact qm hb hS _ 0 _ (by omega) (aF _) (by simp) (fun p hp=>by simp at hp;subst hp;exact h)
 ·rw[av]
  exact⟨hb,EH.2 (hS _ h).1⟩
section
variable {p:b7} {r:ByteArray}
theorem vj{S:List (List Int)}{t:jk}(h:kC p r){y:Int}(ha:uI p r S [y] t):∀e∈t.ax,∃b∈(aM p y).ax,b.label=e.label∧b.kind=e.kind∧Vt p S b.next e.next:=fun e he=>by
 obtain⟨h6,hd⟩:=rE h.may y
 have hs:e.label∈dK p [y]:=by rw[←ha.ym];exact bp he
 obtain⟨b,hb,eb⟩:=kA.1 hs
 obtain⟨q1,_,q3,q4⟩:=ha.arm e he
 have hc:=DG ha.once hb
 rw[←eb,hc]at q1
 rw[nk]at hb
 have eA:Jl p b.next:=ju h.may y b hb
 rw[←eb,nk,wC hd hb,h.near eA]at q4
 exact⟨b,hb,eb,(congrArg Prod.fst q1).symm,q3,q4,eA⟩
theorem Gr{S:List (List Int)}{t:jk}{y:Int}(ha:uI p r S [y] t){b:bD}(hb:b∈(aM p y).ax):∃e∈t.ax,e.label=b.label:=by
 have:b.label∈t.ax.map bD.label:=by rw[ha.ym];exact kA.2 ⟨b,by rw[nk];exact hb,rfl⟩
 obtain⟨e,he,h⟩:=aL.1 this
 exact⟨e,he,h⟩
theorem Jt{S:List (List Int)}{l:Loc}(hP:Proj p r S l){y t:Int}(ha:Vt p S y t):(((aM p y).ax.length=0∧dc l t=gV)∨((aM p y).ax.length≠0∧uI p r S [y] (dc l t)))∧t < (l.turns.length:Int):=by
 obtain⟨e1,Wi⟩:=hP.at ha.1 ha.2.1
 refine⟨?_,Wi⟩
 unfold wu at e1
 by_cases hz:(aM p y).ax.length=0
 ·rw[if_pos hz]at e1
  rcases e1 with⟨_,e⟩|⟨cV,_⟩
  ·exact .inl ⟨hz,e⟩
  ·exact absurd J cV
 ·rw[if_neg hz]at e1
  rcases e1 with⟨e,_⟩|⟨_,e⟩
  ·cases e
  ·exact .inr ⟨hz,e⟩
end
theorem Hg{L:List Loc}(hP:nU L){l:Loc}(hl:l∈L):0≤eX L l.name:=by
 obtain⟨i,hi,rfl⟩:=aC.1 hl
 rw[Br hP.nodup hi];omega
structure PS(p1 p2:b7)(r:ByteArray):Prop where
 nil:∀y,(aM p1 y).ax.length=0↔(aM p2 y).ax.length=0
 side:∀y,bc p1 r y=bc p2 r y
 send:∀y,(bc p1 r y).1=true→∀a∈(aM p2 y).ax,a∈(aM p1 y).ax
 recv:∀y,(bc p1 r y).1=false→∀a∈(aM p1 y).ax,a∈(aM p2 y).ax
theorem Nh{L:List Loc}(hP:nU L){p1 p2:b7}{r:ByteArray}{S1 S2:List (List Int)}{l1 l2:Loc}(h1:kC p1 r)(h2:kC p2 r)(q1:Proj p1 r S1 l1)(q2:Proj p2 r S2 l2)(m1:l1∈L)(m2:l2∈L)
 (hs:PS p1 p2 r)(hc:∀y,∀a∈(aM p1 y).ax,a.kind≠5):S9 (dJ L) fun q=>∃y t t',Vt p1 S1 y t∧Vt p2 S2 y t'∧q=(eX L l1.name+t,eX L l2.name+t'):=by
 rintro q ⟨y,t,t',a1,a2,rfl⟩
 obtain⟨e1,Wi⟩:=Jt q1 a1
 obtain⟨e2,YO⟩:=Jt q2 a2
 have n1:=DH hP m1 a1.1 Wi
 have n2:=DH hP m2 a2.1 YO
 have z1:=Hg hP m1
 have z2:=Hg hP m2
 have k1:=(ai.1 n1).1
 have k2:=(ai.1 n2).1
 have g1:=a1.1
 have g2:=a2.1
 refine⟨⟨by show 0≤eX L l1.name+t;omega,by show eX L l1.name+t < _;omega,by show 0≤eX L l2.name+t';omega,by show eX L l2.name+t' < _;omega⟩,?_⟩
 show uG _ (tb (dJ L) (eX L l1.name+t)) (tb (dJ L) (eX L l2.name+t'))
 unfold tb
 rw[n1,n2]
 show uG _ (l5 (eX L) (eX L l1.name) (dc l1 t)) (l5 (eX L) (eX L l2.name) (dc l2 t'))
 rcases e1 with⟨hz,f1⟩|⟨hz,f1⟩
 ·rcases e2 with⟨_,f2⟩|⟨VE,_⟩
  ·rw[f1,f2]
   exact⟨rfl,rfl,fun h=>absurd h (show ¬((0:Int)=1) by decide),fun h=>absurd h (show ¬((0:Int)=2) by decide),fun a ha=>by cases ha⟩
  ·exact absurd ((hs.nil y).1 hz) VE
 ·rcases e2 with⟨VE,_⟩|⟨_,f2⟩
  ·exact absurd ((hs.nil y).2 VE) hz
  ·have s1:=f1.side y (by simp)
   have s2:=f2.side y (by simp)
   have Un:=hs.side y
   rw[s1,s2]at Un
   have M3:(dc l1 t).peer=(dc l2 t').peer:=congrArg Prod.snd Un
   have sB:(dc l1 t).kind=(dc l2 t').kind:=by
    have:=congrArg Prod.fst Un
    simp only[decide_eq_decide]at this
    rcases f1.kind with h|h<;>rcases f2.kind with h'|h'<;>omega
   have ZI:=(rE h1.may y).2
   have ZH:=(rE h2.may y).2
   have oc:∀a∈(aM p1 y).ax,∀b∈(aM p2 y).ax,a.label=b.label→a=b:=fun a ha b hb e=>by
    cases VJ:(bc p1 r y).1 with
    |true=>exact pN ZI ha (hs.send y VJ b hb) e
    |false=>exact pN ZH (hs.recv y VJ a ha) hb e
   refine⟨sB,M3,fun hk=>tW.2 fun e he=>?_,fun hk=>tW.2 fun e he=>?_,fun e he c vq=>?_⟩
   ·obtain⟨e',ma,rfl⟩:=aL.1 he
    obtain⟨b,hb,eb,_⟩:=vj h2 f2 e' ma
    obtain⟨d,hd,ed⟩:=Gr f1 (hs.send y (by rw[s1];exact decide_eq_true hk) b hb)
    exact⟨mh _ _ d,bp hd,ed.trans eb⟩
   ·obtain⟨e',ma,rfl⟩:=aL.1 he
    obtain⟨b,hb,eb,_⟩:=vj h1 f1 e' ma
    obtain⟨d,hd,ed⟩:=Gr f2 (hs.recv y (by rw[s1];exact decide_eq_false (fun h=>absurd (h.symm.trans hk) (by decide))) b hb)
    exact⟨mh _ _ d,bp hd,ed.trans eb⟩
   ·obtain⟨e',ma,rfl⟩:=aL.1 he
    obtain⟨OS,Sd⟩:=tB vq
    obtain⟨c',Xr,rfl⟩:=aL.1 OS
    obtain⟨b,hb,b1,b2,b3⟩:=vj h1 f1 e' ma
    obtain⟨d,hd,d1,d2,d3⟩:=vj h2 f2 c' Xr
    have ZM:c'.label=e'.label:=Sd
    have e:=oc b hb d hd (b1.trans (ZM.symm.trans d1.symm))
    subst e
    have h5:e'.kind≠5:=by rw[←b2];exact hc y b hb
    exact⟨b2.symm.trans d2,fun h=>absurd h h5,fun h=>absurd h h5,⟨b.next,e'.next,c'.next,b3,d3,rfl⟩⟩
theorem Jz{L:List Loc}(hP:nU L){p1 p2:b7}{r:ByteArray}{S1 S2:List (List Int)}{l1 l2:Loc}(h1:kC p1 r)(h2:kC p2 r)(q1:Proj p1 r S1 l1)(q2:Proj p2 r S2 l2)(m1:l1∈L)(m2:l2∈L)
 (hs:PS p1 p2 r)(hc:∀y,∀a∈(aM p1 y).ax,a.kind≠5):E7 (dJ L) (eX L l1.name) (eX L l2.name)=true:=
 RD (zZ hP) (Nh hP h1 h2 q1 q2 m1 m2 hs hc) ⟨0,0,0,DN h1 q1,DN h2 q2,by simp⟩
def jT(p:b7)(nm:ByteArray)(k m:Nat):b7:=⟨nm,p.aW,p.points.set k ⟨(aM p (k:Int)).from_,(aM p (k:Int)).to,(aM p (k:Int)).ax.eraseIdx m⟩⟩
section
variable {p:b7} {nm:ByteArray} {k m:Nat}
theorem vw(hk:k < p.points.length)(y:Int):aM (jT p nm k m) y=if y.toNat=k then⟨(aM p y).from_,(aM p y).to,(aM p y).ax.eraseIdx m⟩else aM p y:=by
 have hy:y.toNat=k→aM p y=aM p (k:Int):=fun h=>by unfold aM;rw[h];rfl
 unfold jT
 by_cases h:y.toNat=k
 ·rw[if_pos h,hy h]
  show(p.points.set k _).getD y.toNat oK=_
  rw[aG,h,List.getElem?_set_self hk];rfl
 ·rw[if_neg h]
  show(p.points.set k _).getD y.toNat oK=p.points.getD y.toNat oK
  rw[aG,aG,List.getElem?_set_ne (fun e=>h e.symm)]
theorem zP{α:Type}{l:List α}{m:Nat}(h:1 < l.length):1≤(l.eraseIdx m).length∧(l.eraseIdx m).length≤l.length:=by
 rw[List.length_eraseIdx]
 split<;>omega
theorem tz{α:Type}{l:List α}{m:Nat}{a:α}(h:a∈l.eraseIdx m):a∈l:=(List.eraseIdx_sublist l m).subset h
theorem FI{n:Int}{l:List bD}{m:Nat}(h:ez n l=true)(h2:1 < l.length):ez n (l.eraseIdx m)=true:=by
 obtain⟨⟨_,h6⟩,ha,hd⟩:=dx h
 obtain⟨e1,e2⟩:=zP (m:=m) h2
 have mB:((l.eraseIdx m).map bD.label).Nodup:=hd.sublist ((List.eraseIdx_sublist l m).map _)
 unfold ez
 rw[decide_eq_true e1,decide_eq_true (show(l.eraseIdx m).length≤6 by omega),decide_eq_true mB,a7.2 fun a h=>ha a (tz h)]
 rfl
theorem Pj(hv:dj p=true)(hn:cg nm=true)(hk:k < p.points.length)(h2:1 < (aM p (k:Int)).ax.length):dj (jT p nm k m)=true:=by
 have vl:=pB hv
 have Ec:rQ p.aW p.points.length (aM p (k:Int))=true:=by
  rcases mI p (k:Int)with h|h
  ·exact vl _ h
  ·rw[h]at h2;exact absurd h2 (by decide)
 simp only[dj,av,a7]at hv⊢
 unfold jT
 simp only[gO]
 refine⟨hn,hv.2.1,hv.2.2.1,hv.2.2.2.1,hv.2.2.2.2.1,hv.2.2.2.2.2.1,hv.2.2.2.2.2.2.1,fun x hx=>?_⟩
 rcases dt hx with h|rfl
 ·exact vl x h
 ·unfold rQ at Ec⊢
  rcases wa Ec with h|h
  ·rw[h]at h2;exact absurd h2 (by decide)
  ·simp only[eu,av]at Ec⊢
   rcases Ec with h'|⟨g1,g2,g3,_⟩
   ·unfold nb at h'
    simp only[av,fj]at h'
    rw[h'.2.2]at h2;exact absurd h2 (by decide)
   ·exact .inr ⟨g1,g2,g3,FI h h2⟩
theorem tC(hk:k < p.points.length)(r:ByteArray)(y:Int):bc (jT p nm k m) r y=bc p r y:=by
 unfold bc
 rw[vw hk]
 split<;>rfl
theorem xr(hk:k < p.points.length):∀y,∀a∈(aM (jT p nm k m) y).ax,a∈(aM p y).ax:=fun y a ha=>by
 rw[vw hk]at ha
 split at ha
 ·exact tz ha
 ·exact ha
theorem drop_nil(hk:k < p.points.length)(h2:1 < (aM p (k:Int)).ax.length)(y:Int):(aM p y).ax.length=0↔(aM (jT p nm k m) y).ax.length=0:=by
 rw[vw hk]
 split
 ·rename_i h
  have hy:aM p y=aM p (k:Int):=by unfold aM;rw[h];rfl
  have:=(zP (m:=m) h2).1
  rw[hy]
  show _↔((aM p (k:Int)).ax.eraseIdx m).length=0
  omega
 ·rfl
theorem xt(hk:k < p.points.length){y:Int}(h:y.toNat≠k):aM (jT p nm k m) y=aM p y:=by rw[vw hk,if_neg h]
theorem IP{r:ByteArray}(hk:k < p.points.length)(h2:1 < (aM p (k:Int)).ax.length)(hr:(bc p r (k:Int)).1=true):PS p (jT p nm k m) r:=
 ⟨drop_nil hk h2,fun y=>(tC hk r y).symm,fun y _=>xr hk y,fun y hf a ha=>by
  by_cases h:y.toNat=k
  ·have hy:bc p r y=bc p r (k:Int):=by unfold bc aM;rw[h];rfl
   rw[hy,hr]at hf;cases hf
  ·rw[xt hk h];exact ha⟩
theorem Ph{r:ByteArray}(hk:k < p.points.length)(h2:1 < (aM p (k:Int)).ax.length)(hr:(bc p r (k:Int)).1=false):PS (jT p nm k m) p r:=
 ⟨fun y=>(drop_nil hk h2 y).symm,tC hk r,fun y hf a ha=>by
  rw[tC hk]at hf
  by_cases h:y.toNat=k
  ·have hy:bc p r y=bc p r (k:Int):=by unfold bc aM;rw[h];rfl
   rw[hy,hr]at hf;cases hf
  ·rw[xt hk h];exact ha,fun y _=>xr hk y⟩
end
theorem dropped{p q:b7}{k m:Nat}{r r' nm:ByteArray}(hv:dj p=true)(om:p.aW=[r,r'])(hq:q=jT p nm k m)(hn:cg nm=true)(cV:p.name≠nm)(hk:k < p.points.length)(h2:1 < (aM p (k:Int)).ax.length)
 (hc:∀y,∀a∈(aM p y).ax,a.kind≠5):tS [p,q] []∧(aM p (k:Int)).from_∈p.aW∧(aM p (k:Int)).to∈p.aW∧
   E7 (dJ (cL [p,q] [])) (eX (cL [p,q] []) (fm p.name (aM p (k:Int)).from_)) (eX (cL [p,q] []) (fm nm (aM p (k:Int)).from_))=true∧
   E7 (dJ (cL [p,q] [])) (eX (cL [p,q] []) (fm nm (aM p (k:Int)).to)) (eX (cL [p,q] []) (fm p.name (aM p (k:Int)).to))=true:=by
 obtain⟨ho,yt,Ts⟩:=oH hv
 have VK:=wv ho
 rw[om]at VK yt
 have Dd:r≠r':=by simpa using VK
 have M1:=AO (yt r (by simp))
 have GO:=AO (yt r' (by simp))
 have X6:dj q=true:=by rw[hq];exact Pj hv hn hk h2
 have RO:q.aW=[r,r']:=by rw[hq];exact om
 have Uy:q.name=nm:=by rw[hq];rfl
 have Ym:∀y,∀a∈(aM q y).ax,a.kind≠5:=fun y a ha=>by rw[hq]at ha;exact hc y a (xr hk y a ha)
 obtain⟨a1,a2,a3⟩:=Ak hv om Dd M1 GO
 obtain⟨b1,b2,b3⟩:=Ak X6 RO Dd M1 GO
 obtain⟨c1,c2,_⟩:=sH a1 a2 a3
 obtain⟨d1,d2,_⟩:=sH b1 b2 b3
 have Ln:cL [p,q] []=[(dm p r).1,(dm p r').1,(dm q r).1,(dm q r').1]:=by
  unfold cL sW
  simp[om,RO]
 have Qu:∀{x:b7},(∀y,∀a∈(aM x y).ax,a.kind≠5)→∀u∈x.points,∀a∈u.ax,a.kind=5→fX [p,q] [] a.name=true:=fun{x} h u hu a ha h5=>by
  obtain⟨i,hi,rfl⟩:=aC.1 hu
  refine absurd h5 (h (i:Int) a ?_)
  unfold aM
  rw[fI,aG,aa hi];exact ha
 have lp:∀{x:b7} {s:ByteArray},(dm x s).2=0→(dm x s).1.turns.length≤40:=fun h=>by
  obtain⟨S,hS⟩:=kp h
  rw[hS.turns];exact hS.len
 have hB:tS [p,q] []:=by
  refine⟨by simp,by simp,fun l hl=>(by cases hl),?_,fun x hx=>?_,fun x hx=>?_,fun l hl=>(by cases hl),?_⟩
  ·show[p.name,q.name].Nodup
   rw[Uy];simpa using cV
  ·rcases ae.1 hx with rfl|hx
   ·exact BR hv om Dd M1 GO
   ·rw[aq]at hx;subst hx
    exact BR X6 RO Dd M1 GO
  ·rcases ae.1 hx with rfl|hx
   ·exact Qu hc
   ·rw[aq]at hx;subst hx
    exact Qu Ym
  ·rw[Ln]
   have:=lp c1
   have:=lp c2
   have:=lp d1
   have:=lp d2
   show(dm p r).1.turns.length+((dm p r').1.turns.length+((dm q r).1.turns.length+((dm q r').1.turns.length+0)))≤400
   omega
 have hP:=hB.parts
 have Ec:(aM p (k:Int)).from_∈p.aW∧(aM p (k:Int)).to∈p.aW∧(aM p (k:Int)).from_≠(aM p (k:Int)).to:=by
  rcases mI p (k:Int)with h|h
  ·rcases Ci (pB hv _ h)with⟨_,_,e⟩|⟨e1,e2,e3,_⟩
   ·rw[e]at h2;exact absurd h2 (by decide)
   ·exact⟨e1,e2,e3⟩
  ·rw[h]at h2;exact absurd h2 (by decide)
 have key:∀s∈p.aW,∃Sp Sq,kC p s∧kC q s∧Proj p s Sp (dm p s).1∧Proj q s Sq (dm q s).1∧(dm p s).1∈cL [p,q] []∧(dm q s).1∈cL [p,q] []:=fun s hs=>by
  rw[om]at hs
  rw[Ln]
  rcases ae.1 hs with rfl|hs
  ·obtain⟨Sp,h1⟩:=kp c1
   obtain⟨Sq,h2⟩:=kp d1
   exact⟨Sp,Sq,a1,b1,h1,h2,by simp,by simp⟩
  ·rw[aq]at hs;subst hs
   obtain⟨Sp,h1⟩:=kp c2
   obtain⟨Sq,h2⟩:=kp d2
   exact⟨Sp,Sq,a2,b2,h1,h2,by simp,by simp⟩
 refine⟨hB,Ec.1,Ec.2.1,?_,?_⟩
 ·obtain⟨Sp,Sq,t1,t2,t3,t4,t5,t6⟩:=key _ Ec.1
  have:=Jz hP t1 t2 t3 t4 t5 t6 (by rw[hq];exact IP hk h2 (by unfold bc oA;rw[if_pos J])) hc
  rwa [t3.name,t4.name,Uy]at this
 ·obtain⟨Sp,Sq,t1,t2,t3,t4,t5,t6⟩:=key _ Ec.2.1
  have:=Jz hP t2 t1 t4 t3 t6 t5 (by rw[hq];exact Ph hk h2 (by unfold bc oA;rw[if_neg Ec.2.2])) Ym
  rwa [t3.name,t4.name,Uy]at this
theorem F2{name:ByteArray}{l:List Int}{nr k:Nat}:∀y,∀a∈(aM (qk name [] l nr k).1 y).ax,a.kind≠5:=fun y a ha=>by
 have hS:∀(m nr:Int) (k i:Nat),∀x∈(anyS [] l m nr k i).1,∀a∈x.ax,a.kind < 5:=fun m nr k i=>by
  induction i with
  |zero=>intro x hx;cases hx
  |succ i ih=>
   intro x hx a ha
   rw[anyS]at hx
   rcases aK.1 hx with hx|hx
   ·exact ih x hx a ha
   ·rw[aq]at hx;subst hx
    exact DU _ a ha
 rcases mI (qk name [] l nr k).1 y with h|h
 ·rcases aK.1 (show _∈_++[oK]from h)with h|h
  ·have:=hS _ _ _ _ _ h a ha;omega
  ·rw[aq]at h;rw[h]at ha;cases ha
 ·rw[h]at ha;cases ha
end Go.Sy
