/- Contracts: under.edge, under.within, under.places. -/
import Derived.Test.YtdjocfajcbhmgaaGreatDoorAu
import Derived.Test.YtdjocfajcbhmgaaGreatDoorZ30
import Derived.Test.YtdjocfajcbhmgaaGreatDoorSy3
import Derived.Test.YtdjocfajcbhmgaaGreatDoorSy4
set_option maxHeartbeats 64000000
set_option linter.unusedSimpArgs false
set_option linter.unusedVariables false
set_option linter.unusedSectionVars false
namespace Go.Sy
open Go.Proofs
set_option maxRecDepth 100000
attribute [local irreducible] SOps Goes DOps EOps
theorem Pe(label:ByteArray)(e:Edge):er Tryz.prog 166 [[.str label]] [Ag e.cs,.one (.ptr given 0)] (Rv (.bool (decide (e.label=label)))) [[.str label]]:=by
 refine bn (c:=_) Tryz.func166 rfl rfl rfl (by decide) fun w M0 H Z=>?_
 repeat'(first|refine aA ?_|(refine aB ?_ ?_<;>first|exact aD|(refine aE ?_;intro hb))|refine dw th Tryz.func166 (.inr ⟨_,rfl⟩) J J J ⟨?_,rfl⟩)
 all_goals simp[dd]
def jE(x:Nd)(label:ByteArray):Option Edge:=x.ax.find? fun e=>decide (e.label=label)
def KB:Edge:=⟨⟨#[]⟩,0,0,0⟩
abbrev Mc(o:Option Edge):ST:=.fo [Ag (o.getD KB).cs,C1 (.bool o.isSome)]
theorem IM{α:Type}{p:α→Bool}{l:List α}{i:Nat}(h:l.findIdx? p=some i):∃hi:i < l.length,l.find? p=some l[i]:=by
 rw[bh]at h
 obtain⟨hi,h1,h2⟩:=h
 refine⟨hi,?_⟩
 rw[fl]
 exact⟨h1,i,hi,rfl,fun j hj=>by simpa using h2 j hj⟩
theorem IJ{α:Type}{p:α→Bool}{l:List α}(h:l.findIdx? p=none):l.find? p=none:=by
 rw[bx]at h
 rw[du]
 intro x hx;simp[h x hx]
theorem L9(x:Nd)(label:ByteArray):er Tryz.prog 143 [] [Ag x.cs,C1 (.str label)] (Mc (jE x label)) []:=by
 obtain⟨kind,peer,ax⟩:=x
 have cY:=CZ (fun e=>decide (e.label=label)) ax _ (.str label) (Pe label)
 cases hi:ax.findIdx? fun e=>decide (e.label=label)with
 |none=>
  have hs:jE ⟨kind,peer,ax⟩ label=none:=IJ hi
  rw[show qV (fun e=>decide (e.label=label)) ax=-1 by simp[qV,hi]]at cY
  rw[hs]
  refine bn (c:=_) Tryz.func143 rfl rfl rfl (by decide) fun w M0 H Z=>?_
  repeat'(first|refine aA ?_|(refine aB ?_ ?_<;>first|exact aD|(refine aE ?_;intro hb))|refine dw th Tryz.func143 (.inr ⟨_,rfl⟩) J J J ⟨?_,rfl⟩|(refine aR cY [3] J J J J J J J J J J ?_;refine ao th J ?_))
  all_goals simp[dd,KB]
 |some i=>
  obtain⟨sb,hs⟩:=IM hi
  have hs:jE ⟨kind,peer,ax⟩ label=some ax[i]:=hs
  rw[show qV (fun e=>decide (e.label=label)) ax=(i:Int) by simp[qV,hi]]at cY
  have hx:(ax.map Edge.cs)[i]? =some (ax[i]).cs:=by simp[sb]
  rw[hs]
  refine bn (c:=_) Tryz.func143 rfl rfl rfl (by decide) fun w M0 H Z=>?_
  repeat'(first|refine aA ?_|(refine aB ?_ ?_<;>first|exact aD|(refine aE ?_;intro hb))|refine dw th Tryz.func143 (.inr ⟨_,rfl⟩) J J J ⟨?_,rfl⟩|((first|refine aR cY [3] J J J J J J J J J J ?_|refine bO th J J J J J J J J J i _ J hx ?_);refine ao th J ?_))
  all_goals simp[dd]
theorem u4(p:Edge→Bool)(l:List Edge)(g:Nat)(c0 c1 c2:CT)
 (hc:∀e:Edge,er Tryz.prog g [[c0,c1,c2]] [Ag e.cs,.one (.ptr given 0)] (Rv (.bool (p e))) [[c0,c1,c2]]):
 er Tryz.prog 84 [[c0,c1,c2]] [C1 (nj l),.one (.kD g [given])] (Rv (.bool (l.any p))) [[c0,c1,c2]]:=by
 have cY:=A0 p l g c0 c1 c2 hc
 have Xa:decide (qV p l≥0)=l.any p:=by
  cases hi:l.findIdx? p with
  |none=>
   rw[show qV p l=-1 by simp[qV,hi]]
   rw[bx]at hi
   symm;simp;exact hi
  |some i=>
   rw[show qV p l=(i:Int) by simp[qV,hi]]
   rw[bh]at hi
   obtain⟨h1,h2,_⟩:=hi
   symm;simp;exact⟨l[i],an h1,h2⟩
 rw[←Xa]
 refine bn (c:=_) Tryz.func84 rfl rfl rfl (by decide) fun w M0 H Z=>?_
 repeat'(first|refine aA ?_|(refine aB ?_ ?_<;>first|exact aD|(refine aE ?_;intro hb))|refine dw th Tryz.func84 (.inr ⟨_,rfl⟩) J J J ⟨?_,rfl⟩|(refine aR cY [given] J J J J J J J J J J ?_;refine ao th J ?_))
 all_goals simp[dd]
theorem Hu(y:Nd)(e:Edge):er Tryz.prog 165 [[.int .i64 y.kind,.str y.peer,nj y.ax]] [Ag e.cs,.one (.ptr given 0)] (Rv (.bool (!(jE y e.label).isSome))) [[.int .i64 y.kind,.str y.peer,nj y.ax]]:=by
 refine bn (c:=_) Tryz.func165 rfl rfl rfl (by decide) fun w M0 H Z=>?_
 repeat'(first|refine aA ?_|(refine aB ?_ ?_<;>first|exact aD|(refine aE ?_;intro hb))|refine dw th Tryz.func165 (.inr ⟨_,rfl⟩) J J J ⟨?_,rfl⟩|(refine aR (L9 y e.label) [] J J J J J J J J J J ?_;refine ao th J ?_))
 all_goals simp[dd]
def kR(x y:Nd):Bool:=!(x.ax.any fun a=>!(jE y a.label).isSome)
theorem Jp(x y:Nd):er Tryz.prog 142 [] [Ag x.cs,Ag y.cs] (Rv (.bool (kR x y))) []:=by
 have cY:=u4 (fun e=>!(jE y e.label).isSome) x.ax _ _ _ _ (Hu y)
 refine bn (c:=_) Tryz.func142 rfl rfl rfl (by decide) fun w M0 H Z=>?_
 repeat'(first|refine aA ?_|(refine aB ?_ ?_<;>first|exact aD|(refine aE ?_;intro hb))|refine dw th Tryz.func142 (.inr ⟨_,rfl⟩) J J J ⟨?_,rfl⟩|(refine aR cY [3] J J J J J J J J J J ?_;refine ao th J ?_))
 all_goals simp[dd,kR]
def jv(n:Nat)(x y:Int):Bool:=decide (0≤min x y)&&decide (max x y < (n:Int))
theorem Ck(b:Bk)(x y:Int):er Tryz.prog 105 [] [Ag b.cs,Ag [.int .i64 x,.int .i64 y]] (Rv (.bool (jv b.nodes.length x y))) []:=by
 refine bn (c:=_) Tryz.func105 rfl rfl rfl (by decide) fun w M0 H Z=>?_
 repeat'(first|refine aA ?_|(refine aB ?_ ?_<;>first|exact aD|(refine aE ?_;intro hb))|refine dw th Tryz.func105 (.inr ⟨_,rfl⟩) J J J ⟨?_,rfl⟩)
 all_goals simp[dd,jv, *]
abbrev rS(p:Int×Int):List CT:=[.int .i64 p.1,.int .i64 p.2]
abbrev oI(l:List (Int×Int)):CT:=.slice false 2 (l.map rS)
def pf(k:Int)(y:Nd)(a:Edge):Option (List (Int×Int)):=
 match jE y a.label with
 |none=>some []
 |some c=>if a.kind=c.kind then some ((if a.kind=5∧k=1 then[(c.at_,a.at_)]else[])++((if a.kind=5∧k=2 then[(a.at_,c.at_)]else[])++[(a.next,c.next)]))else none
def fL(k:Int)(y:Nd):List Edge→Option (List (Int×Int))
 |[]=>some []
 |a::r=>match pf k y a with
  |none=>none
  |some u=>match fL k y r with
   |none=>none
   |some v=>some (u++v)
def qT(x y:Nd):Bool:=
 decide (x.kind=y.kind)&&(decide (x.peer=y.peer)&&((!decide (x.kind=1)||kR y x)&&(!decide (x.kind=2)||kR x y)))
def qz(x y:Nd):Option (List (Int×Int)):=if qT x y then fL x.kind y x.ax else none
abbrev uB(o:Option (List (Int×Int))):ST:=.fo [C1 (oI (o.getD [])),C1 (.bool o.isSome)]
theorem tL(k:Int)(y:Nd):∀(l r:List Edge),fL k y (l++r)=match fL k y l with|none=>none|some u=>match fL k y r with|none=>none|some v=>some (u++v)
 |[],r=>by cases h:fL k y r<;>simp[fL,h]
 |a::l,r=>by
  simp only[cH,fL,tL k y l r]
  cases pf k y a<;>cases fL k y l<;>cases fL k y r<;>simp
theorem tK{k:Int}{y:Nd}:∀{l:List Edge} {u:List (Int×Int)},fL k y l=some u→u.length≤3 * l.length
 |[],u,h=>by simp[fL]at h;subst h;simp
 |a::l,u,h=>by
  unfold fL at h
  split at h
  ·cases h
  ·rename_i v hv
   split at h
   ·cases h
   ·rename_i v' wY
    injection h with h;subst h
    have h1:=tK wY
    have h2:v.length≤3:=by
     unfold pf at hv
     split at hv
     ·injection hv with hv;subst hv;simp
     ·split at hv
      ·injection hv with hv;subst hv
       split<;>split<;>simp
      ·cases hv
    simp;omega
theorem xJ{k:Int}{y:Nd}{l:List Edge}{i:Nat}(hi:i < l.length){u v:List (Int×Int)}(h:fL k y (l.take i)=some u)(ha:pf k y l[i]=some v):fL k y (l.take (i+1))=some (u++v):=by
 rw[al hi,tL,h]
 simp[fL,ha]
theorem I0{k:Int}{y:Nd}{l:List Edge}{i:Nat}(hi:i < l.length)(ha:pf k y l[i]=none):fL k y l=none:=by
 have:l=l.take i++l[i]::l.drop (i+1):=by simp
 rw[this,tL]
 cases fL k y (l.take i)<;>simp[fL,ha]
theorem SY(b:Bk)(i j:Nat)(hi:i < b.nodes.length)(hj:j < b.nodes.length)(ha:b.nodes[i].ax.length≤6):
 er Tryz.prog 106 [] [Ag b.cs,Ag [.int .i64 (i:Int),.int .i64 (j:Int)]] (uB (qz b.nodes[i] b.nodes[j])) []:=by
 obtain⟨nodes,names,roots⟩:=b
 simp only at hi hj ha⊢
 have hx:(nodes.map Nd.cs)[i]? =some (nodes[i]).cs:=by simp[hi]
 have hy:(nodes.map Nd.cs)[j]? =some (nodes[j]).cs:=by simp[hj]
 generalize nodes[i]=x at *
 generalize nodes[j]=y at *
 refine bn (c:=_) Tryz.func106 rfl rfl rfl (by decide) fun w M0 H Z=>?_
 repeat'(first|refine aA ?_|(refine aB ?_ ?_<;>first|exact aD|(refine aE ?_;intro hb))|refine aZ th Tryz.func106 (.inr ⟨_,rfl⟩) J J J ?_ rfl|((first|refine Md th J J J J J J J J J i _ J hx ?_|refine Md th J J J J J J J J J j _ J hy ?_);refine o8 th J ?_)|(refine aR (Jp _ _) [] J J J J J J J J J J ?_;refine ao th J ?_))
 all_goals first|(rw[show qz x y=none by(simp_all[qz,qT])];exact .fo (.cons (.one (.c (.nil 2))) (.cons (.refl _) .nil)))|skip
 all_goals
  have hS:qz x y=fL x.kind y x.ax:=by
   have:qT x y=true:=by simp_all[qT]
   simp[qz,this]
  refine pX 8 8 132 2 J J J ?_
  refine fz (fun(k:Nat) (u:List (Int×Int))=>k≤x.ax.length∧fL x.kind y (x.ax.take k)=some u)
   (fun k u=>[(6,.v (.one (.ptr 6 0))),(7,.v (.one (.ptr 7 0))),(8,.v (.one (.own 8))),(60,.v (C1 (nj x.ax))),(61,.v (C1 (.int .i64 (x.ax.length:Int)))),(62,.v (C1 (.int .i64 (k:Int))))])
   (fun k u=>[(6,.box [.c (.int .i64 x.kind),.c (.str x.peer),.c (nj x.ax)]),(7,.box [.c (.int .i64 y.kind),.c (.str y.peer),.c (nj y.ax)]),(8,.arr false 132 2 (u.map rS))])
   (fun k _=>x.ax.length - k) 0 [] ⟨aF _,rfl⟩
   aH (fun k u hk ih=>?_)
  obtain⟨hk,hu⟩:=hk
  by_cases bj:k < x.ax.length
  ·have Qd:(x.ax.map Edge.cs)[k]? =some (x.ax[k]).cs:=by simp[bj]
   have hlen:u.length≤18:=by
    have:=tK hu
    rw[aO]at this
    omega
   have cY:=L9 y x.ax[k].label
   cases hE:jE y x.ax[k].label with
   |none=>
    rw[hE]at cY
    simp only[Mc,Option.getD_none,lJ]at cY
    have TA:pf x.kind y x.ax[k]=some []:=by simp[pf,hE]
    repeat'(first|refine aA ?_|(refine aB ?_ ?_<;>first|exact aD|(refine aE ?_;intro hb))|refine aZ th Tryz.func106 (.inr ⟨_,rfl⟩) J J J ?_ rfl|((first|refine bO th J J J J J J J J J k _ J Qd ?_|refine aR cY [] J J J J J J J J J J ?_|refine bH J J J J J J (by omega) ?_);refine ao th J ?_))
    all_goals
     have cT:=ih (k+1) u ⟨bj,by simpa using xJ bj hu TA⟩ (by omega)
     exact aS cT
   |some c=>
    rw[hE]at cY
    simp only[Mc,gk,lI]at cY
    repeat'(first|refine aA ?_|(refine aB ?_ ?_<;>first|exact aD|(refine aE ?_;intro hb))|refine aZ th Tryz.func106 (.inr ⟨_,rfl⟩) J J J ?_ rfl|((first|refine bO th J J J J J J J J J k _ J Qd ?_|refine aR cY [] J J J J J J J J J J ?_|refine bH J J J J J J (by omega) ?_);refine ao th J ?_)|(refine eo th J J J J J J J J J J J J J J J (by constructor<;>simp<;>omega) ?_;refine ao th J ?_))
    all_goals first
     |(have cV:¬x.ax[k].kind=c.kind:=by assumption
       have TA:pf x.kind y x.ax[k]=none:=by simp[pf,hE,cV]
       rw[hS,I0 bj TA]
       exact .fo (.cons (.one (.c (.nil 2))) (.cons (.refl _) .nil)))
     |(have RY:x.ax[k].kind=c.kind:=by omega
       have TA:pf x.kind y x.ax[k]=some ((if x.ax[k].kind=5∧x.kind=1 then[(c.at_,x.ax[k].at_)]else[])++((if x.ax[k].kind=5∧x.kind=2 then[(x.ax[k].at_,c.at_)]else[])++[(x.ax[k].next,c.next)])):=by
        simp only[pf,hE,RY,if_true]
       have cT:=ih (k+1) _ ⟨bj,xJ bj hu TA⟩ (by omega)
       refine GX ?_ ?_ rfl rfl rfl cT
       ·exact⟨⟨_,rfl,.refl _⟩,⟨_,rfl,.refl _⟩,⟨_,rfl,.refl _⟩,⟨_,rfl,.refl _⟩,⟨_,rfl,eM J⟩,⟨_,rfl,eM (by omega)⟩,trivial⟩
       refine⟨⟨_,rfl,.refl _⟩,⟨_,rfl,.refl _⟩,⟨_,rfl,fE ?_⟩,trivial⟩
       clear cT ih TA
       (repeat' split)<;>first|(simp;done)|(exfalso;omega))
  ·have gv:k=x.ax.length:=by omega
   subst gv
   rw[bq]at hu
   rw[hS,hu]
   repeat'(first|refine aA ?_|(refine aB ?_ ?_<;>first|exact aD|(refine aE ?_;intro hb))|refine aZ th Tryz.func106 (.inr ⟨_,rfl⟩) J J J ?_ rfl|(refine dY 8 J J ?_))
   all_goals exact .refl _
end Go.Sy
set_option linter.unusedSimpArgs false
set_option linter.unusedVariables false
set_option linter.unusedSectionVars false
namespace Go.Sy
theorem zd:∀(N:Nat) (l:List Nat),l.Nodup→(∀x∈l,x < N)→l.length≤N
 |0,l,_,h=>by
  cases l with
  |nil=>simp
  |cons a l=>exact absurd (h a ah) (by omega)
 |N+1,l,hn,h=>by
  have h1:=zd N (l.erase N) (hn.erase N) (fun x hx=>by
   have:=(hn.mem_erase_iff).1 hx
   have:=h x this.2
   omega)
  rw[List.length_erase]at h1
  split at h1<;>omega
def GH(n:Nat)(p:Int×Int):Prop:=0≤p.1∧p.1 < n∧0≤p.2∧p.2 < n
theorem K6{n:Nat}{l:List (Int×Int)}(hn:l.Nodup)(h:∀p∈l,GH n p):l.length≤n * n:=by
 have h1:(l.map fun p=>p.1.toNat * n+p.2.toNat).Nodup:=by
  rw[bM,eP]
  refine List.Pairwise.imp_of_mem ?_ hn
  intro a b ha hb cV e
  apply cV
  obtain⟨a1,a2,a3,a4⟩:=h a ha
  obtain⟨b1,b2,b3,b4⟩:=h b hb
  have TB:a.2.toNat < n:=by omega
  have Sg:b.2.toNat < n:=by omega
  have e2:a.2.toNat=b.2.toNat:=by
   have:=congrArg (·% n) e
   simpa[Nat.mul_add_mod_of_lt,x9,Nat.mul_comm,Nat.mod_eq_of_lt,TB,Sg]using this
  have e1:a.1.toNat=b.1.toNat:=by
   rw[e2]at e
   exact Nat.eq_of_mul_eq_mul_right (by omega) (Nat.add_right_cancel e)
  exact vC (by omega) (by omega)
 have h2:=zd (n * n) _ h1 (fun x hx=>by
  obtain⟨p,hp,rfl⟩:=aL.1 hx
  obtain⟨a1,a2,a3,a4⟩:=h p hp
  have h3:p.1.toNat+1≤n:=by omega
  have:=br n h3
  rw[ec]at this
  omega)
 simpa using h2
theorem F3{l:List (Int×Int)}{p:Int×Int}(h:l.Nodup):(lR l p).Nodup:=by
 unfold lR
 split
 ·exact h
 ·rename_i hp
  rw[eQ]
  exact⟨h,by simp,fun a ha b hb e=>by simp at hb;subst hb;subst e;exact hp ha⟩
theorem MJ{l:List (Int×Int)}{p q:Int×Int}:q∈lR l p↔q∈l∨q=p:=by
 unfold lR
 split
 ·rename_i hp
  constructor
  ·exact .inl
  ·rintro(h|rfl)
   ·exact h
   ·exact hp
 ·simp
def fG(l m:List (Int×Int)):List (Int×Int):=m.foldl lR l
theorem nR:∀{m l:List (Int×Int)},l.Nodup→(fG l m).Nodup
 |[],_,h=>h
 |p::m,l,h=>nR (m:=m) (F3 h)
theorem nS{q:Int×Int}:∀{m l:List (Int×Int)},q∈fG l m↔q∈l∨q∈m
 |[],l=>by simp[fG]
 |p::m,l=>by
  have:=nS (q:=q) (m:=m) (l:=lR l p)
  show q∈fG (lR l p) m↔_
  rw[this,MJ]
  simp[or_assoc]
theorem MI(l:List (Int×Int))(p:Int×Int):∃r,lR l p=l++r:=by
 unfold lR
 split
 ·exact⟨[],by simp⟩
 ·exact⟨[p],rfl⟩
theorem rh:∀(m l:List (Int×Int)),∃r,fG l m=l++r
 |[],l=>⟨[],by simp[fG]⟩
 |p::m,l=>by
  obtain⟨r,hr⟩:=MI l p
  obtain⟨r',gL⟩:=rh m (lR l p)
  exact⟨r++r',by show fG (lR l p) m=_;rw[gL,hr,bf]⟩
def tb(b:Bk)(x:Int):Nd:=(b.nodes[x.toNat]?).getD ⟨0,⟨#[]⟩,[]⟩
def ke(b:Bk)(p:Int×Int):Option (List (Int×Int)):=qz (tb b p.1) (tb b p.2)
def B2(b:Bk):Nat→Nat→List (Int×Int)→Option (List (Int×Int))
 |0,_,_=>none
 |f+1,i,out=>match out[i]? with
  |none=>some out
  |some p=>match ke b p with
   |none=>none
   |some l=>B2 b f (i+1) (fG out l)
def iM(b:Bk)(x y:Int):Option (List (Int×Int)):=
 if eJ b&&jv b.nodes.length x y then B2 b (b.nodes.length * b.nodes.length+1) 0 [(x,y)]else none
theorem p5{b:Bk}(h:eJ b=true){x:Nd}(hx:x∈b.nodes):ig b.nodes.length x=true:=by
 simp only[eJ,av]at h
 exact a7.1 h.2.2.2 x hx
theorem SO{b:Bk}(h:eJ b=true):b.nodes.length≤400:=by
 simp only[eJ,av,decide_eq_true_eq]at h
 exact h.1
theorem ta{n:Int}{x:Nd}(h:ig n x=true):x.ax.length≤6∧∀i,i < x.ax.length→wy n x.ax i=true:=by
 unfold ig at h
 split at h
 ·simp only[av,decide_eq_true_eq]at h
  exact⟨by omega,fun i hi=>by omega⟩
 ·simp only[av,decide_eq_true_eq]at h
  exact⟨h.2.2.2.1,fun i hi=>a7.1 h.2.2.2.2 i (ek.2 hi)⟩
theorem zm{n:Int}{x:Nd}(h:ig n x=true){e:Edge}(he:e∈x.ax):cg e.label=true∧0≤e.next∧e.next < n∧oz e.kind e.at_ n=true:=by
 obtain⟨i,hi,rfl⟩:=aC.1 he
 have:=(ta h).2 i hi
 cases i with
 |zero=>
  rw[pH hi]at this
  simp only[av,decide_eq_true_eq]at this
  exact⟨this.1,this.2.1,this.2.2.1,this.2.2.2⟩
 |succ j=>
  rw[pI hi]at this
  simp only[av,decide_eq_true_eq]at this
  exact⟨this.1,this.2.2.1,this.2.2.2.1,this.2.2.2.2⟩
theorem tB{x:Nd}{s:ByteArray}{e:Edge}(h:jE x s=some e):e∈x.ax∧e.label=s:=by
 unfold jE at h
 exact⟨kM h,by simpa using yD h⟩
theorem FY{n:Nat}{k:Int}{y:Nd}(hy:ig n y=true){x:Nd}(hx:ig n x=true){a:Edge}(ha:a∈x.ax){u:List (Int×Int)}(h:pf k y a=some u):∀p∈u,GH n p:=by
 unfold pf at h
 split at h
 ·injection h with h;subst h;simp
 ·rename_i c hc
  split at h
  ·rename_i hk
   injection h with h;subst h
   obtain⟨_,a1,a2,a3⟩:=zm hx ha
   obtain⟨_,c1,c2,c3⟩:=zm hy (tB hc).1
   intro p hp
   have hs:a.kind=5→0≤a.at_∧a.at_ < n∧0≤c.at_∧c.at_ < n:=by
    intro h5
    have ZL:c.kind=5:=by omega
    simp only[oz,h5,ZL,if_true,av,decide_eq_true_eq]at a3 c3
    omega
   rcases aK.1 hp with hp|hp
   ·split at hp
    ·rename_i h5;have:=hs h5.1;simp at hp;subst hp;exact⟨this.2.2.1,this.2.2.2,this.1,this.2.1⟩
    ·cases hp
   ·rcases aK.1 hp with hp|hp
    ·split at hp
     ·rename_i h5;have:=hs h5.1;simp at hp;subst hp;exact⟨this.1,this.2.1,this.2.2.1,this.2.2.2⟩
     ·cases hp
    ·simp at hp;subst hp;exact⟨a1,a2,c1,c2⟩
  ·cases h
theorem uC{n:Nat}{k:Int}{y:Nd}(hy:ig n y=true){x:Nd}(hx:ig n x=true):∀{l:List Edge} {u:List (Int×Int)},(∀a∈l,a∈x.ax)→fL k y l=some u→∀p∈u,GH n p
 |[],u,_,h=>by simp[fL]at h;subst h;simp
 |a::l,u,hl,h=>by
  unfold fL at h
  split at h
  ·cases h
  ·rename_i v hv
   split at h
   ·cases h
   ·rename_i v' wY
    injection h with h;subst h
    intro p hp
    rcases aK.1 hp with hp|hp
    ·exact FY hy hx (hl a ah) hv p hp
    ·exact uC hy hx (fun a ha=>hl a (ab _ ha)) wY p hp
theorem oL{b:Bk}{x:Int}(h0:0≤x)(h1:x < b.nodes.length):tb b x∈b.nodes∧∃i:Nat,x=i∧∃hi:i < b.nodes.length,tb b x=b.nodes[i]:=by
 have hi:x.toNat < b.nodes.length:=by omega
 have:tb b x=b.nodes[x.toNat]:=by simp[tb,hi]
 exact⟨by rw[this];exact an hi,x.toNat,by omega,hi,this⟩
theorem Bs{b:Bk}(hb:eJ b=true){p:Int×Int}(hp:GH b.nodes.length p){u:List (Int×Int)}(h:ke b p=some u):∀q∈u,GH b.nodes.length q:=by
 obtain⟨h1,h2,h3,h4⟩:=hp
 have hx:=p5 hb (oL h1 h2).1
 have hy:=p5 hb (oL h3 h4).1
 unfold ke qz at h
 split at h
 ·exact uC hy hx (fun a ha=>ha) h
 ·cases h
end Go.Sy
