/- The plain law of ProjectTwo: where a role takes part in all points but the ends, near sets are single points; no error; both roles' turns are dual. -/
import Derived.Test.YtdjocfajcbhmgaaGreatDoorZ8
import Derived.Test.YtdjocfajcbhmgaaGreatDoorZ5
import Derived.Test.YtdjocfajcbhmgaaGreatDoorZ1
import Derived.Test.YtdjocfajcbhmgaaGreatDoorZ29
import Derived.Test.YtdjocfajcbhmgaaGreatDoorBc
import Derived.Test.YtdjocfajcbhmgaaGreatDoorAu
import Derived.Test.YtdjocfajcbhmgaaGreatDoorFd
import Derived.Test.YtdjocfajcbhmgaaGreatDoorSy3
set_option maxHeartbeats 64000000
set_option linter.unusedSimpArgs false
set_option linter.unusedVariables false
set_option linter.unusedSectionVars false
namespace Go.Sy
structure kC(p:b7)(role:ByteArray):Prop where
 may:dj p=true
 has:hasB p.aW role=true
 two:∀x,n5 (aM p x) role=decide (0 < (aM p x).ax.length)
def wu(p:b7)(y:Int):List Int:=if(aM p y).ax.length=0 then[]else[y]
def Jl(p:b7)(y:Int):Prop:=0≤y∧y < (p.points.length:Int)
variable {p:b7} {role r r':ByteArray}
theorem kC.pass(h:kC p role)(y:Int):eY p role y=[]:=by
 unfold eY
 rw[h.two y]
 by_cases ha:0 < (aM p y).ax.length
 ·rw[decide_eq_true ha];rfl
 ·rw[decide_eq_false ha,if_neg (by simp)]
  exact bK (by omega)
theorem kC.near(h:kC p role){y:Int}(hy:Jl p y):bV p role [y]=wu p y:=by
 unfold wu
 by_cases ha:(aM p y).ax.length=0
 ·rw[if_pos ha,H7 (ju h.may) hy (by rw[h.two y];exact decide_eq_false (by omega)),bK ha]
  exact KE (ju h.may)
 ·rw[if_neg ha]
  exact Oe (ju h.may) hy (by rw[h.two y];exact decide_eq_true (by omega)) fun x=>aq
theorem kC.mix(h:kC p role){y:Int}(hy:Jl p y):lr p role [y]=false:=by
 have hw:∀x∈fu p role [y],x=y:=fun x hx=>by
  have:=(jm (ju h.may) [y]).1 hx
  rw[vh (yQ hy)]at this
  exact Cb (h.pass y) this
 unfold lr
 cases hl:jQ p role y with
 |true=>
  rw[show(fu p role [y]).any (fun x=>!jQ p role x)=false from fH.2 fun x hx=>by rw[hw x hx,hl];simp,Bool.and_false]
 |false=>
  rw[show(fu p role [y]).any (fun x=>jQ p role x)=false from fH.2 fun x hx=>by rw[hw x hx,hl];simp,Bool.false_and]
structure xY(p:b7)(S:List (List Int)):Prop where
 nodup:S.Nodup
 one:∀N∈S,∃y,Jl p y∧N=wu p y
theorem xY.len{S:List (List Int)}(h:xY p S)(hv:dj p=true):S.length≤25:=by
 have hl:=hJ hv
 have:=pL h.nodup (m:=[]::(x6 p.points.length).map fun x=>[x]) fun N hN=>by
  obtain⟨y,hy,rfl⟩:=h.one N hN
  unfold wu
  split
  ·exact ah
  ·exact ab _ (bp (f:=fun x:Int=>[x]) (vf.2 hy))
 rw[cd,ak,NA]at this
 omega
def wR(p:b7)(S:List (List Int))(y:Int):Int×List (List Int):=
 if wu p y∈S then(((S.idxOf (wu p y):Nat):Int),S)else((S.length:Int),S++[wu p y])
theorem CJ{S:List (List Int)}(h:xY p S){y:Int}(hy:Jl p y):xY p (wR p S y).2:=by
 unfold wR
 split
 ·exact h
 ·rename_i hn
  refine⟨?_,fun N hN=>?_⟩
  ·rw[eQ]
   exact⟨h.nodup,by simp,fun x hx z hz e=>by rw[aq]at hz;subst hz;exact hn (e▸hx)⟩
  ·rcases aK.1 hN with h1|h1
   ·exact h.one N h1
   ·rw[aq]at h1;exact⟨y,hy,h1⟩
theorem kC.look(h:kC p role){S:List (List Int)}(hS:xY p S){y:Int}(hy:Jl p y):cp p role S [y]=(((wR p S y).1,0),(wR p S y).2):=by
 have hl:=hS.len h.may
 unfold cp wR
 rw[h.mix hy,h.near hy]
 simp only[cP,if_false]
 split
 ·rfl
 ·rw[if_neg (by omega)]
def N2(arr:List bD)(s:ByteArray):Int:=(df arr s).headD 0
def xL(p:b7)(arr:List bD):List ByteArray→List bD→List (List Int)→List bD×List (List Int)
 |[],out,S=>(out,S)
 |s::ls,out,S=>xL p arr ls (out++[⟨s,(kc arr s).1,(kc arr s).2,(wR p S (N2 arr s)).1⟩]) (wR p S (N2 arr s)).2
theorem kC.ax(h:kC p role){arr:List bD}:∀(ls:List ByteArray) (out:List bD) (S:List (List Int)),xY p S→(∀s∈ls,∃y,Jl p y∧df arr s=[y])→
 di p role arr ls out S=(((xL p arr ls out S).1,0),(xL p arr ls out S).2)∧xY p (xL p arr ls out S).2
 |[],out,S,hS,_=>⟨rfl,hS⟩
 |s::ls,out,S,hS,hn=>by
  obtain⟨y,hy,e⟩:=hn s ah
  have hx:N2 arr s=y:=by unfold N2;rw[e];rfl
  rw[di,xL,e,h.look hS hy,if_pos J,hx]
  exact h.ax ls _ _ (CJ hS hy) fun z hz=>hn z (ab _ hz)
theorem wC:∀{l:List bD},(l.map bD.label).Nodup→∀{a:bD},a∈l→df l a.label=[a.next]
 |[],_,_,h=>by cases h
 |b::l,hd,a,h=>by
  rw[bN,gM]at hd
  unfold df
  rw[List.filter_cons]
  rcases ae.1 h with rfl|h
  ·rw[decide_eq_true J,if_pos J,bN]
   have:l.filter (fun c=>decide (c.label=a.label))=[]:=List.filter_eq_nil_iff.2 fun c hc e=>hd.1 (by rw[←of_decide_eq_true e];exact bp hc)
   rw[this];rfl
  ·have cV:¬b.label=a.label:=fun e=>hd.1 (by rw[e];exact bp h)
   rw[decide_eq_false cV,if_neg (by simp)]
   exact wC hd.2 h
theorem nk(p:b7)(y:Int):cr p [y]=(aM p y).ax:=by simp[cr]
theorem MG(p:b7)(y:Int):dK p [y]=dF (aM p y):=Bu (pn p [y]) (pP _) fun z=>by
 rw[kA,nk,iW]
theorem rE(hv:dj p=true)(y:Int):(aM p y).ax.length≤6∧((aM p y).ax.map bD.label).Nodup:=by
 rcases fB hv y with e|h
 ·rw[e];exact⟨by simp,mC⟩
 ·exact⟨(dx h).1.2,(dx h).2.2⟩
theorem HZ{l:List bD}(hd:(l.map bD.label).Nodup):eN l=false:=by
 cases hc:eN l with
 |false=>rfl
 |true=>
  obtain⟨a,ha,b,hb,e,hn⟩:=(tG l).1 hc
  exact absurd (by rw[pN hd ha hb e]) hn
theorem KC(hv:dj p=true)(y:Int):∀s∈dF (aM p y),∃z,Jl p z∧df (aM p y).ax s=[z]:=fun s hs=>by
 obtain⟨a,ha,rfl⟩:=(iW _ _).1 hs
 exact⟨a.next,ju hv y a ha,wC (rE hv y).2 ha⟩
def rF(p:b7)(role:ByteArray)(S:List (List Int))(y:Int):jk×List (List Int):=
 if(aM p y).ax.length=0 then(gV,S)
 else(⟨kindOf (bc p role y).1,(bc p role y).2,(xL p (aM p y).ax (dF (aM p y)) [] S).1⟩,(xL p (aM p y).ax (dF (aM p y)) [] S).2)
theorem kC.qF(h:kC p role){S:List (List Int)}(hS:xY p S){y:Int}(hy:Jl p y):dT p role S (wu p y)=(((rF p role S y).1,0),(rF p role S y).2)∧xY p (rF p role S y).2:=by
 obtain⟨h6,hd⟩:=rE h.may y
 unfold rF wu
 by_cases ha:(aM p y).ax.length=0
 ·rw[if_pos ha,if_pos ha];exact⟨rfl,hS⟩
 ·rw[if_neg ha,if_neg ha]
  obtain⟨k1,k2⟩:=h.ax (dF (aM p y)) [] S hS (KC h.may y)
  refine⟨?_,k2⟩
  unfold dT
  simp only
  rw[MG,nk,k1,HZ hd]
  rw[show([y].any fun x=>decide (bc p role x≠bc p role y))=false by simp,show([y].any fun x=>decide (dF (aM p x)≠dF (aM p y)))=false by simp,Bool.and_false]
  have hc:=CO hd
  rw[if_neg (by simp),if_neg (by simp),if_neg (by omega),if_neg (by simp),if_pos J]
def MV(r r':ByteArray)(t u:jk):Prop:=t.ax=u.ax∧((t=gV∧u=gV)∨((t.kind=1∧u.kind=2)∧t.peer=r'∧u.peer=r)∨((t.kind=2∧u.kind=1)∧t.peer=r'∧u.peer=r))
def D5(r r':ByteArray)(l m:List jk):Prop:=l.length=m.length∧∀(i:Nat) (t u:jk),l[i]? =some t→m[i]? =some u→MV r r' t u
theorem FM{l m:List jk}{t u:jk}(h:D5 r r' l m)(d:MV r r' t u):D5 r r' (l++[t]) (m++[u]):=by
 refine⟨by simp[h.1],fun i a b ha hb=>?_⟩
 by_cases hi:i < l.length
 ·rw[aw hi]at ha
  rw[aw (by rw[←h.1];exact hi)]at hb
  exact h.2 i a b ha hb
 ·rw[aN (by omega)]at ha
  rw[aN (by rw[←h.1];omega),←h.1]at hb
  cases hk:i - l.length with
  |zero=>
   rw[hk]at ha hb
   simp only[dM,cI]at ha hb
   rw[←ha,←hb];exact d
  |succ k=>rw[hk]at ha;simp at ha
theorem Ek(hs:∀y,(aM p y).ax.length≠0→∃b,bc p r y=(b,r')∧bc p r' y=(!b,r))(S:List (List Int))(y:Int):MV r r' (rF p r S y).1 (rF p r' S y).1∧(rF p r S y).2=(rF p r' S y).2:=by
 unfold rF
 by_cases ha:(aM p y).ax.length=0
 ·rw[if_pos ha,if_pos ha];exact⟨⟨rfl,.inl ⟨rfl,rfl⟩⟩,rfl⟩
 ·rw[if_neg ha,if_neg ha]
  refine⟨⟨rfl,.inr ?_⟩,rfl⟩
  obtain⟨b,e1,e2⟩:=hs y ha
  rw[e1,e2]
  cases b with
  |true=>exact .inl ⟨⟨rfl,rfl⟩,rfl,rfl⟩
  |false=>exact .inr ⟨⟨rfl,rfl⟩,rfl,rfl⟩
theorem yG(h:kC p r)(h':kC p r')(hs:∀y,(aM p y).ax.length≠0→∃b,bc p r y=(b,r')∧bc p r' y=(!b,r)):∀(f i:Nat) (out Kk:List jk) (S:List (List Int)),xY p S→D5 r r' out Kk→
 (fc p r f i out S).2=0∧(fc p r' f i Kk S).2=0∧D5 r r' (fc p r f i out S).1 (fc p r' f i Kk S).1
 |0,i,out,Kk,S,hS,hd=>⟨rfl,rfl,hd⟩
 |f+1,i,out,Kk,S,hS,hd=>by
  rw[fc,fc]
  cases hi:S[i]? with
  |none=>exact⟨rfl,rfl,hd⟩
  |some N=>
   obtain⟨y,hy,rfl⟩:=hS.one N (aj hi)
   obtain⟨e1,k1⟩:=h.qF hS hy
   obtain⟨e2,_⟩:=h'.qF hS hy
   obtain⟨d1,d2⟩:=Ek hs S y
   simp only
   rw[e1,e2,if_pos J,if_pos J,←d2]
   exact yG h h' hs f (i+1) _ _ _ k1 (FM hd d1)
theorem sH(h:kC p r)(h':kC p r')(hs:∀y,(aM p y).ax.length≠0→∃b,bc p r y=(b,r')∧bc p r' y=(!b,r)):
 (dm p r).2=0∧(dm p r').2=0∧D5 r r' (dm p r).1.turns (dm p r').1.turns:=by
 have hl:=hJ h.may
 have h0:Jl p 0:=⟨Int.le_refl _,by omega⟩
 have hK:xY p []:=⟨mC,fun N hN=>by cases hN⟩
 have hk:=CJ hK h0
 obtain⟨q1,q2,q3⟩:=yG h h' hs 41 0 [] [] _ hk ⟨rfl,fun i t u h=>by simp at h⟩
 unfold dm
 rw[h.may,h.has,h'.has,h.look hK h0,h'.look hK h0]
 simp only[Bool.and_self,if_true]
 rw[if_pos q1,if_pos q2]
 exact⟨rfl,rfl,q3⟩
def Vt(p:b7)(S:List (List Int))(y t:Int):Prop:=0≤t∧S[t.toNat]? =some (wu p y)∧Jl p y
theorem DN(h:kC p role){S:List (List Int)}{l:Loc}(hP:Proj p role S l):Vt p S 0 0:=by
 have hl:=hJ h.may
 have h0:Jl p 0:=⟨Int.le_refl _,by omega⟩
 exact⟨Int.le_refl _,by rw[←h.near h0];exact hP.zero,h0⟩
section
variable {me:ByteArray} {l:Loc}
end
section
variable {p:b7} {r r' me q:ByteArray} {l:Loc}
theorem GV:hasB [r,r'] r=true∧hasB [r,r'] r'=true:=⟨fh.2 (by simp),fh.2 (by simp)⟩
theorem yH(hv:dj p=true)(om:p.aW=[r,r'])(y:Int):((aM p y).from_=⟨#[]⟩∧(aM p y).to=⟨#[]⟩∧(aM p y).ax.length=0)∨
 (0 < (aM p y).ax.length∧(((aM p y).from_=r∧(aM p y).to=r')∨((aM p y).from_=r'∧(aM p y).to=r))):=by
 rcases mI p y with hm|hm
 ·rcases Ci (pB hv _ hm)with⟨e1,e2,e3⟩|⟨h1,h2,h3,h4⟩
  ·exact .inl ⟨e1,e2,by rw[e3];rfl⟩
  ·refine .inr ⟨MC h4,?_⟩
   rw[om]at h1 h2
   simp only[ae,kF,or_false]at h1 h2
   rcases h1 with e1|e1<;>rcases h2 with e2|e2
   ·exact absurd (e1.trans e2.symm) h3
   ·exact .inl ⟨e1,e2⟩
   ·exact .inr ⟨e1,e2⟩
   ·exact absurd (e1.trans e2.symm) h3
 ·rw[hm];exact .inl ⟨rfl,rfl,rfl⟩
theorem Ak(hv:dj p=true)(om:p.aW=[r,r'])(cV:r≠r')(h1:r≠⟨#[]⟩)(h2:r'≠⟨#[]⟩):
 kC p r∧kC p r'∧∀y,(aM p y).ax.length≠0→∃b,bc p r y=(b,r')∧bc p r' y=(!b,r):=by
 have ur:∀s∈([r,r']:List ByteArray),∀x,n5 (aM p x) s=decide (0 < (aM p x).ax.length):=fun s hs x=>by
  unfold n5
  simp only[ae,kF,or_false]at hs
  rcases yH hv om x with⟨e1,e2,e3⟩|⟨h,⟨e1,e2⟩|⟨e1,e2⟩⟩
  ·rw[e1,e2,e3];rcases hs with rfl|rfl<;>simp[Ne.symm h1,Ne.symm h2]
  ·rw[e1,e2,decide_eq_true h];rcases hs with rfl|rfl<;>simp
  ·rw[e1,e2,decide_eq_true h];rcases hs with rfl|rfl<;>simp
 refine⟨⟨hv,by rw[om];exact GV.1,ur _ (by simp)⟩,⟨hv,by rw[om];exact GV.2,ur _ (by simp)⟩,fun y hy=>?_⟩
 unfold bc oA
 rcases yH hv om y with⟨_,_,e3⟩|⟨_,⟨e1,e2⟩|⟨e1,e2⟩⟩
 ·exact absurd e3 hy
 ·exact⟨true,by rw[if_pos e1,e2],by rw[if_neg (by rw[e1];exact cV),e1];rfl⟩
 ·exact⟨false,by rw[if_neg (by rw[e1];exact Ne.symm cV),e1],by rw[if_pos e1,e2];rfl⟩
structure Lifted(l A M B:Loc)(me q:ByteArray)(x y z u:Int):Prop where
 rx:0≤x∧x < (l.turns.length:Int)
 ry:0≤y∧y < (A.turns.length:Int)
 rz:0≤z∧z < (M.turns.length:Int)
 ru:0≤u∧u < (B.turns.length:Int)
 ka:(dc l x).kind=(dc A y).kind
 kb:(dc M z).kind=(dc B u).kind
 peers:(dc A y).kind≠0→(dc A y).peer=q∧(dc B u).peer=me
 reach:x∈eT l.g
end
theorem BR{p:b7}{r r':ByteArray}(hv:dj p=true)(om:p.aW=[r,r'])(cV:r≠r')(h1:r≠⟨#[]⟩)(h2:r'≠⟨#[]⟩):(kg p).2=0:=by
 obtain⟨a,b,c⟩:=Ak hv om cV h1 h2
 obtain⟨e1,e2,_⟩:=sH a b c
 refine PR hv fun q hq=>?_
 rw[om]at hq
 rcases ae.1 hq with rfl|hq
 ·exact e1
 ·rw[aq]at hq;subst hq;exact e2
end Go.Sy
set_option linter.unusedSimpArgs false
set_option linter.unusedVariables false
set_option linter.unusedSectionVars false
namespace Go.Sy
open Go.Proofs
set_option maxRecDepth 100000
attribute [local irreducible] SOps Goes DOps EOps
def qV(p:Edge→Bool)(l:List Edge):Int:=
 match l.findIdx? p with
 |some i=>(i:Int)
 |none=>-1
theorem C3{p:Edge→Bool}{l:List Edge}{k:Nat}(hk:k < l.length)(ha:∀i (h:i < k),p (l[i]'(by omega))=false)(hp:p l[k]=true):qV p l=(k:Int):=by
 have:l.findIdx? p=some k:=by
  rw[bh]
  exact⟨hk,hp,fun j hj=>by simp[ha j hj]⟩
 simp[qV,this]
theorem zD{p:Edge→Bool}{l:List Edge}(ha:∀i (h:i < l.length),p l[i]=false):qV p l=-1:=by
 have:l.findIdx? p=none:=by
  rw[bx]
  intro x hx
  obtain⟨i,hi,rfl⟩:=aC.1 hx
  simp[ha i hi]
 simp[qV,this]
theorem CZ(p:Edge→Bool)(l:List Edge)(g:Nat)(c0:CT)
 (hc:∀e:Edge,er Tryz.prog g [[c0]] [Ag e.cs,.one (.ptr given 0)] (Rv (.bool (p e))) [[c0]]):
 er Tryz.prog 119 [[c0]] [C1 (nj l),.one (.kD g [given])] (Rv (.int .i64 (qV p l))) [[c0]]:=by
 refine bn (c:=_) Tryz.func119 rfl rfl rfl (by decide) fun w M0 H Z=>?_
 repeat'(first|refine aA ?_|(refine aB ?_ ?_<;>first|exact aD|(refine aE ?_;intro hb))|refine dw th Tryz.func119 (.inr ⟨_,rfl⟩) J J J ⟨?_,rfl⟩)
 all_goals try simp only[ak]at *
 refine il 6 J fun nw=>?_
 simp only[ak]at nw
 refine bE (fun k:Nat=>k≤l.length∧∀i (h:i < k) (h':i < l.length),p l[i]=false)
  (fun k=>[(0,.v (C1 (nj l))),(1,.v (.one (.kD g [given]))),(7,.v (C1 (.int .i64 (l.length:Int)))),(8,.v (C1 (.int .i64 (k:Int))))])
  (fun _=>[(given,.box [.c c0])]) (fun k=>l.length - k) 0 ⟨aF _,fun i h=>by omega⟩
  aH (fun k hk ih=>?_)
 obtain⟨hk,ha⟩:=hk
 by_cases bj:k < l.length
 ·have hx:(l.map Edge.cs)[k]? =some (l[k]).cs:=by simp[bj]
  repeat'(first|refine aA ?_|(refine aB ?_ ?_<;>first|exact aD|(refine aE ?_;intro hb))|refine dw th Tryz.func119 (.inr ⟨_,rfl⟩) J J J ⟨?_,rfl⟩|((first|refine bO th J J J J J J J J J k _ J hx ?_|refine ua (hc l[k]) [given] J J J J J J J J J J J J ?_|refine bH J J J J J J (by omega) ?_);refine ao th J ?_))
  ·simp[dd,C3 bj (fun i h=>ha i h (by omega)) hb]
  ·refine aS (ih (k+1) ⟨bj,fun i h h'=>?_⟩ (by omega))
   by_cases oW:i=k
   ·subst oW;exact hb
   ·exact ha i (by omega) h'
 ·have gv:k=l.length:=by omega
  subst gv
  repeat'(first|refine aA ?_|(refine aB ?_ ?_<;>first|exact aD|(refine aE ?_;intro hb))|refine dw th Tryz.func119 (.inr ⟨_,rfl⟩) J J J ⟨?_,rfl⟩)
  all_goals simp[dd,zD (fun i h=>ha i h h)]
theorem A0(p:Edge→Bool)(l:List Edge)(g:Nat)(c0 c1 c2:CT)
 (hc:∀e:Edge,er Tryz.prog g [[c0,c1,c2]] [Ag e.cs,.one (.ptr given 0)] (Rv (.bool (p e))) [[c0,c1,c2]]):
 er Tryz.prog 119 [[c0,c1,c2]] [C1 (nj l),.one (.kD g [given])] (Rv (.int .i64 (qV p l))) [[c0,c1,c2]]:=by
 refine bn (c:=_) Tryz.func119 rfl rfl rfl (by decide) fun w M0 H Z=>?_
 repeat'(first|refine aA ?_|(refine aB ?_ ?_<;>first|exact aD|(refine aE ?_;intro hb))|refine dw th Tryz.func119 (.inr ⟨_,rfl⟩) J J J ⟨?_,rfl⟩)
 all_goals try simp only[ak]at *
 refine il 6 J fun nw=>?_
 simp only[ak]at nw
 refine bE (fun k:Nat=>k≤l.length∧∀i (h:i < k) (h':i < l.length),p l[i]=false)
  (fun k=>[(0,.v (C1 (nj l))),(1,.v (.one (.kD g [given]))),(7,.v (C1 (.int .i64 (l.length:Int)))),(8,.v (C1 (.int .i64 (k:Int))))])
  (fun _=>[(given,.box [.c c0,.c c1,.c c2])]) (fun k=>l.length - k) 0 ⟨aF _,fun i h=>by omega⟩
  aH (fun k hk ih=>?_)
 obtain⟨hk,ha⟩:=hk
 by_cases bj:k < l.length
 ·have hx:(l.map Edge.cs)[k]? =some (l[k]).cs:=by simp[bj]
  repeat'(first|refine aA ?_|(refine aB ?_ ?_<;>first|exact aD|(refine aE ?_;intro hb))|refine dw th Tryz.func119 (.inr ⟨_,rfl⟩) J J J ⟨?_,rfl⟩|((first|refine bO th J J J J J J J J J k _ J hx ?_|refine ua (hc l[k]) [given] J J J J J J J J J J J J ?_|refine bH J J J J J J (by omega) ?_);refine ao th J ?_))
  ·simp[dd,C3 bj (fun i h=>ha i h (by omega)) hb]
  ·refine aS (ih (k+1) ⟨bj,fun i h h'=>?_⟩ (by omega))
   by_cases oW:i=k
   ·subst oW;exact hb
   ·exact ha i (by omega) h'
 ·have gv:k=l.length:=by omega
  subst gv
  repeat'(first|refine aA ?_|(refine aB ?_ ?_<;>first|exact aD|(refine aE ?_;intro hb))|refine dw th Tryz.func119 (.inr ⟨_,rfl⟩) J J J ⟨?_,rfl⟩)
  all_goals simp[dd,zD (fun i h=>ha i h h)]
end Go.Sy
