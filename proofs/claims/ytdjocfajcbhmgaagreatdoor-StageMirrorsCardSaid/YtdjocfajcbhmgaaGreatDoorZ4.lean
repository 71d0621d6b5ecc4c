/- The plain law of books (P9.2): what book.Of computes. -/
import Derived.Test.YtdjocfajcbhmgaaGreatDoorZ3
import Derived.Test.YtdjocfajcbhmgaaGreatDoorZ2
import Derived.Test.YtdjocfajcbhmgaaGreatDoorBn1
import Derived.Test.YtdjocfajcbhmgaaGreatDoorSy4
set_option linter.unusedSimpArgs false
set_option linter.unusedVariables false
set_option linter.unusedSectionVars false
namespace Go.Sy
abbrev ve:=List (ByteArray×Int)
def vv(a:ByteArray)(x:Int):ve→ve
 |[]=>[(a,x)]
 |q::m=>if a=q.1 then(a,x)::m else q::vv a x m
def lU(a:ByteArray):ve→Int
 |[]=>0
 |q::m=>if a=q.1 then q.2 else lU a m
abbrev u5(m:ve):List (ByteArray×CT):=m.map fun q=>(q.1,.int .i64 q.2)
theorem rZ(a:ByteArray):∀m:ve,iU (u5 m) a (.int .i64 0)=.int .i64 (lU a m)
 |[]=>rfl
 |q::m=>by
  by_cases h:a=q.1
  ·simp[iU,lU,u5,h]
  ·have ih:=rZ a m
   rw[lU,if_neg h,←ih]
   simp[iU,u5,h]
theorem Bb(a:ByteArray)(x:Int):∀m:ve,mx (u5 m) a (.int .i64 x)=u5 (vv a x m)
 |[]=>rfl
 |q::m=>by
  by_cases h:a=q.1
  ·simp[mx,vv,u5,h,kV]
  ·have ih:=Bb a x m
   rw[vv,if_neg h]
   unfold mx at ih⊢
   simp only[u5,bF,kV,h,decide_false,dS,if_false]at ih⊢
   cases hf:(List.map (fun q:ByteArray×Int=>(q.1,CT.int .i64 q.2)) m).findIdx? fun q=>decide (a=q.1)with
   |none=>rw[hf]at ih;simp only[Option.map_none]at ih⊢;rw[cX,ih]
   |some i=>rw[hf]at ih;simp only[iI]at ih⊢;rw[List.set_cons_succ,ih]
theorem Ae(a b:ByteArray)(x:Int):∀m:ve,lU b (vv a x m)=if b=a then x else lU b m
 |[]=>rfl
 |q::m=>by
  rw[vv]
  by_cases h:a=q.1
  ·rw[if_pos h,lU,lU]
   by_cases hb:b=a
   ·rw[if_pos hb,if_pos hb]
   ·rw[if_neg hb,if_neg hb,if_neg (fun e=>hb (e.trans h.symm))]
  ·rw[if_neg h,lU,lU,Ae a b x m]
   by_cases hb:b=a
   ·subst hb;simp[h]
   ·simp[hb]
def mU(g:ByteArray→Int)(n:Int)(a:bM):Edge:=⟨a.label,a.kind,if a.kind=5 then g a.name else 0,n+a.next⟩
def mO(g:ByteArray→Int)(n:Int)(t:fe):Nd:=⟨t.kind,t.peer,t.aP.map (mU g n)⟩
def tx(s:Int×ve)(l:Loc):Int×ve:=(s.1+l.turns.length,vv l.name s.1 s.2)
def yA(L:List Loc):ve:=(L.foldl tx (0,[])).2
def eV(L:List Loc)(s:ByteArray):Int:=lU s (yA L)
def ew(L:List Loc):List ByteArray:=L.foldl (fun o l=>nu o l.name) []
def gG(g:ByteArray→Int)(L:List Loc):List Nd:=L.foldl (fun o l=>o++l.turns.map (mO g (o.length:Int))) []
def cM(L:List Loc):Bk:=⟨gG (eV L) L,ew L,(ew L).map (eV L)⟩
abbrev qX:=Int×Int×Int
abbrev kE:qX:=(0,0,0)
def jP(ps:List dr)(ls:List Loc):qX:=
 if 6 < ps.length∨12 < ls.length then(900,-1,-1)
 else if 0≤fb (fun p=>!fK p) ps then(900,fb (fun p=>!fK p) ps,-1)
 else if 0≤fb (fun l:Loc=>!(c7 l&&bZ l.name)) ls then(900,(ps.length:Int)+fb (fun l:Loc=>!(c7 l&&bZ l.name)) ls,-1)
 else kE
def Lq(all:List ByteArray):Int:=fb (fun i:Nat=>decide (dw all (all.getD i ⟨#[]⟩) < (i:Int))) (List.range all.length)
def jr(all:List ByteArray):qX:=if 0≤Lq all then(901,Lq all,-1)else kE
def qN(ps:List dr)(ls:List Loc):List ByteArray:=ps.map dr.name++ls.map Loc.name
def jk:Nat→List dr→List (Nat×Loc)→List (Nat×Loc)×qX
 |_,[],out=>(out,kE)
 |i,p::r,out=>if(k9 p).2=0 then jk (i+1) r (out++(k9 p).1.1.map fun l=>(i,l))else([],(902,(i:Int),(k9 p).1.2))
def lb:Nat→List Loc→List (Nat×Loc)
 |_,[]=>[]
 |i,l::r=>(i,bj l)::lb (i+1) r
def eJ(ps:List dr)(ls:List Loc):List (Nat×Loc)×qX:=
 if(jk 0 ps []).2=kE then((jk 0 ps []).1++lb ps.length ls,kE)else([],(jk 0 ps []).2)
def fN(ps:List dr)(ls:List Loc)(s:ByteArray):Bool:=ls.any (fun l=>decide (l.name=s))||ps.any fun p=>p.roles.any fun r=>decide (kN p.name r=s)
def jM(K:ByteArray→Bool)(aP:List bM):Bool:=aP.any fun a=>decide (a.kind=5)&&!K a.name
def fZ(K:ByteArray→Bool)(g:List (List bM)):Int:=fb (jM K) g
def jz(K:ByteArray→Bool)(ps:List dr)(ls:List Loc):qX:=
 if 0≤fb (fun p:dr=>decide (0≤fZ K p.g)) ps then(903,fb (fun p:dr=>decide (0≤fZ K p.g)) ps,fZ K (ps.getD (fb (fun p:dr=>decide (0≤fZ K p.g)) ps).toNat ⟨⟨#[]⟩,[],[]⟩).g)
 else if 0≤fb (fun l:Loc=>decide (0≤fZ K l.g)) ls then(903,(ps.length:Int)+fb (fun l:Loc=>decide (0≤fZ K l.g)) ls,fZ K (ls.getD (fb (fun l:Loc=>decide (0≤fZ K l.g)) ls).toNat ⟨⟨#[]⟩,[]⟩).g)
 else kE
def fX:Nat→List (Nat×Loc)→qX
 |_,[]=>kE
 |c,x::r=>if 400 < c+x.2.turns.length then(904,(x.1:Int),-1)else fX (c+x.2.turns.length) r
def ER:Bk:=⟨[],[],[]⟩
def gC(x:List (Nat×Loc)):List Loc:=x.map Prod.snd
def P0(ps:List dr)(ls:List Loc):Bk×qX:=
 if jP ps ls≠kE then(ER,jP ps ls)
 else if jr (qN ps ls)≠kE then(ER,jr (qN ps ls))
 else if(eJ ps ls).2≠kE then(ER,(eJ ps ls).2)
 else if jz (fN ps ls) ps ls≠kE then(ER,jz (fN ps ls) ps ls)
 else if fX 0 (eJ ps ls).1≠kE then(ER,fX 0 (eJ ps ls).1)
 else(cM (gC (eJ ps ls).1),kE)
variable {p:dr} {role:ByteArray}
structure Bp(p:dr)(role:ByteArray)(S:List (List Int))(cr:List Int)(t:fe):Prop where
 kind:t.kind=1∨t.kind=2
 side:∀x∈cr,cT p role x=(decide (t.kind=1),t.peer)
 Sp:t.kind=1→∀x∈cr,kb (dh p x)=hU p cr
 len:(hU p cr).length≤6
 Aj:t.aP.map bM.label=hU p cr
 once:ir (fx p cr)=false
 arm:∀a∈t.aP,(a.kind,a.name)=nc (fx p cr) a.label∧pz p role (et (fx p cr) a.label)=false∧
  0≤a.next∧S[a.next.toNat]? =some (c6 p role (et (fx p cr) a.label))
def pK(p:dr)(role:ByteArray)(S:List (List Int))(cr:List Int)(t:fe):Prop:=(cr=[]∧t=mP)∨(cr≠[]∧Bp p role S cr t)
theorem DX{α:Type}{l r:List α}{k:Nat}{x:α}(h:l[k]? =some x):(l++r)[k]? =some x:=by
 rw[aG (ai.1 h).1];exact h
theorem Bp.grow{S:List (List Int)}{cr:List Int}{t:fe}(h:Bp p role S cr t)(r:List (List Int)):Bp p role (S++r) cr t:=
 ⟨h.kind,h.side,h.Sp,h.len,h.Aj,h.once,fun a ha=>let⟨h1,h2,h3,h4⟩:=h.arm a ha;⟨h1,h2,h3,DX h4⟩⟩
theorem pK.grow{S:List (List Int)}{cr:List Int}{t:fe}(h:pK p role S cr t)(r:List (List Int)):pK p role (S++r) cr t:=by
 rcases h with h|⟨h1,h2⟩
 ·exact .inl h
 ·exact .inr ⟨h1,h2.grow r⟩
def xL(n:Nat):List Int:=(List.range n).map Int.ofNat
theorem xK{n:Nat}{x:Int}:x∈xL n↔0≤x∧x < (n:Int):=by
 unfold xL
 simp only[aE,cc]
 constructor
 ·rintro⟨k,hk,rfl⟩;exact⟨Int.natCast_nonneg _,by show(k:Int) < n;omega⟩
 ·intro h;exact⟨x.toNat,by omega,by show((x.toNat:Nat):Int)=x;omega⟩
theorem GL(n:Nat):xL (n+1)=xL n++[(n:Int)]:=by
 unfold xL;rw[kR,a6];rfl
theorem Jc(out:List Int)(l:List bM)(a:bM):bS out (l++[a])=if a.next∈bS out l then bS out l else bS out l++[a.next]:=by
 have h:∀(l m:List bM) (out:List Int),bS out (l++m)=bS (bS out l) m:=by
  intro l
  induction l with
  |nil=>intro m out;rfl
  |cons x l ih=>intro m out;rw[cX,bS,bS,ih]
 rw[h,bS,bS]
theorem xv{arr:List bM}(r0:List Int):∀(ls:List ByteArray) {out:List bM} {S:List (List Int)},lG S→(e6 p role arr ls out S).1.2=0→
 bS r0 out=xL S.length→∃r L,(e6 p role arr ls out S).2=S++r∧(e6 p role arr ls out S).1.1=out++L∧L.map bM.label=ls∧
  bS r0 (out++L)=xL (S++r).length∧
  ∀a∈L,(a.kind,a.name)=nc arr a.label∧pz p role (et arr a.label)=false∧0≤a.next∧(S++r)[a.next.toNat]? =some (c6 p role (et arr a.label))
 |[],out,S,_,_,hb=>⟨[],[],by simp[e6],by simp[e6],rfl,by simpa using hb,fun a ha=>by cases ha⟩
 |s::ls,out,S,hS,h,hb=>by
  rw[e6]at h⊢
  by_cases h1:(du p role S (et arr s)).1.2=0
  ·rw[if_pos h1]at h⊢
   obtain⟨hm,k,hk,hg,hc⟩:=DL h1
   obtain⟨r1,FR⟩:=Ci (p:=p) (role:=role) S (et arr s)
   have yS:bS r0 (out++[⟨s,(nc arr s).1,(nc arr s).2,(du p role S (et arr s)).1.1⟩])=xL (du p role S (et arr s)).2.length:=by
    rw[Jc,hb,hk]
    show(if(k:Int)∈xL S.length then xL S.length else xL S.length++[(k:Int)])=_
    rcases hc with⟨bo,e⟩|⟨he,e⟩
    ·rw[e,if_pos (xK.2 ⟨by omega,by omega⟩)]
    ·rw[e,if_neg (fun hm=>by have:=xK.1 hm;omega),aL,mK,GL,he]
   obtain⟨r,L,e1,e2,e3,e4,e5⟩:=xv r0 ls (s6 hS _) h yS
   refine⟨r1++r,⟨s,(nc arr s).1,(nc arr s).2,(du p role S (et arr s)).1.1⟩::L,by rw[e1,FR,br],by rw[e2,br];rfl,by rw[bF,e3],?_,fun a ha=>?_⟩
   ·rw[FR,br S]at e4
    rw[←e4,br out];rfl
   ·rw[FR]at hg e5
    rcases ae.1 ha with rfl|ha
    ·refine⟨rfl,hm,by show 0≤(du p role S (et arr s)).1.1;omega,?_⟩
     show(S++(r1++r))[(du p role S (et arr s)).1.1.toNat]? =_
     rw[hk,cZ,←br]
     exact DX hg
    ·obtain⟨q1,q2,q3,q4⟩:=e5 a ha
     exact⟨q1,q2,q3,by rw[←br];exact q4⟩
  ·rw[if_neg h1]at h
   exact absurd h h1
theorem pA(b:Bool):(kindOf b=1∨kindOf b=2)∧decide (kindOf b=1)=b:=by cases b<;>simp[kindOf]
theorem En(r0:List Int){S:List (List Int)}(hS:lG S){cr:List Int}(h:(fE p role S cr).1.2=0)(hb:r0=xL S.length):
 ∃r,(fE p role S cr).2=S++r∧pK p role (S++r) cr (fE p role S cr).1.1∧bS r0 (fE p role S cr).1.1.aP=xL (S++r).length:=by
 unfold fE at h⊢
 cases cr with
 |nil=>exact⟨[],by simp,.inl ⟨rfl,rfl⟩,by simpa[bS,mP]using hb⟩
 |cons x0 rr=>
  simp only at h⊢
  generalize Ta:x0::rr=cr at h⊢
  by_cases h1:(cr.any fun x=>decide (cT p role x≠cT p role x0))=true
  ·rw[if_pos h1]at h;simp at h
  rw[if_neg h1]at h⊢
  by_cases h2:((cT p role x0).1&&cr.any fun x=>decide (kb (dh p x)≠hU p cr))=true
  ·rw[if_pos h2]at h;simp at h
  rw[if_neg h2]at h⊢
  by_cases h3:6 < (hU p cr).length
  ·rw[if_pos h3]at h;simp at h
  rw[if_neg h3]at h⊢
  by_cases h4:ir (fx p cr)=true
  ·rw[if_pos h4]at h;simp at h
  rw[if_neg h4]at h⊢
  by_cases h5:(e6 p role (fx p cr) (hU p cr) [] S).1.2=0
  ·rw[if_pos h5]at h⊢
   obtain⟨r,L,e1,e2,e3,e4,e5⟩:=xv r0 (hU p cr) (out:=[]) hS h5 (by rw[bS];exact hb)
   rw[cw]at e2 e4
   refine⟨r,e1,.inr ⟨by rw[←Ta];simp,⟨(pA _).1,fun x hx=>?_,fun hk x hx=>?_,by omega,?_,by simpa using h4,fun a ha=>?_⟩⟩,?_⟩
   ·simp only[cu,not_exists,not_and,decide_eq_true_eq,ne_eq,r7]at h1
    rw[h1 x hx]
    show _=(decide (kindOf _=1),_)
    rw[(pA _).2]
   ·have yP:(cT p role x0).1=true:=by rw[←(pA (cT p role x0).1).2];exact decide_eq_true hk
    rw[yP,bT]at h2
    simp only[cu,not_exists,not_and,decide_eq_true_eq,ne_eq,r7]at h2
    exact h2 x hx
   ·show List.map bM.label (e6 p role (fx p cr) (hU p cr) [] S).1.1=_
    rw[e2,e3]
   ·exact e5 a (by rw[←e2];exact ha)
   ·show bS r0 (e6 p role (fx p cr) (hU p cr) [] S).1.1=_
    rw[e2];exact e4
  ·rw[if_neg h5]at h
   exact absurd h h5
structure L0(p:dr)(role:ByteArray)(S:List (List Int))(out:List fe):Prop where
 BC:lG S
 le:out.length≤S.length
 tk:∀(i:Nat) (cr:List Int) (t:fe),S[i]? =some cr→out[i]? =some t→pK p role S cr t
 met:out.foldl (fun row t=>bS row t.aP) [0]=xL S.length
theorem wv:∀(f i:Nat) {out:List fe} {S:List (List Int)},L0 p role S out→out.length=i→41≤f+i→(ji p role f i out S).2=0→
 ∃r,L0 p role (S++r) (ji p role f i out S).1∧(ji p role f i out S).1.length=(S++r).length
 |0,i,out,S,h,hi,hf,_=>by have:=h.le;have:=h.BC.len;omega
 |f+1,i,out,S,h,hi,hf,he=>by
  rw[ji]at he⊢
  cases hx:S[i]? with
  |none=>
   have:=j5.1 hx
   have:=h.le
   exact⟨[],by simpa using h,by simp;omega⟩
  |some cr=>
   rw[hx]at he
   simp only at he⊢
   by_cases h1:(fE p role S cr).1.2=0
   ·rw[if_pos h1]at he⊢
    obtain⟨r,e1,e2,e3⟩:=En (out.foldl (fun row t=>bS row t.aP) [0]) h.BC h1 h.met
    have hs:=JJ (p:=p) (role:=role) h.BC cr
    rw[e1]at hs he⊢
    have bo:=(ai.1 hx).1
    have hh:L0 p role (S++r) (out++[(fE p role S cr).1.1]):=by
     refine⟨hs,by simp;omega,fun j nr t hj ht=>?_,?_⟩
     ·by_cases jc:j < i
      ·rw[aG (by omega)]at hj ht
       exact(h.tk j nr t hj ht).grow r
      ·have:j=i:=by
        have:=(ai.1 ht).1
        simp at this;omega
       subst this
       rw[aG bo,hx]at hj
       injection hj with hj;subst hj
       rw[←hi,List.getElem?_concat_length]at ht
       injection ht with ht;subst ht
       exact e2
     ·rw[fh,cx,lK]
      exact e3
    obtain⟨r2,q1,q2⟩:=wv f (i+1) hh (by simp;omega) (by omega) he
    exact⟨r++r2,by rw[←br];exact q1,by rw[←br];exact q2⟩
   ·rw[if_neg h1]at he
    exact absurd he h1
structure Proj(p:dr)(role:ByteArray)(S:List (List Int))(l:Loc):Prop where
 may:fK p=true
 has:hasB p.roles role=true
 name:l.name=kN p.name role
 nodup:S.Nodup
 len:S.length≤40
 turns:l.turns.length=S.length
 zero:S[0]? =some (c6 p role [0])
 one:pz p role [0]=false
 tk:∀(i:Nat) (cr:List Int) (t:fe),S[i]? =some cr→l.turns[i]? =some t→pK p role S cr t
 met:l.turns.foldl (fun row t=>bS row t.aP) [0]=xL S.length
theorem tD(h:(gP p role).2=0):∃S,Proj p role S (gP p role).1:=by
 unfold gP at h⊢
 by_cases h1:(fK p&&hasB p.roles role)=true
 ·rw[if_pos h1]at h⊢
  simp only[ax]at h1
  by_cases h2:(du p role [] [0]).1.2=0
  ·rw[if_pos h2]at h⊢
   by_cases h3:(ji p role 41 0 [] (du p role [] [0]).2).2=0
   ·rw[if_pos h3]at h⊢
    obtain⟨hm,k,hk,hg,hc⟩:=DL h2
    have he:(du p role [] [0]).2=[c6 p role [0]]:=by
     rcases hc with⟨bo,_⟩|⟨_,e⟩
     ·simp at bo
     ·simpa using e
    rw[he]at h3⊢
    have hh:L0 p role [c6 p role [0]] []:=⟨⟨by simp,by simp⟩,by simp,fun i nr t _ ht=>by simp at ht,by simp[xL]⟩
    obtain⟨r,q1,q2⟩:=wv 41 0 hh J (by omega) h3
    exact⟨_,⟨h1.1,h1.2,rfl,q1.BC.nodup,q1.BC.len,q2,rfl,hm,q1.tk,q1.met⟩⟩
   ·rw[if_neg h3]at h;exact absurd h h3
  ·rw[if_neg h2]at h;exact absurd h h2
 ·rw[if_neg h1]at h;simp at h
end Go.Sy
