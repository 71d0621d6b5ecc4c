/- The plain law of projection (P8.1): what project.Role and project.All compute. -/
import Derived.Test.YtdjocfajcbhmgaaGreatDoorBl2
import Derived.Test.YtdjocfajcbhmgaaGreatDoorBl1
import Derived.Test.YtdjocfajcbhmgaaGreatDoorFd
import Derived.Test.YtdjocfajcbhmgaaGreatDoorZ1
import Derived.Test.YtdjocfajcbhmgaaGreatDoorSy4
set_option linter.unusedSimpArgs false
set_option linter.unusedVariables false
set_option linter.unusedSectionVars false
namespace Go.Sy
def ug:Loc:=⟨⟨#[]⟩,[]⟩
def jQ(p:b7)(role:ByteArray)(x:Int):Bool:=decide ((bV p role [x]).length=0)
def lr(p:b7)(role:ByteArray)(set:List Int):Bool:=(fu p role set).any (fun x=>jQ p role x)&&(fu p role set).any (fun x=>!jQ p role x)
def cp(p:b7)(role:ByteArray)(S:List (List Int))(set:List Int):(Int×Int)×List (List Int):=
 if lr p role set then((0,801),S)
 else if bV p role set∈S then((((S.idxOf (bV p role set):Nat):Int),0),S)
 else if S.length=40 then((0,805),S)
 else(((S.length:Int),0),S++[bV p role set])
def dF(x:kP):List ByteArray:=x.ax.foldl (fun out a=>j2 out a.label) []
def oA(role:ByteArray)(x:kP):Bool×ByteArray:=if x.from_=role then(true,x.to)else(false,x.from_)
def bc(p:b7)(role:ByteArray)(x:Int):Bool×ByteArray:=oA role (aM p x)
def dK(p:b7)(near:List Int):List ByteArray:=near.foldl (fun all x=>(dF (aM p x)).foldl j2 all) []
def cr(p:b7)(near:List Int):List bD:=near.flatMap fun x=>(aM p x).ax
def df(arr:List bD)(s:ByteArray):List Int:=(arr.filter fun a=>decide (a.label=s)).map bD.next
def oi(arr:List bD)(s:ByteArray):Option (Int×ByteArray):=(arr.find? fun a=>decide (a.label=s)).map fun a=>(a.kind,a.name)
def kc(arr:List bD)(s:ByteArray):Int×ByteArray:=(oi arr s).getD (0,⟨#[]⟩)
def eN(arr:List bD):Bool:=arr.any fun a=>decide (oi arr a.label≠some (a.kind,a.name))
def di(p:b7)(role:ByteArray)(arr:List bD):List ByteArray→List bD→List (List Int)→(List bD×Int)×List (List Int)
 |[],out,S=>((out,0),S)
 |s::ls,out,S=>
  if(cp p role S (df arr s)).1.2=0 then
   di p role arr ls (out++[⟨s,(kc arr s).1,(kc arr s).2,(cp p role S (df arr s)).1.1⟩]) (cp p role S (df arr s)).2
  else(([],(cp p role S (df arr s)).1.2),(cp p role S (df arr s)).2)
def kindOf(b:Bool):Int:=if b then 1 else 2
def dT(p:b7)(role:ByteArray)(S:List (List Int))(near:List Int):(jk×Int)×List (List Int):=
 match near with
 |[]=>((gV,0),S)
 |x0::r=>
  if(x0::r).any (fun x=>decide (bc p role x≠bc p role x0))then((gV,802),S)
  else if(bc p role x0).1&&(x0::r).any (fun x=>decide (dF (aM p x)≠dK p (x0::r)))then((gV,803),S)
  else if 6 < (dK p (x0::r)).length then((gV,805),S)
  else if eN (cr p (x0::r))then((gV,804),S)
  else if(di p role (cr p (x0::r)) (dK p (x0::r)) [] S).1.2=0 then
   ((⟨kindOf (bc p role x0).1,(bc p role x0).2,(di p role (cr p (x0::r)) (dK p (x0::r)) [] S).1.1⟩,0),(di p role (cr p (x0::r)) (dK p (x0::r)) [] S).2)
  else((gV,(di p role (cr p (x0::r)) (dK p (x0::r)) [] S).1.2),(di p role (cr p (x0::r)) (dK p (x0::r)) [] S).2)
def fc(p:b7)(role:ByteArray):Nat→Nat→List jk→List (List Int)→List jk×Int
 |0,_,out,_=>(out,0)
 |f+1,i,out,S=>match S[i]? with
  |none=>(out,0)
  |some near=>if(dT p role S near).1.2=0 then fc p role f (i+1) (out++[(dT p role S near).1.1]) (dT p role S near).2 else([],(dT p role S near).1.2)
abbrev IS:ByteArray:=⟨#[46]⟩
def fm(a b:ByteArray):ByteArray:=a++IS++b
def dm(p:b7)(role:ByteArray):Loc×Int:=
 if dj p&&hasB p.aW role then
  if(cp p role [] [0]).1.2=0 then
   if(fc p role 41 0 [] (cp p role [] [0]).2).2=0 then(⟨fm p.name role,(fc p role 41 0 [] (cp p role [] [0]).2).1⟩,0)
   else(ug,(fc p role 41 0 [] (cp p role [] [0]).2).2)
  else(ug,(cp p role [] [0]).1.2)
 else(ug,800)
def re(p:b7):Nat→List ByteArray→List Loc→(List Loc×Int)×Int
 |_,[],out=>((out,0),0)
 |i,r::l,out=>if(dm p r).2=0 then re p (i+1) l (out++[(dm p r).1])else(([],(i:Int)),(dm p r).2)
def kg(p:b7):(List Loc×Int)×Int:=if dj p then re p 0 p.aW []else(([],0),800)
variable {p:b7} {role:ByteArray}
theorem lu(S:List (List Int))(set:List Int):
 (lr p role set=true∧cp p role S set=((0,801),S))∨
 (lr p role set=false∧bV p role set∈S∧cp p role S set=((((S.idxOf (bV p role set):Nat):Int),0),S))∨
 (lr p role set=false∧bV p role set∉S∧S.length=40∧cp p role S set=((0,805),S))∨
 (lr p role set=false∧bV p role set∉S∧S.length≠40∧cp p role S set=(((S.length:Int),0),S++[bV p role set])):=by
 unfold cp
 cases hm:lr p role set with
 |true=>exact .inl ⟨rfl,rfl⟩
 |false=>
  simp only[cP,if_false]
  by_cases h1:bV p role set∈S
  ·rw[if_pos h1];exact .inr (.inl ⟨by simp,h1,rfl⟩)
  ·rw[if_neg h1]
   by_cases h2:S.length=40
   ·rw[if_pos h2];exact .inr (.inr (.inl ⟨by simp,h1,h2,rfl⟩))
   ·rw[if_neg h2];exact .inr (.inr (.inr ⟨by simp,h1,h2,rfl⟩))
structure ki(S:List (List Int)):Prop where
 nodup:S.Nodup
 len:S.length≤40
theorem r5{S:List (List Int)}(h:ki S)(set:List Int):ki (cp p role S set).2:=by
 rcases lu (p:=p) (role:=role) S set with⟨_,e⟩|⟨_,_,e⟩|⟨_,_,_,e⟩|⟨_,h1,h2,e⟩
 ·rw[e];exact h
 ·rw[e];exact h
 ·rw[e];exact h
 ·rw[e]
  have:=h.len
  exact⟨by rw[eQ];exact⟨h.nodup,by simp,fun x hx y hy e=>by simp at hy;subst hy;exact h1 (e▸hx)⟩,by simp;omega⟩
theorem wN(S:List (List Int))(set:List Int):∃r,(cp p role S set).2=S++r:=by
 rcases lu (p:=p) (role:=role) S set with⟨_,e⟩|⟨_,_,e⟩|⟨_,_,_,e⟩|⟨_,_,_,e⟩
 ·exact⟨[],by rw[e];simp⟩
 ·exact⟨[],by rw[e];simp⟩
 ·exact⟨[],by rw[e];simp⟩
 ·exact⟨[_],by rw[e]⟩
theorem GA{S:List (List Int)}{set:List Int}(h:(cp p role S set).1.2=0):
 lr p role set=false∧∃k:Nat,(cp p role S set).1.1=(k:Int)∧(cp p role S set).2[k]? =some (bV p role set)∧
  ((k < S.length∧(cp p role S set).2=S)∨(k=S.length∧(cp p role S set).2=S++[bV p role set])):=by
 rcases lu (p:=p) (role:=role) S set with⟨_,e⟩|⟨h1,h2,e⟩|⟨_,_,_,e⟩|⟨h1,h2,_,e⟩
 ·rw[e]at h;simp at h
 ·rw[e]
  have bj:=List.idxOf_lt_length_of_mem h2
  refine⟨h1,_,rfl,?_,.inl ⟨bj,rfl⟩⟩
  rw[aa bj,List.getElem_idxOf bj]
 ·rw[e]at h;simp at h
 ·rw[e]
  exact⟨h1,_,rfl,by simp,.inr ⟨rfl,rfl⟩⟩
theorem Hi{arr:List bD}:∀(ls:List ByteArray) {out:List bD} {S:List (List Int)},ki S→ki (di p role arr ls out S).2
 |[],_,_,h=>h
 |s::ls,out,S,h=>by
  rw[di]
  split
  ·exact Hi ls (r5 h _)
  ·exact r5 h _
theorem F9{S:List (List Int)}(h:ki S)(near:List Int):ki (dT p role S near).2:=by
 unfold dT
 cases near with
 |nil=>exact h
 |cons x0 r=>
  simp only
  repeat' split
  all_goals first|exact h|exact Hi _ h
abbrev x5:=List (ByteArray×Int)
def yf(a:ByteArray)(x:Int):x5→x5
 |[]=>[(a,x)]
 |q::m=>if a=q.1 then(a,x)::m else q::yf a x m
def mN(a:ByteArray):x5→Int
 |[]=>0
 |q::m=>if a=q.1 then q.2 else mN a m
abbrev xI(m:x5):List (ByteArray×CT):=m.map fun q=>(q.1,.int .i64 q.2)
theorem tJ(a:ByteArray):∀m:x5,dE (xI m) a (.int .i64 0)=.int .i64 (mN a m)
 |[]=>rfl
 |q::m=>by
  by_cases h:a=q.1
  ·simp[dE,mN,xI,h]
  ·have ih:=tJ a m
   rw[mN,if_neg h,←ih]
   simp[dE,xI,h]
theorem DM(a:ByteArray)(x:Int):∀m:x5,iq (xI m) a (.int .i64 x)=xI (yf a x m)
 |[]=>rfl
 |q::m=>by
  by_cases h:a=q.1
  ·simp[iq,yf,xI,h,fk]
  ·have ih:=DM a x m
   rw[yf,if_neg h]
   unfold iq at ih⊢
   simp only[xI,bN,fk,h,decide_false,cP,if_false]at ih⊢
   cases hf:(List.map (fun q:ByteArray×Int=>(q.1,CT.int .i64 q.2)) m).findIdx? fun q=>decide (a=q.1)with
   |none=>rw[hf]at ih;simp only[Option.map_none]at ih⊢;rw[cH,ih]
   |some i=>rw[hf]at ih;simp only[dQ]at ih⊢;rw[List.set_cons_succ,ih]
theorem CI(a b:ByteArray)(x:Int):∀m:x5,mN b (yf a x m)=if b=a then x else mN b m
 |[]=>rfl
 |q::m=>by
  rw[yf]
  by_cases h:a=q.1
  ·rw[if_pos h,mN,mN]
   by_cases hb:b=a
   ·rw[if_pos hb,if_pos hb]
   ·rw[if_neg hb,if_neg hb,if_neg (fun e=>hb (e.trans h.symm))]
  ·rw[if_neg h,mN,mN,CI a b x m]
   by_cases hb:b=a
   ·subst hb;simp[h]
   ·simp[hb]
def mh(g:ByteArray→Int)(n:Int)(a:bD):Edge:=⟨a.label,a.kind,if a.kind=5 then g a.name else 0,n+a.next⟩
def l5(g:ByteArray→Int)(n:Int)(t:jk):Nd:=⟨t.kind,t.peer,t.ax.map (mh g n)⟩
def vJ(s:Int×x5)(l:Loc):Int×x5:=(s.1+l.turns.length,yf l.name s.1 s.2)
def Bq(L:List Loc):x5:=(L.foldl vJ (0,[])).2
def eX(L:List Loc)(s:ByteArray):Int:=mN s (Bq L)
def eU(L:List Loc):List ByteArray:=L.foldl (fun o l=>j2 o l.name) []
def ir(g:ByteArray→Int)(L:List Loc):List Nd:=L.foldl (fun o l=>o++l.turns.map (l5 g (o.length:Int))) []
def dJ(L:List Loc):Bk:=⟨ir (eX L) L,eU L,(eU L).map (eX L)⟩
abbrev sF:=Int×Int×Int
abbrev lo:sF:=(0,0,0)
def kz(ps:List b7)(ls:List Loc):sF:=
 if 6 < ps.length∨12 < ls.length then(900,-1,-1)
 else if 0≤jA (fun p=>!dj p) ps then(900,jA (fun p=>!dj p) ps,-1)
 else if 0≤jA (fun l:Loc=>!(fP l&&cg l.name)) ls then(900,(ps.length:Int)+jA (fun l:Loc=>!(fP l&&cg l.name)) ls,-1)
 else lo
def Pg(all:List ByteArray):Int:=jA (fun i:Nat=>decide (fC all (all.getD i ⟨#[]⟩) < (i:Int))) (List.range all.length)
def jX(all:List ByteArray):sF:=if 0≤Pg all then(901,Pg all,-1)else lo
def sw(ps:List b7)(ls:List Loc):List ByteArray:=ps.map b7.name++ls.map Loc.name
def jP:Nat→List b7→List (Nat×Loc)→List (Nat×Loc)×sF
 |_,[],out=>(out,lo)
 |i,p::r,out=>if(kg p).2=0 then jP (i+1) r (out++(kg p).1.1.map fun l=>(i,l))else([],(902,(i:Int),(kg p).1.2))
def lU:Nat→List Loc→List (Nat×Loc)
 |_,[]=>[]
 |i,l::r=>(i,ox l)::lU (i+1) r
def fe(ps:List b7)(ls:List Loc):List (Nat×Loc)×sF:=
 if(jP 0 ps []).2=lo then((jP 0 ps []).1++lU ps.length ls,lo)else([],(jP 0 ps []).2)
def fX(ps:List b7)(ls:List Loc)(s:ByteArray):Bool:=ls.any (fun l=>decide (l.name=s))||ps.any fun p=>p.aW.any fun r=>decide (fm p.name r=s)
def kt(K:ByteArray→Bool)(ax:List bD):Bool:=ax.any fun a=>decide (a.kind=5)&&!K a.name
def gJ(K:ByteArray→Bool)(g:List (List bD)):Int:=jA (kt K) g
def j4(K:ByteArray→Bool)(ps:List b7)(ls:List Loc):sF:=
 if 0≤jA (fun p:b7=>decide (0≤gJ K p.g)) ps then(903,jA (fun p:b7=>decide (0≤gJ K p.g)) ps,gJ K (ps.getD (jA (fun p:b7=>decide (0≤gJ K p.g)) ps).toNat ⟨⟨#[]⟩,[],[]⟩).g)
 else if 0≤jA (fun l:Loc=>decide (0≤gJ K l.g)) ls then(903,(ps.length:Int)+jA (fun l:Loc=>decide (0≤gJ K l.g)) ls,gJ K (ls.getD (jA (fun l:Loc=>decide (0≤gJ K l.g)) ls).toNat ⟨⟨#[]⟩,[]⟩).g)
 else lo
def gG:Nat→List (Nat×Loc)→sF
 |_,[]=>lo
 |c,x::r=>if 400 < c+x.2.turns.length then(904,(x.1:Int),-1)else gG (c+x.2.turns.length) r
def H4:Bk:=⟨[],[],[]⟩
def ij(x:List (Nat×Loc)):List Loc:=x.map Prod.snd
def Tk(ps:List b7)(ls:List Loc):Bk×sF:=
 if kz ps ls≠lo then(H4,kz ps ls)
 else if jX (sw ps ls)≠lo then(H4,jX (sw ps ls))
 else if(fe ps ls).2≠lo then(H4,(fe ps ls).2)
 else if j4 (fX ps ls) ps ls≠lo then(H4,j4 (fX ps ls) ps ls)
 else if gG 0 (fe ps ls).1≠lo then(H4,gG 0 (fe ps ls).1)
 else(dJ (ij (fe ps ls).1),lo)
variable {p:b7} {role:ByteArray}
structure uI(p:b7)(role:ByteArray)(S:List (List Int))(near:List Int)(t:jk):Prop where
 kind:t.kind=1∨t.kind=2
 side:∀x∈near,bc p role x=(decide (t.kind=1),t.peer)
 Wa:t.kind=1→∀x∈near,dF (aM p x)=dK p near
 len:(dK p near).length≤6
 ym:t.ax.map bD.label=dK p near
 once:eN (cr p near)=false
 arm:∀a∈t.ax,(a.kind,a.name)=kc (cr p near) a.label∧lr p role (df (cr p near) a.label)=false∧
  0≤a.next∧S[a.next.toNat]? =some (bV p role (df (cr p near) a.label))
def ri(p:b7)(role:ByteArray)(S:List (List Int))(near:List Int)(t:jk):Prop:=(near=[]∧t=gV)∨(near≠[]∧uI p role S near t)
theorem GW{α:Type}{l r:List α}{k:Nat}{x:α}(h:l[k]? =some x):(l++r)[k]? =some x:=by
 rw[aw (ai.1 h).1];exact h
theorem uI.grow{S:List (List Int)}{near:List Int}{t:jk}(h:uI p role S near t)(r:List (List Int)):uI p role (S++r) near t:=
 ⟨h.kind,h.side,h.Wa,h.len,h.ym,h.once,fun a ha=>let⟨h1,h2,h3,h4⟩:=h.arm a ha;⟨h1,h2,h3,GW h4⟩⟩
theorem ri.grow{S:List (List Int)}{near:List Int}{t:jk}(h:ri p role S near t)(r:List (List Int)):ri p role (S++r) near t:=by
 rcases h with h|⟨h1,h2⟩
 ·exact .inl h
 ·exact .inr ⟨h1,h2.grow r⟩
def x6(n:Nat):List Int:=(List.range n).map Int.ofNat
theorem vf{n:Nat}{x:Int}:x∈x6 n↔0≤x∧x < (n:Int):=by
 unfold x6
 simp only[aL,ek]
 constructor
 ·rintro⟨k,hk,rfl⟩;exact⟨Int.natCast_nonneg _,by show(k:Int) < n;omega⟩
 ·intro h;exact⟨x.toNat,by omega,by show((x.toNat:Nat):Int)=x;omega⟩
theorem JY(n:Nat):x6 (n+1)=x6 n++[(n:Int)]:=by
 unfold x6;rw[qa,bg];rfl
theorem NA(n:Nat):(x6 n).length=n:=by simp[x6]
theorem Mw(out:List Int)(l:List bD)(a:bD):bW out (l++[a])=if a.next∈bW out l then bW out l else bW out l++[a.next]:=by
 have h:∀(l m:List bD) (out:List Int),bW out (l++m)=bW (bW out l) m:=by
  intro l
  induction l with
  |nil=>intro m out;rfl
  |cons x l ih=>intro m out;rw[cH,bW,bW,ih]
 rw[h,bW,bW]
theorem Aa{arr:List bD}(r0:List Int):∀(ls:List ByteArray) {out:List bD} {S:List (List Int)},ki S→(di p role arr ls out S).1.2=0→
 bW r0 out=x6 S.length→∃r L,(di p role arr ls out S).2=S++r∧(di p role arr ls out S).1.1=out++L∧L.map bD.label=ls∧
  bW r0 (out++L)=x6 (S++r).length∧
  ∀a∈L,(a.kind,a.name)=kc arr a.label∧lr p role (df arr a.label)=false∧0≤a.next∧(S++r)[a.next.toNat]? =some (bV p role (df arr a.label))
 |[],out,S,_,_,hb=>⟨[],[],by simp[di],by simp[di],rfl,by simpa using hb,fun a ha=>by cases ha⟩
 |s::ls,out,S,hS,h,hb=>by
  rw[di]at h⊢
  by_cases h1:(cp p role S (df arr s)).1.2=0
  ·rw[if_pos h1]at h⊢
   obtain⟨hm,k,hk,hg,hc⟩:=GA h1
   obtain⟨r1,GO⟩:=wN (p:=p) (role:=role) S (df arr s)
   have x7:bW r0 (out++[⟨s,(kc arr s).1,(kc arr s).2,(cp p role S (df arr s)).1.1⟩])=x6 (cp p role S (df arr s)).2.length:=by
    rw[Mw,hb,hk]
    show(if(k:Int)∈x6 S.length then x6 S.length else x6 S.length++[(k:Int)])=_
    rcases hc with⟨bj,e⟩|⟨he,e⟩
    ·rw[e,if_pos (vf.2 ⟨by omega,by omega⟩)]
    ·rw[e,if_neg (fun hm=>by have:=vf.1 hm;omega),au,nX,JY,he]
   obtain⟨r,L,e1,e2,e3,e4,e5⟩:=Aa r0 ls (r5 hS _) h x7
   refine⟨r1++r,⟨s,(kc arr s).1,(kc arr s).2,(cp p role S (df arr s)).1.1⟩::L,by rw[e1,GO,bf],by rw[e2,bf];rfl,by rw[bN,e3],?_,fun a ha=>?_⟩
   ·rw[GO,bf S]at e4
    rw[←e4,bf out];rfl
   ·rw[GO]at hg e5
    rcases ae.1 ha with rfl|ha
    ·refine⟨rfl,hm,by show 0≤(cp p role S (df arr s)).1.1;omega,?_⟩
     show(S++(r1++r))[(cp p role S (df arr s)).1.1.toNat]? =_
     rw[hk,fI,←bf]
     exact GW hg
    ·obtain⟨q1,q2,q3,q4⟩:=e5 a ha
     exact⟨q1,q2,q3,by rw[←bf];exact q4⟩
  ·rw[if_neg h1]at h
   exact absurd h h1
theorem qU(b:Bool):(kindOf b=1∨kindOf b=2)∧decide (kindOf b=1)=b:=by cases b<;>simp[kindOf]
theorem Hw(r0:List Int){S:List (List Int)}(hS:ki S){near:List Int}(h:(dT p role S near).1.2=0)(hb:r0=x6 S.length):
 ∃r,(dT p role S near).2=S++r∧ri p role (S++r) near (dT p role S near).1.1∧bW r0 (dT p role S near).1.1.ax=x6 (S++r).length:=by
 unfold dT at h⊢
 cases near with
 |nil=>exact⟨[],by simp,.inl ⟨rfl,rfl⟩,by simpa[bW,gV]using hb⟩
 |cons x0 rr=>
  simp only at h⊢
  generalize od:x0::rr=near at h⊢
  by_cases h1:(near.any fun x=>decide (bc p role x≠bc p role x0))=true
  ·rw[if_pos h1]at h;simp at h
  rw[if_neg h1]at h⊢
  by_cases h2:((bc p role x0).1&&near.any fun x=>decide (dF (aM p x)≠dK p near))=true
  ·rw[if_pos h2]at h;simp at h
  rw[if_neg h2]at h⊢
  by_cases h3:6 < (dK p near).length
  ·rw[if_pos h3]at h;simp at h
  rw[if_neg h3]at h⊢
  by_cases h4:eN (cr p near)=true
  ·rw[if_pos h4]at h;simp at h
  rw[if_neg h4]at h⊢
  by_cases h5:(di p role (cr p near) (dK p near) [] S).1.2=0
  ·rw[if_pos h5]at h⊢
   obtain⟨r,L,e1,e2,e3,e4,e5⟩:=Aa r0 (dK p near) (out:=[]) hS h5 (by rw[bW];exact hb)
   rw[gN]at e2 e4
   refine⟨r,e1,.inr ⟨by rw[←od];simp,⟨(qU _).1,fun x hx=>?_,fun hk x hx=>?_,by omega,?_,by simpa using h4,fun a ha=>?_⟩⟩,?_⟩
   ·simp only[cw,not_exists,not_and,decide_eq_true_eq,ne_eq,tV]at h1
    rw[h1 x hx]
    show _=(decide (kindOf _=1),_)
    rw[(qU _).2]
   ·have IA:(bc p role x0).1=true:=by rw[←(qU (bc p role x0).1).2];exact decide_eq_true hk
    rw[IA,bZ]at h2
    simp only[cw,not_exists,not_and,decide_eq_true_eq,ne_eq,tV]at h2
    exact h2 x hx
   ·show List.map bD.label (di p role (cr p near) (dK p near) [] S).1.1=_
    rw[e2,e3]
   ·exact e5 a (by rw[←e2];exact ha)
   ·show bW r0 (di p role (cr p near) (dK p near) [] S).1.1=_
    rw[e2];exact e4
  ·rw[if_neg h5]at h
   exact absurd h h5
structure P0(p:b7)(role:ByteArray)(S:List (List Int))(out:List jk):Prop where
 Ao:ki S
 le:out.length≤S.length
 qF:∀(i:Nat) (near:List Int) (t:jk),S[i]? =some near→out[i]? =some t→ri p role S near t
 met:out.foldl (fun row t=>bW row t.ax) [0]=x6 S.length
theorem yZ:∀(f i:Nat) {out:List jk} {S:List (List Int)},P0 p role S out→out.length=i→41≤f+i→(fc p role f i out S).2=0→
 ∃r,P0 p role (S++r) (fc p role f i out S).1∧(fc p role f i out S).1.length=(S++r).length
 |0,i,out,S,h,hi,hf,_=>by have:=h.le;have:=h.Ao.len;omega
 |f+1,i,out,S,h,hi,hf,he=>by
  rw[fc]at he⊢
  cases hx:S[i]? with
  |none=>
   have:=gK.1 hx
   have:=h.le
   exact⟨[],by simpa using h,by simp;omega⟩
  |some near=>
   rw[hx]at he
   simp only at he⊢
   by_cases h1:(dT p role S near).1.2=0
   ·rw[if_pos h1]at he⊢
    obtain⟨r,e1,e2,e3⟩:=Hw (out.foldl (fun row t=>bW row t.ax) [0]) h.Ao h1 h.met
    have hs:=F9 (p:=p) (role:=role) h.Ao near
    rw[e1]at hs he⊢
    have bj:=(ai.1 hx).1
    have hh:P0 p role (S++r) (out++[(dT p role S near).1.1]):=by
     refine⟨hs,by simp;omega,fun j nr t hj ht=>?_,?_⟩
     ·by_cases lz:j < i
      ·rw[aw (by omega)]at hj ht
       exact(h.qF j nr t hj ht).grow r
      ·have:j=i:=by
        have:=(ai.1 ht).1
        simp at this;omega
       subst this
       rw[aw bj,hx]at hj
       injection hj with hj;subst hj
       rw[←hi,qC]at ht
       injection ht with ht;subst ht
       exact e2
     ·rw[ee,cJ,mD]
      exact e3
    obtain⟨r2,q1,q2⟩:=yZ f (i+1) hh (by simp;omega) (by omega) he
    exact⟨r++r2,by rw[←bf];exact q1,by rw[←bf];exact q2⟩
   ·rw[if_neg h1]at he
    exact absurd he h1
structure Proj(p:b7)(role:ByteArray)(S:List (List Int))(l:Loc):Prop where
 may:dj p=true
 has:hasB p.aW role=true
 name:l.name=fm p.name role
 nodup:S.Nodup
 len:S.length≤40
 turns:l.turns.length=S.length
 zero:S[0]? =some (bV p role [0])
 one:lr p role [0]=false
 qF:∀(i:Nat) (near:List Int) (t:jk),S[i]? =some near→l.turns[i]? =some t→ri p role S near t
 met:l.turns.foldl (fun row t=>bW row t.ax) [0]=x6 S.length
theorem vM(h:¬(dj p&&hasB p.aW role)=true):dm p role=(ug,800):=by unfold dm;rw[if_neg h]
theorem kp(h:(dm p role).2=0):∃S,Proj p role S (dm p role).1:=by
 unfold dm at h⊢
 by_cases h1:(dj p&&hasB p.aW role)=true
 ·rw[if_pos h1]at h⊢
  simp only[av]at h1
  by_cases h2:(cp p role [] [0]).1.2=0
  ·rw[if_pos h2]at h⊢
   by_cases h3:(fc p role 41 0 [] (cp p role [] [0]).2).2=0
   ·rw[if_pos h3]at h⊢
    obtain⟨hm,k,hk,hg,hc⟩:=GA h2
    have he:(cp p role [] [0]).2=[bV p role [0]]:=by
     rcases hc with⟨bj,_⟩|⟨_,e⟩
     ·simp at bj
     ·simpa using e
    rw[he]at h3⊢
    have hh:P0 p role [bV p role [0]] []:=⟨⟨by simp,by simp⟩,by simp,fun i nr t _ ht=>by simp at ht,by simp[x6]⟩
    obtain⟨r,q1,q2⟩:=yZ 41 0 hh J (by omega) h3
    exact⟨_,⟨h1.1,h1.2,rfl,q1.Ao.nodup,q1.Ao.len,q2,rfl,hm,q1.qF,q1.met⟩⟩
   ·rw[if_neg h3]at h;exact absurd h h3
  ·rw[if_neg h2]at h;exact absurd h h2
 ·rw[if_neg h1]at h;simp at h
end Go.Sy
