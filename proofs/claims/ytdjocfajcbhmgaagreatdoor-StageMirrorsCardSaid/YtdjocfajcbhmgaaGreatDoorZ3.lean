/- Contracts of the reference, bundle Bl2. -/
import Derived.Test.YtdjocfajcbhmgaaGreatDoorBl1
import Derived.Test.YtdjocfajcbhmgaaGreatDoorBn1
set_option linter.unusedSimpArgs false
set_option linter.unusedVariables false
set_option linter.unusedSectionVars false
namespace Go.Sy
inductive Bu(h:Int→List bM)(s:List Int):Int→Prop
 |base {x:Int} (hx:x∈s):Bu h s x
 |step {x:Int} (hx:Bu h s x) {a:bM} (ha:a∈h x):Bu h s a.next
theorem Bu.mono{h:Int→List bM}{s t:List Int}(hs:∀x∈s,x∈t){x:Int}(hx:Bu h s x):Bu h t x:=by
 induction hx with
 |base hx=>exact .base (hs _ hx)
 |step _ ha ih=>exact ih.step ha
def sS(h:Int→List bM):Nat→Nat→List Int→List Int
 |0,_,out=>out
 |f+1,i,out=>match out[i]? with
  |none=>out
  |some x=>sS h f (i+1) (bS out (h x))
theorem A9(h:Int→List bM):∀(f i:Nat) (out:List Int),∃r,sS h f i out=out++r
 |0,_,out=>⟨[],by simp[sS]⟩
 |f+1,i,out=>by
  rw[sS]
  cases out[i]? with
  |none=>exact⟨[],by simp⟩
  |some x=>
   obtain⟨r,hr⟩:=jD (h x) out
   obtain⟨q,hq⟩:=A9 h f (i+1) (bS out (h x))
   exact⟨r++q,by simp only;rw[hq,hr,br]⟩
theorem u4{h:Int→List bM}{s:List Int}:∀(f i:Nat) (out:List Int),(∀x∈out,Bu h s x)→∀x∈sS h f i out,Bu h s x
 |0,_,_,ho,x,hx=>ho x hx
 |f+1,i,out,ho,x,hx=>by
  rw[sS]at hx
  cases hy:out[i]? with
  |none=>rw[hy]at hx;exact ho x hx
  |some y=>
   rw[hy]at hx
   refine u4 f (i+1) _ (fun z hz=>?_) x hx
   rcases(jC _ _ _).1 hz with hz|⟨a,ha,rfl⟩
   ·exact ho z hz
   ·exact(ho y (an hy)).step ha
def yJ(h:Int→List bM)(k:Nat)(out:List Int):Prop:=∀j x,j < k→out[j]? =some x→∀a∈h x,a.next∈out
theorem yz{g:pQ}{h:Int→List bM}(hg:∀x a,a∈h x→0≤a.next∧a.next < (g.length:Int)):∀(f i:Nat) (out:List Int),Reached g out→yJ h i out→i≤out.length→g.length < f+i→Reached g (sS h f i out)∧yJ h (sS h f i out).length (sS h f i out)
 |0,i,out,ho,_,hi,hf=>by have:=ho.len;omega
 |f+1,i,out,ho,hc,hi,hf=>by
  rw[sS]
  cases hx:out[i]? with
  |none=>
   have:out.length≤i:=j5.1 hx
   show Reached g out∧yJ h out.length out
   exact⟨ho,fun j x hj=>hc j x (by omega)⟩
  |some x=>
   simp only
   have bo:=(ai.1 hx).1
   have h1:=nV (h x) ho fun a ha=>hg x a ha
   obtain⟨r,hr⟩:=jD (h x) out
   refine yz hg f (i+1) _ h1 (fun j y hj hy a ha=>?_) (by rw[hr,aL];omega) (by omega)
   rw[hr,aG (by omega)]at hy
   rw[jC]
   by_cases jc:j=i
   ·subst jc
    rw[hx]at hy;injection hy with hy;subst hy
    exact .inr ⟨a,ha,rfl⟩
   ·exact .inl (hc j y (by omega) hy a ha)
theorem Je{g:pQ}{h:Int→List bM}(hg:∀x a,a∈h x→0≤a.next∧a.next < (g.length:Int)){s:List Int}(hs:Reached g s){x:Int}:x∈sS h (g.length+1) 0 s↔Bu h s x:=by
 obtain⟨h1,h2⟩:=yz hg (g.length+1) 0 s hs (fun j x hj=>by omega) (by omega) (by omega)
 obtain⟨r,hr⟩:=A9 h (g.length+1) 0 s
 constructor
 ·exact u4 _ _ _ (fun x hx=>.base hx) x
 ·intro hx
  induction hx with
  |base hx=>rw[hr];exact eZ _ hx
  |step _ ha ih=>
   obtain⟨j,hj,rfl⟩:=aB.1 ih
   exact h2 j _ hj (aa hj) _ ha
def dr.g(p:dr):pQ:=p.points.map pL.aP
def Hu:pL:=⟨⟨#[]⟩,⟨#[]⟩,[]⟩
def dh(p:dr)(x:Int):pL:=p.points.getD x.toNat Hu
def yN(x:pL)(role:ByteArray):Bool:=decide (x.from_=role)||decide (x.to=role)
def j6(p:dr)(role:ByteArray)(x:Int):List bM:=if yN (dh p x) role then[]else(dh p x).aP
def ig(n:Nat):List Int→List Int→List Int
 |out,[]=>out
 |out,x::l=>ig n (if 0≤x∧x < (n:Int)∧x∉out then out++[x]else out) l
def pW(p:dr)(role:ByteArray)(from_:List Int):List Int:=sS (j6 p role) (p.points.length+1) 0 (ig p.points.length [] from_)
def c6(p:dr)(role:ByteArray)(from_:List Int):List Int:=((List.range p.points.length).map Int.ofNat).filter fun x=>decide (x∈pW p role from_)&&yN (dh p x) role
theorem ie(n:Nat):∀(l out:List Int) (x:Int),x∈ig n out l↔x∈out∨(x∈l∧0≤x∧x < (n:Int))
 |[],out,x=>by simp[ig]
 |y::l,out,x=>by
  rw[ig,ie n l]
  by_cases h:0≤y∧y < (n:Int)∧y∉out
  ·rw[if_pos h]
   simp only[aQ,ae,List.not_mem_nil,or_false]
   constructor
   ·rintro((h1|rfl)|h1)
    ·exact .inl h1
    ·exact .inr ⟨.inl rfl,h.1,h.2.1⟩
    ·exact .inr ⟨.inr h1.1,h1.2⟩
   ·rintro(h1|⟨rfl|h1,h2⟩)
    ·exact .inl (.inl h1)
    ·exact .inl (.inr rfl)
    ·exact .inr ⟨h1,h2⟩
  ·rw[if_neg h]
   simp only[ae]
   constructor
   ·rintro(h1|h1)
    ·exact .inl h1
    ·exact .inr ⟨.inr h1.1,h1.2⟩
   ·rintro(h1|⟨rfl|h1,h2⟩)
    ·exact .inl h1
    ·by_cases hm:x∈out
     ·exact .inl hm
     ·exact absurd ⟨h2.1,h2.2,hm⟩ h
    ·exact .inr ⟨h1,h2⟩
theorem we{g:pQ}:∀(l:List Int) {out:List Int},Reached g out→Reached g (ig g.length out l)
 |[],_,h=>h
 |y::l,out,h=>by
  rw[ig]
  refine we l ?_
  split
  ·rename_i hy
   refine⟨gg.2 ⟨h.nodup,by simp,fun x hx z hz e=>?_⟩,fun x hx=>?_⟩
   ·rw[aH]at hz;rw[e,hz]at hx;exact hy.2.2 hx
   ·rcases aQ.1 hx with hx|hx
    ·exact h.range x hx
    ·rw[aH]at hx;rw[hx];exact⟨hy.1,hy.2.1⟩
  ·exact h
section
variable {p:dr} {role:ByteArray}
def qS(p:dr):Prop:=∀x a,a∈(dh p x).aP→0≤a.next∧a.next < (p.points.length:Int)
theorem Dz(hp:qS p)(role:ByteArray):∀x a,a∈j6 p role x→0≤a.next∧a.next < (p.g.length:Int):=fun x a ha=>by
 unfold j6 at ha
 split at ha
 ·cases ha
 ·have:=hp x a ha
  simpa[dr.g]using this
theorem za(p:dr)(l:List Int):Reached p.g (ig p.points.length [] l):=by
 have:=we (g:=p.g) l (out:=[]) ⟨by simp,fun x hx=>by cases hx⟩
 simpa[dr.g]using this
theorem kA(hp:qS p)(l:List Int){x:Int}:x∈pW p role l↔Bu (j6 p role) (ig p.points.length [] l) x:=by
 have:=Je (Dz hp role) (za p l) (x:=x)
 rwa [show p.g.length=p.points.length by simp[dr.g]]at this
theorem tj(hp:qS p){l:List Int}{x:Int}(h:x∈pW p role l):0≤x∧x < (p.points.length:Int):=by
 have:=(yz (Dz hp role) (p.g.length+1) 0 _ (za p l) (fun j x hj=>by omega) (by omega) (by omega)).1.range x (by rw[show p.g.length=p.points.length by simp[dr.g]];exact h)
 rwa [show p.g.length=p.points.length by simp[dr.g]]at this
theorem kG(hp:qS p)(l:List Int){x:Int}:x∈c6 p role l↔Bu (j6 p role) (ig p.points.length [] l) x∧yN (dh p x) role=true:=by
 unfold c6
 simp only[cI,aE,cc,ax,decide_eq_true_eq,kA hp]
 constructor
 ·exact fun h=>h.2
 ·intro h
  have hr:=tj (role:=role) hp ((kA hp l).2 h.1)
  exact⟨⟨x.toNat,by omega,by show((x.toNat:Nat):Int)=x;omega⟩,h⟩
theorem uc{l m:List Int}(h:∀x,x∈c6 p role l↔x∈c6 p role m):c6 p role l=c6 p role m:=by
 unfold c6 at h⊢
 refine List.filter_congr fun x hx=>?_
 have:=h x
 simp only[cI,hx,true_and]at this
 rw[oP];exact this
theorem ou(hp:qS p){l:List Int}{x:Int}(h:x∈c6 p role l):yN (dh p x) role=true:=((kG hp l).1 h).2
end
def nb(x:pL):Bool:=decide (x.from_=⟨#[]⟩)&&(decide (x.to=⟨#[]⟩)&&x.aP.isEmpty)
def zE(roles:List ByteArray)(n:Int)(x:pL):Bool:=
 nb x||(decide (0≤dw roles x.from_)&&(decide (0≤dw roles x.to)&&(decide (x.from_≠x.to)&&eW n x.aP)))
def fK(p:dr):Bool:=bZ p.name&&(decide (2≤p.roles.length)&&(decide (p.roles.length≤5)&&(lR p.roles&&(p.roles.all bZ&&(decide (1≤p.points.length)&&(decide (p.points.length≤24)&&p.points.all (zE p.roles p.points.length)))))))
section
variable {p:dr}
theorem G2{roles:List ByteArray}{n:Int}{x:pL}(h:zE roles n x=true):x.aP=[]∨eW n x.aP=true:=by
 simp only[zE,nb,iK,ax,eQ]at h
 rcases h with h|h
 ·exact .inl h.2.2
 ·exact .inr h.2.2.2
theorem Dx(h:fK p=true):∀x∈p.points,zE p.roles p.points.length x=true:=by
 simp only[fK,ax,aV]at h
 exact h.2.2.2.2.2.2.2
theorem BP(h:fK p=true)(x:Int):(dh p x).aP=[]∨eW p.points.length (dh p x).aP=true:=by
 unfold dh
 rw[aJ]
 cases hx:p.points[x.toNat]? with
 |none=>exact .inl rfl
 |some t=>exact G2 (Dx h t (an hx))
theorem GX(h:fK p=true):qS p:=fun x a ha=>by
 rcases BP h x with h1|h1
 ·rw[h1]at ha;cases ha
 ·exact Bd ((gm h1).2.1 a ha)
end
section
variable {p:dr}
end
def yM(x:pL):fe:=if nb x then⟨0,⟨#[]⟩,x.aP⟩else⟨1,x.to,x.aP⟩
def OE(p:dr):Loc:=⟨⟨#[]⟩,p.points.map yM⟩
def mv(roles:List ByteArray)(x:pL):Bool:=nb x||(hasB roles x.from_&&(hasB roles x.to&&decide (x.from_≠x.to)))
def qw(p:dr):Bool:=bZ p.name&&(decide (2≤p.roles.length)&&(decide (p.roles.length≤5)&&(lR p.roles&&(decide (p.points.length≤24)&&(p.roles.all bZ&&(p.points.all (mv p.roles)&&c7 (OE p)))))))
theorem GW(x:pL):(yM x).aP=x.aP:=by unfold yM;split<;>rfl
theorem M7{n:Int}{x:pL}(h:nb x=true):gd n (yM x)=true:=by
 have h2:=h
 simp only[nb,ax,eQ]at h2
 unfold yM
 rw[if_pos h]
 unfold gd
 rw[if_pos J]
 simp[h2.2.2]
theorem GV{n:Int}{x:pL}(h:nb x=false):gd n (yM x)=(bZ x.to&&eW n x.aP):=by
 unfold yM
 rw[if_neg (by rw[h];simp)]
 unfold gd
 rw[if_neg (show ¬((1:Int)=0) by decide),if_pos (.inl rfl)]
theorem Ka(p:dr):qw p=fK p:=by
 rw[oP]
 unfold qw fK c7
 have hl:(OE p).turns.length=p.points.length:=by simp[OE]
 rw[hl]
 simp only[ax,decide_eq_true_eq,aV]
 constructor
 ·rintro⟨h1,h2,h3,h4,h5,h6,h7,h8,h9,WL⟩
  refine⟨h1,h2,h3,h4,h6,h8,h5,fun x hx=>?_⟩
  have OC:=h7 x hx
  have Q9:=WL (yM x) (aE.2 ⟨x,hx,rfl⟩)
  unfold mv at OC
  unfold zE
  cases he:nb x with
  |true=>rfl
  |false=>
   rw[he,kv]at OC
   rw[GV he]at Q9
   simp only[ax]at OC Q9
   unfold hasB at OC
   rw[kv]
   simp only[ax]
   exact⟨OC.1,OC.2.1,OC.2.2,Q9.2⟩
 ·rintro⟨h1,h2,h3,h4,h6,h8,h5,h7⟩
  refine⟨h1,h2,h3,h4,h5,h6,fun x hx=>?_,h8,by omega,fun t ht=>?_⟩
  ·have h9:=h7 x hx
   unfold zE at h9
   unfold mv hasB
   cases he:nb x with
   |true=>rfl
   |false=>
    rw[he,kv]at h9
    simp only[ax]at h9
    rw[kv]
    simp only[ax]
    exact⟨h9.1,h9.2.1,h9.2.2.1⟩
  ·obtain⟨x,hx,rfl⟩:=aE.1 (show t∈List.map yM p.points from ht)
   have h9:=h7 x hx
   unfold zE at h9
   cases he:nb x with
   |true=>exact M7 he
   |false=>
    rw[he,kv]at h9
    simp only[ax]at h9
    rw[GV he,h9.2.2.2,gp]
    exact h6 _ (gY.1 (show hasB p.roles x.to=true from h9.2.1))
theorem sZ{p:dr}(h:fK p=true):1≤p.points.length∧p.points.length≤24∧2≤p.roles.length∧p.roles.length≤5:=by
 simp only[fK,ax,decide_eq_true_eq]at h
 exact⟨h.2.2.2.2.2.1,h.2.2.2.2.2.2.1,h.2.1,h.2.2.1⟩
def DI:Loc:=⟨⟨#[]⟩,[]⟩
def uj(p:dr)(role:ByteArray)(x:Int):Bool:=decide ((c6 p role [x]).length=0)
def pz(p:dr)(role:ByteArray)(set:List Int):Bool:=(pW p role set).any (fun x=>uj p role x)&&(pW p role set).any (fun x=>!uj p role x)
def du(p:dr)(role:ByteArray)(S:List (List Int))(set:List Int):(Int×Int)×List (List Int):=
 if pz p role set then((0,801),S)
 else if c6 p role set∈S then((((S.idxOf (c6 p role set):Nat):Int),0),S)
 else if S.length=40 then((0,805),S)
 else(((S.length:Int),0),S++[c6 p role set])
def kb(x:pL):List ByteArray:=x.aP.foldl (fun out a=>nu out a.label) []
def Dn(role:ByteArray)(x:pL):Bool×ByteArray:=if x.from_=role then(true,x.to)else(false,x.from_)
def cT(p:dr)(role:ByteArray)(x:Int):Bool×ByteArray:=Dn role (dh p x)
def hU(p:dr)(cr:List Int):List ByteArray:=cr.foldl (fun all x=>(kb (dh p x)).foldl nu all) []
def fx(p:dr)(cr:List Int):List bM:=cr.flatMap fun x=>(dh p x).aP
def et(arr:List bM)(s:ByteArray):List Int:=(arr.filter fun a=>decide (a.label=s)).map bM.next
def oV(arr:List bM)(s:ByteArray):Option (Int×ByteArray):=(arr.find? fun a=>decide (a.label=s)).map fun a=>(a.kind,a.name)
def nc(arr:List bM)(s:ByteArray):Int×ByteArray:=(oV arr s).getD (0,⟨#[]⟩)
def ir(arr:List bM):Bool:=arr.any fun a=>decide (oV arr a.label≠some (a.kind,a.name))
def e6(p:dr)(role:ByteArray)(arr:List bM):List ByteArray→List bM→List (List Int)→(List bM×Int)×List (List Int)
 |[],out,S=>((out,0),S)
 |s::ls,out,S=>
  if(du p role S (et arr s)).1.2=0 then
   e6 p role arr ls (out++[⟨s,(nc arr s).1,(nc arr s).2,(du p role S (et arr s)).1.1⟩]) (du p role S (et arr s)).2
  else(([],(du p role S (et arr s)).1.2),(du p role S (et arr s)).2)
def kindOf(b:Bool):Int:=if b then 1 else 2
def fE(p:dr)(role:ByteArray)(S:List (List Int))(cr:List Int):(fe×Int)×List (List Int):=
 match cr with
 |[]=>((mP,0),S)
 |x0::r=>
  if(x0::r).any (fun x=>decide (cT p role x≠cT p role x0))then((mP,802),S)
  else if(cT p role x0).1&&(x0::r).any (fun x=>decide (kb (dh p x)≠hU p (x0::r)))then((mP,803),S)
  else if 6 < (hU p (x0::r)).length then((mP,805),S)
  else if ir (fx p (x0::r))then((mP,804),S)
  else if(e6 p role (fx p (x0::r)) (hU p (x0::r)) [] S).1.2=0 then
   ((⟨kindOf (cT p role x0).1,(cT p role x0).2,(e6 p role (fx p (x0::r)) (hU p (x0::r)) [] S).1.1⟩,0),(e6 p role (fx p (x0::r)) (hU p (x0::r)) [] S).2)
  else((mP,(e6 p role (fx p (x0::r)) (hU p (x0::r)) [] S).1.2),(e6 p role (fx p (x0::r)) (hU p (x0::r)) [] S).2)
def ji(p:dr)(role:ByteArray):Nat→Nat→List fe→List (List Int)→List fe×Int
 |0,_,out,_=>(out,0)
 |f+1,i,out,S=>match S[i]? with
  |none=>(out,0)
  |some cr=>if(fE p role S cr).1.2=0 then ji p role f (i+1) (out++[(fE p role S cr).1.1]) (fE p role S cr).2 else([],(fE p role S cr).1.2)
abbrev Rj:ByteArray:=⟨#[46]⟩
def kN(a b:ByteArray):ByteArray:=a++Rj++b
def gP(p:dr)(role:ByteArray):Loc×Int:=
 if fK p&&hasB p.roles role then
  if(du p role [] [0]).1.2=0 then
   if(ji p role 41 0 [] (du p role [] [0]).2).2=0 then(⟨kN p.name role,(ji p role 41 0 [] (du p role [] [0]).2).1⟩,0)
   else(DI,(ji p role 41 0 [] (du p role [] [0]).2).2)
  else(DI,(du p role [] [0]).1.2)
 else(DI,800)
def yG(p:dr):Nat→List ByteArray→List Loc→(List Loc×Int)×Int
 |_,[],out=>((out,0),0)
 |i,r::l,out=>if(gP p r).2=0 then yG p (i+1) l (out++[(gP p r).1])else(([],(i:Int)),(gP p r).2)
def k9(p:dr):(List Loc×Int)×Int:=if fK p then yG p 0 p.roles []else(([],0),800)
variable {p:dr} {role:ByteArray}
theorem kH(S:List (List Int))(set:List Int):
 (pz p role set=true∧du p role S set=((0,801),S))∨
 (pz p role set=false∧c6 p role set∈S∧du p role S set=((((S.idxOf (c6 p role set):Nat):Int),0),S))∨
 (pz p role set=false∧c6 p role set∉S∧S.length=40∧du p role S set=((0,805),S))∨
 (pz p role set=false∧c6 p role set∉S∧S.length≠40∧du p role S set=(((S.length:Int),0),S++[c6 p role set])):=by
 unfold du
 cases hm:pz p role set with
 |true=>exact .inl ⟨rfl,rfl⟩
 |false=>
  simp only[dS,if_false]
  by_cases h1:c6 p role set∈S
  ·rw[if_pos h1];exact .inr (.inl ⟨by simp,h1,rfl⟩)
  ·rw[if_neg h1]
   by_cases h2:S.length=40
   ·rw[if_pos h2];exact .inr (.inr (.inl ⟨by simp,h1,h2,rfl⟩))
   ·rw[if_neg h2];exact .inr (.inr (.inr ⟨by simp,h1,h2,rfl⟩))
structure lG(S:List (List Int)):Prop where
 nodup:S.Nodup
 len:S.length≤40
theorem s6{S:List (List Int)}(h:lG S)(set:List Int):lG (du p role S set).2:=by
 rcases kH (p:=p) (role:=role) S set with⟨_,e⟩|⟨_,_,e⟩|⟨_,_,_,e⟩|⟨_,h1,h2,e⟩
 ·rw[e];exact h
 ·rw[e];exact h
 ·rw[e];exact h
 ·rw[e]
  have:=h.len
  exact⟨by rw[gg];exact⟨h.nodup,by simp,fun x hx y hy e=>by simp at hy;subst hy;exact h1 (e▸hx)⟩,by simp;omega⟩
theorem Ci(S:List (List Int))(set:List Int):∃r,(du p role S set).2=S++r:=by
 rcases kH (p:=p) (role:=role) S set with⟨_,e⟩|⟨_,_,e⟩|⟨_,_,_,e⟩|⟨_,_,_,e⟩
 ·exact⟨[],by rw[e];simp⟩
 ·exact⟨[],by rw[e];simp⟩
 ·exact⟨[],by rw[e];simp⟩
 ·exact⟨[_],by rw[e]⟩
theorem DL{S:List (List Int)}{set:List Int}(h:(du p role S set).1.2=0):
 pz p role set=false∧∃k:Nat,(du p role S set).1.1=(k:Int)∧(du p role S set).2[k]? =some (c6 p role set)∧
  ((k < S.length∧(du p role S set).2=S)∨(k=S.length∧(du p role S set).2=S++[c6 p role set])):=by
 rcases kH (p:=p) (role:=role) S set with⟨_,e⟩|⟨h1,h2,e⟩|⟨_,_,_,e⟩|⟨h1,h2,_,e⟩
 ·rw[e]at h;simp at h
 ·rw[e]
  have bo:=List.idxOf_lt_length_of_mem h2
  refine⟨h1,_,rfl,?_,.inl ⟨bo,rfl⟩⟩
  rw[aa bo,kU bo]
 ·rw[e]at h;simp at h
 ·rw[e]
  exact⟨h1,_,rfl,by simp,.inr ⟨rfl,rfl⟩⟩
theorem Ec{arr:List bM}:∀(ls:List ByteArray) {out:List bM} {S:List (List Int)},lG S→lG (e6 p role arr ls out S).2
 |[],_,_,h=>h
 |s::ls,out,S,h=>by
  rw[e6]
  split
  ·exact Ec ls (s6 h _)
  ·exact s6 h _
theorem JJ{S:List (List Int)}(h:lG S)(cr:List Int):lG (fE p role S cr).2:=by
 unfold fE
 cases cr with
 |nil=>exact h
 |cons x0 r=>
  simp only
  repeat' split
  all_goals first|exact h|exact Ec _ h
end Go.Sy
