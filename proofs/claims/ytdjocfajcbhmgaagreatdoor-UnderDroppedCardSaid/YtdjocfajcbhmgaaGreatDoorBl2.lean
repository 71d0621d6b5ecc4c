/- Contracts of the reference, bundle Bl2. -/
import Derived.Test.YtdjocfajcbhmgaaGreatDoorBl1
import Derived.Test.YtdjocfajcbhmgaaGreatDoorZ1
set_option linter.unusedSimpArgs false
set_option linter.unusedVariables false
set_option linter.unusedSectionVars false
namespace Go.Sy
inductive u7(h:Int→List bD)(s:List Int):Int→Prop
 |base {x:Int} (hx:x∈s):u7 h s x
 |step {x:Int} (hx:u7 h s x) {a:bD} (ha:a∈h x):u7 h s a.next
theorem u7.mono{h:Int→List bD}{s t:List Int}(hs:∀x∈s,x∈t){x:Int}(hx:u7 h s x):u7 h t x:=by
 induction hx with
 |base hx=>exact .base (hs _ hx)
 |step _ ha ih=>exact ih.step ha
theorem Cb{h:Int→List bD}{k x:Int}(hk:h k=[])(hx:u7 h [k] x):x=k:=by
 induction hx with
 |base hx=>exact aq.1 hx
 |step _ ha ih=>rw[ih,hk]at ha;cases ha
theorem J4{h:Int→List bD}{k x:Int}(hx:u7 h [k] x):x=k∨u7 h ((h k).map bD.next) x:=by
 induction hx with
 |base hx=>exact .inl (aq.1 hx)
 |step hx ha ih=>
  rcases ih with ih|ih
  ·subst ih;exact .inr (.base (bp ha))
  ·exact .inr (ih.step ha)
theorem EE{h:Int→List bD}{k x:Int}(hx:u7 h ((h k).map bD.next) x):u7 h [k] x:=by
 induction hx with
 |base hx=>
  obtain⟨a,ha,rfl⟩:=aL.1 hx
  exact(u7.base (aq.2 rfl)).step ha
 |step _ ha ih=>exact ih.step ha
def lP(h:Int→List bD):Nat→Nat→List Int→List Int
 |0,_,out=>out
 |f+1,i,out=>match out[i]? with
  |none=>out
  |some x=>lP h f (i+1) (bW out (h x))
theorem DK(h:Int→List bD):∀(f i:Nat) (out:List Int),∃r,lP h f i out=out++r
 |0,_,out=>⟨[],by simp[lP]⟩
 |f+1,i,out=>by
  rw[lP]
  cases out[i]? with
  |none=>exact⟨[],by simp⟩
  |some x=>
   obtain⟨r,hr⟩:=jb (h x) out
   obtain⟨q,hq⟩:=DK h f (i+1) (bW out (h x))
   exact⟨r++q,by simp only;rw[hq,hr,bf]⟩
theorem xG{h:Int→List bD}{s:List Int}:∀(f i:Nat) (out:List Int),(∀x∈out,u7 h s x)→∀x∈lP h f i out,u7 h s x
 |0,_,_,ho,x,hx=>ho x hx
 |f+1,i,out,ho,x,hx=>by
  rw[lP]at hx
  cases hy:out[i]? with
  |none=>rw[hy]at hx;exact ho x hx
  |some y=>
   rw[hy]at hx
   refine xG f (i+1) _ (fun z hz=>?_) x hx
   rcases(ni _ _ _).1 hz with hz|⟨a,ha,rfl⟩
   ·exact ho z hz
   ·exact(ho y (aj hy)).step ha
def BA(h:Int→List bD)(k:Nat)(out:List Int):Prop:=∀j x,j < k→out[j]? =some x→∀a∈h x,a.next∈out
theorem ss{g:x8}{h:Int→List bD}(hg:∀x a,a∈h x→0≤a.next∧a.next < (g.length:Int)):∀(f i:Nat) (out:List Int),Reached g out→BA h i out→i≤out.length→g.length < f+i→Reached g (lP h f i out)∧BA h (lP h f i out).length (lP h f i out)
 |0,i,out,ho,_,hi,hf=>by have:=ho.len;omega
 |f+1,i,out,ho,hc,hi,hf=>by
  rw[lP]
  cases hx:out[i]? with
  |none=>
   have:out.length≤i:=gK.1 hx
   show Reached g out∧BA h out.length out
   exact⟨ho,fun j x hj=>hc j x (by omega)⟩
  |some x=>
   simp only
   have bj:=(ai.1 hx).1
   have h1:=pe (h x) ho fun a ha=>hg x a ha
   obtain⟨r,hr⟩:=jb (h x) out
   refine ss hg f (i+1) _ h1 (fun j y hj hy a ha=>?_) (by rw[hr,au];omega) (by omega)
   rw[hr,aw (by omega)]at hy
   rw[ni]
   by_cases lz:j=i
   ·subst lz
    rw[hx]at hy;injection hy with hy;subst hy
    exact .inr ⟨a,ha,rfl⟩
   ·exact .inl (hc j y (by omega) hy a ha)
theorem Mz{g:x8}{h:Int→List bD}(hg:∀x a,a∈h x→0≤a.next∧a.next < (g.length:Int)){s:List Int}(hs:Reached g s){x:Int}:x∈lP h (g.length+1) 0 s↔u7 h s x:=by
 obtain⟨h1,h2⟩:=ss hg (g.length+1) 0 s hs (fun j x hj=>by omega) (by omega) (by omega)
 obtain⟨r,hr⟩:=DK h (g.length+1) 0 s
 constructor
 ·exact xG _ _ _ (fun x hx=>.base hx) x
 ·intro hx
  induction hx with
  |base hx=>rw[hr];exact dN _ hx
  |step _ ha ih=>
   obtain⟨j,hj,rfl⟩:=aC.1 ih
   exact h2 j _ hj (aa hj) _ ha
def b7.g(p:b7):x8:=p.points.map kP.ax
def oK:kP:=⟨⟨#[]⟩,⟨#[]⟩,[]⟩
def aM(p:b7)(x:Int):kP:=p.points.getD x.toNat oK
def n5(x:kP)(role:ByteArray):Bool:=decide (x.from_=role)||decide (x.to=role)
def eY(p:b7)(role:ByteArray)(x:Int):List bD:=if n5 (aM p x) role then[]else(aM p x).ax
def e9(n:Nat):List Int→List Int→List Int
 |out,[]=>out
 |out,x::l=>e9 n (if 0≤x∧x < (n:Int)∧x∉out then out++[x]else out) l
def fu(p:b7)(role:ByteArray)(from_:List Int):List Int:=lP (eY p role) (p.points.length+1) 0 (e9 p.points.length [] from_)
def bV(p:b7)(role:ByteArray)(from_:List Int):List Int:=((List.range p.points.length).map Int.ofNat).filter fun x=>decide (x∈fu p role from_)&&n5 (aM p x) role
theorem fA(n:Nat):∀(l out:List Int) (x:Int),x∈e9 n out l↔x∈out∨(x∈l∧0≤x∧x < (n:Int))
 |[],out,x=>by simp[e9]
 |y::l,out,x=>by
  rw[e9,fA n l]
  by_cases h:0≤y∧y < (n:Int)∧y∉out
  ·rw[if_pos h]
   simp only[aK,ae,kF,or_false]
   constructor
   ·rintro((h1|rfl)|h1)
    ·exact .inl h1
    ·exact .inr ⟨.inl rfl,h.1,h.2.1⟩
    ·exact .inr ⟨.inr h1.1,h1.2⟩
   ·rintro(h1|⟨rfl|h1,h2⟩)
    ·exact .inl (.inl h1)
    ·exact .inl (.inr rfl)
    ·exact .inr ⟨h1,h2⟩
  ·rw[if_neg h]
   simp only[ae]
   constructor
   ·rintro(h1|h1)
    ·exact .inl h1
    ·exact .inr ⟨.inr h1.1,h1.2⟩
   ·rintro(h1|⟨rfl|h1,h2⟩)
    ·exact .inl h1
    ·by_cases hm:x∈out
     ·exact .inl hm
     ·exact absurd ⟨h2.1,h2.2,hm⟩ h
    ·exact .inr ⟨h1,h2⟩
theorem k7{g:x8}:∀(l:List Int) {out:List Int},Reached g out→Reached g (e9 g.length out l)
 |[],_,h=>h
 |y::l,out,h=>by
  rw[e9]
  refine k7 l ?_
  split
  ·rename_i hy
   refine⟨eQ.2 ⟨h.nodup,by simp,fun x hx z hz e=>?_⟩,fun x hx=>?_⟩
   ·rw[aq]at hz;rw[e,hz]at hx;exact hy.2.2 hx
   ·rcases aK.1 hx with hx|hx
    ·exact h.range x hx
    ·rw[aq]at hx;rw[hx];exact⟨hy.1,hy.2.1⟩
  ·exact h
end Go.Sy
namespace Go.Sy
theorem pL{α:Type}[DecidableEq α]:∀{l m:List α},l.Nodup→(∀x∈l,x∈m)→l.length≤m.length
 |[],_,_,_=>by simp
 |a::l,m,hd,h=>by
  obtain⟨h1,h2⟩:=gM.1 hd
  have ha:=h a ah
  have h3:=pL (m:=m.erase a) h2 fun x hx=>by
   have RI:x≠a:=fun e=>h1 (e▸hx)
   exact(List.mem_erase_of_ne RI).2 (h x (ab _ hx))
  rw[List.length_erase_of_mem ha]at h3
  have:=dU ha
  rw[cd];omega
section
variable {p:b7} {role:ByteArray}
def nu(p:b7):Prop:=∀x a,a∈(aM p x).ax→0≤a.next∧a.next < (p.points.length:Int)
theorem pC(hp:nu p)(role:ByteArray):∀x a,a∈eY p role x→0≤a.next∧a.next < (p.g.length:Int):=fun x a ha=>by
 unfold eY at ha
 split at ha
 ·cases ha
 ·have:=hp x a ha
  simpa[b7.g]using this
theorem rL(p:b7)(l:List Int):Reached p.g (e9 p.points.length [] l):=by
 have:=k7 (g:=p.g) l (out:=[]) ⟨by simp,fun x hx=>by cases hx⟩
 simpa[b7.g]using this
theorem jm(hp:nu p)(l:List Int){x:Int}:x∈fu p role l↔u7 (eY p role) (e9 p.points.length [] l) x:=by
 have:=Mz (pC hp role) (rL p l) (x:=x)
 rwa [show p.g.length=p.points.length by simp[b7.g]]at this
theorem qD(hp:nu p){l:List Int}{x:Int}(h:x∈fu p role l):0≤x∧x < (p.points.length:Int):=by
 have:=(ss (pC hp role) (p.g.length+1) 0 _ (rL p l) (fun j x hj=>by omega) (by omega) (by omega)).1.range x (by rw[show p.g.length=p.points.length by simp[b7.g]];exact h)
 rwa [show p.g.length=p.points.length by simp[b7.g]]at this
theorem gy(hp:nu p)(l:List Int){x:Int}:x∈bV p role l↔u7 (eY p role) (e9 p.points.length [] l) x∧n5 (aM p x) role=true:=by
 unfold bV
 simp only[cn,aL,ek,av,decide_eq_true_eq,jm hp]
 constructor
 ·exact fun h=>h.2
 ·intro h
  have hr:=qD (role:=role) hp ((jm hp l).2 h.1)
  exact⟨⟨x.toNat,by omega,by show((x.toNat:Nat):Int)=x;omega⟩,h⟩
theorem zo(p:b7)(role:ByteArray)(l:List Int):(bV p role l).Pairwise (·< ·):=by
 refine List.Pairwise.filter _ ?_
 rw[eP]
 exact List.pairwise_lt_range.imp fun h=>by show((_:Nat):Int) < ((_:Nat):Int);omega
theorem wD(p:b7)(role:ByteArray)(l:List Int):(bV p role l).Nodup:=bM.2 ((zo p role l).imp fun h e=>by omega)
theorem rW{l m:List Int}(h:∀x,x∈bV p role l↔x∈bV p role m):bV p role l=bV p role m:=by
 unfold bV at h⊢
 refine List.filter_congr fun x hx=>?_
 have:=h x
 simp only[cn,hx,true_and]at this
 rw[qc];exact this
theorem vh{h:Int→List bD}{s t:List Int}(he:∀x,x∈s↔x∈t){x:Int}:u7 h s x↔u7 h t x:=⟨fun hx=>hx.mono fun y hy=>(he y).1 hy,fun hx=>hx.mono fun y hy=>(he y).2 hy⟩
theorem yQ{k:Int}(h:0≤k∧k < (p.points.length:Int))(x:Int):x∈e9 p.points.length [] [k]↔x∈[k]:=by
 rw[fA]
 simp only[aq,kF,false_or]
 exact⟨fun h=>h.1,fun e=>⟨e,e▸h⟩⟩
theorem Oe(hp:nu p){k:Int}(hk:0≤k∧k < (p.points.length:Int))(h:n5 (aM p k) role=true){l:List Int}(hl:∀x,x∈l↔x=k):bV p role l=[k]:=by
 have hm:∀x,x∈bV p role l↔x=k:=fun x=>by
  rw[gy hp,vh (t:=[k]) (fun x=>by rw[fA,aq,hl];constructor
                                  ·rintro(h|h)
                                   ·cases h
                                   ·exact h.1
                                  ·exact fun e=>.inr ⟨e,e▸hk⟩)]
  constructor
  ·exact fun h1=>Cb (by rw[eY,if_pos h]) h1.1
  ·rintro rfl;exact⟨.base (aq.2 rfl),h⟩
 have hn:=wD p role l
 cases hc:bV p role l with
 |nil=>have:=(hm k).2 J;rw[hc]at this;cases this
 |cons a r=>
  rw[hc]at hm hn
  have ha:=(hm a).1 ah
  subst ha
  cases r with
  |nil=>rfl
  |cons b r=>
   have hb:=(hm b).1 (ab _ ah)
   subst hb
   exact absurd ah (gM.1 hn).1
theorem pO(hp:nu p){l:List Int}{x:Int}(h:x∈bV p role l):n5 (aM p x) role=true:=((gy hp l).1 h).2
theorem KE(hp:nu p):bV p role []=[]:=by
 cases h:bV p role []with
 |nil=>rfl
 |cons a r=>
  have ha:a∈bV p role []:=by rw[h];exact ah
  have h1:=((gy hp []).1 ha).1
  exfalso
  have:∀{x},u7 (eY p role) (e9 p.points.length [] []) x→False:=fun hx=>by
   induction hx with
   |base hx=>simp[e9]at hx
   |step _ _ ih=>exact ih
  exact this h1
theorem H7(hp:nu p){k:Int}(hk:0≤k∧k < (p.points.length:Int))(h:n5 (aM p k) role=false):bV p role [k]=bV p role ((aM p k).ax.map bD.next):=by
 have WH:eY p role k=(aM p k).ax:=by rw[eY,if_neg (by rw[h];decide)]
 have hs:∀x,x∈e9 p.points.length [] ((aM p k).ax.map bD.next)↔x∈(eY p role k).map bD.next:=fun x=>by
  rw[fA,WH]
  constructor
  ·rintro(h1|h1)
   ·cases h1
   ·exact h1.1
  ·intro h1
   obtain⟨a,ha,rfl⟩:=aL.1 h1
   exact .inr ⟨h1,hp k a ha⟩
 refine rW fun x=>?_
 rw[gy hp,gy hp,vh (yQ hk),vh hs]
 constructor
 ·rintro⟨h1,h2⟩
  rcases J4 h1 with rfl|h1
  ·rw[h]at h2;cases h2
  ·exact⟨h1,h2⟩
 ·rintro⟨h1,h2⟩
  exact⟨EE h1,h2⟩
end
end Go.Sy
namespace Go.Sy
def nb(x:kP):Bool:=decide (x.from_=⟨#[]⟩)&&(decide (x.to=⟨#[]⟩)&&x.ax.isEmpty)
def rQ(aW:List ByteArray)(n:Int)(x:kP):Bool:=
 nb x||(decide (0≤fC aW x.from_)&&(decide (0≤fC aW x.to)&&(decide (x.from_≠x.to)&&ez n x.ax)))
def dj(p:b7):Bool:=cg p.name&&(decide (2≤p.aW.length)&&(decide (p.aW.length≤5)&&(rU p.aW&&(p.aW.all cg&&(decide (1≤p.points.length)&&(decide (p.points.length≤24)&&p.points.all (rQ p.aW p.points.length)))))))
section
variable {p:b7}
theorem xN(p:b7)(x:Int):gu p.g x=(aM p x).ax:=by
 unfold gu aM b7.g
 rw[aG,aG,az]
 cases p.points[x.toNat]?<;>rfl
theorem wa{aW:List ByteArray}{n:Int}{x:kP}(h:rQ aW n x=true):x.ax=[]∨ez n x.ax=true:=by
 simp only[rQ,nb,eu,av,fj]at h
 rcases h with h|h
 ·exact .inl h.2.2
 ·exact .inr h.2.2.2
theorem pB(h:dj p=true):∀x∈p.points,rQ p.aW p.points.length x=true:=by
 simp only[dj,av,a7]at h
 exact h.2.2.2.2.2.2.2
theorem fB(h:dj p=true)(x:Int):(aM p x).ax=[]∨ez p.points.length (aM p x).ax=true:=by
 unfold aM
 rw[aG]
 cases hx:p.points[x.toNat]? with
 |none=>exact .inl rfl
 |some t=>exact wa (pB h t (aj hx))
theorem ju(h:dj p=true):nu p:=fun x a ha=>by
 rcases fB h x with h1|h1
 ·rw[h1]at ha;cases ha
 ·exact DT ((dx h1).2.1 a ha)
theorem T2(h:dj p=true):TK p.g∧0 < p.g.length∧∀x,((gu p.g x).map bD.label).Nodup:=by
 refine⟨fun x a ha=>?_,?_,fun x=>?_⟩
 ·rw[xN]at ha
  have:=ju h x a ha
  simpa[b7.g]using this
 ·simp only[dj,av,decide_eq_true_eq]at h
  simp only[b7.g,ak];omega
 ·rw[xN]
  rcases fB h x with h1|h1
  ·rw[h1];simp
  ·exact(dx h1).2.2
end
end Go.Sy
namespace Go.Sy
section
variable {p:b7}
end
end Go.Sy
namespace Go.Sy
def BC(x:kP):jk:=if nb x then⟨0,⟨#[]⟩,x.ax⟩else⟨1,x.to,x.ax⟩
def Su(p:b7):Loc:=⟨⟨#[]⟩,p.points.map BC⟩
def nC(aW:List ByteArray)(x:kP):Bool:=nb x||(hasB aW x.from_&&(hasB aW x.to&&decide (x.from_≠x.to)))
def sd(p:b7):Bool:=cg p.name&&(decide (2≤p.aW.length)&&(decide (p.aW.length≤5)&&(rU p.aW&&(decide (p.points.length≤24)&&(p.aW.all cg&&(p.points.all (nC p.aW)&&fP (Su p)))))))
theorem Kc(x:kP):(BC x).ax=x.ax:=by unfold BC;split<;>rfl
theorem Q8{n:Int}{x:kP}(h:nb x=true):kS n (BC x)=true:=by
 have h2:=h
 simp only[nb,av,fj]at h2
 unfold BC
 rw[if_pos h]
 unfold kS
 rw[if_pos J]
 simp[h2.2.2]
theorem Kb{n:Int}{x:kP}(h:nb x=false):kS n (BC x)=(cg x.to&&ez n x.ax):=by
 unfold BC
 rw[if_neg (by rw[h];simp)]
 unfold kS
 rw[if_neg (show ¬((1:Int)=0) by decide),if_pos (.inl rfl)]
theorem NP(p:b7):sd p=dj p:=by
 rw[qc]
 unfold sd dj fP
 have hl:(Su p).turns.length=p.points.length:=by simp[Su]
 rw[hl]
 simp only[av,decide_eq_true_eq,a7]
 constructor
 ·rintro⟨h1,h2,h3,h4,h5,h6,h7,h8,h9,V0⟩
  refine⟨h1,h2,h3,h4,h6,h8,h5,fun x hx=>?_⟩
  have Ss:=h7 x hx
  have U0:=V0 (BC x) (aL.2 ⟨x,hx,rfl⟩)
  unfold nC at Ss
  unfold rQ
  cases he:nb x with
  |true=>rfl
  |false=>
   rw[he,gZ]at Ss
   rw[Kb he]at U0
   simp only[av]at Ss U0
   unfold hasB at Ss
   rw[gZ]
   simp only[av]
   exact⟨Ss.1,Ss.2.1,Ss.2.2,U0.2⟩
 ·rintro⟨h1,h2,h3,h4,h6,h8,h5,h7⟩
  refine⟨h1,h2,h3,h4,h5,h6,fun x hx=>?_,h8,by omega,fun t ht=>?_⟩
  ·have h9:=h7 x hx
   unfold rQ at h9
   unfold nC hasB
   cases he:nb x with
   |true=>rfl
   |false=>
    rw[he,gZ]at h9
    simp only[av]at h9
    rw[gZ]
    simp only[av]
    exact⟨h9.1,h9.2.1,h9.2.2.1⟩
  ·obtain⟨x,hx,rfl⟩:=aL.1 (show t∈List.map BC p.points from ht)
   have h9:=h7 x hx
   unfold rQ at h9
   cases he:nb x with
   |true=>exact Q8 he
   |false=>
    rw[he,gZ]at h9
    simp only[av]at h9
    rw[Kb he,h9.2.2.2,hC]
    exact h6 _ (fh.1 (show hasB p.aW x.to=true from h9.2.1))
theorem hJ{p:b7}(h:dj p=true):1≤p.points.length∧p.points.length≤24∧2≤p.aW.length∧p.aW.length≤5:=by
 simp only[dj,av,decide_eq_true_eq]at h
 exact⟨h.2.2.2.2.2.1,h.2.2.2.2.2.2.1,h.2.1,h.2.2.1⟩
end Go.Sy
namespace Go.Sy
theorem nQ:∀(l m:List bD) (out:List Int),bW out (l++m)=bW (bW out l) m
 |[],_,_=>rfl
 |a::l,m,out=>by rw[cH,bW,bW,nQ l m]
theorem z6{n:Nat}{out:List Int}{a:bD}(h:0≤a.next∧a.next < (n:Int)):bW out [a]=if 0≤a.next∧a.next < (n:Int)∧a.next∉out then out++[a.next]else out:=by
 rw[bW,bW]
 by_cases hm:a.next∈out
 ·rw[if_pos hm,if_neg (fun h2=>h2.2.2 hm)]
 ·rw[if_neg hm,if_pos ⟨h.1,h.2,hm⟩]
def qp(p:b7)(role:ByteArray)(wait:List Int)(i:Nat):List Int:=(wait.take i).filter fun x=>n5 (aM p x) role
theorem EY{p:b7}{role:ByteArray}{wait:List Int}{i:Nat}(hi:i < wait.length)(r:List Int):
 qp p role (wait++r) (i+1)=qp p role wait i++(if n5 (aM p wait[i]) role then[wait[i]]else[]):=by
 unfold qp
 rw[iS (by omega),al hi,List.filter_append]
 congr 1
 cases h:n5 (aM p wait[i]) role<;>simp[h]
theorem HC{p:b7}{role:ByteArray}{l:List Int}(hp:nu p):((fu p role l).filter fun x=>n5 (aM p x) role).mergeSort (fun x y=>decide (x≤y))=bV p role l:=by
 have om:Reached p.g (fu p role l):=by
  have h:=ss (g:=p.g) (h:=eY p role) (pC hp role) (p.points.length+1) 0 _ (rL p l) (fun j x hj=>by omega) (aF _) (by simp[b7.g])
  exact h.1
 have mB:(fu p role l).Nodup:=om.nodup
 have Lm:((fu p role l).filter fun x=>n5 (aM p x) role).Perm (bV p role l):=by
  refine(List.perm_ext_iff_of_nodup (mB.filter _) (wD p role l)).2 fun x=>?_
  rw[cn,gy hp l,jm hp l]
 have h1:=(List.mergeSort_perm ((fu p role l).filter fun x=>n5 (aM p x) role) fun x y=>decide (x≤y)).trans Lm
 refine h1.eq_of_pairwise (le:=fun a b:Int=>a≤b) (fun a b _ _ h2 h3=>by omega) ?_ ((zo p role l).imp fun h=>by omega)
 refine(List.pairwise_mergeSort (le:=fun x y:Int=>decide (x≤y)) (fun a b c h1 h2=>?_) (fun a b=>?_) _).imp fun{a b} h=>by simpa using h
 ·simp at h1 h2⊢;omega
 ·simp;omega
theorem z8{h:Int→List bD}{f i:Nat}{out:List Int}(hi:i < out.length):lP h (f+1) i out=lP h f (i+1) (bW out (h out[i])):=by
 rw[lP,aa hi]
theorem DJ{h:Int→List bD}{f:Nat}{out:List Int}:lP h (f+1) out.length out=out:=by
 rw[lP,bR (ay _)]
end Go.Sy
