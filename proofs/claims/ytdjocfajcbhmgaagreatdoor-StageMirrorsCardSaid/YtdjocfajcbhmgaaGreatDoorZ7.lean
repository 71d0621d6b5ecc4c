/- The plain law of equality: keys as rows of bytes, the numbering of keys. -/
import Derived.Lib.ItoaNum
import Derived.Test.YtdjocfajcbhmgaaGreatDoorBu1
import Derived.Test.YtdjocfajcbhmgaaGreatDoorLayp
import Derived.Test.YtdjocfajcbhmgaaGreatDoorZ3
import Derived.Test.YtdjocfajcbhmgaaGreatDoorZ5
import Derived.Test.YtdjocfajcbhmgaaGreatDoorBl1
set_option linter.unusedSimpArgs false
set_option linter.unusedVariables false
set_option linter.unusedSectionVars false
namespace Go.Sy
def Su(l:List UInt8):Prop:=∀c∈l,c≠32∧c≠44∧c≠58
theorem Su.tail{c:UInt8}{u:List UInt8}(h:Su (c::u)):Su u:=fun x hx=>h x (ab _ hx)
section
variable {α β:Type} [DecidableEq α] [DecidableEq β]
end
end Go.Sy
set_option linter.unusedSimpArgs false
set_option linter.unusedVariables false
set_option linter.unusedSectionVars false
namespace Go.Sy
open Go.Proofs
set_option maxRecDepth 100000
attribute [local irreducible] SOps Goes DOps EOps
def Jm(l:List Int):Prop:=∀a∈l,0≤a∧a < 100
def C7(f:Int→Int)(A A':List bM):Prop:=∀b,b∈A'↔∃a∈A,(⟨a.label,a.kind,a.name,f a.next⟩:bM)=b
theorem KP{f:Int→Int}{A A':List bM}(h:A'=A.map fun a=>⟨a.label,a.kind,a.name,f a.next⟩):C7 f A A':=fun b=>by rw[h,aE]
structure lF(p q:dr)(r r':ByteArray)(f:Int→Int)(g:ByteArray→ByteArray)(D:Int→Prop):Prop where
 L8:qS p
 Uy:qS q
 zero:D 0∧f 0=0
 xL:∀x,D x→(0≤x∧x < (p.points.length:Int))∧0≤f x∧f x < (q.points.length:Int)
 aP:∀x,D x→C7 f (dh p x).aP (dh q (f x)).aP
 step:∀x,D x→∀a∈(dh p x).aP,D a.next
 E9:∀x,D x→yN (dh q (f x)) r'=yN (dh p x) r
 side:∀x,D x→yN (dh p x) r=true→cT q r' (f x)=((cT p r x).1,g (cT p r x).2)
structure yV(p q:dr)(r r':ByteArray)(f:Int→Int)(g:ByteArray→ByteArray)(D:Int→Prop):Prop extends lF p q r r' f g D where
 inj:∀x y,D x→D y→f x=f y→x=y
 Ug:∀x y,D x→D y→yN (dh p x) r=true→yN (dh p y) r=true→g (cT p r x).2=g (cT p r y).2→(cT p r x).2=(cT p r y).2
def yX(f:Int→Int)(X X':List Int):Prop:=∀y,y∈X'↔∃x∈X,f x=y
def C6(D:Int→Prop)(X:List Int):Prop:=∀x∈X,D x
variable {p q:dr} {r r':ByteArray} {f:Int→Int} {g:ByteArray→ByteArray} {D:Int→Prop} {X X':List Int}
theorem s8(f:Int→Int)(X:List Int):yX f X (X.map f):=fun y=>aE
theorem yf(h:yX f X X'):X'.length=0↔X.length=0:=by
 rw[la,la]
 constructor
 ·intro e
  refine cW.2 fun x hx=>?_
  have:=(h (f x)).2 ⟨x,hx,rfl⟩
  rw[e]at this;cases this
 ·intro e
  refine cW.2 fun y hy=>?_
  obtain⟨x,hx,_⟩:=(h y).1 hy
  rw[e]at hx;cases hx
theorem yg{α:Type}{A A':List Int}(h:yX f A A'){u u':Int→Bool}(hu:∀x∈A,u' (f x)=u x):A'.any u'=A.any u:=by
 rw[oP,cu,cu]
 constructor
 ·rintro⟨y,hy,h1⟩
  obtain⟨x,hx,rfl⟩:=(h y).1 hy
  exact⟨x,hx,by rw[←hu x hx];exact h1⟩
 ·rintro⟨x,hx,h1⟩
  exact⟨f x,(h _).2 ⟨x,hx,rfl⟩,by rw[hu x hx];exact h1⟩
theorem G7{x:Int}{a:bM}(h:a∈j6 p r x):a∈(dh p x).aP:=by
 unfold j6 at h
 split at h
 ·cases h
 ·exact h
theorem lF.pass(s:lF p q r r' f g D){x:Int}(hx:D x):C7 f (j6 p r x) (j6 q r' (f x)):=by
 unfold j6
 rw[s.E9 x hx]
 split
 ·exact KP J
 ·exact s.aP x hx
theorem lF.Pc(s:lF p q r r' f g D)(hD:C6 D X)(hi:yX f X X'):∀{x:Int},Bu (j6 p r) (ig p.points.length [] X) x→D x∧Bu (j6 q r') (ig q.points.length [] X') (f x):=by
 intro x h
 induction h with
 |base h=>
  rcases(ie _ _ _ _).1 h with h|⟨h,hr⟩
  ·cases h
  ·exact⟨hD _ h,.base ((ie _ _ _ _).2 (.inr ⟨(hi _).2 ⟨_,h,rfl⟩,(s.xL _ (hD _ h)).2⟩))⟩
 |step hx ha ih=>
  refine⟨s.step _ ih.1 _ (G7 ha),?_⟩
  exact ih.2.step ((s.pass ih.1 _).2 ⟨_,ha,rfl⟩)
theorem lF.back(s:lF p q r r' f g D)(hD:C6 D X)(hi:yX f X X'):∀{y:Int},Bu (j6 q r') (ig q.points.length [] X') y→∃x,f x=y∧Bu (j6 p r) (ig p.points.length [] X) x:=by
 intro y h
 induction h with
 |base h=>
  rcases(ie _ _ _ _).1 h with h|⟨h,hr⟩
  ·cases h
  ·obtain⟨x,hx,e⟩:=(hi _).1 h
   exact⟨x,e,.base ((ie _ _ _ _).2 (.inr ⟨hx,(s.xL _ (hD _ hx)).1⟩))⟩
 |step hy ha ih=>
  obtain⟨x,e,hx⟩:=ih
  subst e
  obtain⟨b,hb,e2⟩:=(s.pass (s.Pc hD hi hx).1 _).1 ha
  subst e2
  exact⟨b.next,rfl,hx.step hb⟩
theorem lF.cr(s:lF p q r r' f g D)(hD:C6 D X)(hi:yX f X X'):C6 D (c6 p r X)∧yX f (c6 p r X) (c6 q r' X'):=by
 refine⟨fun x hx=>(s.Pc hD hi ((kG s.L8 X).1 hx).1).1,fun y=>?_⟩
 rw[kG s.Uy]
 constructor
 ·rintro⟨h1,h2⟩
  obtain⟨x,e,hx⟩:=s.back hD hi h1
  subst e
  exact⟨x,(kG s.L8 X).2 ⟨hx,by rw[←s.E9 x (s.Pc hD hi hx).1];exact h2⟩,rfl⟩
 ·rintro⟨x,hx,rfl⟩
  obtain⟨h1,h2⟩:=(kG s.L8 X).1 hx
  obtain⟨h3,h4⟩:=s.Pc hD hi h1
  exact⟨h4,by rw[s.E9 x h3];exact h2⟩
theorem lF.wait(s:lF p q r r' f g D)(hD:C6 D X)(hi:yX f X X'):C6 D (pW p r X)∧yX f (pW p r X) (pW q r' X'):=by
 refine⟨fun x hx=>(s.Pc hD hi ((kA s.L8 X).1 hx)).1,fun y=>?_⟩
 rw[kA s.Uy]
 constructor
 ·intro h1
  obtain⟨x,e,hx⟩:=s.back hD hi h1
  exact⟨x,(kA s.L8 X).2 hx,e⟩
 ·rintro⟨x,hx,rfl⟩
  exact(s.Pc hD hi ((kA s.L8 X).1 hx)).2
theorem lF.lost(s:lF p q r r' f g D){x:Int}(hx:D x):uj q r' (f x)=uj p r x:=by
 have:=yf (s.cr (X:=[x]) (X':=[f x]) (fun y hy=>by rw[aH]at hy;exact hy▸hx) (s8 f [x])).2
 unfold uj
 exact decide_eq_decide.2 this
theorem lF.mix(s:lF p q r r' f g D)(hD:C6 D X)(hi:yX f X X'):pz q r' X'=pz p r X:=by
 obtain⟨h1,h2⟩:=s.wait hD hi
 unfold pz
 rw[yg (α:=Unit) h2 (fun x hx=>s.lost (h1 x hx)),yg (α:=Unit) h2 (u:=fun x=>!uj p r x) (u':=fun x=>!uj q r' x) (fun x hx=>congrArg not (s.lost (h1 x hx)))]
theorem EW(hp:qS p):c6 p r (c6 p r X)=c6 p r X:=by
 have hx:∀{x:Int},Bu (j6 p r) (ig p.points.length [] (c6 p r X)) x→x∈c6 p r X:=fun{x} h=>by
  induction h with
  |base h=>
   rcases(ie _ _ _ _).1 h with h|⟨h,_⟩
   ·cases h
   ·exact h
  |step _ ha ih=>
   unfold j6 at ha
   rw[if_pos (ou hp ih)]at ha
   cases ha
 refine uc fun x=>?_
 rw[kG hp]
 constructor
 ·exact fun h=>hx h.1
 ·intro h
  exact⟨.base ((ie _ _ _ _).2 (.inr ⟨h,tj hp ((kA hp X).2 ((kG hp X).1 h).1)⟩)),ou hp h⟩
theorem Au{α β:Type}[BEq α][LawfulBEq α][BEq β][LawfulBEq β](f:α→β):∀{S:List α} {l:α},l∈S→(∀m∈S,f m=f l→m=l)→(S.map f).idxOf (f l)=S.idxOf l
 |[],_,h,_=>by cases h
 |m::S,l,h,hi=>by
  rw[bF,List.idxOf_cons,List.idxOf_cons]
  by_cases e:m=l
  ·subst e;simp
  ·have e2:f m≠f l:=fun q=>e (hi m ah q)
   have e3:(f m==f l)=false:=by simpa using e2
   have e4:(m==l)=false:=by simpa using e
   rw[e3,e4,cond_false,cond_false,Au f ((ae.1 h).resolve_left (fun q=>e q.symm)) fun x hx=>hi x (ab _ hx)]
def kh(q:dr)(r':ByteArray)(f:Int→Int)(N:List Int):List Int:=c6 q r' (N.map f)
def Kept(p:dr)(r:ByteArray)(D:Int→Prop)(N:List Int):Prop:=∃X,C6 D X∧N=c6 p r X
theorem yV.Sa(s:yV p q r r' f g D){N:List Int}(h:Kept p r D N):C6 D N∧c6 p r N=N∧∀x∈N,yN (dh p x) r=true:=by
 obtain⟨X,hX,rfl⟩:=h
 exact⟨(s.cr hX (s8 f X)).1,EW s.L8,fun x hx=>ou s.L8 hx⟩
theorem yV.RP(s:yV p q r r' f g D){N:List Int}(h:Kept p r D N):yX f N (kh q r' f N):=by
 obtain⟨h1,h2,_⟩:=s.Sa h
 have:=(s.cr h1 (s8 f N)).2
 rwa [h2]at this
theorem yV.set(s:yV p q r r' f g D)(hD:C6 D X)(hi:yX f X X'):c6 q r' X'=kh q r' f (c6 p r X):=by
 have h1:=(s.cr hD hi).2
 have h2:=s.RP ⟨X,hD,rfl⟩
 unfold kh at h2⊢
 exact uc fun y=>(h1 y).trans (h2 y).symm
theorem yV.Gw(s:yV p q r r' f g D){N M:List Int}(hN:Kept p r D N)(hM:Kept p r D M)(h:kh q r' f N=kh q r' f M):N=M:=by
 have k1:=s.RP hN
 have k2:=s.RP hM
 rw[h]at k1
 obtain⟨d1,_,_⟩:=s.Sa hN
 obtain⟨d2,_,_⟩:=s.Sa hM
 obtain⟨X,hX,rfl⟩:=hN
 obtain⟨Y,hY,rfl⟩:=hM
 refine uc fun x=>⟨fun hx=>?_,fun hx=>?_⟩
 ·obtain⟨y,hy,e⟩:=(k2 (f x)).1 ((k1 _).2 ⟨x,hx,rfl⟩)
  rw[←s.inj y x (d2 y hy) (d1 x hx) e];exact hy
 ·obtain⟨y,hy,e⟩:=(k1 (f x)).1 ((k2 _).2 ⟨x,hx,rfl⟩)
  rw[←s.inj y x (d1 y hy) (d2 x hx) e];exact hy
theorem yV.look(s:yV p q r r' f g D){S:List (List Int)}(hS:∀N∈S,Kept p r D N)(hD:C6 D X)(hi:yX f X X'):
 du q r' (S.map (kh q r' f)) X'=((du p r S X).1,(du p r S X).2.map (kh q r' f))∧∀N∈(du p r S X).2,Kept p r D N:=by
 have hK:Kept p r D (c6 p r X):=⟨X,hD,rfl⟩
 have hm:kh q r' f (c6 p r X)∈S.map (kh q r' f)↔c6 p r X∈S:=by
  rw[aE]
  constructor
  ·rintro⟨N,hN,e⟩
   rw[←s.Gw (hS N hN) hK e];exact hN
  ·exact fun h=>⟨_,h,rfl⟩
 unfold du
 rw[s.mix hD hi,s.set hD hi,aw]
 by_cases h1:pz p r X=true
 ·rw[if_pos h1,if_pos h1];exact⟨rfl,hS⟩
 rw[if_neg h1,if_neg h1]
 by_cases h2:c6 p r X∈S
 ·rw[if_pos (hm.2 h2),if_pos h2,Au (kh q r' f) h2 fun m hm e=>s.Gw (hS m hm) hK e]
  exact⟨rfl,hS⟩
 rw[if_neg (fun h=>h2 (hm.1 h)),if_neg h2]
 by_cases h3:S.length=40
 ·rw[if_pos h3,if_pos h3];exact⟨rfl,hS⟩
 rw[if_neg h3,if_neg h3]
 refine⟨by simp,fun N hN=>?_⟩
 rcases aQ.1 hN with h|h
 ·exact hS N h
 ·rw[aH]at h;subst h;exact hK
theorem I2{arr:List bM}{a:bM}(h:a∈arr):∃b∈arr,b.label=a.label∧oV arr a.label=some (b.kind,b.name):=by
 unfold oV
 cases hf:arr.find? fun b=>decide (b.label=a.label)with
 |none=>exact absurd (iD.1 hf a h) (by simp)
 |some b=>exact⟨b,j4 hf,by simpa using vT hf,rfl⟩
theorem xm(arr:List bM):ir arr=true↔∃a∈arr,∃b∈arr,a.label=b.label∧(a.kind,a.name)≠(b.kind,b.name):=by
 unfold ir
 rw[cu]
 constructor
 ·rintro⟨a,ha,h⟩
  have h:=of_decide_eq_true h
  obtain⟨b,hb,e1,e2⟩:=I2 ha
  rw[e2]at h
  exact⟨b,hb,a,ha,e1,fun e=>h (by rw[e])⟩
 ·rintro⟨a,ha,b,hb,e,hn⟩
  by_cases h:oV arr a.label=some (a.kind,a.name)
  ·refine⟨b,hb,decide_eq_true fun h2=>hn ?_⟩
   rw[←e,h]at h2
   injection h2
  ·exact⟨a,ha,decide_eq_true h⟩
theorem xp{arr:List bM}{s:ByteArray}(h:∀a∈arr,a.label≠s):nc arr s=(0,⟨#[]⟩):=by
 unfold nc oV
 rw[iD.2 fun a ha=>by simpa using h a ha];rfl
theorem Cn{A A':List bM}(h:C7 f A A'):ir A'=ir A:=by
 rw[oP,xm,xm]
 constructor
 ·rintro⟨a,ha,b,hb,e⟩
  obtain⟨x,hx,rfl⟩:=(h a).1 ha
  obtain⟨y,hy,rfl⟩:=(h b).1 hb
  exact⟨x,hx,y,hy,e⟩
 ·rintro⟨x,hx,y,hy,e⟩
  exact⟨_,(h _).2 ⟨x,hx,rfl⟩,_,(h _).2 ⟨y,hy,rfl⟩,e⟩
theorem HQ{A A':List bM}(h:C7 f A A')(hc:ir A=false)(s:ByteArray):nc A' s=nc A s:=by
 by_cases hs:∃a∈A,a.label=s
 ·obtain⟨a,ha,e⟩:=hs
  obtain⟨b,hb,e1,e2⟩:=rX (arr:=A') (s:=s) ⟨_,(h _).2 ⟨a,ha,rfl⟩,e⟩
  obtain⟨x,hx,rfl⟩:=(h b).1 hb
  rw[e2,←e1]
  exact(I3 hc hx).symm
 ·rw[xp fun a ha e=>hs ⟨a,ha,e⟩,xp fun a ha e=>?_]
  obtain⟨x,hx,rfl⟩:=(h a).1 ha
  exact hs ⟨x,hx,e⟩
theorem Fb{A A':List bM}(h:C7 f A A')(s:ByteArray):yX f (et A s) (et A' s):=fun y=>by
 unfold et
 simp only[aE,cI,decide_eq_true_eq]
 constructor
 ·rintro⟨b,⟨hb,e⟩,rfl⟩
  obtain⟨x,hx,rfl⟩:=(h b).1 hb
  exact⟨x.next,⟨x,⟨hx,e⟩,rfl⟩,rfl⟩
 ·rintro⟨_,⟨x,⟨hx,e⟩,rfl⟩,rfl⟩
  exact⟨_,⟨(h _).2 ⟨x,hx,rfl⟩,e⟩,rfl⟩
theorem lF.fx(s:lF p q r r' f g D){N N':List Int}(hD:C6 D N)(hi:yX f N N'):C7 f (fx p N) (fx q N'):=fun b=>by
 rw[fU]
 constructor
 ·rintro⟨y,hy,hb⟩
  obtain⟨x,hx,rfl⟩:=(hi y).1 hy
  obtain⟨a,ha,e⟩:=(s.aP x (hD x hx) b).1 hb
  exact⟨a,fU.2 ⟨x,hx,ha⟩,e⟩
 ·rintro⟨a,ha,rfl⟩
  obtain⟨x,hx,ha⟩:=fU.1 ha
  exact⟨f x,(hi _).2 ⟨x,hx,rfl⟩,(s.aP x (hD x hx) _).2 ⟨a,ha,rfl⟩⟩
theorem lF.Aj(s:lF p q r r' f g D){x:Int}(hx:D x):kb (dh q (f x))=kb (dh p x):=by
 have h:=s.aP x hx
 refine Eb (w3 _) (w3 _) fun z=>?_
 rw[oy,oy]
 constructor
 ·rintro⟨b,hb,e⟩
  obtain⟨a,ha,rfl⟩:=(h b).1 hb
  exact⟨a,ha,e⟩
 ·rintro⟨a,ha,e⟩
  exact⟨_,(h _).2 ⟨a,ha,rfl⟩,e⟩
theorem lF.hU(s:lF p q r r' f g D){N N':List Int}(hD:C6 D N)(hi:yX f N N'):hU q N'=hU p N:=by
 have h:=s.fx hD hi
 refine Eb (qO q N') (qO p N) fun z=>?_
 rw[n3,n3]
 constructor
 ·rintro⟨b,hb,e⟩
  obtain⟨a,ha,rfl⟩:=(h b).1 hb
  exact⟨a,ha,e⟩
 ·rintro⟨a,ha,e⟩
  exact⟨_,(h _).2 ⟨a,ha,rfl⟩,e⟩
theorem yV.e6(s:yV p q r r' f g D){A A':List bM}(hc:∀z,nc A' z=nc A z)(hn:∀z,C6 D (et A z)∧yX f (et A z) (et A' z)):
 ∀(ls:List ByteArray) (out:List bM) (S:List (List Int)),(∀N∈S,Kept p r D N)→
  e6 q r' A' ls out (S.map (kh q r' f))=((e6 p r A ls out S).1,(e6 p r A ls out S).2.map (kh q r' f))∧∀N∈(e6 p r A ls out S).2,Kept p r D N
 |[],out,S,hS=>⟨rfl,hS⟩
 |z::ls,out,S,hS=>by
  obtain⟨h1,h2⟩:=s.look hS (hn z).1 (hn z).2
  rw[Go.Sy.e6,Go.Sy.e6,h1,hc]
  by_cases h:(du p r S (et A z)).1.2=0
  ·rw[if_pos h,if_pos h]
   exact s.e6 hc hn ls _ _ h2
  ·rw[if_neg h,if_neg h]
   exact⟨rfl,h2⟩
def gT(g:ByteArray→ByteArray)(t:fe):fe:=if t.kind=0 then t else⟨t.kind,g t.peer,t.aP⟩
theorem Jg{α:Type}[DecidableEq α]{l:List Int}{x0:Int}(h0:x0∈l)(u:Int→α):l.any (fun x=>decide (u x≠u x0))=true↔∃x∈l,∃y∈l,u x≠u y:=by
 rw[cu]
 constructor
 ·rintro⟨x,hx,h⟩
  exact⟨x,hx,x0,h0,of_decide_eq_true h⟩
 ·rintro⟨x,hx,y,hy,h⟩
  by_cases e:u x=u x0
  ·exact⟨y,hy,decide_eq_true fun e2=>h (e.trans e2.symm)⟩
  ·exact⟨x,hx,decide_eq_true e⟩
theorem yV.tk(s:yV p q r r' f g D){S:List (List Int)}(hS:∀N∈S,Kept p r D N){N:List Int}(hN:Kept p r D N):
 fE q r' (S.map (kh q r' f)) (kh q r' f N)=((gT g (fE p r S N).1.1,(fE p r S N).1.2),(fE p r S N).2.map (kh q r' f))∧∀M∈(fE p r S N).2,Kept p r D M:=by
 have hi:=s.RP hN
 obtain⟨hD,_,eL⟩:=s.Sa hN
 have hA:=s.fx hD hi
 have hL:=s.hU hD hi
 have H6:∀z,C6 D (et (Go.Sy.fx p N) z)∧yX f (et (Go.Sy.fx p N) z) (et (Go.Sy.fx q (kh q r' f N)) z):=fun z=>⟨fun y hy=>by
  unfold et at hy
  obtain⟨a,ha,rfl⟩:=aE.1 hy
  obtain⟨x,hx,R8⟩:=fU.1 (cI.1 ha).1
  exact s.step x (hD x hx) a R8,Fb hA z⟩
 have vi:=Cn hA
 have K1:(kh q r' f N).any (fun x=>decide (kb (dh q x)≠Go.Sy.hU q (kh q r' f N)))=N.any (fun x=>decide (kb (dh p x)≠Go.Sy.hU p N)):=
  yg (α:=Unit) hi fun x hx=>by rw[hL,s.Aj (hD x hx)]
 have Qm:∀x0∈N,∀y0∈kh q r' f N,(kh q r' f N).any (fun y=>decide (cT q r' y≠cT q r' y0))=N.any (fun x=>decide (cT p r x≠cT p r x0)):=fun x0 P9 y0 Cq=>by
  rw[oP,Jg Cq,Jg P9]
  constructor
  ·rintro⟨a,ha,b,hb,h⟩
   obtain⟨x,hx,rfl⟩:=(hi a).1 ha
   obtain⟨y,hy,rfl⟩:=(hi b).1 hb
   rw[s.side x (hD x hx) (eL x hx),s.side y (hD y hy) (eL y hy)]at h
   exact⟨x,hx,y,hy,fun e=>h (by rw[e])⟩
  ·rintro⟨x,hx,y,hy,h⟩
   refine⟨f x,(hi _).2 ⟨x,hx,rfl⟩,f y,(hi _).2 ⟨y,hy,rfl⟩,fun e=>h ?_⟩
   rw[s.side x (hD x hx) (eL x hx),s.side y (hD y hy) (eL y hy)]at e
   injection e with e1 e2
   exact Prod.ext e1 (s.Ug x y (hD x hx) (hD y hy) (eL x hx) (eL y hy) e2)
 cases hc:N with
 |nil=>
  have:kh q r' f []=[]:=b6 (by rw[←hc];exact(yf hi).2 (by rw[hc];rfl))
  rw[this]
  exact⟨rfl,hS⟩
 |cons x0 rest=>
  cases yR:kh q r' f N with
  |nil=>exact absurd ((yf hi).1 (by rw[yR];rfl)) (by rw[hc];simp)
  |cons y0 rest'=>
   have P9:x0∈N:=by rw[hc];exact ah
   have Cq:y0∈kh q r' f N:=by rw[yR];exact ah
   have VF:=Qm x0 P9 y0 Cq
   rw[←hc,yR]
   rw[show fE p r S N=fE p r S (x0::rest) by rw[hc]]
   unfold fE
   simp only
   rw[←hc,←yR,VF,K1,hL,vi]
   by_cases h1:N.any (fun x=>decide (cT p r x≠cT p r x0))=true
   ·rw[if_pos h1,if_pos h1];exact⟨rfl,hS⟩
   rw[if_neg h1,if_neg h1]
   have mS:cT q r' y0=((cT p r x0).1,g (cT p r x0).2):=by
    obtain⟨x1,DO,rfl⟩:=(hi y0).1 Cq
    rw[s.side x1 (hD x1 DO) (eL x1 DO)]
    have:cT p r x1=cT p r x0:=by
     by_cases e:cT p r x1=cT p r x0
     ·exact e
     ·exact absurd (cu.2 ⟨x1,DO,decide_eq_true e⟩) h1
    rw[this]
   rw[mS]
   simp only
   by_cases h2:((cT p r x0).1&&N.any fun x=>decide (kb (dh p x)≠Go.Sy.hU p N))=true
   ·rw[if_pos h2,if_pos h2];exact⟨rfl,hS⟩
   rw[if_neg h2,if_neg h2]
   by_cases h3:6 < (Go.Sy.hU p N).length
   ·rw[if_pos h3,if_pos h3];exact⟨rfl,hS⟩
   rw[if_neg h3,if_neg h3]
   by_cases h4:ir (Go.Sy.fx p N)=true
   ·rw[if_pos h4,if_pos h4];exact⟨rfl,hS⟩
   rw[if_neg h4,if_neg h4]
   obtain⟨k1,k2⟩:=s.e6 (HQ hA (by simpa using h4)) H6 (Go.Sy.hU p N) [] S hS
   rw[k1]
   simp only
   by_cases h5:(Go.Sy.e6 p r (Go.Sy.fx p N) (Go.Sy.hU p N) [] S).1.2=0
   ·rw[if_pos h5,if_pos h5]
    refine⟨?_,k2⟩
    unfold gT
    rw[if_neg (by unfold kindOf;cases(cT p r x0).1<;>simp)]
   ·rw[if_neg h5,if_neg h5];exact⟨rfl,k2⟩
theorem yV.ji(s:yV p q r r' f g D):∀(n i:Nat) (out:List fe) (S:List (List Int)),(∀N∈S,Kept p r D N)→
 ji q r' n i (out.map (gT g)) (S.map (kh q r' f))=((ji p r n i out S).1.map (gT g),(ji p r n i out S).2)
 |0,i,out,S,hS=>rfl
 |n+1,i,out,S,hS=>by
  rw[Go.Sy.ji,Go.Sy.ji,aI]
  cases hi:S[i]? with
  |none=>rfl
  |some N=>
   obtain⟨h1,h2⟩:=s.tk hS (hS N (an hi))
   simp only[iI]
   rw[h1]
   by_cases h:(fE p r S N).1.2=0
   ·rw[if_pos h,if_pos h]
    have:=s.ji n (i+1) (out++[(fE p r S N).1.1]) (fE p r S N).2 h2
    rwa [a6]at this
   ·rw[if_neg h,if_neg h];rfl
theorem yV.gP(s:yV p q r r' f g D)(hp:fK p=true)(hr:hasB p.roles r=true)(hq:fK q=true)(ga:hasB q.roles r'=true):
 gP q r'=if(gP p r).2=0 then(⟨kN q.name r',(gP p r).1.turns.map (gT g)⟩,0)else(DI,(gP p r).2):=by
 obtain⟨h1,h2⟩:=s.look (S:=[]) (X:=[0]) (X':=[0]) (fun N h=>by cases h) (fun x hx=>by rw[aH]at hx;subst hx;exact s.zero.1)
  (by have:=s8 f [0];rwa [show[0].map f=[0] by rw[bF,s.zero.2];rfl]at this)
 rw[gh]at h1
 have h3:=s.ji 41 0 [] _ h2
 unfold Go.Sy.gP
 rw[hp,hr,hq,ga,h1]
 simp only[Bool.and_self,if_true]
 by_cases k1:(du p r [] [0]).1.2=0
 ·rw[if_pos k1,if_pos k1]
  rw[gh]at h3
  rw[h3]
  by_cases k2:(Go.Sy.ji p r 41 0 [] (du p r [] [0]).2).2=0
  ·rw[if_pos k2,if_pos k2];rfl
  ·rw[if_neg k2,if_neg k2,if_neg k2]
 ·rw[if_neg k1,if_neg k1,if_neg k1]
variable {p q:dr} {role r:ByteArray} {S:List (List Int)} {l:Loc}
theorem GZ(h:Proj p role S l):∀t∈l.turns,o9 (t.aP.map bM.label):=fun t ht=>by
 obtain⟨j,hj,rfl⟩:=aB.1 ht
 have Mp:j < S.length:=by rw[←h.turns];exact hj
 rcases h.tk j S[j] l.turns[j] (aa Mp) (aa hj)with⟨_,h2⟩|⟨_,h2⟩
 ·rw[h2];exact List.Pairwise.nil
 ·rw[h2.Aj];exact qO p _
end Go.Sy
