/- The plain law: the projection of a protocol whose points are moved and whose roles have other names. -/
import Derived.Test.YtdjocfajcbhmgaaGreatDoorZ5
import Derived.Test.YtdjocfajcbhmgaaGreatDoorZ7
import Derived.Test.YtdjocfajcbhmgaaGreatDoorBl1
set_option linter.unusedSimpArgs false
set_option linter.unusedVariables false
set_option linter.unusedSectionVars false
namespace Go.Sy
def F5(f:Int→Int)(A A':List bD):Prop:=∀b,b∈A'↔∃a∈A,(⟨a.label,a.kind,a.name,f a.next⟩:bD)=b
theorem Oy{f:Int→Int}{A A':List bD}(h:A'=A.map fun a=>⟨a.label,a.kind,a.name,f a.next⟩):F5 f A A':=fun b=>by rw[h,aL]
structure mz(p q:b7)(r r':ByteArray)(f:Int→Int)(g:ByteArray→ByteArray)(D:Int→Prop):Prop where
 P7:nu p
 XY:nu q
 zero:D 0∧f 0=0
 x6:∀x,D x→(0≤x∧x < (p.points.length:Int))∧0≤f x∧f x < (q.points.length:Int)
 ax:∀x,D x→F5 f (aM p x).ax (aM q (f x)).ax
 step:∀x,D x→∀a∈(aM p x).ax,D a.next
 Il:∀x,D x→n5 (aM q (f x)) r'=n5 (aM p x) r
 side:∀x,D x→n5 (aM p x) r=true→bc q r' (f x)=((bc p r x).1,g (bc p r x).2)
structure BK(p q:b7)(r r':ByteArray)(f:Int→Int)(g:ByteArray→ByteArray)(D:Int→Prop):Prop extends mz p q r r' f g D where
 inj:∀x y,D x→D y→f x=f y→x=y
 XK:∀x y,D x→D y→n5 (aM p x) r=true→n5 (aM p y) r=true→g (bc p r x).2=g (bc p r y).2→(bc p r x).2=(bc p r y).2
def BM(f:Int→Int)(X X':List Int):Prop:=∀y,y∈X'↔∃x∈X,f x=y
def F4(D:Int→Prop)(X:List Int):Prop:=∀x∈X,D x
variable {p q:b7} {r r':ByteArray} {f:Int→Int} {g:ByteArray→ByteArray} {D:Int→Prop} {X X':List Int}
theorem vk(f:Int→Int)(X:List Int):BM f X (X.map f):=fun y=>aL
theorem A1(h:BM f X X'):X'.length=0↔X.length=0:=by
 rw[vD,vD]
 constructor
 ·intro e
  refine cG.2 fun x hx=>?_
  have:=(h (f x)).2 ⟨x,hx,rfl⟩
  rw[e]at this;cases this
 ·intro e
  refine cG.2 fun y hy=>?_
  obtain⟨x,hx,_⟩:=(h y).1 hy
  rw[e]at hx;cases hx
theorem A2{α:Type}{A A':List Int}(h:BM f A A'){u u':Int→Bool}(hu:∀x∈A,u' (f x)=u x):A'.any u'=A.any u:=by
 rw[qc,cw,cw]
 constructor
 ·rintro⟨y,hy,h1⟩
  obtain⟨x,hx,rfl⟩:=(h y).1 hy
  exact⟨x,hx,by rw[←hu x hx];exact h1⟩
 ·rintro⟨x,hx,h1⟩
  exact⟨f x,(h _).2 ⟨x,hx,rfl⟩,by rw[hu x hx];exact h1⟩
theorem Kj{x:Int}{a:bD}(h:a∈eY p r x):a∈(aM p x).ax:=by
 unfold eY at h
 split at h
 ·cases h
 ·exact h
theorem mz.pass(s:mz p q r r' f g D){x:Int}(hx:D x):F5 f (eY p r x) (eY q r' (f x)):=by
 unfold eY
 rw[s.Il x hx]
 split
 ·exact Oy J
 ·exact s.ax x hx
theorem mz.Te(s:mz p q r r' f g D)(hD:F4 D X)(hi:BM f X X'):∀{x:Int},u7 (eY p r) (e9 p.points.length [] X) x→D x∧u7 (eY q r') (e9 q.points.length [] X') (f x):=by
 intro x h
 induction h with
 |base h=>
  rcases(fA _ _ _ _).1 h with h|⟨h,hr⟩
  ·cases h
  ·exact⟨hD _ h,.base ((fA _ _ _ _).2 (.inr ⟨(hi _).2 ⟨_,h,rfl⟩,(s.x6 _ (hD _ h)).2⟩))⟩
 |step hx ha ih=>
  refine⟨s.step _ ih.1 _ (Kj ha),?_⟩
  exact ih.2.step ((s.pass ih.1 _).2 ⟨_,ha,rfl⟩)
theorem mz.back(s:mz p q r r' f g D)(hD:F4 D X)(hi:BM f X X'):∀{y:Int},u7 (eY q r') (e9 q.points.length [] X') y→∃x,f x=y∧u7 (eY p r) (e9 p.points.length [] X) x:=by
 intro y h
 induction h with
 |base h=>
  rcases(fA _ _ _ _).1 h with h|⟨h,hr⟩
  ·cases h
  ·obtain⟨x,hx,e⟩:=(hi _).1 h
   exact⟨x,e,.base ((fA _ _ _ _).2 (.inr ⟨hx,(s.x6 _ (hD _ hx)).1⟩))⟩
 |step hy ha ih=>
  obtain⟨x,e,hx⟩:=ih
  subst e
  obtain⟨b,hb,e2⟩:=(s.pass (s.Te hD hi hx).1 _).1 ha
  subst e2
  exact⟨b.next,rfl,hx.step hb⟩
theorem mz.near(s:mz p q r r' f g D)(hD:F4 D X)(hi:BM f X X'):F4 D (bV p r X)∧BM f (bV p r X) (bV q r' X'):=by
 refine⟨fun x hx=>(s.Te hD hi ((gy s.P7 X).1 hx).1).1,fun y=>?_⟩
 rw[gy s.XY]
 constructor
 ·rintro⟨h1,h2⟩
  obtain⟨x,e,hx⟩:=s.back hD hi h1
  subst e
  exact⟨x,(gy s.P7 X).2 ⟨hx,by rw[←s.Il x (s.Te hD hi hx).1];exact h2⟩,rfl⟩
 ·rintro⟨x,hx,rfl⟩
  obtain⟨h1,h2⟩:=(gy s.P7 X).1 hx
  obtain⟨h3,h4⟩:=s.Te hD hi h1
  exact⟨h4,by rw[s.Il x h3];exact h2⟩
theorem mz.wait(s:mz p q r r' f g D)(hD:F4 D X)(hi:BM f X X'):F4 D (fu p r X)∧BM f (fu p r X) (fu q r' X'):=by
 refine⟨fun x hx=>(s.Te hD hi ((jm s.P7 X).1 hx)).1,fun y=>?_⟩
 rw[jm s.XY]
 constructor
 ·intro h1
  obtain⟨x,e,hx⟩:=s.back hD hi h1
  exact⟨x,(jm s.P7 X).2 hx,e⟩
 ·rintro⟨x,hx,rfl⟩
  exact(s.Te hD hi ((jm s.P7 X).1 hx)).2
theorem mz.lost(s:mz p q r r' f g D){x:Int}(hx:D x):jQ q r' (f x)=jQ p r x:=by
 have:=A1 (s.near (X:=[x]) (X':=[f x]) (fun y hy=>by rw[aq]at hy;exact hy▸hx) (vk f [x])).2
 unfold jQ
 exact decide_eq_decide.2 this
theorem mz.mix(s:mz p q r r' f g D)(hD:F4 D X)(hi:BM f X X'):lr q r' X'=lr p r X:=by
 obtain⟨h1,h2⟩:=s.wait hD hi
 unfold lr
 rw[A2 (α:=Unit) h2 (fun x hx=>s.lost (h1 x hx)),A2 (α:=Unit) h2 (u:=fun x=>!jQ p r x) (u':=fun x=>!jQ q r' x) (fun x hx=>congrArg not (s.lost (h1 x hx)))]
theorem H8(hp:nu p):bV p r (bV p r X)=bV p r X:=by
 have hx:∀{x:Int},u7 (eY p r) (e9 p.points.length [] (bV p r X)) x→x∈bV p r X:=fun{x} h=>by
  induction h with
  |base h=>
   rcases(fA _ _ _ _).1 h with h|⟨h,_⟩
   ·cases h
   ·exact h
  |step _ ha ih=>
   unfold eY at ha
   rw[if_pos (pO hp ih)]at ha
   cases ha
 refine rW fun x=>?_
 rw[gy hp]
 constructor
 ·exact fun h=>hx h.1
 ·intro h
  exact⟨.base ((fA _ _ _ _).2 (.inr ⟨h,qD hp ((jm hp X).2 ((gy hp X).1 h).1)⟩)),pO hp h⟩
theorem C2{α β:Type}[BEq α][LawfulBEq α][BEq β][LawfulBEq β](f:α→β):∀{S:List α} {l:α},l∈S→(∀m∈S,f m=f l→m=l)→(S.map f).idxOf (f l)=S.idxOf l
 |[],_,h,_=>by cases h
 |m::S,l,h,hi=>by
  rw[bN,qb,qb]
  by_cases e:m=l
  ·subst e;simp
  ·have e2:f m≠f l:=fun q=>e (hi m ah q)
   have e3:(f m==f l)=false:=by simpa using e2
   have e4:(m==l)=false:=by simpa using e
   rw[e3,e4,cond_false,cond_false,C2 f ((ae.1 h).resolve_left (fun q=>e q.symm)) fun x hx=>hi x (ab _ hx)]
def kT(q:b7)(r':ByteArray)(f:Int→Int)(N:List Int):List Int:=bV q r' (N.map f)
def Kept(p:b7)(r:ByteArray)(D:Int→Prop)(N:List Int):Prop:=∃X,F4 D X∧N=bV p r X
theorem BK.V2(s:BK p q r r' f g D){N:List Int}(h:Kept p r D N):F4 D N∧bV p r N=N∧∀x∈N,n5 (aM p x) r=true:=by
 obtain⟨X,hX,rfl⟩:=h
 exact⟨(s.near hX (vk f X)).1,H8 s.P7,fun x hx=>pO s.P7 hx⟩
theorem BK.VD(s:BK p q r r' f g D){N:List Int}(h:Kept p r D N):BM f N (kT q r' f N):=by
 obtain⟨h1,h2,_⟩:=s.V2 h
 have:=(s.near h1 (vk f N)).2
 rwa [h2]at this
theorem BK.set(s:BK p q r r' f g D)(hD:F4 D X)(hi:BM f X X'):bV q r' X'=kT q r' f (bV p r X):=by
 have h1:=(s.near hD hi).2
 have h2:=s.VD ⟨X,hD,rfl⟩
 unfold kT at h2⊢
 exact rW fun y=>(h1 y).trans (h2 y).symm
theorem BK.JF(s:BK p q r r' f g D){N M:List Int}(hN:Kept p r D N)(hM:Kept p r D M)(h:kT q r' f N=kT q r' f M):N=M:=by
 have k1:=s.VD hN
 have k2:=s.VD hM
 rw[h]at k1
 obtain⟨d1,_,_⟩:=s.V2 hN
 obtain⟨d2,_,_⟩:=s.V2 hM
 obtain⟨X,hX,rfl⟩:=hN
 obtain⟨Y,hY,rfl⟩:=hM
 refine rW fun x=>⟨fun hx=>?_,fun hx=>?_⟩
 ·obtain⟨y,hy,e⟩:=(k2 (f x)).1 ((k1 _).2 ⟨x,hx,rfl⟩)
  rw[←s.inj y x (d2 y hy) (d1 x hx) e];exact hy
 ·obtain⟨y,hy,e⟩:=(k1 (f x)).1 ((k2 _).2 ⟨x,hx,rfl⟩)
  rw[←s.inj y x (d1 y hy) (d2 x hx) e];exact hy
theorem BK.look(s:BK p q r r' f g D){S:List (List Int)}(hS:∀N∈S,Kept p r D N)(hD:F4 D X)(hi:BM f X X'):
 cp q r' (S.map (kT q r' f)) X'=((cp p r S X).1,(cp p r S X).2.map (kT q r' f))∧∀N∈(cp p r S X).2,Kept p r D N:=by
 have hK:Kept p r D (bV p r X):=⟨X,hD,rfl⟩
 have hm:kT q r' f (bV p r X)∈S.map (kT q r' f)↔bV p r X∈S:=by
  rw[aL]
  constructor
  ·rintro⟨N,hN,e⟩
   rw[←s.JF (hS N hN) hK e];exact hN
  ·exact fun h=>⟨_,h,rfl⟩
 unfold cp
 rw[s.mix hD hi,s.set hD hi,ak]
 by_cases h1:lr p r X=true
 ·rw[if_pos h1,if_pos h1];exact⟨rfl,hS⟩
 rw[if_neg h1,if_neg h1]
 by_cases h2:bV p r X∈S
 ·rw[if_pos (hm.2 h2),if_pos h2,C2 (kT q r' f) h2 fun m hm e=>s.JF (hS m hm) hK e]
  exact⟨rfl,hS⟩
 rw[if_neg (fun h=>h2 (hm.1 h)),if_neg h2]
 by_cases h3:S.length=40
 ·rw[if_pos h3,if_pos h3];exact⟨rfl,hS⟩
 rw[if_neg h3,if_neg h3]
 refine⟨by simp,fun N hN=>?_⟩
 rcases aK.1 hN with h|h
 ·exact hS N h
 ·rw[aq]at h;subst h;exact hK
theorem Mn{arr:List bD}{a:bD}(h:a∈arr):∃b∈arr,b.label=a.label∧oi arr a.label=some (b.kind,b.name):=by
 unfold oi
 cases hf:arr.find? fun b=>decide (b.label=a.label)with
 |none=>exact absurd (du.1 hf a h) (by simp)
 |some b=>exact⟨b,kM hf,by simpa using yD hf,rfl⟩
theorem tG(arr:List bD):eN arr=true↔∃a∈arr,∃b∈arr,a.label=b.label∧(a.kind,a.name)≠(b.kind,b.name):=by
 unfold eN
 rw[cw]
 constructor
 ·rintro⟨a,ha,h⟩
  have h:=of_decide_eq_true h
  obtain⟨b,hb,e1,e2⟩:=Mn ha
  rw[e2]at h
  exact⟨b,hb,a,ha,e1,fun e=>h (by rw[e])⟩
 ·rintro⟨a,ha,b,hb,e,hn⟩
  by_cases h:oi arr a.label=some (a.kind,a.name)
  ·refine⟨b,hb,decide_eq_true fun h2=>hn ?_⟩
   rw[←e,h]at h2
   injection h2
  ·exact⟨a,ha,decide_eq_true h⟩
theorem zX{arr:List bD}{s:ByteArray}(h:∀a∈arr,a.label≠s):kc arr s=(0,⟨#[]⟩):=by
 unfold kc oi
 rw[du.2 fun a ha=>by simpa using h a ha];rfl
theorem E9{A A':List bD}(h:F5 f A A'):eN A'=eN A:=by
 rw[qc,tG,tG]
 constructor
 ·rintro⟨a,ha,b,hb,e⟩
  obtain⟨x,hx,rfl⟩:=(h a).1 ha
  obtain⟨y,hy,rfl⟩:=(h b).1 hb
  exact⟨x,hx,y,hy,e⟩
 ·rintro⟨x,hx,y,hy,e⟩
  exact⟨_,(h _).2 ⟨x,hx,rfl⟩,_,(h _).2 ⟨y,hy,rfl⟩,e⟩
theorem K7{A A':List bD}(h:F5 f A A')(hc:eN A=false)(s:ByteArray):kc A' s=kc A s:=by
 by_cases hs:∃a∈A,a.label=s
 ·obtain⟨a,ha,e⟩:=hs
  obtain⟨b,hb,e1,e2⟩:=tH (arr:=A') (s:=s) ⟨_,(h _).2 ⟨a,ha,rfl⟩,e⟩
  obtain⟨x,hx,rfl⟩:=(h b).1 hb
  rw[e2,←e1]
  exact(DG hc hx).symm
 ·rw[zX fun a ha e=>hs ⟨a,ha,e⟩,zX fun a ha e=>?_]
  obtain⟨x,hx,rfl⟩:=(h a).1 ha
  exact hs ⟨x,hx,e⟩
theorem Io{A A':List bD}(h:F5 f A A')(s:ByteArray):BM f (df A s) (df A' s):=fun y=>by
 unfold df
 simp only[aL,cn,decide_eq_true_eq]
 constructor
 ·rintro⟨b,⟨hb,e⟩,rfl⟩
  obtain⟨x,hx,rfl⟩:=(h b).1 hb
  exact⟨x.next,⟨x,⟨hx,e⟩,rfl⟩,rfl⟩
 ·rintro⟨_,⟨x,⟨hx,e⟩,rfl⟩,rfl⟩
  exact⟨_,⟨(h _).2 ⟨x,hx,rfl⟩,e⟩,rfl⟩
theorem mz.cr(s:mz p q r r' f g D){N N':List Int}(hD:F4 D N)(hi:BM f N N'):F5 f (cr p N) (cr q N'):=fun b=>by
 rw[gF]
 constructor
 ·rintro⟨y,hy,hb⟩
  obtain⟨x,hx,rfl⟩:=(hi y).1 hy
  obtain⟨a,ha,e⟩:=(s.ax x (hD x hx) b).1 hb
  exact⟨a,gF.2 ⟨x,hx,ha⟩,e⟩
 ·rintro⟨a,ha,rfl⟩
  obtain⟨x,hx,ha⟩:=gF.1 ha
  exact⟨f x,(hi _).2 ⟨x,hx,rfl⟩,(s.ax x (hD x hx) _).2 ⟨a,ha,rfl⟩⟩
theorem mz.ym(s:mz p q r r' f g D){x:Int}(hx:D x):dF (aM q (f x))=dF (aM p x):=by
 have h:=s.ax x hx
 refine Bu (pP _) (pP _) fun z=>?_
 rw[iW,iW]
 constructor
 ·rintro⟨b,hb,e⟩
  obtain⟨a,ha,rfl⟩:=(h b).1 hb
  exact⟨a,ha,e⟩
 ·rintro⟨a,ha,e⟩
  exact⟨_,(h _).2 ⟨a,ha,rfl⟩,e⟩
theorem mz.dK(s:mz p q r r' f g D){N N':List Int}(hD:F4 D N)(hi:BM f N N'):dK q N'=dK p N:=by
 have h:=s.cr hD hi
 refine Bu (pn q N') (pn p N) fun z=>?_
 rw[kA,kA]
 constructor
 ·rintro⟨b,hb,e⟩
  obtain⟨a,ha,rfl⟩:=(h b).1 hb
  exact⟨a,ha,e⟩
 ·rintro⟨a,ha,e⟩
  exact⟨_,(h _).2 ⟨a,ha,rfl⟩,e⟩
theorem BK.di(s:BK p q r r' f g D){A A':List bD}(hc:∀z,kc A' z=kc A z)(hn:∀z,F4 D (df A z)∧BM f (df A z) (df A' z)):
 ∀(ls:List ByteArray) (out:List bD) (S:List (List Int)),(∀N∈S,Kept p r D N)→
  di q r' A' ls out (S.map (kT q r' f))=((di p r A ls out S).1,(di p r A ls out S).2.map (kT q r' f))∧∀N∈(di p r A ls out S).2,Kept p r D N
 |[],out,S,hS=>⟨rfl,hS⟩
 |z::ls,out,S,hS=>by
  obtain⟨h1,h2⟩:=s.look hS (hn z).1 (hn z).2
  rw[Go.Sy.di,Go.Sy.di,h1,hc]
  by_cases h:(cp p r S (df A z)).1.2=0
  ·rw[if_pos h,if_pos h]
   exact s.di hc hn ls _ _ h2
  ·rw[if_neg h,if_neg h]
   exact⟨rfl,h2⟩
def gT(g:ByteArray→ByteArray)(t:jk):jk:=if t.kind=0 then t else⟨t.kind,g t.peer,t.ax⟩
theorem MD{α:Type}[DecidableEq α]{l:List Int}{x0:Int}(h0:x0∈l)(u:Int→α):l.any (fun x=>decide (u x≠u x0))=true↔∃x∈l,∃y∈l,u x≠u y:=by
 rw[cw]
 constructor
 ·rintro⟨x,hx,h⟩
  exact⟨x,hx,x0,h0,of_decide_eq_true h⟩
 ·rintro⟨x,hx,y,hy,h⟩
  by_cases e:u x=u x0
  ·exact⟨y,hy,decide_eq_true fun e2=>h (e.trans e2.symm)⟩
  ·exact⟨x,hx,decide_eq_true e⟩
theorem BK.qF(s:BK p q r r' f g D){S:List (List Int)}(hS:∀N∈S,Kept p r D N){N:List Int}(hN:Kept p r D N):
 dT q r' (S.map (kT q r' f)) (kT q r' f N)=((gT g (dT p r S N).1.1,(dT p r S N).1.2),(dT p r S N).2.map (kT q r' f))∧∀M∈(dT p r S N).2,Kept p r D M:=by
 have hi:=s.VD hN
 obtain⟨hD,_,eA⟩:=s.V2 hN
 have hA:=s.cr hD hi
 have hL:=s.dK hD hi
 have BG:∀z,F4 D (df (Go.Sy.cr p N) z)∧BM f (df (Go.Sy.cr p N) z) (df (Go.Sy.cr q (kT q r' f N)) z):=fun z=>⟨fun y hy=>by
  unfold df at hy
  obtain⟨a,ha,rfl⟩:=aL.1 hy
  obtain⟨x,hx,TB⟩:=gF.1 (cn.1 ha).1
  exact s.step x (hD x hx) a TB,Io hA z⟩
 have sC:=E9 hA
 have Iw:(kT q r' f N).any (fun x=>decide (dF (aM q x)≠Go.Sy.dK q (kT q r' f N)))=N.any (fun x=>decide (dF (aM p x)≠Go.Sy.dK p N)):=
  A2 (α:=Unit) hi fun x hx=>by rw[hL,s.ym (hD x hx)]
 have GM:∀x0∈N,∀y0∈kT q r' f N,(kT q r' f N).any (fun y=>decide (bc q r' y≠bc q r' y0))=N.any (fun x=>decide (bc p r x≠bc p r x0)):=fun x0 Iq y0 Fb=>by
  rw[qc,MD Fb,MD Iq]
  constructor
  ·rintro⟨a,ha,b,hb,h⟩
   obtain⟨x,hx,rfl⟩:=(hi a).1 ha
   obtain⟨y,hy,rfl⟩:=(hi b).1 hb
   rw[s.side x (hD x hx) (eA x hx),s.side y (hD y hy) (eA y hy)]at h
   exact⟨x,hx,y,hy,fun e=>h (by rw[e])⟩
  ·rintro⟨x,hx,y,hy,h⟩
   refine⟨f x,(hi _).2 ⟨x,hx,rfl⟩,f y,(hi _).2 ⟨y,hy,rfl⟩,fun e=>h ?_⟩
   rw[s.side x (hD x hx) (eA x hx),s.side y (hD y hy) (eA y hy)]at e
   injection e with e1 e2
   exact vC e1 (s.XK x y (hD x hx) (hD y hy) (eA x hx) (eA y hy) e2)
 cases hc:N with
 |nil=>
  have:kT q r' f []=[]:=bK (by rw[←hc];exact(A1 hi).2 (by rw[hc];rfl))
  rw[this]
  exact⟨rfl,hS⟩
 |cons x0 rest=>
  cases vq:kT q r' f N with
  |nil=>exact absurd ((A1 hi).1 (by rw[vq];rfl)) (by rw[hc];simp)
  |cons y0 rest'=>
   have Iq:x0∈N:=by rw[hc];exact ah
   have Fb:y0∈kT q r' f N:=by rw[vq];exact ah
   have Un:=GM x0 Iq y0 Fb
   rw[←hc,vq]
   rw[show dT p r S N=dT p r S (x0::rest) by rw[hc]]
   unfold dT
   simp only
   rw[←hc,←vq,Un,Iw,hL,sC]
   by_cases h1:N.any (fun x=>decide (bc p r x≠bc p r x0))=true
   ·rw[if_pos h1,if_pos h1];exact⟨rfl,hS⟩
   rw[if_neg h1,if_neg h1]
   have lx:bc q r' y0=((bc p r x0).1,g (bc p r x0).2):=by
    obtain⟨x1,Fc,rfl⟩:=(hi y0).1 Fb
    rw[s.side x1 (hD x1 Fc) (eA x1 Fc)]
    have:bc p r x1=bc p r x0:=by
     by_cases e:bc p r x1=bc p r x0
     ·exact e
     ·exact absurd (cw.2 ⟨x1,Fc,decide_eq_true e⟩) h1
    rw[this]
   rw[lx]
   simp only
   by_cases h2:((bc p r x0).1&&N.any fun x=>decide (dF (aM p x)≠Go.Sy.dK p N))=true
   ·rw[if_pos h2,if_pos h2];exact⟨rfl,hS⟩
   rw[if_neg h2,if_neg h2]
   by_cases h3:6 < (Go.Sy.dK p N).length
   ·rw[if_pos h3,if_pos h3];exact⟨rfl,hS⟩
   rw[if_neg h3,if_neg h3]
   by_cases h4:eN (Go.Sy.cr p N)=true
   ·rw[if_pos h4,if_pos h4];exact⟨rfl,hS⟩
   rw[if_neg h4,if_neg h4]
   obtain⟨k1,k2⟩:=s.di (K7 hA (by simpa using h4)) BG (Go.Sy.dK p N) [] S hS
   rw[k1]
   simp only
   by_cases h5:(Go.Sy.di p r (Go.Sy.cr p N) (Go.Sy.dK p N) [] S).1.2=0
   ·rw[if_pos h5,if_pos h5]
    refine⟨?_,k2⟩
    unfold gT
    rw[if_neg (by unfold kindOf;cases(bc p r x0).1<;>simp)]
   ·rw[if_neg h5,if_neg h5];exact⟨rfl,k2⟩
theorem BK.fc(s:BK p q r r' f g D):∀(n i:Nat) (out:List jk) (S:List (List Int)),(∀N∈S,Kept p r D N)→
 fc q r' n i (out.map (gT g)) (S.map (kT q r' f))=((fc p r n i out S).1.map (gT g),(fc p r n i out S).2)
 |0,i,out,S,hS=>rfl
 |n+1,i,out,S,hS=>by
  rw[Go.Sy.fc,Go.Sy.fc,az]
  cases hi:S[i]? with
  |none=>rfl
  |some N=>
   obtain⟨h1,h2⟩:=s.qF hS (hS N (aj hi))
   simp only[dQ]
   rw[h1]
   by_cases h:(dT p r S N).1.2=0
   ·rw[if_pos h,if_pos h]
    have:=s.fc n (i+1) (out++[(dT p r S N).1.1]) (dT p r S N).2 h2
    rwa [bg]at this
   ·rw[if_neg h,if_neg h];rfl
theorem BK.dm(s:BK p q r r' f g D)(hp:dj p=true)(hr:hasB p.aW r=true)(hq:dj q=true)(gL:hasB q.aW r'=true):
 dm q r'=if(dm p r).2=0 then(⟨fm q.name r',(dm p r).1.turns.map (gT g)⟩,0)else(ug,(dm p r).2):=by
 obtain⟨h1,h2⟩:=s.look (S:=[]) (X:=[0]) (X':=[0]) (fun N h=>by cases h) (fun x hx=>by rw[aq]at hx;subst hx;exact s.zero.1)
  (by have:=vk f [0];rwa [show[0].map f=[0] by rw[bN,s.zero.2];rfl]at this)
 rw[jd]at h1
 have h3:=s.fc 41 0 [] _ h2
 unfold Go.Sy.dm
 rw[hp,hr,hq,gL,h1]
 simp only[Bool.and_self,if_true]
 by_cases k1:(cp p r [] [0]).1.2=0
 ·rw[if_pos k1,if_pos k1]
  rw[jd]at h3
  rw[h3]
  by_cases k2:(Go.Sy.fc p r 41 0 [] (cp p r [] [0]).2).2=0
  ·rw[if_pos k2,if_pos k2];rfl
  ·rw[if_neg k2,if_neg k2,if_neg k2]
 ·rw[if_neg k1,if_neg k1,if_neg k1]
variable {p q:b7} {role r:ByteArray} {S:List (List Int)} {l:Loc}
theorem Ke(h:Proj p role S l):∀t∈l.turns,uH (t.ax.map bD.label):=fun t ht=>by
 obtain⟨j,hj,rfl⟩:=aC.1 ht
 have Qr:j < S.length:=by rw[←h.turns];exact hj
 rcases h.qF j S[j] l.turns[j] (aa Qr) (aa hj)with⟨_,h2⟩|⟨_,h2⟩
 ·rw[h2];exact List.Pairwise.nil
 ·rw[h2.ym];exact pn p _
end Go.Sy
