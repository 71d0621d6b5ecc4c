/- The plain law of mirrors. -/
import Derived.Test.YtdjocfajcbhmgaaGreatDoorBn1
import Derived.Test.YtdjocfajcbhmgaaGreatDoorZ34
import Derived.Test.YtdjocfajcbhmgaaGreatDoorBd1
import Derived.Test.YtdjocfajcbhmgaaGreatDoorBu4
import Derived.Test.YtdjocfajcbhmgaaGreatDoorGk
set_option linter.unusedSimpArgs false
set_option linter.unusedVariables false
set_option linter.unusedSectionVars false
namespace Go.Sy
def fS(me:ByteArray)(t:fe):fe:=if t.kind=1 then⟨2,me,t.aP⟩else if t.kind=2 then⟨1,me,t.aP⟩else t
def lz(me:ByteArray)(l:Loc):Loc:=⟨l.name,(bj l).turns.map (fS me)⟩
def lQ(l:Loc)(me:ByteArray):ByteArray×Int:=
 if c7 l&&bZ me then(if decide (1 < (fL l).length)||hasB (fL l) me then(⟨#[]⟩,1201)else((fL l).getD 0 ⟨#[]⟩,0))else(⟨#[]⟩,1200)
def PZ(l:Loc)(me:ByteArray):Loc×Int:=if(lQ l me).2=0 then(lz me l,0)else(⟨⟨#[]⟩,[]⟩,(lQ l me).2)
section
variable {me:ByteArray} {l:Loc}
theorem lT(t:fe):(fS me t).aP=t.aP:=by unfold fS;split<;>first|rfl|(split<;>rfl)
theorem P3(me:ByteArray)(l:Loc):(lz me l).g=mN l.g:=by
 rw[←sV]
 unfold Loc.g lz
 simp only
 rw[dA]
 exact gK fun t _=>lT t
theorem tl{n:Int}{t:fe}(h:gd n t=true):t.kind=0∨((t.kind=1∨t.kind=2)∧(bZ t.peer&&eW n t.aP)=true):=by
 unfold gd at h
 split at h
 ·exact .inl (by assumption)
 ·split at h
  ·exact .inr ⟨by assumption,h⟩
  ·cases h
theorem KB{n:Int}{t:fe}(h:gd n t=true)(hm:bZ me=true):gd n (fS me t)=true:=by
 rcases tl h with h1|⟨h1,h2⟩
 ·unfold fS
  rw[if_neg (by omega),if_neg (by omega)];exact h
 ·simp only[ax]at h2
  unfold fS
  rcases h1 with h1|h1
  ·rw[if_pos h1]
   unfold gd
   rw[if_neg (by simp),if_pos (.inr rfl)]
   simp[hm,h2.2]
  ·rw[if_neg (by omega),if_pos h1]
   unfold gd
   rw[if_neg (by simp),if_pos (.inl rfl)]
   simp[hm,h2.2]
theorem KE(me:ByteArray)(l:Loc):(lz me l).turns.length=(bj l).turns.length:=by simp[lz]
theorem KC(h:c7 l=true)(hm:bZ me=true):c7 (lz me l)=true:=by
 have h1:=gW h
 simp only[c7,ax,decide_eq_true_eq,aV]at h1⊢
 rw[KE]
 refine⟨h1.1,h1.2.1,fun t ht=>?_⟩
 obtain⟨s,hs,rfl⟩:=aE.1 (show t∈List.map (fS me) (bj l).turns from ht)
 exact KB (h1.2.2 s hs) hm
theorem EZ(t:fe)(A:List bM):(⟨(fS me t).kind,(fS me t).peer,A⟩:fe)=fS me ⟨t.kind,t.peer,A⟩:=by
 unfold fS
 simp only
 split
 ·rfl
 ·split<;>rfl
theorem vY{x:Int}(hx:0≤x∧x < ((bj l).turns.length:Int)):bn (lz me l) x=fS me (bn (bj l) x):=by
 have bo:x.toNat < (bj l).turns.length:=by omega
 unfold bn lz
 simp only
 rw[aJ,aJ,aI,aa bo]
 rfl
theorem Hz(h:c7 l=true)(me:ByteArray):(bj (lz me l)).turns=(lz me l).turns:=by
 have h2:=congrArg Loc.turns (JL h)
 have hg:=mQ (gW h)
 show List.map _ (a8 (lz me l).g)=List.map (fS me) (bj l).turns
 rw[P3,←h2]
 show _=List.map (fS me) (List.map _ (a8 (bj l).g))
 rw[sV,dA]
 refine gK fun x hx=>?_
 have hr:=wz (g:=(bj l).g) hg.1 hg.2.1 (x:=x) (by rw[sV];exact hx)
 rw[show(bj l).g.length=(bj l).turns.length by simp[Loc.g]]at hr
 rw[vY hr,lT,EZ]
 rfl
def jb(a:ByteArray)(l:Loc):Prop:=∀t∈l.turns,t.kind≠0→t.peer=a
theorem Gh(l:Loc)(x:Int):bn l x∈l.turns∨bn l x=mP:=by
 unfold bn
 rw[aJ]
 cases hx:l.turns[x.toNat]? with
 |none=>exact .inr rfl
 |some t=>exact .inl (an hx)
theorem B7{a:ByteArray}(h:jb a l){x:Int}(hk:(bn l x).kind≠0):(bn l x).peer=a:=by
 rcases Gh l x with h1|h1
 ·exact h _ h1 hk
 ·rw[h1]at hk;exact absurd J hk
theorem zP{a:ByteArray}(h:jb a l):jb a (bj l):=fun t ht hk=>by
 obtain⟨x,_,rfl⟩:=aE.1 (show t∈List.map _ (a8 l.g)from ht)
 exact B7 h hk
theorem Kl(h:c7 l=true)(me:ByteArray):jb me (lz me l):=fun t ht hk=>by
 obtain⟨s,hs,rfl⟩:=aE.1 (show t∈List.map (fS me) (bj l).turns from ht)
 rcases tl (ml (gW h) s hs)with h1|⟨h1|h1,_⟩
 ·exfalso;apply hk;unfold fS;rw[if_neg (by omega),if_neg (by omega)];exact h1
 ·unfold fS;rw[if_pos h1]
 ·unfold fS;rw[if_neg (by omega),if_pos h1]
theorem wN{a:ByteArray}(h:jb a l):∀s∈fL l,s=a:=fun s hs=>by
 unfold fL at hs
 split at hs
 ·obtain⟨x,_,hk,rfl⟩:=BR.1 hs
  exact B7 h hk
 ·cases hs
theorem EN{a:ByteArray}(h:jb a l):fL l=[]∨fL l=[a]:=by
 have h1:=wN h
 have h2:=oJ (EC l)
 generalize fL l=p at h1 h2
 match p,h1,h2 with
 |[],_,_=>exact .inl rfl
 |[x],h1,_=>exact .inr (by rw[h1 x ah])
 |x::y::r,h1,h2=>
  exfalso
  have e:=(h1 x ah).trans (h1 y (ab _ ah)).symm
  subst e
  exact(iJ.1 h2).1 ah
theorem Ni{a:ByteArray}(h:jb a l)(hv:c7 l=true)(hm:bZ me=true)(cj:me≠a):(lQ l me).2=0∧PZ l me=(lz me l,0):=by
 have hh:hasB (fL l) me=false:=by
  cases hb:hasB (fL l) me with
  |false=>rfl
  |true=>exact absurd (wN h me (gY.1 hb)) cj
 have h1:(lQ l me).2=0:=by
  unfold lQ
  rw[hv,hm,hh]
  rcases EN h with h1|h1<;>rw[h1]<;>rfl
 exact⟨h1,by unfold PZ;rw[if_pos h1]⟩
end
theorem tn{l:List Int}{n q:Int}{k:Nat}:∀i,∀t∈(e8 [] l n q k i).1,∀a∈t.aP,a.kind < 5
 |0,t,h=>by cases h
 |i+1,t,h=>by
  rw[e8]at h
  split at h
  ·rcases aQ.1 h with h|h
   ·exact tn i t h
   ·rw[aH]at h
    subst h;intro a ha;cases ha
  ·rcases aQ.1 h with h|h
   ·exact tn i t h
   ·rw[aH]at h
    subst h;exact Be _
def gS(q:ByteArray)(t:fe):fe:=if t.kind=0 then t else⟨t.kind,q,t.aP⟩
def xU(q:ByteArray)(l:Loc):Loc:=⟨l.name,l.turns.map (gS q)⟩
theorem BW(q:ByteArray)(t:fe):(gS q t).aP=t.aP:=by unfold gS;split<;>rfl
theorem Ha{q:ByteArray}(hq:bZ q=true){n:Int}{t:fe}(h:gd n t=true):gd n (gS q t)=true:=by
 unfold gS
 split
 ·exact h
 ·rename_i h0
  unfold gd at h⊢
  simp only
  rw[if_neg h0]at h⊢
  split at h
  ·rename_i h1
   rw[if_pos h1,hq]
   simp only[ax]at h
   exact h.2
  ·cases h
theorem EE{q:ByteArray}(hq:bZ q=true){l:Loc}(h:c7 l=true):c7 (xU q l)=true:=by
 have hl:=fp h
 have ht:=ml h
 unfold c7 xU
 simp only[aw,ax,decide_eq_true_eq,aV]
 refine⟨hl.1,hl.2,fun t hm=>?_⟩
 obtain⟨u,hu,rfl⟩:=aE.1 hm
 exact Ha hq (ht u hu)
theorem BX(q:ByteArray)(l:Loc):jb q (xU q l):=fun t ht hk=>by
 obtain⟨u,_,rfl⟩:=aE.1 (show t∈l.turns.map (gS q)from ht)
 unfold gS at hk⊢
 split
 ·rename_i h0;rw[if_pos h0]at hk;exact absurd h0 hk
 ·rfl
abbrev sn:ByteArray:=⟨#[97]⟩
abbrev vf:ByteArray:=⟨#[98]⟩
abbrev fY:ByteArray:=⟨#[111,110,101]⟩
abbrev j9:ByteArray:=⟨#[116,119,111]⟩
def dk(l:Loc):Loc:=⟨j9,(lz sn l).turns⟩
theorem Eo(l:Loc)(s:ByteArray):bj ⟨s,l.turns⟩=⟨s,(bj l).turns⟩:=rfl
def oQ(l:Loc)(r:ByteArray):Loc:=if r=sn then bj l else dk l
theorem y2{l:Loc}(h:c7 l=true):bj (dk l)=dk l:=by
 unfold dk
 rw[Eo,Hz h]
theorem B6{l:Loc}(hv:c7 l=true)(hc:∀t∈l.turns,∀a∈t.aP,a.kind < 5):∀t∈(dk l).turns,∀a∈t.aP,a.kind < 5:=fun t ht a ha=>by
 obtain⟨u,hu,rfl⟩:=aE.1 (show t∈(bj l).turns.map (fS sn)from ht)
 rw[lT]at ha
 obtain⟨w,hw,b,hb,e,_⟩:=(q7 hv u hu).2 a ha
 have:=hc w hw b hb
 omega
theorem Ab{l:Loc}(hv:c7 l=true)(hn:l.name=fY)(hc:∀t∈l.turns,∀a∈t.aP,a.kind < 5):yK [] [l,dk l]:=by
 have h2:c7 (dk l)=true:=KC hv (by decide)
 have l1:=fp (gW hv)
 have l2:=fp h2
 refine⟨by simp,by simp,fun m hm=>?_,?_,fun p hp=>(by cases hp),fun p hp=>(by cases hp),fun m hm t ht a ha h5=>?_,?_⟩
 ·rcases ae.1 hm with rfl|hm
  ·exact⟨hv,by rw[hn];decide⟩
  ·rw[aH]at hm;subst hm
   exact⟨h2,(by decide:bZ j9=true)⟩
 ·show[l.name,j9].Nodup
  rw[hn];decide
 ·rcases ae.1 hm with rfl|hm
  ·have:=hc t ht a ha;omega
  ·rw[aH]at hm;subst hm
   have:=B6 hv hc t ht a ha;omega
 ·show(bj l).turns.length+((bj (dk l)).turns.length+0)≤400
  rw[y2 hv]
  omega
theorem wT{l:Loc}(hv:c7 l=true):jx [] [l,dk l]=[bj l,dk l]:=by
 show[bj l,bj (dk l)]=_
 rw[y2 hv]
abbrev Bt:List ByteArray:=[sn,vf]
theorem jX(l:Loc):oQ l sn=bj l:=if_pos J
theorem jW(l:Loc):oQ l vf=dk l:=if_neg (by decide)
theorem KD{l:Loc}(hv:c7 l=true)(hn:l.name=fY)(hc:∀t∈l.turns,∀a∈t.aP,a.kind < 5)(h1:jb vf l):
 mI [bj l,dk l]∧(∀r∈Bt,oQ l r∈[bj l,dk l])∧LX (cM [bj l,dk l]) Bt (oQ l) fun r=>eV [bj l,dk l] (oQ l r).name:=by
 have hP:=(Ab hv hn hc).parts
 rw[wT hv]at hP
 have hM:∀r∈Bt,oQ l r∈[bj l,dk l]:=fun r hr=>by
  rcases ae.1 hr with rfl|hr
  ·rw[jX];simp
  ·rw[aH]at hr;subst hr;rw[jW];simp
 refine⟨hP,hM,FF hP (by decide) hM fun r hr t ht hk=>?_⟩
 rcases ae.1 hr with rfl|hr
 ·rw[jX]at ht
  rw[zP h1 t ht hk];exact⟨by simp,by decide⟩
 ·rw[aH]at hr;subst hr
  rw[jW]at ht
  rw[Kl hv sn t ht hk];exact⟨by simp,by decide⟩
theorem HA{l:Loc}(hv:c7 l=true)(h1:jb vf l):Pa Bt (oQ l) fun _ (x:Int) t=>t=x∧0≤x∧x < ((bj l).turns.length:Int):=by
 intro x t hA
 obtain⟨ta,h0,bo⟩:=hA sn (by simp)
 obtain⟨tb,_,_⟩:=hA vf (by simp)
 have UF:=gW hv
 have hu:=ml UF _ (od ⟨h0,bo⟩)
 have hb:bn (dk l) x=fS sn (bn (bj l) x):=vY (me:=sn) ⟨h0,bo⟩
 have rL:(bn (bj l) x).kind≠0→(bn (bj l) x).peer=vf:=B7 (zP h1)
 have H6:∀a∈(bn (bj l) x).aP,0≤a.next∧a.next < ((bj l).turns.length:Int):=fun a ha=>by
  have:=(mQ UF).1 x a (by rw[cg];exact ha)
  rwa [show(bj l).g.length=(bj l).turns.length by simp[Loc.g]]at this
 have fP:∀{P:ByteArray→Prop},P sn→P vf→∀r∈Bt,P r:=fun{P} ha hb r hr=>by
  rcases ae.1 hr with rfl|hr
  ·exact ha
  ·rw[aH]at hr;subst hr;exact hb
 have key:∀z a,ma (bj l) x z=some a→ma (dk l) x z=some a∧0≤a.next∧a.next < ((bj l).turns.length:Int):=fun z a hf=>by
  have hm:=(qC hf).1
  rw[cg]at hm
  refine⟨?_,H6 a hm⟩
  unfold ma at hf⊢
  rw[cg]at hf⊢
  rw[hb,lT];exact hf
 have SG:∀z a,ma (dk l) x z=some a→ma (bj l) x z=some a:=fun z a hf=>by
  unfold ma at hf⊢
  rw[cg]at hf⊢
  rw[hb,lT]at hf;exact hf
 rcases tl hu with hk|⟨hk,b7⟩
 ·left
  have he:(bn (bj l) x).aP=[]:=by
   unfold gd at hu
   rw[if_pos hk]at hu
   simp only[ax,eQ]at hu
   exact hu.2
  have hm:fS sn (bn (bj l) x)=bn (bj l) x:=by unfold fS;rw[if_neg (by omega),if_neg (by omega)]
  refine fP ⟨by rw[jX,ta];exact hk,by rw[jX,ta,cg];exact he⟩ ⟨by rw[jW,tb,hb,hm];exact hk,by rw[jW,tb,cg,hb,hm];exact he⟩
 ·right
  have cj:(bn (bj l) x).aP≠[]:=by
   simp only[ax]at b7
   have:=(gm b7.2).1.1
   intro e;rw[e]at this;simp at this
  rcases hk with hk|hk
  ·have hm:fS sn (bn (bj l) x)=⟨2,sn,(bn (bj l) x).aP⟩:=by unfold fS;rw[if_pos hk]
   refine⟨sn,by simp,vf,by simp,by decide,⟨by rw[jX,ta];exact hk,by rw[jX,ta];exact rL (by omega),by rw[jX,ta,cg];exact cj⟩,⟨by rw[jW,tb,hb,hm],by rw[jW,tb,hb,hm]⟩,fun z a hf=>?_⟩
   rw[jX,ta]at hf
   obtain⟨k1,k2⟩:=key z a hf
   refine⟨a.next,a,by rw[jW,tb];exact k1,⟨rfl,k2⟩,⟨rfl,k2⟩,fP (fun e=>absurd J e) (fun _ e=>absurd J e)⟩
  ·have hm:fS sn (bn (bj l) x)=⟨1,sn,(bn (bj l) x).aP⟩:=by unfold fS;rw[if_neg (by omega),if_pos hk]
   refine⟨vf,by simp,sn,by simp,by decide,⟨by rw[jW,tb,hb,hm],by rw[jW,tb,hb,hm],by rw[jW,tb,cg,hb,hm];exact cj⟩,⟨by rw[jX,ta];exact hk,by rw[jX,ta];exact rL (by omega)⟩,fun z a hf=>?_⟩
   rw[jW,tb]at hf
   have Mr:=SG z a hf
   obtain⟨k1,k2⟩:=key z a Mr
   refine⟨a.next,a,by rw[jX,ta];exact Mr,⟨rfl,k2⟩,⟨rfl,k2⟩,fP (fun _ e=>absurd J e) (fun e=>absurd J e)⟩
end Go.Sy
set_option linter.unusedSimpArgs false
set_option linter.unusedVariables false
set_option linter.unusedSectionVars false
namespace Go.Sy
open Go.Proofs
set_option maxRecDepth 100000
attribute [local irreducible] SOps Goes DOps EOps
theorem Gi{l:Loc}(h:iv l):iv (bj l):=by
 intro t ht a ha
 obtain⟨x,_,rfl⟩:=aE.1 (show t∈List.map _ (a8 l.g)from ht)
 have ha:a∈ly (a8 l.g) (bn l x).aP:=ha
 rw[gV]at ha
 obtain⟨b,hb,rfl⟩:=aE.1 ha
 have hb:=jJ.1 hb
 unfold bn at hb
 rw[aJ]at hb
 cases hx:l.turns[x.toNat]? with
 |none=>rw[hx]at hb;cases hb
 |some t=>rw[hx]at hb;exact h t (an hx) b hb
theorem MT{l:Loc}(h:c7 l=true):tr l=bj l:=if_pos h
def PF:Edge:=⟨⟨#[120]⟩,0,0,2⟩
def dJ:Bk:=⟨[⟨1,⟨#[98]⟩,[PF]⟩,⟨2,⟨#[97]⟩,[PF]⟩,⟨0,⟨#[]⟩,[]⟩],[],[]⟩
set_option maxHeartbeats 4000000 in
theorem CJ:dy Tryz.prog 64 [] [] (.v (Ag [.slice true 3 [[.int .i64 1,.str ⟨#[98]⟩,.slice true 4 [PF.cs]],[.int .i64 2,.str ⟨#[97]⟩,.slice true 4 [PF.cs]],[.int .i64 0,.str ⟨#[]⟩,.bK]],.bK,.bK])) []:=by
 refine bd (c:=_) Tryz.func64 rfl rfl rfl (by decide) fun w M0 H Z=>?_
 repeat'(first|refine bH J ?_|(refine al ?_;refine aj th J ?_)|(refine au mix J J ?_;refine ak th J ?_)|(refine ao mix J J ?_;refine ay th J ?_)|refine SOps.nil ?_|refine DOps.nil ?_|refine EOps.nil ?_ rfl rfl|((first|refine aq J J ?_ ?_|refine av J J J ?_ ?_|refine aU J ?_ ?_)<;>intro hb<;>(try simp only[aF]at hb)<;>first|(exfalso;omega)|refine aj th J ?_|refine ak th J ?_|skip)|(refine nq 3 J J ?_;refine aj th J ?_)|(refine dZ 9 J J ?_)|refine aT th Tryz.func64 (.inr ⟨_,rfl⟩) J J J ?_ rfl)
 all_goals exact .refl _
theorem Fq:dy Tryz.prog 64 [] [] (.v (Ag dJ.cs)) []:=by
 refine(CJ.le (res':=.v (Ag [.slice true 3 (dJ.nodes.map Nd.cs),.slice false 1 [],.slice false 1 []])) ?_).le ?_
 ·refine .v (.agg (.cons (.c (DM ?_)) (.cons (.c (.nil 1)) (.cons (.c (.nil 1)) .nil))))
  refine .cons (.cons (.refl _) (.cons (.refl _) (.cons (.nn true 4 _) .nil))) (.cons (.cons (.refl _) (.cons (.refl _) (.cons (.nn true 4 _) .nil))) (.cons (.cons (.refl _) (.cons (.refl _) (.cons (.nil 4) .nil))) .nil))
 ·exact .v (.agg (.cons (.c (.nn true 3 _)) (.cons (.refl _) (.cons (.refl _) .nil))))
theorem uX:fH dJ=true:=by
 have h1:bZ ⟨#[98]⟩=true:=by decide
 have h2:bZ ⟨#[120]⟩=true:=by decide
 have h3:bZ ⟨#[97]⟩=true:=by decide
 simp[fH,dJ,j7,u6,tZ,PF,sc,h1,h2,h3,List.range,List.range.loop]
def Dq:jd:=⟨[0,1],[[],[],[],[]]⟩
def t13:jd:=⟨[2,1],[[],[⟨#[120]⟩],[],[]]⟩
theorem x8:fa dJ nh Dq=true:=by
 unfold fa
 rw[uX]
 decide
theorem DJ:fa dJ nh t13=true:=by
 unfold fa
 rw[uX]
 decide
theorem wS:c9 dJ nh Dq=[⟨1,0,⟨#[120]⟩⟩]:=by
 unfold c9
 rw[if_pos x8]
 decide
theorem EY:c9 dJ nh t13=[⟨2,1,⟨#[120]⟩⟩]:=by
 unfold c9
 rw[if_pos DJ]
 decide
theorem LG:kP dJ nh [0,1]=(Dq,0):=by
 unfold kP
 rw[if_neg (by decide),if_pos (by exact x8)]
 rfl
theorem Ul:IT dJ nh Dq ⟨1,0,⟨#[120]⟩⟩=(t13,0):=by
 unfold IT
 rw[if_neg (by rw[x8];decide),if_neg (by rw[wS];simp)]
 have:qW dJ nh Dq ⟨1,0,⟨#[120]⟩⟩=t13:=by
  have h1:(qW dJ nh Dq ⟨1,0,⟨#[120]⟩⟩).at_=t13.at_:=by decide
  have h2:(qW dJ nh Dq ⟨1,0,⟨#[120]⟩⟩).bY=t13.bY:=by decide
  generalize qW dJ nh Dq ⟨1,0,⟨#[120]⟩⟩=q at h1 h2
  obtain⟨a,b⟩:=q
  simp only at h1 h2
  rw[h1,h2]
 rw[this]
theorem Hd:nv dJ nh t13=false:=by
 unfold nv
 rw[DJ]
 decide
theorem JT:tA t13 t13=true:=by decide
theorem JU:tA Dq t13=false:=by decide
set_option maxHeartbeats 8000000 in
theorem Ft:dy Tryz.prog 24 [] [] (Rv (.bool true)) []:=by
 have Iv:dy Tryz.prog 33 [] [Ag dJ.cs,C1 (bh nh),C1 (cA [0,1])] (.gE [Ag Dq.cs,C1 (.int .i64 0)]) []:=by
  have h:=D9 dJ nh [0,1] (by decide);rw[LG]at h;exact h
 have KY:=s5 dJ nh Dq (mi uX);rw[wS]at KY
 have Mj:=s5 dJ nh t13 (mi uX);rw[EY]at Mj
 have JE:dy Tryz.prog 28 [] [Ag dJ.cs,C1 (bh nh),Ag Dq.cs,Ag (Mv.cs ⟨1,0,⟨#[120]⟩⟩)] (.gE [Ag t13.cs,C1 (.int .i64 0)]) []:=by
  have h:=Rk dJ nh Dq ⟨1,0,⟨#[120]⟩⟩ (mi uX);rw[Ul]at h;exact h
 have Po:=Hf dJ nh t13;rw[Hd]at Po
 have RR:=Dk t13 t13;rw[JT]at RR
 have eu:=Dk Dq t13;rw[JU]at eu
 have Mg:=se [⟨1,0,⟨#[120]⟩⟩] [⟨1,0,⟨#[120]⟩⟩];rw[show decide (([⟨1,0,⟨#[120]⟩⟩]:List Mv)=[⟨1,0,⟨#[120]⟩⟩])=true by decide]at Mg
 have SZ:=se [⟨2,1,⟨#[120]⟩⟩] [⟨2,1,⟨#[120]⟩⟩];rw[show decide (([⟨2,1,⟨#[120]⟩⟩]:List Mv)=[⟨2,1,⟨#[120]⟩⟩])=true by decide]at SZ
 refine bd (c:=_) Tryz.func24 rfl rfl rfl (by decide) fun w M0 H Z=>?_
 repeat'(first|refine bH J ?_|(refine al ?_;refine aj th J ?_)|(refine au mix J J ?_;refine ak th J ?_)|(refine ao mix J J ?_;refine ay th J ?_)|refine SOps.nil ?_|refine DOps.nil ?_|refine EOps.nil ?_ rfl rfl|((first|refine aq J J ?_ ?_|refine av J J J ?_ ?_|refine aU J ?_ ?_)<;>intro hb<;>(try simp only[aF]at hb)<;>first|(exfalso;omega)|refine aj th J ?_|refine ak th J ?_|skip)|(refine aS Fq [] J J J J J J J J J J ?_;refine aj th J ?_)|((first|refine iY C2 J J J J J J J ?_|refine MG th J J J J J J J J J J J J (.nn true 1 _) ?_|refine iY Iv J J J J J J J ?_|refine iY JE J J J J J J J ?_|refine iC th J J J J J J J J J 0 _ J J ?_);refine ay th J ?_)|((first|refine dq C2 [] J J J J J J J J J J J ?_|refine dq KY [] J J J J J J J J J J J ?_|refine dq Mj [] J J J J J J J J J J J ?_|refine dq SZ [] J J J J J J J J J J J ?_|refine dq Po [] J J J J J J J J J J J ?_|refine dq RR [] J J J J J J J J J J J ?_|refine dq eu [] J J J J J J J J J J J ?_);refine ak th J ?_)|(refine DOps.step rfl (tV th J J J J J J J J J (.nn true 3 _) J J) ?_;refine ak th J ?_)|((first|refine nq 24 J J ?_|refine L3 24 (.v (C1 (ny [⟨1,0,⟨#[120]⟩⟩]))) J (.v (.one (.c (.nn true 3 _)))) ?_|refine aS Mg [] J J J J J J J J J J ?_);refine aj th J ?_)|(exfalso;revert hb;decide))
 refine aT th Tryz.func24 (.inr ⟨_,rfl⟩) J J J (.refl _) J
end Go.Sy
