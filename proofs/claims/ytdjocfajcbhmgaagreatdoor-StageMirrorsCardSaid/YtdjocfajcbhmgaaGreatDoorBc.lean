/- The plain law of books: the parts of a book that is made without a fault; their names, their roots. -/
import Derived.Test.YtdjocfajcbhmgaaGreatDoorZ5
import Derived.Test.YtdjocfajcbhmgaaGreatDoorZ7
set_option linter.unusedSimpArgs false
set_option linter.unusedVariables false
set_option linter.unusedSectionVars false
namespace Go.Sy
theorem Av{α:Type}{p:α→Bool}{l:List α}(h:¬0≤fb p l):∀x∈l,p x=false:=fun x hx=>by
 cases hp:p x with
 |false=>rfl
 |true=>
  exfalso;apply h
  unfold fb
  cases hf:l.findIdx? p with
  |none=>have:=bL.1 hf x hx;rw[hp]at this;cases this
  |some i=>exact Int.natCast_nonneg i
theorem J4{l:List bM}(h:n4 l)(hn:(l.map bM.label).Nodup):o9 (l.map bM.label):=by
 unfold o9
 rw[ff]
 rw[bA,ff]at hn
 refine(h.and hn).imp fun{a b} ⟨h1,h2⟩=>?_
 cases h3:gL a.label b.label with
 |true=>rfl
 |false=>exact absurd (sW h3 h1) h2
theorem zY{l:List ByteArray}(h:∀i:Nat,i < l.length→¬dw l (l.getD i ⟨#[]⟩) < (i:Int)):l.Nodup:=by
 rw[bA,bm]
 intro i j hi hj j1 e
 apply h j hj
 rw[aJ,aa hj,jT]
 unfold dw fb
 cases hf:l.findIdx? fun x=>decide (x=l[j])with
 |none=>have:=bL.1 hf l[j] (az hj);simp at this
 |some k=>
  have hk:=bB.1 hf
  obtain⟨yP,_,AG⟩:=hk
  have:¬i < k:=fun h=>by have:=AG i h;simp[e]at this
  show(k:Int) < j
  omega
theorem qA{ps:List dr}{ls:List Loc}(h:jP ps ls=kE):ps.length≤6∧ls.length≤12∧(∀p∈ps,fK p=true)∧∀l∈ls,c7 l=true∧bZ l.name=true:=by
 unfold jP at h
 by_cases h1:6 < ps.length∨12 < ls.length
 ·rw[if_pos h1]at h;cases h
 rw[if_neg h1]at h
 by_cases h2:0≤fb (fun p=>!fK p) ps
 ·rw[if_pos h2]at h;cases h
 rw[if_neg h2]at h
 by_cases h3:0≤fb (fun l:Loc=>!(c7 l&&bZ l.name)) ls
 ·rw[if_pos h3]at h;cases h
 refine⟨by omega,by omega,fun p hp=>?_,fun l hl=>?_⟩
 ·simpa using Av h2 p hp
 ·simpa using Av h3 l hl
theorem Lo{ps:List dr}{ls:List Loc}(h1:ps.length≤6)(h2:ls.length≤12)(h3:∀p∈ps,fK p=true)(h4:∀l∈ls,c7 l=true∧bZ l.name=true):jP ps ls=kE:=by
 unfold jP
 rw[if_neg (by omega),if_neg (by rw[dv fun i hi=>by simp[h3 _ (az hi)]];omega),if_neg (by rw[dv fun i hi=>by simp[h4 _ (az hi)]];omega)]
theorem Ef{p:dr}:∀(l:List ByteArray) (i:Nat) (out:List Loc),(yG p i l out).2=0→(∀r∈l,(gP p r).2=0)∧(yG p i l out).1.1=out++l.map fun r=>(gP p r).1
 |[],i,out,_=>⟨fun r hr=>(by cases hr),by simp[yG]⟩
 |r::l,i,out,h=>by
  rw[yG]at h⊢
  by_cases h0:(gP p r).2=0
  ·rw[if_pos h0]at h⊢
   obtain⟨h1,h2⟩:=Ef l _ _ h
   exact⟨fun q hq=>by rcases ae.1 hq with rfl|hq;exact h0;exact h1 q hq,by rw[h2,bF,br];rfl⟩
  ·rw[if_neg h0]at h;exact absurd h h0
theorem oL{p:dr}(h:(k9 p).2=0):fK p=true∧(∀r∈p.roles,(gP p r).2=0)∧(k9 p).1.1=p.roles.map fun r=>(gP p r).1:=by
 unfold k9 at h⊢
 cases hv:fK p with
 |false=>rw[hv]at h;simp at h
 |true=>
  rw[hv]at h
  rw[if_pos J]at h⊢
  obtain⟨h1,h2⟩:=Ef _ _ _ h
  exact⟨rfl,h1,by rw[h2];rfl⟩
abbrev xR(p:dr):List Loc:=p.roles.map fun r=>(gP p r).1
theorem zC:∀(ps:List dr) (i:Nat) (out:List (Nat×Loc)),(jk i ps out).2=kE→(∀p∈ps,(k9 p).2=0)∧gC (jk i ps out).1=gC out++ps.flatMap xR
 |[],i,out,_=>⟨fun r hr=>(by cases hr),by simp[jk]⟩
 |p::ps,i,out,h=>by
  rw[jk]at h⊢
  by_cases h0:(k9 p).2=0
  ·rw[if_pos h0]at h⊢
   obtain⟨h1,h2⟩:=zC ps _ _ h
   refine⟨fun q hq=>by rcases ae.1 hq with rfl|hq;exact h0;exact h1 q hq,?_⟩
   rw[h2,lL,show xR p=(k9 p).1.1 from(oL h0).2.2.symm]
   simp[gC,Function.comp_def]
  ·rw[if_neg h0]at h;cases h
theorem zD:∀(ps:List dr) (i:Nat) (out:List (Nat×Loc)),(∀p∈ps,(k9 p).2=0)→(jk i ps out).2=kE
 |[],_,_,_=>rfl
 |p::ps,i,out,h=>by
  rw[jk,if_pos (h p ah)]
  exact zD ps _ _ fun q hq=>h q (ab _ hq)
theorem v7:∀(ls:List Loc) (i:Nat),gC (lb i ls)=ls.map bj
 |[],_=>rfl
 |l::ls,i=>by rw[lb,gC,bF];exact congrArg _ (v7 ls (i+1))
def jx(ps:List dr)(ls:List Loc):List Loc:=ps.flatMap xR++ls.map bj
theorem tP{ps:List dr}{ls:List Loc}(h:(eJ ps ls).2=kE):(∀p∈ps,(k9 p).2=0)∧gC (eJ ps ls).1=jx ps ls:=by
 unfold eJ at h⊢
 by_cases h0:(jk 0 ps []).2=kE
 ·rw[if_pos h0]at h⊢
  obtain⟨h1,h2⟩:=zC ps 0 [] h0
  refine⟨h1,?_⟩
  unfold gC at h2⊢
  rw[a6,h2,jx]
  exact congrArg _ (v7 ls _)
 ·rw[if_neg h0]at h;exact absurd h h0
theorem G1{ps:List dr}{ls:List Loc}(h:∀p∈ps,(k9 p).2=0):(eJ ps ls).2=kE:=by
 unfold eJ;rw[if_pos (zD ps 0 [] h)]
theorem Ah:∀(x:List (Nat×Loc)) (c:Nat),c≤400→fX c x=kE→c+fI (gC x)≤400
 |[],c,hc,_=>by simpa[gC,fI]using hc
 |a::x,c,hc,h=>by
  rw[fX]at h
  by_cases h0:400 < c+a.2.turns.length
  ·rw[if_pos h0]at h;cases h
  ·rw[if_neg h0]at h
   have:=Ah x _ (by omega) h
   simp only[gC,fI,bF,nf]at this⊢
   omega
theorem Ai:∀(x:List (Nat×Loc)) (c:Nat),c+fI (gC x)≤400→fX c x=kE
 |[],_,_=>rfl
 |a::x,c,h=>by
  simp only[gC,fI,bF,nf]at h
  rw[fX,if_neg (by omega)]
  exact Ai x _ (by simp only[gC,fI];omega)
theorem Hx{K:ByteArray→Bool}{ps:List dr}{ls:List Loc}(h1:∀p∈ps,∀x∈p.points,∀a∈x.aP,a.kind=5→K a.name=true)(h2:∀l∈ls,∀t∈l.turns,∀a∈t.aP,a.kind=5→K a.name=true):jz K ps ls=kE:=by
 have key:∀g:List (List bM),(∀l∈g,∀a∈l,a.kind=5→K a.name=true)→decide (0≤fZ K g)=false:=fun g hg=>by
  unfold fZ
  rw[dv fun i hi=>?_]
  ·rfl
  ·unfold jM
   rw[eo]
   intro a ha
   by_cases h5:a.kind=5
   ·simp[hg _ (az hi) a ha h5]
   ·simp[h5]
 unfold jz
 rw[if_neg (by rw[dv fun i hi=>key _ fun l hl=>by obtain⟨x,hx,rfl⟩:=aE.1 hl;exact h1 _ (az hi) x hx];omega),
  if_neg (by rw[dv fun i hi=>key _ fun l hl=>by obtain⟨x,hx,rfl⟩:=aE.1 hl;exact h2 _ (az hi) x hx];omega)]
theorem ug{s:ByteArray}(h:bZ s=true):(46:UInt8)∉s.data.toList:=by
 have hn:sM 46=false:=by decide
 cases hs:s.data.toList with
 |nil=>simp
 |cons c r=>
  rw[uh hs]at h
  simp only[ax,aV]at h
  intro hm
  rcases ae.1 hm with e|hm
  ·have h3:sM c=true:=by unfold sM;rw[h.2.1];rfl
   rw[←e,hn]at h3;cases h3
  ·have h3:=h.2.2.2 _ hm
   rw[hn]at h3;cases h3
theorem LL{a b c d:List UInt8}(ha:(46:UInt8)∉a)(hc:(46:UInt8)∉c)(h:a++46::b=c++46::d):a=c∧b=d:=by
 induction a generalizing c with
 |nil=>
  cases c with
  |nil=>simp at h;exact⟨rfl,h⟩
  |cons x c=>simp at h;exact absurd (h.1▸ah) hc
 |cons x a ih=>
  cases c with
  |nil=>simp at h;exact absurd (h.1▸ah) ha
  |cons y c=>
   simp only[cX,vU]at h
   obtain⟨e1,e2⟩:=ih (fun hm=>ha (ab _ hm)) (fun hm=>hc (ab _ hm)) h.2
   exact⟨by rw[h.1,e1],e2⟩
theorem xj(a b:ByteArray):(kN a b).data.toList=a.data.toList++46::b.data.toList:=by simp[kN,Rj,ByteArray.data_append]
theorem Ea{a b:ByteArray}(h:a.data.toList=b.data.toList):a=b:=ByteArray.ext (Array.ext' h)
theorem AY{a b c d:ByteArray}(ha:bZ a=true)(hc:bZ c=true)(h:kN a b=kN c d):a=c∧b=d:=by
 have h1:=congrArg (fun s:ByteArray=>s.data.toList) h
 simp only[xj]at h1
 obtain⟨e1,e2⟩:=LL (ug ha) (ug hc) h1
 exact⟨Ea e1,Ea e2⟩
theorem Fx{a b s:ByteArray}(hs:bZ s=true):kN a b≠s:=fun h=>by
 apply ug hs
 rw[←h,xj];simp
theorem BH{p:dr}{r:ByteArray}(h:(gP p r).2=0):(gP p r).1.name=kN p.name r:=let⟨_,h1⟩:=tD h;h1.name
theorem zH{ps:List dr}{ls:List Loc}(h:∀p∈ps,(k9 p).2=0):(jx ps ls).map Loc.name=ps.flatMap (fun p=>p.roles.map (kN p.name))++ls.map Loc.name:=by
 unfold jx
 rw[a6,List.map_flatMap,dA]
 congr 1
 induction ps with
 |nil=>rfl
 |cons p ps ih=>
  rw[lL,lL,ih fun q hq=>h q (ab _ hq),xR,dA]
  congr 1
  exact gK fun r hr=>BH ((oL (h p ah)).2.1 r hr)
theorem w4{ps:List dr}{ls:List Loc}{s:ByteArray}:fN ps ls s=true↔s∈ps.flatMap (fun p=>p.roles.map (kN p.name))++ls.map Loc.name:=by
 unfold fN
 simp only[iK,cu,decide_eq_true_eq,aQ,bt,aE]
 exact Or.comm
theorem B8{l:List ByteArray}(h:lR l=true):l.Nodup:=by
 refine zY fun i hi bo=>?_
 have h1:=aV.1 h i (cc.2 hi)
 unfold ry at h1
 rw[aa hi,jT]at h1
 rw[aJ,aa hi,jT]at bo
 simp only[decide_eq_true_eq]at h1
 omega
theorem z6{ps:List dr}{ls:List Loc}(hv:∀p∈ps,fK p=true)(hl:∀l∈ls,bZ l.name=true)(hd:(qN ps ls).Nodup):(ps.flatMap (fun p=>p.roles.map (kN p.name))++ls.map Loc.name).Nodup:=by
 unfold qN at hd
 rw[gg]at hd⊢
 refine⟨?_,hd.2.1,fun a ha b hb e=>?_⟩
 ·have h1:=hd.1
  clear hd
  induction ps with
  |nil=>simp
  |cons p ps ih=>
   have hp:=tC (hv p ah)
   rw[bF,iJ]at h1
   rw[lL,gg]
   refine⟨?_,ih (fun q hq=>hv q (ab _ hq)) h1.2,fun a ha b hb e=>?_⟩
   ·have hr:=B8 hp.1
    rw[bA]at hr⊢
    rw[ff]
    exact hr.imp fun{x y} Vt e=>Vt (AY hp.2.2 hp.2.2 e).2
   ·obtain⟨r,_,rfl⟩:=aE.1 ha
    obtain⟨q,hq,hb⟩:=bt.1 hb
    obtain⟨r',_,rfl⟩:=aE.1 hb
    have:=(AY hp.2.2 (tC (hv q (ab _ hq))).2.2 e).1
    exact h1.1 (this▸bQ hq)
 ·obtain⟨p,_,ha⟩:=bt.1 ha
  obtain⟨r,_,rfl⟩:=aE.1 ha
  obtain⟨l,Pr,rfl⟩:=aE.1 hb
  exact Fx (hl l Pr) e
theorem GY{p:dr}{r:ByteArray}{S:List (List Int)}{l:Loc}(h:Proj p r S l):∀t∈l.turns,∀a∈t.aP,∃x∈p.points,∃b∈x.aP,b.label=a.label∧b.kind=a.kind∧b.name=a.name:=fun t ht a ha=>by
 obtain⟨j,hj,rfl⟩:=aB.1 ht
 have Mp:j < S.length:=by rw[←h.turns];exact hj
 rcases h.tk j S[j] l.turns[j] (aa Mp) (aa hj)with⟨_,h2⟩|⟨_,h2⟩
 ·rw[h2]at ha;cases ha
 ·obtain⟨q1,_⟩:=h2.arm a ha
  have hm:a.label∈hU p S[j]:=by rw[←h2.Aj];exact bQ ha
  obtain⟨b,hb,e1,e2⟩:=rX (n3.1 hm)
  obtain⟨x,hx,Py⟩:=fU.1 hb
  rw[e2]at q1
  injection q1 with k1 k2
  rcases zF p x with hp|hp
  ·exact⟨_,hp,b,Py,e1,k1.symm,k2.symm⟩
  ·rw[hp]at Py;cases Py
theorem q7{l:Loc}(h:c7 l=true):∀t∈(bj l).turns,o9 (t.aP.map bM.label)∧∀a∈t.aP,∃u∈l.turns,∃b∈u.aP,b.kind=a.kind∧b.name=a.name:=fun t ht=>by
 have b7:=ml (gW h) t ht
 obtain⟨x,_,rfl⟩:=aE.1 (show t∈List.map _ (a8 l.g)from ht)
 refine⟨?_,fun a ha=>?_⟩
 ·unfold gd at b7
  split at b7
  ·simp only[ax,eQ]at b7
   rw[b7.2];exact List.Pairwise.nil
  ·split at b7
   ·simp only[ax]at b7
    refine J4 ?_ (gm b7.2).2.2
    show n4 (ly _ _)
    rw[gV]
    exact zo (M4 _)
   ·cases b7
 ·have ha:a∈ly (a8 l.g) (bn l x).aP:=ha
  rw[gV]at ha
  obtain⟨b,hb,rfl⟩:=aE.1 ha
  have hb:=jJ.1 hb
  unfold bn at hb
  rw[aJ]at hb
  cases hx:l.turns[x.toNat]? with
  |none=>rw[hx]at hb;cases hb
  |some t=>rw[hx]at hb;exact⟨t,an hx,b,hb,rfl,rfl⟩
structure yK(ps:List dr)(ls:List Loc):Prop where
 np:ps.length≤6
 nl:ls.length≤12
 may:∀l∈ls,c7 l=true∧bZ l.name=true
 once:(qN ps ls).Nodup
 all:∀p∈ps,(k9 p).2=0
 Rs:∀p∈ps,∀x∈p.points,∀a∈x.aP,a.kind=5→fN ps ls a.name=true
 Rt:∀l∈ls,∀t∈l.turns,∀a∈t.aP,a.kind=5→fN ps ls a.name=true
 size:fI (jx ps ls)≤400
theorem Ge{all:List ByteArray}(h:all.Nodup):jr all=kE:=by
 unfold jr Lq
 rw[dv fun i hi=>?_]
 ·rfl
 ·rw[List.length_range]at hi
  simp only[pS,decide_eq_false_iff_not]
  rw[aJ,aa hi,jT]
  obtain⟨k,hk,e,he⟩:=oh (az hi)
  rw[e]
  have cj:=bm.1 (bA.1 h)
  intro bo
  exact cj k i hk hi (by omega) he
theorem Nj{ps:List dr}{ls:List Loc}(h:yK ps ls):P0 ps ls=(cM (jx ps ls),kE):=by
 have h3:=G1 (ls:=ls) h.all
 have hp:=(tP h3).2
 unfold P0
 rw[Lo h.np h.nl (fun p hp=>(oL (h.all p hp)).1) h.may,Ge h.once,h3,Hx h.Rs h.Rt,Ai _ 0 (by rw[hp];have:=h.size;omega),hp]
 simp
theorem yK.parts{ps:List dr}{ls:List Loc}(h:yK ps ls):mI (jx ps ls):=by
 have hv:∀p∈ps,fK p=true:=fun p hp=>(oL (h.all p hp)).1
 have hn:=zH (ls:=ls) h.all
 have mZ:∀l∈jx ps ls,(∃p∈ps,∃r∈p.roles,∃S,Proj p r S l)∨∃m∈ls,l=bj m:=fun l hl=>by
  rcases aQ.1 hl with hl|hl
  ·obtain⟨p,hp,hl⟩:=bt.1 hl
   obtain⟨r,hr,rfl⟩:=aE.1 hl
   obtain⟨S,hS⟩:=tD ((oL (h.all p hp)).2.1 r hr)
   exact .inl ⟨p,hp,r,hr,S,hS⟩
  ·obtain⟨m,hm,rfl⟩:=aE.1 hl
   exact .inr ⟨m,hm,rfl⟩
 refine⟨by rw[hn];exact z6 hv (fun l hl=>(h.may l hl).2) h.once,h.size,fun l hl=>?_,fun l hl t ht=>?_,fun l hl t ht a ha h5=>?_⟩
 ·rcases mZ l hl with⟨p,_,r,_,S,hS⟩|⟨m,hm,rfl⟩
  ·exact zB hS
  ·exact gW (h.may m hm).1
 ·rcases mZ l hl with⟨p,_,r,_,S,hS⟩|⟨m,hm,rfl⟩
  ·exact GZ hS t ht
  ·exact(q7 (h.may m hm).1 t ht).1
 ·rw[hn]
  rcases mZ l hl with⟨p,hp,r,_,S,hS⟩|⟨m,hm,rfl⟩
  ·obtain⟨x,hx,b,hb,_,e1,e2⟩:=GY hS t ht a ha
   rw[←e2]
   exact w4.1 (h.Rs p hp x hx b hb (by omega))
  ·obtain⟨u,hu,b,hb,e1,e2⟩:=(q7 (h.may m hm).1 t ht).2 a ha
   rw[←e2]
   exact w4.1 (h.Rt m hm u hu b hb (by omega))
end Go.Sy
