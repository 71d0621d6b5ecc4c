/- The plain law of books: the parts of a book that is made without a fault; their names, their roots. -/
import Derived.Test.YtdjocfajcbhmgaaGreatDoorZ5
import Derived.Test.YtdjocfajcbhmgaaGreatDoorZ8
set_option linter.unusedSimpArgs false
set_option linter.unusedVariables false
set_option linter.unusedSectionVars false
namespace Go.Sy
theorem C4{α:Type}{p:α→Bool}{l:List α}(h:¬0≤jA p l):∀x∈l,p x=false:=fun x hx=>by
 cases hp:p x with
 |false=>rfl
 |true=>
  exfalso;apply h
  unfold jA
  cases hf:l.findIdx? p with
  |none=>have:=bx.1 hf x hx;rw[hp]at this;cases this
  |some i=>exact Int.natCast_nonneg i
theorem NI{l:List bD}(h:pq l)(hn:(l.map bD.label).Nodup):uH (l.map bD.label):=by
 unfold uH
 rw[eP]
 rw[bM,eP]at hn
 refine(h.and hn).imp fun{a b} ⟨h1,h2⟩=>?_
 cases h3:gQ a.label b.label with
 |true=>rfl
 |false=>exact absurd (ve h3 h1) h2
theorem CA{l:List ByteArray}(h:∀i:Nat,i < l.length→¬fC l (l.getD i ⟨#[]⟩) < (i:Int)):l.Nodup:=by
 rw[bM,bB]
 intro i j hi hj km e
 apply h j hj
 rw[aG,aa hj,gk]
 unfold fC jA
 cases hf:l.findIdx? fun x=>decide (x=l[j])with
 |none=>have:=bx.1 hf l[j] (an hj);simp at this
 |some k=>
  have hk:=bh.1 hf
  obtain⟨IA,_,Tx⟩:=hk
  have:¬i < k:=fun h=>by have:=Tx i h;simp[e]at this
  show(k:Int) < j
  omega
theorem sf{ps:List b7}{ls:List Loc}(h:kz ps ls=lo):ps.length≤6∧ls.length≤12∧(∀p∈ps,dj p=true)∧∀l∈ls,fP l=true∧cg l.name=true:=by
 unfold kz at h
 by_cases h1:6 < ps.length∨12 < ls.length
 ·rw[if_pos h1]at h;cases h
 rw[if_neg h1]at h
 by_cases h2:0≤jA (fun p=>!dj p) ps
 ·rw[if_pos h2]at h;cases h
 rw[if_neg h2]at h
 by_cases h3:0≤jA (fun l:Loc=>!(fP l&&cg l.name)) ls
 ·rw[if_pos h3]at h;cases h
 refine⟨by omega,by omega,fun p hp=>?_,fun l hl=>?_⟩
 ·simpa using C4 h2 p hp
 ·simpa using C4 h3 l hl
theorem Pa{ps:List b7}{ls:List Loc}(h1:ps.length≤6)(h2:ls.length≤12)(h3:∀p∈ps,dj p=true)(h4:∀l∈ls,fP l=true∧cg l.name=true):kz ps ls=lo:=by
 unfold kz
 rw[if_neg (by omega),if_neg (by rw[ey fun i hi=>by simp[h3 _ (an hi)]];omega),if_neg (by rw[ey fun i hi=>by simp[h4 _ (an hi)]];omega)]
theorem Hn{p:b7}:∀(l:List ByteArray) (i:Nat) (out:List Loc),(re p i l out).2=0→(∀r∈l,(dm p r).2=0)∧(re p i l out).1.1=out++l.map fun r=>(dm p r).1
 |[],i,out,_=>⟨fun r hr=>(by cases hr),by simp[re]⟩
 |r::l,i,out,h=>by
  rw[re]at h⊢
  by_cases h0:(dm p r).2=0
  ·rw[if_pos h0]at h⊢
   obtain⟨h1,h2⟩:=Hn l _ _ h
   exact⟨fun q hq=>by rcases ae.1 hq with rfl|hq;exact h0;exact h1 q hq,by rw[h2,bN,bf];rfl⟩
  ·rw[if_neg h0]at h;exact absurd h h0
theorem Ho{p:b7}:∀(l:List ByteArray) (i:Nat) (out:List Loc),(∀r∈l,(dm p r).2=0)→(re p i l out).2=0
 |[],_,_,_=>rfl
 |r::l,i,out,h=>by
  rw[re,if_pos (h r ah)]
  exact Ho l _ _ fun q hq=>h q (ab _ hq)
theorem p9{p:b7}(h:(kg p).2=0):dj p=true∧(∀r∈p.aW,(dm p r).2=0)∧(kg p).1.1=p.aW.map fun r=>(dm p r).1:=by
 unfold kg at h⊢
 cases hv:dj p with
 |false=>rw[hv]at h;simp at h
 |true=>
  rw[hv]at h
  rw[if_pos J]at h⊢
  obtain⟨h1,h2⟩:=Hn _ _ _ h
  exact⟨rfl,h1,by rw[h2];rfl⟩
theorem PR{p:b7}(hv:dj p=true)(h:∀r∈p.aW,(dm p r).2=0):(kg p).2=0:=by
 unfold kg;rw[hv,if_pos J];exact Ho _ _ _ h
abbrev sW(p:b7):List Loc:=p.aW.map fun r=>(dm p r).1
theorem Cg:∀(ps:List b7) (i:Nat) (out:List (Nat×Loc)),(jP i ps out).2=lo→(∀p∈ps,(kg p).2=0)∧ij (jP i ps out).1=ij out++ps.flatMap sW
 |[],i,out,_=>⟨fun r hr=>(by cases hr),by simp[jP]⟩
 |p::ps,i,out,h=>by
  rw[jP]at h⊢
  by_cases h0:(kg p).2=0
  ·rw[if_pos h0]at h⊢
   obtain⟨h1,h2⟩:=Cg ps _ _ h
   refine⟨fun q hq=>by rcases ae.1 hq with rfl|hq;exact h0;exact h1 q hq,?_⟩
   rw[h2,ef,show sW p=(kg p).1.1 from(p9 h0).2.2.symm]
   simp[ij,Function.comp_def]
  ·rw[if_neg h0]at h;cases h
theorem Ch:∀(ps:List b7) (i:Nat) (out:List (Nat×Loc)),(∀p∈ps,(kg p).2=0)→(jP i ps out).2=lo
 |[],_,_,_=>rfl
 |p::ps,i,out,h=>by
  rw[jP,if_pos (h p ah)]
  exact Ch ps _ _ fun q hq=>h q (ab _ hq)
theorem yK:∀(ls:List Loc) (i:Nat),ij (lU i ls)=ls.map ox
 |[],_=>rfl
 |l::ls,i=>by rw[lU,ij,bN];exact congrArg _ (yK ls (i+1))
def cL(ps:List b7)(ls:List Loc):List Loc:=ps.flatMap sW++ls.map ox
theorem vY{ps:List b7}{ls:List Loc}(h:(fe ps ls).2=lo):(∀p∈ps,(kg p).2=0)∧ij (fe ps ls).1=cL ps ls:=by
 unfold fe at h⊢
 by_cases h0:(jP 0 ps []).2=lo
 ·rw[if_pos h0]at h⊢
  obtain⟨h1,h2⟩:=Cg ps 0 [] h0
  refine⟨h1,?_⟩
  unfold ij at h2⊢
  rw[bg,h2,cL]
  exact congrArg _ (yK ls _)
 ·rw[if_neg h0]at h;exact absurd h h0
theorem Kg{ps:List b7}{ls:List Loc}(h:∀p∈ps,(kg p).2=0):(fe ps ls).2=lo:=by
 unfold fe;rw[if_pos (Ch ps 0 [] h)]
theorem CM:∀(x:List (Nat×Loc)) (c:Nat),c≤400→gG c x=lo→c+gx (ij x)≤400
 |[],c,hc,_=>by simpa[ij,gx]using hc
 |a::x,c,hc,h=>by
  rw[gG]at h
  by_cases h0:400 < c+a.2.turns.length
  ·rw[if_pos h0]at h;cases h
  ·rw[if_neg h0]at h
   have:=CM x _ (by omega) h
   simp only[ij,gx,bN,List.sum_cons]at this⊢
   omega
theorem CN:∀(x:List (Nat×Loc)) (c:Nat),c+gx (ij x)≤400→gG c x=lo
 |[],_,_=>rfl
 |a::x,c,h=>by
  simp only[ij,gx,bN,List.sum_cons]at h
  rw[gG,if_neg (by omega)]
  exact CN x _ (by simp only[ij,gx];omega)
theorem KI{K:ByteArray→Bool}{ps:List b7}{ls:List Loc}(h1:∀p∈ps,∀x∈p.points,∀a∈x.ax,a.kind=5→K a.name=true)(h2:∀l∈ls,∀t∈l.turns,∀a∈t.ax,a.kind=5→K a.name=true):j4 K ps ls=lo:=by
 have key:∀g:List (List bD),(∀l∈g,∀a∈l,a.kind=5→K a.name=true)→decide (0≤gJ K g)=false:=fun g hg=>by
  unfold gJ
  rw[ey fun i hi=>?_]
  ·rfl
  ·unfold kt
   rw[fH]
   intro a ha
   by_cases h5:a.kind=5
   ·simp[hg _ (an hi) a ha h5]
   ·simp[h5]
 unfold j4
 rw[if_neg (by rw[ey fun i hi=>key _ fun l hl=>by obtain⟨x,hx,rfl⟩:=aL.1 hl;exact h1 _ (an hi) x hx];omega),
  if_neg (by rw[ey fun i hi=>key _ fun l hl=>by obtain⟨x,hx,rfl⟩:=aL.1 hl;exact h2 _ (an hi) x hx];omega)]
theorem wG{s:ByteArray}(h:cg s=true):(46:UInt8)∉s.data.toList:=by
 have hn:uP 46=false:=by decide
 cases hs:s.data.toList with
 |nil=>simp
 |cons c r=>
  rw[wI hs]at h
  simp only[av,a7]at h
  intro hm
  rcases ae.1 hm with e|hm
  ·have h3:uP c=true:=by unfold uP;rw[h.2.1];rfl
   rw[←e,hn]at h3;cases h3
  ·have h3:=h.2.2.2 _ hm
   rw[hn]at h3;cases h3
theorem PI{a b c d:List UInt8}(ha:(46:UInt8)∉a)(hc:(46:UInt8)∉c)(h:a++46::b=c++46::d):a=c∧b=d:=by
 induction a generalizing c with
 |nil=>
  cases c with
  |nil=>simp at h;exact⟨rfl,h⟩
  |cons x c=>simp at h;exact absurd (h.1▸ah) hc
 |cons x a ih=>
  cases c with
  |nil=>simp at h;exact absurd (h.1▸ah) ha
  |cons y c=>
   simp only[cH,List.cons.injEq]at h
   obtain⟨e1,e2⟩:=ih (fun hm=>ha (ab _ hm)) (fun hm=>hc (ab _ hm)) h.2
   exact⟨by rw[h.1,e1],e2⟩
theorem zQ(a b:ByteArray):(fm a b).data.toList=a.data.toList++46::b.data.toList:=by simp[fm,IS,ByteArray.data_append]
theorem Hh{a b:ByteArray}(h:a.data.toList=b.data.toList):a=b:=ByteArray.ext (Array.ext' h)
theorem Dy{a b c d:ByteArray}(ha:cg a=true)(hc:cg c=true)(h:fm a b=fm c d):a=c∧b=d:=by
 have h1:=congrArg (fun s:ByteArray=>s.data.toList) h
 simp only[zQ]at h1
 obtain⟨e1,e2⟩:=PI (wG ha) (wG hc) h1
 exact⟨Hh e1,Hh e2⟩
theorem IQ{a b s:ByteArray}(hs:cg s=true):fm a b≠s:=fun h=>by
 apply wG hs
 rw[←h,zQ];simp
theorem Ew{p:b7}{r:ByteArray}(h:(dm p r).2=0):(dm p r).1.name=fm p.name r:=let⟨_,h1⟩:=kp h;h1.name
theorem ud{ps:List b7}{ls:List Loc}(h:∀p∈ps,(kg p).2=0):(cL ps ls).map Loc.name=ps.flatMap (fun p=>p.aW.map (fm p.name))++ls.map Loc.name:=by
 unfold cL
 rw[bg,List.map_flatMap,qB]
 congr 1
 induction ps with
 |nil=>rfl
 |cons p ps ih=>
  rw[ef,ef,ih fun q hq=>h q (ab _ hq),sW,qB]
  congr 1
  exact List.map_congr_left fun r hr=>Ew ((p9 (h p ah)).2.1 r hr)
theorem zC{ps:List b7}{ls:List Loc}{s:ByteArray}:fX ps ls s=true↔s∈ps.flatMap (fun p=>p.aW.map (fm p.name))++ls.map Loc.name:=by
 unfold fX
 simp only[eu,cw,decide_eq_true_eq,aK,bu,aL]
 exact Or.comm
theorem wv{l:List ByteArray}(h:rU l=true):l.Nodup:=by
 refine CA fun i hi bj=>?_
 have h1:=a7.1 h i (ek.2 hi)
 unfold wx at h1
 rw[aa hi,gk]at h1
 rw[aG,aa hi,gk]at bj
 simp only[decide_eq_true_eq]at h1
 omega
theorem CD{ps:List b7}{ls:List Loc}(hv:∀p∈ps,dj p=true)(hl:∀l∈ls,cg l.name=true)(hd:(sw ps ls).Nodup):(ps.flatMap (fun p=>p.aW.map (fm p.name))++ls.map Loc.name).Nodup:=by
 unfold sw at hd
 rw[eQ]at hd⊢
 refine⟨?_,hd.2.1,fun a ha b hb e=>?_⟩
 ·have h1:=hd.1
  clear hd
  induction ps with
  |nil=>simp
  |cons p ps ih=>
   have hp:=oH (hv p ah)
   rw[bN,gM]at h1
   rw[ef,eQ]
   refine⟨?_,ih (fun q hq=>hv q (ab _ hq)) h1.2,fun a ha b hb e=>?_⟩
   ·have hr:=wv hp.1
    rw[bM]at hr⊢
    rw[eP]
    exact hr.imp fun{x y} YY e=>YY (Dy hp.2.2 hp.2.2 e).2
   ·obtain⟨r,_,rfl⟩:=aL.1 ha
    obtain⟨q,hq,hb⟩:=bu.1 hb
    obtain⟨r',_,rfl⟩:=aL.1 hb
    have:=(Dy hp.2.2 (oH (hv q (ab _ hq))).2.2 e).1
    exact h1.1 (this▸bp hq)
 ·obtain⟨p,_,ha⟩:=bu.1 ha
  obtain⟨r,_,rfl⟩:=aL.1 ha
  obtain⟨l,Qp,rfl⟩:=aL.1 hb
  exact IQ (hl l Qp) e
theorem Kd{p:b7}{r:ByteArray}{S:List (List Int)}{l:Loc}(h:Proj p r S l):∀t∈l.turns,∀a∈t.ax,∃x∈p.points,∃b∈x.ax,b.label=a.label∧b.kind=a.kind∧b.name=a.name:=fun t ht a ha=>by
 obtain⟨j,hj,rfl⟩:=aC.1 ht
 have Qr:j < S.length:=by rw[←h.turns];exact hj
 rcases h.qF j S[j] l.turns[j] (aa Qr) (aa hj)with⟨_,h2⟩|⟨_,h2⟩
 ·rw[h2]at ha;cases ha
 ·obtain⟨q1,_⟩:=h2.arm a ha
  have hm:a.label∈dK p S[j]:=by rw[←h2.ym];exact bp ha
  obtain⟨b,hb,e1,e2⟩:=tH (kA.1 hm)
  obtain⟨x,hx,Tz⟩:=gF.1 hb
  rw[e2]at q1
  injection q1 with k1 k2
  rcases mI p x with hp|hp
  ·exact⟨_,hp,b,Tz,e1,k1.symm,k2.symm⟩
  ·rw[hp]at Tz;cases Tz
theorem yJ{l:Loc}(h:fP l=true):∀t∈(ox l).turns,uH (t.ax.map bD.label)∧∀a∈t.ax,∃u∈l.turns,∃b∈u.ax,b.kind=a.kind∧b.name=a.name:=fun t ht=>by
 have b6:=vG (wS h) t ht
 obtain⟨x,_,rfl⟩:=aL.1 (show t∈List.map _ (eT l.g)from ht)
 refine⟨?_,fun a ha=>?_⟩
 ·unfold kS at b6
  split at b6
  ·simp only[av,fj]at b6
   rw[b6.2];exact List.Pairwise.nil
  ·split at b6
   ·simp only[av]at b6
    refine NI ?_ (dx b6.2).2.2
    show pq (AP _ _)
    rw[mL]
    exact J0 (Q3 _)
   ·cases b6
 ·have ha:a∈AP (eT l.g) (dc l x).ax:=ha
  rw[mL]at ha
  obtain⟨b,hb,rfl⟩:=aL.1 ha
  have hb:=mH.1 hb
  unfold dc at hb
  rw[aG]at hb
  cases hx:l.turns[x.toNat]? with
  |none=>rw[hx]at hb;cases hb
  |some t=>rw[hx]at hb;exact⟨t,aj hx,b,hb,rfl,rfl⟩
structure tS(ps:List b7)(ls:List Loc):Prop where
 np:ps.length≤6
 nl:ls.length≤12
 may:∀l∈ls,fP l=true∧cg l.name=true
 once:(sw ps ls).Nodup
 all:∀p∈ps,(kg p).2=0
 Vg:∀p∈ps,∀x∈p.points,∀a∈x.ax,a.kind=5→fX ps ls a.name=true
 Vh:∀l∈ls,∀t∈l.turns,∀a∈t.ax,a.kind=5→fX ps ls a.name=true
 size:gx (cL ps ls)≤400
theorem Ju{all:List ByteArray}(h:all.Nodup):jX all=lo:=by
 unfold jX Pg
 rw[ey fun i hi=>?_]
 ·rfl
 ·rw[List.length_range]at hi
  simp only[rq,decide_eq_false_iff_not]
  rw[aG,aa hi,gk]
  obtain⟨k,hk,e,he⟩:=zg (an hi)
  rw[e]
  have cV:=bB.1 (bM.1 h)
  intro bj
  exact cV k i hk hi (by omega) he
theorem Rj{ps:List b7}{ls:List Loc}(h:tS ps ls):Tk ps ls=(dJ (cL ps ls),lo):=by
 have h3:=Kg (ls:=ls) h.all
 have hp:=(vY h3).2
 unfold Tk
 rw[Pa h.np h.nl (fun p hp=>(p9 (h.all p hp)).1) h.may,Ju h.once,h3,KI h.Vg h.Vh,CN _ 0 (by rw[hp];have:=h.size;omega),hp]
 simp
theorem tS.parts{ps:List b7}{ls:List Loc}(h:tS ps ls):nU (cL ps ls):=by
 have hv:∀p∈ps,dj p=true:=fun p hp=>(p9 (h.all p hp)).1
 have hn:=ud (ls:=ls) h.all
 have mA:∀l∈cL ps ls,(∃p∈ps,∃r∈p.aW,∃S,Proj p r S l)∨∃m∈ls,l=ox m:=fun l hl=>by
  rcases aK.1 hl with hl|hl
  ·obtain⟨p,hp,hl⟩:=bu.1 hl
   obtain⟨r,hr,rfl⟩:=aL.1 hl
   obtain⟨S,hS⟩:=kp ((p9 (h.all p hp)).2.1 r hr)
   exact .inl ⟨p,hp,r,hr,S,hS⟩
  ·obtain⟨m,hm,rfl⟩:=aL.1 hl
   exact .inr ⟨m,hm,rfl⟩
 refine⟨by rw[hn];exact CD hv (fun l hl=>(h.may l hl).2) h.once,h.size,fun l hl=>?_,fun l hl t ht=>?_,fun l hl t ht a ha h5=>?_⟩
 ·rcases mA l hl with⟨p,_,r,_,S,hS⟩|⟨m,hm,rfl⟩
  ·exact Cf hS
  ·exact wS (h.may m hm).1
 ·rcases mA l hl with⟨p,_,r,_,S,hS⟩|⟨m,hm,rfl⟩
  ·exact Ke hS t ht
  ·exact(yJ (h.may m hm).1 t ht).1
 ·rw[hn]
  rcases mA l hl with⟨p,hp,r,_,S,hS⟩|⟨m,hm,rfl⟩
  ·obtain⟨x,hx,b,hb,_,e1,e2⟩:=Kd hS t ht a ha
   rw[←e2]
   exact zC.1 (h.Vg p hp x hx b hb (by omega))
  ·obtain⟨u,hu,b,hb,e1,e2⟩:=(yJ (h.may m hm).1 t ht).2 a ha
   rw[←e2]
   exact zC.1 (h.Vh m hm u hu b hb (by omega))
end Go.Sy
