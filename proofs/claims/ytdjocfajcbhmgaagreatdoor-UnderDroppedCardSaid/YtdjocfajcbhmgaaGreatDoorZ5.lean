/- The plain law of projection: a projection is valid; what a role says and hears along a walk of the protocol is a walk of its projection. -/
import Derived.Test.YtdjocfajcbhmgaaGreatDoorZ4
set_option linter.unusedSimpArgs false
set_option linter.unusedVariables false
set_option linter.unusedSectionVars false
namespace Go.Sy
variable {p:b7} {role:ByteArray} {S:List (List Int)} {l:Loc}
theorem vV:∀(l out:List ByteArray),uH out→uH (l.foldl j2 out)
 |[],_,h=>h
 |s::l,out,_=>by rw[cJ];exact vV l _ (Cd out s)
theorem vU:∀(l out:List ByteArray) (x:ByteArray),x∈l.foldl j2 out↔x∈out∨x∈l
 |[],out,x=>by simp
 |s::l,out,x=>by
  rw[cJ,vU l,Cc,ae]
  constructor
  ·rintro((h|h)|h)
   ·exact .inl h
   ·exact .inr (.inl h)
   ·exact .inr (.inr h)
  ·rintro(h|h|h)
   ·exact .inl (.inl h)
   ·exact .inl (.inr h)
   ·exact .inr h
theorem zy(x:kP):dF x=(x.ax.map bD.label).foldl j2 []:=by unfold dF;rw[List.foldl_map]
theorem Bt:uH []:=List.Pairwise.nil
theorem pP(x:kP):uH (dF x):=by rw[zy];exact vV _ _ Bt
theorem iW(x:kP)(s:ByteArray):s∈dF x↔∃a∈x.ax,a.label=s:=by
 rw[zy,vU];simp
theorem CO{x:kP}(h:(x.ax.map bD.label).Nodup):(dF x).length=x.ax.length:=by
 have h1:=pL (p7 (pP x)) (m:=x.ax.map bD.label) fun s hs=>by
  obtain⟨a,ha,rfl⟩:=(iW x s).1 hs;exact bp ha
 have h2:=pL h (m:=dF x) fun s hs=>by
  obtain⟨a,ha,rfl⟩:=aL.1 hs;exact(iW x _).2 ⟨a,ha,rfl⟩
 rw[ak]at h1 h2
 omega
theorem D0(p:b7):∀(near:List Int) (out:List ByteArray),uH out→uH (near.foldl (fun all x=>(dF (aM p x)).foldl j2 all) out)
 |[],_,h=>h
 |x::r,out,h=>by rw[cJ];exact D0 p r _ (vV _ _ h)
theorem DZ(p:b7):∀(near:List Int) (out:List ByteArray) (s:ByteArray),s∈near.foldl (fun all x=>(dF (aM p x)).foldl j2 all) out↔s∈out∨∃x∈near,s∈dF (aM p x)
 |[],out,s=>by simp
 |x::r,out,s=>by
  rw[cJ,DZ p r,vU]
  simp only[ae,exists_eq_or_imp,or_assoc]
theorem pn(p:b7)(near:List Int):uH (dK p near):=D0 p near [] Bt
theorem gF{a:bD}{near:List Int}:a∈cr p near↔∃x∈near,a∈(aM p x).ax:=by simp[cr]
theorem kA{s:ByteArray}{near:List Int}:s∈dK p near↔∃a∈cr p near,a.label=s:=by
 show s∈near.foldl _ []↔_
 rw[DZ]
 constructor
 ·rintro(h|⟨x,hx,hs⟩)
  ·cases h
  ·obtain⟨a,ha,e⟩:=(iW _ _).1 hs
   exact⟨a,gF.2 ⟨x,hx,ha⟩,e⟩
 ·rintro⟨a,ha,e⟩
  obtain⟨x,hx,h⟩:=gF.1 ha
  exact .inr ⟨x,hx,(iW _ _).2 ⟨a,h,e⟩⟩
theorem tH{arr:List bD}{s:ByteArray}(h:∃a∈arr,a.label=s):∃a∈arr,a.label=s∧kc arr s=(a.kind,a.name):=by
 obtain⟨b,hb,e⟩:=h
 unfold kc oi
 cases hf:arr.find? fun a=>decide (a.label=s)with
 |none=>exact absurd (du.1 hf b hb) (by simp[e])
 |some a=>exact⟨a,kM hf,by simpa using yD hf,rfl⟩
theorem DG{arr:List bD}(h:eN arr=false){a:bD}(ha:a∈arr):kc arr a.label=(a.kind,a.name):=by
 unfold eN at h
 have:=fH.1 h a ha
 simp only[decide_eq_true_eq,ne_eq,tV]at this
 unfold kc;rw[this];rfl
theorem AO{s:ByteArray}(h:cg s=true):s≠⟨#[]⟩:=by
 intro e;subst e;revert h;decide
theorem oH(hv:dj p=true):rU p.aW=true∧(∀r∈p.aW,cg r=true)∧cg p.name=true:=by
 unfold dj at hv
 simp only[av]at hv
 exact⟨hv.2.2.2.1,fun r hr=>a7.1 hv.2.2.2.2.1 r hr,hv.1⟩
theorem mI(p:b7)(x:Int):aM p x∈p.points∨aM p x=oK:=by
 unfold aM
 rw[aG]
 cases h:p.points[x.toNat]? with
 |none=>exact .inr rfl
 |some y=>exact .inl (aj h)
structure Vr(p:b7)(role:ByteArray)(x:kP):Prop where
 fr:x.from_∈p.aW
 to:x.to∈p.aW
 ne:x.from_≠x.to
 ax:ez p.points.length x.ax=true
theorem E8(hv:dj p=true)(hh:hasB p.aW role=true){x:Int}(h:n5 (aM p x) role=true):Vr p role (aM p x):=by
 have hr:role≠⟨#[]⟩:=AO ((oH hv).2.1 role (fh.1 hh))
 rcases mI p x with hm|hm
 ·have hb:=pB hv _ hm
  unfold rQ at hb
  generalize aM p x=y at h hb
  unfold n5 at h
  simp only[eu,decide_eq_true_eq]at h
  have he:nb y=false:=by
   cases he:nb y with
   |false=>rfl
   |true=>
    unfold nb at he
    simp only[av,decide_eq_true_eq]at he
    rcases h with h|h
    ·exact absurd (h.symm.trans he.1) hr
    ·exact absurd (h.symm.trans he.2.1) hr
  rw[he,gZ]at hb
  simp only[av,decide_eq_true_eq]at hb
  have eA:∀s,0≤fC p.aW s→s∈p.aW:=fun s hs=>by
   apply fh.1
   unfold hasB
   exact decide_eq_true hs
  exact⟨eA _ hb.1,eA _ hb.2.1,hb.2.2.1,hb.2.2.2⟩
 ·rw[hm]at h
  unfold n5 oK at h
  simp only[eu,decide_eq_true_eq,or_self]at h
  exact absurd h.symm hr
theorem Nn{x:kP}(h:n5 x role=true):(x.from_=role∧oA role x=(true,x.to))∨(x.from_≠role∧x.to=role∧oA role x=(false,x.from_)):=by
 unfold oA
 by_cases hf:x.from_=role
 ·exact .inl ⟨hf,by rw[if_pos hf]⟩
 ·unfold n5 at h
  simp only[eu,decide_eq_true_eq]at h
  exact .inr ⟨hf,h.resolve_left hf,by rw[if_neg hf]⟩
theorem HE(hv:dj p=true)(hh:hasB p.aW role=true){x:Int}(h:n5 (aM p x) role=true):(bc p role x).2∈p.aW∧(bc p role x).2≠role:=by
 obtain⟨h1,h2,h3,_⟩:=E8 hv hh h
 unfold bc
 rcases Nn h with⟨e1,e2⟩|⟨e1,e2,e3⟩
 ·rw[e2];exact⟨h2,fun e=>h3 (e1.trans e.symm)⟩
 ·rw[e3];exact⟨h1,e1⟩
theorem Proj.near(h:Proj p role S l):∀(i:Nat) (m:List Int),S[i]? =some m→∃set,m=bV p role set∧lr p role set=false∧(∀y∈set,0≤y∧y < (p.points.length:Int)):=by
 have mA:=hJ h.may
 have WW:∀(ts:List jk) (row:List Int) (x:Int),x∈ts.foldl (fun row t=>bW row t.ax) row→x∈row∨∃t∈ts,∃a∈t.ax,a.next=x:=by
  intro ts
  induction ts with
  |nil=>intro row x hx;exact .inl hx
  |cons t ts ih=>
   intro row x hx
   rw[cJ]at hx
   rcases ih _ x hx with h1|⟨t',Ir,h1⟩
   ·rcases(ni _ _ _).1 h1 with h2|⟨a,ha,e⟩
    ·exact .inl h2
    ·exact .inr ⟨t,ah,a,ha,e⟩
   ·exact .inr ⟨t',ab _ Ir,h1⟩
 intro i m hm
 have hi:=(ai.1 hm).1
 have eA:(i:Int)∈l.turns.foldl (fun row t=>bW row t.ax) [0]:=by rw[h.met];exact vf.2 ⟨by omega,by omega⟩
 rcases WW _ _ _ eA with h1|⟨t,ht,a,ha,e⟩
 ·have:i=0:=by have:=aq.1 h1;omega
  subst this
  rw[h.zero]at hm;injection hm with hm
  exact⟨[0],hm.symm,h.one,fun y hy=>by rw[aq]at hy;omega⟩
 ·obtain⟨j,hj,rfl⟩:=aC.1 ht
  have Qr:j < S.length:=by rw[←h.turns];exact hj
  rcases h.qF j S[j] l.turns[j] (aa Qr) (aa hj)with⟨_,h2⟩|⟨_,h2⟩
  ·rw[h2]at ha;cases ha
  ·obtain⟨_,q2,q3,q4⟩:=h2.arm a ha
   rw[e]at q4
   rw[fI,hm]at q4
   injection q4 with q4
   refine⟨_,q4,q2,fun y hy=>?_⟩
   unfold df at hy
   obtain⟨b,hb,rfl⟩:=aL.1 hy
   obtain⟨x,_,hx⟩:=gF.1 (cn.1 hb).1
   exact ju h.may x b hx
theorem Proj.Il(h:Proj p role S l){i:Nat}{m:List Int}(hm:S[i]? =some m):∀x∈m,n5 (aM p x) role=true:=by
 obtain⟨set,rfl,_⟩:=h.near i m hm
 exact fun x hx=>pO (ju h.may) hx
theorem Proj.at(h:Proj p role S l){t:Int}{m:List Int}(h0:0≤t)(hm:S[t.toNat]? =some m):ri p role S m (dc l t)∧t < (l.turns.length:Int):=by
 have hi:=(ai.1 hm).1
 have LB:t.toNat < l.turns.length:=by rw[h.turns];exact hi
 refine⟨?_,by omega⟩
 have:=h.qF t.toNat m l.turns[t.toNat] hm (aa LB)
 rwa [show dc l t=l.turns[t.toNat] by unfold dc;rw[aG,aa LB];rfl]
theorem ML(h:Proj p role S l){i:Nat}{m:List Int}{t:jk}(hm:S[i]? =some m)(cV:m≠[])(ha:uI p role S m t):ez l.turns.length t.ax=true∧cg t.peer=true∧t.peer∈p.aW∧t.peer≠role:=by
 obtain⟨x,hx⟩:∃x,x∈m:=List.exists_mem_of_ne_nil m cV
 have eA:=h.Il hm x hx
 obtain⟨_,_,_,b6⟩:=E8 h.may h.has eA
 have M3:(bc p role x).2=t.peer:=by rw[ha.side x hx]
 obtain⟨A6,Lo⟩:=HE h.may h.has eA
 rw[M3]at A6 Lo
 have hlen:t.ax.length=(dK p m).length:=by rw[←ha.ym,ak]
 obtain⟨⟨Yr,_⟩,_,_⟩:=dx b6
 have UA:1≤(dK p m).length:=by
  obtain⟨a,ZV⟩:∃a,a∈(aM p x).ax:=List.exists_mem_of_ne_nil _ (by intro e;rw[e]at Yr;simp at Yr)
  exact dU (kA.2 ⟨a,gF.2 ⟨x,hx,ZV⟩,rfl⟩)
 have hlen6:=ha.len
 refine⟨?_,(oH h.may).2.1 _ A6,A6,Lo⟩
 unfold ez
 rw[decide_eq_true (show 1≤t.ax.length by omega),decide_eq_true (show t.ax.length≤6 by omega),ha.ym,decide_eq_true (p7 (pn p m)),hC,bZ,bZ,a7]
 intro a US
 obtain⟨q1,_,q3,q4⟩:=ha.arm a US
 have hs:a.label∈dK p m:=by rw[←ha.ym];exact bp US
 obtain⟨b,hb,e1,e2⟩:=tH (kA.1 hs)
 obtain⟨y,hy,ZO⟩:=gF.1 hb
 obtain⟨_,_,_,WK⟩:=E8 h.may h.has (h.Il hm y hy)
 have VX:=(dx WK).2.1 b ZO
 unfold ph at VX⊢
 simp only[av,decide_eq_true_eq]at VX
 rw[e2]at q1
 injection q1 with k1 k2
 have bj:=(ai.1 q4).1
 rw[←e1,VX.1,k1,k2,VX.2.1,decide_eq_true q3,decide_eq_true (show a.next < ((l.turns.length:Nat):Int) by rw[h.turns];omega)];rfl
theorem Cf(h:Proj p role S l):fP l=true:=by
 have cV:1≤S.length:=by have:=(ai.1 h.zero).1;omega
 have h40:=h.len
 unfold fP
 rw[decide_eq_true (show 1≤l.turns.length by rw[h.turns];exact cV),decide_eq_true (show l.turns.length≤40 by rw[h.turns];exact h40),bZ,bZ,a7]
 intro t ht
 obtain⟨j,hj,rfl⟩:=aC.1 ht
 have Qr:j < S.length:=by rw[←h.turns];exact hj
 rcases h.qF j S[j] l.turns[j] (aa Qr) (aa hj)with⟨_,h2⟩|⟨h1,h2⟩
 ·rw[h2];rfl
 ·obtain⟨q1,q2,_,_⟩:=ML h (aa Qr) h1 h2
  unfold kS
  rcases h2.kind with hk|hk
  ·rw[if_neg (by omega),if_pos (.inl hk),q1,q2];rfl
  ·rw[if_neg (by omega),if_pos (.inr hk),q1,q2];rfl
def gx(L:List Loc):Nat:=(L.map fun l=>l.turns.length).sum
theorem sK(L:List Loc)(l:Loc):gx (L++[l])=gx L+l.turns.length:=by simp[gx]
theorem rH{L:List Loc}{i:Nat}(h:i < L.length):gx (L.take i)+L[i].turns.length≤gx L:=by
 have e:L=L.take i++L[i]::L.drop (i+1):=by rw[←cX h,nW]
 have h2:gx L=gx (L.take i++L[i]::L.drop (i+1)):=congrArg gx e
 rw[h2]
 unfold gx
 rw[bg,List.sum_append,bN,List.sum_cons]
 omega
theorem tZ{α:Type}{P:List α→Prop}(h0:P [])(h1:∀L l,P L→P (L++[l]))(L:List α):P L:=by
 have:∀n (L:List α),L.length=n→P L:=by
  intro n
  induction n with
  |zero=>intro L h;rw[vD.1 h];exact h0
  |succ n ih=>
   intro L h
   have cV:L≠[]:=by intro e;rw[e]at h;simp at h
   rw[←List.dropLast_concat_getLast cV]
   exact h1 _ _ (ih _ (by rw[List.length_dropLast];omega))
 exact this _ L J
theorem DL(L:List Loc):(L.foldl vJ (0,[])).1=(gx L:Int):=by
 refine tZ (P:=fun L=>(L.foldl vJ (0,[])).1=(gx L:Int)) J (fun L l ih=>?_) L
 rw[ee,cJ,mD,sK]
 show(L.foldl vJ (0,[])).1+(l.turns.length:Int)=_
 rw[ih];omega
theorem IZ(L:List Loc)(l:Loc)(s:ByteArray):eX (L++[l]) s=if s=l.name then(gx L:Int)else eX L s:=by
 unfold eX Bq
 rw[ee,cJ,mD]
 show mN s (yf l.name (L.foldl vJ (0,[])).1 (L.foldl vJ (0,[])).2)=_
 rw[CI,DL]
theorem Br{L:List Loc}(hn:(L.map Loc.name).Nodup):∀{i:Nat} (h:i < L.length),eX L L[i].name=(gx (L.take i):Int):=by
 revert hn
 refine tZ (P:=fun L=>(L.map Loc.name).Nodup→∀{i:Nat} (h:i < L.length),eX L L[i].name=(gx (L.take i):Int)) (fun _ i h=>by simp at h) (fun L l ih hn i h=>?_) L
 rw[IZ]
 rw[bg,eQ]at hn
 by_cases hi:i < L.length
 ·rw[uJ hi,if_neg (hn.2.2 _ (bp (an hi)) _ ah),iS (by omega)]
  exact ih hn.1 hi
 ·have:i=L.length:=by simp at h;omega
  subst this
  simp
theorem xH{L:List Loc}(hn:(L.map Loc.name).Nodup)(h1:∀l∈L,1≤l.turns.length){s:ByteArray}(hs:s∈L.map Loc.name):0≤eX L s∧eX L s < (gx L:Int):=by
 obtain⟨l,hl,rfl⟩:=aL.1 hs
 obtain⟨i,hi,rfl⟩:=aC.1 hl
 rw[Br hn hi]
 have h2:=rH hi
 have h3:=h1 _ (an hi)
 omega
section
variable {g:ByteArray→Int}
theorem l4(L:List Loc)(l:Loc):ir g (L++[l])=ir g L++l.turns.map (l5 g ((ir g L).length:Int)):=by
 unfold ir
 rw[ee,cJ,mD]
theorem j3(L:List Loc):(ir g L).length=gx L:=by
 refine tZ (P:=fun L=>(ir g L).length=gx L) J (fun L l ih=>?_) L
 rw[l4,au,ak,ih,sK]
theorem H3{L:List Loc}:∀{i:Nat} (h:i < L.length) {t:Nat} (ht:t < L[i].turns.length),(ir g L)[gx (L.take i)+t]? =some (l5 g (gx (L.take i):Int) L[i].turns[t]):=by
 refine tZ (P:=fun L=>∀{i:Nat} (h:i < L.length) {t:Nat} (ht:t < L[i].turns.length),(ir g L)[gx (L.take i)+t]? =some (l5 g (gx (L.take i):Int) L[i].turns[t])) (fun{i} h=>by simp at h) (fun L l ih {i} h {t} ht=>?_) L
 rw[l4]
 by_cases hi:i < L.length
 ·simp only[uJ hi]at ht⊢
  rw[iS (by omega)]
  have h2:=rH hi
  rw[aw (by rw[j3];omega)]
  exact ih hi ht
 ·have:i=L.length:=by simp at h;omega
  subst this
  simp only[List.getElem_concat_length]at ht⊢
  rw[List.take_left,aN (by rw[j3];omega),j3,Nat.add_sub_cancel_left,az,aa ht]
  rfl
theorem EW{L:List Loc}{x:Nd}(hx:x∈ir g L):∃i,∃h:i < L.length,∃t∈L[i].turns,x=l5 g (gx (L.take i):Int) t:=by
 revert hx
 refine tZ (P:=fun L=>x∈ir g L→∃i,∃h:i < L.length,∃t∈L[i].turns,x=l5 g (gx (L.take i):Int) t) (fun h=>by cases h) (fun L l ih h=>?_) L
 rw[l4]at h
 rcases aK.1 h with h|h
 ·obtain⟨i,hi,t,ht,e⟩:=ih h
  exact⟨i,by simp;omega,t,by rw[uJ hi];exact ht,by rw[iS (by omega)];exact e⟩
 ·obtain⟨t,ht,e⟩:=aL.1 h
  refine⟨L.length,by simp,t,by simpa using ht,?_⟩
  rw[List.take_left,←e,j3]
end
theorem l6(L:List Loc)(l:Loc):eU (L++[l])=j2 (eU L) l.name:=by unfold eU;rw[ee,cJ,mD]
theorem wF(L:List Loc):uH (eU L):=by
 refine tZ (P:=fun L=>uH (eU L)) Bt (fun L l _=>?_) L
 rw[l6];exact Cd _ _
theorem wE(L:List Loc)(s:ByteArray):s∈eU L↔s∈L.map Loc.name:=by
 refine tZ (P:=fun L=>s∈eU L↔s∈L.map Loc.name) (by simp[eU]) (fun L l ih=>?_) L
 rw[l6,Cc,ih,bg,aK,List.map_singleton,aq]
theorem qS(L:List Loc):(eU L).length≤L.length:=by
 refine tZ (P:=fun L=>(eU L).length≤L.length) (ay _) (fun L l ih=>?_) L
 rw[l6,au,nX]
 have:=vS (eU L) l.name
 omega
structure nU(L:List Loc):Prop where
 nodup:(L.map Loc.name).Nodup
 size:gx L≤400
 may:∀l∈L,fP l=true
 asc:∀l∈L,∀t∈l.turns,uH (t.ax.map bD.label)
 TJ:∀l∈L,∀t∈l.turns,∀a∈t.ax,a.kind=5→a.name∈L.map Loc.name
theorem N9{g:ByteArray→Int}{n N m:Int}{t:jk}(ht:kS m t=true)(ha:uH (t.ax.map bD.label))(hn:0≤n)(hm:n+m≤N)(hg:∀a∈t.ax,a.kind=5→0≤g a.name∧g a.name < N):ig N (l5 g n t)=true:=by
 unfold kS at ht
 unfold ig l5
 simp only[ak]
 split at ht
 ·rename_i h0
  simp only[av,decide_eq_true_eq,fj]at ht
  rw[if_pos h0,ht.1,ht.2];rfl
 ·rename_i h0
  rw[if_neg h0]
  split at ht
  ·rename_i U0
   simp only[av]at ht
   obtain⟨⟨h1,h6⟩,ur,_⟩:=dx ht.2
   rw[ht.1,decide_eq_true h1,decide_eq_true h6]
   have hk:(decide (t.kind=1)||decide (t.kind=2))=true:=by simpa using U0
   rw[hk]
   simp only[bZ]
   unfold Ab
   rw[a7]
   intro i hi
   rw[ek,ak]at hi
   have LB:i < (t.ax.map (mh g n)).length:=by simpa using hi
   have hb:=ur _ (an hi)
   unfold ph at hb
   simp only[av,decide_eq_true_eq]at hb
   have hs:oz (mh g n t.ax[i]).kind (mh g n t.ax[i]).at_ N=true:=by
    have h2:=hb.2.1
    unfold xC at h2
    unfold oz mh
    by_cases h5:t.ax[i].kind=5
    ·obtain⟨q1,q2⟩:=hg _ (an hi) h5
     simp[h5,q1,q2]
    ·rw[if_neg h5]at h2
     simp only[av,decide_eq_true_eq]at h2
     simp[h5,h2.1,h2.2.1]
   have Ql:0≤(mh g n t.ax[i]).next:=by show 0≤n+t.ax[i].next;omega
   have Qk:(mh g n t.ax[i]).next < N:=by show n+t.ax[i].next < N;omega
   have hl:cg (mh g n t.ax[i]).label=true:=hb.1
   cases i with
   |zero=>
    rw[pH LB];simp[hl,hs,Ql,Qk]
   |succ j=>
    have h3:=bB.1 ha j (j+1) (by simp;omega) (by simp;omega) (by omega)
    rw[List.getElem_map,List.getElem_map]at h3
    have h4:gQ (mh g n t.ax[j]).label (mh g n t.ax[j+1]).label=true:=h3
    rw[pI LB];simp[hl,hs,Ql,Qk,h4]
  ·cases ht
theorem zZ{L:List Loc}(h:nU L):eJ (dJ L)=true:=by
 have h1:∀l∈L,1≤l.turns.length:=fun l hl=>(l8 (h.may l hl)).1
 have hlen:(dJ L).nodes.length=gx L:=j3 L
 unfold eJ
 rw[hlen,decide_eq_true h.size,decide_eq_true (show(dJ L).names.length=(dJ L).roots.length by simp[dJ])]
 simp only[bZ,av,a7]
 refine⟨fun i hi=>?_,fun x hx=>?_⟩
 ·rw[ek]at hi
  have eA:i < (eU L).length:=by simpa[dJ]using hi
  have hr:(dJ L).roots[i]=eX L (eU L)[i]:=by simp[dJ]
  have hb:=xH h.nodup h1 ((wE L _).1 (an eA))
  cases i with
  |zero=>rw[oG hi,hr,hlen];simp[hb.1,hb.2]
  |succ j=>
   have h3:gQ ((dJ L).names[j]'(show j < (eU L).length by omega)) ((dJ L).names[j+1]'eA)=true:=bB.1 (wF L) j (j+1) (by omega) (by omega) (by omega)
   rw[lW hi eA,hr,hlen];simp[hb.1,hb.2];exact h3
 ·obtain⟨i,hi,t,ht,rfl⟩:=EW (show x∈ir (eX L) L from hx)
  have hl:=an hi
  have h2:=rH hi
  exact N9 (vG (h.may _ hl) t ht) (h.asc _ hl t ht) (by omega) (by omega) fun a ha h5=>xH h.nodup h1 (h.TJ _ hl t ht a ha h5)
end Go.Sy
