/- The plain law of projection: a projection is valid; what a role says and hears along a walk of the protocol is a walk of its projection. -/
import Derived.Test.YtdjocfajcbhmgaaGreatDoorZ4
set_option linter.unusedSimpArgs false
set_option linter.unusedVariables false
set_option linter.unusedSectionVars false
namespace Go.Sy
variable {p:dr} {role:ByteArray} {S:List (List Int)} {l:Loc}
theorem tM:∀(l out:List ByteArray),o9 out→o9 (l.foldl nu out)
 |[],_,h=>h
 |s::l,out,_=>by rw[cx];exact tM l _ (tK out s)
theorem tL:∀(l out:List ByteArray) (x:ByteArray),x∈l.foldl nu out↔x∈out∨x∈l
 |[],out,x=>by simp
 |s::l,out,x=>by
  rw[cx,tL l,tJ,ae]
  constructor
  ·rintro((h|h)|h)
   ·exact .inl h
   ·exact .inr (.inl h)
   ·exact .inr (.inr h)
  ·rintro(h|h|h)
   ·exact .inl (.inl h)
   ·exact .inl (.inr h)
   ·exact .inr h
theorem w2(x:pL):kb x=(x.aP.map bM.label).foldl nu []:=by unfold kb;rw[List.foldl_map]
theorem yC:o9 []:=List.Pairwise.nil
theorem w3(x:pL):o9 (kb x):=by rw[w2];exact tM _ _ yC
theorem oy(x:pL)(s:ByteArray):s∈kb x↔∃a∈x.aP,a.label=s:=by
 rw[w2,tL];simp
theorem Bj(p:dr):∀(cr:List Int) (out:List ByteArray),o9 out→o9 (cr.foldl (fun all x=>(kb (dh p x)).foldl nu all) out)
 |[],_,h=>h
 |x::r,out,h=>by rw[cx];exact Bj p r _ (tM _ _ h)
theorem Bi(p:dr):∀(cr:List Int) (out:List ByteArray) (s:ByteArray),s∈cr.foldl (fun all x=>(kb (dh p x)).foldl nu all) out↔s∈out∨∃x∈cr,s∈kb (dh p x)
 |[],out,s=>by simp
 |x::r,out,s=>by
  rw[cx,Bi p r,tL]
  simp only[ae,exists_eq_or_imp,or_assoc]
theorem qO(p:dr)(cr:List Int):o9 (hU p cr):=Bj p cr [] yC
theorem fU{a:bM}{cr:List Int}:a∈fx p cr↔∃x∈cr,a∈(dh p x).aP:=by simp[fx]
theorem n3{s:ByteArray}{cr:List Int}:s∈hU p cr↔∃a∈fx p cr,a.label=s:=by
 show s∈cr.foldl _ []↔_
 rw[Bi]
 constructor
 ·rintro(h|⟨x,hx,hs⟩)
  ·cases h
  ·obtain⟨a,ha,e⟩:=(oy _ _).1 hs
   exact⟨a,fU.2 ⟨x,hx,ha⟩,e⟩
 ·rintro⟨a,ha,e⟩
  obtain⟨x,hx,h⟩:=fU.1 ha
  exact .inr ⟨x,hx,(oy _ _).2 ⟨a,h,e⟩⟩
theorem rX{arr:List bM}{s:ByteArray}(h:∃a∈arr,a.label=s):∃a∈arr,a.label=s∧nc arr s=(a.kind,a.name):=by
 obtain⟨b,hb,e⟩:=h
 unfold nc oV
 cases hf:arr.find? fun a=>decide (a.label=s)with
 |none=>exact absurd (iD.1 hf b hb) (by simp[e])
 |some a=>exact⟨a,j4 hf,by simpa using vT hf,rfl⟩
theorem I3{arr:List bM}(h:ir arr=false){a:bM}(ha:a∈arr):nc arr a.label=(a.kind,a.name):=by
 unfold ir at h
 have:=eo.1 h a ha
 simp only[decide_eq_true_eq,ne_eq,r7]at this
 unfold nc;rw[this];rfl
theorem Ky{s:ByteArray}(h:bZ s=true):s≠⟨#[]⟩:=by
 intro e;subst e;revert h;decide
theorem tC(hv:fK p=true):lR p.roles=true∧(∀r∈p.roles,bZ r=true)∧bZ p.name=true:=by
 unfold fK at hv
 simp only[ax]at hv
 exact⟨hv.2.2.2.1,fun r hr=>aV.1 hv.2.2.2.2.1 r hr,hv.1⟩
theorem zF(p:dr)(x:Int):dh p x∈p.points∨dh p x=Hu:=by
 unfold dh
 rw[aJ]
 cases h:p.points[x.toNat]? with
 |none=>exact .inr rfl
 |some y=>exact .inl (an h)
structure RE(p:dr)(role:ByteArray)(x:pL):Prop where
 fr:x.from_∈p.roles
 to:x.to∈p.roles
 ne:x.from_≠x.to
 aP:eW p.points.length x.aP=true
theorem Cm(hv:fK p=true)(hh:hasB p.roles role=true){x:Int}(h:yN (dh p x) role=true):RE p role (dh p x):=by
 have hr:role≠⟨#[]⟩:=Ky ((tC hv).2.1 role (gY.1 hh))
 rcases zF p x with hm|hm
 ·have hb:=Dx hv _ hm
  unfold zE at hb
  generalize dh p x=y at h hb
  unfold yN at h
  simp only[iK,decide_eq_true_eq]at h
  have he:nb y=false:=by
   cases he:nb y with
   |false=>rfl
   |true=>
    unfold nb at he
    simp only[ax,decide_eq_true_eq]at he
    rcases h with h|h
    ·exact absurd (h.symm.trans he.1) hr
    ·exact absurd (h.symm.trans he.2.1) hr
  rw[he,kv]at hb
  simp only[ax,decide_eq_true_eq]at hb
  have eL:∀s,0≤dw p.roles s→s∈p.roles:=fun s hs=>by
   apply gY.1
   unfold hasB
   exact decide_eq_true hs
  exact⟨eL _ hb.1,eL _ hb.2.1,hb.2.2.1,hb.2.2.2⟩
 ·rw[hm]at h
  unfold yN Hu at h
  simp only[iK,decide_eq_true_eq,or_self]at h
  exact absurd h.symm hr
theorem JP{x:pL}(h:yN x role=true):(x.from_=role∧Dn role x=(true,x.to))∨(x.from_≠role∧x.to=role∧Dn role x=(false,x.from_)):=by
 unfold Dn
 by_cases hf:x.from_=role
 ·exact .inl ⟨hf,by rw[if_pos hf]⟩
 ·unfold yN at h
  simp only[iK,decide_eq_true_eq]at h
  exact .inr ⟨hf,h.resolve_left hf,by rw[if_neg hf]⟩
theorem Et(hv:fK p=true)(hh:hasB p.roles role=true){x:Int}(h:yN (dh p x) role=true):(cT p role x).2∈p.roles∧(cT p role x).2≠role:=by
 obtain⟨h1,h2,h3,_⟩:=Cm hv hh h
 unfold cT
 rcases JP h with⟨e1,e2⟩|⟨e1,e2,e3⟩
 ·rw[e2];exact⟨h2,fun e=>h3 (e1.trans e.symm)⟩
 ·rw[e3];exact⟨h1,e1⟩
theorem Proj.cr(h:Proj p role S l):∀(i:Nat) (m:List Int),S[i]? =some m→∃set,m=c6 p role set∧pz p role set=false∧(∀y∈set,0≤y∧y < (p.points.length:Int)):=by
 have mZ:=sZ h.may
 have Ti:∀(ts:List fe) (row:List Int) (x:Int),x∈ts.foldl (fun row t=>bS row t.aP) row→x∈row∨∃t∈ts,∃a∈t.aP,a.next=x:=by
  intro ts
  induction ts with
  |nil=>intro row x hx;exact .inl hx
  |cons t ts ih=>
   intro row x hx
   rw[cx]at hx
   rcases ih _ x hx with h1|⟨t',DQ,h1⟩
   ·rcases(jC _ _ _).1 h1 with h2|⟨a,ha,e⟩
    ·exact .inl h2
    ·exact .inr ⟨t,ah,a,ha,e⟩
   ·exact .inr ⟨t',ab _ DQ,h1⟩
 intro i m hm
 have hi:=(ai.1 hm).1
 have eL:(i:Int)∈l.turns.foldl (fun row t=>bS row t.aP) [0]:=by rw[h.met];exact xK.2 ⟨by omega,by omega⟩
 rcases Ti _ _ _ eL with h1|⟨t,ht,a,ha,e⟩
 ·have:i=0:=by have:=aH.1 h1;omega
  subst this
  rw[h.zero]at hm;injection hm with hm
  exact⟨[0],hm.symm,h.one,fun y hy=>by rw[aH]at hy;omega⟩
 ·obtain⟨j,hj,rfl⟩:=aB.1 ht
  have Mp:j < S.length:=by rw[←h.turns];exact hj
  rcases h.tk j S[j] l.turns[j] (aa Mp) (aa hj)with⟨_,h2⟩|⟨_,h2⟩
  ·rw[h2]at ha;cases ha
  ·obtain⟨_,q2,q3,q4⟩:=h2.arm a ha
   rw[e]at q4
   rw[cZ,hm]at q4
   injection q4 with q4
   refine⟨_,q4,q2,fun y hy=>?_⟩
   unfold et at hy
   obtain⟨b,hb,rfl⟩:=aE.1 hy
   obtain⟨x,_,hx⟩:=fU.1 (cI.1 hb).1
   exact GX h.may x b hx
theorem Proj.E9(h:Proj p role S l){i:Nat}{m:List Int}(hm:S[i]? =some m):∀x∈m,yN (dh p x) role=true:=by
 obtain⟨set,rfl,_⟩:=h.cr i m hm
 exact fun x hx=>ou (GX h.may) hx
theorem Proj.at(h:Proj p role S l){t:Int}{m:List Int}(h0:0≤t)(hm:S[t.toNat]? =some m):pK p role S m (bn l t)∧t < (l.turns.length:Int):=by
 have hi:=(ai.1 hm).1
 have FZ:t.toNat < l.turns.length:=by rw[h.turns];exact hi
 refine⟨?_,by omega⟩
 have:=h.tk t.toNat m l.turns[t.toNat] hm (aa FZ)
 rwa [show bn l t=l.turns[t.toNat] by unfold bn;rw[aJ,aa FZ];rfl]
theorem Jk(h:Proj p role S l){i:Nat}{m:List Int}{t:fe}(hm:S[i]? =some m)(cj:m≠[])(ha:Bp p role S m t):eW l.turns.length t.aP=true∧bZ t.peer=true∧t.peer∈p.roles∧t.peer≠role:=by
 obtain⟨x,hx⟩:∃x,x∈m:=qY m cj
 have eL:=h.E9 hm x hx
 obtain⟨_,_,_,b7⟩:=Cm h.may h.has eL
 have rL:(cT p role x).2=t.peer:=by rw[ha.side x hx]
 obtain⟨KV,N1⟩:=Et h.may h.has eL
 rw[rL]at KV N1
 have hlen:t.aP.length=(hU p m).length:=by rw[←ha.Aj,aw]
 obtain⟨⟨U6,_⟩,_,_⟩:=gm b7
 have N5:1≤(hU p m).length:=by
  obtain⟨a,Wq⟩:∃a,a∈(dh p x).aP:=qY _ (by intro e;rw[e]at U6;simp at U6)
  exact fB (n3.2 ⟨a,fU.2 ⟨x,hx,Wq⟩,rfl⟩)
 have hlen6:=ha.len
 refine⟨?_,(tC h.may).2.1 _ KV,KV,N1⟩
 unfold eW
 rw[decide_eq_true (show 1≤t.aP.length by omega),decide_eq_true (show t.aP.length≤6 by omega),ha.Aj,decide_eq_true (oJ (qO p m)),gp,bT,bT,aV]
 intro a Fk
 obtain⟨q1,_,q3,q4⟩:=ha.arm a Fk
 have hs:a.label∈hU p m:=by rw[←ha.Aj];exact bQ Fk
 obtain⟨b,hb,e1,e2⟩:=rX (n3.1 hs)
 obtain⟨y,hy,Wm⟩:=fU.1 hb
 obtain⟨_,_,_,S9⟩:=Cm h.may h.has (h.E9 hm y hy)
 have R5:=(gm S9).2.1 b Wm
 unfold nX at R5⊢
 simp only[ax,decide_eq_true_eq]at R5
 rw[e2]at q1
 injection q1 with k1 k2
 have bo:=(ai.1 q4).1
 rw[←e1,R5.1,k1,k2,R5.2.1,decide_eq_true q3,decide_eq_true (show a.next < ((l.turns.length:Nat):Int) by rw[h.turns];omega)];rfl
theorem zB(h:Proj p role S l):c7 l=true:=by
 have cj:1≤S.length:=by have:=(ai.1 h.zero).1;omega
 have WJ:=h.len
 unfold c7
 rw[decide_eq_true (show 1≤l.turns.length by rw[h.turns];exact cj),decide_eq_true (show l.turns.length≤40 by rw[h.turns];exact WJ),bT,bT,aV]
 intro t ht
 obtain⟨j,hj,rfl⟩:=aB.1 ht
 have Mp:j < S.length:=by rw[←h.turns];exact hj
 rcases h.tk j S[j] l.turns[j] (aa Mp) (aa hj)with⟨_,h2⟩|⟨h1,h2⟩
 ·rw[h2];rfl
 ·obtain⟨q1,q2,_,_⟩:=Jk h (aa Mp) h1 h2
  unfold gd
  rcases h2.kind with hk|hk
  ·rw[if_neg (by omega),if_pos (.inl hk),q1,q2];rfl
  ·rw[if_neg (by omega),if_pos (.inr hk),q1,q2];rfl
def fI(L:List Loc):Nat:=(L.map fun l=>l.turns.length).sum
theorem q8(L:List Loc)(l:Loc):fI (L++[l])=fI L+l.turns.length:=by simp[fI]
theorem pZ{L:List Loc}{i:Nat}(h:i < L.length):fI (L.take i)+L[i].turns.length≤fI L:=by
 have e:L=L.take i++L[i]::L.drop (i+1):=by rw[←gb h,List.take_append_drop]
 have h2:fI L=fI (L.take i++L[i]::L.drop (i+1)):=congrArg fI e
 rw[h2]
 unfold fI
 rw[a6,List.sum_append,bF,nf]
 omega
theorem sd{α:Type}{P:List α→Prop}(h0:P [])(h1:∀L l,P L→P (L++[l]))(L:List α):P L:=by
 have:∀n (L:List α),L.length=n→P L:=by
  intro n
  induction n with
  |zero=>intro L h;rw[la.1 h];exact h0
  |succ n ih=>
   intro L h
   have cj:L≠[]:=by intro e;rw[e]at h;simp at h
   rw[←List.dropLast_concat_getLast cj]
   exact h1 _ _ (ih _ (by rw[List.length_dropLast];omega))
 exact this _ L J
theorem Ba(L:List Loc):(L.foldl tx (0,[])).1=(fI L:Int):=by
 refine sd (P:=fun L=>(L.foldl tx (0,[])).1=(fI L:Int)) J (fun L l ih=>?_) L
 rw[fh,cx,lK,q8]
 show(L.foldl tx (0,[])).1+(l.turns.length:Int)=_
 rw[ih];omega
theorem FI(L:List Loc)(l:Loc)(s:ByteArray):eV (L++[l]) s=if s=l.name then(fI L:Int)else eV L s:=by
 unfold eV yA
 rw[fh,cx,lK]
 show lU s (vv l.name (L.foldl tx (0,[])).1 (L.foldl tx (0,[])).2)=_
 rw[Ae,Ba]
theorem yB{L:List Loc}(hn:(L.map Loc.name).Nodup):∀{i:Nat} (h:i < L.length),eV L L[i].name=(fI (L.take i):Int):=by
 revert hn
 refine sd (P:=fun L=>(L.map Loc.name).Nodup→∀{i:Nat} (h:i < L.length),eV L L[i].name=(fI (L.take i):Int)) (fun _ i h=>by simp at h) (fun L l ih hn i h=>?_) L
 rw[FI]
 rw[a6,gg]at hn
 by_cases hi:i < L.length
 ·rw[sG hi,if_neg (hn.2.2 _ (bQ (az hi)) _ ah),ni (by omega)]
  exact ih hn.1 hi
 ·have:i=L.length:=by simp at h;omega
  subst this
  simp
theorem pJ{L:List Loc}(hn:(L.map Loc.name).Nodup)(h1:∀l∈L,1≤l.turns.length){s:ByteArray}(hs:s∈L.map Loc.name):0≤eV L s∧eV L s < (fI L:Int):=by
 obtain⟨l,hl,rfl⟩:=aE.1 hs
 obtain⟨i,hi,rfl⟩:=aB.1 hl
 rw[yB hn hi]
 have h2:=pZ hi
 have h3:=h1 _ (az hi)
 omega
section
variable {g:ByteArray→Int}
theorem ll(L:List Loc)(l:Loc):gG g (L++[l])=gG g L++l.turns.map (mO g ((gG g L).length:Int)):=by
 unfold gG
 rw[fh,cx,lK]
theorem im(L:List Loc):(gG g L).length=fI L:=by
 refine sd (P:=fun L=>(gG g L).length=fI L) J (fun L l ih=>?_) L
 rw[ll,aL,aw,ih,q8]
theorem EP{L:List Loc}:∀{i:Nat} (h:i < L.length) {t:Nat} (ht:t < L[i].turns.length),(gG g L)[fI (L.take i)+t]? =some (mO g (fI (L.take i):Int) L[i].turns[t]):=by
 refine sd (P:=fun L=>∀{i:Nat} (h:i < L.length) {t:Nat} (ht:t < L[i].turns.length),(gG g L)[fI (L.take i)+t]? =some (mO g (fI (L.take i):Int) L[i].turns[t])) (fun{i} h=>by simp at h) (fun L l ih {i} h {t} ht=>?_) L
 rw[ll]
 by_cases hi:i < L.length
 ·simp only[sG hi]at ht⊢
  rw[ni (by omega)]
  have h2:=pZ hi
  rw[aG (by rw[im];omega)]
  exact ih hi ht
 ·have:i=L.length:=by simp at h;omega
  subst this
  simp only[List.getElem_concat_length]at ht⊢
  rw[List.take_left,aO (by rw[im];omega),im,Nat.add_sub_cancel_left,aI,aa ht]
  rfl
theorem Cb{L:List Loc}{x:Nd}(hx:x∈gG g L):∃i,∃h:i < L.length,∃t∈L[i].turns,x=mO g (fI (L.take i):Int) t:=by
 revert hx
 refine sd (P:=fun L=>x∈gG g L→∃i,∃h:i < L.length,∃t∈L[i].turns,x=mO g (fI (L.take i):Int) t) (fun h=>by cases h) (fun L l ih h=>?_) L
 rw[ll]at h
 rcases aQ.1 h with h|h
 ·obtain⟨i,hi,t,ht,e⟩:=ih h
  exact⟨i,by simp;omega,t,by rw[sG hi];exact ht,by rw[ni (by omega)];exact e⟩
 ·obtain⟨t,ht,e⟩:=aE.1 h
  refine⟨L.length,by simp,t,by simpa using ht,?_⟩
  rw[List.take_left,←e,im]
end
theorem ln(L:List Loc)(l:Loc):ew (L++[l])=nu (ew L) l.name:=by unfold ew;rw[fh,cx,lK]
theorem ue(L:List Loc):o9 (ew L):=by
 refine sd (P:=fun L=>o9 (ew L)) yC (fun L l _=>?_) L
 rw[ln];exact tK _ _
theorem ud(L:List Loc)(s:ByteArray):s∈ew L↔s∈L.map Loc.name:=by
 refine sd (P:=fun L=>s∈ew L↔s∈L.map Loc.name) (by simp[ew]) (fun L l ih=>?_) L
 rw[ln,tJ,ih,a6,aQ,List.map_singleton,aH]
theorem mD(L:List Loc):(ew L).length≤L.length:=by
 refine sd (P:=fun L=>(ew L).length≤L.length) (aA _) (fun L l ih=>?_) L
 rw[ln,aL,mK]
 have:=zz (ew L) l.name
 omega
structure mI(L:List Loc):Prop where
 nodup:(L.map Loc.name).Nodup
 size:fI L≤400
 may:∀l∈L,c7 l=true
 WR:∀l∈L,∀t∈l.turns,o9 (t.aP.map bM.label)
 Sd:∀l∈L,∀t∈l.turns,∀a∈t.aP,a.kind=5→a.name∈L.map Loc.name
theorem Ku{g:ByteArray→Int}{n N m:Int}{t:fe}(ht:gd m t=true)(ha:o9 (t.aP.map bM.label))(hn:0≤n)(hm:n+m≤N)(hg:∀a∈t.aP,a.kind=5→0≤g a.name∧g a.name < N):j7 N (mO g n t)=true:=by
 unfold gd at ht
 unfold j7 mO
 simp only[aw]
 split at ht
 ·rename_i h0
  simp only[ax,decide_eq_true_eq,eQ]at ht
  rw[if_pos h0,ht.1,ht.2];rfl
 ·rename_i h0
  rw[if_neg h0]
  split at ht
  ·rename_i Q9
   simp only[ax]at ht
   obtain⟨⟨h1,h6⟩,vN,_⟩:=gm ht.2
   rw[ht.1,decide_eq_true h1,decide_eq_true h6]
   have hk:(decide (t.kind=1)||decide (t.kind=2))=true:=by simpa using Q9
   rw[hk]
   simp only[bT]
   unfold u6
   rw[aV]
   intro i hi
   rw[cc,aw]at hi
   have FZ:i < (t.aP.map (mU g n)).length:=by simpa using hi
   have hb:=vN _ (az hi)
   unfold nX at hb
   simp only[ax,decide_eq_true_eq]at hb
   have hs:sc (mU g n t.aP[i]).kind (mU g n t.aP[i]).at_ N=true:=by
    have h2:=hb.2.1
    unfold uV at h2
    unfold sc mU
    by_cases h5:t.aP[i].kind=5
    ·obtain⟨q1,q2⟩:=hg _ (az hi) h5
     simp[h5,q1,q2]
    ·rw[if_neg h5]at h2
     simp only[ax,decide_eq_true_eq]at h2
     simp[h5,h2.1,h2.2.1]
   have DR:0≤(mU g n t.aP[i]).next:=by show 0≤n+t.aP[i].next;omega
   have s9:(mU g n t.aP[i]).next < N:=by show n+t.aP[i].next < N;omega
   have hl:bZ (mU g n t.aP[i]).label=true:=hb.1
   cases i with
   |zero=>
    rw[rC FZ];simp[hl,hs,DR,s9]
   |succ j=>
    have h3:=bm.1 ha j (j+1) (by simp;omega) (by simp;omega) (by omega)
    rw[List.getElem_map,List.getElem_map]at h3
    have h4:gL (mU g n t.aP[j]).label (mU g n t.aP[j+1]).label=true:=h3
    rw[rD FZ];simp[hl,hs,DR,s9,h4]
  ·cases ht
theorem xr{L:List Loc}(h:mI L):fH (cM L)=true:=by
 have h1:∀l∈L,1≤l.turns.length:=fun l hl=>(fp (h.may l hl)).1
 have hlen:(cM L).nodes.length=fI L:=im L
 unfold fH
 rw[hlen,decide_eq_true h.size,decide_eq_true (show(cM L).names.length=(cM L).roots.length by simp[cM])]
 simp only[bT,ax,aV]
 refine⟨fun i hi=>?_,fun x hx=>?_⟩
 ·rw[cc]at hi
  have eL:i < (ew L).length:=by simpa[cM]using hi
  have hr:(cM L).roots[i]=eV L (ew L)[i]:=by simp[cM]
  have hb:=pJ h.nodup h1 ((ud L _).1 (az eL))
  cases i with
  |zero=>rw[nt hi,hr,hlen];simp[hb.1,hb.2]
  |succ j=>
   have h3:gL ((cM L).names[j]'(show j < (ew L).length by omega)) ((cM L).names[j+1]'eL)=true:=bm.1 (ue L) j (j+1) (by omega) (by omega) (by omega)
   rw[lg hi eL,hr,hlen];simp[hb.1,hb.2];exact h3
 ·obtain⟨i,hi,t,ht,rfl⟩:=Cb (show x∈gG (eV L) L from hx)
  have hl:=az hi
  have h2:=pZ hi
  exact Ku (ml (h.may _ hl) t ht) (h.WR _ hl t ht) (by omega) (by omega) fun a ha h5=>pJ h.nodup h1 (h.Sd _ hl t ht a ha h5)
end Go.Sy
