/- Contracts of the reference, bundle Bv1. -/
import Derived.Test.YtdjocfajcbhmgaaGreatDoorBu3
import Derived.Test.YtdjocfajcbhmgaaGreatDoorBn1
import Derived.Test.YtdjocfajcbhmgaaGreatDoorBu1
import Derived.Test.YtdjocfajcbhmgaaGreatDoorBl1
import Derived.Test.YtdjocfajcbhmgaaGreatDoorLayp
import Derived.Shelf.Slices.In.SortNone
set_option linter.unusedSimpArgs false
set_option linter.unusedVariables false
set_option linter.unusedSectionVars false
namespace Go.Sy
open Go.Proofs Go.Shelf Go.RowKit Go.Sort
set_option maxRecDepth 100000
attribute [local irreducible] SOps Goes DOps EOps FOps
theorem xP{α:Type}[Inhabited α](enc:α→Value)(off:Nat)(d:Array α)(c:Array Value):putCells enc off d c=putCells id off (d.map enc) c:=by
 unfold putCells
 apply Array.ext
 ·simp
 ·intro i h1 h2
  simp only[Array.getElem_mapIdx,Array.size_map,id]
  split
  ·rename_i h
   rw[getElem!_pos d (i - off) (by omega),getElem!_pos (d.map enc) (i - off) (by simp;omega),Array.getElem_map]
  ·rfl
theorem tI{α:Type}[Inhabited α](enc:α→Value)(w:World)(g off:Nat)(d:Array α):putRow enc w g off d=putRow id w g off (d.map enc):=by
 unfold putRow
 congr 1
 funext c
 exact xP enc off d c
theorem Fo(w:World):grow w #[]=w:=by
 unfold grow;simp
theorem w8{α:Type}[Inhabited α]{enc:α→Value}{w:World}{g off:Nat}{d:Array α}(h:Holds id w g off (d.map enc)):Holds enc w g off d:=fun j hj=>by
 have:=h j (by simpa using hj)
 rw[getElem!_pos (d.map enc) j (by simpa using hj),Array.getElem_map]at this
 rw[getElem!_pos d j hj]
 exact this
theorem wu{l:List ByteArray}{us:List Value}{w:World}{M:Nat→Prop}(hl:us.length=l.length * 1)
 (h:∀(i:Nat) (x:List CT),(pn l)[i]? =some x→∀(j:Nat) (c:CT),x[j]? =some c→∃u:Value,us[i * 1+j]? =some u∧a7 w M u c):us=(l.map bl).map encStr:=by
 apply lM
 intro t
 by_cases ht:t < l.length
 ·obtain⟨u,hu,hr⟩:=h t [.str l[t]] (by simp[ht]) 0 _ J
  have:=a7.fo hr
  rw[show t * 1+0=t by omega]at hu
  rw[hu,this]
  simp[ht]
 ·rw[cR (by omega),cR (by simpa using(by omega:l.length≤t))]
theorem zl{l:List ByteArray}{r:List (List UInt8)}{i:Nat}{x:List CT}(hx:(pn l)[i]? =some x){j:Nat}{c:CT}(hc:x[j]? =some c):
 ∃u:Value,(((l.map bl++r).toArray).map encStr)[i * 1+j]? =some u∧∀w M,a7 w M u c:=by
 rw[aI]at hx
 cases hq:l[i]? with
 |none=>rw[hq]at hx;cases hx
 |some s=>
  rw[hq]at hx;injection hx with hx;subst hx
  match j,hc with
  |0,hc=>
   simp at hc;subst hc
   have hi:=(ai.1 hq).1
   refine⟨.string s,?_,fun _ _=>a7.str _⟩
   rw[show i * 1+0=i by omega,Array.getElem?_map,cB,aG (by simpa using hi),aI,hq]
   rfl
  |j+1,hc=>simp at hc
theorem JO(v:Value)(l:List ByteArray)(hl:l.length < 4611686018427387904):
 r5 Tryz.prog 132 [(1,.bG 9 1 [(v,pn l)])] [.one (.c (.val v))]
  (fun _:Unit=>True) (fun _=>.gE []) (fun _=>[(1,.bG 9 1 [(v,pn (jh l))])]):=by
 refine A3 (more:=[]) (ev:=[]) (nR (c:=_) Tryz.func132 rfl rfl)
  (fun x hx=>by obtain⟨a,_,rfl⟩:=aE.1 hx;rfl) (by rw[aw,aw,rf]) (fun I H Z w M vs hp=>?_) (fun hv w=>?_) (fun w g cap us hv dF cL=>?_)
 ·have:=hp.1
  exact b6 (by simpa using this)
 ·subst hv
  exact Any.slices_Sort_string_none Tryz.laysSortS none 0 w
 ·obtain⟨M,cL⟩:=cL
  have Jw:us=(l.map bl).map encStr:=wu (by have:=dF.1;simpa using this) cL
  subst hv
  obtain⟨hblk,hH⟩:=pv dF
  have T5:Holds encStr w g 0 (l.map bl).toArray:=w8 (by rw[Jw]at hH;simpa using hH)
  have dB:=Any.slices_Sort_string Tryz.laysSortS g 0 cap (l.map bl) w T5 hblk (by simpa using hl)
  simp only[aw]at dB⊢
  refine dB.mono ?_
  rintro e' w' ⟨rfl,n,os,rfl⟩
  refine⟨rfl,_,n,os,?_,by rw[tI],fun i x hx j c hc=>?_⟩
  ·rw[Jw];simp[List.length_mergeSort]
  ·have h:=zl (r:=[]) hx hc
   rw[cV]at h
   unfold jh at h
   rw[Cg]at h
   exact h
def pD:Value→Nat→Value
 |.slice a _ c,n=>.slice a n c
 |v,_=>v
theorem EF{w:World}{e sz g n m cap:Nat}{us:List Value}(h:w.ownsRow 0 e sz (.slice (some ⟨g,0,none⟩) n cap) n us)(hm:m≤n):
 w.ownsRow 0 e sz (.slice (some ⟨g,0,none⟩) m cap) m (us.take (m * sz)):=by
 rcases h.2 with⟨e0,_⟩|⟨g',I6,cur,e0,hb,hg,hn,Ic,hs,ht⟩
 ·cases e0
 ·cases e0
  have hle:=bq sz hm
  have rK:us.length=n * sz:=h.1
  refine⟨by rw[bf,rK];omega,.inr ⟨g,cap,cur,rfl,hb,hg,by omega,Ic,hs,?_⟩⟩
  rw[←ht,List.take_take,vS hle]
theorem Fz{P:Program}{f:FuncId}{e sz:Nat}{v:Value}{xs ys:List (List CT)}(b7:kQ P f)
 (hy:∀x∈ys,x.length=sz)(hl:ys.length≤xs.length)
 (nI:v=.slice none 0 0→∀w,Calls P f #[v] w fun e w'=>e=.returned v∧w'=w)
 (lB:∀(w:World) (g cap:Nat) (us:List Value),v=.slice (some ⟨g,0,none⟩) xs.length cap→w.ownsRow 0 e sz v xs.length us→
   (∃M:Nat→Prop,∀(i:Nat) (x:List CT),xs[i]? =some x→∀(j:Nat) (c:CT),x[j]? =some c→∃u:Value,us[i * sz+j]? =some u∧a7 w M u c)→
   Calls P f #[v] w fun e w'=>e=.returned (pD v ys.length)∧∃(F:Array Value) (q:Nat) (os:Array Obj),F.size=us.length∧w'=grow (putRow id (Sort.ahead w q) g 0 F) os∧
    ∀(i:Nat) (x:List CT),ys[i]? =some x→∀(j:Nat) (c:CT),x[j]? =some c→∃u:Value,F[i * sz+j]? =some u∧∀w M,a7 w M u c):
 r5 P f [(1,.bG e sz [(v,xs)])] [.one (.c (.val v))] (fun _:Unit=>True) (fun _=>.v (C1 (.val (pD v ys.length)))) (fun _=>[(1,.bG e sz [(pD v ys.length,ys)])]):=by
 refine⟨b7,fun w M0 H Z vs dp cE=>?_⟩
 obtain⟨v0,rfl⟩:∃v0,vs=[v0]:=by
  match vs,cE.1 with
  |[a],_=>exact⟨a,rfl⟩
  |[],h=>simp at h
  |_::_::_,h=>simp at h
 obtain⟨u0,NQ,Qq⟩:=cE.2 0 _ J
 simp only[fg,ej]at NQ
 subst NQ
 have NP:v0=v:=a7.iM Qq
 subst NP
 obtain⟨hH,dj⟩:=dp.mem (1,.bG e sz [(v0,xs)]) ah
 simp only at hH dj
 obtain⟨us,dF,hlen,cL⟩:=dj.row (k:=0) J
 have qU:∀b,Hb (H 1) b↔hblk v0=some b:=fun b=>by
  rw[hH]
  show Hb (eA [(v0,xs)]) b↔_
  rw[cO];simp
 have CD:∀b,bP H [(1,MO.bG e sz [(v0,xs)])] b↔hblk v0=some b:=fun b=>by
  constructor
  ·rintro⟨p,hp,cC⟩
   rw[aH.1 hp]at cC
   exact(qU b).1 cC
  ·exact fun h=>⟨_,ah,(qU b).2 h⟩
 have hh:hblk (pD v0 ys.length)=hblk v0:=by
  cases v0 with
  |slice a n c=>cases a<;>rfl
  |_=>rfl
 have fin:∀w',Ext (fun b=>hblk v0=some b) w w'→eM w' (fun b=>M0 b∨hblk v0=some b) e sz (pD v0 ys.length) ys→FM H Z [(1,.bG e sz [(v0,xs)])] (fun _:Unit=>True) (fun _=>.v (C1 (.val (pD v0 ys.length)))) (fun _=>[(1,.bG e sz [(pD v0 ys.length,ys)])]) w M0 (.returned (pD v0 ys.length)) w':=by
  intro w' ec H2
  have hN:∀b,Hb (eA [(pD v0 ys.length,ys)]) b↔hblk v0=some b:=fun b=>by rw[cO];simp[hh]
  refine⟨(),pD v0 ys.length,fun i=>if i=1 then eA [(pD v0 ys.length,ys)]else H i,trivial,rfl,ec.xB fun b _ hb=>(CD b).2 hb,⟨fun p hp hg=>?_,fun p hp=>?_,fun p hp b hb=>?_,fun p hp q hq jl=>?_⟩,?_⟩
  ·rw[aH.1 hp]at hg
   exact absurd hg (show ¬given≤1 by decide)
  ·rw[aH.1 hp]
   refine⟨if_pos J,fun k q hk=>?_,fun k l q r hk K2 kl=>?_⟩
   ·match k,hk with
    |0,hk=>
     simp only[fg,ej]at hk;subst hk
     refine eM.mono (v:=pD v0 ys.length) (xs:=ys) H2 (fun _ _=>rfl) (aA _) (fun _ _ _=>rfl) fun b _ hb=>?_
     rcases hb with hb|⟨p,hp,cC⟩
     ·exact .inl hb
     ·rw[aH.1 hp]at cC
      exact .inr ((hN b).1 (by simpa using cC))
    |k+1,hk=>simp at hk
   ·match k,l,hk,K2 with
    |0,0,_,_=>exact absurd J kl
    |0,l+1,_,K2=>simp at K2
    |k+1,_,hk,_=>simp at hk
  ·rw[aH.1 hp]at hb⊢
   have hb:=(hN b).1 (by simpa using hb)
   have yS:Hb (H 1) b:=(qU b).2 hb
   have bo:=dp.lt _ ah b yS
   exact⟨bX bo ec.size,.inr ⟨_,ah,yS,.inl rfl⟩⟩
  ·rw[aH.1 hp,aH.1 hq]at jl;exact absurd J jl
  ·refine(a7.val _ ?_:a7 w' _ _ (.val (pD v0 ys.length)))
   cases v0 with
   |slice a n c=>rfl
   |_=>first|rfl|(rcases dF.2 with⟨e0,_⟩|⟨_,_,_,e0,_⟩<;>cases e0)
 rcases dF.2 with⟨hv,hn⟩|⟨g,cap,cur,hv,_⟩
 ·have hx:xs=[]:=b6 hn
  have Cq:ys=[]:=b6 (by rw[hx]at hl;simpa using hl)
  refine(nI hv w).mono ?_
  rintro e' w' ⟨rfl,hw⟩
  rw[hw]
  have:=fin w (Ext.refl _ _) (by rw[Cq,hv];exact eM.nil _ _ _ _)
  rw[Cq,hv]at this⊢
  exact this
 ·refine(lB w g cap us hv dF ⟨_,cL⟩).mono ?_
  rintro e' w' ⟨rfl,F,q,os,hF,rfl,T8⟩
  have hown0:=dF
  rw[hv]at dF
  have ho:=EF (zI dF hF q os) hl
  refine fin _ (Dv.xB fun b _ hb=>by rw[hv,hb];rfl) ⟨F.toList.take (ys.length * sz),by rw[hv];exact ho,hy,fun i x hx j c hc=>?_⟩
  obtain⟨u,hu,hr⟩:=T8 i x hx j c hc
  have vK:i < ys.length:=(ai.1 hx).1
  have eC:j < sz:=by rw[←hy x (an hx)];exact(ai.1 hc).1
  have bo:i * sz+j < ys.length * sz:=by
   have:=bq sz (show i+1≤ys.length from vK)
   rw[dt,Nat.one_mul]at this
   omega
  exact⟨u,by rw[b9,if_pos bo,eH];exact hu,hr _ _⟩
theorem Lz(v:Value)(l:List ByteArray)(hl:l.length < 4611686018427387904):
 r5 Tryz.prog 133 [(1,.bG 9 1 [(v,pn l)])] [.one (.c (.val v))]
  (fun _:Unit=>True) (fun _=>.v (C1 (.val (pD v (pn (mh l)).length)))) (fun _=>[(1,.bG 9 1 [(pD v (pn (mh l)).length,pn (mh l))])]):=by
 refine Fz (nR (c:=_) Tryz.func133 rfl rfl)
  (fun x hx=>by obtain⟨a,_,rfl⟩:=aE.1 hx;rfl) (by rw[aw,aw];exact rV l) (fun hv w=>?_) (fun w g cap us hv dF cL=>?_)
 ·subst hv
  exact Any.slices_Compact_string_empty Tryz.laysCompact none 0 w
 ·obtain⟨M,cL⟩:=cL
  have Jw:us=(l.map bl).map encStr:=wu (by have:=dF.1;simpa using this) cL
  have j3:l.length≤cap:=by
   rcases dF.2 with⟨e0,_⟩|⟨g',I6,cur,e0,_,_,hn,_⟩
   ·rw[hv]at e0;cases e0
   ·rw[hv]at e0;cases e0;simpa using hn
  subst hv
  obtain⟨hblk,hH⟩:=pv dF
  have T5:Holds encStr w g 0 (l.map bl).toArray:=w8 (by rw[Jw]at hH;simpa using hH)
  have dB:=Any.slices_Compact_string Tryz.laysCompact g 0 cap (l.map bl) w T5 (by simp;omega) (by simpa using j3)
  simp only[aw]at dB⊢
  have vi:(Lib.compact (l.map bl)).length=(mh l).length:=by unfold mh;simp
  refine dB.mono ?_
  rintro e' w' ⟨rfl,n,rfl⟩
  refine⟨by rw[vi];rfl,_,n,#[],?_,by rw[tI,Fo],fun i x hx j c hc=>?_⟩
  ·have:=rV l
   rw[Jw];simp;omega
  ·have h:=zl (r:=List.replicate (l.length - (Lib.compact (l.map bl)).length) []) hx hc
   unfold mh at h
   rw[Cg]at h
   exact h
theorem L7(l:List ByteArray)(s:ByteArray)(hl:l.length≤1000):dy Tryz.prog 93 [] [C1 (bh l),C1 (.str s)] (Rv (bh (nu l s))) []:=by
 refine bd (c:=_) Tryz.func93 rfl rfl rfl (by decide) fun w M0 H Z=>?_
 repeat'(first|(refine l7 200 J J fun v=>?_)|refine bH J ?_|(refine al ?_;refine aj th J ?_)|(refine au mix J J ?_;refine ak th J ?_)|(refine ao mix J J ?_;refine ay th J ?_)|refine SOps.nil ?_|refine DOps.nil ?_|refine EOps.nil ?_ rfl rfl|((first|refine aq J J ?_ ?_|refine av J J J ?_ ?_|refine aU J ?_ ?_)<;>intro hb<;>(try simp only[aF]at hb)<;>first|(exfalso;omega)|refine aj th J ?_|refine ak th J ?_|skip)|((first|refine dV J J J J ?_|refine mu (A6 l (by omega)) [91] J J J J J J J J J (fun _=>rfl) (fun vA _=>?_)|refine Gz 91 200 7 J J J J J J J ?_);refine aj th J ?_)|(refine er th J J J J J J J J J J J J J J J (by constructor<;>simp<;>omega) ?_;rw[show(pn l++[[CT.str s]])=pn (l++[s]) by simp];refine aj th J ?_)|((first|(refine qa (JO v (l++[s]) (by simp;omega)) [(1,200)] J J J J ⟨rfl,trivial⟩ ⟨rfl,rfl,rfl,rfl,rfl⟩ (fun _=>⟨rfl,rfl,rfl,rfl,rfl,rfl,rfl⟩) (fun _=>rfl) (fun _=>rfl) J J J (fun _ _=>?_))|(refine qa (Lz v (jh (l++[s])) (by rw[rf];simp;omega)) [(1,200)] J J J J ⟨rfl,trivial⟩ ⟨rfl,rfl,rfl,rfl,rfl⟩ (fun _=>⟨rfl,rfl,rfl,rfl,rfl,rfl,rfl⟩) (fun _=>rfl) (fun _=>rfl) J J J (fun _ _=>?_)));refine aj th J ?_))
 refine xc 200 4 J J J J J ?_
 refine aT th Tryz.func93 (.inr ⟨_,rfl⟩) J J J ?_ rfl
 exact .refl _
end Go.Sy
namespace Go.Sy
open Go.Proofs
set_option maxRecDepth 100000
attribute [local irreducible] SOps Goes DOps EOps
theorem zG{l:Loc}{rows:List Int}{i:Nat}(h:i < rows.length):gF l (rows.take (i+1))=iR l (gF l (rows.take i)) rows[i]:=by
 unfold gF
 rw[aD h,fh];rfl
set_option maxHeartbeats 4000000 in
theorem Gk(l:Loc)(hs:iv l):dy Tryz.prog 116 [] [Ag l.cs] (Rv (bh (fL l))) []:=by
 obtain⟨rows,qq⟩:∃rows,rows=kC l:=⟨_,rfl⟩
 have eL:∀i (h:i < rows.length),c7 l=true∧0≤rows[i]∧rows[i] < (l.turns.length:Int):=fun i h=>by
  subst qq
  unfold kC at h⊢
  by_cases hv:c7 l=true
  ·rw[if_pos hv]at h
   simp only[if_pos hv]
   obtain⟨hg,h0,_⟩:=mQ hv
   have:=wz hg h0 (az h)
   exact⟨hv,this.1,by simpa[Loc.g]using this.2⟩
  ·rw[if_neg hv]at h;simp at h
 have hlen:rows.length≤40:=by
  subst qq
  unfold kC
  split
  ·rename_i hv
   obtain⟨hg,h0,_⟩:=mQ hv
   have h1:=(iP hg h0).1.len
   have h2:=fp hv
   have h3:l.g.length=l.turns.length:=by simp[Loc.g]
   omega
  ·simp
 have oS:fL l=gF l rows:=by
  subst qq
  unfold fL kC
  split<;>rfl
 rw[oS]
 have hc:=y4 l hs
 rw[←qq]at hc
 refine bd (c:=_) Tryz.func116 rfl rfl rfl (by decide) fun w M0 H Z=>?_
 repeat'(first|refine bH J ?_|(refine al ?_;refine aj th J ?_)|(refine au mix J J ?_;refine ak th J ?_)|(refine ao mix J J ?_;refine ay th J ?_)|refine SOps.nil ?_|refine DOps.nil ?_|refine EOps.nil ?_ rfl rfl|((first|refine aq J J ?_ ?_|refine av J J J ?_ ?_|refine aU J ?_ ?_)<;>intro hb<;>(try simp only[aF]at hb)<;>first|(exfalso;omega)|refine aj th J ?_|refine ak th J ?_|skip)|(refine aS hc [] J J J J J J J J J J ?_;refine aj th J ?_))
 refine bE (fun k:Nat=>k≤rows.length)
  (fun k=>[(1,.v (.one (.ptr 1 0))),(3,.v (C1 (bh (gF l (rows.take k))))),(7,.v (C1 (cA rows))),(8,.v (C1 (.int .i64 (rows.length:Int)))),(9,.v (C1 (.int .i64 (k:Int))))])
  (fun _=>[(1,.box [.c (.str l.name),.c (gi l.turns)])])
  (fun k=>rows.length - k) 0 (aM _)
  (fun a w h=>h.sub (by exact⟨⟨_,rfl,.refl _⟩,⟨_,rfl,.v (.one (.c (.nil 1)))⟩,⟨_,rfl,.refl _⟩,⟨_,rfl,aC (by simp)⟩,⟨_,rfl,aC J⟩,trivial⟩) (by exact⟨⟨_,rfl,.refl _⟩,trivial⟩) J J J) (fun k hk ih=>?_)
 by_cases bo:k < rows.length
 ·obtain⟨hv,h0,h1⟩:=eL k bo
  have hx:(rows.map fun r=>[CT.int .i64 r])[k]? =some [.int .i64 rows[k]]:=by simp[bo]
  have UC:rows[k].toNat < l.turns.length:=by omega
  have hy:(l.turns.map fe.cs)[rows[k].toNat]? =some (l.turns[rows[k].toNat]).cs:=by simp[UC]
  have e1:bn l rows[k]=l.turns[rows[k].toNat]:=by unfold bn;rw[aJ,aa UC];rfl
  have hp:=zG (l:=l) bo
  have mZ:=BS l (rows.take k)
  rw[bf]at mZ
  have cS:=ih (k+1) bo (by omega)
  have pB:=L7 (gF l (rows.take k)) (l.turns[rows[k].toNat]).peer (by omega)
  repeat'(first|refine bH J ?_|(refine al ?_;refine aj th J ?_)|(refine au mix J J ?_;refine ak th J ?_)|(refine ao mix J J ?_;refine ay th J ?_)|refine SOps.nil ?_|refine DOps.nil ?_|refine EOps.nil ?_ rfl rfl|((first|refine aq J J ?_ ?_|refine av J J J ?_ ?_|refine aU J ?_ ?_)<;>intro hb<;>(try simp only[aF]at hb)<;>first|(exfalso;omega)|refine aj th J ?_|refine ak th J ?_|skip)|((first|refine ch th J J J J J J J J J k _ J hx ?_|refine ch th J J J J J J J J J rows[k].toNat _ (by omega) hy ?_|refine aS pB [] J J J J J J J J J J ?_|refine bO J J J J J J (by omega) ?_);refine aj th J ?_))
  ·rw[show gF l (rows.take (k+1))=nu (gF l (rows.take k)) (l.turns[rows[k].toNat]).peer by rw[hp,iR,e1,if_neg (by simpa using hb)]]at cS
   exact bJ (by exact⟨⟨_,rfl,.refl _⟩,⟨_,rfl,.refl _⟩,⟨_,rfl,.refl _⟩,⟨_,rfl,.refl _⟩,⟨_,rfl,aC (by omega)⟩,trivial⟩) (by exact⟨⟨_,rfl,.refl _⟩,trivial⟩) J J J cS
  ·rw[show gF l (rows.take (k+1))=gF l (rows.take k) by rw[hp,iR,e1,if_pos (by simpa using hb)]]at cS
   exact bJ (by exact⟨⟨_,rfl,.refl _⟩,⟨_,rfl,.refl _⟩,⟨_,rfl,.refl _⟩,⟨_,rfl,.refl _⟩,⟨_,rfl,aC (by omega)⟩,trivial⟩) (by exact⟨⟨_,rfl,.refl _⟩,trivial⟩) J J J cS
 ·rw[show rows.take k=rows from ek (by omega)]
  repeat'(first|refine bH J ?_|(refine al ?_;refine aj th J ?_)|(refine au mix J J ?_;refine ak th J ?_)|(refine ao mix J J ?_;refine ay th J ?_)|refine SOps.nil ?_|refine DOps.nil ?_|refine EOps.nil ?_ rfl rfl|((first|refine aq J J ?_ ?_|refine av J J J ?_ ?_|refine aU J ?_ ?_)<;>intro hb<;>(try simp only[aF]at hb)<;>first|(exfalso;omega)|refine aj th J ?_|refine ak th J ?_|skip)|refine aT th Tryz.func116 (.inr ⟨_,rfl⟩) J J J ?_ rfl)
  exact .refl _
end Go.Sy
