/- Contracts of the reference, bundle Bv1. -/
import Derived.Test.YtdjocfajcbhmgaaGreatDoorAu
import Derived.Test.YtdjocfajcbhmgaaGreatDoorBu3
import Derived.Test.YtdjocfajcbhmgaaGreatDoorZ1
import Derived.Test.YtdjocfajcbhmgaaGreatDoorBu1
import Derived.Test.YtdjocfajcbhmgaaGreatDoorBl1
import Derived.Test.YtdjocfajcbhmgaaGreatDoorLayp
import Derived.Shelf.Slices.In.SortNone
set_option maxHeartbeats 64000000
set_option linter.unusedSimpArgs false
set_option linter.unusedVariables false
set_option linter.unusedSectionVars false
namespace Go.Sy
open Go.Proofs Go.Shelf Go.RowKit Go.Sort
set_option maxRecDepth 100000
attribute [local irreducible] SOps Goes DOps EOps FOps
theorem Ax{α:Type}[Inhabited α](enc:α→Value)(off:Nat)(d:Array α)(c:Array Value):putCells enc off d c=putCells id off (d.map enc) c:=by
 unfold putCells
 apply Array.ext
 ·simp
 ·intro i h1 h2
  simp only[Array.getElem_mapIdx,Array.size_map,id]
  split
  ·rename_i h
   rw[getElem!_pos d (i - off) (by omega),getElem!_pos (d.map enc) (i - off) (by simp;omega),Array.getElem_map]
  ·rfl
theorem qP{α:Type}[Inhabited α](enc:α→Value)(w:World)(g off:Nat)(d:Array α):putRow enc w g off d=putRow id w g off (d.map enc):=by
 unfold putRow
 congr 1
 funext c
 exact Ax enc off d c
theorem IE(w:World):grow w #[]=w:=by
 unfold grow;simp
theorem tl{α:Type}[Inhabited α]{enc:α→Value}{w:World}{g off:Nat}{d:Array α}(h:Holds id w g off (d.map enc)):Holds enc w g off d:=fun j hj=>by
 have:=h j (by simpa using hj)
 rw[getElem!_pos (d.map enc) j (by simpa using hj),Array.getElem_map]at this
 rw[getElem!_pos d j hj]
 exact this
theorem yX{l:List ByteArray}{us:List Value}{w:World}{M:Nat→Prop}(hl:us.length=l.length * 1)
 (h:∀(i:Nat) (x:List CT),(qL l)[i]? =some x→∀(j:Nat) (c:CT),x[j]? =some c→∃u:Value,us[i * 1+j]? =some u∧aV w M u c):us=(l.map bl).map encStr:=by
 apply eh
 intro t
 by_cases ht:t < l.length
 ·obtain⟨u,hu,hr⟩:=h t [.str l[t]] (by simp[ht]) 0 _ J
  have:=aV.fR hr
  rw[show t * 1+0=t by omega]at hu
  rw[hu,this]
  simp[ht]
 ·rw[bR (by omega),bR (by simpa using(by omega:l.length≤t))]
theorem B4{l:List ByteArray}{r:List (List UInt8)}{i:Nat}{x:List CT}(hx:(qL l)[i]? =some x){j:Nat}{c:CT}(hc:x[j]? =some c):
 ∃u:Value,(((l.map bl++r).toArray).map encStr)[i * 1+j]? =some u∧∀w M,aV w M u c:=by
 rw[az]at hx
 cases hq:l[i]? with
 |none=>rw[hq]at hx;cases hx
 |some s=>
  rw[hq]at hx;injection hx with hx;subst hx
  match j,hc with
  |0,hc=>
   simp at hc;subst hc
   have hi:=(ai.1 hq).1
   refine⟨.string s,?_,fun _ _=>aV.str _⟩
   rw[show i * 1+0=i by omega,Array.getElem?_map,b8,aw (by simpa using hi),az,hq]
   rfl
  |j+1,hc=>simp at hc
theorem Nk(v:Value)(l:List ByteArray)(hl:l.length < 4611686018427387904):
 nV Tryz.prog 132 [(1,.bF 9 1 [(v,qL l)])] [.one (.c (.val v))]
  (fun _:Unit=>True) (fun _=>.fo []) (fun _=>[(1,.bF 9 1 [(v,qL (jN l))])]):=by
 refine xz (more:=[]) (ev:=[]) (my (c:=_) Tryz.func132 rfl rfl)
  (fun x hx=>by obtain⟨a,_,rfl⟩:=aL.1 hx;rfl) (by rw[ak,ak,sP]) (fun I H Z w M vs hp=>?_) (fun hv w=>?_) (fun w g cap us hv dH cC=>?_)
 ·have:=hp.1
  exact bK (by simpa using this)
 ·subst hv
  exact Any.slices_Sort_string_none Tryz.laysSortS none 0 w
 ·obtain⟨M,cC⟩:=cC
  have GJ:us=(l.map bl).map encStr:=yX (by have:=dH.1;simpa using this) cC
  subst hv
  obtain⟨hblk,hH⟩:=nF dH
  have UX:Holds encStr w g 0 (l.map bl).toArray:=tl (by rw[GJ]at hH;simpa using hH)
  have cY:=Any.slices_Sort_string Tryz.laysSortS g 0 cap (l.map bl) w UX hblk (by simpa using hl)
  simp only[ak]at cY⊢
  refine cY.mono ?_
  rintro e' w' ⟨rfl,n,os,rfl⟩
  refine⟨rfl,_,n,os,?_,by rw[qP],fun i x hx j c hc=>?_⟩
  ·rw[GJ];simp[nY]
  ·have h:=B4 (r:=[]) hx hc
   rw[et]at h
   unfold jN at h
   rw[E1]at h
   exact h
def q6:Value→Nat→Value
 |.slice a _ c,n=>.slice a n c
 |v,_=>v
theorem HP{w:World}{e sz g n m cap:Nat}{us:List Value}(h:w.ownsRow 0 e sz (.slice (some ⟨g,0,none⟩) n cap) n us)(hm:m≤n):
 w.ownsRow 0 e sz (.slice (some ⟨g,0,none⟩) m cap) m (us.take (m * sz)):=by
 rcases h.2 with⟨e0,_⟩|⟨g',Mp,cur,e0,hb,hg,hn,Iv,hs,ht⟩
 ·cases e0
 ·cases e0
  have hle:=br sz hm
  have qf:us.length=n * sz:=h.1
  refine⟨by rw[aO,qf];omega,.inr ⟨g,cap,cur,rfl,hb,hg,by omega,Iv,hs,?_⟩⟩
  rw[←ht,List.take_take,yC hle]
theorem IU{P:Program}{f:FuncId}{e sz:Nat}{v:Value}{xs ys:List (List CT)}(b6:lG P f)
 (hy:∀x∈ys,x.length=sz)(hl:ys.length≤xs.length)
 (w5:v=.slice none 0 0→∀w,Calls P f #[v] w fun e w'=>e=.returned v∧w'=w)
 (jh:∀(w:World) (g cap:Nat) (us:List Value),v=.slice (some ⟨g,0,none⟩) xs.length cap→w.ownsRow 0 e sz v xs.length us→
   (∃M:Nat→Prop,∀(i:Nat) (x:List CT),xs[i]? =some x→∀(j:Nat) (c:CT),x[j]? =some c→∃u:Value,us[i * sz+j]? =some u∧aV w M u c)→
   Calls P f #[v] w fun e w'=>e=.returned (q6 v ys.length)∧∃(F:Array Value) (q:Nat) (os:Array Obj),F.size=us.length∧w'=grow (putRow id (Sort.ahead w q) g 0 F) os∧
    ∀(i:Nat) (x:List CT),ys[i]? =some x→∀(j:Nat) (c:CT),x[j]? =some c→∃u:Value,F[i * sz+j]? =some u∧∀w M,aV w M u c):
 nV P f [(1,.bF e sz [(v,xs)])] [.one (.c (.val v))] (fun _:Unit=>True) (fun _=>.v (C1 (.val (q6 v ys.length)))) (fun _=>[(1,.bF e sz [(q6 v ys.length,ys)])]):=by
 refine⟨b6,fun w M0 H Z vs dn cE=>?_⟩
 obtain⟨v0,rfl⟩:∃v0,vs=[v0]:=by
  match vs,cE.1 with
  |[a],_=>exact⟨a,rfl⟩
  |[],h=>simp at h
  |_::_::_,h=>simp at h
 obtain⟨u0,RL,M1⟩:=cE.2 0 _ J
 simp only[dM,cI]at RL
 subst RL
 have Wr:v0=v:=aV.gH M1
 subst Wr
 obtain⟨hH,c6⟩:=dn.mem (1,.bF e sz [(v0,xs)]) ah
 simp only at hH c6
 obtain⟨us,dH,hlen,cC⟩:=c6.row (k:=0) J
 have sD:∀b,Hb (H 1) b↔hblk v0=some b:=fun b=>by
  rw[hH]
  show Hb (gg [(v0,xs)]) b↔_
  rw[dD];simp
 have Fz:∀b,bT H [(1,MO.bF e sz [(v0,xs)])] b↔hblk v0=some b:=fun b=>by
  constructor
  ·rintro⟨p,hp,c9⟩
   rw[aq.1 hp]at c9
   exact(sD b).1 c9
  ·exact fun h=>⟨_,ah,(sD b).2 h⟩
 have hh:hblk (q6 v0 ys.length)=hblk v0:=by
  cases v0 with
  |slice a n c=>cases a<;>rfl
  |_=>rfl
 have fin:∀w',Ext (fun b=>hblk v0=some b) w w'→fp w' (fun b=>M0 b∨hblk v0=some b) e sz (q6 v0 ys.length) ys→I5 H Z [(1,.bF e sz [(v0,xs)])] (fun _:Unit=>True) (fun _=>.v (C1 (.val (q6 v0 ys.length)))) (fun _=>[(1,.bF e sz [(q6 v0 ys.length,ys)])]) w M0 (.returned (q6 v0 ys.length)) w':=by
  intro w' dy Lh
  have hN:∀b,Hb (gg [(q6 v0 ys.length,ys)]) b↔hblk v0=some b:=fun b=>by rw[dD];simp[hh]
  refine⟨(),q6 v0 ys.length,fun i=>if i=1 then gg [(q6 v0 ys.length,ys)]else H i,trivial,rfl,dy.yb fun b _ hb=>(Fz b).2 hb,⟨fun p hp hg=>?_,fun p hp=>?_,fun p hp b hb=>?_,fun p hp q hq kl=>?_⟩,?_⟩
  ·rw[aq.1 hp]at hg
   exact absurd hg (show ¬given≤1 by decide)
  ·rw[aq.1 hp]
   refine⟨if_pos J,fun k q hk=>?_,fun k l q r hk OH j7=>?_⟩
   ·match k,hk with
    |0,hk=>
     simp only[dM,cI]at hk;subst hk
     refine fp.mono (v:=q6 v0 ys.length) (xs:=ys) Lh (fun _ _=>rfl) (ay _) (fun _ _ _=>rfl) fun b _ hb=>?_
     rcases hb with hb|⟨p,hp,c9⟩
     ·exact .inl hb
     ·rw[aq.1 hp]at c9
      exact .inr ((hN b).1 (by simpa using c9))
    |k+1,hk=>simp at hk
   ·match k,l,hk,OH with
    |0,0,_,_=>exact absurd J j7
    |0,l+1,_,OH=>simp at OH
    |k+1,_,hk,_=>simp at hk
  ·rw[aq.1 hp]at hb⊢
   have hb:=(hN b).1 (by simpa using hb)
   have x7:Hb (H 1) b:=(sD b).2 hb
   have bj:=dn.lt _ ah b x7
   exact⟨ca bj dy.size,.inr ⟨_,ah,x7,.inl rfl⟩⟩
  ·rw[aq.1 hp,aq.1 hq]at kl;exact absurd J kl
  ·refine(aV.val _ ?_:aV w' _ _ (.val (q6 v0 ys.length)))
   cases v0 with
   |slice a n c=>rfl
   |_=>first|rfl|(rcases dH.2 with⟨e0,_⟩|⟨_,_,_,e0,_⟩<;>cases e0)
 rcases dH.2 with⟨hv,hn⟩|⟨g,cap,cur,hv,_⟩
 ·have hx:xs=[]:=bK hn
  have Fb:ys=[]:=bK (by rw[hx]at hl;simpa using hl)
  refine(w5 hv w).mono ?_
  rintro e' w' ⟨rfl,hw⟩
  rw[hw]
  have:=fin w (Ext.refl _ _) (by rw[Fb,hv];exact fp.nil _ _ _ _)
  rw[Fb,hv]at this⊢
  exact this
 ·refine(jh w g cap us hv dH ⟨_,cC⟩).mono ?_
  rintro e' w' ⟨rfl,F,q,os,hF,rfl,XD⟩
  have hown0:=dH
  rw[hv]at dH
  have ho:=HP (Cl dH hF q os) hl
  refine fin _ (Gl.yb fun b _ hb=>by rw[hv,hb];rfl) ⟨F.toList.take (ys.length * sz),by rw[hv];exact ho,hy,fun i x hx j c hc=>?_⟩
  obtain⟨u,hu,hr⟩:=XD i x hx j c hc
  have sb:i < ys.length:=(ai.1 hx).1
  have fg:j < sz:=by rw[←hy x (aj hx)];exact(ai.1 hc).1
  have bj:i * sz+j < ys.length * sz:=by
   have:=br sz (show i+1≤ys.length from sb)
   rw[ec,Nat.one_mul]at this
   omega
  exact⟨u,by rw[bU,if_pos bj,ej];exact hu,hr _ _⟩
theorem Pv(v:Value)(l:List ByteArray)(hl:l.length < 4611686018427387904):
 nV Tryz.prog 133 [(1,.bF 9 1 [(v,qL l)])] [.one (.c (.val v))]
  (fun _:Unit=>True) (fun _=>.v (C1 (.val (q6 v (qL (nh l)).length)))) (fun _=>[(1,.bF 9 1 [(q6 v (qL (nh l)).length,qL (nh l))])]):=by
 refine IU (my (c:=_) Tryz.func133 rfl rfl)
  (fun x hx=>by obtain⟨a,_,rfl⟩:=aL.1 hx;rfl) (by rw[ak,ak];exact tF l) (fun hv w=>?_) (fun w g cap us hv dH cC=>?_)
 ·subst hv
  exact Any.slices_Compact_string_empty Tryz.laysCompact none 0 w
 ·obtain⟨M,cC⟩:=cC
  have GJ:us=(l.map bl).map encStr:=yX (by have:=dH.1;simpa using this) cC
  have jC:l.length≤cap:=by
   rcases dH.2 with⟨e0,_⟩|⟨g',Mp,cur,e0,_,_,hn,_⟩
   ·rw[hv]at e0;cases e0
   ·rw[hv]at e0;cases e0;simpa using hn
  subst hv
  obtain⟨hblk,hH⟩:=nF dH
  have UX:Holds encStr w g 0 (l.map bl).toArray:=tl (by rw[GJ]at hH;simpa using hH)
  have cY:=Any.slices_Compact_string Tryz.laysCompact g 0 cap (l.map bl) w UX (by simp;omega) (by simpa using jC)
  simp only[ak]at cY⊢
  have sC:(Lib.compact (l.map bl)).length=(nh l).length:=by unfold nh;simp
  refine cY.mono ?_
  rintro e' w' ⟨rfl,n,rfl⟩
  refine⟨by rw[sC];rfl,_,n,#[],?_,by rw[qP,IE],fun i x hx j c hc=>?_⟩
  ·have:=tF l
   rw[GJ];simp;omega
  ·have h:=B4 (r:=List.replicate (l.length - (Lib.compact (l.map bl)).length) []) hx hc
   unfold nh at h
   rw[E1]at h
   exact h
theorem Ka(l:List ByteArray)(s:ByteArray)(hl:l.length≤1000):er Tryz.prog 93 [] [C1 (bL l),C1 (.str s)] (Rv (bL (j2 l s))) []:=by
 refine bn (c:=_) Tryz.func93 rfl rfl rfl (by decide) fun w M0 H Z=>?_
 repeat'(first|(refine mX 200 J J fun v=>?_)|refine aA ?_|(refine aB ?_ ?_<;>first|exact aD|(refine aE ?_;intro hb))|((first|refine gP J J J J ?_|refine vd (DF l (by omega)) [91] J J J J J J J J J (fun _=>rfl) (fun vA _=>?_)|refine JN 91 200 7 J J J J J J J ?_);refine ao th J ?_)|(refine eo th J J J J J J J J J J J J J J J (by constructor<;>simp<;>omega) ?_;rw[show(qL l++[[CT.str s]])=qL (l++[s]) by simp];refine ao th J ?_)|((first|(refine iI (Nk v (l++[s]) (by simp;omega)) [(1,200)] J J J J ⟨rfl,trivial⟩ ⟨rfl,rfl,rfl,rfl,rfl⟩ (fun _=>⟨rfl,rfl,rfl,rfl,rfl,rfl,rfl⟩) (fun _=>rfl) (fun _=>rfl) J J J (fun _ _=>?_))|(refine iI (Pv v (jN (l++[s])) (by rw[sP];simp;omega)) [(1,200)] J J J J ⟨rfl,trivial⟩ ⟨rfl,rfl,rfl,rfl,rfl⟩ (fun _=>⟨rfl,rfl,rfl,rfl,rfl,rfl,rfl⟩) (fun _=>rfl) (fun _=>rfl) J J J (fun _ _=>?_)));refine ao th J ?_))
 refine pW 200 4 J J J J J ?_
 refine aZ th Tryz.func93 (.inr ⟨_,rfl⟩) J J J ?_ rfl
 exact .refl _
end Go.Sy
namespace Go.Sy
open Go.Proofs
set_option maxRecDepth 100000
attribute [local irreducible] SOps Goes DOps EOps
def F6:Loc:=⟨⟨#[]⟩,[]⟩
def yM(l:Loc):Loc:=if fP l then ox l else F6
theorem Np{α β:Type}(f:α→α)(g:α→β)(l:List α)(m:Nat)(hm:m < l.length):
 (((l.take m).map f++l.drop m).map g).set m (g (f l[m]))=((l.take (m+1)).map f++l.drop (m+1)).map g:=by
 rw[←List.map_set]
 congr 1
 rw[List.set_append_right _ _ (by simp;omega),al hm,bg,bf]
 congr 1
 have:m - ((l.take m).map f).length=0:=by simp;omega
 rw[this,cX hm]
 rfl
theorem Oh{α β:Type}(f:α→α)(g:α→β)(l:List α)(m:Nat)(hm:m < l.length):(((l.take m).map f++l.drop m).map g)[m]? =some (g l[m]):=by
 rw[az,aN (by simp;omega),cf]
 have:m+(m - ((l.take m).map f).length)=m:=by simp;omega
 rw[this,aa hm];rfl
theorem N3{row:List Int}{x:Int}(h:x∈row):dE (lM row) x (.int .i64 0)=.int .i64 (Ra row x):=by
 rw[Cw,EV,if_pos h];rfl
def qH(l:Loc)(x:Int):jk:=⟨(dc l x).kind,(dc l x).peer,AP (eT l.g) (dc l x).ax⟩
theorem Na(l:Loc)(hs:pt l):er Tryz.prog 79 [] [Ag l.cs] (.v (Ag (yM l).cs)) []:=by
 refine bn (c:=_) Tryz.func79 rfl rfl rfl (by decide) fun w M0 H Z=>?_
 repeat'(first|refine aA ?_|(refine aB ?_ ?_<;>first|exact aD|(refine aE ?_;intro hb))|refine aZ th Tryz.func79 (.inr ⟨_,rfl⟩) J J J ?_ rfl|((first|refine aR (An l hs) [] J J J J J J J J J J ?_|refine aR (Jx l hs) [] J J J J J J J J J J ?_);refine ao th J ?_))
 ·rw[show yM l=F6 by unfold yM;rw[hb];rfl]
  exact .v (.agg (.cons (.refl _) (.cons (.c (.nil 3)) .nil)))
 have hv:=hb
 obtain⟨hg,h0,hu⟩:=GD hv
 have WU:=(l8 hv).2
 have Dh:l.g.length=l.turns.length:=by simp[Loc.g]
 obtain⟨jh,_⟩:=vQ hg h0
 have BF:=jh.len
 have pR:qO l=eT l.g:=by unfold qO;rw[if_pos hv]
 have MY:yM l=⟨l.name,(eT l.g).map (qH l)⟩:=by unfold yM;rw[if_pos hv];rfl
 have BG:∀x∈eT l.g,∀a∈jr (dc l x).ax,a.next∈eT l.g:=fun x hx a ha=>vR hg h0 hx (by rw[iQ];exact mH.1 ha)
 obtain⟨row,X9⟩:∃row,row=eT l.g:=⟨_,rfl⟩
 rw[pR]
 have Wu:∀x,qH l x=⟨(dc l x).kind,(dc l x).peer,AP row (dc l x).ax⟩:=fun x=>by rw[X9];rfl
 rw[←X9]at jh BF MY BG⊢
 refine bE (fun k:Nat=>k≤row.length)
  (fun k=>[(1,.v (.one (.ptr 1 0))),(2,.v (.one (.ptr 2 0))),(3,.v (C1 (ch row))),(4,.v (.one (.mp 18))),(19,.v (C1 (ch row))),(20,.v (C1 (.int .i64 (row.length:Int)))),(21,.v (C1 (.int .i64 (k:Int))))])
  (fun k=>[(18,.fw (dI tf (lM (row.take k)))),(2,.box [.c (.str ⟨#[]⟩),.c .bA]),(1,.box (l.cs.map SC.c))])
  (fun k=>row.length - k) 0 (aF _)
  aH (fun k hk ih=>?_)
 by_cases bj:k < row.length
 ·have hx:(row.map fun r=>[CT.int .i64 r])[k]? =some [.int .i64 row[k]]:=by simp[bj]
  have oh:row[k]∉row.take k:=fun hm=>by
   obtain⟨j,hj,e⟩:=aC.1 hm
   have A9:j < k:=by simp at hj;omega
   rw[List.getElem_take]at e
   have:=(List.getElem_inj jh.nodup).1 e
   omega
  have kK:iq (lM (row.take k)) row[k] (.int .i64 (k:Int))=lM (row.take (k+1)):=by
   have:=Gt oh
   rw[aO,yC hk]at this
   rw[this,al bj]
  repeat'(first|refine aA ?_|(refine aB ?_ ?_<;>first|exact aD|(refine aE ?_;intro hb))|((first|refine bO th J J J J J J J J J k _ J hx ?_|(refine Ap th (m:=lM (row.take k)) (.inl rfl) J J J J J J J J ?_;rw[kK])|refine bH J J J J J J (by omega) ?_);refine ao th J ?_))
  exact aS (ih (k+1) bj (by omega))
 ·have gv:k=row.length:=by omega
  subst gv
  rw[bq]
  repeat'(first|refine aA ?_|(refine aB ?_ ?_<;>first|exact aD|(refine aE ?_;intro hb))|fail)
  refine kv 7 1 200 39 3 J J J J ?_
  refine bE (fun k:Nat=>k≤row.length)
   (fun k=>[(1,.v (.one (.ptr 1 0))),(2,.v (.one (.ptr 2 0))),(4,.v (.one (.mp 18))),(7,.v (.one (.ptr 7 0))),(33,.v (C1 (ch row))),(34,.v (C1 (.int .i64 (row.length:Int)))),(35,.v (C1 (.int .i64 (k:Int))))])
   (fun k=>[(200,.arr false 39 3 (((row.take k).map (qH l)).map jk.cs)),(7,.box [.c (.str l.name),.own 200]),(18,.fw (dI tf (lM row))),(2,.box [.c (.str ⟨#[]⟩),.c .bA]),(1,.box (l.cs.map SC.c))])
   (fun k=>row.length - k) 0 (aF _)
   aH (fun k hk ih=>?_)
  by_cases bj:k < row.length
  ·have hx:(row.map fun r=>[CT.int .i64 r])[k]? =some [.int .i64 row[k]]:=by simp[bj]
   have yo:=jh.range row[k] (an bj)
   rw[Dh]at yo
   have Ul:=yI yo
   have mB:=tY hv row[k]
   have M4:=BG row[k] (an bj)
   repeat'(first|refine aA ?_|(refine aB ?_ ?_<;>first|exact aD|(refine aE ?_;intro hb))|((first|refine bO th J J J J J J J J J k _ J hx ?_|refine bO th J J J J J J J J J (row[k]).toNat _ (by omega) Ul ?_|(refine vd (HK (dc l row[k]).ax mB.1 (by omega)) [91] J J J J J J J J J (fun _=>rfl) (fun vA _=>?_);refine JN 91 210 46 J J J J J J J ?_));refine ao th J ?_))
   obtain⟨rs,Lg⟩:∃rs,rs=jr (dc l row[k]).ax:=⟨_,rfl⟩
   rw[←Lg]at M4
   have hrsl:rs.length≤6:=by rw[Lg,rP];exact mB.2
   refine bE (fun m:Nat=>m≤rs.length)
    (fun m=>[(1,.v (.one (.ptr 1 0))),(2,.v (.one (.ptr 2 0))),(4,.v (.one (.mp 18))),(7,.v (.one (.ptr 7 0))),(10,.v (.one (.ptr 10 0))),(33,.v (C1 (ch row))),(34,.v (C1 (.int .i64 (row.length:Int)))),(35,.v (C1 (.int .i64 (k:Int)))),(50,.v (C1 (.int .i64 (rs.length:Int)))),(51,.v (C1 (.int .i64 (m:Int))))])
    (fun m=>[(210,.arr false 34 4 (((rs.take m).map (EC (Ra row))++rs.drop m).map bD.cs)),(10,.box [.c (.int .i64 (dc l row[k]).kind),.c (.str (dc l row[k]).peer),.own 210]),(200,.arr false 39 3 (((row.take k).map (qH l)).map jk.cs)),(7,.box [.c (.str l.name),.own 200]),(18,.fw (dI tf (lM row))),(2,.box [.c (.str ⟨#[]⟩),.c .bA]),(1,.box (l.cs.map SC.c))])
    (fun m=>rs.length - m) 0 (aF _)
    (fun a w h=>h.sub (by exact⟨⟨_,rfl,.refl _⟩,⟨_,rfl,.refl _⟩,⟨_,rfl,.refl _⟩,⟨_,rfl,.refl _⟩,⟨_,rfl,.refl _⟩,⟨_,rfl,.refl _⟩,⟨_,rfl,.refl _⟩,⟨_,rfl,.refl _⟩,⟨_,rfl,eM (by rw[Lg];simp)⟩,⟨_,rfl,eM J⟩,trivial⟩)
      (by exact⟨⟨_,rfl,fE (by rw[Lg];rfl)⟩,⟨_,rfl,.refl _⟩,⟨_,rfl,.refl _⟩,⟨_,rfl,.refl _⟩,⟨_,rfl,.refl _⟩,⟨_,rfl,.refl _⟩,⟨_,rfl,.refl _⟩,trivial⟩) J J J) (fun m hm n9=>?_)
   by_cases Fs:m < rs.length
   ·have VF:=Oh (EC (Ra row)) bD.cs rs m Fs
    have Fi:=Np (EC (Ra row)) bD.cs rs m Fs
    have hlen:(((rs.take m).map (EC (Ra row))++rs.drop m).map bD.cs).length=rs.length:=by simp;omega
    have jS:=N3 (M4 rs[m] (an Fs))
    repeat'(first|(refine G1 mix J J J J J J ?_;refine dP th J ?_)|refine aA ?_|(refine aB ?_ ?_<;>first|exact aD|(refine aE ?_;intro hb))|((first|(refine Bn th J J J J J J J J J J m J (by rw[hlen];exact Fs) ?_)|refine vz th _ J J J J VF J J J J J ?_|(refine Ps th (m:=lM row) J J J J J J J J J J J J ?_;rw[jS]));refine dP th J ?_)|((first|refine JI th _ J J J J VF J J J J J J J ?_|refine bH J J J J J J (by omega) ?_);refine ao th J ?_))
    have cT:=n9 (m+1) Fs (by omega)
    exact aS (h2:=by exact⟨⟨_,rfl,fE Fi⟩,⟨_,rfl,.refl _⟩,⟨_,rfl,.refl _⟩,⟨_,rfl,.refl _⟩,⟨_,rfl,.refl _⟩,⟨_,rfl,.refl _⟩,⟨_,rfl,.refl _⟩,trivial⟩) cT
   ·have OG:m=rs.length:=by omega
    subst OG
    rw[bq,List.drop_length,et]
    have Zj:AP row (dc l row[k]).ax=rs.map (EC (Ra row)):=by rw[mL,Lg]
    repeat'(first|(refine dY 210 J J ?_)|refine aA ?_|(refine aB ?_ ?_<;>first|exact aD|(refine aE ?_;intro hb))|(refine nB 7 1 J ?_;refine eo th J J J J J J J J J J J J J J J (by constructor<;>simp<;>omega) ?_;refine ao th J ?_)|(refine bH J J J J J J (by omega) ?_;refine ao th J ?_))
    have cT:=ih (k+1) bj (by omega)
    have BE:((row.take (k+1)).map (qH l)).map jk.cs=((row.take k).map (qH l)).map jk.cs++[(qH l row[k]).cs]:=by
     rw[al bj,bg,bg];rfl
    rw[BE,Wu,Zj]at cT
    exact aS cT
  ·have gv:k=row.length:=by omega
   subst gv
   rw[bq]
   repeat'(first|refine aA ?_|(refine aB ?_ ?_<;>first|exact aD|(refine aE ?_;intro hb))|fail)
   refine dY 200 J J ?_
   refine aZ th Tryz.func79 (.inr ⟨_,rfl⟩) J J J ?_ rfl
   rw[MY]
   exact .refl _
end Go.Sy
