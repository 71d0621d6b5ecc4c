/- Contracts of the reference, bundle Bu3. -/
import Derived.Test.YtdjocfajcbhmgaaGreatDoorAu
import Derived.Shelf.SlSortCmp.NoneTotal
import Derived.WalkKit
import Derived.Test.YtdjocfajcbhmgaaGreatDoorLayq
import Derived.Test.YtdjocfajcbhmgaaGreatDoorBl1
import Derived.Test.YtdjocfajcbhmgaaGreatDoorSy8
import Derived.Test.YtdjocfajcbhmgaaGreatDoorZ1
import Derived.Test.YtdjocfajcbhmgaaGreatDoorBu2
set_option maxHeartbeats 64000000
namespace Go.Proofs
set_option linter.unusedSimpArgs false
set_option linter.unusedVariables false
open Go.Shelf Go.RowKit Go.Lib Go.Sort Go.Sy
def sq(x y:ByteArray):Int:=if gQ x y then -1 else if gQ y x then 1 else 0
theorem RC(x:ByteArray)(w:World):Calls Tryz.prog 134 #[.string x] w fun e w'=>e=.returned (.bool false)∧w'=w:=by
 go_enter Tryz.func134,Tryz.ntmps134
 go_wp2
 go_ret
 exact⟨rfl,rfl⟩
theorem Mk(x y:ByteArray)(w:World):Calls Tryz.prog 147 #[.string x,.string y] w fun e w'=>e=.returned (.int .i64 (sq x y))∧w'=w:=by
 have hn:=RC
 cases h1:Op.bytesLess x.toList y.toList with
 |true=>
  have hc:sq x y=-1:=by unfold sq gQ;rw[if_pos h1]
  rw[hc];clear hc
  go_enter Tryz.func147,Tryz.ntmps147
  go_wp2_with (go_at_call 134;refine(hn _ _).mono ?_;rintro e w' ⟨rfl,rfl⟩)
  all_goals go_ret
  all_goals exact⟨rfl,rfl⟩
 |false=>
  cases h2:Op.bytesLess y.toList x.toList with
  |true=>
   have hc:sq x y=1:=by unfold sq gQ;rw[if_neg (by rw[h1];decide),if_pos h2]
   have h3:¬x=y:=fun e=>by subst e;rw[h1]at h2;cases h2
   have h4:¬x.toList=y.toList:=fun e=>h3 (qy e)
   have h5:(x.toList==y.toList)=false:=by simpa using h4
   have hb:∀w,(binOp BinOp.gtr 9 (.string x) (.string y)).run Tryz.prog w=.ok (.bool true) w:=fun w=>by simp[binOp,Op.stringOp,eqGuard,h1,h5]
   rw[hc];clear hc
   go_enter Tryz.func147,Tryz.ntmps147
   go_wp2_with (go_at_call 134;refine(hn _ _).mono ?_;rintro e w' ⟨rfl,rfl⟩)
   all_goals first|(go_ret;exact⟨rfl,rfl⟩)|trace_state
  |false=>
   have hc:sq x y=0:=by unfold sq gQ;rw[if_neg (by rw[h1];decide),if_neg (by rw[h2];decide)]
   obtain rfl:x=y:=ve h1 h2
   have hb:∀w,(binOp BinOp.gtr 9 (.string x) (.string x)).run Tryz.prog w=.ok (.bool false) w:=fun w=>by simp[binOp,Op.stringOp,eqGuard,h1]
   rw[hc];clear hc
   go_enter Tryz.func147,Tryz.ntmps147
   go_wp2_with (go_at_call 134;refine(hn _ _).mono ?_;rintro e w' ⟨rfl,rfl⟩)
   all_goals first|(go_ret;exact⟨rfl,rfl⟩)|trace_state
instance:Inhabited bD:=⟨⟨⟨#[]⟩,0,⟨#[]⟩,0⟩⟩
def nc(a:bD):List Value:=[.string a.label,.int .i64 a.kind,.string a.name,.int .i64 a.next]
abbrev DE(x y:bD):Int:=sq x.label y.label
theorem VB(x y:bD):ltOf DE x y=gQ x.label y.label:=by
 unfold ltOf DE sq
 cases h1:gQ x.label y.label
 ·cases h2:gQ y.label x.label<;>simp[h1,h2]
 ·simp
theorem V8:SWO (ltOf DE) where
 irrefl x:=by rw[VB];exact lV _
 trans x y z h1 h2:=by rw[VB]at *;exact iT h1 h2
 ntrans x y z h1 h2:=by
  rw[VB]at *
  cases h3:gQ x.label z.label with
  |false=>rfl
  |true=>
   exfalso
   cases h4:gQ y.label x.label with
   |true=>
    have:=iT h4 h3
    rw[this]at h2;cases h2
   |false=>
    have:=ve h1 h4
    rw[this,h2]at h3;cases h3
theorem NH(x y:bD)(W:World):Calls Tryz.prog 146 #[.agg (nc x).toArray,.agg (nc y).toArray] W fun e w'=>e=.returned (.int .i64 (DE x y))∧∃q YN,w'=grow (W.drewN q) YN:=by
 have cY:=fun W'=>Mk x.label y.label W'
 unfold DE
 generalize sq x.label y.label=r at cY⊢
 unfold nc
 go_enter Tryz.func146,Tryz.ntmps146
 go_wp2_with (go_at_call 147;refine(cY _).mono ?_;rintro e w' ⟨rfl,rfl⟩)
 go_ret
 exact⟨rfl,0,_,by rw[alloc_eq_grow,alloc_eq_grow,grow_grow];rfl⟩
theorem Ml(blk off size:Nat)(w:World):CmpLays Tryz.prog 146 #[] nc 4 DE blk off size w:=
 fun _ _ _ _ x y=>NH x y _
end Go.Proofs
set_option linter.unusedSimpArgs false
set_option linter.unusedVariables false
set_option linter.unusedSectionVars false
namespace Go.Sy
open Go.Proofs Go.Shelf Go.RowKit Go.Sort
theorem nF{w:World}{e sz g n cap:Nat}{us:List Value}(h:w.ownsRow 0 e sz (.slice (some ⟨g,0,none⟩) n cap) n us):g < w.heap.size∧Holds id w g 0 us.toArray:=by
 rcases h.2 with⟨e0,_⟩|⟨g',Mp,cur,e0,hb,hg,hn,hm,hs,ht⟩
 ·cases e0
 ·cases e0
  have bj:g < w.heap.size:=by
   rcases Nat.lt_or_ge g w.heap.size with h'|h'
   ·exact h'
   ·rw[Array.getElem?_eq_none h']at hg;cases hg
  refine⟨bj,fun j hj=>⟨?_,by simp[World.frozen?,hg]⟩⟩
  have A9:j < us.length:=by simpa using hj
  have Ye:j < n * sz:=by rw[←h.1];exact A9
  have e1:(cur.toList.take (n * sz))[j]? =us[j]? :=by rw[ht]
  rw[List.getElem?_take,if_pos Ye,Array.getElem?_toList,List.getElem?_eq_getElem A9]at e1
  simp only[World.cell?,hg,Nat.zero_add,Option.isSome_none,Bool.false_eq_true,if_false]
  rw[e1]
  simp[getElem!_pos,A9]
theorem J9{w:World}{g q:Nat}{F:Array Value}{os:Array Obj}{cur:Array Value}{e:TypeId}(hg:w.heap[g]? =some (.cells cur e (0,0))):
 (grow (putRow id (Sort.ahead w q) g 0 F) os).heap[g]? =some (.cells (putCells id 0 F cur) e (0,0)):=by
 have bj:g < w.heap.size:=by
  rcases Nat.lt_or_ge g w.heap.size with h'|h'
  ·exact h'
  ·rw[Array.getElem?_eq_none h']at hg;cases hg
 rw[heap_grow_old _ _ (by simpa[putRow,mapBlock,Sort.ahead]using bj)]
 simp[putRow,mapBlock,Sort.ahead,Array.getElem?_modify,hg,onCells]
theorem Cl{w:World}{e sz g n cap:Nat}{us:List Value}(h:w.ownsRow 0 e sz (.slice (some ⟨g,0,none⟩) n cap) n us){F:Array Value}(hF:F.size=us.length)(q:Nat)(os:Array Obj):
 (grow (putRow id (Sort.ahead w q) g 0 F) os).ownsRow 0 e sz (.slice (some ⟨g,0,none⟩) n cap) n F.toList:=by
 rcases h.2 with⟨e0,_⟩|⟨g',Mp,cur,e0,hb,hg,hn,hm,hs,ht⟩
 ·cases e0
 ·cases e0
  have qf:us.length=n * sz:=h.1
  have VP:n * sz≤cur.size:=by rw[hs];exact Nat.mul_le_mul_right sz hn
  refine⟨by rw[Array.length_toList,hF,qf],.inr ⟨g,cap,_,rfl,hb,J9 hg,hn,hm,by simpa[putCells]using hs,?_⟩⟩
  apply List.ext_getElem?
  intro j
  rw[List.getElem?_take]
  by_cases hj:j < n * sz
  ·have Zv:j < cur.size:=by omega
   have Zw:j < F.size:=by omega
   rw[if_pos hj,Array.getElem?_toList,Array.getElem?_toList]
   simp[putCells,Zv,Zw,getElem!_pos]
  ·rw[if_neg hj,Array.getElem?_toList,Array.getElem?_eq_none (by omega)]
theorem Gl{w:World}{g q:Nat}{F:Array Value}{os:Array Obj}:Ext (fun b=>b=g) w (grow (putRow id (Sort.ahead w q) g 0 F) os):=by
 refine⟨rfl,rfl,rfl,by simp[putRow,mapBlock,Sort.ahead],fun k hk cV=>?_⟩
 rw[heap_grow_old _ _ (by simpa[putRow,mapBlock,Sort.ahead]using hk)]
 simp only[putRow,mapBlock,Sort.ahead,Array.getElem?_modify,if_neg (fun e:g=k=>cV e.symm)]
theorem xz{P:Program}{f:FuncId}{e sz:Nat}{v:Value}{xs ys:List (List CT)}{more:List SV}{ev:List Value}(b6:lG P f)
 (hy:∀x∈ys,x.length=sz)(hl:ys.length=xs.length)
 (Xe:∀(I:Nat→Prop) (H:Nat→Value) (Z:Nat→Nat) (w:World) (M:Nat→Prop) (vs:List Value),Pw (fun v s=>cu I H Z w M v s) vs more→vs=ev)
 (w5:v=.slice none 0 0→∀w,Calls P f (v::ev).toArray w fun e w'=>e=.returned (.tuple #[])∧w'=w)
 (jh:∀(w:World) (g cap:Nat) (us:List Value),v=.slice (some ⟨g,0,none⟩) xs.length cap→w.ownsRow 0 e sz v xs.length us→
   (∃M:Nat→Prop,∀(i:Nat) (x:List CT),xs[i]? =some x→∀(j:Nat) (c:CT),x[j]? =some c→∃u:Value,us[i * sz+j]? =some u∧aV w M u c)→
   Calls P f (v::ev).toArray w fun e w'=>e=.returned (.tuple #[])∧∃(F:Array Value) (q:Nat) (os:Array Obj),F.size=us.length∧w'=grow (putRow id (Sort.ahead w q) g 0 F) os∧
    ∀(i:Nat) (x:List CT),ys[i]? =some x→∀(j:Nat) (c:CT),x[j]? =some c→∃u:Value,F[i * sz+j]? =some u∧∀w M,aV w M u c):
 nV P f [(1,.bF e sz [(v,xs)])] (.one (.c (.val v))::more) (fun _:Unit=>True) (fun _=>.fo []) (fun _=>[(1,.bF e sz [(v,ys)])]):=by
 refine⟨b6,fun w M0 H Z vs dn cE=>?_⟩
 obtain⟨v0,vs,rfl⟩:∃v0 lK,vs=v0::lK:=by
  cases vs with
  |nil=>have:=cE.1;simp at this
  |cons a l=>exact⟨a,l,rfl⟩
 obtain⟨u0,RL,M1⟩:=cE.2 0 _ rfl
 simp only[List.getElem?_cons_zero,Option.some.injEq]at RL
 subst RL
 have Wr:v0=v:=aV.gH M1
 subst Wr
 have Y6:vs=ev:=Xe _ _ _ _ _ _ ⟨by have:=cE.1;simpa using this,fun j c hc=>by
  obtain⟨u,hu,hr⟩:=cE.2 (j+1) c (by simpa using hc)
  exact⟨u,by simpa using hu,hr⟩⟩
 subst Y6
 obtain⟨hH,c6⟩:=dn.mem (1,.bF e sz [(v0,xs)]) List.mem_cons_self
 simp only at hH c6
 obtain⟨us,dH,hlen,cC⟩:=c6.row (k:=0) rfl
 have sD:∀b,Hb (H 1) b↔hblk v0=some b:=fun b=>by
  rw[hH]
  show Hb (gg [(v0,xs)]) b↔_
  rw[dD];simp
 have Fz:∀b,bT H [(1,MO.bF e sz [(v0,xs)])] b↔hblk v0=some b:=fun b=>by
  constructor
  ·rintro⟨p,hp,c9⟩
   rw[List.mem_singleton.1 hp]at c9
   exact(sD b).1 c9
  ·exact fun h=>⟨_,List.mem_cons_self,(sD b).2 h⟩
 have fin:∀w',Ext (fun b=>hblk v0=some b) w w'→fp w' (fun b=>M0 b∨hblk v0=some b) e sz v0 ys→I5 H Z [(1,.bF e sz [(v0,xs)])] (fun _:Unit=>True) (fun _=>.fo []) (fun _=>[(1,.bF e sz [(v0,ys)])]) w M0 (.returned (.tuple #[])) w':=by
  intro w' dy Lh
  refine⟨(),.tuple #[],H,trivial,rfl,dy.yb fun b _ hb=>(Fz b).2 hb,⟨fun _ _ _=>rfl,fun p hp=>?_,fun p hp b hb=>?_,fun p hp q hq kl=>?_⟩,⟨#[],rfl,rfl,fun j c hc=>by simp at hc⟩⟩
  ·rw[List.mem_singleton.1 hp]
   refine⟨hH,fun k q hk=>?_,fun k l q r hk OH j7=>?_⟩
   ·match k,hk with
    |0,hk=>
     simp only[List.getElem?_cons_zero,Option.some.injEq]at hk;subst hk
     refine fp.mono (v:=v0) (xs:=ys) Lh (fun _ _=>rfl) (Nat.le_refl _) (fun _ _ _=>rfl) fun b _ hb=>?_
     rcases hb with hb|⟨p,hp,c9⟩
     ·exact .inl hb
     ·rw[List.mem_singleton.1 hp]at c9
      exact .inr ((sD b).1 c9)
    |k+1,hk=>simp at hk
   ·match k,l,hk,OH with
    |0,0,_,_=>exact absurd rfl j7
    |0,l+1,_,OH=>simp at OH
    |k+1,_,hk,_=>simp at hk
  ·rw[List.mem_singleton.1 hp]at hb⊢
   have bj:=dn.lt _ List.mem_cons_self b hb
   exact⟨Nat.lt_of_lt_of_le bj dy.size,.inr ⟨_,List.mem_cons_self,hb,.inl rfl⟩⟩
  ·rw[List.mem_singleton.1 hp,List.mem_singleton.1 hq]at kl;exact absurd rfl kl
 rcases dH.2 with⟨hv,hn⟩|⟨g,cap,cur,hv,_⟩
 ·have hx:xs=[]:=List.eq_nil_of_length_eq_zero hn
  have Fb:ys=[]:=List.eq_nil_of_length_eq_zero (by rw[hl,hx];rfl)
  refine(w5 hv w).mono ?_
  rintro e' w' ⟨rfl,hw⟩
  rw[hw]
  refine fin w (Ext.refl _ _) ?_
  rw[Fb,hv]
  exact fp.nil _ _ _ _
 ·refine(jh w g cap us hv dH ⟨_,cC⟩).mono ?_
  rintro e' w' ⟨rfl,F,q,os,hF,rfl,XD⟩
  rw[hv]at dH
  have ho:=Cl dH hF q os
  refine fin _ (Gl.yb fun b _ hb=>by rw[hv,hb];rfl) ⟨F.toList,by rw[hv,hl];exact ho,hy,fun i x hx j c hc=>?_⟩
  obtain⟨u,hu,hr⟩:=XD i x hx j c hc
  exact⟨u,by rw[Array.getElem?_toList];exact hu,hr _ _⟩
theorem L6{a:bD}{j:Nat}{c:CT}(h:(bD.cs a)[j]? =some c):∃u,(nc a)[j]? =some u∧∀w M,aV w M u c:=by
 match j,h with
 |0,h=>simp at h;subst h;exact⟨_,rfl,fun _ _=>aV.str _⟩
 |1,h=>simp at h;subst h;exact⟨_,rfl,fun _ _=>aV.int _ _⟩
 |2,h=>simp at h;subst h;exact⟨_,rfl,fun _ _=>aV.str _⟩
 |3,h=>simp at h;subst h;exact⟨_,rfl,fun _ _=>aV.int _ _⟩
 |j+4,h=>simp at h
theorem L7{a:bD}{w:World}{M:Nat→Prop}{j:Nat}{u:Value}{c:CT}(h:(bD.cs a)[j]? =some c)(hr:aV w M u c):(nc a)[j]? =some u:=by
 match j,h with
 |0,h=>simp at h;subst h;rw[aV.fR hr];rfl
 |1,h=>simp at h;subst h;rw[aV.cA hr];rfl
 |2,h=>simp at h;subst h;rw[aV.fR hr];rfl
 |3,h=>simp at h;subst h;rw[aV.cA hr];rfl
 |j+4,h=>simp at h
theorem zL{l:List bD}{i j:Nat}{a:bD}(hi:l[i]? =some a)(hj:j < 4):(flatK nc 4 l.toArray)[i * 4+j]? =(nc a)[j]? :=by
 obtain⟨sb,Je⟩:=List.getElem?_eq_some_iff.1 hi
 have ht:i * 4+j < l.toArray.size * 4:=by simp;omega
 have h1:=get_flatK nc 4 l.toArray (i * 4+j) ht
 have hs:i * 4+j < (flatK nc 4 l.toArray).size:=by rw[size_flatK];exact ht
 rw[getElem!_pos (flatK nc 4 l.toArray) (i * 4+j) hs]at h1
 rw[Array.getElem?_eq_getElem hs,h1,show(i * 4+j) / 4=i by omega,show(i * 4+j) % 4=j by omega]
 have h2:l.toArray[i]! =a:=by rw[getElem!_pos l.toArray i (by simpa using sb)];simpa using Je
 rw[h2]
 have h3:j < (nc a).length:=by simpa[nc]using hj
 rw[getElem!_pos (nc a) j h3,List.getElem?_eq_getElem h3]
theorem L2{l:List bD}{w:World}{M:Nat→Prop}{us:List Value}(hl:us.length=l.length * 4)
 (h:∀(i:Nat) (x:List CT),(l.map bD.cs)[i]? =some x→∀(j:Nat) (c:CT),x[j]? =some c→∃u:Value,us[i * 4+j]? =some u∧aV w M u c):us=(flatK nc 4 l.toArray).toList:=by
 apply List.ext_getElem?
 intro t
 by_cases ht:t < l.length * 4
 ·have hi:t / 4 < l.length:=by omega
  have hx:(l.map bD.cs)[t / 4]? =some (l[t / 4]).cs:=by simp[hi]
  have hc:∃c,(l[t / 4]).cs[t % 4]? =some c:=by
   have:t % 4 < 4:=by omega
   exact⟨_,List.getElem?_eq_getElem (by simpa using this)⟩
  obtain⟨c,hc⟩:=hc
  obtain⟨u,hu,hr⟩:=h _ _ hx _ _ hc
  have h1:=L7 hc hr
  have h2:=zL (l:=l) (List.getElem?_eq_getElem hi) (show t % 4 < 4 by omega)
  rw[show t / 4 * 4+t % 4=t by omega]at hu h2
  rw[hu,Array.getElem?_toList,h2,h1]
 ·rw[List.getElem?_eq_none (by omega),List.getElem?_eq_none (by rw[Array.length_toList,size_flatK];simpa using(by omega:l.length * 4≤t))]
theorem BU{l:List bD}{d':Array bD}(hd:(l.map bD.label).Nodup)(hp:PermIn 0 l.toArray.size l.toArray d')(hs:SortedIn (ltOf DE) 0 l.toArray.size d'):d'.toList=jr l:=by
 have cM:d'.size=l.length:=by simpa using hp.1
 have Lm:d'.toList.Perm l:=by
  have h1:=hp.2.2
  have h2:d'.extract 0 l.toArray.size=d':=by
   have:l.toArray.size=d'.size:=by rw[cM];simp
   rw[this];exact Array.extract_size
  rw[h2,show l.toArray.extract 0 l.toArray.size=l.toArray from Array.extract_size]at h1
  simpa using h1
 have WB:pq d'.toList:=by
  unfold pq
  rw[List.pairwise_iff_getElem]
  intro i j hi hj km
  have:=hs i j (Nat.zero_le _) km (by simpa[cM]using hj)
  rw[VB,getElem!_pos d' j (by simpa using hj),getElem!_pos d' i (by simpa using hi)]at this
  simpa using this
 rw[←NJ WB]
 exact(NK Lm.symm hd).symm
theorem Ge(v:Value)(l:List bD)(hd:(l.map bD.label).Nodup)(hl:l.length < 4611686018427387904):
 nV Tryz.prog 145 [(1,.bF 34 4 [(v,l.map bD.cs)])] [.one (.c (.val v)),.one (.kD 146 [])]
  (fun _:Unit=>True) (fun _=>.fo []) (fun _=>[(1,.bF 34 4 [(v,(jr l).map bD.cs)])]):=by
 refine xz (ev:=[.func (.func 146) #[] #[]]) (my (c:=_) Tryz.func145 rfl rfl)
  (fun x hx=>by obtain⟨a,_,rfl⟩:=List.mem_map.1 hx;rfl) (by rw[List.length_map,List.length_map,rP]) (fun I H Z w M vs hp=>?_) (fun hv w=>?_) (fun w g cap us hv dH cC=>?_)
 ·match vs,hp with
  |[u],hp=>
   obtain⟨u',mR,hr⟩:=hp.2 0 _ rfl
   simp only[List.getElem?_cons_zero,Option.some.injEq]at mR
   subst mR
   obtain⟨_,lK,h1,h2,_⟩:=hr
   have:lK=[]:=by simpa using h2
   subst this
   rw[h1]
  |[],hp=>have:=hp.1;simp at this
  |_::_::_,hp=>have:=hp.1;simp at this
 ·subst hv
  exact AnyF.slices_SortFunc_none Tryz.laysSortF none 0 _ w
 ·obtain⟨M,cC⟩:=cC
  have GJ:us=(flatK nc 4 l.toArray).toList:=L2 (by have:=dH.1;simpa using this) cC
  subst hv
  obtain⟨hblk,hH⟩:=nF dH
  have Z7:HoldsK nc 4 w g 0 l.toArray:=by
   unfold HoldsK
   rw[GJ]at hH
   simpa using hH
  have eg:∀args w,(callFunc 146 args).run Tryz.prog w=.ok (.enter 146 args) w:=enters_of Tryz.func146 (by kernel_rfl) rfl
  have cY:=AnyQ.slices_SortFunc Tryz.laysSortF 4 Tryz.isAgg34 Tryz.sizeOf34 nc (fun _=>rfl) (fun x v hv=>by simp[nc]at hv;rcases hv with rfl|rfl|rfl|rfl<;>rfl) DE V8 146 #[] g 0 cap l.toArray w eg (Ml g 0 _ w) Z7 hblk (by simpa using hl)
  simp only[List.size_toArray,List.length_map]at cY⊢
  refine cY.mono ?_
  rintro e' w' ⟨rfl,d',n,os,hp,hs,rfl⟩
  have uX:=BU hd (by simpa using hp) (by simpa using hs)
  have cM:d'.size=l.length:=by simpa using hp.1
  refine⟨rfl,flatK nc 4 d',n,os,by rw[GJ,Array.length_toList,size_flatK,size_flatK,cM];simp,rfl,fun i x hx j c hc=>?_⟩
  rw[←uX,List.getElem?_map]at hx
  cases hq:d'.toList[i]? with
  |none=>rw[hq]at hx;cases hx
  |some a=>
   rw[hq]at hx;injection hx with hx;subst hx
   have hj:j < 4:=by
    have:=(List.getElem?_eq_some_iff.1 hc).1
    simpa using this
   obtain⟨u,hu,hr⟩:=L6 hc
   refine⟨u,?_,hr⟩
   have:=zL (l:=d'.toList) hq hj
   simp only[Array.toArray_toList]at this
   rw[this,hu]
end Go.Sy
namespace Go.Sy
open Go.Proofs
set_option maxRecDepth 100000
attribute [local irreducible] SOps Goes DOps EOps FOps
theorem HK(l:List bD)(hd:(l.map bD.label).Nodup)(hl:l.length≤1000):
 I7 Tryz.prog 118 [C1 (fM l)] (fun _:Value=>True) (fun v=>.v (C1 (.val v))) (fun v=>[(34,4,[(v,(jr l).map bD.cs)])]):=by
 refine Bo (c:=_) Tryz.func118 rfl rfl rfl (by decide) fun w M0 H=>?_
 repeat'(first|refine aA ?_|(refine aB ?_ ?_<;>first|exact aD|(refine aE ?_;intro hb))|((first|refine gP rfl rfl rfl rfl ?_|refine vd (uA l (by omega)) [91] rfl rfl rfl rfl rfl rfl rfl rfl rfl (fun _=>rfl) (fun vA _=>?_)|refine iI (Ge vA l hd (by omega)) [(1,91)] rfl rfl rfl rfl ⟨rfl,trivial⟩ ⟨rfl,rfl,rfl,rfl,rfl⟩ (fun _=>⟨rfl,rfl,rfl,rfl,rfl,rfl,rfl⟩) (fun _=>rfl) (fun _=>rfl) rfl rfl rfl (fun _ _=>?_));refine ao th rfl ?_))
 exact xj th Tryz.func118 [91] vA (.inr ⟨_,rfl⟩) rfl rfl rfl rfl rfl rfl trivial
theorem JZ(l:List bD)(hd:(l.map bD.label).Nodup)(hl:l.length≤1000):er Tryz.prog 118 [] [C1 (fM l)] (Rv (fM (jr l))) []:=by
 refine bn (c:=_) Tryz.func118 rfl rfl rfl (by decide) fun w M0 H Z=>?_
 repeat'(first|refine aA ?_|(refine aB ?_ ?_<;>first|exact aD|(refine aE ?_;intro hb))|((first|refine gP rfl rfl rfl rfl ?_|refine vd (uA l (by omega)) [91] rfl rfl rfl rfl rfl rfl rfl rfl rfl (fun _=>rfl) (fun vA _=>?_)|refine iI (Ge vA l hd (by omega)) [(1,91)] rfl rfl rfl rfl ⟨rfl,trivial⟩ ⟨rfl,rfl,rfl,rfl,rfl⟩ (fun _=>⟨rfl,rfl,rfl,rfl,rfl,rfl,rfl⟩) (fun _=>rfl) (fun _=>rfl) rfl rfl rfl (fun _ _=>?_));refine ao th rfl ?_))
 refine pW 91 2 rfl rfl rfl rfl rfl ?_
 refine aZ th Tryz.func118 (.inr ⟨_,rfl⟩) rfl rfl rfl ?_ rfl
 exact .refl _
end Go.Sy
namespace Go.Sy
open Go.Proofs
set_option maxRecDepth 100000
attribute [local irreducible] SOps Goes DOps EOps
def qO(l:Loc):List Int:=if fP l then eT l.g else[]
theorem z7:∀(a b:List bD) (out:List Int),bW out (a++b)=bW (bW out a) b
 |[],_,_=>rfl
 |x::a,b,out=>by rw[List.cons_append,bW,bW,z7 a b]
theorem FX{rs:List bD}{j:Nat}(hj:j < rs.length)(out:List Int):
 bW out (rs.take (j+1))=if ks (bW out (rs.take j)) rs[j].next then bW out (rs.take j)else bW out (rs.take j)++[rs[j].next]:=by
 rw[List.take_succ_eq_append_getElem hj,z7,bW,bW]
 unfold ks
 by_cases h:rs[j].next∈bW out (rs.take j)<;>simp[h]
structure tP(g:x8)(i:Nat)(out:List Int):Prop where
 le:i≤out.length
 ok:Reached g out
 eq:Ji g (g.length+1 - i) i out=eT g
theorem tP.step{g:x8}{i:Nat}{out:List Int}(hg:TK g)(h:tP g i out)(bj:i < out.length):tP g (i+1) (bW out (jr (gu g out[i]))):=by
 have hlen:=h.ok.len
 have ho:=pe (jr (gu g out[i])) h.ok (fun a ha=>hg out[i] a (mH.1 ha))
 obtain⟨r,hr⟩:=jb (jr (gu g out[i])) out
 refine⟨by rw[hr,List.length_append];omega,ho,?_⟩
 have:=h.eq
 rw[show g.length+1 - i=(g.length+1 - (i+1))+1 by omega,Ji,List.getElem?_eq_getElem bj]at this
 exact this
theorem tP.done{g:x8}{out:List Int}(h:tP g out.length out):eT g=out:=by
 have hlen:=h.ok.len
 have:=h.eq
 rw[show g.length+1 - out.length=(g.length - out.length)+1 by omega,Ji,List.getElem?_eq_none (Nat.le_refl _)]at this
 exact this.symm
theorem yI{l:Loc}{x:Int}(h:0≤x∧x < (l.turns.length:Int)):(l.turns.map jk.cs)[x.toNat]? =some (dc l x).cs:=by
 have hx:x.toNat < l.turns.length:=by omega
 rw[List.getElem?_map,List.getElem?_eq_getElem hx]
 simp[dc,hx]
theorem tY{l:Loc}(h:fP l=true)(x:Int):((dc l x).ax.map bD.label).Nodup∧(dc l x).ax.length≤6:=by
 have h1:=qG h x
 rw[iQ]at h1
 rcases h1 with h1|h1
 ·rw[h1];simp
 ·have:=dx h1
  exact⟨this.2.2,this.1.2⟩
theorem Jx(l:Loc)(hs:pt l):er Tryz.prog 117 [] [Ag l.cs] (Rv (ch (qO l))) []:=by
 refine bn (c:=_) Tryz.func117 rfl rfl rfl (by decide) fun w M0 H Z=>?_
 repeat'(first|refine aA ?_|(refine aB ?_ ?_<;>first|exact aD|(refine aE ?_;intro hb))|refine aZ th Tryz.func117 (.inr ⟨_,rfl⟩) rfl rfl rfl ?_ rfl|((first|refine aR (An l hs) [] rfl rfl rfl rfl rfl rfl rfl rfl rfl rfl ?_|refine gP rfl rfl rfl rfl ?_|refine Ap th (m:=[]) (.inr rfl) rfl rfl rfl rfl rfl rfl rfl rfl ?_);refine ao th rfl ?_))
 ·rw[show qO l=[] by unfold qO;rw[hb];rfl]
  exact .v (.one (.c (.nil 1)))
 have hv:=hb
 obtain⟨hg,h0,hu⟩:=GD hv
 have WU:=(l8 hv).2
 have Dh:l.g.length=l.turns.length:=by simp[Loc.g]
 refine fz (fun(i:Nat) (out:List Int)=>tP l.g i out)
  (fun i _=>[(1,.v (.one (.ptr 1 0))),(3,.v (.one (.own 11))),(4,.v (.one (.mp 12))),(5,.v (C1 (.int .i64 (i:Int))))])
  (fun _ out=>[(12,.fw (dI tf (qJ out))),(11,.arr false 3 1 (out.map fun r=>[CT.int .i64 r])),(1,.box (l.cs.map SC.c))])
  (fun i _=>l.g.length+1 - i) 0 [0] ⟨Nat.zero_le _,⟨by simp,fun x hx=>by simp at hx;subst hx;omega⟩,rfl⟩
  aH (fun i out hI ih=>?_)
 have hlen:=hI.ok.len
 have hle:=hI.le
 by_cases bj:i < out.length
 ·have VG:(out.map fun r=>[CT.int .i64 r])[i]? =some [.int .i64 out[i]]:=by simp[bj]
  have yo:=hI.ok.range out[i] (List.getElem_mem bj)
  rw[Dh]at yo
  have Ul:=yI yo
  have mB:=tY hv out[i]
  have cZ:=hI.step hg bj
  rw[iQ]at cZ
  have VL:∀a∈jr (dc l out[i]).ax,0≤a.next∧a.next < (l.g.length:Int):=fun a ha=>hg out[i] a (by rw[iQ];exact mH.1 ha)
  repeat'(first|refine aA ?_|(refine aB ?_ ?_<;>first|exact aD|(refine aE ?_;intro hb))|((first|(refine Bn th rfl rfl rfl rfl rfl rfl rfl rfl rfl rfl i rfl (by rw[List.length_map];omega) ?_)|refine vz th _ rfl rfl rfl rfl VG rfl rfl rfl rfl rfl ?_|refine qx th rfl rfl rfl rfl rfl rfl rfl rfl rfl (out[i]).toNat _ (by omega) Ul ?_|refine mw (JZ (dc l out[i]).ax mB.1 (by omega)) [] rfl rfl rfl rfl rfl rfl rfl rfl rfl rfl rfl ?_);refine dP th rfl ?_))
  obtain⟨rs,Lg⟩:∃rs,rs=jr (dc l out[i]).ax:=⟨_,rfl⟩
  rw[←Lg]at cZ VL
  have BF:rs.length≤6:=by rw[Lg,rP];exact mB.2
  refine bE (fun j:Nat=>j≤rs.length)
   (fun j=>[(1,.v (.one (.ptr 1 0))),(3,.v (.one (.own 11))),(4,.v (.one (.mp 12))),(5,.v (C1 (.int .i64 (i:Int)))),(29,.v (C1 (fM rs))),(30,.v (C1 (.int .i64 (rs.length:Int)))),(31,.v (C1 (.int .i64 (j:Int))))])
   (fun j=>[(12,.fw (dI tf (qJ (bW out (rs.take j))))),(11,.arr false 3 1 ((bW out (rs.take j)).map fun r=>[CT.int .i64 r])),(1,.box (l.cs.map SC.c))])
   (fun j=>rs.length - j) 0 (Nat.zero_le _)
   (aH (h1:=by exact⟨⟨_,rfl,.refl _⟩,⟨_,rfl,.refl _⟩,⟨_,rfl,.refl _⟩,⟨_,rfl,.refl _⟩,⟨_,rfl,fx (by rw[Lg])⟩,⟨_,rfl,eM (by rw[Lg];simp)⟩,⟨_,rfl,eM rfl⟩,trivial⟩)) (fun j hj n9=>?_)
  by_cases IB:j < rs.length
  ·have RH:(rs.map bD.cs)[j]? =some (rs[j]).cs:=by simp[IB]
   have b6:Reached l.g (bW out (rs.take j)):=pe _ hI.ok fun a ha=>VL a (List.mem_of_mem_take ha)
   have hokl:(bW out (rs.take j)).length≤40:=by have:=b6.len;rw[Dh]at this;omega
   have C8:=FX IB out
   have jS:dE (qJ (bW out (rs.take j))) rs[j].next (.bool false)=.bool (ks (bW out (rs.take j)) rs[j].next):=yU _ _
   obtain⟨mb,Tv⟩:∃mb,ks (bW out (rs.take j)) rs[j].next=mb:=⟨_,rfl⟩
   rw[Tv]at jS C8
   repeat'(first|refine aA ?_|(refine aB ?_ ?_<;>first|exact aD|(refine aE ?_;intro hb))|((first|refine bO th rfl rfl rfl rfl rfl rfl rfl rfl rfl j _ rfl RH ?_|(refine Aq th (m:=qJ (bW out (rs.take j))) rfl rfl rfl rfl rfl rfl rfl rfl rfl rfl rfl rfl ?_;rw[jS])|refine Ap th (m:=qJ (bW out (rs.take j))) (.inl rfl) rfl rfl rfl rfl rfl rfl rfl rfl ?_);refine ao th rfl ?_)|(refine eo th rfl rfl rfl rfl rfl rfl rfl rfl rfl rfl rfl rfl rfl rfl rfl (by constructor<;>simp<;>omega) ?_;refine ao th rfl ?_)|(refine bH rfl rfl rfl rfl rfl rfl (by omega) ?_;refine ao th rfl ?_))
   ·have cT:=n9 (j+1) IB (by omega)
    rw[hb]at C8 Tv
    rw[C8]at cT
    exact aS (h2:=by exact⟨⟨_,rfl,tc (by rw[BZ (mK Tv)];rfl)⟩,⟨_,rfl,fE (by simp)⟩,⟨_,rfl,.refl _⟩,trivial⟩) cT
   ·have cT:=n9 (j+1) IB (by omega)
    rw[hb]at C8
    rw[C8]at cT
    exact aS cT
  ·have Lz:j=rs.length:=by omega
   subst Lz
   rw[List.take_length]
   repeat'(first|refine aA ?_|(refine aB ?_ ?_<;>first|exact aD|(refine aE ?_;intro hb))|(refine bH rfl rfl rfl rfl rfl rfl (by omega) ?_;refine ao th rfl ?_))
   have cT:=ih (i+1) (bW out rs) cZ (by omega)
   exact aS cT
 ·have OO:i=out.length:=by omega
  subst OO
  have vp:qO l=out:=by unfold qO;rw[if_pos hv];exact hI.done
  repeat'(first|refine aA ?_|(refine aB ?_ ?_<;>first|exact aD|(refine aE ?_;intro hb))|refine aZ th Tryz.func117 (.inr ⟨_,rfl⟩) rfl rfl rfl ?_ rfl|(refine dY 11 rfl rfl ?_))
  rw[vp]
  exact .refl _
end Go.Sy
