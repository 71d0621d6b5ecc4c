/- Contracts of the reference, bundle Bu3. -/
import Derived.Shelf.SlSortCmp.NoneTotal
import Derived.WalkKit
import Derived.Test.YtdjocfajcbhmgaaGreatDoorLayq
import Derived.Test.YtdjocfajcbhmgaaGreatDoorBl1
import Derived.Test.YtdjocfajcbhmgaaGreatDoorSy8
import Derived.Test.YtdjocfajcbhmgaaGreatDoorBn1
import Derived.Test.YtdjocfajcbhmgaaGreatDoorBu2
namespace Go.Proofs
set_option linter.unusedSimpArgs false
set_option linter.unusedVariables false
open Go.Shelf Go.RowKit Go.Lib Go.Sort Go.Sy
def qH(x y:ByteArray):Int:=if gL x y then -1 else if gL y x then 1 else 0
theorem NJ(x:ByteArray)(w:World):Calls Tryz.prog 134 #[.string x] w fun e w'=>e=.returned (.bool false)∧w'=w:=by
 go_enter Tryz.func134,Tryz.ntmps134
 go_wp2
 go_ret
 exact⟨rfl,rfl⟩
set_option maxHeartbeats 1000000 in
theorem IZ(x y:ByteArray)(w:World):Calls Tryz.prog 147 #[.string x,.string y] w fun e w'=>e=.returned (.int .i64 (qH x y))∧w'=w:=by
 have hn:=NJ
 cases h1:Op.bytesLess x.toList y.toList with
 |true=>
  have hc:qH x y=-1:=by unfold qH gL;rw[if_pos h1]
  rw[hc];clear hc
  go_enter Tryz.func147,Tryz.ntmps147
  go_wp2_with (go_at_call 134;refine(hn _ _).mono ?_;rintro e w' ⟨rfl,rfl⟩)
  all_goals go_ret
  all_goals exact⟨rfl,rfl⟩
 |false=>
  cases h2:Op.bytesLess y.toList x.toList with
  |true=>
   have hc:qH x y=1:=by unfold qH gL;rw[if_neg (by rw[h1];decide),if_pos h2]
   have h3:¬x=y:=fun e=>by subst e;rw[h1]at h2;cases h2
   have h4:¬x.toList=y.toList:=fun e=>h3 (o7 e)
   have h5:(x.toList==y.toList)=false:=by simpa using h4
   have hb:∀w,(binOp BinOp.gtr 9 (.string x) (.string y)).run Tryz.prog w=.ok (.bool true) w:=fun w=>by simp[binOp,Op.stringOp,eqGuard,h1,h5]
   rw[hc];clear hc
   go_enter Tryz.func147,Tryz.ntmps147
   go_wp2_with (go_at_call 134;refine(hn _ _).mono ?_;rintro e w' ⟨rfl,rfl⟩)
   all_goals first|(go_ret;exact⟨rfl,rfl⟩)|trace_state
  |false=>
   have hc:qH x y=0:=by unfold qH gL;rw[if_neg (by rw[h1];decide),if_neg (by rw[h2];decide)]
   obtain rfl:x=y:=sW h1 h2
   have hb:∀w,(binOp BinOp.gtr 9 (.string x) (.string x)).run Tryz.prog w=.ok (.bool false) w:=fun w=>by simp[binOp,Op.stringOp,eqGuard,h1]
   rw[hc];clear hc
   go_enter Tryz.func147,Tryz.ntmps147
   go_wp2_with (go_at_call 134;refine(hn _ _).mono ?_;rintro e w' ⟨rfl,rfl⟩)
   all_goals first|(go_ret;exact⟨rfl,rfl⟩)|trace_state
instance:Inhabited bM:=⟨⟨⟨#[]⟩,0,⟨#[]⟩,0⟩⟩
def mf(a:bM):List Value:=[.string a.label,.int .i64 a.kind,.string a.name,.int .i64 a.next]
abbrev A5(x y:bM):Int:=qH x.label y.label
theorem RN(x y:bM):ltOf A5 x y=gL x.label y.label:=by
 unfold ltOf A5 qH
 cases h1:gL x.label y.label
 ·cases h2:gL y.label x.label<;>simp[h1,h2]
 ·simp
theorem Sl:SWO (ltOf A5) where
 irrefl x:=by rw[RN];exact lf _
 trans x y z h1 h2:=by rw[RN]at *;exact gu h1 h2
 ntrans x y z h1 h2:=by
  rw[RN]at *
  cases h3:gL x.label z.label with
  |false=>rfl
  |true=>
   exfalso
   cases h4:gL y.label x.label with
   |true=>
    have:=gu h4 h3
    rw[this]at h2;cases h2
   |false=>
    have:=sW h1 h4
    rw[this,h2]at h3;cases h3
set_option maxHeartbeats 1000000 in
theorem J3(x y:bM)(W:World):Calls Tryz.prog 146 #[.agg (mf x).toArray,.agg (mf y).toArray] W fun e w'=>e=.returned (.int .i64 (A5 x y))∧∃q Vj,w'=grow (W.drewN q) Vj:=by
 have dB:=fun W'=>IZ x.label y.label W'
 unfold A5
 generalize qH x.label y.label=r at dB⊢
 unfold mf
 go_enter Tryz.func146,Tryz.ntmps146
 go_wp2_with (go_at_call 147;refine(dB _).mono ?_;rintro e w' ⟨rfl,rfl⟩)
 go_ret
 exact⟨rfl,0,_,by rw[alloc_eq_grow,alloc_eq_grow,grow_grow];rfl⟩
theorem I0(WQ off size:Nat)(w:World):CmpLays Tryz.prog 146 #[] mf 4 A5 WQ off size w:=
 fun _ _ _ _ x y=>J3 x y _
end Go.Proofs
set_option linter.unusedSimpArgs false
set_option linter.unusedVariables false
set_option linter.unusedSectionVars false
namespace Go.Sy
open Go.Proofs Go.Shelf Go.RowKit Go.Sort
theorem pv{w:World}{e sz g n cap:Nat}{us:List Value}(h:w.ownsRow 0 e sz (.slice (some ⟨g,0,none⟩) n cap) n us):g < w.heap.size∧Holds id w g 0 us.toArray:=by
 rcases h.2 with⟨e0,_⟩|⟨g',I6,cur,e0,hb,hg,hn,hm,hs,ht⟩
 ·cases e0
 ·cases e0
  have bo:g < w.heap.size:=by
   rcases Nat.lt_or_ge g w.heap.size with h'|h'
   ·exact h'
   ·rw[Array.getElem?_eq_none h']at hg;cases hg
  refine⟨bo,fun j hj=>⟨?_,by simp[World.frozen?,hg]⟩⟩
  have AI:j < us.length:=by simpa using hj
  have Tn:j < n * sz:=by rw[←h.1];exact AI
  have e1:(cur.toList.take (n * sz))[j]? =us[j]? :=by rw[ht]
  rw[List.getElem?_take,if_pos Tn,Array.getElem?_toList,List.getElem?_eq_getElem AI]at e1
  simp only[World.cell?,hg,Nat.zero_add,Option.isSome_none,Bool.false_eq_true,if_false]
  rw[e1]
  simp[getElem!_pos,AI]
theorem GU{w:World}{g q:Nat}{F:Array Value}{os:Array Obj}{cur:Array Value}{e:TypeId}(hg:w.heap[g]? =some (.cells cur e (0,0))):
 (grow (putRow id (Sort.ahead w q) g 0 F) os).heap[g]? =some (.cells (putCells id 0 F cur) e (0,0)):=by
 have bo:g < w.heap.size:=by
  rcases Nat.lt_or_ge g w.heap.size with h'|h'
  ·exact h'
  ·rw[Array.getElem?_eq_none h']at hg;cases hg
 rw[heap_grow_old _ _ (by simpa[putRow,mapBlock,Sort.ahead]using bo)]
 simp[putRow,mapBlock,Sort.ahead,Array.getElem?_modify,hg,onCells]
theorem zI{w:World}{e sz g n cap:Nat}{us:List Value}(h:w.ownsRow 0 e sz (.slice (some ⟨g,0,none⟩) n cap) n us){F:Array Value}(hF:F.size=us.length)(q:Nat)(os:Array Obj):
 (grow (putRow id (Sort.ahead w q) g 0 F) os).ownsRow 0 e sz (.slice (some ⟨g,0,none⟩) n cap) n F.toList:=by
 rcases h.2 with⟨e0,_⟩|⟨g',I6,cur,e0,hb,hg,hn,hm,hs,ht⟩
 ·cases e0
 ·cases e0
  have rK:us.length=n * sz:=h.1
  have RW:n * sz≤cur.size:=by rw[hs];exact Nat.mul_le_mul_right sz hn
  refine⟨by rw[Array.length_toList,hF,rK],.inr ⟨g,cap,_,rfl,hb,GU hg,hn,hm,by simpa[putCells]using hs,?_⟩⟩
  apply List.ext_getElem?
  intro j
  rw[List.getElem?_take]
  by_cases hj:j < n * sz
  ·have V2:j < cur.size:=by omega
   have V3:j < F.size:=by omega
   rw[if_pos hj,Array.getElem?_toList,Array.getElem?_toList]
   simp[putCells,V2,V3,getElem!_pos]
  ·rw[if_neg hj,Array.getElem?_toList,Array.getElem?_eq_none (by omega)]
theorem Dv{w:World}{g q:Nat}{F:Array Value}{os:Array Obj}:Ext (fun b=>b=g) w (grow (putRow id (Sort.ahead w q) g 0 F) os):=by
 refine⟨rfl,rfl,rfl,by simp[putRow,mapBlock,Sort.ahead],fun k hk cj=>?_⟩
 rw[heap_grow_old _ _ (by simpa[putRow,mapBlock,Sort.ahead]using hk)]
 simp only[putRow,mapBlock,Sort.ahead,Array.getElem?_modify,if_neg (fun e:g=k=>cj e.symm)]
theorem A3{P:Program}{f:FuncId}{e sz:Nat}{v:Value}{xs ys:List (List CT)}{more:List SV}{ev:List Value}(b7:kQ P f)
 (hy:∀x∈ys,x.length=sz)(hl:ys.length=xs.length)
 (Wc:∀(I:Nat→Prop) (H:Nat→Value) (Z:Nat→Nat) (w:World) (M:Nat→Prop) (vs:List Value),Pw (fun v s=>cF I H Z w M v s) vs more→vs=ev)
 (nI:v=.slice none 0 0→∀w,Calls P f (v::ev).toArray w fun e w'=>e=.returned (.tuple #[])∧w'=w)
 (lB:∀(w:World) (g cap:Nat) (us:List Value),v=.slice (some ⟨g,0,none⟩) xs.length cap→w.ownsRow 0 e sz v xs.length us→
   (∃M:Nat→Prop,∀(i:Nat) (x:List CT),xs[i]? =some x→∀(j:Nat) (c:CT),x[j]? =some c→∃u:Value,us[i * sz+j]? =some u∧a7 w M u c)→
   Calls P f (v::ev).toArray w fun e w'=>e=.returned (.tuple #[])∧∃(F:Array Value) (q:Nat) (os:Array Obj),F.size=us.length∧w'=grow (putRow id (Sort.ahead w q) g 0 F) os∧
    ∀(i:Nat) (x:List CT),ys[i]? =some x→∀(j:Nat) (c:CT),x[j]? =some c→∃u:Value,F[i * sz+j]? =some u∧∀w M,a7 w M u c):
 r5 P f [(1,.bG e sz [(v,xs)])] (.one (.c (.val v))::more) (fun _:Unit=>True) (fun _=>.gE []) (fun _=>[(1,.bG e sz [(v,ys)])]):=by
 refine⟨b7,fun w M0 H Z vs dp cE=>?_⟩
 obtain⟨v0,vs,rfl⟩:∃v0 lN,vs=v0::lN:=by
  cases vs with
  |nil=>have:=cE.1;simp at this
  |cons a l=>exact⟨a,l,rfl⟩
 obtain⟨u0,NQ,Qq⟩:=cE.2 0 _ rfl
 simp only[List.getElem?_cons_zero,Option.some.injEq]at NQ
 subst NQ
 have NP:v0=v:=a7.iM Qq
 subst NP
 have Vy:vs=ev:=Wc _ _ _ _ _ _ ⟨by have:=cE.1;simpa using this,fun j c hc=>by
  obtain⟨u,hu,hr⟩:=cE.2 (j+1) c (by simpa using hc)
  exact⟨u,by simpa using hu,hr⟩⟩
 subst Vy
 obtain⟨hH,dj⟩:=dp.mem (1,.bG e sz [(v0,xs)]) List.mem_cons_self
 simp only at hH dj
 obtain⟨us,dF,hlen,cL⟩:=dj.row (k:=0) rfl
 have qU:∀b,Hb (H 1) b↔hblk v0=some b:=fun b=>by
  rw[hH]
  show Hb (eA [(v0,xs)]) b↔_
  rw[cO];simp
 have CD:∀b,bP H [(1,MO.bG e sz [(v0,xs)])] b↔hblk v0=some b:=fun b=>by
  constructor
  ·rintro⟨p,hp,cC⟩
   rw[List.mem_singleton.1 hp]at cC
   exact(qU b).1 cC
  ·exact fun h=>⟨_,List.mem_cons_self,(qU b).2 h⟩
 have fin:∀w',Ext (fun b=>hblk v0=some b) w w'→eM w' (fun b=>M0 b∨hblk v0=some b) e sz v0 ys→FM H Z [(1,.bG e sz [(v0,xs)])] (fun _:Unit=>True) (fun _=>.gE []) (fun _=>[(1,.bG e sz [(v0,ys)])]) w M0 (.returned (.tuple #[])) w':=by
  intro w' ec H2
  refine⟨(),.tuple #[],H,trivial,rfl,ec.xB fun b _ hb=>(CD b).2 hb,⟨fun _ _ _=>rfl,fun p hp=>?_,fun p hp b hb=>?_,fun p hp q hq jl=>?_⟩,⟨#[],rfl,rfl,fun j c hc=>by simp at hc⟩⟩
  ·rw[List.mem_singleton.1 hp]
   refine⟨hH,fun k q hk=>?_,fun k l q r hk K2 kl=>?_⟩
   ·match k,hk with
    |0,hk=>
     simp only[List.getElem?_cons_zero,Option.some.injEq]at hk;subst hk
     refine eM.mono (v:=v0) (xs:=ys) H2 (fun _ _=>rfl) (Nat.le_refl _) (fun _ _ _=>rfl) fun b _ hb=>?_
     rcases hb with hb|⟨p,hp,cC⟩
     ·exact .inl hb
     ·rw[List.mem_singleton.1 hp]at cC
      exact .inr ((qU b).1 cC)
    |k+1,hk=>simp at hk
   ·match k,l,hk,K2 with
    |0,0,_,_=>exact absurd rfl kl
    |0,l+1,_,K2=>simp at K2
    |k+1,_,hk,_=>simp at hk
  ·rw[List.mem_singleton.1 hp]at hb⊢
   have bo:=dp.lt _ List.mem_cons_self b hb
   exact⟨Nat.lt_of_lt_of_le bo ec.size,.inr ⟨_,List.mem_cons_self,hb,.inl rfl⟩⟩
  ·rw[List.mem_singleton.1 hp,List.mem_singleton.1 hq]at jl;exact absurd rfl jl
 rcases dF.2 with⟨hv,hn⟩|⟨g,cap,cur,hv,_⟩
 ·have hx:xs=[]:=List.eq_nil_of_length_eq_zero hn
  have Cq:ys=[]:=List.eq_nil_of_length_eq_zero (by rw[hl,hx];rfl)
  refine(nI hv w).mono ?_
  rintro e' w' ⟨rfl,hw⟩
  rw[hw]
  refine fin w (Ext.refl _ _) ?_
  rw[Cq,hv]
  exact eM.nil _ _ _ _
 ·refine(lB w g cap us hv dF ⟨_,cL⟩).mono ?_
  rintro e' w' ⟨rfl,F,q,os,hF,rfl,T8⟩
  rw[hv]at dF
  have ho:=zI dF hF q os
  refine fin _ (Dv.xB fun b _ hb=>by rw[hv,hb];rfl) ⟨F.toList,by rw[hv,hl];exact ho,hy,fun i x hx j c hc=>?_⟩
  obtain⟨u,hu,hr⟩:=T8 i x hx j c hc
  exact⟨u,by rw[Array.getElem?_toList];exact hu,hr _ _⟩
theorem IL{a:bM}{j:Nat}{c:CT}(h:(bM.cs a)[j]? =some c):∃u,(mf a)[j]? =some u∧∀w M,a7 w M u c:=by
 match j,h with
 |0,h=>simp at h;subst h;exact⟨_,rfl,fun _ _=>a7.str _⟩
 |1,h=>simp at h;subst h;exact⟨_,rfl,fun _ _=>a7.int _ _⟩
 |2,h=>simp at h;subst h;exact⟨_,rfl,fun _ _=>a7.str _⟩
 |3,h=>simp at h;subst h;exact⟨_,rfl,fun _ _=>a7.int _ _⟩
 |j+4,h=>simp at h
theorem IM{a:bM}{w:World}{M:Nat→Prop}{j:Nat}{u:Value}{c:CT}(h:(bM.cs a)[j]? =some c)(hr:a7 w M u c):(mf a)[j]? =some u:=by
 match j,h with
 |0,h=>simp at h;subst h;rw[a7.fo hr];rfl
 |1,h=>simp at h;subst h;rw[a7.cH hr];rfl
 |2,h=>simp at h;subst h;rw[a7.fo hr];rfl
 |3,h=>simp at h;subst h;rw[a7.cH hr];rfl
 |j+4,h=>simp at h
theorem xe{l:List bM}{i j:Nat}{a:bM}(hi:l[i]? =some a)(hj:j < 4):(flatK mf 4 l.toArray)[i * 4+j]? =(mf a)[j]? :=by
 obtain⟨vK,V6⟩:=List.getElem?_eq_some_iff.1 hi
 have ht:i * 4+j < l.toArray.size * 4:=by simp;omega
 have h1:=get_flatK mf 4 l.toArray (i * 4+j) ht
 have hs:i * 4+j < (flatK mf 4 l.toArray).size:=by rw[size_flatK];exact ht
 rw[getElem!_pos (flatK mf 4 l.toArray) (i * 4+j) hs]at h1
 rw[Array.getElem?_eq_getElem hs,h1,show(i * 4+j) / 4=i by omega,show(i * 4+j) % 4=j by omega]
 have h2:l.toArray[i]! =a:=by rw[getElem!_pos l.toArray i (by simpa using vK)];simpa using V6
 rw[h2]
 have h3:j < (mf a).length:=by simpa[mf]using hj
 rw[getElem!_pos (mf a) j h3,List.getElem?_eq_getElem h3]
theorem IH{l:List bM}{w:World}{M:Nat→Prop}{us:List Value}(hl:us.length=l.length * 4)
 (h:∀(i:Nat) (x:List CT),(l.map bM.cs)[i]? =some x→∀(j:Nat) (c:CT),x[j]? =some c→∃u:Value,us[i * 4+j]? =some u∧a7 w M u c):us=(flatK mf 4 l.toArray).toList:=by
 apply List.ext_getElem?
 intro t
 by_cases ht:t < l.length * 4
 ·have hi:t / 4 < l.length:=by omega
  have hx:(l.map bM.cs)[t / 4]? =some (l[t / 4]).cs:=by simp[hi]
  have hc:∃c,(l[t / 4]).cs[t % 4]? =some c:=by
   have:t % 4 < 4:=by omega
   exact⟨_,List.getElem?_eq_getElem (by simpa using this)⟩
  obtain⟨c,hc⟩:=hc
  obtain⟨u,hu,hr⟩:=h _ _ hx _ _ hc
  have h1:=IM hc hr
  have h2:=xe (l:=l) (List.getElem?_eq_getElem hi) (show t % 4 < 4 by omega)
  rw[show t / 4 * 4+t % 4=t by omega]at hu h2
  rw[hu,Array.getElem?_toList,h2,h1]
 ·rw[List.getElem?_eq_none (by omega),List.getElem?_eq_none (by rw[Array.length_toList,size_flatK];simpa using(by omega:l.length * 4≤t))]
theorem zb{l:List bM}{d':Array bM}(hd:(l.map bM.label).Nodup)(hp:PermIn 0 l.toArray.size l.toArray d')(hs:SortedIn (ltOf A5) 0 l.toArray.size d'):d'.toList=fC l:=by
 have c8:d'.size=l.length:=by simpa using hp.1
 have Qv:d'.toList.Perm l:=by
  have h1:=hp.2.2
  have h2:d'.extract 0 l.toArray.size=d':=by
   have:l.toArray.size=d'.size:=by rw[c8];simp
   rw[this];exact Array.extract_size
  rw[h2,show l.toArray.extract 0 l.toArray.size=l.toArray from Array.extract_size]at h1
  simpa using h1
 have S0:n4 d'.toList:=by
  unfold n4
  rw[List.pairwise_iff_getElem]
  intro i j hi hj j1
  have:=hs i j (Nat.zero_le _) j1 (by simpa[c8]using hj)
  rw[RN,getElem!_pos d' j (by simpa using hj),getElem!_pos d' i (by simpa using hi)]at this
  simpa using this
 rw[←Dt S0]
 exact(J5 Qv.symm hd).symm
theorem Dm(v:Value)(l:List bM)(hd:(l.map bM.label).Nodup)(hl:l.length < 4611686018427387904):
 r5 Tryz.prog 145 [(1,.bG 34 4 [(v,l.map bM.cs)])] [.one (.c (.val v)),.one (.ku 146 [])]
  (fun _:Unit=>True) (fun _=>.gE []) (fun _=>[(1,.bG 34 4 [(v,(fC l).map bM.cs)])]):=by
 refine A3 (ev:=[.func (.func 146) #[] #[]]) (nR (c:=_) Tryz.func145 rfl rfl)
  (fun x hx=>by obtain⟨a,_,rfl⟩:=List.mem_map.1 hx;rfl) (by rw[List.length_map,List.length_map,qc]) (fun I H Z w M vs hp=>?_) (fun hv w=>?_) (fun w g cap us hv dF cL=>?_)
 ·match vs,hp with
  |[u],hp=>
   obtain⟨u',lY,hr⟩:=hp.2 0 _ rfl
   simp only[List.getElem?_cons_zero,Option.some.injEq]at lY
   subst lY
   obtain⟨_,lN,h1,h2,_⟩:=hr
   have:lN=[]:=by simpa using h2
   subst this
   rw[h1]
  |[],hp=>have:=hp.1;simp at this
  |_::_::_,hp=>have:=hp.1;simp at this
 ·subst hv
  exact AnyF.slices_SortFunc_none Tryz.laysSortF none 0 _ w
 ·obtain⟨M,cL⟩:=cL
  have Jw:us=(flatK mf 4 l.toArray).toList:=IH (by have:=dF.1;simpa using this) cL
  subst hv
  obtain⟨hblk,hH⟩:=pv dF
  have WG:HoldsK mf 4 w g 0 l.toArray:=by
   unfold HoldsK
   rw[Jw]at hH
   simpa using hH
  have eg:∀args w,(callFunc 146 args).run Tryz.prog w=.ok (.enter 146 args) w:=enters_of Tryz.func146 (by kernel_rfl) rfl
  have dB:=AnyQ.slices_SortFunc Tryz.laysSortF 4 Tryz.isAgg34 Tryz.sizeOf34 mf (fun _=>rfl) (fun x v hv=>by simp[mf]at hv;rcases hv with rfl|rfl|rfl|rfl<;>rfl) A5 Sl 146 #[] g 0 cap l.toArray w eg (I0 g 0 _ w) WG hblk (by simpa using hl)
  simp only[List.size_toArray,List.length_map]at dB⊢
  refine dB.mono ?_
  rintro e' w' ⟨rfl,d',n,os,hp,hs,rfl⟩
  have F0:=zb hd (by simpa using hp) (by simpa using hs)
  have c8:d'.size=l.length:=by simpa using hp.1
  refine⟨rfl,flatK mf 4 d',n,os,by rw[Jw,Array.length_toList,size_flatK,size_flatK,c8];simp,rfl,fun i x hx j c hc=>?_⟩
  rw[←F0,List.getElem?_map]at hx
  cases hq:d'.toList[i]? with
  |none=>rw[hq]at hx;cases hx
  |some a=>
   rw[hq]at hx;injection hx with hx;subst hx
   have hj:j < 4:=by
    have:=(List.getElem?_eq_some_iff.1 hc).1
    simpa using this
   obtain⟨u,hu,hr⟩:=IL hc
   refine⟨u,?_,hr⟩
   have:=xe (l:=d'.toList) hq hj
   simp only[Array.toArray_toList]at this
   rw[this,hu]
end Go.Sy
namespace Go.Sy
open Go.Proofs
set_option maxRecDepth 100000
attribute [local irreducible] SOps Goes DOps EOps FOps
theorem Ew(l:List bM)(hd:(l.map bM.label).Nodup)(hl:l.length≤1000):
 vR Tryz.prog 118 [C1 (kc l)] (fun _:Value=>True) (fun v=>.v (C1 (.val v))) (fun v=>[(34,4,[(v,(fC l).map bM.cs)])]):=by
 refine oH (c:=_) Tryz.func118 rfl rfl rfl (by decide) fun w M0 H=>?_
 repeat'(first|refine bH rfl ?_|(refine al ?_;refine aj th rfl ?_)|(refine au mix rfl rfl ?_;refine ak th rfl ?_)|(refine ao mix rfl rfl ?_;refine ay th rfl ?_)|refine SOps.nil ?_|refine DOps.nil ?_|refine EOps.nil ?_ rfl rfl|((first|refine aq rfl rfl ?_ ?_|refine av rfl rfl rfl ?_ ?_|refine aU rfl ?_ ?_)<;>intro hb<;>(try simp only[aF]at hb)<;>first|(exfalso;omega)|refine aj th rfl ?_|refine ak th rfl ?_|skip)|((first|refine dV rfl rfl rfl rfl ?_|refine mu (sC l (by omega)) [91] rfl rfl rfl rfl rfl rfl rfl rfl rfl (fun _=>rfl) (fun vA _=>?_)|refine qa (Dm vA l hd (by omega)) [(1,91)] rfl rfl rfl rfl ⟨rfl,trivial⟩ ⟨rfl,rfl,rfl,rfl,rfl⟩ (fun _=>⟨rfl,rfl,rfl,rfl,rfl,rfl,rfl⟩) (fun _=>rfl) (fun _=>rfl) rfl rfl rfl (fun _ _=>?_));refine aj th rfl ?_))
 exact lE th Tryz.func118 [91] vA (.inr ⟨_,rfl⟩) rfl rfl rfl rfl rfl rfl trivial
theorem GM(l:List bM)(hd:(l.map bM.label).Nodup)(hl:l.length≤1000):dy Tryz.prog 118 [] [C1 (kc l)] (Rv (kc (fC l))) []:=by
 refine bd (c:=_) Tryz.func118 rfl rfl rfl (by decide) fun w M0 H Z=>?_
 repeat'(first|refine bH rfl ?_|(refine al ?_;refine aj th rfl ?_)|(refine au mix rfl rfl ?_;refine ak th rfl ?_)|(refine ao mix rfl rfl ?_;refine ay th rfl ?_)|refine SOps.nil ?_|refine DOps.nil ?_|refine EOps.nil ?_ rfl rfl|((first|refine aq rfl rfl ?_ ?_|refine av rfl rfl rfl ?_ ?_|refine aU rfl ?_ ?_)<;>intro hb<;>(try simp only[aF]at hb)<;>first|(exfalso;omega)|refine aj th rfl ?_|refine ak th rfl ?_|skip)|((first|refine dV rfl rfl rfl rfl ?_|refine mu (sC l (by omega)) [91] rfl rfl rfl rfl rfl rfl rfl rfl rfl (fun _=>rfl) (fun vA _=>?_)|refine qa (Dm vA l hd (by omega)) [(1,91)] rfl rfl rfl rfl ⟨rfl,trivial⟩ ⟨rfl,rfl,rfl,rfl,rfl⟩ (fun _=>⟨rfl,rfl,rfl,rfl,rfl,rfl,rfl⟩) (fun _=>rfl) (fun _=>rfl) rfl rfl rfl (fun _ _=>?_));refine aj th rfl ?_))
 refine xc 91 2 rfl rfl rfl rfl rfl ?_
 refine aT th Tryz.func118 (.inr ⟨_,rfl⟩) rfl rfl rfl ?_ rfl
 exact .refl _
end Go.Sy
namespace Go.Sy
open Go.Proofs
set_option maxRecDepth 100000
attribute [local irreducible] SOps Goes DOps EOps
def kC(l:Loc):List Int:=if c7 l then a8 l.g else[]
theorem xu:∀(a b:List bM) (out:List Int),bS out (a++b)=bS (bS out a) b
 |[],_,_=>rfl
 |x::a,b,out=>by rw[List.cons_append,bS,bS,xu a b]
theorem CW{rs:List bM}{j:Nat}(hj:j < rs.length)(out:List Int):
 bS out (rs.take (j+1))=if oR (bS out (rs.take j)) rs[j].next then bS out (rs.take j)else bS out (rs.take j)++[rs[j].next]:=by
 rw[List.take_succ_eq_append_getElem hj,xu,bS,bS]
 unfold oR
 by_cases h:rs[j].next∈bS out (rs.take j)<;>simp[h]
structure r4(g:pQ)(i:Nat)(out:List Int):Prop where
 le:i≤out.length
 ok:Reached g out
 eq:jE g (g.length+1 - i) i out=a8 g
theorem r4.step{g:pQ}{i:Nat}{out:List Int}(hg:LZ g)(h:r4 g i out)(bo:i < out.length):r4 g (i+1) (bS out (fC (cP g out[i]))):=by
 have hlen:=h.ok.len
 have ho:=nV (fC (cP g out[i])) h.ok (fun a ha=>hg out[i] a (jJ.1 ha))
 obtain⟨r,hr⟩:=jD (fC (cP g out[i])) out
 refine⟨by rw[hr,List.length_append];omega,ho,?_⟩
 have:=h.eq
 rw[show g.length+1 - i=(g.length+1 - (i+1))+1 by omega,jE,List.getElem?_eq_getElem bo]at this
 exact this
theorem r4.done{g:pQ}{out:List Int}(h:r4 g out.length out):a8 g=out:=by
 have hlen:=h.ok.len
 have:=h.eq
 rw[show g.length+1 - out.length=(g.length - out.length)+1 by omega,jE,List.getElem?_eq_none (Nat.le_refl _)]at this
 exact this.symm
theorem vZ{l:Loc}{x:Int}(h:0≤x∧x < (l.turns.length:Int)):(l.turns.map fe.cs)[x.toNat]? =some (bn l x).cs:=by
 have hx:x.toNat < l.turns.length:=by omega
 rw[List.getElem?_map,List.getElem?_eq_getElem hx]
 simp[bn,hx]
theorem r9{l:Loc}(h:c7 l=true)(x:Int):((bn l x).aP.map bM.label).Nodup∧(bn l x).aP.length≤6:=by
 have h1:=pc h x
 rw[cg]at h1
 rcases h1 with h1|h1
 ·rw[h1];simp
 ·have:=gm h1
  exact⟨this.2.2,this.1.2⟩
set_option maxHeartbeats 8000000 in
theorem y4(l:Loc)(hs:iv l):dy Tryz.prog 117 [] [Ag l.cs] (Rv (cA (kC l))) []:=by
 refine bd (c:=_) Tryz.func117 rfl rfl rfl (by decide) fun w M0 H Z=>?_
 repeat'(first|refine bH rfl ?_|(refine al ?_;refine aj th rfl ?_)|(refine au mix rfl rfl ?_;refine ak th rfl ?_)|(refine ao mix rfl rfl ?_;refine ay th rfl ?_)|refine SOps.nil ?_|refine DOps.nil ?_|refine EOps.nil ?_ rfl rfl|((first|refine aq rfl rfl ?_ ?_|refine av rfl rfl rfl ?_ ?_|refine aU rfl ?_ ?_)<;>intro hb<;>(try simp only[aF]at hb)<;>first|(exfalso;omega)|refine aj th rfl ?_|refine ak th rfl ?_|skip)|refine aT th Tryz.func117 (.inr ⟨_,rfl⟩) rfl rfl rfl ?_ rfl|((first|refine aS (tt l hs) [] rfl rfl rfl rfl rfl rfl rfl rfl rfl rfl ?_|refine dV rfl rfl rfl rfl ?_|refine BE th (m:=[]) (.inr rfl) rfl rfl rfl rfl rfl rfl rfl rfl ?_);refine aj th rfl ?_))
 ·rw[show kC l=[] by unfold kC;rw[hb];rfl]
  exact .v (.one (.c (.nil 1)))
 have hv:=hb
 obtain⟨hg,h0,hu⟩:=mQ hv
 have Te:=(fp hv).2
 have QZ:l.g.length=l.turns.length:=by simp[Loc.g]
 refine qx (fun(i:Nat) (out:List Int)=>r4 l.g i out)
  (fun i _=>[(1,.v (.one (.ptr 1 0))),(3,.v (.one (.own 11))),(4,.v (.one (.mp 12))),(5,.v (C1 (.int .i64 (i:Int))))])
  (fun _ out=>[(12,.lo (gI ux (ph out))),(11,.arr false 3 1 (out.map fun r=>[CT.int .i64 r])),(1,.box (l.cs.map SC.c))])
  (fun i _=>l.g.length+1 - i) 0 [0] ⟨Nat.zero_le _,⟨by simp,fun x hx=>by simp at hx;subst hx;omega⟩,rfl⟩
  (fun a w h=>h.sub (by exact⟨⟨_,rfl,.refl _⟩,⟨_,rfl,.refl _⟩,⟨_,rfl,.refl _⟩,⟨_,rfl,aC rfl⟩,trivial⟩) (by exact⟨⟨_,rfl,.refl _⟩,⟨_,rfl,dd rfl⟩,⟨_,rfl,.refl _⟩,trivial⟩) rfl rfl rfl) (fun i out hI ih=>?_)
 have hlen:=hI.ok.len
 have hle:=hI.le
 by_cases bo:i < out.length
 ·have NM:(out.map fun r=>[CT.int .i64 r])[i]? =some [.int .i64 out[i]]:=by simp[bo]
  have NL:=hI.ok.range out[i] (List.getElem_mem bo)
  rw[QZ]at NL
  have Qh:=vZ NL
  have kI:=r9 hv out[i]
  have eu:=hI.step hg bo
  rw[cg]at eu
  have KT:∀a∈fC (bn l out[i]).aP,0≤a.next∧a.next < (l.g.length:Int):=fun a ha=>hg out[i] a (by rw[cg];exact jJ.1 ha)
  repeat'(first|refine bH rfl ?_|(refine al ?_;refine aj th rfl ?_)|(refine au mix rfl rfl ?_;refine ak th rfl ?_)|(refine ao mix rfl rfl ?_;refine ay th rfl ?_)|refine SOps.nil ?_|refine DOps.nil ?_|refine EOps.nil ?_ rfl rfl|((first|refine aq rfl rfl ?_ ?_|refine av rfl rfl rfl ?_ ?_|refine aU rfl ?_ ?_)<;>intro hb<;>(try simp only[aF]at hb)<;>first|(exfalso;omega)|refine aj th rfl ?_|refine ak th rfl ?_|skip)|((first|(refine IV th rfl rfl rfl rfl rfl rfl rfl rfl rfl rfl i rfl (by rw[List.length_map];omega) ?_)|refine D5 th _ rfl rfl rfl rfl NM rfl rfl rfl rfl rfl ?_|refine fT th rfl rfl rfl rfl rfl rfl rfl rfl rfl (out[i]).toNat _ (by omega) Qh ?_|refine dq (GM (bn l out[i]).aP kI.1 (by omega)) [] rfl rfl rfl rfl rfl rfl rfl rfl rfl rfl rfl ?_);refine ak th rfl ?_))
  obtain⟨rs,HZ⟩:∃rs,rs=fC (bn l out[i]).aP:=⟨_,rfl⟩
  rw[←HZ]at eu KT
  have Jx:rs.length≤6:=by rw[HZ,qc];exact kI.2
  refine bE (fun j:Nat=>j≤rs.length)
   (fun j=>[(1,.v (.one (.ptr 1 0))),(3,.v (.one (.own 11))),(4,.v (.one (.mp 12))),(5,.v (C1 (.int .i64 (i:Int)))),(29,.v (C1 (kc rs))),(30,.v (C1 (.int .i64 (rs.length:Int)))),(31,.v (C1 (.int .i64 (j:Int))))])
   (fun j=>[(12,.lo (gI ux (ph (bS out (rs.take j))))),(11,.arr false 3 1 ((bS out (rs.take j)).map fun r=>[CT.int .i64 r])),(1,.box (l.cs.map SC.c))])
   (fun j=>rs.length - j) 0 (Nat.zero_le _)
   (fun a w h=>h.sub (by exact⟨⟨_,rfl,.refl _⟩,⟨_,rfl,.refl _⟩,⟨_,rfl,.refl _⟩,⟨_,rfl,.refl _⟩,⟨_,rfl,fi (by rw[HZ])⟩,⟨_,rfl,aC (by rw[HZ];simp)⟩,⟨_,rfl,aC rfl⟩,trivial⟩) (by exact⟨⟨_,rfl,.refl _⟩,⟨_,rfl,.refl _⟩,⟨_,rfl,.refl _⟩,trivial⟩) rfl rfl rfl) (fun j hj oZ=>?_)
  by_cases R1:j < rs.length
  ·have Vv:(rs.map bM.cs)[j]? =some (rs[j]).cs:=by simp[R1]
   have b7:Reached l.g (bS out (rs.take j)):=nV _ hI.ok fun a ha=>KT a (List.mem_of_mem_take ha)
   have hokl:(bS out (rs.take j)).length≤40:=by have:=b7.len;rw[QZ]at this;omega
   have Az:=CW R1 out
   have uD:iU (ph (bS out (rs.take j))) rs[j].next (.bool false)=.bool (oR (bS out (rs.take j)) rs[j].next):=wk _ _
   obtain⟨mb,Pq⟩:∃mb,oR (bS out (rs.take j)) rs[j].next=mb:=⟨_,rfl⟩
   rw[Pq]at uD Az
   repeat'(first|refine bH rfl ?_|(refine al ?_;refine aj th rfl ?_)|(refine au mix rfl rfl ?_;refine ak th rfl ?_)|(refine ao mix rfl rfl ?_;refine ay th rfl ?_)|refine SOps.nil ?_|refine DOps.nil ?_|refine EOps.nil ?_ rfl rfl|((first|refine aq rfl rfl ?_ ?_|refine av rfl rfl rfl ?_ ?_|refine aU rfl ?_ ?_)<;>intro hb<;>(try simp only[aF]at hb)<;>first|(exfalso;omega)|refine aj th rfl ?_|refine ak th rfl ?_|skip)|((first|refine ch th rfl rfl rfl rfl rfl rfl rfl rfl rfl j _ rfl Vv ?_|(refine JV th (m:=ph (bS out (rs.take j))) rfl rfl rfl rfl rfl rfl rfl rfl rfl rfl rfl rfl ?_;rw[uD])|refine BE th (m:=ph (bS out (rs.take j))) (.inl rfl) rfl rfl rfl rfl rfl rfl rfl rfl ?_);refine aj th rfl ?_)|(refine er th rfl rfl rfl rfl rfl rfl rfl rfl rfl rfl rfl rfl rfl rfl rfl (by constructor<;>simp<;>omega) ?_;refine aj th rfl ?_)|(refine bO rfl rfl rfl rfl rfl rfl (by omega) ?_;refine aj th rfl ?_))
   ·have cS:=oZ (j+1) R1 (by omega)
    rw[hb]at Az Pq
    rw[Az]at cS
    exact bJ (by exact⟨⟨_,rfl,.refl _⟩,⟨_,rfl,.refl _⟩,⟨_,rfl,.refl _⟩,⟨_,rfl,.refl _⟩,⟨_,rfl,.refl _⟩,⟨_,rfl,.refl _⟩,⟨_,rfl,aC (by omega)⟩,trivial⟩)
     (by exact⟨⟨_,rfl,HH (by rw[zf (wQ Pq)];rfl)⟩,⟨_,rfl,dd (by simp)⟩,⟨_,rfl,.refl _⟩,trivial⟩) rfl rfl rfl cS
   ·have cS:=oZ (j+1) R1 (by omega)
    rw[hb]at Az
    rw[Az]at cS
    exact bJ (by exact⟨⟨_,rfl,.refl _⟩,⟨_,rfl,.refl _⟩,⟨_,rfl,.refl _⟩,⟨_,rfl,.refl _⟩,⟨_,rfl,.refl _⟩,⟨_,rfl,.refl _⟩,⟨_,rfl,aC (by omega)⟩,trivial⟩)
     (by exact⟨⟨_,rfl,.refl _⟩,⟨_,rfl,.refl _⟩,⟨_,rfl,.refl _⟩,trivial⟩) rfl rfl rfl cS
  ·have AH:j=rs.length:=by omega
   subst AH
   rw[List.take_length]
   repeat'(first|refine bH rfl ?_|(refine al ?_;refine aj th rfl ?_)|(refine au mix rfl rfl ?_;refine ak th rfl ?_)|(refine ao mix rfl rfl ?_;refine ay th rfl ?_)|refine SOps.nil ?_|refine DOps.nil ?_|refine EOps.nil ?_ rfl rfl|((first|refine aq rfl rfl ?_ ?_|refine av rfl rfl rfl ?_ ?_|refine aU rfl ?_ ?_)<;>intro hb<;>(try simp only[aF]at hb)<;>first|(exfalso;omega)|refine aj th rfl ?_|refine ak th rfl ?_|skip)|(refine bO rfl rfl rfl rfl rfl rfl (by omega) ?_;refine aj th rfl ?_))
   have cS:=ih (i+1) (bS out rs) eu (by omega)
   exact bJ (by exact⟨⟨_,rfl,.refl _⟩,⟨_,rfl,.refl _⟩,⟨_,rfl,.refl _⟩,⟨_,rfl,aC (by omega)⟩,trivial⟩) (by exact⟨⟨_,rfl,.refl _⟩,⟨_,rfl,.refl _⟩,⟨_,rfl,.refl _⟩,trivial⟩) rfl rfl rfl cS
 ·have Oh:i=out.length:=by omega
  subst Oh
  have AJ:kC l=out:=by unfold kC;rw[if_pos hv];exact hI.done
  repeat'(first|refine bH rfl ?_|(refine al ?_;refine aj th rfl ?_)|(refine au mix rfl rfl ?_;refine ak th rfl ?_)|(refine ao mix rfl rfl ?_;refine ay th rfl ?_)|refine SOps.nil ?_|refine DOps.nil ?_|refine EOps.nil ?_ rfl rfl|((first|refine aq rfl rfl ?_ ?_|refine av rfl rfl rfl ?_ ?_|refine aU rfl ?_ ?_)<;>intro hb<;>(try simp only[aF]at hb)<;>first|(exfalso;omega)|refine aj th rfl ?_|refine ak th rfl ?_|skip)|refine aT th Tryz.func117 (.inr ⟨_,rfl⟩) rfl rfl rfl ?_ rfl|(refine dZ 11 rfl rfl ?_))
  rw[AJ]
  exact .refl _
end Go.Sy
