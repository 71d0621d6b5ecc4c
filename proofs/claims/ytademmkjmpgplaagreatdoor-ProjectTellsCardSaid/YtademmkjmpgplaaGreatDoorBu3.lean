/- Contracts of the reference, bundle Bu3. -/
import Derived.Shelf.SlSortCmp.NoneTotal
import Derived.WalkKit
import Derived.Test.YtademmkjmpgplaaGreatDoorLayq
import Derived.Test.YtademmkjmpgplaaGreatDoorBl1
import Derived.Test.YtademmkjmpgplaaGreatDoorSy8
import Derived.Test.YtademmkjmpgplaaGreatDoorBn1
import Derived.Test.YtademmkjmpgplaaGreatDoorBu2
namespace Go.Proofs
set_option linter.unusedSimpArgs false
set_option linter.unusedVariables false
open Go.Shelf Go.RowKit Go.Lib Go.Sort Go.Sy
def cmpS(x y:ByteArray):Int:=if sLt x y then -1 else if sLt y x then 1 else 0
instance:Inhabited Arm:=⟨⟨⟨#[]⟩,0,⟨#[]⟩,0⟩⟩
end Go.Proofs
set_option linter.unusedSimpArgs false
set_option linter.unusedVariables false
set_option linter.unusedSectionVars false
namespace Go.Sy
open Go.Proofs Go.Shelf Go.RowKit Go.Sort
theorem owns_holds{w:World}{e sz g n cap:Nat}{us:List Value}(h:w.ownsRow 0 e sz (.slice (some ⟨g,0,none⟩) n cap) n us):g < w.heap.size∧Holds id w g 0 us.toArray:=by
 rcases h.2 with⟨e0,_⟩|⟨g',cap',cur,e0,hb,hg,hn,hm,hs,ht⟩
 ·cases e0
 ·cases e0
  have hlt:g < w.heap.size:=by
   rcases Nat.lt_or_ge g w.heap.size with h'|h'
   ·exact h'
   ·rw[Array.getElem?_eq_none h']at hg;cases hg
  refine⟨hlt,fun j hj=>⟨?_,by simp[World.frozen?,hg]⟩⟩
  have hj':j < us.length:=by simpa using hj
  have hjn:j < n * sz:=by rw[←h.1];exact hj'
  have e1:(cur.toList.take (n * sz))[j]? =us[j]? :=by rw[ht]
  rw[List.getElem?_take,if_pos hjn,Array.getElem?_toList,List.getElem?_eq_getElem hj']at e1
  simp only[World.cell?,hg,Nat.zero_add,Option.isSome_none,Bool.false_eq_true,if_false]
  rw[e1]
  simp[getElem!_pos,hj']
theorem put_heap{w:World}{g q:Nat}{F:Array Value}{os:Array Obj}{cur:Array Value}{e:TypeId}(hg:w.heap[g]? =some (.cells cur e (0,0))):
 (grow (putRow id (Sort.ahead w q) g 0 F) os).heap[g]? =some (.cells (putCells id 0 F cur) e (0,0)):=by
 have hlt:g < w.heap.size:=by
  rcases Nat.lt_or_ge g w.heap.size with h'|h'
  ·exact h'
  ·rw[Array.getElem?_eq_none h']at hg;cases hg
 rw[heap_grow_old _ _ (by simpa[putRow,mapBlock,Sort.ahead]using hlt)]
 simp[putRow,mapBlock,Sort.ahead,Array.getElem?_modify,hg,onCells]
theorem owns_put{w:World}{e sz g n cap:Nat}{us:List Value}(h:w.ownsRow 0 e sz (.slice (some ⟨g,0,none⟩) n cap) n us){F:Array Value}(hF:F.size=us.length)(q:Nat)(os:Array Obj):
 (grow (putRow id (Sort.ahead w q) g 0 F) os).ownsRow 0 e sz (.slice (some ⟨g,0,none⟩) n cap) n F.toList:=by
 rcases h.2 with⟨e0,_⟩|⟨g',cap',cur,e0,hb,hg,hn,hm,hs,ht⟩
 ·cases e0
 ·cases e0
  have hul:us.length=n * sz:=h.1
  have hnc:n * sz≤cur.size:=by rw[hs];exact Nat.mul_le_mul_right sz hn
  refine⟨by rw[Array.length_toList,hF,hul],.inr ⟨g,cap,_,rfl,hb,put_heap hg,hn,hm,by simpa[putCells]using hs,?_⟩⟩
  apply List.ext_getElem?
  intro j
  rw[List.getElem?_take]
  by_cases hj:j < n * sz
  ·have hjc:j < cur.size:=by omega
   have hjF:j < F.size:=by omega
   rw[if_pos hj,Array.getElem?_toList,Array.getElem?_toList]
   simp[putCells,hjc,hjF,getElem!_pos]
  ·rw[if_neg hj,Array.getElem?_toList,Array.getElem?_eq_none (by omega)]
theorem put_ext{w:World}{g q:Nat}{F:Array Value}{os:Array Obj}:Ext (fun b=>b=g) w (grow (putRow id (Sort.ahead w q) g 0 F) os):=by
 refine⟨rfl,rfl,rfl,by simp[putRow,mapBlock,Sort.ahead],fun k hk hne=>?_⟩
 rw[heap_grow_old _ _ (by simpa[putRow,mapBlock,Sort.ahead]using hk)]
 simp only[putRow,mapBlock,Sort.ahead,Array.getElem?_modify,if_neg (fun e:g=k=>hne e.symm)]
theorem conM_row{P:Program}{f:FuncId}{e sz:Nat}{v:Value}{xs ys:List (List CT)}{more:List SV}{ev:List Value}(hok:CallOK P f)
 (hy:∀x∈ys,x.length=sz)(hl:ys.length=xs.length)
 (hev:∀(I:Nat→Prop) (H:Nat→Value) (Z:Nat→Nat) (w:World) (M:Nat→Prop) (vs:List Value),Pw (fun v s=>RepSV I H Z w M v s) vs more→vs=ev)
 (hnil:v=.slice none 0 0→∀w,Calls P f (v::ev).toArray w fun e w'=>e=.returned (.tuple #[])∧w'=w)
 (hrow:∀(w:World) (g cap:Nat) (us:List Value),v=.slice (some ⟨g,0,none⟩) xs.length cap→w.ownsRow 0 e sz v xs.length us→
   (∃M:Nat→Prop,∀(i:Nat) (x:List CT),xs[i]? =some x→∀(j:Nat) (c:CT),x[j]? =some c→∃u:Value,us[i * sz+j]? =some u∧RepC w M u c)→
   Calls P f (v::ev).toArray w fun e w'=>e=.returned (.tuple #[])∧∃(F:Array Value) (q:Nat) (os:Array Obj),F.size=us.length∧w'=grow (putRow id (Sort.ahead w q) g 0 F) os∧
    ∀(i:Nat) (x:List CT),ys[i]? =some x→∀(j:Nat) (c:CT),x[j]? =some c→∃u:Value,F[i * sz+j]? =some u∧∀w M,RepC w M u c):
 ConM P f [(1,.pool e sz [(v,xs)])] (.one (.c (.val v))::more) (fun _:Unit=>True) (fun _=>.tup []) (fun _=>[(1,.pool e sz [(v,ys)])]):=by
 refine⟨hok,fun w M0 H Z vs hpre hargs=>?_⟩
 obtain⟨v0,vs,rfl⟩:∃v0 vs',vs=v0::vs':=by
  cases vs with
  |nil=>have:=hargs.1;simp at this
  |cons a l=>exact⟨a,l,rfl⟩
 obtain⟨u0,hu0,hr0⟩:=hargs.2 0 _ rfl
 simp only[List.getElem?_cons_zero,Option.some.injEq]at hu0
 subst hu0
 have hv0:v0=v:=RepC.val_inv hr0
 subst hv0
 have hvs:vs=ev:=hev _ _ _ _ _ _ ⟨by have:=hargs.1;simpa using this,fun j c hc=>by
  obtain⟨u,hu,hr⟩:=hargs.2 (j+1) c (by simpa using hc)
  exact⟨u,by simpa using hu,hr⟩⟩
 subst hvs
 obtain⟨hH,hpool⟩:=hpre.mem (1,.pool e sz [(v0,xs)]) List.mem_cons_self
 simp only at hH hpool
 obtain⟨us,hown,hlen,hrep⟩:=hpool.row (k:=0) rfl
 have hb0:∀b,Hb (H 1) b↔hblk v0=some b:=fun b=>by
  rw[hH]
  show Hb (poolV [(v0,xs)]) b↔_
  rw[poolV_Hb];simp
 have hbl:∀b,J9 H [(1,MO.pool e sz [(v0,xs)])] b↔hblk v0=some b:=fun b=>by
  constructor
  ·rintro⟨p,hp,hpb⟩
   rw[List.mem_singleton.1 hp]at hpb
   exact(hb0 b).1 hpb
  ·exact fun h=>⟨_,List.mem_cons_self,(hb0 b).2 h⟩
 have fin:∀w',Ext (fun b=>hblk v0=some b) w w'→RowOK w' (fun b=>M0 b∨hblk v0=some b) e sz v0 ys→EndM H Z [(1,.pool e sz [(v0,xs)])] (fun _:Unit=>True) (fun _=>.tup []) (fun _=>[(1,.pool e sz [(v0,ys)])]) w M0 (.returned (.tuple #[])) w':=by
  intro w' hext hrow'
  refine⟨(),.tuple #[],H,trivial,rfl,hext.weak fun b _ hb=>(hbl b).2 hb,⟨fun _ _ _=>rfl,fun p hp=>?_,fun p hp b hb=>?_,fun p hp q hq hpq=>?_⟩,⟨#[],rfl,rfl,fun j c hc=>by simp at hc⟩⟩
  ·rw[List.mem_singleton.1 hp]
   refine⟨hH,fun k q hk=>?_,fun k l q r hk hl' hkl=>?_⟩
   ·match k,hk with
    |0,hk=>
     simp only[List.getElem?_cons_zero,Option.some.injEq]at hk;subst hk
     refine RowOK.mono (v:=v0) (xs:=ys) hrow' (fun _ _=>rfl) (Nat.le_refl _) (fun _ _ _=>rfl) fun b _ hb=>?_
     rcases hb with hb|⟨p,hp,hpb⟩
     ·exact .inl hb
     ·rw[List.mem_singleton.1 hp]at hpb
      exact .inr ((hb0 b).1 hpb)
    |k+1,hk=>simp at hk
   ·match k,l,hk,hl' with
    |0,0,_,_=>exact absurd rfl hkl
    |0,l+1,_,hl'=>simp at hl'
    |k+1,_,hk,_=>simp at hk
  ·rw[List.mem_singleton.1 hp]at hb⊢
   have hlt:=hpre.lt _ List.mem_cons_self b hb
   exact⟨Nat.lt_of_lt_of_le hlt hext.size,.inr ⟨_,List.mem_cons_self,hb,.inl rfl⟩⟩
  ·rw[List.mem_singleton.1 hp,List.mem_singleton.1 hq]at hpq;exact absurd rfl hpq
 rcases hown.2 with⟨hv,hn⟩|⟨g,cap,cur,hv,_⟩
 ·have hx:xs=[]:=List.eq_nil_of_length_eq_zero hn
  have hy0:ys=[]:=List.eq_nil_of_length_eq_zero (by rw[hl,hx];rfl)
  refine(hnil hv w).mono ?_
  rintro e' w' ⟨rfl,hw⟩
  rw[hw]
  refine fin w (Ext.refl _ _) ?_
  rw[hy0,hv]
  exact RowOK.nil _ _ _ _
 ·refine(hrow w g cap us hv hown ⟨_,hrep⟩).mono ?_
  rintro e' w' ⟨rfl,F,q,os,hF,rfl,hFr⟩
  rw[hv]at hown
  have ho:=owns_put hown hF q os
  refine fin _ (put_ext.weak fun b _ hb=>by rw[hv,hb];rfl) ⟨F.toList,by rw[hv,hl];exact ho,hy,fun i x hx j c hc=>?_⟩
  obtain⟨u,hu,hr⟩:=hFr i x hx j c hc
  exact⟨u,by rw[Array.getElem?_toList];exact hu,hr _ _⟩
end Go.Sy
namespace Go.Sy
open Go.Proofs
set_option maxRecDepth 100000
attribute [local irreducible] SOps Goes DOps EOps FOps
end Go.Sy
namespace Go.Sy
open Go.Proofs
set_option maxRecDepth 100000
attribute [local irreducible] SOps Goes DOps EOps
structure ReachI(g:Grp)(i:Nat)(out:List Int):Prop where
 le:i≤out.length
 ok:Reached g out
 eq:bfs g (g.length+1 - i) i out=reachG g
theorem ReachI.step{g:Grp}{i:Nat}{out:List Int}(hg:InG g)(h:ReachI g i out)(hlt:i < out.length):ReachI g (i+1) (bfsIn out (risA (armsAt g out[i]))):=by
 have hlen:=h.ok.len
 have ho:=bfsIn_ok (risA (armsAt g out[i])) h.ok (fun a ha=>hg out[i] a (risA_mem.1 ha))
 obtain⟨r,hr⟩:=bfsIn_app (risA (armsAt g out[i])) out
 refine⟨by rw[hr,List.length_append];omega,ho,?_⟩
 have:=h.eq
 rw[show g.length+1 - i=(g.length+1 - (i+1))+1 by omega,bfs,List.getElem?_eq_getElem hlt]at this
 exact this
theorem ReachI.done{g:Grp}{out:List Int}(h:ReachI g out.length out):reachG g=out:=by
 have hlen:=h.ok.len
 have:=h.eq
 rw[show g.length+1 - out.length=(g.length - out.length)+1 by omega,bfs,List.getElem?_eq_none (Nat.le_refl _)]at this
 exact this.symm
end Go.Sy
