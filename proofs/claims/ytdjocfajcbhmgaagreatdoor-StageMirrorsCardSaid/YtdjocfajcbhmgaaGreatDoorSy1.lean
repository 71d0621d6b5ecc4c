/- The symbolic layer, bundle Sy1. -/
import Derived.Calls
import Derived.Orders
import Derived.Below
import Derived.Maps.AppendAt
import Derived.Laws.Rows
import Derived.Laws.CopyRow
import Derived.Laws.Strings
import Derived.Laws.StructEq
set_option linter.unusedSimpArgs false
set_option linter.unusedVariables false
set_option linter.unusedSectionVars false
namespace Go.Sy
open Go.RowKit
theorem J.{u}{α:Sort u}{a:α}:a=a:=Eq.refl a
abbrev aa:=@List.getElem?_eq_getElem
abbrev ab:=@List.mem_cons_of_mem
abbrev ae:=@List.mem_cons
abbrev ah:=@List.mem_cons_self
abbrev ai:=@List.getElem?_eq_some_iff
abbrev an:=@List.mem_of_getElem?
abbrev aw:=@List.length_map
abbrev ax:=@Bool.and_eq_true
abbrev az:=@List.getElem_mem
abbrev aA:=@Nat.le_refl
abbrev aB:=@List.mem_iff_getElem
abbrev aD:=@List.take_succ_eq_append_getElem
abbrev aE:=@List.mem_map
abbrev aG:=@List.getElem?_append_left
abbrev aH:=@List.mem_singleton
abbrev aI:=@List.getElem?_map
abbrev aJ:=@List.getD_eq_getElem?_getD
abbrev aL:=@List.length_append
abbrev aM:=@Nat.zero_le
abbrev aO:=@List.getElem?_append_right
abbrev aQ:=@List.mem_append
abbrev aR:=@Nat.eq_of_beq_eq_true
abbrev aV:=@List.all_eq_true
abbrev aY:=@Nat.blt_eq
abbrev a6:=@List.map_append
abbrev bf:=@List.length_take
abbrev bm:=@List.pairwise_iff_getElem
abbrev bq:=@Nat.mul_le_mul_right
abbrev br:=@List.append_assoc
abbrev bt:=@List.mem_flatMap
abbrev bu:=@Array.getElem?_eq_some_iff
abbrev bA:=@List.nodup_iff_pairwise_ne
abbrev bB:=@List.findIdx?_eq_some_iff_getElem
abbrev bC:=@List.take_length
abbrev bF:=@List.map_cons
abbrev bL:=@List.findIdx?_eq_none_iff
abbrev bN:=@List.getElem?_append
abbrev bQ:=@List.mem_map_of_mem
abbrev bT:=@Bool.true_and
abbrev bW:=@Array.getElem?_eq_getElem
abbrev bX:=@Nat.lt_of_lt_of_le
abbrev b6:=@List.eq_nil_of_length_eq_zero
abbrev b8:=@List.mem_append_right
abbrev b9:=@List.getElem?_take
abbrev ca:=@List.getElem?_drop
abbrev cc:=@List.mem_range
abbrev cn:=@Nat.lt_or_ge
abbrev cu:=@List.any_eq_true
abbrev cv:=@Nat.lt_trichotomy
abbrev cw:=@List.nil_append
abbrev cx:=@List.foldl_cons
abbrev cB:=@List.getElem?_toArray
abbrev cI:=@List.mem_filter
abbrev cN:=@Array.getD_eq_getD_getElem?
abbrev cR:=@List.getElem?_eq_none
abbrev cV:=@List.append_nil
abbrev cW:=@List.eq_nil_iff_forall_not_mem
abbrev cX:=@List.cons_append
abbrev cY:=@List.getElem?_set
abbrev cZ:=@Int.toNat_natCast
abbrev dt:=@Nat.add_mul
abbrev dz:=@List.map_toArray
abbrev dA:=@List.map_map
abbrev dE:=@List.length_reverse
abbrev dH:=@List.all_eq_false
abbrev dN:=@Nat.le_trans
abbrev dS:=@Bool.false_eq_true
abbrev dT:=@List.length_cons
abbrev dU:=@Bool.and_eq_true_iff
abbrev ej:=@Option.some.injEq
abbrev ek:=@List.take_of_length_le
abbrev eo:=@List.any_eq_false
abbrev eF:=@List.mem_or_eq_of_mem_set
abbrev eG:=@List.length_filter_le
abbrev eH:=@Array.getElem?_toList
abbrev eP:=@List.length_drop
abbrev eQ:=@List.isEmpty_iff
abbrev eS:=@List.idxOf_lt_length_iff
abbrev eZ:=@List.mem_append_left
abbrev ff:=@List.pairwise_map
abbrev fg:=@List.getElem?_cons_zero
abbrev fh:=@List.foldl_append
abbrev fl:=@List.all_append
abbrev fq:=@List.length_pos_iff
abbrev fA:=@Nat.zero_add
abbrev fB:=@List.length_pos_of_mem
abbrev fR:=@Nat.ble_eq
abbrev gb:=@List.drop_eq_getElem_cons
abbrev gg:=@List.nodup_append
abbrev gh:=@List.map_nil
abbrev gp:=@Bool.and_true
abbrev gK:=@List.map_congr_left
abbrev gM:=@List.getElem?_replicate
abbrev iD:=@List.find?_eq_none
abbrev iE:=@List.find?_cons_of_neg
abbrev iI:=@Option.map_some
abbrev iJ:=@List.nodup_cons
abbrev iK:=@Bool.or_eq_true
abbrev iL:=@Array.size_push
abbrev je:=@Array.getElem?_modify
abbrev jg:=@Nat.lt_succ_of_lt
abbrev jT:=@Option.getD_some
abbrev jU:=@Nat.div_eq_of_lt
abbrev j4:=@List.mem_of_find?_eq_some
abbrev j5:=@List.getElem?_eq_none_iff
abbrev ke:=@Array.length_toList
abbrev kv:=@Bool.false_or
abbrev kR:=@List.range_succ
abbrev kU:=@List.getElem_idxOf
abbrev kV:=@List.findIdx?_cons
abbrev kW:=@Array.empty_append
abbrev la:=@List.length_eq_zero_iff
abbrev lI:=@Nat.add_zero
abbrev lJ:=@List.map_set
abbrev lK:=@List.foldl_nil
abbrev lL:=@List.flatMap_cons
abbrev lM:=@List.ext_getElem?
abbrev mJ:=@Nat.add_mul_div_right
abbrev mK:=@List.length_singleton
abbrev mL:=@Array.getElem?_append
abbrev mV:=@List.ext_getElem
abbrev mW:=@Array.toList_map
abbrev nf:=@List.sum_cons
abbrev ni:=@List.take_append_of_le_length
abbrev oN:=@List.length_set
abbrev oO:=@List.length_nil
abbrev oP:=@Bool.eq_iff_iff
abbrev pa:=@Nat.add_comm
abbrev pR:=@Nat.eq_zero_or_pos
abbrev pS:=@List.getElem_range
abbrev pT:=@Int.tmod_lt_of_pos
abbrev pU:=@Array.append_empty
abbrev qY:=@List.exists_mem_of_ne_nil
abbrev r6:=@List.map_id
abbrev r7:=@Decidable.not_not
abbrev sG:=@List.getElem_append_left
abbrev sH:=@List.all_cons
abbrev vk:=@Nat.mul_comm
abbrev vl:=@Nat.mod_lt
abbrev vm:=@List.drop_eq_nil_of_le
abbrev vn:=@List.all_nil
abbrev vp:=@Array.getElem?_eq_none
abbrev vS:=@Nat.min_eq_left
abbrev vT:=@List.find?_some
abbrev vU:=@List.cons.injEq
abbrev vV:=@Int.tmod_nonneg
inductive CT where
 |int (k:IntKind)(n:Int)
 |bool (b:Bool)
 |str (s:ByteArray)
 |bK
 |Am (k:IntKind)(p:Int→Prop)
 |val (v:Value)
 |slice (nn:Bool)(sz:Nat)(xs:List (List CT))
inductive a7(w:World)(M:Nat→Prop):Value→CT→Prop
 |int (k:IntKind) (n:Int):a7 w M (.int k n) (.int k n)
 |bool (b:Bool):a7 w M (.bool b) (.bool b)
 |str (s:ByteArray):a7 w M (.string s) (.str s)
 |bK:a7 w M (.slice none 0 0) .bK
 |Am (k:IntKind) (n:Int) {p:Int→Prop} (h:p n):a7 w M (.int k n) (.Am k p)
 |val (v:Value) (h:v.oneCell'=true):a7 w M v (.val v)
 |slice {nn:Bool} {sz:Nat} {xs:List (List CT)} {a:Option Addr} {len cap:Nat} (u:Nat→Nat→Value)
   (hlen:len=xs.length) (j3:len≤cap) (kY:cap≤maxLen) (sv:nn=true→a.isSome=true)
   (c8:∀x∈xs,x.length=sz)
   (yT:0 < xs.length→∃ad,a=some ad∧ad.spot=none∧ad.block < w.heap.size∧¬M ad.block∧
     ∀(i:Nat) (x:List CT),xs[i]? =some x→∀(j:Nat) (c:CT),x[j]? =some c→w.cell? (ad.add (i * sz+j))=some (u i j))
   (cL:∀(i:Nat) (x:List CT),xs[i]? =some x→∀(j:Nat) (c:CT),x[j]? =some c→a7 w M (u i j) c):a7 w M (.slice a len cap) (.slice nn sz xs)
theorem a7.one{w:World}{M:Nat→Prop}{v:Value}{c:CT}(h:a7 w M v c):v.oneCell'=true:=by
 cases h<;>first|rfl|assumption
theorem a7.nS{w:World}{M:Nat→Prop}{v:Value}{b:Bool}(h:a7 w M v (.bool b)):v=.bool b:=by cases h;rfl
theorem a7.cH{w:World}{M:Nat→Prop}{v:Value}{k:IntKind}{n:Int}(h:a7 w M v (.int k n)):v=.int k n:=by cases h;rfl
theorem a7.fo{w:World}{M:Nat→Prop}{v:Value}{s:ByteArray}(h:a7 w M v (.str s)):v=.string s:=by cases h;rfl
theorem a7.kF{w:World}{M:Nat→Prop}{v:Value}(h:a7 w M v .bK):v=.slice none 0 0:=by cases h;rfl
theorem a7.cells{w:World}{M:Nat→Prop}{v:Value}{c:CT}(h:a7 w M v c):v.cells=#[v]:=by
 cases h<;>first|rfl|(rename_i h1;cases v<;>first|rfl|cases h1)
theorem a7.iM{w:World}{M:Nat→Prop}{v u:Value}(h:a7 w M v (.val u)):v=u:=by cases h;rfl
structure Ext(X:Nat→Prop)(w w':World):Prop where
 os:w'.os=w.os
 tape:w'.tape=w.tape
 output:w'.output=w.output
 size:w.heap.size≤w'.heap.size
 block:∀k,k < w.heap.size→¬X k→w'.heap[k]? =w.heap[k]?
theorem Ext.refl(X:Nat→Prop)(w:World):Ext X w w:=⟨rfl,rfl,rfl,aA _,fun _ _ _=>rfl⟩
theorem Ext.trans{X Y:Nat→Prop}{a b c:World}(h:Ext X a b)(k:Ext Y b c)(hy:∀n,n < a.heap.size→Y n→X n):Ext X a c:=
 ⟨k.os.trans h.os,k.tape.trans h.tape,k.output.trans h.output,dN h.size k.size,fun i hi hx=>
  (k.block i (bX hi h.size) (fun Vs=>hx (hy i hi Vs))).trans (h.block i hi hx)⟩
theorem Ext.xB{X Y:Nat→Prop}{a b:World}(h:Ext X a b)(hy:∀n,n < a.heap.size→X n→Y n):Ext Y a b:=
 ⟨h.os,h.tape,h.output,h.size,fun i hi hx=>h.block i hi (fun hh=>hx (hy i hi hh))⟩
theorem Ext.below{a b:World}(h:Ext (fun _=>False) a b):Below a.heap.size a b:=
 ⟨h.os,h.tape,h.output,h.size,fun k hk=>h.block k hk (fun x=>x)⟩
theorem gA(a:Addr)(n:Nat):(a.add n).block=a.block:=by unfold Addr.add;split<;>rfl
theorem qP{a:Addr}(h:a.spot=none)(n:Nat):(a.add n).spot=none:=by unfold Addr.add;split<;>simp_all
theorem add_add(a:Addr)(i j:Nat):(a.add i).add j=a.add (i+j):=by
 unfold Addr.add
 by_cases hi:i=0<;>by_cases hj:j=0<;>simp[hi,hj,Nat.add_assoc]
theorem jF(b o n:Nat):(⟨b,o,none⟩:Addr).add n=⟨b,o+n,none⟩:=by
 unfold Addr.add;split<;>simp_all
theorem a7.mono{w w':World}{M M':Nat→Prop}{v:Value}{x:CT}(h:a7 w M v x)
 (hs:w.heap.size≤w'.heap.size)(hb:∀b,b < w.heap.size→¬M b→w'.heap[b]? =w.heap[b]?)
 (hM:∀b,b < w.heap.size→M' b→M b):a7 w' M' v x:=by
 induction h with
 |int k n=>exact .int k n
 |bool b=>exact .bool b
 |str s=>exact .str s
 |bK=>exact .bK
 |Am k n h=>exact .Am k n h
 |val v h=>exact .val v h
 |slice u hlen j3 kY sv c8 yT cL ih=>
  refine .slice u hlen j3 kY sv c8 (fun hp=>?_) ih
  obtain⟨ad,h1,h2,h3,h4,h5⟩:=yT hp
  refine⟨ad,h1,h2,bX h3 hs,fun hm=>h4 (hM _ h3 hm),fun i x hx j c hc=>?_⟩
  rw[World.cell?_of_block (w:=w) (by rw[gA];exact hb _ h3 h4)]
  exact h5 i x hx j c hc
inductive FV where
 |one (c:CT)
 |agg (cs:List CT)
def qR(w:World)(M:Nat→Prop)(v:Value):FV→Prop
 |.one c=>a7 w M v c
 |.agg cs=>∃vs:Array Value,v=.agg vs∧vs.size=cs.length∧∀(j:Nat) (c:CT),cs[j]? =some c→∃u:Value,vs[j]? =some u∧a7 w M u c
theorem qR.mono{w w':World}{M M':Nat→Prop}{v:Value}{x:FV}(h:qR w M v x)
 (hs:w.heap.size≤w'.heap.size)(hb:∀b,b < w.heap.size→¬M b→w'.heap[b]? =w.heap[b]?)
 (hM:∀b,b < w.heap.size→M' b→M b):qR w' M' v x:=by
 cases x with
 |one c=>exact a7.mono h hs hb hM
 |agg cs=>
  obtain⟨vs,h1,h2,h3⟩:=h
  exact⟨vs,h1,h2,fun j c hc=>let⟨u,hu,hr⟩:=h3 j c hc;⟨u,hu,hr.mono hs hb hM⟩⟩
inductive SC where
 |c (x:CT)
 |lit (b:Bool)
 |ptr (i off:Nat)
 |iu (i k off:Nat)
 |hC (cs:List CT)
 |own (i:Nat)
 |mp (i:Nat)
 |td (i n:Nat)
 |ku (f:FuncId)(df:List Nat)
 |any
inductive SV where
 |one (x:SC)
 |agg (xs:List SC)
inductive ST where
 |v (x:SV)
 |gE (xs:List SV)
inductive MO where
 |box (cs:List SC)
 |arr (nn:Bool)(e:TypeId)(sz:Nat)(xs:List (List CT))
 |lo (es:List (FV×FV))
 |bG (e sz:Nat)(qs:List (Value×List (List CT)))
abbrev TM:=List (Nat×ST)
abbrev MM:=List (Nat×MO)
def hblk:Value→Option Nat
 |.pointer (some a)=>some a.block
 |.slice (some a) _ _=>some a.block
 |.map (some r)=>some r
 |_=>none
def Hb(v:Value)(b:Nat):Prop:=
 match v with
 |.func _ _ vs=>∃u,u∈vs.toList∧hblk u=some b
 |v=>hblk v=some b
theorem MR{v:Value}{b:Nat}(h:hblk v=some b):Hb v b:=by
 unfold Hb
 cases v<;>first|exact h|cases h
def SC.bD:SC→List Nat
 |.c _|.lit _|.hC _|.any=>[]
 |.ptr i _|.iu i _ _|.own i|.mp i|.td i _=>[i]
 |.ku _ df=>df
def bR(I:Nat→Prop)(H:Nat→Value)(Z:Nat→Nat)(w:World)(M:Nat→Prop)(v:Value):SC→Prop
 |.c x=>a7 w M v x
 |.lit b=>v=.bool b
 |.ptr i off=>I i∧∃b,hblk (H i)=some b∧v=.pointer (some ⟨b,off,none⟩)
 |.iu i k off=>I i∧∃b,hblk (H i)=some b∧v=.pointer (some ⟨b,k * Z i+off,none⟩)
 |.hC cs=>∃ad,v=.pointer (some ad)∧ad.spot=none∧ad.block < w.heap.size∧¬M ad.block∧
   ∀(j:Nat) (c:CT),cs[j]? =some c→∃u:Value,w.cell? (ad.add j)=some u∧a7 w M u c
 |.own i=>I i∧v=H i
 |.mp i=>I i∧v=H i
 |.td i n=>I i∧∃b,hblk (H i)=some b∧v=.slice (some ⟨b,0,none⟩) n n
 |.ku f df=>(∀i∈df,I i)∧∃vs:List Value,v=.func (.func f) #[] vs.toArray∧vs.length=df.length∧
   ∀(j i:Nat),df[j]? =some i→vs[j]? =some (H i)
 |.any=>True
theorem bR.mono{I I':Nat→Prop}{H H':Nat→Value}{Z Z':Nat→Nat}{w w':World}{M M':Nat→Prop}{v:Value}{x:SC}(h:bR I H Z w M v x)
 (hI:∀i∈x.bD,I i→I' i∧H' i=H i∧Z' i=Z i)
 (hs:w.heap.size≤w'.heap.size)(hb:∀b,b < w.heap.size→¬M b→w'.heap[b]? =w.heap[b]?)
 (hM:∀b,b < w.heap.size→M' b→M b):bR I' H' Z' w' M' v x:=by
 cases x with
 |c x=>exact a7.mono h hs hb hM
 |lit b=>exact h
 |ptr i off=>
  obtain⟨h1,b,h2,h3⟩:=h
  obtain⟨k1,k2,_⟩:=hI i (by simp[SC.bD]) h1
  exact⟨k1,b,by rw[k2];exact h2,h3⟩
 |td i n=>
  obtain⟨h1,b,h2,h3⟩:=h
  obtain⟨k1,k2,_⟩:=hI i (by simp[SC.bD]) h1
  exact⟨k1,b,by rw[k2];exact h2,h3⟩
 |iu i k off=>
  obtain⟨h1,b,h2,h3⟩:=h
  obtain⟨k1,k2,k3⟩:=hI i (by simp[SC.bD]) h1
  exact⟨k1,b,by rw[k2];exact h2,by rw[k3];exact h3⟩
 |hC cs=>
  obtain⟨ad,h1,h2,h3,h4,h5⟩:=h
  refine⟨ad,h1,h2,bX h3 hs,fun hm=>h4 (hM _ h3 hm),fun j c hc=>?_⟩
  obtain⟨u,hu,hr⟩:=h5 j c hc
  refine⟨u,?_,hr.mono hs hb hM⟩
  rw[World.cell?_of_block (w:=w) (by rw[gA];exact hb _ h3 h4)]
  exact hu
 |own i=>
  obtain⟨h1,h2⟩:=h
  obtain⟨k1,k2,_⟩:=hI i (by simp[SC.bD]) h1
  exact⟨k1,by rw[k2];exact h2⟩
 |mp i=>
  obtain⟨h1,h2⟩:=h
  obtain⟨k1,k2,_⟩:=hI i (by simp[SC.bD]) h1
  exact⟨k1,by rw[k2];exact h2⟩
 |ku f df=>
  obtain⟨h1,vs,h2,h3,h4⟩:=h
  refine⟨fun i hi=>(hI i hi (h1 i hi)).1,vs,h2,h3,fun j i hj=>?_⟩
  have hm:i∈df:=an hj
  rw[(hI i hm (h1 i hm)).2.1]
  exact h4 j i hj
 |any=>trivial
def SV.bD:SV→List Nat
 |.one x=>x.bD
 |.agg xs=>xs.flatMap SC.bD
def ST.bD:ST→List Nat
 |.v x=>x.bD
 |.gE xs=>xs.flatMap SV.bD
def MO.bD:MO→List Nat
 |.box cs=>cs.flatMap SC.bD
 |_=>[]
def cF(I:Nat→Prop)(H:Nat→Value)(Z:Nat→Nat)(w:World)(M:Nat→Prop)(v:Value):SV→Prop
 |.one x=>bR I H Z w M v x
 |.agg xs=>∃vs:Array Value,v=.agg vs∧vs.size=xs.length∧∀(j:Nat) (c:SC),xs[j]? =some c→∃u:Value,vs[j]? =some u∧bR I H Z w M u c
def fy(I:Nat→Prop)(H:Nat→Value)(Z:Nat→Nat)(w:World)(M:Nat→Prop)(v:Value):ST→Prop
 |.v x=>cF I H Z w M v x
 |.gE xs=>∃vs:Array Value,v=.tuple vs∧vs.size=xs.length∧∀(j:Nat) (c:SV),xs[j]? =some c→∃u:Value,vs[j]? =some u∧cF I H Z w M u c
section
variable {I I':Nat→Prop} {H H':Nat→Value} {Z Z':Nat→Nat} {w w':World} {M M':Nat→Prop} {v:Value}
theorem cF.mono{x:SV}(h:cF I H Z w M v x)
 (hI:∀i∈x.bD,I i→I' i∧H' i=H i∧Z' i=Z i)
 (hs:w.heap.size≤w'.heap.size)(hb:∀b,b < w.heap.size→¬M b→w'.heap[b]? =w.heap[b]?)
 (hM:∀b,b < w.heap.size→M' b→M b):cF I' H' Z' w' M' v x:=by
 cases x with
 |one x=>exact bR.mono h hI hs hb hM
 |agg xs=>
  obtain⟨vs,h1,h2,h3⟩:=h
  refine⟨vs,h1,h2,fun j c hc=>?_⟩
  obtain⟨u,hu,hr⟩:=h3 j c hc
  exact⟨u,hu,hr.mono (fun i hi=>hI i (by simp only[SV.bD,bt];exact⟨c,an hc,hi⟩)) hs hb hM⟩
theorem fy.mono{x:ST}(h:fy I H Z w M v x)
 (hI:∀i∈x.bD,I i→I' i∧H' i=H i∧Z' i=Z i)
 (hs:w.heap.size≤w'.heap.size)(hb:∀b,b < w.heap.size→¬M b→w'.heap[b]? =w.heap[b]?)
 (hM:∀b,b < w.heap.size→M' b→M b):fy I' H' Z' w' M' v x:=by
 cases x with
 |v x=>exact cF.mono h hI hs hb hM
 |gE xs=>
  obtain⟨vs,h1,h2,h3⟩:=h
  refine⟨vs,h1,h2,fun j c hc=>?_⟩
  obtain⟨u,hu,hr⟩:=h3 j c hc
  exact⟨u,hu,hr.mono (fun i hi=>hI i (by simp only[ST.bD,bt];exact⟨c,an hc,hi⟩)) hs hb hM⟩
end
def ea(w:World)(M:Nat→Prop)(e sz:Nat)(qs:List (Value×List (List CT))):Prop:=
 (∀(k:Nat) (q:Value×List (List CT)),qs[k]? =some q→∃us,w.ownsRow 0 e sz q.1 q.2.length us∧(∀x∈q.2,x.length=sz)∧
   ∀(i:Nat) (x:List CT),q.2[i]? =some x→∀(j:Nat) (c:CT),x[j]? =some c→∃u:Value,us[i * sz+j]? =some u∧a7 w M u c)∧
 (∀(k l:Nat) (q r:Value×List (List CT)),qs[k]? =some q→qs[l]? =some r→k≠l→∀b,hblk q.1=some b→hblk r.1≠some b)
def eb(I:Nat→Prop)(H:Nat→Value)(Z:Nat→Nat)(w:World)(M:Nat→Prop)(i:Nat):MO→Prop
 |.box cs=>∃b ty vs,H i=.pointer (some ⟨b,0,none⟩)∧w.heap[b]? =some (.cells vs ty (0,0))∧vs.size=cs.length∧
   ∀(j:Nat) (c:SC),cs[j]? =some c→∃u:Value,vs[j]? =some u∧u.oneCell'=true∧bR I H Z w M u c
 |.arr nn e sz xs=>Z i=sz∧∃us,w.ownsRow 0 e sz (H i) xs.length us∧(nn=true→H i≠ .slice none 0 0)∧(∀x∈xs,x.length=sz)∧
   ∀(k:Nat) (x:List CT),xs[k]? =some x→∀(j:Nat) (c:CT),x[j]? =some c→∃u:Value,us[k * sz+j]? =some u∧a7 w M u c
 |.lo OP=>∃r es ck,H i=.map (some r)∧w.heap[r]? =some (.map es ck)∧es.size=OP.length∧
   ∀(j:Nat) (p:FV×FV),OP[j]? =some p→∃en:MapEntry,es[j]? =some en∧qR w M en.key p.1∧qR w M en.val p.2
 |.bG e sz qs=>H i=.func (.func 0) #[] (qs.map (·.1)).toArray∧ea w M e sz qs
theorem lD{w:World}{e sz:Nat}{v:Value}{n:Nat}{us:List Value}(h:w.ownsRow 0 e sz v n us):hblk v=v.ownBlock:=by
 rcases h.2 with⟨rfl,_⟩|⟨g,cap,cur,rfl,_⟩<;>rfl
theorem pM{w:World}{e sz:Nat}{v:Value}{n:Nat}{us:List Value}(h:w.ownsRow 0 e sz v n us)(b:Nat):Hb v b↔v.ownBlock=some b:=by
 rw[←lD h]
 rcases h.2 with⟨rfl,_⟩|⟨g,cap,cur,rfl,_⟩<;>exact Iff.rfl
theorem eb.mono{I I':Nat→Prop}{H H':Nat→Value}{Z Z':Nat→Nat}{w w':World}{M M':Nat→Prop}{i:Nat}{o:MO}(h:eb I H Z w M i o)
 (hi:H' i=H i∧Z' i=Z i)(o2:∀b,Hb (H i) b→w'.heap[b]? =w.heap[b]?)
 (hI:∀j∈o.bD,I j→I' j∧H' j=H j∧Z' j=Z j)
 (hs:w.heap.size≤w'.heap.size)(hb:∀b,b < w.heap.size→¬M b→w'.heap[b]? =w.heap[b]?)
 (hM:∀b,b < w.heap.size→M' b→M b):eb I' H' Z' w' M' i o:=by
 cases o with
 |box cs=>
  obtain⟨b,ty,vs,h1,h2,h3,h4⟩:=h
  refine⟨b,ty,vs,by rw[hi.1];exact h1,(o2 b (by rw[h1];rfl)).trans h2,h3,fun j c hc=>?_⟩
  obtain⟨u,hu,ho,hr⟩:=h4 j c hc
  exact⟨u,hu,ho,hr.mono (fun k hk=>hI k (by simp only[MO.bD,bt];exact⟨c,an hc,hk⟩)) hs hb hM⟩
 |arr nn e sz xs=>
  obtain⟨hz,us,h1,h2,h3,h4⟩:=h
  refine⟨hi.2.trans hz,us,?_,by rw[hi.1];exact h2,h3,fun k x hx j c hc=>let⟨u,hu,hr⟩:=h4 k x hx j c hc;⟨u,hu,hr.mono hs hb hM⟩⟩
  rw[hi.1]
  refine⟨h1.1,?_⟩
  rcases h1.2 with hh|⟨g,cap,cur,hv,hg,hh,rest⟩
  ·exact .inl hh
  ·exact .inr ⟨g,cap,cur,hv,hg,(o2 g (by rw[hv];rfl)).trans hh,rest⟩
 |lo OP=>
  obtain⟨r,es,ck,h1,h2,h3,h4⟩:=h
  refine⟨r,es,ck,by rw[hi.1];exact h1,(o2 r (by rw[h1];rfl)).trans h2,h3,fun j p hp=>?_⟩
  obtain⟨en,he,hk,hv⟩:=h4 j p hp
  exact⟨en,he,hk.mono hs hb hM,hv.mono hs hb hM⟩
 |bG e sz qs=>
  obtain⟨h1,h2,h3⟩:=h
  refine⟨by rw[hi.1];exact h1,fun k q hq=>?_,h3⟩
  obtain⟨us,g1,g2,g3⟩:=h2 k q hq
  have eL:q.1∈(qs.map (·.1)).toArray.toList:=by simpa using⟨q.2,an hq⟩
  refine⟨us,⟨g1.1,?_⟩,g2,fun i x hx j c hc=>let⟨u,hu,hr⟩:=g3 i x hx j c hc;⟨u,hu,hr.mono hs hb hM⟩⟩
  rcases g1.2 with hh|⟨g,cap,cur,hv,hg,hh,rest⟩
  ·exact .inl hh
  ·exact .inr ⟨g,cap,cur,hv,hg,(o2 g (by rw[h1];exact⟨q.1,eL,by rw[hv];rfl⟩)).trans hh,rest⟩
structure Ctx where
 P:Program
 w0:World
 M0:Nat→Prop
 W:Nat→Prop
 H0:Nat→Value
 V:Nat→Prop
 hV:∀b,V b→W b∧¬M0 b
def cU(C:Ctx)(H:Nat→Value)(mm:MM)(b:Nat):Prop:=C.M0 b∨∃p∈mm,Hb (H p.1) b
def cD(mm:MM)(i:Nat):Prop:=∃p∈mm,p.1=i
def given:Nat:=100000
structure Mod(C:Ctx)(H:Nat→Value)(Z:Nat→Nat)(n:Nat)(tm:TM)(mm:MM)(a:Act)(w:World):Prop where
 defers:a.defers=[]
 size:a.tmps.size=n
 L9:n≤given
 hg:∀p∈mm,given≤p.1→H p.1=C.H0 p.1
 ext:Ext C.W C.w0 w
 m0:∀b,C.M0 b→b < C.w0.heap.size
 ids:∀p∈mm,∀q∈mm,p.1=q.1→p=q
 mem:∀p∈mm,eb (cD mm) H Z w (cU C H mm) p.1 p.2
 fresh:∀p∈mm,∀b,Hb (H p.1) b→((p.1 < given∧(C.w0.heap.size≤b∨C.V b))∨(given≤p.1∧(C.W b∨C.w0.heap.size≤b)))∧b < w.heap.size
 sep:∀p∈mm,∀q∈mm,p.1≠q.1→∀b,Hb (H p.1) b→¬Hb (H q.1) b
 tmps:∀p∈tm,fy (cD mm) H Z w (cU C H mm) (a.tmps.getD p.1 undef) p.2
end Go.Sy
namespace Go.Sy
open Go.RowKit
def Has(C:Ctx)(n:Nat)(tm:TM)(mm:MM)(a:Act)(w:World):Prop:=∃H Z,Mod C H Z n tm mm a w
def QT(C:Ctx)(n:Nat)(T:TM→MM→Prop):Exit→Act→World→Prop
 |.normal,a,w=>∃tm mm,T tm mm∧Has C n tm mm a w
 |_,_,_=>False
def SOps(C:Ctx)(n:Nat)(ops:Array Oper)(l:List Oper)(tm:TM)(mm:MM)(T:TM→MM→Prop):Prop:=
 ∀a w,Has C n tm mm a w→wpList C.P ops (QT C n T) l a w
def LW(C:Ctx)(n:Nat)(o:Oper)(tm:TM)(mm:MM)(tm':TM)(mm':MM):Prop:=
 ∀a w (K:Act→World→Prop) (Q:Exit→Act→World→Prop),Has C n tm mm a w→(∀a' w',Has C n tm' mm' a' w'→K a' w')→o.wp C.P a w K Q
def yW(C:Ctx)(n:Nat)(o:Oper)(tm:TM)(mm:MM)(tm':TM)(mm':MM):Prop:=
 ∀a w,Has C n tm mm a w→(∃v w',(execOp a.eval o).run C.P w=.ok (.value v) w'∧Has C n tm' mm' (a.put o.dst v) w')∨
  (∃w',(execOp a.eval o).run C.P w=.ok .skip w'∧Has C n tm' mm' (a.put o.dst undef) w')
theorem yW.wp{C:Ctx}{n:Nat}{o:Oper}{tm tm':TM}{mm mm':MM}(h:yW C n o tm mm tm' mm'):LW C n o tm mm tm' mm':=by
 intro a w K Q hh hK
 unfold Oper.wp
 rcases h a w hh with⟨v,w',hr,hm⟩|⟨w',hr,hm⟩
 ·rw[hr];exact hK _ _ hm
 ·rw[hr];exact hK _ _ hm
section
variable {C:Ctx} {n:Nat} {ops:Array Oper} {l:List Oper} {tm tm':TM} {mm mm':MM} {T:TM→MM→Prop} {o:Oper}
theorem SOps.nil(h:T tm mm):SOps C n ops [] tm mm T:=fun _ _ hh=>⟨tm,mm,h,hh⟩
def wX(tm:TM)(t:Nat):Option Bool:=
 match tm with
 |[]=>none
 |(e,u)::r=>match Nat.beq e t with
  |true=>match u with
   |.v (.one (.lit true))=>some true
   |.v (.one (.lit false))=>some false
   |_=>none
  |false=>wX r t
theorem Cj{b:Bool}{t:Nat}(h:wX tm t=some b):(t,ST.v (.one (.lit b)))∈tm:=by
 induction tm with
 |nil=>simp[wX]at h
 |cons p r ih=>
  obtain⟨e,u⟩:=p
  unfold wX at h
  cases hb:Nat.beq e t with
  |true=>
   have he:e=t:=aR hb
   subst he
   rw[hb]at h
   simp only at h
   split at h
   ·injection h with h;subst h;exact ah
   ·injection h with h;subst h;exact ah
   ·cases h
  |false=>
   rw[hb]at h
   exact ab _ (ih h)
def Pj(tm:TM)(t:Nat):Option Bool:=
 match tm with
 |[]=>none
 |(e,u)::r=>match Nat.beq e t with
  |true=>match u with
   |.gE []=>some false
   |_=>none
  |false=>Pj r t
theorem HM{t:Nat}{b:Bool}(h:Pj tm t=some b):b=false∧(t,ST.gE [])∈tm:=by
 induction tm with
 |nil=>simp[Pj]at h
 |cons p r ih=>
  obtain⟨e,u⟩:=p
  unfold Pj at h
  cases hb:Nat.beq e t with
  |true=>
   have he:e=t:=aR hb
   subst he
   rw[hb]at h
   simp only at h
   split at h
   ·injection h with h;exact⟨h.symm,ah⟩
   ·cases h
  |false=>
   rw[hb]at h
   exact⟨(ih h).1,ab _ (ih h).2⟩
def pF(ops:Array Oper)(tm:TM)(o:Oper):Option Bool:=
 match o.guard with
 |none=>some true
 |some (j,want)=>
  match ops[j]? with
  |none=>none
  |some oj=>
   match oj.dst with
   |none=>none
   |some t=>
    match wX tm t with
    |none=>Pj tm t
    |some b=>some (match b,want with|true,true=>true|false,false=>true|_,_=>false)
theorem iw{a:Act}{w:World}{b:Bool}(h:pF ops tm o=some b)(hh:Has C n tm mm a w):Region.wanted o (yielded ops a.tmps)=b:=by
 obtain⟨H,Z,hm⟩:=hh
 unfold pF at h
 unfold Region.wanted
 split at h
 ·rename_i hg;rw[hg];injection h
 ·rename_i j want hg
  rw[hg]
  split at h
  ·cases h
  ·rename_i oj QC
   split at h
   ·cases h
   ·rename_i t ht
    split at h
    ·obtain⟨rfl,dL⟩:=HM h
     obtain⟨vs,hv,c8,_⟩:=hm.tmps _ dL
     have hv:a.tmps.getD t undef=.tuple vs:=hv
     have hy:yielded ops a.tmps j=none:=by
      unfold yielded
      rw[cN]at hv
      cases hq:a.tmps[t]? with
      |none=>simp[QC,ht,hq]
      |some x=>rw[hq]at hv;simp at hv;subst hv;simp[QC,ht,hq]
     simp only[hy]
     cases want<;>rfl
    ·rename_i b' pP
     have dL:=hm.tmps _ (Cj pP)
     have hv:a.tmps.getD t undef=.bool b':=dL
     have hy:yielded ops a.tmps j=some b':=by
      unfold yielded
      have:a.tmps[t]? =some (.bool b'):=by
       rw[cN]at hv
       cases hq:a.tmps[t]? with
       |none=>rw[hq]at hv;simp[undef]at hv
       |some x=>rw[hq]at hv;simpa using hv
      simp[QC,ht,this]
     simp only[hy]
     injection h with h
     rw[←h]
     cases b'<;>cases want<;>rfl
theorem SOps.step(hg:pF ops tm o=some true)(h:LW C n o tm mm tm' mm')(k:SOps C n ops l tm' mm' T):SOps C n ops (o::l) tm mm T:=by
 intro a w hh
 unfold wpList
 rw[if_pos (iw hg hh)]
 exact .inl (h a w _ _ hh (fun a' w' h'=>k a' w' h'))
def bw(tm:TM)(d:Nat):TM:=
 match tm with
 |[]=>[]
 |(e,u)::r=>match Nat.beq e d with
  |true=>bw r d
  |false=>(e,u)::bw r d
theorem b4{d:Nat}{p:Nat×ST}(h:p∈bw tm d):p∈tm∧p.1≠d:=by
 induction tm with
 |nil=>simp[bw]at h
 |cons q r ih=>
  obtain⟨e,u⟩:=q
  unfold bw at h
  cases hb:Nat.beq e d with
  |true=>rw[hb]at h;exact⟨ab _ (ih h).1,(ih h).2⟩
  |false=>
   rw[hb]at h
   rcases ae.1 h with rfl|h
   ·exact⟨ah,fun he=>by rw[show e=d from he]at hb;simp at hb⟩
   ·exact⟨ab _ (ih h).1,(ih h).2⟩
def Rm(tm:TM)(d:Option Nat):TM:=
 match d with
 |none=>tm
 |some d=>bw tm d
theorem fu{a:Act}{d t:Nat}{v:Value}(h:t≠d):(a.put (some d) v).tmps.getD t undef=a.tmps.getD t undef:=by
 simp[Act.put,cN,Array.getElem?_setIfInBounds_ne (Ne.symm h)]
theorem gQ{a:Act}{d:Nat}{v:Value}(h:d < a.tmps.size):(a.put (some d) v).tmps.getD d undef=v:=by
 simp[Act.put,cN,h]
theorem Mod.sub{H:Nat→Value}{Z:Nat→Nat}{a:Act}{w:World}(h:Mod C H Z n tm mm a w)(hs:∀p∈tm',p∈tm):Mod C H Z n tm' mm a w:=
 {h with tmps:=fun p hp=>h.tmps p (hs p hp)}
theorem Mod.BD{H:Nat→Value}{Z:Nat→Nat}{a:Act}{w:World}(h:Mod C H Z n tm mm a w){d:Nat}(hd:d < n){v:Value}{st:ST}
 (hr:fy (cD mm) H Z w (cU C H mm) v st):Mod C H Z n ((d,st)::bw tm d) mm (a.put (some d) v) w:=
 {h with
  size:=by simp[Act.put,h.size]
  tmps:=by
   intro p hp
   rcases ae.1 hp with rfl|hp
   ·rw[gQ (by rw[h.size];exact hd)];exact hr
   ·obtain⟨h1,h2⟩:=b4 hp
    rw[fu h2]
    exact h.tmps p h1}
theorem Mod.M6{H:Nat→Value}{Z:Nat→Nat}{a:Act}{w:World}(h:Mod C H Z n tm mm a w)(d:Option Nat)(v:Value):Mod C H Z n (Rm tm d) mm (a.put d v) w:=by
 cases d with
 |none=>exact h
 |some d=>
  exact{h with
   size:=by simp[Act.put,h.size]
   tmps:=by
    intro p hp
    obtain⟨h1,h2⟩:=b4 hp
    rw[fu h2]
    exact h.tmps p h1}
theorem SOps.skip(hg:pF ops tm o=some false)(k:SOps C n ops l (Rm tm o.dst) mm T):SOps C n ops (o::l) tm mm T:=by
 intro a w hh
 unfold wpList
 rw[if_neg (by rw[iw hg hh];simp)]
 obtain⟨H,Z,hm⟩:=hh
 exact k _ _ ⟨H,Z,hm.M6 _ _⟩
theorem SOps.PJ{d:Nat}(hg:pF ops tm o=some false)(hd:o.dst=some d)(hn:Nat.blt d n=true)(k:SOps C n ops l ((d,.gE [])::bw tm d) mm T):SOps C n ops (o::l) tm mm T:=by
 intro a w hh
 unfold wpList
 rw[if_neg (by rw[iw hg hh];simp)]
 obtain⟨H,Z,hm⟩:=hh
 rw[hd]
 exact k _ _ ⟨H,Z,hm.BD (aY.mp hn) ⟨#[],rfl,rfl,fun j c hc=>by simp at hc⟩⟩
theorem SOps.split{t:Nat}{b:Bool}(hm:(t,ST.v (.one (.c (.bool b))))∈tm)
 (h1:b=true→SOps C n ops l ((t,ST.v (.one (.lit true)))::bw tm t) mm T)
 (h2:b=false→SOps C n ops l ((t,ST.v (.one (.lit false)))::bw tm t) mm T):SOps C n ops l tm mm T:=by
 intro a w hh
 obtain⟨H,Z,dC⟩:=hh
 have hv:a.tmps.getD t undef=.bool b:=a7.nS (dC.tmps _ hm)
 have key:∀b':Bool,b=b'→Has C n ((t,ST.v (.one (.lit b')))::bw tm t) mm a w:=by
  intro b' hb
  refine⟨H,Z,{dC with tmps:=?_}⟩
  intro p hp
  rcases ae.1 hp with rfl|hp
  ·show _=_;rw[←hb];exact hv
  ·exact dC.tmps p (b4 hp).1
 cases b with
 |true=>exact h1 J a w (key true J)
 |false=>exact h2 J a w (key false J)
end
theorem Mod.build{C:Ctx}{n:Nat}{tm tm':TM}{mm mm':MM}{H H':Nat→Value}{Z Z':Nat→Nat}{a a':Act}{w w':World}
 (h:Mod C H Z n tm mm a w)(X:Nat→Prop)
 (ec:Ext X w w')(hX:∀b,b < w.heap.size→X b→∃p∈mm,Hb (H p.1) b)
 (Is:a'.defers=[])(nF:a'.tmps.size=n)
 (R2:∀p∈mm',given≤p.1→H' p.1=C.H0 p.1)
 (Im:∀p∈mm',∀q∈mm',p.1=q.1→p=q)
 (dL:∀p∈mm',(p∈mm∧H' p.1=H p.1∧Z' p.1=Z p.1∧(∀b,Hb (H p.1) b→¬X b)∧
   (∀j∈p.2.bD,cD mm j→cD mm' j∧H' j=H j∧Z' j=Z j))∨
   ((∀b,Hb (H' p.1) b→(w.heap.size≤b∧b < w'.heap.size)∨
      (∃q∈mm,Hb (H q.1) b∧(p.1=q.1∨(q.1 < given∧p.1 < given))))∧
     ((∀b,b < w.heap.size→cU C H' mm' b→cU C H mm b)→(∀b,b < w.heap.size→¬cU C H mm b→w'.heap[b]? =w.heap[b]?)→
       eb (cD mm') H' Z' w' (cU C H' mm') p.1 p.2)))
 (NU:∀p∈mm',∀q∈mm',p.1≠q.1→∀b,Hb (H' p.1) b→¬Hb (H' q.1) b)
 (Qf:∀p∈tm',(∃q∈tm,q.2=p.2∧a'.tmps.getD p.1 undef=a.tmps.getD q.1 undef∧(∀j∈p.2.bD,cD mm j→cD mm' j∧H' j=H j∧Z' j=Z j))∨
   ((∀b,b < w.heap.size→cU C H' mm' b→cU C H mm b)→(∀b,b < w.heap.size→¬cU C H mm b→w'.heap[b]? =w.heap[b]?)→
     fy (cD mm') H' Z' w' (cU C H' mm') (a'.tmps.getD p.1 undef) p.2)):Mod C H' Z' n tm' mm' a' w':=by
 have iH:∀b,b < w.heap.size→cU C H' mm' b→cU C H mm b:=by
  intro b hb hm
  rcases hm with hm|⟨p,hp,cC⟩
  ·exact .inl hm
  ·rcases dL p hp with⟨k1,k2,_⟩|⟨k1,_⟩
   ·exact .inr ⟨p,k1,by rw[←k2];exact cC⟩
   ·rcases k1 b cC with k|⟨q,hq,db,_⟩
    ·omega
    ·exact .inr ⟨q,hq,db⟩
 have iA:∀b,b < w.heap.size→¬cU C H mm b→w'.heap[b]? =w.heap[b]? :=by
  intro b hb hm
  exact ec.block b hb (fun hx=>hm (.inr (hX b hb hx)))
 refine⟨Is,nF,h.L9,R2,?_,h.m0,Im,?_,?_,NU,?_⟩
 ·refine h.ext.trans ec (fun b hb hx=>?_)
  obtain⟨p,hp,cC⟩:=hX b (bX hb h.ext.size) hx
  rcases(h.fresh p hp b cC).1 with⟨_,k|k⟩|⟨_,k|k⟩
  ·omega
  ·exact(C.hV b k).1
  ·exact k
  ·omega
 ·intro p hp
  rcases dL p hp with⟨k1,k2,k3,k4,k5⟩|⟨_,k2⟩
  ·refine(h.mem p k1).mono ⟨k2,k3⟩ (fun b hb=>?_) k5 ec.size iA iH
   exact ec.block b (h.fresh p k1 b hb).2 (k4 b hb)
  ·exact k2 iH iA
 ·intro p hp b hb
  rcases dL p hp with⟨k1,k2,_⟩|⟨k1,_⟩
  ·rw[k2]at hb
   obtain⟨e1,e2⟩:=h.fresh p k1 b hb
   exact⟨e1,bX e2 ec.size⟩
  ·rcases k1 b hb with⟨e1,e2⟩|⟨q,hq,db,e⟩
   ·refine⟨?_,e2⟩
    have e3:=dN h.ext.size e1
    rcases cn p.1 given with e4|e4
    ·exact .inl ⟨e4,.inl e3⟩
    ·exact .inr ⟨e4,.inr e3⟩
   ·obtain⟨e1,e2⟩:=h.fresh q hq b db
    refine⟨?_,bX e2 ec.size⟩
    rcases e with e|⟨eq,ep⟩
    ·rw[e];exact e1
    ·rcases e1 with⟨_,e1⟩|⟨e1,_⟩
     ·exact .inl ⟨ep,e1⟩
     ·omega
 ·intro p hp
  rcases Qf p hp with⟨q,hq,e1,e2,e3⟩|k
  ·rw[e2]
   have:=h.tmps q hq
   rw[e1]at this
   exact this.mono e3 ec.size iA iH
  ·exact k iH iA
end Go.Sy
namespace Go.Sy
open Go.RowKit
inductive Sh where
 |bool
 |int (k:IntKind)
 |string
 |struct (fs:List (Nat×Nat))
 |arr (len elem:Nat)
 |slice (elem:Nat)
 |map (k e:Nat)
 |other
structure gD where
 size:Nat
 bytes:Nat
 agg:Bool
 zero:Option (List CT)
 sh:Sh
def Db:Value→CT→Bool
 |.int k n,.int k' n'=>decide (k=k')&&decide (n=n')
 |.bool b,.bool b'=>b==b'
 |.string s,.str s'=>s.data.toList==s'.data.toList
 |.slice none 0 0,.bK=>true
 |_,_=>false
def r8:List Value→List CT→Bool
 |[],[]=>true
 |v::vs,c::cs=>Db v c&&r8 vs cs
 |_,_=>false
def F7(agg:Bool)(z:Value)(cs:List CT):Bool:=
 match agg,z with
 |true,.agg vs=>r8 vs.toList cs
 |true,_=>false
 |false,v=>r8 [v] cs
def eR(P:Program):TypeDesc→Sh→Bool
 |.bool,.bool=>true
 |.int k,.int k'=>decide (k=k')
 |.string,.string=>true
 |.struct fs,.struct os=>fs.toList.map (fun f=>(f.offset,f.type))==os&&fs.all (fun f=>P.cellsOf f.type !=0)
 |.array n e,.arr n' e'=>n==n'&&e==e'
 |.slice e,.slice e'=>e==e'
 |.map k e,.map k' e'=>k==k'&&e==e'
 |_,.other=>true
 |_,_=>false
def MN:TypeDesc→Bool
 |.struct _|.array _ _=>true
 |_=>false
def Gd(P:Program)(t:Nat)(i:gD):Bool:=
 match P.info? t,P.underlying t with
 |some inf,some d=>inf.size==i.size&&(inf.bytes==i.bytes&&(MN d==i.agg&&(eR P d i.sh&&
   (match i.zero with
    |none=>true
    |some cs=>match inf.zero with
     |none=>false
     |some z=>F7 i.agg z cs&&cs.length==i.size))))
 |_,_=>false
abbrev dD:=List (Nat×gD)
def bz(P:Program)(Θ:dD):Prop:=∀p∈Θ,Gd P p.1 p.2=true
theorem y5{P:Program}{Θ:dD}(h:Θ.all (fun p=>Gd P p.1 p.2)=true):bz P Θ:=by
 intro p hp
 exact(aV.1 h) p hp
def aZ(Θ:dD)(t:Nat):Option gD:=
 match Θ with
 |[]=>none
 |(e,i)::r=>match Nat.beq e t with
  |true=>some i
  |false=>aZ r t
theorem Em{Θ:dD}{t:Nat}{i:gD}(h:aZ Θ t=some i):(t,i)∈Θ:=by
 induction Θ with
 |nil=>simp[aZ]at h
 |cons p r ih=>
  obtain⟨e,u⟩:=p
  unfold aZ at h
  cases hb:Nat.beq e t with
  |true=>
   have he:e=t:=aR hb
   subst he
   rw[hb]at h
   injection h with h;subst h;exact ah
  |false=>rw[hb]at h;exact ab _ (ih h)
theorem Ek{w:World}{M:Nat→Prop}{v:Value}{c:CT}(h:Db v c=true):a7 w M v c:=by
 unfold Db at h
 split at h
 ·simp at h;obtain⟨rfl,rfl⟩:=h;exact .int _ _
 ·simp at h;subst h;exact .bool _
 ·rename_i s s'
  simp at h
  have:s=s':=by
   cases s;cases s';simp at h⊢;exact h
  subst this;exact .str _
 ·exact .bK
 ·cases h
theorem qZ{w:World}{M:Nat→Prop}:∀{vs:List Value} {cs:List CT},r8 vs cs=true→
 vs.length=cs.length∧∀(j:Nat) (c:CT),cs[j]? =some c→∃u:Value,vs[j]? =some u∧a7 w M u c
 |[],[],_=>⟨rfl,fun j c h=>by simp at h⟩
 |[],_::_,h=>by simp[r8]at h
 |_::_,[],h=>by simp[r8]at h
 |v::vs,c::cs,h=>by
  simp only[r8,ax]at h
  obtain⟨h1,h2⟩:=qZ (w:=w) (M:=M) h.2
  refine⟨by simp[h1],fun j d hd=>?_⟩
  cases j with
  |zero=>
   simp at hd;subst hd
   exact⟨v,by simp,Ek h.1⟩
  |succ j=>
   simp at hd
   simpa using h2 j d hd
structure C3(P:Program)(t:Nat)(i:gD)(inf:TypeInfo)(d:TypeDesc):Prop where
 info:P.info? t=some inf
 Dd:P.underlying t=some d
 size:inf.size=i.size
 bytes:inf.bytes=i.bytes
 agg:MN d=i.agg
 sh:eR P d i.sh=true
 zero:∀cs,i.zero=some cs→∃z,inf.zero=some z∧F7 i.agg z cs=true∧cs.length=i.size
theorem jH{P:Program}{Θ:dD}(bI:bz P Θ){t:Nat}{i:gD}(h:aZ Θ t=some i):∃inf d,C3 P t i inf d:=by
 have hc:=bI _ (Em h)
 unfold Gd at hc
 split at hc
 ·rename_i inf d h1 h2
  simp only[ax]at hc
  obtain⟨c1,c2,c3,c4,c5⟩:=hc
  refine⟨inf,d,h1,h2,by simpa using c1,by simpa using c2,by simpa using c3,c4,fun cs sR=>?_⟩
  rw[sR]at c5
  simp only at c5
  cases hz:inf.zero with
  |none=>rw[hz]at c5;cases c5
  |some z=>
   rw[hz]at c5
   simp only[ax]at c5
   exact⟨z,rfl,c5.1,by simpa using c5.2⟩
 ·cases hc
theorem e7{w:World}{M:Nat→Prop}{agg:Bool}{z:Value}{cs:List CT}(h:F7 agg z cs=true):
 z.cells.size=cs.length∧∀(j:Nat) (c:CT),cs[j]? =some c→∃u:Value,z.cells[j]? =some u∧a7 w M u c:=by
 unfold F7 at h
 split at h
 ·rename_i vs
  obtain⟨h1,h2⟩:=qZ (w:=w) (M:=M) h
  exact⟨by simpa[Value.cells]using h1,fun j c hc=>by simpa[Value.cells]using h2 j c hc⟩
 ·cases h
 ·obtain⟨h1,h2⟩:=qZ (w:=w) (M:=M) h
  cases cs with
  |nil=>simp at h1
  |cons c cs=>
   cases cs with
   |cons d cs=>simp at h1
   |nil=>
    obtain⟨u,hu,hr⟩:=h2 0 c J
    simp at hu;subst hu
    rw[hr.cells]
    exact⟨rfl,fun j d hd=>by
     cases j with
     |zero=>simp at hd;subst hd;exact⟨_,rfl,hr⟩
     |succ j=>simp at hd⟩
section
variable {P:Program} {w:World}
theorem C3.typeInfo{t:Nat}{i:gD}{inf:TypeInfo}{d:TypeDesc}(h:C3 P t i inf d):(typeInfo t).run P w=.ok inf w:=by
 simp[Go.typeInfo,h.info]
theorem C3.sizeOf{t:Nat}{i:gD}{inf:TypeInfo}{d:TypeDesc}(h:C3 P t i inf d):(sizeOf t).run P w=.ok i.size w:=by
 simp[Go.sizeOf,h.typeInfo,h.size]
theorem C3.underlying{t:Nat}{i:gD}{inf:TypeInfo}{d:TypeDesc}(h:C3 P t i inf d):(underlying t).run P w=.ok d w:=run_underlying h.Dd w
theorem C3.isAgg{t:Nat}{i:gD}{inf:TypeInfo}{d:TypeDesc}(h:C3 P t i inf d):(isAgg t).run P w=.ok i.agg w:=by
 rw[←h.agg]
 simp only[Go.isAgg,Sem.run_bind,h.underlying,Result.andThen_ok]
 cases d<;>rfl
theorem C3.zeroValue{t:Nat}{i:gD}{inf:TypeInfo}{d:TypeDesc}(h:C3 P t i inf d){z:Value}(hz:inf.zero=some z):(zeroValue t).run P w=.ok z w:=by
 simp[Go.zeroValue,h.typeInfo,hz]
end
def CR:Value→Option ST
 |.int k n=>some (.v (.one (.c (.int k n))))
 |.bool b=>some (.v (.one (.lit b)))
 |.string s=>some (.v (.one (.c (.str s))))
 |.slice none 0 0=>some (.v (.one (.c .bK)))
 |_=>none
def iX(tm:TM)(t:Nat):Option ST:=
 match tm with
 |[]=>none
 |(e,u)::r=>match Nat.beq e t with
  |true=>some u
  |false=>iX r t
theorem gk{tm:TM}{t:Nat}{st:ST}(h:iX tm t=some st):(t,st)∈tm:=by
 induction tm with
 |nil=>simp[iX]at h
 |cons p r ih=>
  obtain⟨e,u⟩:=p
  unfold iX at h
  cases hb:Nat.beq e t with
  |true=>
   have he:e=t:=aR hb
   subst he
   rw[hb]at h
   injection h with h;subst h;exact ah
  |false=>rw[hb]at h;exact ab _ (ih h)
def lv(tm:TM):Operand→Option ST
 |.tmp t=>iX tm t
 |.const v=>CR v
 |.func f=>some (.v (.one (.ku f [])))
 |_=>none
theorem CQ{I:Nat→Prop}{H:Nat→Value}{Z:Nat→Nat}{w:World}{M:Nat→Prop}{v:Value}{st:ST}(h:CR v=some st):fy I H Z w M v st:=by
 unfold CR at h
 split at h<;>first|(injection h with h;subst h;first|exact .int _ _|rfl|exact .str _|exact .bK)|cases h
theorem jA{C:Ctx}{H:Nat→Value}{Z:Nat→Nat}{n:Nat}{tm:TM}{mm:MM}{a:Act}{w:World}(h:Mod C H Z n tm mm a w)
 {x:Operand}{st:ST}(he:lv tm x=some st):fy (cD mm) H Z w (cU C H mm) (a.eval x) st:=by
 cases x with
 |tmp t=>exact h.tmps _ (gk he)
 |const v=>exact CQ he
 |global g=>cases he
 |func f=>injection he with he;subst he;exact⟨(fun i hi=>by cases hi),[],rfl,rfl,fun j i hj=>by simp at hj⟩
def dM(tm:TM)(x:Operand):Option SV:=
 match lv tm x with
 |some (.v s)=>some s
 |_=>none
theorem ee{C:Ctx}{H:Nat→Value}{Z:Nat→Nat}{n:Nat}{tm:TM}{mm:MM}{a:Act}{w:World}(h:Mod C H Z n tm mm a w)
 {x:Operand}{s:SV}(he:dM tm x=some s):cF (cD mm) H Z w (cU C H mm) (a.eval x) s:=by
 unfold dM at he
 split at he
 ·rename_i s' hs
  injection he with he;subst he
  exact jA h hs
 ·cases he
def aW(tm:TM)(x:Operand):Option SC:=
 match lv tm x with
 |some (.v (.one s))=>some s
 |_=>none
theorem aX{C:Ctx}{H:Nat→Value}{Z:Nat→Nat}{n:Nat}{tm:TM}{mm:MM}{a:Act}{w:World}(h:Mod C H Z n tm mm a w)
 {x:Operand}{s:SC}(he:aW tm x=some s):bR (cD mm) H Z w (cU C H mm) (a.eval x) s:=by
 unfold aW at he
 split at he
 ·rename_i s' hs
  injection he with he;subst he
  exact jA h hs
 ·cases he
section
variable {C:Ctx} {n:Nat} {tm:TM} {mm:MM} {o:Oper} {d:Nat}
def eO(C:Ctx)(n:Nat)(o:Oper)(tm:TM)(mm:MM)(d:Nat)(st:ST):Prop:=
 (o.dst=some d∧Nat.blt d n=true)∧∀H Z a w,Mod C H Z n tm mm a w→∃v,(execOp a.eval o).run C.P w=.ok (.value v) w∧fy (cD mm) H Z w (cU C H mm) v st
theorem eO.val(hd:o.dst=some d)(hn:Nat.blt d n=true)(st:ST)
 (h:∀H Z a w,Mod C H Z n tm mm a w→∃v,(execOp a.eval o).run C.P w=.ok (.value v) w∧fy (cD mm) H Z w (cU C H mm) v st):
 eO C n o tm mm d st:=⟨⟨hd,hn⟩,h⟩
theorem eO.Vg{st:ST}(h:eO C n o tm mm d st):yW C n o tm mm ((d,st)::bw tm d) mm:=by
 intro a w ⟨H,Z,hm⟩
 obtain⟨⟨hd,hn⟩,h⟩:=h
 obtain⟨v,h1,h2⟩:=h H Z a w hm
 exact .inl ⟨v,w,h1,H,Z,by rw[hd];exact hm.BD (aY.mp hn) h2⟩
theorem eO.wp{st:ST}(h:eO C n o tm mm d st):LW C n o tm mm ((d,st)::bw tm d) mm:=h.Vg.wp
theorem Ke{x:Operand}{st:ST}(ho:o.op=.move x)(he:lv tm x=some st)(hd:o.dst=some d)(hn:Nat.blt d n=true):
 eO C n o tm mm d (st):=
 eO.val hd hn st fun H Z a w hm=>⟨a.eval x,by simp[execOp,ho],jA hm he⟩
theorem EL{x:Operand}{st:ST}(ho:o.op=.assign x)(he:lv tm x=some st)(hd:o.dst=some d)(hn:Nat.blt d n=true):
 eO C n o tm mm d (st):=
 eO.val hd hn st fun H Z a w hm=>⟨a.eval x,by simp[execOp,ho],jA hm he⟩
theorem DB{c x y:Operand}{st:ST}{b:Bool}(ho:o.op=.pick c x y)(hc:aW tm c=some (.lit b))
 (he:lv tm (match b with|true=>x|false=>y)=some st)(hd:o.dst=some d)(hn:Nat.blt d n=true):
 eO C n o tm mm d (st):=
 eO.val hd hn st fun H Z a w hm=>by
  have h1:a.eval c=.bool b:=aX hm hc
  cases b with
  |true=>exact⟨a.eval x,by simp[execOp,ho,h1,asBool],jA hm he⟩
  |false=>exact⟨a.eval y,by simp[execOp,ho,h1,asBool],jA hm he⟩
def I9:SC→Option Bool
 |.lit b=>some b
 |.c (.bool b)=>some b
 |_=>none
def sy(tm:TM)(x:Operand):Option Bool:=
 match aW tm x with
 |some s=>I9 s
 |none=>none
theorem rT{H:Nat→Value}{Z:Nat→Nat}{a:Act}{w:World}(h:Mod C H Z n tm mm a w){x:Operand}{b:Bool}(he:sy tm x=some b):a.eval x=.bool b:=by
 unfold sy at he
 split at he
 ·rename_i s hs
  have:=aX h hs
  cases s<;>simp only[I9]at he<;>try(cases he;done)
  ·rename_i c
   cases c<;>simp only at he<;>try(cases he;done)
   injection he with he;subst he
   exact a7.nS this
  ·injection he with he;subst he;exact this
 ·cases he
theorem Nc{x:Operand}{b:Bool}{ty:Nat}(ho:o.op=.unOp .not ty x)(hc:sy tm x=some b)(hd:o.dst=some d)(hn:Nat.blt d n=true):
 eO C n o tm mm d (.v (.one (.c (.bool (!b))))):=
 eO.val hd hn _ fun H Z a w hm=>by
  have h1:a.eval x=.bool b:=rT hm hc
  exact⟨.bool (!b),by simp[execOp,ho,h1,Op.unary],.bool _⟩
def OU:BinOp→Int→Int→Option Bool
 |.eql,x,y=>some (decide (x=y))
 |.neq,x,y=>some (!decide (x=y))
 |.lss,x,y=>some (decide (x < y))
 |.leq,x,y=>some (decide (x≤y))
 |.gtr,x,y=>some (decide (y < x))
 |.geq,x,y=>some (decide (y≤x))
 |_,_,_=>none
theorem Kj{p:BinOp}{k:IntKind}{t t':Nat}{x y:Operand}{m q:Int}{b:Bool}(ho:o.op=.binOp p t x y t')
 (hx:aW tm x=some (.c (.int k m)))(hy:aW tm y=some (.c (.int k q)))(hb:OU p m q=some b)(hd:o.dst=some d)(hn:Nat.blt d n=true):
 eO C n o tm mm d (.v (.one (.c (.bool b)))):=
 eO.val hd hn _ fun H Z a w hm=>by
  have h1:a.eval x=.int k m:=a7.cH (aX hm hx)
  have h2:a.eval y=.int k q:=a7.cH (aX hm hy)
  refine⟨.bool b,?_,.bool _⟩
  cases p<;>simp only[OU]at hb<;>first
   |(cases hb;done)
   |(injection hb with hb;subst hb
     simp[execOp,ho,h1,h2,eqGuard,binOp,Op.intCmp]
     try first|rfl|(by_cases Mk:m=q<;>simp[Mk]))
theorem toList_inj{a b:ByteArray}:(a.toList==b.toList)=decide (a=b):=by
 have h:∀s:ByteArray,s.toList=s.data.toList:=fun s=>ByteArray.toList_eq s
 by_cases vN:a=b
 ·subst vN;simp
 ·simp[h,vN]
  intro hh
  apply vN
  cases a;cases b;simp at hh⊢;exact hh
def gL(x y:ByteArray):Bool:=Op.bytesLess x.toList y.toList
def qH:BinOp→ByteArray→ByteArray→Option Bool
 |.eql,x,y=>some (decide (x=y))
 |.neq,x,y=>some (!decide (x=y))
 |.lss,x,y=>some (gL x y)
 |.leq,x,y=>some (gL x y||decide (x=y))
 |.gtr,x,y=>some (!(gL x y||decide (x=y)))
 |.geq,x,y=>some (!gL x y)
 |_,_,_=>none
theorem Ki{p:BinOp}{t t':Nat}{x y:Operand}{m q:ByteArray}{b:Bool}(ho:o.op=.binOp p t x y t')
 (hx:aW tm x=some (.c (.str m)))(hy:aW tm y=some (.c (.str q)))(hb:qH p m q=some b)(hd:o.dst=some d)(hn:Nat.blt d n=true):
 eO C n o tm mm d (.v (.one (.c (.bool b)))):=
 eO.val hd hn _ fun H Z a w hm=>by
  have h1:a.eval x=.string m:=a7.fo (aX hm hx)
  have h2:a.eval y=.string q:=a7.fo (aX hm hy)
  refine⟨.bool b,?_,.bool _⟩
  cases p<;>simp only[qH]at hb<;>first
   |(cases hb;done)
   |(injection hb with hb;subst hb
     simp only[execOp,ho,h1,h2,Sem.run_bind]
     simp[eqGuard,binOp,Op.stringOp,toList_inj,gL])
theorem DC{p:BinOp}{t t':Nat}{x y:Operand}{m q:Bool}{Θ:dD}(bI:bz C.P Θ){z:Nat}{dG:Nat}{ag:Bool}{zr:Option (List CT)}
 (ho:o.op=.binOp p t x y t')(ht:aZ Θ t=some ⟨z,dG,ag,zr,.bool⟩)
 (hp:p=.eql∨p=.neq)(hx:sy tm x=some m)(hy:sy tm y=some q)(hd:o.dst=some d)(hn:Nat.blt d n=true):
 eO C n o tm mm d (.v (.one (.c (.bool (match p with|.eql=>m==q|_=>m !=q))))):=
 eO.val hd hn _ fun H Z a w hm=>by
  have h1:a.eval x=.bool m:=rT hm hx
  have h2:a.eval y=.bool q:=rT hm hy
  obtain⟨inf,de,hf⟩:=jH bI ht
  have kZ:de=.bool:=by
   have:=hf.sh
   cases de<;>simp[eR]at this⊢
  subst kZ
  refine⟨.bool (match p with|.eql=>m==q|_=>m !=q),?_,.bool _⟩
  have he:(Op.equal t (.bool m) (.bool q)).run C.P w=.ok (m==q) w:=run_equalIn_bool w 9999 t m q hf.Dd
  rcases hp with rfl|rfl
  ·simp only[execOp,ho,h1,h2,Sem.run_bind]
   simp only[eqGuard,binOp,Sem.run_bind,he,Result.andThen_ok,Sem.run_pure]
   simp[he]
  ·simp only[execOp,ho,h1,h2,Sem.run_bind]
   simp only[eqGuard,binOp,Sem.run_bind,he,Result.andThen_ok,Sem.run_pure]
   simp[he]
   cases m<;>cases q<;>rfl
theorem Hi{t t':Nat}{x:Operand}{m:Int}{k k':IntKind}{Θ:dD}(bI:bz C.P Θ){z z':Nat}{dG yx:Nat}{ag Rz:Bool}{zr PE:Option (List CT)}
 (ho:o.op=.convert t t' x)(ht:aZ Θ t=some ⟨z,dG,ag,zr,.int k⟩)(DQ:aZ Θ t'=some ⟨z',yx,Rz,PE,.int k'⟩)
 (hx:aW tm x=some (.c (.int k m)))(hd:o.dst=some d)(hn:Nat.blt d n=true):
 eO C n o tm mm d (.v (.one (.c (.int k' (k'.wrap m))))):=
 eO.val hd hn _ fun H Z a w hm=>by
  have h1:a.eval x=.int k m:=a7.cH (aX hm hx)
  obtain⟨inf,de,hf⟩:=jH bI ht
  obtain⟨lX,yU,iG⟩:=jH bI DQ
  have TH:yU=.int k':=by
   have:=iG.sh
   cases yU<;>simp[eR]at this⊢
   exact this
  subst TH
  refine⟨.int k' (k'.wrap m),?_,.int _ _⟩
  simp[execOp,ho,h1,convert,hf.underlying,iG.underlying,Conv.intToInt]
theorem B2{x:Operand}{i:Nat}{xs:List SV}{s:SV}(ho:o.op=.extract x i)(hx:lv tm x=some (.gE xs))(hi:xs[i]? =some s)(hd:o.dst=some d)(hn:Nat.blt d n=true):
 eO C n o tm mm d (.v s):=
 eO.val hd hn _ fun H Z a w hm=>by
  obtain⟨vs,h1,h2,h3⟩:=jA hm hx
  obtain⟨u,hu,hr⟩:=h3 i s hi
  exact⟨u,by simp[execOp,ho,h1,Instr.extract,hu],hr⟩
theorem nw{x:Operand}{s:SC}(ho:o.op=.nilCheck x)(hx:aW tm x=some s)(hs:(match s with|.ptr _ _|.iu _ _ _|.hC _=>true|_=>false)=true)
 (hd:o.dst=some d)(hn:Nat.blt d n=true):eO C n o tm mm d (.v (.one s)):=
 eO.val hd hn _ fun H Z a w hm=>by
  have h1:=aX hm hx
  refine⟨a.eval x,?_,h1⟩
  cases s<;>simp at hs
  ·obtain⟨_,b,_,hv⟩:=h1;simp[execOp,ho,hv]
  ·obtain⟨_,b,_,hv⟩:=h1;simp[execOp,ho,hv]
  ·obtain⟨ad,hv,_⟩:=h1;simp[execOp,ho,hv]
end
end Go.Sy
namespace Go.Sy
open Go.RowKit
def jf{α:Type}(f:Nat→α)(i:Nat)(v:α):Nat→α:=fun j=>if j=i then v else f j
theorem bc{α:Type}(f:Nat→α)(i:Nat)(v:α):jf f i v i=v:=if_pos J
theorem bx{α:Type}(f:Nat→α){i j:Nat}(v:α)(h:j≠i):jf f i v j=f j:=if_neg h
def getM(mm:MM)(i:Nat):Option MO:=
 match mm with
 |[]=>none
 |(e,u)::r=>match Nat.beq e i with
  |true=>some u
  |false=>getM r i
theorem aN{mm:MM}{i:Nat}{o:MO}(h:getM mm i=some o):(i,o)∈mm:=by
 induction mm with
 |nil=>simp[getM]at h
 |cons p r ih=>
  obtain⟨e,u⟩:=p
  unfold getM at h
  cases hb:Nat.beq e i with
  |true=>
   have he:e=i:=aR hb
   subst he
   rw[hb]at h
   injection h with h;subst h;exact ah
  |false=>rw[hb]at h;exact ab _ (ih h)
theorem getM_none{mm:MM}{i:Nat}(h:getM mm i=none):¬cD mm i:=by
 induction mm with
 |nil=>rintro⟨p,hp,_⟩;simp at hp
 |cons p r ih=>
  obtain⟨e,u⟩:=p
  unfold getM at h
  cases hb:Nat.beq e i with
  |true=>rw[hb]at h;cases h
  |false=>
   rw[hb]at h
   rintro⟨q,hq,hi⟩
   rcases ae.1 hq with rfl|hq
   ·subst hi;simp at hb
   ·exact ih h ⟨q,hq,hi⟩
def cK(mm:MM)(i:Nat)(o:MO):MM:=
 match mm with
 |[]=>[]
 |(e,u)::r=>match Nat.beq e i with
  |true=>(e,o)::cK r i o
  |false=>(e,u)::cK r i o
theorem cq{mm:MM}{i:Nat}{o:MO}:∀p∈cK mm i o,(p=(i,o)∧cD mm i)∨(p∈mm∧p.1≠i):=by
 induction mm with
 |nil=>intro p hp;simp[cK]at hp
 |cons q r ih=>
  obtain⟨e,u⟩:=q
  intro p hp
  unfold cK at hp
  cases hb:Nat.beq e i with
  |true=>
   have he:e=i:=aR hb
   subst he
   rw[hb]at hp
   rcases ae.1 hp with rfl|hp
   ·exact .inl ⟨rfl,_,ah,rfl⟩
   ·rcases ih p hp with⟨k1,q,hq,lC⟩|⟨k1,k2⟩
    ·exact .inl ⟨k1,q,ab _ hq,lC⟩
    ·exact .inr ⟨ab _ k1,k2⟩
  |false=>
   have cj:e≠i:=fun he=>by subst he;simp at hb
   rw[hb]at hp
   rcases ae.1 hp with rfl|hp
   ·exact .inr ⟨ah,cj⟩
   ·rcases ih p hp with⟨k1,q,hq,lC⟩|⟨k1,k2⟩
    ·exact .inl ⟨k1,q,ab _ hq,lC⟩
    ·exact .inr ⟨ab _ k1,k2⟩
theorem eI{mm:MM}{i:Nat}{o:MO}(j:Nat):cD (cK mm i o) j↔cD mm j:=by
 induction mm with
 |nil=>simp[cK]
 |cons q r ih=>
  obtain⟨e,u⟩:=q
  unfold cK
  have key:∀(x y:MO),(cD ((e,x)::cK r i o) j↔cD ((e,y)::r) j):=by
   intro x y
   constructor
   ·rintro⟨p,hp,Jz⟩
    rcases ae.1 hp with rfl|hp
    ·exact⟨_,ah,Jz⟩
    ·obtain⟨p',oA,k⟩:=ih.1 ⟨p,hp,Jz⟩
     exact⟨p',ab _ oA,k⟩
   ·rintro⟨p,hp,Jz⟩
    rcases ae.1 hp with rfl|hp
    ·exact⟨_,ah,Jz⟩
    ·obtain⟨p',oA,k⟩:=ih.2 ⟨p,hp,Jz⟩
     exact⟨p',ab _ oA,k⟩
  cases hb:Nat.beq e i
  ·exact key _ _
  ·exact key _ _
theorem Mod.add{C:Ctx}{H:Nat→Value}{Z:Nat→Nat}{n:Nat}{tm:TM}{mm:MM}{a:Act}{w w':World}(h:Mod C H Z n tm mm a w)
 {i:Nat}(hi:¬cD mm i){hv:Value}{z:Nat}{o:MO}{d:Nat}(hd:d < n)(hid:i=d){v:Value}{st:ST}
 (ec:Ext (fun _=>False) w w')(na:∀b,Hb hv b→w.heap.size≤b∧b < w'.heap.size)
 (dL:(∀b,b < w.heap.size→cU C (jf H i hv) ((i,o)::mm) b→cU C H mm b)→
   (∀b,b < w.heap.size→¬cU C H mm b→w'.heap[b]? =w.heap[b]?)→eb (cD ((i,o)::mm)) (jf H i hv) (jf Z i z) w' (cU C (jf H i hv) ((i,o)::mm)) i o)
 (eu:fy (cD ((i,o)::mm)) (jf H i hv) (jf Z i z) w' (cU C (jf H i hv) ((i,o)::mm)) v st):
 Mod C (jf H i hv) (jf Z i z) n ((d,st)::bw tm d) ((i,o)::mm) (a.put (some d) v) w':=by
 have cj:∀j,cD mm j→j≠i:=fun j hj e=>hi (e▸hj)
 have o5:∀j,cD mm j→cD ((i,o)::mm) j∧jf H i hv j=H j∧jf Z i z j=Z j:=fun j hj=>
  ⟨let⟨p,hp,e⟩:=hj;⟨p,ab _ hp,e⟩,bx _ _ (cj j hj),bx _ _ (cj j hj)⟩
 have eL:∀p∈mm,p.1≠i:=fun p hp=>cj p.1 ⟨p,hp,rfl⟩
 have iF:i=d→¬given≤i:=fun e=>by have:=h.L9;omega
 refine h.build (fun _=>False) ec (fun b _ hx=>hx.elim) (by simpa[Act.put]using h.defers) (by simp[Act.put,h.size]) ?_ ?_ ?_ ?_ ?_
 ·intro p hp jZ
  rcases ae.1 hp with rfl|hp
  ·exact absurd jZ (iF hid)
  ·rw[bx _ _ (eL p hp)];exact h.hg p hp jZ
 ·intro p hp q hq he
  rcases ae.1 hp with rfl|hp<;>rcases ae.1 hq with rfl|hq
  ·rfl
  ·exact absurd he.symm (eL q hq)
  ·exact absurd he (eL p hp)
  ·exact h.ids p hp q hq he
 ·intro p hp
  rcases ae.1 hp with rfl|hp
  ·refine .inr ⟨fun b hb=>.inl (na b ?_),dL⟩
   simpa[bc]using hb
  ·obtain⟨_,k2,k3⟩:=o5 p.1 ⟨p,hp,rfl⟩
   exact .inl ⟨hp,k2,k3,fun _ _ hx=>hx,fun j _ hj=>o5 j hj⟩
 ·intro p hp q hq jl b cC db
  rcases ae.1 hp with rfl|hp<;>rcases ae.1 hq with rfl|hq
  ·exact jl J
  ·rw[bc]at cC
   rw[bx _ _ (eL q hq)]at db
   have:=(na b cC).1
   have:=(h.fresh q hq b db).2
   omega
  ·rw[bc]at db
   rw[bx _ _ (eL p hp)]at cC
   have:=(na b db).1
   have:=(h.fresh p hp b cC).2
   omega
  ·rw[bx _ _ (eL p hp)]at cC
   rw[bx _ _ (eL q hq)]at db
   exact h.sep p hp q hq jl b cC db
 ·intro p hp
  rcases ae.1 hp with rfl|hp
  ·refine .inr fun _ _=>?_
   rw[gQ (by rw[h.size];exact hd)]
   exact eu
  ·obtain⟨h1,h2⟩:=b4 hp
   exact .inl ⟨p,h1,rfl,fu h2,fun j _ hj=>o5 j hj⟩
theorem Mod.jf{C:Ctx}{H:Nat→Value}{Z:Nat→Nat}{n:Nat}{tm tm':TM}{mm:MM}{a a':Act}{w w':World}(h:Mod C H Z n tm mm a w)
 {i:Nat}(hi:cD mm i){o:MO}{b0:Nat}(qU:Hb (H i) b0)
 (ec:Ext (fun b=>b=b0) w w')(Is:a'.defers=[])(nF:a'.tmps.size=n)
 (dL:(∀b,b < w.heap.size→cU C H (cK mm i o) b→cU C H mm b)→
   (∀b,b < w.heap.size→¬cU C H mm b→w'.heap[b]? =w.heap[b]?)→eb (cD (cK mm i o)) H Z w' (cU C H (cK mm i o)) i o)
 (Qf:∀p∈tm',p∈tm∧a'.tmps.getD p.1 undef=a.tmps.getD p.1 undef):
 Mod C H Z n tm' (cK mm i o) a' w':=by
 obtain⟨p0,Pn,su⟩:=hi
 have hI:∀j,cD mm j→cD (cK mm i o) j:=fun j hj=>(eI j).2 hj
 refine h.build (fun b=>b=b0) ec (fun b _ hx=>⟨p0,Pn,by rw[su,hx];exact qU⟩) Is nF ?_ ?_ ?_ ?_ ?_
 ·intro p hp jZ
  rcases cq p hp with⟨rfl,q,hq,lC⟩|⟨k1,_⟩
  ·simp only at jZ⊢
   rw[←lC];exact h.hg q hq (by rw[lC];exact jZ)
  ·exact h.hg p k1 jZ
 ·intro p hp q hq he
  rcases cq p hp with⟨rfl,_⟩|⟨k1,k2⟩<;>rcases cq q hq with⟨rfl,_⟩|⟨l1,l2⟩
  ·rfl
  ·exact absurd he.symm l2
  ·exact absurd he k2
  ·exact h.ids p k1 q l1 he
 ·intro p hp
  rcases cq p hp with⟨rfl,_⟩|⟨k1,k2⟩
  ·refine .inr ⟨fun b hb=>.inr ⟨p0,Pn,by rw[su];exact hb,.inl su.symm⟩,dL⟩
  ·refine .inl ⟨k1,rfl,rfl,fun b hb hx=>?_,fun j _ hj=>⟨hI j hj,rfl,rfl⟩⟩
   subst hx
   exact h.sep p k1 p0 Pn (by rw[su];exact k2) b hb (by rw[su];exact qU)
 ·intro p hp q hq jl b cC db
  have key:∀r∈cK mm i o,∃r'∈mm,r'.1=r.1:=fun r hr=>by
   rcases cq r hr with⟨rfl,_⟩|⟨k1,_⟩
   ·exact⟨p0,Pn,su⟩
   ·exact⟨r,k1,rfl⟩
  obtain⟨p',oA,e1⟩:=key p hp
  obtain⟨q',pO,e2⟩:=key q hq
  exact h.sep p' oA q' pO (by rw[e1,e2];exact jl) b (by rw[e1];exact cC) (by rw[e2];exact db)
 ·intro p hp
  obtain⟨k1,k2⟩:=Qf p hp
  exact .inl ⟨p,k1,rfl,k2,fun j _ hj=>⟨hI j hj,rfl,rfl⟩⟩
theorem eb.handle{I:Nat→Prop}{H:Nat→Value}{Z:Nat→Nat}{w:World}{M:Nat→Prop}{i:Nat}{o:MO}(h:eb I H Z w M i o):(H i).oneCell'=true:=by
 cases o with
 |box cs=>obtain⟨b,ty,vs,h1,_⟩:=h;rw[h1];rfl
 |arr nn e sz xs=>
  obtain⟨_,us,h1,_⟩:=h
  rcases h1.2 with⟨hh,_⟩|⟨g,cap,cur,hh,_⟩<;>rw[hh]<;>rfl
 |lo es=>obtain⟨r,es,ck,h1,_⟩:=h;rw[h1];rfl
 |bG e sz qs=>rw[h.1];rfl
def SC.known:SC→Bool
 |.any=>false
 |_=>true
theorem bR.one{C:Ctx}{H:Nat→Value}{Z:Nat→Nat}{n:Nat}{tm:TM}{mm:MM}{a:Act}{w:World}(hm:Mod C H Z n tm mm a w)
 {v:Value}{s:SC}(h:bR (cD mm) H Z w (cU C H mm) v s)(hk:s.known=true):v.oneCell'=true:=by
 cases s with
 |c x=>exact a7.one h
 |lit b=>rw[show v=.bool b from h];rfl
 |ptr i off=>obtain⟨_,b,_,hv⟩:=h;rw[hv];rfl
 |td i n=>obtain⟨_,b,_,hv⟩:=h;rw[hv];rfl
 |iu i k off=>obtain⟨_,b,_,hv⟩:=h;rw[hv];rfl
 |hC cs=>obtain⟨ad,hv,_⟩:=h;rw[hv];rfl
 |own i=>obtain⟨⟨p,hp,e⟩,hv⟩:=h;rw[hv,←e];exact(hm.mem p hp).handle
 |mp i=>obtain⟨⟨p,hp,e⟩,hv⟩:=h;rw[hv,←e];exact(hm.mem p hp).handle
 |ku f df=>obtain⟨_,vs,hv,_⟩:=h;rw[hv];rfl
 |any=>cases hk
def SV.cells:SV→List SC
 |.one x=>[x]
 |.agg xs=>xs
theorem cells_one{v:Value}(h:v.oneCell'=true):v.cells=#[v]:=by cases v<;>first|rfl|cases h
theorem cF.cells{C:Ctx}{H:Nat→Value}{Z:Nat→Nat}{n:Nat}{tm:TM}{mm:MM}{a:Act}{w:World}(hm:Mod C H Z n tm mm a w)
 {v:Value}{s:SV}(h:cF (cD mm) H Z w (cU C H mm) v s)(hk:s.cells.all SC.known=true):
 v.cells.size=s.cells.length∧∀(j:Nat) (c:SC),s.cells[j]? =some c→∃u:Value,v.cells[j]? =some u∧u.oneCell'=true∧bR (cD mm) H Z w (cU C H mm) u c:=by
 cases s with
 |one x=>
  have hx:x.known=true:=by simpa[SV.cells]using hk
  have h1:v.oneCell'=true:=bR.one hm h hx
  rw[cells_one h1]
  refine⟨rfl,fun j c hc=>?_⟩
  cases j with
  |zero=>simp[SV.cells]at hc;subst hc;exact⟨v,by simp,h1,h⟩
  |succ j=>simp[SV.cells]at hc
 |agg xs=>
  obtain⟨vs,rfl,h2,h3⟩:=h
  refine⟨h2,fun j c hc=>?_⟩
  obtain⟨u,hu,hr⟩:=h3 j c hc
  have UO:c.known=true:=aV.1 hk c (an hc)
  exact⟨u,hu,bR.one hm hr UO,hr⟩
section
variable {C:Ctx} {n:Nat} {tm:TM} {mm:MM} {o:Oper} {d:Nat}
theorem eE(w:World)(x:Obj):Ext (fun _=>False) w (w.alloc x):=
 ⟨rfl,rfl,rfl,by show _≤(w.heap.push x).size;rw[iL];omega,fun k hk _=>Below.heap_alloc w x k hk⟩
theorem oK(w:World)(x:Obj):(w.alloc x).heap[w.heap.size]? =some x:=by show(w.heap.push x)[_]? =_;simp
theorem Mod.Hv{H:Nat→Value}{Z:Nat→Nat}{a:Act}{w:World}(h:Mod C H Z n tm mm a w)(hi:getM mm d=none)(hd:d < n)
 (ty:TypeId)(vs:Array Value)(cs:List SC)(hs:vs.size=cs.length)
 (hr:∀(j:Nat) (c:SC),cs[j]? =some c→∃u:Value,vs[j]? =some u∧u.oneCell'=true∧bR (cD mm) H Z w (cU C H mm) u c):
 ∃H' Z',Mod C H' Z' n ((d,.v (.one (.ptr d 0)))::bw tm d) ((d,.box cs)::mm) (a.put (some d) (.pointer (some ⟨w.heap.size,0,none⟩))) (w.alloc (.cells vs ty)):=by
 have yO:=getM_none hi
 refine⟨_,_,h.add (i:=d) (hv:=.pointer (some ⟨w.heap.size,0,none⟩)) (z:=0) (o:=.box cs) yO hd J (eE w _) ?_ ?_ ?_⟩
 ·intro b hb
  simp[Hb,hblk]at hb
  subst hb
  exact⟨aA _,by show _ < (w.heap.push _).size;rw[iL];omega⟩
 ·intro iH iA
  refine⟨w.heap.size,ty,vs,bc _ _ _,oK w _,hs,fun j c hc=>?_⟩
  obtain⟨u,hu,h1,cL⟩:=hr j c hc
  refine⟨u,hu,h1,cL.mono (fun k _ hk=>?_) (eE w _).size iA iH⟩
  have cj:k≠d:=fun e=>yO (e▸hk)
  exact⟨let⟨p,hp,e⟩:=hk;⟨p,ab _ hp,e⟩,bx _ _ cj,bx _ _ cj⟩
 ·exact⟨⟨_,ah,rfl⟩,w.heap.size,by rw[bc];rfl,rfl⟩
theorem Nh{e:TypeId}{x:Operand}{s:SV}(ho:o.op=.box e x)(hx:dM tm x=some s)(hk:s.cells.all SC.known=true)
 (hi:getM mm d=none)(hd:o.dst=some d)(hn:Nat.blt d n=true):
 yW C n o tm mm ((d,.v (.one (.ptr d 0)))::bw tm d) ((d,.box s.cells)::mm):=by
 intro a w ⟨H,Z,hm⟩
 obtain⟨h1,h2⟩:=(ee hm hx).cells hm hk
 obtain⟨H',Z',h3⟩:=hm.Hv hi (aY.mp hn) e (a.eval x).cells s.cells h1 h2
 refine .inl ⟨_,_,?_,H',Z',by rw[hd];exact h3⟩
 simp[execOp,ho,Instr.box,newVar,newRow,newObj,Sem.run]
theorem zO{Θ:dD}(bI:bz C.P Θ){e:TypeId}{z dG:Nat}{ag:Bool}{zr:List CT}{sh:Sh}(ho:o.op=.alloc e)
 (ht:aZ Θ e=some ⟨z,dG,ag,some zr,sh⟩)(hi:getM mm d=none)(hd:o.dst=some d)(hn:Nat.blt d n=true):
 yW C n o tm mm ((d,.v (.one (.ptr d 0)))::bw tm d) ((d,.box (zr.map SC.c))::mm):=by
 intro a w ⟨H,Z,hm⟩
 obtain⟨inf,de,hf⟩:=jH bI ht
 obtain⟨zv,hz,vH,hl⟩:=hf.zero zr J
 obtain⟨h1,h2⟩:=e7 (w:=w) (M:=cU C H mm) vH
 obtain⟨H',Z',h3⟩:=hm.Hv hi (aY.mp hn) e zv.cells (zr.map SC.c) (by simpa using h1) (fun j c hc=>by
  rw[aI]at hc
  cases hq:zr[j]? with
  |none=>rw[hq]at hc;cases hc
  |some ct=>
   rw[hq]at hc
   injection hc with hc;subst hc
   obtain⟨u,hu,hr⟩:=h2 j ct hq
   exact⟨u,hu,hr.one,hr⟩)
 refine .inl ⟨_,_,?_,H',Z',by rw[hd];exact h3⟩
 simp[execOp,ho,Instr.alloc,hf.zeroValue hz,newVar,newRow,newObj,Sem.run]
end
end Go.Sy
namespace Go.Sy
open Go.RowKit
def Pw{α β:Type}(R:α→β→Prop)(vs:List α)(cs:List β):Prop:=
 vs.length=cs.length∧∀(j:Nat) (c:β),cs[j]? =some c→∃u:α,vs[j]? =some u∧R u c
section
variable {α β:Type} {R:α→β→Prop} {vs us:List α} {cs ds:List β}
theorem Pw.append(h:Pw R vs cs)(k:Pw R us ds):Pw R (vs++us) (cs++ds):=by
 refine⟨by simp[h.1,k.1],fun j c hc=>?_⟩
 rw[bN]at hc⊢
 rw[h.1]
 split at hc
 ·rename_i hj;rw[if_pos hj];exact h.2 j c hc
 ·rename_i hj;rw[if_neg hj];exact k.2 _ c hc
theorem Pw.take(h:Pw R vs cs)(m:Nat):Pw R (vs.take m) (cs.take m):=by
 refine⟨by simp[h.1],fun j c hc=>?_⟩
 rw[b9]at hc⊢
 split at hc
 ·rename_i hj;rw[if_pos hj];exact h.2 j c hc
 ·cases hc
theorem Pw.drop(h:Pw R vs cs)(m:Nat):Pw R (vs.drop m) (cs.drop m):=by
 refine⟨by simp[h.1],fun j c hc=>?_⟩
 rw[ca]at hc⊢
 exact h.2 _ c hc
theorem Pw.mono{S:α→β→Prop}(h:Pw R vs cs)(hi:∀u c,c∈cs→R u c→S u c):Pw S vs cs:=
 ⟨h.1,fun j c hc=>let⟨u,hu,hr⟩:=h.2 j c hc;⟨u,hu,hi u c (an hc) hr⟩⟩
theorem Pw.cons{a:α}{b:β}(h:R a b)(k:Pw R vs cs):Pw R (a::vs) (b::cs):=by
 refine⟨by simp[k.1],fun j c hc=>?_⟩
 cases j with
 |zero=>simp at hc;subst hc;exact⟨a,rfl,h⟩
 |succ j=>simp at hc;simpa using k.2 j c hc
theorem Pw.nil:Pw R [] []:=⟨rfl,fun j c hc=>by simp at hc⟩
theorem Pw.map{γ:Type}{f:γ→β}{gs:List γ}:Pw R vs (gs.map f)↔Pw (fun u g=>R u (f g)) vs gs:=by
 constructor
 ·rintro⟨h1,h2⟩
  refine⟨by simpa using h1,fun j g hg=>h2 j (f g) (by simp[hg])⟩
 ·rintro⟨h1,h2⟩
  refine⟨by simpa using h1,fun j c hc=>?_⟩
  rw[aI]at hc
  cases hq:gs[j]? with
  |none=>rw[hq]at hc;cases hc
  |some g=>rw[hq]at hc;injection hc with hc;subst hc;exact h2 j g hq
end
def pY{α:Type}:List α→Nat→Option (List α)
 |_,0=>some []
 |[],_+1=>none
 |a::l,n+1=>match pY l n with
  |some r=>some (a::r)
  |none=>none
theorem mn{α:Type}:∀{l:List α} {n:Nat} {r:List α},pY l n=some r→r=l.take n∧r.length=n
 |_,0,_,h=>by simp[pY]at h;subst h;simp
 |[],_+1,_,h=>by simp[pY]at h
 |a::l,n+1,r,h=>by
  unfold pY at h
  split at h
  ·rename_i r' hr
   injection h with h;subst h
   obtain⟨h1,h2⟩:=mn hr
   exact⟨by simp[h1],by simp[h2]⟩
  ·cases h
def qF{α:Type}:List α→Nat→Option (List α)
 |l,0=>some l
 |[],_+1=>none
 |_::l,n+1=>qF l n
theorem kM{α:Type}:∀{l:List α} {n:Nat} {r:List α},qF l n=some r→r=l.drop n
 |_,0,_,h=>by simp[qF]at h;subst h;simp
 |[],_+1,_,h=>by simp[qF]at h
 |a::l,n+1,r,h=>by simpa using kM (l:=l) (n:=n) (by simpa[qF]using h)
def vu{α:Type}(l:List α)(off n:Nat):Option (List α):=
 match qF l off with
 |some r=>pY r n
 |none=>none
theorem q9{α:Type}{l:List α}{off n:Nat}{r:List α}(h:vu l off n=some r):r=(l.drop off).take n∧r.length=n:=by
 unfold vu at h
 split at h
 ·rename_i r' hr
  rw[kM hr]at h
  exact mn h
 ·cases h
def tU{α:Type}:List α→List α→Option (List α)
 |l,[]=>some l
 |[],_::_=>none
 |_::l,a::n=>match tU l n with
  |some r=>some (a::r)
  |none=>none
theorem tT{α:Type}:∀{l n r:List α},tU l n=some r→r=n++l.drop n.length∧n.length≤l.length
 |l,[],r,h=>by cases l<;>(simp[tU]at h;subst h;simp)
 |[],_::_,r,h=>by simp[tU]at h
 |b::l,a::n,r,h=>by
  unfold tU at h
  split at h
  ·rename_i r' hr
   injection h with h;subst h
   obtain⟨h1,h2⟩:=tT hr
   exact⟨by simp[h1],by simpa using h2⟩
  ·cases h
def gq{α:Type}:List α→Nat→List α→Option (List α)
 |l,0,n=>tU l n
 |[],_+1,_=>none
 |a::l,k+1,n=>match gq l k n with
  |some r=>some (a::r)
  |none=>none
theorem kg{α:Type}:∀{l:List α} {k:Nat} {n r:List α},gq l k n=some r→
 r=l.take k++n++l.drop (k+n.length)∧k+n.length≤l.length
 |l,0,n,r,h=>by
  have h':tU l n=some r:=by cases l<;>simpa[gq]using h
  obtain⟨h1,h2⟩:=tT h'
  exact⟨by simpa using h1,by omega⟩
 |[],_+1,_,r,h=>by simp[gq]at h
 |a::l,k+1,n,r,h=>by
  unfold gq at h
  split at h
  ·rename_i r' hr
   injection h with h;subst h
   obtain⟨h1,h2⟩:=kg hr
   refine⟨?_,by simp;omega⟩
   rw[h1,show k+1+n.length=(k+n.length)+1 by omega]
   simp
  ·cases h
def qn{α:Type}(f:α→SC)(agg:Bool)(xs:List α):Option SV:=
 match agg,xs with
 |true,xs=>some (.agg (sN f xs))
 |false,[x]=>some (.one (f x))
 |false,_=>none
where
 sN {α:Type} (f:α→SC):List α→List SC
  |[]=>[]
  |a::r=>f a::sN f r
theorem qo{α:Type}(f:α→SC)(l:List α):qn.sN f l=l.map f:=by
 induction l with
 |nil=>rfl
 |cons a r ih=>simp[qn.sN,ih]
theorem gj{P:Program}{w:World}{t:TypeId}{i:gD}{inf:TypeInfo}{de:TypeDesc}(hf:C3 P t i inf de)(ad:Addr)(us:List Value)
 (hl:us.length=i.size)(hc:∀(j:Nat) (u:Value),us[j]? =some u→w.cell? (ad.add j)=some u)(h1:i.agg=false→us.length=1):
 ∃v,(loadVar t ad).run P w=.ok v w∧(i.agg=true→v=.agg us.toArray)∧(i.agg=false→us=[v]):=by
 cases ha:i.agg with
 |true=>
  refine⟨.agg us.toArray,?_,fun _=>rfl,(fun h=>by cases h)⟩
  have:=run_loadCells_list (P:=P) w ad us hc
  rw[hl]at this
  simp[loadVar,hf.isAgg,ha,hf.sizeOf,this]
 |false=>
  have FX:=h1 ha
  match us,FX with
  |[u],_=>
   refine⟨u,?_,(fun h=>by cases h),fun _=>rfl⟩
   have U0:=hc 0 u J
   have:ad.add 0=ad:=by simp[Addr.add]
   rw[this]at U0
   simp[loadVar,hf.isAgg,ha,load,Sem.run,U0]
theorem qm{α:Type}{f:α→SC}{C:Ctx}{H:Nat→Value}{Z:Nat→Nat}{mm:MM}{w:World}{agg:Bool}{xs:List α}{s:SV}(hs:qn f agg xs=some s)
 {us:List Value}{v:Value}(hp:Pw (fun u x=>bR (cD mm) H Z w (cU C H mm) u (f x)) us xs)(h1:agg=true→v=.agg us.toArray)(h2:agg=false→us=[v]):
 cF (cD mm) H Z w (cU C H mm) v s:=by
 unfold qn at hs
 split at hs
 ·injection hs with hs;subst hs
  rw[h1 J,qo]
  refine⟨us.toArray,rfl,by simpa using hp.1,fun j c hc=>?_⟩
  have:=(Pw.map (R:=fun u c=>bR (cD mm) H Z w (cU C H mm) u c)).2 hp
  simpa using this.2 j c hc
 ·injection hs with hs;subst hs
  rename_i x
  obtain⟨u,hu,hr⟩:=hp.2 0 x J
  rw[h2 J]at hu
  simp at hu;subst hu
  exact hr
 ·cases hs
section
variable {C:Ctx} {n:Nat} {tm:TM} {mm:MM} {o:Oper} {d:Nat}
theorem Mod.box{H:Nat→Value}{Z:Nat→Nat}{a:Act}{w:World}(h:Mod C H Z n tm mm a w){i:Nat}{cs:List SC}(hi:getM mm i=some (.box cs)):
 ∃b ty vs,H i=.pointer (some ⟨b,0,none⟩)∧w.heap[b]? =some (.cells vs ty (0,0))∧b < w.heap.size∧
  Pw (fun u c=>u.oneCell'=true∧bR (cD mm) H Z w (cU C H mm) u c) vs.toList cs:=by
 obtain⟨b,ty,vs,h1,h2,h3,h4⟩:=h.mem _ (aN hi)
 refine⟨b,ty,vs,h1,h2,(h.fresh _ (aN hi) b (by rw[h1];rfl)).2,by simpa using h3,fun j c hc=>?_⟩
 obtain⟨u,hu,ho,hr⟩:=h4 j c hc
 exact⟨u,by simpa using hu,ho,hr⟩
theorem sk{Θ:dD}(bI:bz C.P Θ){t:TypeId}{ti:gD}{x:Operand}{i off:Nat}{cs xs:List SC}{s:SV}
 (ho:o.op=.load t x)(ht:aZ Θ t=some ti)(hx:aW tm x=some (.ptr i off))(hi:getM mm i=some (.box cs))
 (hs:vu cs off ti.size=some xs)(hv:qn id ti.agg xs=some s)(hd:o.dst=some d)(hn:Nat.blt d n=true):
 eO C n o tm mm d (.v s):=
 eO.val hd hn _ fun H Z a w hm=>by
  obtain⟨inf,de,hf⟩:=jH bI ht
  obtain⟨b,ty,vs,h1,h2,_,h4⟩:=hm.box hi
  obtain⟨_,b',pP,yh⟩:=aX hm hx
  rw[h1]at pP
  simp[Hb,hblk]at pP
  subst pP
  obtain⟨e1,e2⟩:=q9 hs
  have hp:Pw (fun u c=>bR (cD mm) H Z w (cU C H mm) u c) ((vs.toList.drop off).take ti.size) xs:=by
   rw[e1];exact((h4.drop off).take _).mono fun _ _ _ h=>h.2
  obtain⟨v,hr,k1,k2⟩:=gj (w:=w) hf ⟨b,off,none⟩ ((vs.toList.drop off).take ti.size) (by rw[hp.1,e2]) (fun j u hu=>by
   rw[jF,cell_of_row w b (off+j) vs ty _ h2]
   rw[b9]at hu
   split at hu
   ·rw[ca]at hu;simpa using hu
   ·cases hu) (fun ha=>by
    rw[hp.1]
    rw[ha]at hv
    unfold qn at hv
    split at hv<;>first|(rename_i hh;cases hh;done)|rfl|(cases hv;done))
  refine⟨v,by simp[execOp,ho,yh,Instr.loadAt,Instr.sureAddr,hr],?_⟩
  exact qm hv hp k1 k2
theorem xW{Θ:dD}(bI:bz C.P Θ){t:TypeId}{ti:gD}{x:Operand}{cs xs:List CT}{s:SV}
 (ho:o.op=.load t x)(ht:aZ Θ t=some ti)(hx:aW tm x=some (.hC cs))
 (hs:pY cs ti.size=some xs)(hv:qn SC.c ti.agg xs=some s)(hd:o.dst=some d)(hn:Nat.blt d n=true):
 eO C n o tm mm d (.v s):=
 eO.val hd hn _ fun H Z a w hm=>by
  obtain⟨inf,de,hf⟩:=jH bI ht
  obtain⟨ad,yh,h2,h3,h4,h5⟩:=aX hm hx
  obtain⟨e1,e2⟩:=mn hs
  have DW:∀m,m≤cs.length→∃us:List Value,us.length=m∧(∀(j:Nat) (u:Value),us[j]? =some u→w.cell? (ad.add j)=some u)∧
   Pw (fun u c=>a7 w (cU C H mm) u c) us (cs.take m):=by
   intro m
   induction m with
   |zero=>intro _;exact⟨[],rfl,fun j u hu=>by simp at hu,by simpa using Pw.nil⟩
   |succ m ih=>
    intro QI
    obtain⟨us,g1,g2,g3⟩:=ih (by omega)
    obtain⟨u,hu,hr⟩:=h5 m cs[m] (aa (by omega))
    refine⟨us++[u],by simp[g1],fun j q hq=>?_,?_⟩
    ·rw[bN]at hq
     split at hq
     ·exact g2 j q hq
     ·rename_i hj
      have Of:j - us.length=0:=by
       rcases pR (j - us.length)with h0|h0
       ·exact h0
       ·rw[cR (by simp;omega)]at hq;cases hq
      rw[Of]at hq
      simp at hq;subst hq
      have:j=m:=by omega
      subst this
      exact hu
    ·rw[aD (by omega)]
     exact g3.append (Pw.cons hr Pw.nil)
  have hle:ti.size≤cs.length:=by
   have:=e2;rw[e1]at this;simp at this;omega
  obtain⟨us,g1,g2,g3⟩:=DW ti.size hle
  rw[←e1]at g3
  obtain⟨v,hr,k1,k2⟩:=gj (w:=w) hf ad us g1 g2 (fun ha=>by
   rw[g3.1]
   rw[ha]at hv
   unfold qn at hv
   split at hv<;>first|(rename_i hh;cases hh;done)|rfl|(cases hv;done))
  refine⟨v,by simp[execOp,ho,yh,Instr.loadAt,Instr.sureAddr,hr],?_⟩
  exact qm (f:=SC.c) hv g3 k1 k2
theorem mq(w:World)(g:Nat)(cs:Array Value):Ext (fun b=>b=g) w (w.setRow g cs):=
 ⟨rfl,rfl,rfl,by simp[World.setRow],fun k _ cj=>by simp[World.setRow,je,Ne.symm cj]⟩
theorem mz{Θ:dD}(bI:bz C.P Θ){t:TypeId}{ti:gD}{x y:Operand}{i off:Nat}{cs r:List SC}{s:SV}
 (ho:o.op=.store t x y)(ht:aZ Θ t=some ti)(hx:aW tm x=some (.ptr i off))(hi:getM mm i=some (.box cs))
 (hy:dM tm y=some s)(hk:s.cells.all SC.known=true)(c8:Nat.beq s.cells.length ti.size=true)(hs:gq cs off s.cells=some r)(hd:o.dst=none):
 yW C n o tm mm tm (cK mm i (.box r)):=by
 intro a w ⟨H,Z,hm⟩
 obtain⟨inf,de,hf⟩:=jH bI ht
 obtain⟨b,ty,vs,h1,h2,bo,h4⟩:=hm.box hi
 obtain⟨_,b',pP,yh⟩:=aX hm hx
 rw[h1]at pP
 simp[Hb,hblk]at pP
 subst pP
 obtain⟨c1,c2⟩:=(ee hm hy).cells hm hk
 obtain⟨e1,e2⟩:=kg hs
 have nF:(a.eval y).cells.size=ti.size:=by rw[c1];exact aR c8
 have vI:∀v∈(a.eval y).cells.toList,v.oneCell'=true:=by
  intro v hv
  obtain⟨j,hj,QR⟩:=aB.1 hv
  have eC:j < s.cells.length:=by rw[←c1];simpa using hj
  obtain⟨u,hu,WK,_⟩:=c2 j s.cells[j] (aa eC)
  have:u=v:=by
   have:(a.eval y).cells.toList[j]? =some u:=by simpa using hu
   rw[aa hj,QR]at this
   injection this with this;exact this.symm
  rw[←this];exact WK
 have dQ:=run_storeCells_at (P:=C.P) b off ty (a.eval y).cells.toList 0 vs w h2 (by
  have:=h4.1
  simp at this⊢
  rw[c1,this];exact e2) vI
 have hlen:vs.toList.length=cs.length:=h4.1
 refine .inr ⟨w.setRow b (vs.toList.take (off+0)++(a.eval y).cells.toList++vs.toList.drop (off+0+(a.eval y).cells.toList.length)).toArray,?_,H,Z,?_⟩
 ·simp only[execOp,ho,yh,Instr.storeAt,Instr.sureAddr,storeVar,Sem.run_bind,Sem.run_pure,Result.andThen_ok,hf.sizeOf,nF,ne_eq,not_true,if_false,dQ]
 ·rw[hd]
  refine hm.jf (b0:=b) ⟨_,aN hi,rfl⟩ (by rw[h1];rfl) (mq w b _) hm.defers hm.size ?_ (fun p hp=>⟨hp,rfl⟩)
  intro iH iA
  have hp:Pw (fun u c=>u.oneCell'=true∧bR (cD mm) H Z w (cU C H mm) u c) (vs.toList.take off++(a.eval y).cells.toList++vs.toList.drop (off+(a.eval y).cells.toList.length)) r:=by
   rw[e1]
   have hc:Pw (fun u c=>u.oneCell'=true∧bR (cD mm) H Z w (cU C H mm) u c) (a.eval y).cells.toList s.cells:=
    ⟨by simpa using c1,fun j c hc=>by simpa using c2 j c hc⟩
   rw[show(a.eval y).cells.toList.length=s.cells.length by simpa using c1]
   exact((h4.take off).append hc).append (h4.drop _)
  rw[lI]
  refine⟨b,ty,_,h1,setRow_heap w b vs _ ty _ h2,by simpa using hp.1,fun j c hc=>?_⟩
  ·obtain⟨u,hu,VC,VB⟩:=hp.2 j c hc
   refine⟨u,by simpa using hu,VC,VB.mono (fun k _ hk=>⟨(eI k).2 hk,rfl,rfl⟩) (mq w b _).size ?_ iH⟩
   exact iA
def kL(fs:List (Nat×Nat))(k:Nat):Option Nat:=
 match fs,k with
 |[],_=>none
 |(o,_)::_,0=>some o
 |_::r,k+1=>kL r k
def xy(s:SC)(k:Nat):Option SC:=
 match s with
 |.ptr i off=>some (.ptr i (off+k))
 |.iu i j off=>some (.iu i j (off+k))
 |.hC cs=>match qF cs k with
  |some r=>some (.hC r)
  |none=>none
 |_=>none
theorem xx{H:Nat→Value}{Z:Nat→Nat}{w:World}{I M:Nat→Prop}{v:Value}{s r:SC}{k:Nat}(h:xy s k=some r)(hr:bR I H Z w M v s):
 ∃ad:Addr,v=.pointer (some ad)∧bR I H Z w M (.pointer (some (ad.add k))) r:=by
 cases s<;>simp only[xy]at h<;>first|(cases h;done)|skip
 ·injection h with h;subst h
  obtain⟨hi,b,hb,hv⟩:=hr
  exact⟨_,hv,hi,b,hb,by rw[jF]⟩
 ·injection h with h;subst h
  obtain⟨hi,b,hb,hv⟩:=hr
  exact⟨_,hv,hi,b,hb,by rw[jF,Nat.add_assoc]⟩
 ·split at h
  ·rename_i cs r' hd
   injection h with h;subst h
   obtain⟨ad,hv,h2,h3,h4,h5⟩:=hr
   refine⟨ad,hv,ad.add k,rfl,qP h2 k,by rw[gA];exact h3,by rw[gA];exact h4,fun j c hc=>?_⟩
   rw[kM hd,ca]at hc
   rw[add_add]
   exact h5 _ c hc
  ·cases h
theorem xZ{Θ:dD}(bI:bz C.P Θ){t:TypeId}{z dG:Nat}{ag:Bool}{zr:Option (List CT)}{fs:List (Nat×Nat)}{x:Operand}{k off:Nat}{s r:SC}
 (ho:o.op=.fieldAddr t x k)(ht:aZ Θ t=some ⟨z,dG,ag,zr,.struct fs⟩)(hx:aW tm x=some s)(hk:kL fs k=some off)(hr:xy s off=some r)
 (hd:o.dst=some d)(hn:Nat.blt d n=true):
 eO C n o tm mm d (.v (.one r)):=
 eO.val hd hn _ fun H Z a w hm=>by
  obtain⟨inf,de,hf⟩:=jH bI ht
  obtain⟨ad,hv,cL⟩:=xx hr (aX hm hx)
  have KS:=hf.sh
  cases de<;>simp only[eR]at KS<;>try(cases KS;done)
  rename_i fields
  simp only[ax]at KS
  obtain⟨s1,s2⟩:=KS
  have TC:fields.toList.map (fun f=>(f.offset,f.type))=fs:=by simpa using s1
  have jN:∀(l:List (Nat×Nat)) (q:Nat) (o':Nat),kL l q=some o'→∃t',l[q]? =some (o',t'):=by
   intro l
   induction l with
   |nil=>intro q o' h;cases q<;>simp[kL]at h
   |cons p l ih=>
    intro q o' h
    obtain⟨p1,p2⟩:=p
    cases q with
    |zero=>simp[kL]at h;subst h;exact⟨p2,rfl⟩
    |succ q=>simp[kL]at h;simpa using ih q o' h
  obtain⟨t',DQ⟩:=jN fs k off hk
  rw[←TC]at DQ
  simp at DQ
  obtain⟨f,Pu,Mr,UX⟩:=DQ
  have Mi:C.P.cellsOf f.type≠0:=by
   have:=Array.all_eq_true.1 s2
   obtain⟨bo,Wb⟩:=bu.1 Pu
   have:=this k bo
   rw[Wb]at this
   simpa using this
  have NZ:(fieldPlace ad f).run C.P w=.ok (ad.add f.offset) w:=by
   unfold fieldPlace
   unfold Program.cellsOf at Mi
   cases hq:C.P.info? f.type with
   |none=>rw[hq]at Mi;simp at Mi
   |some jn=>
    rw[hq]at Mi
    simp at Mi
    simp[sizeOf,typeInfo,hq,Mi]
  refine⟨.pointer (some (ad.add off)),?_,cL⟩
  simp[execOp,ho,hv,Instr.fieldAt,hf.underlying,Pu,Instr.sureAddr,NZ,Mr]
def pI(tm:TM):List Operand→Option (List Nat)
 |[]=>some []
 |x::r=>match aW tm x with
  |some (.ptr i 0)=>match pI tm r with
   |some is=>some (i::is)
   |none=>none
  |_=>none
theorem zK{f:FuncId}{df:Array Operand}{ids:List Nat}(ho:o.op=.makeFunc (.func f) #[] df)
 (hc:pI tm df.toList=some ids)(hb:ids.all (fun i=>match getM mm i with|some (.box _)=>true|_=>false)=true)(hd:o.dst=some d)(hn:Nat.blt d n=true):
 eO C n o tm mm d (.v (.one (.ku f ids))):=
 eO.val hd hn _ fun H Z a w hm=>by
  have key:∀(l:List Operand) (is:List Nat),pI tm l=some is→(∀i∈is,(match getM mm i with|some (.box _)=>true|_=>false)=true)→
   (∀i∈is,cD mm i)∧(l.map a.eval).length=is.length∧∀(j i:Nat),is[j]? =some i→(l.map a.eval)[j]? =some (H i):=by
   intro l
   induction l with
   |nil=>intro is h _;simp[pI]at h;subst h;simp
   |cons x r ih=>
    intro is h Py
    unfold pI at h
    split at h
    ·rename_i i hx
     split at h
     ·rename_i Vm ng
      injection h with h;subst h
      obtain⟨k1,k2,k3⟩:=ih Vm ng (fun q hq=>Py q (ab _ hq))
      obtain⟨hi,b,yS,hv⟩:=aX hm hx
      have Oq:=Py i ah
      split at Oq
      ·rename_i cs hg
       obtain⟨b',ty,vs,g1,_⟩:=hm.box hg
       rw[g1]at yS
       simp[Hb,hblk]at yS
       subst yS
       refine⟨fun q hq=>?_,by simpa using k2,fun j q hj=>?_⟩
       ·rcases ae.1 hq with rfl|hq
        ·exact hi
        ·exact k1 q hq
       ·cases j with
        |zero=>simp at hj;subst hj;simp[g1,hv]
        |succ j=>simp at hj;simpa using k3 j q hj
      ·cases Oq
     ·cases h
    ·cases h
  obtain⟨k1,k2,k3⟩:=key df.toList ids hc (aV.1 hb)
  refine⟨.func (.func f) #[] (df.map a.eval),by simp[execOp,ho,Instr.makeFunc],k1,df.toList.map a.eval,by simp[←dz],k2,k3⟩
theorem BZ{t:TypeId}(ho:o.op=.makeMap t none)(hi:getM mm d=none)(hd:o.dst=some d)(hn:Nat.blt d n=true):
 yW C n o tm mm ((d,.v (.one (.mp d)))::bw tm d) ((d,.lo [])::mm):=by
 intro a w ⟨H,Z,hm⟩
 refine .inl ⟨.map (some w.heap.size),w.alloc (.map #[] 0),by simp[execOp,ho,Instr.makeMap,newObj,Sem.run],Sy.jf H d (.map (some w.heap.size)),Sy.jf Z d 0,?_⟩
 rw[hd]
 refine hm.add (i:=d) (hv:=.map (some w.heap.size)) (z:=0) (o:=.lo []) (getM_none hi) (aY.mp hn) J (eE w _) ?_ ?_ ?_
 ·intro b hb
  simp[Hb,hblk]at hb
  subst hb
  exact⟨aA _,by show _ < (w.heap.push _).size;rw[iL];omega⟩
 ·intro _ _
  exact⟨w.heap.size,#[],0,bc _ _ _,oK w _,rfl,fun j p hp=>by simp at hp⟩
 ·exact⟨⟨_,ah,rfl⟩,(bc _ _ _).symm⟩
def uv(mm:MM):SC→Option Int
 |.c .bK=>some 0
 |.c (.slice _ _ xs)=>some (xs.length:Int)
 |.own i=>match getM mm i with
  |some (.arr _ _ _ xs)=>some (xs.length:Int)
  |_=>none
 |_=>none
theorem xX{Θ:dD}(bI:bz C.P Θ){t:TypeId}{z dG e:Nat}{ag:Bool}{zr:Option (List CT)}{x:Operand}{s:SC}{m:Int}
 (ho:o.op=.call {callee:=.builtin .len,args:=#[x],argTypes:=#[t]})(ht:aZ Θ t=some ⟨z,dG,ag,zr,.slice e⟩)
 (hx:aW tm x=some s)(hm:uv mm s=some m)(hd:o.dst=some d)(hn:Nat.blt d n=true):
 eO C n o tm mm d (.v (.one (.c (.int .i64 m)))):=
 eO.val hd hn _ fun H Z a w dC=>by
  obtain⟨inf,de,hf⟩:=jH bI ht
  have kZ:de=.slice e:=by
   have:=hf.sh
   cases de<;>simp[eR]at this⊢
   exact this
  subst kZ
  have hr:=aX dC hx
  have NT:∃(ad:Option Addr) (l c:Nat),a.eval x=.slice ad l c∧(l:Int)=m:=by
   cases s<;>simp only[uv]at hm<;>try(cases hm;done)
   ·rename_i ct
    cases ct<;>simp only at hm<;>try(cases hm;done)
    ·injection hm with hm;subst hm
     exact⟨none,0,0,a7.kF hr,rfl⟩
    ·injection hm with hm;subst hm
     have ga:a7 w (cU C H mm) (a.eval x) _:=hr
     generalize a.eval x=v at ga
     cases ga with
     |slice u hlen=>exact⟨_,_,_,rfl,by rw[hlen]⟩
   ·split at hm
    ·rename_i i nn e' sz xs hg
     injection hm with hm;subst hm
     obtain⟨_,us,g1,_⟩:=dC.mem _ (aN hg)
     obtain⟨_,hv⟩:=hr
     rcases g1.2 with⟨hh,hz⟩|⟨g,cap,cur,hh,_⟩
     ·rw[hh]at hv;exact⟨_,_,_,hv,by rw[hz]⟩
     ·rw[hh]at hv;exact⟨_,_,_,hv,rfl⟩
    ·cases hm
  obtain⟨ad,l,c,hv,hl⟩:=NT
  refine⟨.int .i64 m,?_,.int _ _⟩
  simp[execOp,ho,resolve,invoke,builtin,Builtin.len_,hf.underlying,hv,goInt,hl]
theorem B0{Θ:dD}(bI:bz C.P Θ){t:TypeId}{z dG:Nat}{ag:Bool}{zr:Option (List CT)}{x:Operand}{s:ByteArray}
 (ho:o.op=.call {callee:=.builtin .len,args:=#[x],argTypes:=#[t]})(ht:aZ Θ t=some ⟨z,dG,ag,zr,.string⟩)
 (hx:aW tm x=some (.c (.str s)))(hd:o.dst=some d)(hn:Nat.blt d n=true):
 eO C n o tm mm d (.v (.one (.c (.int .i64 (s.size:Int))))):=
 eO.val hd hn _ fun H Z a w dC=>by
  obtain⟨inf,de,hf⟩:=jH bI ht
  have kZ:de=.string:=by
   have:=hf.sh
   cases de<;>simp[eR]at this⊢
  subst kZ
  have hv:a.eval x=.string s:=a7.fo (aX dC hx)
  refine⟨.int .i64 (s.size:Int),?_,.int _ _⟩
  simp[execOp,ho,resolve,invoke,builtin,Builtin.len_,hf.underlying,hv,goInt]
theorem B1{Θ:dD}(bI:bz C.P Θ){t:TypeId}{z dG k e:Nat}{ag:Bool}{zr:Option (List CT)}{x:Operand}{i:Nat}{es:List (FV×FV)}
 (ho:o.op=.call {callee:=.builtin .len,args:=#[x],argTypes:=#[t]})(ht:aZ Θ t=some ⟨z,dG,ag,zr,.map k e⟩)
 (hx:aW tm x=some (.mp i))(hi:getM mm i=some (.lo es))(hd:o.dst=some d)(hn:Nat.blt d n=true):
 eO C n o tm mm d (.v (.one (.c (.int .i64 (es.length:Int))))):=
 eO.val hd hn _ fun H Z a w dC=>by
  obtain⟨inf,de,hf⟩:=jH bI ht
  have kZ:de=.map k e:=by
   have:=hf.sh
   cases de<;>simp[eR]at this⊢
   exact this
  subst kZ
  obtain⟨r,ens,ck,h1,h2,h3,_⟩:=dC.mem _ (aN hi)
  obtain⟨_,hv⟩:=aX dC hx
  rw[h1]at hv
  refine⟨.int .i64 (es.length:Int),?_,.int _ _⟩
  simp[execOp,ho,resolve,invoke,builtin,Builtin.len_,hf.underlying,hv,goInt,getObj,Sem.run,h2,h3]
theorem Nf{x y:Operand}{k:IntKind}{p q:Int}{ts:Array TypeId}(ho:o.op=.call {callee:=.builtin .min,args:=#[x,y],argTypes:=ts})
 (hx:aW tm x=some (.c (.int k p)))(hy:aW tm y=some (.c (.int k q)))(hd:o.dst=some d)(hn:Nat.blt d n=true):
 eO C n o tm mm d (.v (.one (.c (.int k (min p q))))):=
 eO.val hd hn _ fun H Z a w hm=>by
  have h1:a.eval x=.int k p:=a7.cH (aX hm hx)
  have h2:a.eval y=.int k q:=a7.cH (aX hm hy)
  refine⟨.int k (min p q),?_,.int _ _⟩
  have:(if q < p then q else p)=min p q:=by rw[Int.min_def];split<;>split<;>omega
  simp[execOp,ho,resolve,invoke,builtin,Builtin.min_,h1,h2,Builtin.min2,this]
theorem Ng{x y:Operand}{k:IntKind}{p q:Int}{ts:Array TypeId}(ho:o.op=.call {callee:=.builtin .max,args:=#[x,y],argTypes:=ts})
 (hx:aW tm x=some (.c (.int k p)))(hy:aW tm y=some (.c (.int k q)))(hd:o.dst=some d)(hn:Nat.blt d n=true):
 eO C n o tm mm d (.v (.one (.c (.int k (max p q))))):=
 eO.val hd hn _ fun H Z a w hm=>by
  have h1:a.eval x=.int k p:=a7.cH (aX hm hx)
  have h2:a.eval y=.int k q:=a7.cH (aX hm hy)
  refine⟨.int k (max p q),?_,.int _ _⟩
  have:(if p < q then q else p)=max p q:=by rw[Int.max_def];split<;>split<;>omega
  simp[execOp,ho,resolve,invoke,builtin,Builtin.max_,h1,h2,Builtin.max2,this]
end
end Go.Sy
namespace Go.Sy
open Go.RowKit
theorem qB(off:Nat):∀(l:List Value) (k:Nat) (cells:Array Value),off+k+l.length≤cells.size→
 ((l.zipIdx k).foldl (fun cs (p:Value×Nat)=>cs.setIfInBounds (off+p.2) p.1) cells).toList=cells.toList.take (off+k)++l++cells.toList.drop (off+k+l.length)
 |[],k,cells,_=>by simp
 |v::l,k,cells,h=>by
  simp only[List.zipIdx_cons,cx]
  rw[qB off l (k+1) (cells.setIfInBounds (off+k) v) (by simp at h⊢;omega)]
  have bo:off+k < cells.toList.length:=by simp at h⊢;omega
  simp only[Array.toList_setIfInBounds]
  apply lM
  intro j
  simp only[bN,b9,ca,aL,bf,oN,dT,cY,List.getElem?_cons]
  simp at bo h
  by_cases h1:j < off+k
  ·have h2:off+k≠j:=by omega
   simp[h1,h2,show j < off+(k+1) by omega,show j < min (off+(k+1)) cells.size by omega,show j < min (off+k) cells.size by omega,
    show j < min (off+(k+1)) cells.size+l.length by omega,show j < min (off+k) cells.size+(l.length+1) by omega]
  ·by_cases h2:j=off+k
   ·subst h2
    simp[bo,show off+k < min (off+(k+1)) cells.size by omega,show ¬off+k < min (off+k) cells.size by omega,
     show off+k < min (off+(k+1)) cells.size+l.length by omega,show off+k < min (off+k) cells.size+(l.length+1) by omega,
     show off+k < off+(k+1) by omega,show off+k - min (off+k) cells.size=0 by omega]
   ·have h4:¬j < min (off+(k+1)) cells.size:=by omega
    have h5:¬j < min (off+k) cells.size:=by omega
    by_cases h6:j < off+k+(l.length+1)
    ·simp[h4,h5,show j < min (off+(k+1)) cells.size+l.length by omega,show j < min (off+k) cells.size+(l.length+1) by omega,
      show j - min (off+k) cells.size≠0 by omega]
     congr 1
     omega
    ·simp[show ¬j < min (off+(k+1)) cells.size+l.length by omega,show ¬j < min (off+k) cells.size+(l.length+1) by omega]
     rw[if_neg (by omega)]
     congr 1
     omega
theorem Fu(place:Nat→Option (Nat×Nat))(cells:Array Value)(i:Nat)(v:Value)(rest:List (Nat×Value)){off size:Nat}
 (hp:place i=some (off,size))(hs:v.cells.size=size)(hb:off+size≤cells.size):
 Instr.fill place cells ((i,v)::rest)=
  Instr.fill place (cells.toList.take off++v.cells.toList++cells.toList.drop (off+v.cells.toList.length)).toArray rest:=by
 conv=>lhs;unfold Instr.fill
 simp only[hp]
 rw[if_neg (by simp[hs];omega)]
 congr 1
 have h:=qB off v.cells.toList 0 cells (by simp[hs];omega)
 simp only[lI]at h
 rw[←h]
 simp only[←Array.foldl_toList,Array.toList_zipIdx]
def mY(place:Nat→Option (Nat×Nat))(tm:TM):List SC→List (Nat×Operand)→Option (List SC)
 |cells,[]=>some cells
 |cells,(i,x)::r=>
  match place i with
  |some (off,size)=>
   match dM tm x with
   |some s=>
    match Nat.beq s.cells.length size with
    |true=>
     match s.cells.all SC.known with
     |true=>
      match gq cells off s.cells with
      |some c'=>mY place tm c' r
      |none=>none
     |false=>none
    |false=>none
   |none=>none
  |none=>none
section
variable {C:Ctx} {n:Nat} {tm:TM} {mm:MM} {o:Oper} {d:Nat}
theorem ks{H:Nat→Value}{Z:Nat→Nat}{a:Act}{w:World}(hm:Mod C H Z n tm mm a w)(place:Nat→Option (Nat×Nat)):
 ∀(parts:List (Nat×Operand)) (cells:List SC) (vs:Array Value) (r:List SC),
  Pw (fun u c=>u.oneCell'=true∧bR (cD mm) H Z w (cU C H mm) u c) vs.toList cells→mY place tm cells parts=some r→
  ∃lN:Array Value,Instr.fill place vs (parts.map fun p=>(p.1,a.eval p.2))=some lN∧Pw (fun u c=>u.oneCell'=true∧bR (cD mm) H Z w (cU C H mm) u c) lN.toList r
 |[],cells,vs,r,hp,h=>by
  simp[mY]at h;subst h
  exact⟨vs,rfl,hp⟩
 |(i,x)::parts,cells,vs,r,hp,h=>by
  unfold mY at h
  split at h
  ·rename_i off size mZ
   split at h
   ·rename_i s hs
    split at h
    ·rename_i c8
     split at h
     ·rename_i hk
      split at h
      ·rename_i c' yR
       obtain⟨e1,e2⟩:=(ee hm hs).cells hm hk
       obtain⟨f1,f2⟩:=kg yR
       have hlen:s.cells.length=size:=aR c8
       have Qc:vs.size=cells.length:=by simpa using hp.1
       have hc:Pw (fun u c=>u.oneCell'=true∧bR (cD mm) H Z w (cU C H mm) u c) (a.eval x).cells.toList s.cells:=
        ⟨by simpa using e1,fun j c hc=>by simpa using e2 j c hc⟩
       obtain⟨lN,g1,g2⟩:=ks hm place parts c' (vs.toList.take off++(a.eval x).cells.toList++vs.toList.drop (off+(a.eval x).cells.toList.length)).toArray r (by
        rw[f1,show(a.eval x).cells.toList.length=s.cells.length by simpa using e1]
        exact((hp.take off).append hc).append (hp.drop _)) h
       refine⟨lN,?_,g2⟩
       rw[bF,Fu place vs i (a.eval x) _ mZ (by rw[e1,hlen]) (by rw[Qc,←hlen];exact f2)]
       exact g1
      ·cases h
     ·cases h
    ·cases h
   ·cases h
  ·cases h
def fF(Θ:dD)(fs:List (Nat×Nat))(i:Nat):Option (Nat×Nat):=
 match fs,i with
 |[],_=>none
 |(o,t)::_,0=>match aZ Θ t with
  |some ti=>some (o,ti.size)
  |none=>none
 |_::r,k+1=>fF Θ r k
theorem lO{Θ:dD}:∀{fs:List (Nat×Nat)} {i:Nat} {p:Nat×Nat},fF Θ fs i=some p→∃t ti,fs[i]? =some (p.1,t)∧aZ Θ t=some ti∧p.2=ti.size
 |[],i,p,h=>by cases i<;>simp[fF]at h
 |(o,t)::r,0,p,h=>by
  unfold fF at h
  split at h
  ·rename_i ti Qh
   injection h with h;subst h
   exact⟨t,ti,rfl,Qh,rfl⟩
  ·cases h
 |q::r,k+1,p,h=>by
  unfold fF at h
  simpa using lO h
theorem Ch{P:Program}{w:World}(fields:List Field)(fP:∀f∈fields,P.cellsOf f.type≠0):
 (fields.mapM (m:=Sem) fun f=>do pure (f.offset,←sizeOf f.type)).run P w=.ok (fields.map fun f=>(f.offset,P.cellsOf f.type)) w:=by
 induction fields with
 |nil=>simp
 |cons f r ih=>
  have h1:(sizeOf f.type).run P w=.ok (P.cellsOf f.type) w:=by
   have:=fP f ah
   unfold Program.cellsOf at this⊢
   cases hq:P.info? f.type with
   |none=>rw[hq]at this;simp at this
   |some inf=>simp[sizeOf,typeInfo,hq]
  rw[List.mapM_cons]
  simp only[Sem.run_bind,h1,Result.andThen_ok,Sem.run_pure,ih (fun g hg=>fP g (ab _ hg)),bF]
theorem uQ(p q:Nat→Option (Nat×Nat)):∀(parts:List (Nat×Value)) (cells:Array Value),(∀x∈parts,p x.1=q x.1)→Instr.fill p cells parts=Instr.fill q cells parts
 |[],_,_=>rfl
 |(i,v)::r,cells,h=>by
  have e:p i=q i:=h (i,v) ah
  simp only[Instr.fill,e]
  cases q i with
  |none=>rfl
  |some os=>
   obtain⟨off,size⟩:=os
   simp only
   split
   ·rfl
   ·exact uQ p q r _ (fun x hx=>h x (ab _ hx))
theorem sr{place:Nat→Option (Nat×Nat)}:∀{parts:List (Nat×Operand)} {cells r:List SC},mY place tm cells parts=some r→∀x∈parts,(place x.1).isSome=true
 |[],_,_,_,x,hx=>by simp at hx
 |(i,y)::parts,cells,r,h,x,hx=>by
  unfold mY at h
  split at h
  ·rename_i off size mZ
   split at h
   ·split at h
    ·split at h
     ·split at h
      ·rcases ae.1 hx with rfl|hx
       ·simp[mZ]
       ·exact sr h x hx
      ·cases h
     ·cases h
    ·cases h
   ·cases h
  ·cases h
theorem sL{Θ:dD}(bI:bz C.P Θ){t:TypeId}{z dG:Nat}{zr:List CT}{fs:List (Nat×Nat)}{parts:Array (Nat×Operand)}{r:List SC}
 (ho:o.op=.build t parts)(ht:aZ Θ t=some ⟨z,dG,true,some zr,.struct fs⟩)(hl:mY (fF Θ fs) tm (qn.sN SC.c zr) parts.toList=some r)
 (hd:o.dst=some d)(hn:Nat.blt d n=true):
 eO C n o tm mm d (.v (.agg r)):=
 eO.val hd hn _ fun H Z a w hm=>by
  obtain⟨inf,de,hf⟩:=jH bI ht
  obtain⟨zv,hz,vH,Cp⟩:=hf.zero zr J
  obtain⟨h1,h2⟩:=e7 (w:=w) (M:=cU C H mm) vH
  have hp:Pw (fun u c=>u.oneCell'=true∧bR (cD mm) H Z w (cU C H mm) u c) zv.cells.toList (qn.sN SC.c zr):=by
   rw[qo]
   refine Pw.map.2 ⟨by simpa using h1,fun j c hc=>?_⟩
   obtain⟨u,hu,hr⟩:=h2 j c hc
   exact⟨u,by simpa using hu,hr.one,hr⟩
  obtain⟨lN,g1,g2⟩:=ks hm (fF Θ fs) parts.toList _ _ r hp hl
  have KS:=hf.sh
  cases de<;>simp only[eR]at KS<;>try(cases KS;done)
  rename_i fields
  simp only[ax]at KS
  obtain⟨s1,s2⟩:=KS
  have TC:fields.toList.map (fun f=>(f.offset,f.type))=fs:=by simpa using s1
  have fP:∀f∈fields.toList,C.P.cellsOf f.type≠0:=by
   intro f iG
   have:=Array.all_eq_true_iff_forall_mem.1 s2 f (by simpa using iG)
   simpa using this
  have uC:(fields.mapM (m:=Sem) fun f=>do pure (f.offset,←sizeOf f.type)).run C.P w=.ok (fields.map fun f=>(f.offset,C.P.cellsOf f.type)) w:=by
   have:=Ch (P:=C.P) (w:=w) fields.toList fP
   rw[Array.mapM_eq_mapM_toList]
   simp only[Sem.run_map,this,Result.andThen_ok,dz]
   simp[←dz]
  refine⟨.agg lN,?_,?_⟩
  ·have jm:Instr.fill (fun i=>(fields.map fun f=>(f.offset,C.P.cellsOf f.type))[i]?) zv.cells (parts.map fun(i,x)=>(i,a.eval x)).toList=some lN:=by
    rw[←g1,mW]
    refine uQ _ _ _ _ ?_
    intro x hx
    obtain⟨y,hy,rfl⟩:=aE.1 hx
    have Qj:=sr hl y hy
    obtain⟨p,oA⟩:=Option.isSome_iff_exists.1 Qj
    obtain⟨t',ti,k1,k2,k3⟩:=lO oA
    simp only[oA]
    rw[←TC]at k1
    simp at k1
    obtain⟨f,Pu,Mr,UX⟩:=k1
    obtain⟨lX,yU,iG⟩:=jH bI k2
    have Wk:C.P.cellsOf f.type=ti.size:=by
     unfold Program.cellsOf
     rw[UX,iG.info]
     simp[iG.size]
    have:p=(f.offset,ti.size):=by rw[Mr,←k3]
    simp[Pu,Wk,this]
   simp only[execOp,ho,Instr.build,Sem.run_bind,hf.zeroValue hz,Result.andThen_ok,hf.underlying,uC,jm,Sem.run_pure]
  ·refine⟨lN,rfl,by simpa using g2.1,fun j c hc=>?_⟩
   obtain⟨u,hu,_,hr⟩:=g2.2 j c hc
   exact⟨u,by simpa using hu,hr⟩
theorem tY{Θ:dD}(bI:bz C.P Θ){t:TypeId}{z dG len e:Nat}{zr:List CT}{parts:Array (Nat×Operand)}{r:List SC}{ei:gD}
 (ho:o.op=.build t parts)(ht:aZ Θ t=some ⟨z,dG,true,some zr,.arr len e⟩)(fm:aZ Θ e=some ei)
 (hl:mY (fun i=>some (i * ei.size,ei.size)) tm (qn.sN SC.c zr) parts.toList=some r)
 (hd:o.dst=some d)(hn:Nat.blt d n=true):
 eO C n o tm mm d (.v (.agg r)):=
 eO.val hd hn _ fun H Z a w hm=>by
  obtain⟨inf,de,hf⟩:=jH bI ht
  obtain⟨lX,yU,iG⟩:=jH bI fm
  obtain⟨zv,hz,vH,Cp⟩:=hf.zero zr J
  obtain⟨h1,h2⟩:=e7 (w:=w) (M:=cU C H mm) vH
  have hp:Pw (fun u c=>u.oneCell'=true∧bR (cD mm) H Z w (cU C H mm) u c) zv.cells.toList (qn.sN SC.c zr):=by
   rw[qo]
   refine Pw.map.2 ⟨by simpa using h1,fun j c hc=>?_⟩
   obtain⟨u,hu,hr⟩:=h2 j c hc
   exact⟨u,by simpa using hu,hr.one,hr⟩
  obtain⟨lN,g1,g2⟩:=ks hm _ parts.toList _ _ r hp hl
  have kZ:de=.array len e:=by
   have:=hf.sh
   cases de<;>simp[eR]at this⊢
   exact this
  subst kZ
  refine⟨.agg lN,?_,?_⟩
  ·have jm:Instr.fill (fun i=>some (i * ei.size,ei.size)) zv.cells (parts.map fun(i,x)=>(i,a.eval x)).toList=some lN:=by
    rw[←g1,mW]
   simp only[execOp,ho,Instr.build,Sem.run_bind,hf.zeroValue hz,Result.andThen_ok,hf.underlying,iG.sizeOf,jm,Sem.run_pure]
  ·refine⟨lN,rfl,by simpa using g2.1,fun j c hc=>?_⟩
   obtain⟨u,hu,_,hr⟩:=g2.2 j c hc
   exact⟨u,by simpa using hu,hr⟩
end
end Go.Sy
namespace Go.Sy
open Go.RowKit
def AN:List Nat→Nat→Bool
 |[],_=>false
 |j::r,i=>match Nat.beq j i with
  |true=>true
  |false=>AN r i
theorem oB{i:Nat}:∀{l:List Nat},AN l i=false→i∉l
 |[],_=>by simp
 |j::r,h=>by
  unfold AN at h
  cases hb:Nat.beq j i with
  |true=>rw[hb]at h;cases h
  |false=>
   rw[hb]at h
   intro hm
   rcases ae.1 hm with rfl|hm
   ·simp at hb
   ·exact oB h hm
def SC.sub(s:SC)(i:Nat)(r:SC):SC:=
 match s with
 |.own j=>match Nat.beq j i with|true=>r|false=>.own j
 |.ptr j o=>match Nat.beq j i with|true=>.any|false=>.ptr j o
 |.iu j k o=>match Nat.beq j i with|true=>.any|false=>.iu j k o
 |.mp j=>match Nat.beq j i with|true=>.any|false=>.mp j
 |.td j n=>match Nat.beq j i with|true=>.any|false=>.td j n
 |.ku f df=>match AN df i with|true=>.any|false=>.ku f df
 |.c x=>.c x
 |.lit b=>.lit b
 |.hC cs=>.hC cs
 |.any=>.any
theorem SC.gO{i:Nat}{r:SC}(hr:r.bD=[])(s:SC):(∀j∈(s.sub i r).bD,j∈s.bD∧j≠i):=by
 intro j hj
 cases s with
 |own k=>
  simp only[SC.sub]at hj
  cases hb:Nat.beq k i with
  |true=>rw[hb]at hj;simp only[hr]at hj;cases hj
  |false=>rw[hb]at hj;simp[SC.bD]at hj⊢;subst hj;exact⟨rfl,fun e=>by subst e;simp at hb⟩
 |ptr k o=>
  simp only[SC.sub]at hj
  cases hb:Nat.beq k i with
  |true=>rw[hb]at hj;simp[SC.bD]at hj
  |false=>rw[hb]at hj;simp[SC.bD]at hj⊢;subst hj;exact⟨rfl,fun e=>by subst e;simp at hb⟩
 |iu k q o=>
  simp only[SC.sub]at hj
  cases hb:Nat.beq k i with
  |true=>rw[hb]at hj;simp[SC.bD]at hj
  |false=>rw[hb]at hj;simp[SC.bD]at hj⊢;subst hj;exact⟨rfl,fun e=>by subst e;simp at hb⟩
 |mp k=>
  simp only[SC.sub]at hj
  cases hb:Nat.beq k i with
  |true=>rw[hb]at hj;simp[SC.bD]at hj
  |false=>rw[hb]at hj;simp[SC.bD]at hj⊢;subst hj;exact⟨rfl,fun e=>by subst e;simp at hb⟩
 |td k n=>
  simp only[SC.sub]at hj
  cases hb:Nat.beq k i with
  |true=>rw[hb]at hj;simp[SC.bD]at hj
  |false=>rw[hb]at hj;simp[SC.bD]at hj⊢;subst hj;exact⟨rfl,fun e=>by subst e;simp at hb⟩
 |ku f df=>
  simp only[SC.sub]at hj
  cases hb:AN df i with
  |true=>rw[hb]at hj;simp[SC.bD]at hj
  |false=>rw[hb]at hj;simp[SC.bD]at hj⊢;exact⟨hj,fun e=>oB hb (e▸hj)⟩
 |c x=>simp[SC.sub,SC.bD]at hj
 |lit b=>simp[SC.sub,SC.bD]at hj
 |hC cs=>simp[SC.sub,SC.bD]at hj
 |any=>simp[SC.sub,SC.bD]at hj
theorem bR.sub{I:Nat→Prop}{H:Nat→Value}{Z:Nat→Nat}{w:World}{M:Nat→Prop}{v:Value}{s:SC}{i:Nat}{r:SC}
 (h:bR I H Z w M v s)(hr:v=H i→bR I H Z w M v r):bR I H Z w M v (s.sub i r):=by
 cases s with
 |own k=>
  simp only[SC.sub]
  cases hb:Nat.beq k i with
  |true=>
   have:k=i:=aR hb
   subst this
   exact hr h.2
  |false=>exact h
 |ptr k o=>simp only[SC.sub];cases Nat.beq k i<;>first|exact h|trivial
 |iu k q o=>simp only[SC.sub];cases Nat.beq k i<;>first|exact h|trivial
 |mp k=>simp only[SC.sub];cases Nat.beq k i<;>first|exact h|trivial
 |td k n=>simp only[SC.sub];cases Nat.beq k i<;>first|exact h|trivial
 |ku f df=>simp only[SC.sub];cases AN df i<;>first|exact h|trivial
 |c x=>exact h
 |lit b=>exact h
 |hC cs=>exact h
 |any=>trivial
def y7(i:Nat)(r:SC):List SC→List SC
 |[]=>[]
 |s::l=>s.sub i r::y7 i r l
theorem p5(i:Nat)(r:SC)(l:List SC):y7 i r l=l.map (fun s=>SC.sub s i r):=by
 induction l with
 |nil=>rfl
 |cons a l ih=>simp[y7,ih]
def SV.sub(i:Nat)(r:SC):SV→SV
 |.one s=>.one (s.sub i r)
 |.agg xs=>.agg (y7 i r xs)
def xH(i:Nat)(r:SC):List SV→List SV
 |[]=>[]
 |s::l=>s.sub i r::xH i r l
theorem wb(i:Nat)(r:SC)(l:List SV):xH i r l=l.map (SV.sub i r):=by
 induction l with
 |nil=>rfl
 |cons a l ih=>simp[xH,ih]
def ST.sub(i:Nat)(r:SC):ST→ST
 |.v s=>.v (s.sub i r)
 |.gE xs=>.gE (xH i r xs)
def MO.sub(i:Nat)(r:SC):MO→MO
 |.box cs=>.box (y7 i r cs)
 |.arr nn e sz xs=>.arr nn e sz xs
 |.lo es=>.lo es
 |.bG e sz qs=>.bG e sz qs
def vt(i:Nat)(r:SC):TM→TM
 |[]=>[]
 |(t,s)::l=>(t,s.sub i r)::vt i r l
theorem tv{i:Nat}{r:SC}{p:Nat×ST}:∀{tm:TM},p∈vt i r tm→∃q∈tm,q.1=p.1∧p.2=q.2.sub i r
 |[],h=>by simp[vt]at h
 |(t,s)::l,h=>by
  unfold vt at h
  rcases ae.1 h with rfl|h
  ·exact⟨_,ah,rfl,rfl⟩
  ·obtain⟨q,hq,e⟩:=tv h
   exact⟨q,ab _ hq,e⟩
def jt(i:Nat)(r:SC):MM→MM
 |[]=>[]
 |(t,o)::l=>match Nat.beq t i with
  |true=>jt i r l
  |false=>(t,o.sub i r)::jt i r l
theorem ft{i:Nat}{r:SC}{p:Nat×MO}:∀{mm:MM},p∈jt i r mm→∃q∈mm,q.1=p.1∧p.2=q.2.sub i r∧q.1≠i
 |[],h=>by simp[jt]at h
 |(t,s)::l,h=>by
  unfold jt at h
  cases hb:Nat.beq t i with
  |true=>
   rw[hb]at h
   obtain⟨q,hq,e⟩:=ft h
   exact⟨q,ab _ hq,e⟩
  |false=>
   rw[hb]at h
   rcases ae.1 h with rfl|h
   ·exact⟨_,ah,rfl,rfl,fun e=>by rw[show t=i from e]at hb;simp at hb⟩
   ·obtain⟨q,hq,e⟩:=ft h
    exact⟨q,ab _ hq,e⟩
theorem p4{i:Nat}{r:SC}{j:Nat}(hj:j≠i):∀{mm:MM},cD mm j→cD (jt i r mm) j
 |[],h=>by obtain⟨p,hp,_⟩:=h;simp at hp
 |(t,s)::l,h=>by
  obtain⟨p,hp,he⟩:=h
  unfold jt
  cases hb:Nat.beq t i with
  |true=>
   rcases ae.1 hp with rfl|hp
   ·exact absurd (he.symm.trans (aR hb)) hj
   ·exact p4 hj ⟨p,hp,he⟩
  |false=>
   rcases ae.1 hp with rfl|hp
   ·exact⟨_,ah,he⟩
   ·obtain⟨q,hq,vg⟩:=p4 (r:=r) hj ⟨p,hp,he⟩
    exact⟨q,ab _ hq,vg⟩
section
variable {I I':Nat→Prop} {H:Nat→Value} {Z:Nat→Nat} {w:World} {M M':Nat→Prop} {i:Nat} {r:SC}
theorem bR.sJ{v:Value}{s:SC}(h:bR I H Z w M v s)(Br:r.bD=[])(hr:v=H i→bR I' H Z w M' v r)
 (hI:∀j,j≠i→I j→I' j)(hM:∀b,b < w.heap.size→M' b→M b):bR I' H Z w M' v (s.sub i r):=by
 cases s with
 |own k=>
  simp only[SC.sub]
  cases hb:Nat.beq k i with
  |true=>
   have:k=i:=aR hb
   subst this
   exact hr h.2
  |false=>exact h.mono (fun j hj AP=>⟨hI j (by simp[SC.bD]at hj;subst hj;intro e;subst e;simp at hb) AP,rfl,rfl⟩) (aA _) (fun _ _ _=>rfl) hM
 |ptr k o=>
  simp only[SC.sub]
  cases hb:Nat.beq k i with
  |true=>trivial
  |false=>exact h.mono (fun j hj AP=>⟨hI j (by simp[SC.bD]at hj;subst hj;intro e;subst e;simp at hb) AP,rfl,rfl⟩) (aA _) (fun _ _ _=>rfl) hM
 |iu k q o=>
  simp only[SC.sub]
  cases hb:Nat.beq k i with
  |true=>trivial
  |false=>exact h.mono (fun j hj AP=>⟨hI j (by simp[SC.bD]at hj;subst hj;intro e;subst e;simp at hb) AP,rfl,rfl⟩) (aA _) (fun _ _ _=>rfl) hM
 |td k n=>
  simp only[SC.sub]
  cases hb:Nat.beq k i with
  |true=>trivial
  |false=>exact h.mono (fun j hj AP=>⟨hI j (by simp[SC.bD]at hj;subst hj;intro e;subst e;simp at hb) AP,rfl,rfl⟩) (aA _) (fun _ _ _=>rfl) hM
 |mp k=>
  simp only[SC.sub]
  cases hb:Nat.beq k i with
  |true=>trivial
  |false=>exact h.mono (fun j hj AP=>⟨hI j (by simp[SC.bD]at hj;subst hj;intro e;subst e;simp at hb) AP,rfl,rfl⟩) (aA _) (fun _ _ _=>rfl) hM
 |ku f df=>
  simp only[SC.sub]
  cases hb:AN df i with
  |true=>trivial
  |false=>exact h.mono (fun j hj AP=>⟨hI j (fun e=>oB hb (e▸hj)) AP,rfl,rfl⟩) (aA _) (fun _ _ _=>rfl) hM
 |c x=>exact a7.mono h (aA _) (fun _ _ _=>rfl) hM
 |lit b=>exact h
 |hC cs=>exact bR.mono (x:=.hC cs) h (fun j hj _=>by simp[SC.bD]at hj) (aA _) (fun _ _ _=>rfl) hM
 |any=>trivial
theorem cF.sJ{v:Value}{s:SV}(h:cF I H Z w M v s)(Br:r.bD=[])(hr:∀v,v=H i→bR I' H Z w M' v r)
 (hI:∀j,j≠i→I j→I' j)(hM:∀b,b < w.heap.size→M' b→M b):cF I' H Z w M' v (s.sub i r):=by
 cases s with
 |one s=>exact bR.sJ h Br (hr v) hI hM
 |agg xs=>
  obtain⟨vs,h1,h2,h3⟩:=h
  simp only[SV.sub,p5]
  refine⟨vs,h1,by simpa using h2,fun j c hc=>?_⟩
  rw[aI]at hc
  cases hq:xs[j]? with
  |none=>rw[hq]at hc;cases hc
  |some s=>
   rw[hq]at hc;injection hc with hc;subst hc
   obtain⟨u,hu,cL⟩:=h3 j s hq
   exact⟨u,hu,cL.sJ Br (hr u) hI hM⟩
theorem fy.sJ{v:Value}{s:ST}(h:fy I H Z w M v s)(Br:r.bD=[])(hr:∀v,v=H i→bR I' H Z w M' v r)
 (hI:∀j,j≠i→I j→I' j)(hM:∀b,b < w.heap.size→M' b→M b):fy I' H Z w M' v (s.sub i r):=by
 cases s with
 |v s=>exact cF.sJ h Br hr hI hM
 |gE xs=>
  obtain⟨vs,h1,h2,h3⟩:=h
  simp only[ST.sub,wb]
  refine⟨vs,h1,by simpa using h2,fun j c hc=>?_⟩
  rw[aI]at hc
  cases hq:xs[j]? with
  |none=>rw[hq]at hc;cases hc
  |some s=>
   rw[hq]at hc;injection hc with hc;subst hc
   obtain⟨u,hu,cL⟩:=h3 j s hq
   exact⟨u,hu,cL.sJ Br hr hI hM⟩
theorem eb.sJ{k:Nat}{o:MO}(h:eb I H Z w M k o)(Br:r.bD=[])(hr:∀v,v=H i→bR I' H Z w M' v r)
 (hI:∀j,j≠i→I j→I' j)(hM:∀b,b < w.heap.size→M' b→M b):eb I' H Z w M' k (o.sub i r):=by
 cases o with
 |box cs=>
  obtain⟨b,ty,vs,h1,h2,h3,h4⟩:=h
  simp only[MO.sub,p5]
  refine⟨b,ty,vs,h1,h2,by simpa using h3,fun j c hc=>?_⟩
  rw[aI]at hc
  cases hq:cs[j]? with
  |none=>rw[hq]at hc;cases hc
  |some s=>
   rw[hq]at hc;injection hc with hc;subst hc
   obtain⟨u,hu,ho,cL⟩:=h4 j s hq
   exact⟨u,hu,ho,cL.sJ Br (hr u) hI hM⟩
 |arr nn e sz xs=>exact eb.mono (o:=.arr nn e sz xs) h ⟨rfl,rfl⟩ (fun _ _=>rfl) (fun j hj _=>by simp[MO.bD]at hj) (aA _) (fun _ _ _=>rfl) hM
 |lo es=>exact eb.mono (o:=.lo es) h ⟨rfl,rfl⟩ (fun _ _=>rfl) (fun j hj _=>by simp[MO.bD]at hj) (aA _) (fun _ _ _=>rfl) hM
 |bG e sz qs=>exact eb.mono (o:=.bG e sz qs) h ⟨rfl,rfl⟩ (fun _ _=>rfl) (fun j hj _=>by simp[MO.bD]at hj) (aA _) (fun _ _ _=>rfl) hM
end
theorem Mod.Uf{C:Ctx}{H:Nat→Value}{Z:Nat→Nat}{n:Nat}{tm:TM}{mm:MM}{a:Act}{w:World}(h:Mod C H Z n tm mm a w)
 (i:Nat)(r:SC)(Br:r.bD=[])(hr:∀v,v=H i→bR (cD (jt i r mm)) H Z w (cU C H (jt i r mm)) v r):
 Mod C H Z n (vt i r tm) (jt i r mm) a w:=by
 have hI:∀j,j≠i→cD mm j→cD (jt i r mm) j:=fun j hj h=>p4 hj h
 have hM:∀b,b < w.heap.size→cU C H (jt i r mm) b→cU C H mm b:=by
  intro b _ hb
  rcases hb with hb|⟨p,hp,cC⟩
  ·exact .inl hb
  ·obtain⟨q,hq,e1,_⟩:=ft hp
   exact .inr ⟨q,hq,by rw[e1];exact cC⟩
 refine⟨h.defers,h.size,h.L9,?_,h.ext,h.m0,?_,?_,?_,?_,?_⟩
 ·intro p hp jZ
  obtain⟨q,hq,e1,_⟩:=ft hp
  rw[←e1]at jZ⊢
  exact h.hg q hq jZ
 ·intro p hp q hq he
  obtain⟨p',oA,e1,e2,_⟩:=ft hp
  obtain⟨q',pO,f1,f2,_⟩:=ft hq
  have:=h.ids p' oA q' pO (by rw[e1,f1];exact he)
  subst this
  exact Prod.ext he (by rw[e2,f2])
 ·intro p hp
  obtain⟨q,hq,e1,e2,_⟩:=ft hp
  rw[←e1,e2]
  exact(h.mem q hq).sJ Br hr hI hM
 ·intro p hp b hb
  obtain⟨q,hq,e1,e2,_⟩:=ft hp
  rw[←e1]at hb⊢
  exact h.fresh q hq b hb
 ·intro p hp q hq jl b cC
  obtain⟨p',oA,e1,_⟩:=ft hp
  obtain⟨q',pO,f1,_⟩:=ft hq
  rw[←e1]at cC jl
  rw[←f1]at jl⊢
  exact h.sep p' oA q' pO jl b cC
 ·intro p hp
  obtain⟨q,hq,e1,e2⟩:=tv hp
  rw[←e1,e2]
  exact(h.tmps q hq).sJ Br hr hI hM
section
variable {C:Ctx} {n:Nat} {ops:Array Oper} {l:List Oper} {tm tm':TM} {mm mm':MM} {T:TM→MM→Prop} {o:Oper}
theorem Mod.frozen{H:Nat→Value}{Z:Nat→Nat}{a:Act}{w:World}(h:Mod C H Z n tm mm a w){i:Nat}{nn:Bool}{e sz:Nat}{xs:List (List CT)}
 (hi:getM mm i=some (.arr nn e sz xs))(hg:i < given):
 ∀v,v=H i→a7 w (cU C H (jt i (.c (.slice nn sz xs)) mm)) v (.slice nn sz xs):=by
 rintro v rfl
 obtain⟨hz,us,h1,h2,h3,h4⟩:=h.mem _ (aN hi)
 have hM:∀b,b < w.heap.size→cU C H (jt i (.c (.slice nn sz xs)) mm) b→cU C H mm b:=by
  intro b _ hb
  rcases hb with hb|⟨p,hp,cC⟩
  ·exact .inl hb
  ·obtain⟨q,hq,e1,_⟩:=ft hp
   exact .inr ⟨q,hq,by rw[e1];exact cC⟩
 simp only at h1 h2 h4
 have lB:=h1
 rcases h1.2 with⟨hh,hn⟩|⟨g,cap,cur,hh,_,uG,j3,kY,CA,uy⟩
 ·rw[hh]
  have hx:xs=[]:=b6 hn
  subst hx
  exact .slice (fun _ _=>undef) (by simp) (aA _) (by simp[maxLen]) (fun sv=>absurd hh (h2 sv)) (by simp) (fun hp=>by simp at hp) (fun k x hx=>by simp at hx)
 ·have hb:Hb (H i) g:=by rw[hh];rfl
  obtain⟨Pu,Mr⟩:=h.fresh _ (aN hi) g hb
  have FW:¬cU C H (jt i (.c (.slice nn sz xs)) mm) g:=by
   rintro(hm|⟨p,hp,cC⟩)
   ·have:=h.m0 g hm
    rcases Pu with⟨_,k|k⟩|⟨k,_⟩
    ·omega
    ·exact(C.hV g k).2 hm
    ·simp only at k;omega
   ·obtain⟨q,hq,e1,e2,cj⟩:=ft hp
    rw[←e1]at cC
    exact h.sep q hq _ (aN hi) cj g cC hb
  rw[hh]
  refine .slice (fun k j=>us.getD (k * sz+j) undef) J j3 kY (fun _=>rfl) h3 (fun hp=>?_) (fun k x hx j c hc=>?_)
  ·refine⟨⟨g,0,none⟩,rfl,rfl,Mr,FW,fun k x hx j c hc=>?_⟩
   obtain⟨u,hu,_⟩:=h4 k x hx j c hc
   have:=World.ownsRow.cells lB (g:=g) (by rw[hh];rfl) (k * sz+j) u hu
   rw[this]
   simp[List.getD,hu]
  ·obtain⟨u,hu,hr⟩:=h4 k x hx j c hc
   have:us.getD (k * sz+j) undef=u:=by simp[List.getD,hu]
   rw[this]
   exact hr.mono (aA _) (fun _ _ _=>rfl) hM
theorem Has.freeze{a:Act}{w:World}(h:Has C n tm mm a w){i:Nat}{nn:Bool}{e sz:Nat}{xs:List (List CT)}
 (hi:getM mm i=some (.arr nn e sz xs))(hg:Nat.blt i given=true):
 Has C n (vt i (.c (.slice nn sz xs)) tm) (jt i (.c (.slice nn sz xs)) mm) a w:=by
 obtain⟨H,Z,hm⟩:=h
 exact⟨H,Z,hm.Uf i _ J (hm.frozen hi (aY.mp hg))⟩
theorem a7.xB{w:World}{M:Nat→Prop}{v:Value}{nn:Bool}{sz:Nat}{xs:List (List CT)}(h:a7 w M v (.slice nn sz xs)):a7 w M v (.slice false sz xs):=by
 cases h with
 |slice u h1 h2 h3 h4 h5 h6 h7=>exact .slice u h1 h2 h3 (fun h=>by cases h) h5 h6 h7
theorem a7.EU{w:World}{M:Nat→Prop}{v:Value}(sz:Nat)(h:a7 w M v .bK):a7 w M v (.slice false sz []):=by
 cases h with
 |bK=>exact .slice (fun _ _=>undef) J (aA _) (by simp[maxLen]) (fun h=>by cases h) (by simp) (fun h=>by simp at h) (fun k x hx=>by simp at hx)
theorem SOps.mono(h:SOps C n ops l tm' mm' T)(hs:∀a w,Has C n tm mm a w→Has C n tm' mm' a w):SOps C n ops l tm mm T:=
 fun a w hh=>h a w (hs a w hh)
end
end Go.Sy
