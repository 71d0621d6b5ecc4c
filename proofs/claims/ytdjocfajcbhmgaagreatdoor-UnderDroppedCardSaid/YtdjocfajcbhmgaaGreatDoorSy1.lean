/- The symbolic layer, bundle Sy1. -/
import Derived.Calls
import Derived.Orders
import Derived.Below
import Derived.Maps.AppendAt
import Derived.Laws.Rows
import Derived.Laws.CopyRow
import Derived.Laws.Strings
import Derived.Laws.StructEq
set_option linter.unusedSimpArgs false
set_option linter.unusedVariables false
set_option linter.unusedSectionVars false
namespace Go.Sy
open Go.RowKit
theorem J.{u}{α:Sort u}{a:α}:a=a:=Eq.refl a
abbrev aa:=@List.getElem?_eq_getElem
abbrev ab:=@List.mem_cons_of_mem
abbrev ae:=@List.mem_cons
abbrev ah:=@List.mem_cons_self
abbrev ai:=@List.getElem?_eq_some_iff
abbrev aj:=@List.mem_of_getElem?
abbrev ak:=@List.length_map
abbrev al:=@List.take_succ_eq_append_getElem
abbrev an:=@List.getElem_mem
abbrev aq:=@List.mem_singleton
abbrev au:=@List.length_append
abbrev av:=@Bool.and_eq_true
abbrev aw:=@List.getElem?_append_left
abbrev ay:=@Nat.le_refl
abbrev az:=@List.getElem?_map
abbrev aC:=@List.mem_iff_getElem
abbrev aF:=@Nat.zero_le
abbrev aG:=@List.getD_eq_getElem?_getD
abbrev aJ:=@Nat.eq_of_beq_eq_true
abbrev aK:=@List.mem_append
abbrev aL:=@List.mem_map
abbrev aN:=@List.getElem?_append_right
abbrev aO:=@List.length_take
abbrev a6:=@Nat.blt_eq
abbrev a7:=@List.all_eq_true
abbrev bd:=@Array.getElem?_eq_some_iff
abbrev bf:=@List.append_assoc
abbrev bg:=@List.map_append
abbrev bh:=@List.findIdx?_eq_some_iff_getElem
abbrev bp:=@List.mem_map_of_mem
abbrev bq:=@List.take_length
abbrev br:=@Nat.mul_le_mul_right
abbrev bu:=@List.mem_flatMap
abbrev bx:=@List.findIdx?_eq_none_iff
abbrev bB:=@List.pairwise_iff_getElem
abbrev bC:=@List.take_of_length_le
abbrev bI:=@Nat.lt_trichotomy
abbrev bJ:=@Nat.lt_or_ge
abbrev bK:=@List.eq_nil_of_length_eq_zero
abbrev bM:=@List.nodup_iff_pairwise_ne
abbrev bN:=@List.map_cons
abbrev bQ:=@List.mem_append_right
abbrev bR:=@List.getElem?_eq_none
abbrev bU:=@List.getElem?_take
abbrev bX:=@List.getElem?_append
abbrev bZ:=@Bool.true_and
abbrev b8:=@List.getElem?_toArray
abbrev ca:=@Nat.lt_of_lt_of_le
abbrev cd:=@List.length_cons
abbrev cf:=@List.getElem?_drop
abbrev cn:=@List.mem_filter
abbrev cv:=@List.getElem?_set
abbrev cw:=@List.any_eq_true
abbrev cy:=@Array.getElem?_eq_getElem
abbrev cF:=@List.map_toArray
abbrev cG:=@List.eq_nil_iff_forall_not_mem
abbrev cH:=@List.cons_append
abbrev cI:=@Option.some.injEq
abbrev cJ:=@List.foldl_cons
abbrev cP:=@Bool.false_eq_true
abbrev cR:=@List.length_filter_le
abbrev cX:=@List.drop_eq_getElem_cons
abbrev db:=@Array.getD_eq_getD_getElem?
abbrev dt:=@List.mem_or_eq_of_mem_set
abbrev du:=@List.find?_eq_none
abbrev dB:=@Nat.le_trans
abbrev dC:=@List.all_eq_false
abbrev dM:=@List.getElem?_cons_zero
abbrev dN:=@List.mem_append_left
abbrev dQ:=@Option.map_some
abbrev dR:=@List.all_append
abbrev dU:=@List.length_pos_of_mem
abbrev dV:=@List.length_drop
abbrev dZ:=@List.length_reverse
abbrev ec:=@Nat.add_mul
abbrev ee:=@List.foldl_append
abbrev ef:=@List.flatMap_cons
abbrev eh:=@List.ext_getElem?
abbrev ej:=@Array.getElem?_toList
abbrev ek:=@List.mem_range
abbrev et:=@List.append_nil
abbrev eu:=@Bool.or_eq_true
abbrev eB:=@Bool.and_eq_true_iff
abbrev eP:=@List.pairwise_map
abbrev eQ:=@List.nodup_append
abbrev e7:=@Array.getElem?_modify
abbrev fj:=@List.isEmpty_iff
abbrev fk:=@List.findIdx?_cons
abbrev fl:=@List.find?_eq_some_iff_getElem
abbrev fq:=@Nat.zero_add
abbrev fH:=@List.any_eq_false
abbrev fI:=@Int.toNat_natCast
abbrev fS:=@List.length_pos_iff
abbrev gk:=@Option.getD_some
abbrev gw:=@Nat.ble_eq
abbrev gK:=@List.getElem?_eq_none_iff
abbrev gM:=@List.nodup_cons
abbrev gN:=@List.nil_append
abbrev gO:=@List.length_set
abbrev gZ:=@Bool.false_or
abbrev hC:=@Bool.and_true
abbrev iy:=@List.getElem?_replicate
abbrev iS:=@List.take_append_of_le_length
abbrev jd:=@List.map_nil
abbrev je:=@List.find?_cons_of_neg
abbrev jf:=@List.drop_eq_nil_of_le
abbrev jg:=@Array.empty_append
abbrev jl:=@Array.size_push
abbrev jM:=@Nat.lt_succ_of_lt
abbrev kE:=@Option.bind_some
abbrev kF:=@List.not_mem_nil
abbrev kG:=@Array.toList_map
abbrev kM:=@List.mem_of_find?_eq_some
abbrev kQ:=@Array.length_toList
abbrev lj:=@Option.isSome_iff_exists
abbrev lH:=@List.length_nil
abbrev lI:=@Option.isSome_some
abbrev lJ:=@Option.isSome_none
abbrev mC:=@List.nodup_nil
abbrev mD:=@List.foldl_nil
abbrev mE:=@Array.getElem?_eq_none
abbrev ny:=@Array.getElem?_setIfInBounds_ne
abbrev nW:=@List.take_append_drop
abbrev nX:=@List.length_singleton
abbrev nY:=@List.length_mergeSort
abbrev nZ:=@Array.getElem?_append
abbrev qa:=@List.range_succ
abbrev qb:=@List.idxOf_cons
abbrev qc:=@Bool.eq_iff_iff
abbrev ql:=@Array.getElem?_push
abbrev qA:=@Nat.add_zero
abbrev qB:=@List.map_map
abbrev qC:=@List.getElem?_concat_length
abbrev rp:=@Nat.eq_zero_or_pos
abbrev rq:=@List.getElem_range
abbrev rv:=@Int.tmod_eq_emod_of_nonneg
abbrev rA:=@Array.append_empty
abbrev sG:=@Array.mapM_eq_mapM_toList
abbrev tT:=@List.size_toArray
abbrev tU:=@List.map_id
abbrev tV:=@Decidable.not_not
abbrev uJ:=@List.getElem_append_left
abbrev uK:=@List.all_cons
abbrev vC:=@Prod.ext
abbrev vD:=@List.length_eq_zero_iff
abbrev x9:=@Nat.add_comm
abbrev ya:=@List.all_nil
abbrev yC:=@Nat.min_eq_left
abbrev yD:=@List.find?_some
inductive CT where
 |int (k:IntKind)(n:Int)
 |bool (b:Bool)
 |str (s:ByteArray)
 |bA
 |CV (k:IntKind)(p:Int→Prop)
 |val (v:Value)
 |slice (nn:Bool)(sz:Nat)(xs:List (List CT))
inductive aV(w:World)(M:Nat→Prop):Value→CT→Prop
 |int (k:IntKind) (n:Int):aV w M (.int k n) (.int k n)
 |bool (b:Bool):aV w M (.bool b) (.bool b)
 |str (s:ByteArray):aV w M (.string s) (.str s)
 |bA:aV w M (.slice none 0 0) .bA
 |CV (k:IntKind) (n:Int) {p:Int→Prop} (h:p n):aV w M (.int k n) (.CV k p)
 |val (v:Value) (h:v.oneCell'=true):aV w M v (.val v)
 |slice {nn:Bool} {sz:Nat} {xs:List (List CT)} {a:Option Addr} {len cap:Nat} (u:Nat→Nat→Value)
   (hlen:len=xs.length) (jC:len≤cap) (kL:cap≤maxLen) (vn:nn=true→a.isSome=true)
   (cM:∀x∈xs,x.length=sz)
   (rn:0 < xs.length→∃ad,a=some ad∧ad.spot=none∧ad.block < w.heap.size∧¬M ad.block∧
     ∀(i:Nat) (x:List CT),xs[i]? =some x→∀(j:Nat) (c:CT),x[j]? =some c→w.cell? (ad.add (i * sz+j))=some (u i j))
   (cC:∀(i:Nat) (x:List CT),xs[i]? =some x→∀(j:Nat) (c:CT),x[j]? =some c→aV w M (u i j) c):aV w M (.slice a len cap) (.slice nn sz xs)
theorem aV.one{w:World}{M:Nat→Prop}{v:Value}{c:CT}(h:aV w M v c):v.oneCell'=true:=by
 cases h<;>first|rfl|assumption
theorem aV.pc{w:World}{M:Nat→Prop}{v:Value}{b:Bool}(h:aV w M v (.bool b)):v=.bool b:=by cases h;rfl
theorem aV.cA{w:World}{M:Nat→Prop}{v:Value}{k:IntKind}{n:Int}(h:aV w M v (.int k n)):v=.int k n:=by cases h;rfl
theorem aV.fR{w:World}{M:Nat→Prop}{v:Value}{s:ByteArray}(h:aV w M v (.str s)):v=.string s:=by cases h;rfl
theorem aV.jy{w:World}{M:Nat→Prop}{v:Value}(h:aV w M v .bA):v=.slice none 0 0:=by cases h;rfl
theorem aV.cells{w:World}{M:Nat→Prop}{v:Value}{c:CT}(h:aV w M v c):v.cells=#[v]:=by
 cases h<;>first|rfl|(rename_i h1;cases v<;>first|rfl|cases h1)
theorem aV.gH{w:World}{M:Nat→Prop}{v u:Value}(h:aV w M v (.val u)):v=u:=by cases h;rfl
structure Ext(X:Nat→Prop)(w w':World):Prop where
 os:w'.os=w.os
 tape:w'.tape=w.tape
 output:w'.output=w.output
 size:w.heap.size≤w'.heap.size
 block:∀k,k < w.heap.size→¬X k→w'.heap[k]? =w.heap[k]?
theorem Ext.refl(X:Nat→Prop)(w:World):Ext X w w:=⟨rfl,rfl,rfl,ay _,fun _ _ _=>rfl⟩
theorem Ext.trans{X Y:Nat→Prop}{a b c:World}(h:Ext X a b)(k:Ext Y b c)(hy:∀n,n < a.heap.size→Y n→X n):Ext X a c:=
 ⟨k.os.trans h.os,k.tape.trans h.tape,k.output.trans h.output,dB h.size k.size,fun i hi hx=>
  (k.block i (ca hi h.size) (fun YX=>hx (hy i hi YX))).trans (h.block i hi hx)⟩
theorem Ext.yb{X Y:Nat→Prop}{a b:World}(h:Ext X a b)(hy:∀n,n < a.heap.size→X n→Y n):Ext Y a b:=
 ⟨h.os,h.tape,h.output,h.size,fun i hi hx=>h.block i hi (fun hh=>hx (hy i hi hh))⟩
theorem Ext.below{a b:World}(h:Ext (fun _=>False) a b):Below a.heap.size a b:=
 ⟨h.os,h.tape,h.output,h.size,fun k hk=>h.block k hk (fun x=>x)⟩
theorem jc(a:Addr)(n:Nat):(a.add n).block=a.block:=by unfold Addr.add;split<;>rfl
theorem xT{a:Addr}(h:a.spot=none)(n:Nat):(a.add n).spot=none:=by unfold Addr.add;split<;>simp_all
theorem add_add(a:Addr)(i j:Nat):(a.add i).add j=a.add (i+j):=by
 unfold Addr.add
 by_cases hi:i=0<;>by_cases hj:j=0<;>simp[hi,hj,Nat.add_assoc]
theorem jJ(b o n:Nat):(⟨b,o,none⟩:Addr).add n=⟨b,o+n,none⟩:=by
 unfold Addr.add;split<;>simp_all
theorem aV.mono{w w':World}{M M':Nat→Prop}{v:Value}{x:CT}(h:aV w M v x)
 (hs:w.heap.size≤w'.heap.size)(hb:∀b,b < w.heap.size→¬M b→w'.heap[b]? =w.heap[b]?)
 (hM:∀b,b < w.heap.size→M' b→M b):aV w' M' v x:=by
 induction h with
 |int k n=>exact .int k n
 |bool b=>exact .bool b
 |str s=>exact .str s
 |bA=>exact .bA
 |CV k n h=>exact .CV k n h
 |val v h=>exact .val v h
 |slice u hlen jC kL vn cM rn cC ih=>
  refine .slice u hlen jC kL vn cM (fun hp=>?_) ih
  obtain⟨ad,h1,h2,h3,h4,h5⟩:=rn hp
  refine⟨ad,h1,h2,ca h3 hs,fun hm=>h4 (hM _ h3 hm),fun i x hx j c hc=>?_⟩
  rw[World.cell?_of_block (w:=w) (by rw[jc];exact hb _ h3 h4)]
  exact h5 i x hx j c hc
inductive FV where
 |one (c:CT)
 |agg (cs:List CT)
def iR(w:World)(M:Nat→Prop)(v:Value):FV→Prop
 |.one c=>aV w M v c
 |.agg cs=>∃vs:Array Value,v=.agg vs∧vs.size=cs.length∧∀(j:Nat) (c:CT),cs[j]? =some c→∃u:Value,vs[j]? =some u∧aV w M u c
theorem iR.mono{w w':World}{M M':Nat→Prop}{v:Value}{x:FV}(h:iR w M v x)
 (hs:w.heap.size≤w'.heap.size)(hb:∀b,b < w.heap.size→¬M b→w'.heap[b]? =w.heap[b]?)
 (hM:∀b,b < w.heap.size→M' b→M b):iR w' M' v x:=by
 cases x with
 |one c=>exact aV.mono h hs hb hM
 |agg cs=>
  obtain⟨vs,h1,h2,h3⟩:=h
  exact⟨vs,h1,h2,fun j c hc=>let⟨u,hu,hr⟩:=h3 j c hc;⟨u,hu,hr.mono hs hb hM⟩⟩
inductive SC where
 |c (x:CT)
 |lit (b:Bool)
 |ptr (i off:Nat)
 |iH (i k off:Nat)
 |iw (cs:List CT)
 |own (i:Nat)
 |mp (i:Nat)
 |u5 (i n:Nat)
 |kD (f:FuncId)(c7:List Nat)
 |any
inductive SV where
 |one (x:SC)
 |agg (xs:List SC)
inductive ST where
 |v (x:SV)
 |fo (xs:List SV)
inductive MO where
 |box (cs:List SC)
 |arr (nn:Bool)(e:TypeId)(sz:Nat)(xs:List (List CT))
 |fw (es:List (FV×FV))
 |bF (e sz:Nat)(qs:List (Value×List (List CT)))
abbrev TM:=List (Nat×ST)
abbrev MM:=List (Nat×MO)
def hblk:Value→Option Nat
 |.pointer (some a)=>some a.block
 |.slice (some a) _ _=>some a.block
 |.map (some r)=>some r
 |_=>none
def Hb(v:Value)(b:Nat):Prop:=
 match v with
 |.func _ _ vs=>∃u,u∈vs.toList∧hblk u=some b
 |v=>hblk v=some b
theorem QO{v:Value}{b:Nat}(h:hblk v=some b):Hb v b:=by
 unfold Hb
 cases v<;>first|exact h|cases h
def SC.bw:SC→List Nat
 |.c _|.lit _|.iw _|.any=>[]
 |.ptr i _|.iH i _ _|.own i|.mp i|.u5 i _=>[i]
 |.kD _ c7=>c7
def bS(I:Nat→Prop)(H:Nat→Value)(Z:Nat→Nat)(w:World)(M:Nat→Prop)(v:Value):SC→Prop
 |.c x=>aV w M v x
 |.lit b=>v=.bool b
 |.ptr i off=>I i∧∃b,hblk (H i)=some b∧v=.pointer (some ⟨b,off,none⟩)
 |.iH i k off=>I i∧∃b,hblk (H i)=some b∧v=.pointer (some ⟨b,k * Z i+off,none⟩)
 |.iw cs=>∃ad,v=.pointer (some ad)∧ad.spot=none∧ad.block < w.heap.size∧¬M ad.block∧
   ∀(j:Nat) (c:CT),cs[j]? =some c→∃u:Value,w.cell? (ad.add j)=some u∧aV w M u c
 |.own i=>I i∧v=H i
 |.mp i=>I i∧v=H i
 |.u5 i n=>I i∧∃b,hblk (H i)=some b∧v=.slice (some ⟨b,0,none⟩) n n
 |.kD f c7=>(∀i∈c7,I i)∧∃vs:List Value,v=.func (.func f) #[] vs.toArray∧vs.length=c7.length∧
   ∀(j i:Nat),c7[j]? =some i→vs[j]? =some (H i)
 |.any=>True
theorem bS.mono{I I':Nat→Prop}{H H':Nat→Value}{Z Z':Nat→Nat}{w w':World}{M M':Nat→Prop}{v:Value}{x:SC}(h:bS I H Z w M v x)
 (hI:∀i∈x.bw,I i→I' i∧H' i=H i∧Z' i=Z i)
 (hs:w.heap.size≤w'.heap.size)(hb:∀b,b < w.heap.size→¬M b→w'.heap[b]? =w.heap[b]?)
 (hM:∀b,b < w.heap.size→M' b→M b):bS I' H' Z' w' M' v x:=by
 cases x with
 |c x=>exact aV.mono h hs hb hM
 |lit b=>exact h
 |ptr i off=>
  obtain⟨h1,b,h2,h3⟩:=h
  obtain⟨k1,k2,_⟩:=hI i (by simp[SC.bw]) h1
  exact⟨k1,b,by rw[k2];exact h2,h3⟩
 |u5 i n=>
  obtain⟨h1,b,h2,h3⟩:=h
  obtain⟨k1,k2,_⟩:=hI i (by simp[SC.bw]) h1
  exact⟨k1,b,by rw[k2];exact h2,h3⟩
 |iH i k off=>
  obtain⟨h1,b,h2,h3⟩:=h
  obtain⟨k1,k2,k3⟩:=hI i (by simp[SC.bw]) h1
  exact⟨k1,b,by rw[k2];exact h2,by rw[k3];exact h3⟩
 |iw cs=>
  obtain⟨ad,h1,h2,h3,h4,h5⟩:=h
  refine⟨ad,h1,h2,ca h3 hs,fun hm=>h4 (hM _ h3 hm),fun j c hc=>?_⟩
  obtain⟨u,hu,hr⟩:=h5 j c hc
  refine⟨u,?_,hr.mono hs hb hM⟩
  rw[World.cell?_of_block (w:=w) (by rw[jc];exact hb _ h3 h4)]
  exact hu
 |own i=>
  obtain⟨h1,h2⟩:=h
  obtain⟨k1,k2,_⟩:=hI i (by simp[SC.bw]) h1
  exact⟨k1,by rw[k2];exact h2⟩
 |mp i=>
  obtain⟨h1,h2⟩:=h
  obtain⟨k1,k2,_⟩:=hI i (by simp[SC.bw]) h1
  exact⟨k1,by rw[k2];exact h2⟩
 |kD f c7=>
  obtain⟨h1,vs,h2,h3,h4⟩:=h
  refine⟨fun i hi=>(hI i hi (h1 i hi)).1,vs,h2,h3,fun j i hj=>?_⟩
  have hm:i∈c7:=aj hj
  rw[(hI i hm (h1 i hm)).2.1]
  exact h4 j i hj
 |any=>trivial
def SV.bw:SV→List Nat
 |.one x=>x.bw
 |.agg xs=>xs.flatMap SC.bw
def ST.bw:ST→List Nat
 |.v x=>x.bw
 |.fo xs=>xs.flatMap SV.bw
def MO.bw:MO→List Nat
 |.box cs=>cs.flatMap SC.bw
 |_=>[]
def cu(I:Nat→Prop)(H:Nat→Value)(Z:Nat→Nat)(w:World)(M:Nat→Prop)(v:Value):SV→Prop
 |.one x=>bS I H Z w M v x
 |.agg xs=>∃vs:Array Value,v=.agg vs∧vs.size=xs.length∧∀(j:Nat) (c:SC),xs[j]? =some c→∃u:Value,vs[j]? =some u∧bS I H Z w M u c
def eK(I:Nat→Prop)(H:Nat→Value)(Z:Nat→Nat)(w:World)(M:Nat→Prop)(v:Value):ST→Prop
 |.v x=>cu I H Z w M v x
 |.fo xs=>∃vs:Array Value,v=.tuple vs∧vs.size=xs.length∧∀(j:Nat) (c:SV),xs[j]? =some c→∃u:Value,vs[j]? =some u∧cu I H Z w M u c
section
variable {I I':Nat→Prop} {H H':Nat→Value} {Z Z':Nat→Nat} {w w':World} {M M':Nat→Prop} {v:Value}
theorem cu.mono{x:SV}(h:cu I H Z w M v x)
 (hI:∀i∈x.bw,I i→I' i∧H' i=H i∧Z' i=Z i)
 (hs:w.heap.size≤w'.heap.size)(hb:∀b,b < w.heap.size→¬M b→w'.heap[b]? =w.heap[b]?)
 (hM:∀b,b < w.heap.size→M' b→M b):cu I' H' Z' w' M' v x:=by
 cases x with
 |one x=>exact bS.mono h hI hs hb hM
 |agg xs=>
  obtain⟨vs,h1,h2,h3⟩:=h
  refine⟨vs,h1,h2,fun j c hc=>?_⟩
  obtain⟨u,hu,hr⟩:=h3 j c hc
  exact⟨u,hu,hr.mono (fun i hi=>hI i (by simp only[SV.bw,bu];exact⟨c,aj hc,hi⟩)) hs hb hM⟩
theorem eK.mono{x:ST}(h:eK I H Z w M v x)
 (hI:∀i∈x.bw,I i→I' i∧H' i=H i∧Z' i=Z i)
 (hs:w.heap.size≤w'.heap.size)(hb:∀b,b < w.heap.size→¬M b→w'.heap[b]? =w.heap[b]?)
 (hM:∀b,b < w.heap.size→M' b→M b):eK I' H' Z' w' M' v x:=by
 cases x with
 |v x=>exact cu.mono h hI hs hb hM
 |fo xs=>
  obtain⟨vs,h1,h2,h3⟩:=h
  refine⟨vs,h1,h2,fun j c hc=>?_⟩
  obtain⟨u,hu,hr⟩:=h3 j c hc
  exact⟨u,hu,hr.mono (fun i hi=>hI i (by simp only[ST.bw,bu];exact⟨c,aj hc,hi⟩)) hs hb hM⟩
end
def eF(w:World)(M:Nat→Prop)(e sz:Nat)(qs:List (Value×List (List CT))):Prop:=
 (∀(k:Nat) (q:Value×List (List CT)),qs[k]? =some q→∃us,w.ownsRow 0 e sz q.1 q.2.length us∧(∀x∈q.2,x.length=sz)∧
   ∀(i:Nat) (x:List CT),q.2[i]? =some x→∀(j:Nat) (c:CT),x[j]? =some c→∃u:Value,us[i * sz+j]? =some u∧aV w M u c)∧
 (∀(k l:Nat) (q r:Value×List (List CT)),qs[k]? =some q→qs[l]? =some r→k≠l→∀b,hblk q.1=some b→hblk r.1≠some b)
def eG(I:Nat→Prop)(H:Nat→Value)(Z:Nat→Nat)(w:World)(M:Nat→Prop)(i:Nat):MO→Prop
 |.box cs=>∃b ty vs,H i=.pointer (some ⟨b,0,none⟩)∧w.heap[b]? =some (.cells vs ty (0,0))∧vs.size=cs.length∧
   ∀(j:Nat) (c:SC),cs[j]? =some c→∃u:Value,vs[j]? =some u∧u.oneCell'=true∧bS I H Z w M u c
 |.arr nn e sz xs=>Z i=sz∧∃us,w.ownsRow 0 e sz (H i) xs.length us∧(nn=true→H i≠ .slice none 0 0)∧(∀x∈xs,x.length=sz)∧
   ∀(k:Nat) (x:List CT),xs[k]? =some x→∀(j:Nat) (c:CT),x[j]? =some c→∃u:Value,us[k * sz+j]? =some u∧aV w M u c
 |.fw SE=>∃r es ck,H i=.map (some r)∧w.heap[r]? =some (.map es ck)∧es.size=SE.length∧
   ∀(j:Nat) (p:FV×FV),SE[j]? =some p→∃en:MapEntry,es[j]? =some en∧iR w M en.key p.1∧iR w M en.val p.2
 |.bF e sz qs=>H i=.func (.func 0) #[] (qs.map (·.1)).toArray∧eF w M e sz qs
theorem mr{w:World}{e sz:Nat}{v:Value}{n:Nat}{us:List Value}(h:w.ownsRow 0 e sz v n us):hblk v=v.ownBlock:=by
 rcases h.2 with⟨rfl,_⟩|⟨g,cap,cur,rfl,_⟩<;>rfl
theorem tQ{w:World}{e sz:Nat}{v:Value}{n:Nat}{us:List Value}(h:w.ownsRow 0 e sz v n us)(b:Nat):Hb v b↔v.ownBlock=some b:=by
 rw[←mr h]
 rcases h.2 with⟨rfl,_⟩|⟨g,cap,cur,rfl,_⟩<;>exact Iff.rfl
theorem eG.mono{I I':Nat→Prop}{H H':Nat→Value}{Z Z':Nat→Nat}{w w':World}{M M':Nat→Prop}{i:Nat}{o:MO}(h:eG I H Z w M i o)
 (hi:H' i=H i∧Z' i=Z i)(oc:∀b,Hb (H i) b→w'.heap[b]? =w.heap[b]?)
 (hI:∀j∈o.bw,I j→I' j∧H' j=H j∧Z' j=Z j)
 (hs:w.heap.size≤w'.heap.size)(hb:∀b,b < w.heap.size→¬M b→w'.heap[b]? =w.heap[b]?)
 (hM:∀b,b < w.heap.size→M' b→M b):eG I' H' Z' w' M' i o:=by
 cases o with
 |box cs=>
  obtain⟨b,ty,vs,h1,h2,h3,h4⟩:=h
  refine⟨b,ty,vs,by rw[hi.1];exact h1,(oc b (by rw[h1];rfl)).trans h2,h3,fun j c hc=>?_⟩
  obtain⟨u,hu,ho,hr⟩:=h4 j c hc
  exact⟨u,hu,ho,hr.mono (fun k hk=>hI k (by simp only[MO.bw,bu];exact⟨c,aj hc,hk⟩)) hs hb hM⟩
 |arr nn e sz xs=>
  obtain⟨hz,us,h1,h2,h3,h4⟩:=h
  refine⟨hi.2.trans hz,us,?_,by rw[hi.1];exact h2,h3,fun k x hx j c hc=>let⟨u,hu,hr⟩:=h4 k x hx j c hc;⟨u,hu,hr.mono hs hb hM⟩⟩
  rw[hi.1]
  refine⟨h1.1,?_⟩
  rcases h1.2 with hh|⟨g,cap,cur,hv,hg,hh,rest⟩
  ·exact .inl hh
  ·exact .inr ⟨g,cap,cur,hv,hg,(oc g (by rw[hv];rfl)).trans hh,rest⟩
 |fw SE=>
  obtain⟨r,es,ck,h1,h2,h3,h4⟩:=h
  refine⟨r,es,ck,by rw[hi.1];exact h1,(oc r (by rw[h1];rfl)).trans h2,h3,fun j p hp=>?_⟩
  obtain⟨en,he,hk,hv⟩:=h4 j p hp
  exact⟨en,he,hk.mono hs hb hM,hv.mono hs hb hM⟩
 |bF e sz qs=>
  obtain⟨h1,h2,h3⟩:=h
  refine⟨by rw[hi.1];exact h1,fun k q hq=>?_,h3⟩
  obtain⟨us,g1,g2,g3⟩:=h2 k q hq
  have eA:q.1∈(qs.map (·.1)).toArray.toList:=by simpa using⟨q.2,aj hq⟩
  refine⟨us,⟨g1.1,?_⟩,g2,fun i x hx j c hc=>let⟨u,hu,hr⟩:=g3 i x hx j c hc;⟨u,hu,hr.mono hs hb hM⟩⟩
  rcases g1.2 with hh|⟨g,cap,cur,hv,hg,hh,rest⟩
  ·exact .inl hh
  ·exact .inr ⟨g,cap,cur,hv,hg,(oc g (by rw[h1];exact⟨q.1,eA,by rw[hv];rfl⟩)).trans hh,rest⟩
structure Ctx where
 P:Program
 w0:World
 M0:Nat→Prop
 W:Nat→Prop
 H0:Nat→Value
 V:Nat→Prop
 hV:∀b,V b→W b∧¬M0 b
def cO(C:Ctx)(H:Nat→Value)(mm:MM)(b:Nat):Prop:=C.M0 b∨∃p∈mm,Hb (H p.1) b
def cU(mm:MM)(i:Nat):Prop:=∃p∈mm,p.1=i
def given:Nat:=100000
structure Mod(C:Ctx)(H:Nat→Value)(Z:Nat→Nat)(n:Nat)(tm:TM)(mm:MM)(a:Act)(w:World):Prop where
 defers:a.defers=[]
 size:a.tmps.size=n
 Oa:n≤given
 hg:∀p∈mm,given≤p.1→H p.1=C.H0 p.1
 ext:Ext C.W C.w0 w
 m0:∀b,C.M0 b→b < C.w0.heap.size
 ids:∀p∈mm,∀q∈mm,p.1=q.1→p=q
 mem:∀p∈mm,eG (cU mm) H Z w (cO C H mm) p.1 p.2
 fresh:∀p∈mm,∀b,Hb (H p.1) b→((p.1 < given∧(C.w0.heap.size≤b∨C.V b))∨(given≤p.1∧(C.W b∨C.w0.heap.size≤b)))∧b < w.heap.size
 sep:∀p∈mm,∀q∈mm,p.1≠q.1→∀b,Hb (H p.1) b→¬Hb (H q.1) b
 tmps:∀p∈tm,eK (cU mm) H Z w (cO C H mm) (a.tmps.getD p.1 undef) p.2
end Go.Sy
namespace Go.Sy
open Go.RowKit
def Has(C:Ctx)(n:Nat)(tm:TM)(mm:MM)(a:Act)(w:World):Prop:=∃H Z,Mod C H Z n tm mm a w
def QT(C:Ctx)(n:Nat)(T:TM→MM→Prop):Exit→Act→World→Prop
 |.normal,a,w=>∃tm mm,T tm mm∧Has C n tm mm a w
 |_,_,_=>False
def SOps(C:Ctx)(n:Nat)(ops:Array Oper)(l:List Oper)(tm:TM)(mm:MM)(T:TM→MM→Prop):Prop:=
 ∀a w,Has C n tm mm a w→wpList C.P ops (QT C n T) l a w
def PW(C:Ctx)(n:Nat)(o:Oper)(tm:TM)(mm:MM)(tm':TM)(mm':MM):Prop:=
 ∀a w (K:Act→World→Prop) (Q:Exit→Act→World→Prop),Has C n tm mm a w→(∀a' w',Has C n tm' mm' a' w'→K a' w')→o.wp C.P a w K Q
def xX(C:Ctx)(n:Nat)(o:Oper)(tm:TM)(mm:MM)(tm':TM)(mm':MM):Prop:=
 ∀a w,Has C n tm mm a w→(∃v w',(execOp a.eval o).run C.P w=.ok (.value v) w'∧Has C n tm' mm' (a.put o.dst v) w')∨
  (∃w',(execOp a.eval o).run C.P w=.ok .skip w'∧Has C n tm' mm' (a.put o.dst undef) w')
theorem xX.wp{C:Ctx}{n:Nat}{o:Oper}{tm tm':TM}{mm mm':MM}(h:xX C n o tm mm tm' mm'):PW C n o tm mm tm' mm':=by
 intro a w K Q hh hK
 unfold Oper.wp
 rcases h a w hh with⟨v,w',hr,hm⟩|⟨w',hr,hm⟩
 ·rw[hr];exact hK _ _ hm
 ·rw[hr];exact hK _ _ hm
section
variable {C:Ctx} {n:Nat} {ops:Array Oper} {l:List Oper} {tm tm':TM} {mm mm':MM} {T:TM→MM→Prop} {o:Oper}
theorem SOps.nil(h:T tm mm):SOps C n ops [] tm mm T:=fun _ _ hh=>⟨tm,mm,h,hh⟩
def zw(tm:TM)(t:Nat):Option Bool:=
 match tm with
 |[]=>none
 |(e,u)::r=>match Nat.beq e t with
  |true=>match u with
   |.v (.one (.lit true))=>some true
   |.v (.one (.lit false))=>some false
   |_=>none
  |false=>zw r t
theorem E2{b:Bool}{t:Nat}(h:zw tm t=some b):(t,ST.v (.one (.lit b)))∈tm:=by
 induction tm with
 |nil=>simp[zw]at h
 |cons p r ih=>
  obtain⟨e,u⟩:=p
  unfold zw at h
  cases hb:Nat.beq e t with
  |true=>
   have he:e=t:=aJ hb
   subst he
   rw[hb]at h
   simp only at h
   split at h
   ·injection h with h;subst h;exact ah
   ·injection h with h;subst h;exact ah
   ·cases h
  |false=>
   rw[hb]at h
   exact ab _ (ih h)
def Tm(tm:TM)(t:Nat):Option Bool:=
 match tm with
 |[]=>none
 |(e,u)::r=>match Nat.beq e t with
  |true=>match u with
   |.fo []=>some false
   |_=>none
  |false=>Tm r t
theorem K3{t:Nat}{b:Bool}(h:Tm tm t=some b):b=false∧(t,ST.fo [])∈tm:=by
 induction tm with
 |nil=>simp[Tm]at h
 |cons p r ih=>
  obtain⟨e,u⟩:=p
  unfold Tm at h
  cases hb:Nat.beq e t with
  |true=>
   have he:e=t:=aJ hb
   subst he
   rw[hb]at h
   simp only at h
   split at h
   ·injection h with h;exact⟨h.symm,ah⟩
   ·cases h
  |false=>
   rw[hb]at h
   exact⟨(ih h).1,ab _ (ih h).2⟩
def q7(ops:Array Oper)(tm:TM)(o:Oper):Option Bool:=
 match o.guard with
 |none=>some true
 |some (j,want)=>
  match ops[j]? with
  |none=>none
  |some oj=>
   match oj.dst with
   |none=>none
   |some t=>
    match zw tm t with
    |none=>Tm tm t
    |some b=>some (match b,want with|true,true=>true|false,false=>true|_,_=>false)
theorem gC{a:Act}{w:World}{b:Bool}(h:q7 ops tm o=some b)(hh:Has C n tm mm a w):Region.wanted o (yielded ops a.tmps)=b:=by
 obtain⟨H,Z,hm⟩:=hh
 unfold q7 at h
 unfold Region.wanted
 split at h
 ·rename_i hg;rw[hg];injection h
 ·rename_i j want hg
  rw[hg]
  split at h
  ·cases h
  ·rename_i oj Ux
   split at h
   ·cases h
   ·rename_i t ht
    split at h
    ·obtain⟨rfl,dX⟩:=K3 h
     obtain⟨vs,hv,cM,_⟩:=hm.tmps _ dX
     have hv:a.tmps.getD t undef=.tuple vs:=hv
     have hy:yielded ops a.tmps j=none:=by
      unfold yielded
      rw[db]at hv
      cases hq:a.tmps[t]? with
      |none=>simp[Ux,ht,hq]
      |some x=>rw[hq]at hv;simp at hv;subst hv;simp[Ux,ht,hq]
     simp only[hy]
     cases want<;>rfl
    ·rename_i b' yw
     have dX:=hm.tmps _ (E2 yw)
     have hv:a.tmps.getD t undef=.bool b':=dX
     have hy:yielded ops a.tmps j=some b':=by
      unfold yielded
      have:a.tmps[t]? =some (.bool b'):=by
       rw[db]at hv
       cases hq:a.tmps[t]? with
       |none=>rw[hq]at hv;simp[undef]at hv
       |some x=>rw[hq]at hv;simpa using hv
      simp[Ux,ht,this]
     simp only[hy]
     injection h with h
     rw[←h]
     cases b'<;>cases want<;>rfl
theorem SOps.step(hg:q7 ops tm o=some true)(h:PW C n o tm mm tm' mm')(k:SOps C n ops l tm' mm' T):SOps C n ops (o::l) tm mm T:=by
 intro a w hh
 unfold wpList
 rw[if_pos (gC hg hh)]
 exact .inl (h a w _ _ hh (fun a' w' h'=>k a' w' h'))
def bo(tm:TM)(d:Nat):TM:=
 match tm with
 |[]=>[]
 |(e,u)::r=>match Nat.beq e d with
  |true=>bo r d
  |false=>(e,u)::bo r d
theorem cj{d:Nat}{p:Nat×ST}(h:p∈bo tm d):p∈tm∧p.1≠d:=by
 induction tm with
 |nil=>simp[bo]at h
 |cons q r ih=>
  obtain⟨e,u⟩:=q
  unfold bo at h
  cases hb:Nat.beq e d with
  |true=>rw[hb]at h;exact⟨ab _ (ih h).1,(ih h).2⟩
  |false=>
   rw[hb]at h
   rcases ae.1 h with rfl|h
   ·exact⟨ah,fun he=>by rw[show e=d from he]at hb;simp at hb⟩
   ·exact⟨ab _ (ih h).1,(ih h).2⟩
def Va(tm:TM)(d:Option Nat):TM:=
 match d with
 |none=>tm
 |some d=>bo tm d
theorem fV{a:Act}{d t:Nat}{v:Value}(h:t≠d):(a.put (some d) v).tmps.getD t undef=a.tmps.getD t undef:=by
 simp[Act.put,db,ny (Ne.symm h)]
theorem iD{a:Act}{d:Nat}{v:Value}(h:d < a.tmps.size):(a.put (some d) v).tmps.getD d undef=v:=by
 simp[Act.put,db,h]
theorem Mod.sub{H:Nat→Value}{Z:Nat→Nat}{a:Act}{w:World}(h:Mod C H Z n tm mm a w)(hs:∀p∈tm',p∈tm):Mod C H Z n tm' mm a w:=
 {h with tmps:=fun p hp=>h.tmps p (hs p hp)}
theorem Mod.Ep{H:Nat→Value}{Z:Nat→Nat}{a:Act}{w:World}(h:Mod C H Z n tm mm a w){d:Nat}(hd:d < n){v:Value}{st:ST}
 (hr:eK (cU mm) H Z w (cO C H mm) v st):Mod C H Z n ((d,st)::bo tm d) mm (a.put (some d) v) w:=
 {h with
  size:=by simp[Act.put,h.size]
  tmps:=by
   intro p hp
   rcases ae.1 hp with rfl|hp
   ·rw[iD (by rw[h.size];exact hd)];exact hr
   ·obtain⟨h1,h2⟩:=cj hp
    rw[fV h2]
    exact h.tmps p h1}
theorem Mod.Q7{H:Nat→Value}{Z:Nat→Nat}{a:Act}{w:World}(h:Mod C H Z n tm mm a w)(d:Option Nat)(v:Value):Mod C H Z n (Va tm d) mm (a.put d v) w:=by
 cases d with
 |none=>exact h
 |some d=>
  exact{h with
   size:=by simp[Act.put,h.size]
   tmps:=by
    intro p hp
    obtain⟨h1,h2⟩:=cj hp
    rw[fV h2]
    exact h.tmps p h1}
theorem SOps.skip(hg:q7 ops tm o=some false)(k:SOps C n ops l (Va tm o.dst) mm T):SOps C n ops (o::l) tm mm T:=by
 intro a w hh
 unfold wpList
 rw[if_neg (by rw[gC hg hh];simp)]
 obtain⟨H,Z,hm⟩:=hh
 exact k _ _ ⟨H,Z,hm.Q7 _ _⟩
theorem SOps.TS{d:Nat}(hg:q7 ops tm o=some false)(hd:o.dst=some d)(hn:Nat.blt d n=true)(k:SOps C n ops l ((d,.fo [])::bo tm d) mm T):SOps C n ops (o::l) tm mm T:=by
 intro a w hh
 unfold wpList
 rw[if_neg (by rw[gC hg hh];simp)]
 obtain⟨H,Z,hm⟩:=hh
 rw[hd]
 exact k _ _ ⟨H,Z,hm.Ep (a6.mp hn) ⟨#[],rfl,rfl,fun j c hc=>by simp at hc⟩⟩
theorem SOps.split{t:Nat}{b:Bool}(hm:(t,ST.v (.one (.c (.bool b))))∈tm)
 (h1:b=true→SOps C n ops l ((t,ST.v (.one (.lit true)))::bo tm t) mm T)
 (h2:b=false→SOps C n ops l ((t,ST.v (.one (.lit false)))::bo tm t) mm T):SOps C n ops l tm mm T:=by
 intro a w hh
 obtain⟨H,Z,dh⟩:=hh
 have hv:a.tmps.getD t undef=.bool b:=aV.pc (dh.tmps _ hm)
 have key:∀b':Bool,b=b'→Has C n ((t,ST.v (.one (.lit b')))::bo tm t) mm a w:=by
  intro b' hb
  refine⟨H,Z,{dh with tmps:=?_}⟩
  intro p hp
  rcases ae.1 hp with rfl|hp
  ·show _=_;rw[←hb];exact hv
  ·exact dh.tmps p (cj hp).1
 cases b with
 |true=>exact h1 J a w (key true J)
 |false=>exact h2 J a w (key false J)
end
theorem Mod.build{C:Ctx}{n:Nat}{tm tm':TM}{mm mm':MM}{H H':Nat→Value}{Z Z':Nat→Nat}{a a':Act}{w w':World}
 (h:Mod C H Z n tm mm a w)(X:Nat→Prop)
 (dy:Ext X w w')(hX:∀b,b < w.heap.size→X b→∃p∈mm,Hb (H p.1) b)
 (LF:a'.defers=[])(mS:a'.tmps.size=n)
 (VV:∀p∈mm',given≤p.1→H' p.1=C.H0 p.1)
 (LA:∀p∈mm',∀q∈mm',p.1=q.1→p=q)
 (dX:∀p∈mm',(p∈mm∧H' p.1=H p.1∧Z' p.1=Z p.1∧(∀b,Hb (H p.1) b→¬X b)∧
   (∀j∈p.2.bw,cU mm j→cU mm' j∧H' j=H j∧Z' j=Z j))∨
   ((∀b,Hb (H' p.1) b→(w.heap.size≤b∧b < w'.heap.size)∨
      (∃q∈mm,Hb (H q.1) b∧(p.1=q.1∨(q.1 < given∧p.1 < given))))∧
     ((∀b,b < w.heap.size→cO C H' mm' b→cO C H mm b)→(∀b,b < w.heap.size→¬cO C H mm b→w'.heap[b]? =w.heap[b]?)→
       eG (cU mm') H' Z' w' (cO C H' mm') p.1 p.2)))
 (RN:∀p∈mm',∀q∈mm',p.1≠q.1→∀b,Hb (H' p.1) b→¬Hb (H' q.1) b)
 (Uk:∀p∈tm',(∃q∈tm,q.2=p.2∧a'.tmps.getD p.1 undef=a.tmps.getD q.1 undef∧(∀j∈p.2.bw,cU mm j→cU mm' j∧H' j=H j∧Z' j=Z j))∨
   ((∀b,b < w.heap.size→cO C H' mm' b→cO C H mm b)→(∀b,b < w.heap.size→¬cO C H mm b→w'.heap[b]? =w.heap[b]?)→
     eK (cU mm') H' Z' w' (cO C H' mm') (a'.tmps.getD p.1 undef) p.2)):Mod C H' Z' n tm' mm' a' w':=by
 have iP:∀b,b < w.heap.size→cO C H' mm' b→cO C H mm b:=by
  intro b hb hm
  rcases hm with hm|⟨p,hp,c9⟩
  ·exact .inl hm
  ·rcases dX p hp with⟨k1,k2,_⟩|⟨k1,_⟩
   ·exact .inr ⟨p,k1,by rw[←k2];exact c9⟩
   ·rcases k1 b c9 with k|⟨q,hq,dS,_⟩
    ·omega
    ·exact .inr ⟨q,hq,dS⟩
 have gb:∀b,b < w.heap.size→¬cO C H mm b→w'.heap[b]? =w.heap[b]? :=by
  intro b hb hm
  exact dy.block b hb (fun hx=>hm (.inr (hX b hb hx)))
 refine⟨LF,mS,h.Oa,VV,?_,h.m0,LA,?_,?_,RN,?_⟩
 ·refine h.ext.trans dy (fun b hb hx=>?_)
  obtain⟨p,hp,c9⟩:=hX b (ca hb h.ext.size) hx
  rcases(h.fresh p hp b c9).1 with⟨_,k|k⟩|⟨_,k|k⟩
  ·omega
  ·exact(C.hV b k).1
  ·exact k
  ·omega
 ·intro p hp
  rcases dX p hp with⟨k1,k2,k3,k4,k5⟩|⟨_,k2⟩
  ·refine(h.mem p k1).mono ⟨k2,k3⟩ (fun b hb=>?_) k5 dy.size gb iP
   exact dy.block b (h.fresh p k1 b hb).2 (k4 b hb)
  ·exact k2 iP gb
 ·intro p hp b hb
  rcases dX p hp with⟨k1,k2,_⟩|⟨k1,_⟩
  ·rw[k2]at hb
   obtain⟨e1,e2⟩:=h.fresh p k1 b hb
   exact⟨e1,ca e2 dy.size⟩
  ·rcases k1 b hb with⟨e1,e2⟩|⟨q,hq,dS,e⟩
   ·refine⟨?_,e2⟩
    have e3:=dB h.ext.size e1
    rcases bJ p.1 given with e4|e4
    ·exact .inl ⟨e4,.inl e3⟩
    ·exact .inr ⟨e4,.inr e3⟩
   ·obtain⟨e1,e2⟩:=h.fresh q hq b dS
    refine⟨?_,ca e2 dy.size⟩
    rcases e with e|⟨eq,ep⟩
    ·rw[e];exact e1
    ·rcases e1 with⟨_,e1⟩|⟨e1,_⟩
     ·exact .inl ⟨ep,e1⟩
     ·omega
 ·intro p hp
  rcases Uk p hp with⟨q,hq,e1,e2,e3⟩|k
  ·rw[e2]
   have:=h.tmps q hq
   rw[e1]at this
   exact this.mono e3 dy.size gb iP
  ·exact k iP gb
end Go.Sy
namespace Go.Sy
open Go.RowKit
inductive Sh where
 |bool
 |int (k:IntKind)
 |string
 |struct (fs:List (Nat×Nat))
 |arr (len elem:Nat)
 |slice (elem:Nat)
 |map (k e:Nat)
 |other
structure fN where
 size:Nat
 bytes:Nat
 agg:Bool
 zero:Option (List CT)
 sh:Sh
def BN:Value→CT→Bool
 |.int k n,.int k' n'=>decide (k=k')&&decide (n=n')
 |.bool b,.bool b'=>b==b'
 |.string s,.str s'=>s.data.toList==s'.data.toList
 |.slice none 0 0,.bA=>true
 |_,_=>false
def oq:List Value→List CT→Bool
 |[],[]=>true
 |v::vs,c::cs=>BN v c&&oq vs cs
 |_,_=>false
def BO(agg:Bool)(z:Value)(cs:List CT):Bool:=
 match agg,z with
 |true,.agg vs=>oq vs.toList cs
 |true,_=>false
 |false,v=>oq [v] cs
def dA(P:Program):TypeDesc→Sh→Bool
 |.bool,.bool=>true
 |.int k,.int k'=>decide (k=k')
 |.string,.string=>true
 |.struct fs,.struct os=>fs.toList.map (fun f=>(f.offset,f.type))==os&&fs.all (fun f=>P.cellsOf f.type !=0)
 |.array n e,.arr n' e'=>n==n'&&e==e'
 |.slice e,.slice e'=>e==e'
 |.map k e,.map k' e'=>k==k'&&e==e'
 |_,.other=>true
 |_,_=>false
def QL:TypeDesc→Bool
 |.struct _|.array _ _=>true
 |_=>false
def Js(P:Program)(t:Nat)(i:fN):Bool:=
 match P.info? t,P.underlying t with
 |some inf,some d=>inf.size==i.size&&(inf.bytes==i.bytes&&(QL d==i.agg&&(dA P d i.sh&&
   (match i.zero with
    |none=>true
    |some cs=>match inf.zero with
     |none=>false
     |some z=>BO i.agg z cs&&cs.length==i.size))))
 |_,_=>false
abbrev da:=List (Nat×fN)
def a8(P:Program)(Θ:da):Prop:=∀p∈Θ,Js P p.1 p.2=true
theorem BT{P:Program}{Θ:da}(h:Θ.all (fun p=>Js P p.1 p.2)=true):a8 P Θ:=by
 intro p hp
 exact(a7.1 h) p hp
def aP(Θ:da)(t:Nat):Option fN:=
 match Θ with
 |[]=>none
 |(e,i)::r=>match Nat.beq e t with
  |true=>some i
  |false=>aP r t
theorem Hv{Θ:da}{t:Nat}{i:fN}(h:aP Θ t=some i):(t,i)∈Θ:=by
 induction Θ with
 |nil=>simp[aP]at h
 |cons p r ih=>
  obtain⟨e,u⟩:=p
  unfold aP at h
  cases hb:Nat.beq e t with
  |true=>
   have he:e=t:=aJ hb
   subst he
   rw[hb]at h
   injection h with h;subst h;exact ah
  |false=>rw[hb]at h;exact ab _ (ih h)
theorem Ht{w:World}{M:Nat→Prop}{v:Value}{c:CT}(h:BN v c=true):aV w M v c:=by
 unfold BN at h
 split at h
 ·simp at h;obtain⟨rfl,rfl⟩:=h;exact .int _ _
 ·simp at h;subst h;exact .bool _
 ·rename_i s s'
  simp at h
  have:s=s':=by
   cases s;cases s';simp at h⊢;exact h
  subst this;exact .str _
 ·exact .bA
 ·cases h
theorem mG{w:World}{M:Nat→Prop}:∀{vs:List Value} {cs:List CT},oq vs cs=true→
 vs.length=cs.length∧∀(j:Nat) (c:CT),cs[j]? =some c→∃u:Value,vs[j]? =some u∧aV w M u c
 |[],[],_=>⟨rfl,fun j c h=>by simp at h⟩
 |[],_::_,h=>by simp[oq]at h
 |_::_,[],h=>by simp[oq]at h
 |v::vs,c::cs,h=>by
  simp only[oq,av]at h
  obtain⟨h1,h2⟩:=mG (w:=w) (M:=M) h.2
  refine⟨by simp[h1],fun j d hd=>?_⟩
  cases j with
  |zero=>
   simp at hd;subst hd
   exact⟨v,by simp,Ht h.1⟩
  |succ j=>
   simp at hd
   simpa using h2 j d hd
structure Bz(P:Program)(t:Nat)(i:fN)(inf:TypeInfo)(d:TypeDesc):Prop where
 info:P.info? t=some inf
 Aj:P.underlying t=some d
 size:inf.size=i.size
 bytes:inf.bytes=i.bytes
 agg:QL d=i.agg
 sh:dA P d i.sh=true
 zero:∀cs,i.zero=some cs→∃z,inf.zero=some z∧BO i.agg z cs=true∧cs.length=i.size
theorem gI{P:Program}{Θ:da}(bt:a8 P Θ){t:Nat}{i:fN}(h:aP Θ t=some i):∃inf d,Bz P t i inf d:=by
 have hc:=bt _ (Hv h)
 unfold Js at hc
 split at hc
 ·rename_i inf d h1 h2
  simp only[av]at hc
  obtain⟨c1,c2,c3,c4,c5⟩:=hc
  refine⟨inf,d,h1,h2,by simpa using c1,by simpa using c2,by simpa using c3,c4,fun cs Bc=>?_⟩
  rw[Bc]at c5
  simp only at c5
  cases hz:inf.zero with
  |none=>rw[hz]at c5;cases c5
  |some z=>
   rw[hz]at c5
   simp only[av]at c5
   exact⟨z,rfl,c5.1,by simpa using c5.2⟩
 ·cases hc
theorem e8{w:World}{M:Nat→Prop}{agg:Bool}{z:Value}{cs:List CT}(h:BO agg z cs=true):
 z.cells.size=cs.length∧∀(j:Nat) (c:CT),cs[j]? =some c→∃u:Value,z.cells[j]? =some u∧aV w M u c:=by
 unfold BO at h
 split at h
 ·rename_i vs
  obtain⟨h1,h2⟩:=mG (w:=w) (M:=M) h
  exact⟨by simpa[Value.cells]using h1,fun j c hc=>by simpa[Value.cells]using h2 j c hc⟩
 ·cases h
 ·obtain⟨h1,h2⟩:=mG (w:=w) (M:=M) h
  cases cs with
  |nil=>simp at h1
  |cons c cs=>
   cases cs with
   |cons d cs=>simp at h1
   |nil=>
    obtain⟨u,hu,hr⟩:=h2 0 c J
    simp at hu;subst hu
    rw[hr.cells]
    exact⟨rfl,fun j d hd=>by
     cases j with
     |zero=>simp at hd;subst hd;exact⟨_,rfl,hr⟩
     |succ j=>simp at hd⟩
section
variable {P:Program} {w:World}
theorem Bz.typeInfo{t:Nat}{i:fN}{inf:TypeInfo}{d:TypeDesc}(h:Bz P t i inf d):(typeInfo t).run P w=.ok inf w:=by
 simp[Go.typeInfo,h.info]
theorem Bz.sizeOf{t:Nat}{i:fN}{inf:TypeInfo}{d:TypeDesc}(h:Bz P t i inf d):(sizeOf t).run P w=.ok i.size w:=by
 simp[Go.sizeOf,h.typeInfo,h.size]
theorem Bz.underlying{t:Nat}{i:fN}{inf:TypeInfo}{d:TypeDesc}(h:Bz P t i inf d):(underlying t).run P w=.ok d w:=run_underlying h.Aj w
theorem Bz.isAgg{t:Nat}{i:fN}{inf:TypeInfo}{d:TypeDesc}(h:Bz P t i inf d):(isAgg t).run P w=.ok i.agg w:=by
 rw[←h.agg]
 simp only[Go.isAgg,Sem.run_bind,h.underlying,Result.andThen_ok]
 cases d<;>rfl
theorem Bz.zeroValue{t:Nat}{i:fN}{inf:TypeInfo}{d:TypeDesc}(h:Bz P t i inf d){z:Value}(hz:inf.zero=some z):(zeroValue t).run P w=.ok z w:=by
 simp[Go.zeroValue,h.typeInfo,hz]
end
def FR:Value→Option ST
 |.int k n=>some (.v (.one (.c (.int k n))))
 |.bool b=>some (.v (.one (.lit b)))
 |.string s=>some (.v (.one (.c (.str s))))
 |.slice none 0 0=>some (.v (.one (.c .bA)))
 |_=>none
def jD(tm:TM)(t:Nat):Option ST:=
 match tm with
 |[]=>none
 |(e,u)::r=>match Nat.beq e t with
  |true=>some u
  |false=>jD r t
theorem gX{tm:TM}{t:Nat}{st:ST}(h:jD tm t=some st):(t,st)∈tm:=by
 induction tm with
 |nil=>simp[jD]at h
 |cons p r ih=>
  obtain⟨e,u⟩:=p
  unfold jD at h
  cases hb:Nat.beq e t with
  |true=>
   have he:e=t:=aJ hb
   subst he
   rw[hb]at h
   injection h with h;subst h;exact ah
  |false=>rw[hb]at h;exact ab _ (ih h)
def mg(tm:TM):Operand→Option ST
 |.tmp t=>jD tm t
 |.const v=>FR v
 |.func f=>some (.v (.one (.kD f [])))
 |_=>none
theorem FQ{I:Nat→Prop}{H:Nat→Value}{Z:Nat→Nat}{w:World}{M:Nat→Prop}{v:Value}{st:ST}(h:FR v=some st):eK I H Z w M v st:=by
 unfold FR at h
 split at h<;>first|(injection h with h;subst h;first|exact .int _ _|rfl|exact .str _|exact .bA)|cases h
theorem j9{C:Ctx}{H:Nat→Value}{Z:Nat→Nat}{n:Nat}{tm:TM}{mm:MM}{a:Act}{w:World}(h:Mod C H Z n tm mm a w)
 {x:Operand}{st:ST}(he:mg tm x=some st):eK (cU mm) H Z w (cO C H mm) (a.eval x) st:=by
 cases x with
 |tmp t=>exact h.tmps _ (gX he)
 |const v=>exact FQ he
 |global g=>cases he
 |func f=>injection he with he;subst he;exact⟨(fun i hi=>by cases hi),[],rfl,rfl,fun j i hj=>by simp at hj⟩
def cx(tm:TM)(x:Operand):Option SV:=
 match mg tm x with
 |some (.v s)=>some s
 |_=>none
theorem c8{C:Ctx}{H:Nat→Value}{Z:Nat→Nat}{n:Nat}{tm:TM}{mm:MM}{a:Act}{w:World}(h:Mod C H Z n tm mm a w)
 {x:Operand}{s:SV}(he:cx tm x=some s):cu (cU mm) H Z w (cO C H mm) (a.eval x) s:=by
 unfold cx at he
 split at he
 ·rename_i s' hs
  injection he with he;subst he
  exact j9 h hs
 ·cases he
def aQ(tm:TM)(x:Operand):Option SC:=
 match mg tm x with
 |some (.v (.one s))=>some s
 |_=>none
theorem aU{C:Ctx}{H:Nat→Value}{Z:Nat→Nat}{n:Nat}{tm:TM}{mm:MM}{a:Act}{w:World}(h:Mod C H Z n tm mm a w)
 {x:Operand}{s:SC}(he:aQ tm x=some s):bS (cU mm) H Z w (cO C H mm) (a.eval x) s:=by
 unfold aQ at he
 split at he
 ·rename_i s' hs
  injection he with he;subst he
  exact j9 h hs
 ·cases he
section
variable {C:Ctx} {n:Nat} {tm:TM} {mm:MM} {o:Oper} {d:Nat}
def ea(C:Ctx)(n:Nat)(o:Oper)(tm:TM)(mm:MM)(d:Nat)(st:ST):Prop:=
 (o.dst=some d∧Nat.blt d n=true)∧∀H Z a w,Mod C H Z n tm mm a w→∃v,(execOp a.eval o).run C.P w=.ok (.value v) w∧eK (cU mm) H Z w (cO C H mm) v st
theorem ea.val(hd:o.dst=some d)(hn:Nat.blt d n=true)(st:ST)
 (h:∀H Z a w,Mod C H Z n tm mm a w→∃v,(execOp a.eval o).run C.P w=.ok (.value v) w∧eK (cU mm) H Z w (cO C H mm) v st):
 ea C n o tm mm d st:=⟨⟨hd,hn⟩,h⟩
theorem ea.YJ{st:ST}(h:ea C n o tm mm d st):xX C n o tm mm ((d,st)::bo tm d) mm:=by
 intro a w ⟨H,Z,hm⟩
 obtain⟨⟨hd,hn⟩,h⟩:=h
 obtain⟨v,h1,h2⟩:=h H Z a w hm
 exact .inl ⟨v,w,h1,H,Z,by rw[hd];exact hm.Ep (a6.mp hn) h2⟩
theorem ea.wp{st:ST}(h:ea C n o tm mm d st):PW C n o tm mm ((d,st)::bo tm d) mm:=h.YJ.wp
theorem NS{x:Operand}{st:ST}(ho:o.op=.move x)(he:mg tm x=some st)(hd:o.dst=some d)(hn:Nat.blt d n=true):
 ea C n o tm mm d (st):=
 ea.val hd hn st fun H Z a w hm=>⟨a.eval x,by simp[execOp,ho],j9 hm he⟩
theorem HX{x:Operand}{st:ST}(ho:o.op=.assign x)(he:mg tm x=some st)(hd:o.dst=some d)(hn:Nat.blt d n=true):
 ea C n o tm mm d (st):=
 ea.val hd hn st fun H Z a w hm=>⟨a.eval x,by simp[execOp,ho],j9 hm he⟩
theorem Gp{c x y:Operand}{st:ST}{b:Bool}(ho:o.op=.pick c x y)(hc:aQ tm c=some (.lit b))
 (he:mg tm (match b with|true=>x|false=>y)=some st)(hd:o.dst=some d)(hn:Nat.blt d n=true):
 ea C n o tm mm d (st):=
 ea.val hd hn st fun H Z a w hm=>by
  have h1:a.eval c=.bool b:=aU hm hc
  cases b with
  |true=>exact⟨a.eval x,by simp[execOp,ho,h1,asBool],j9 hm he⟩
  |false=>exact⟨a.eval y,by simp[execOp,ho,h1,asBool],j9 hm he⟩
def Mr:SC→Option Bool
 |.lit b=>some b
 |.c (.bool b)=>some b
 |_=>none
def uw(tm:TM)(x:Operand):Option Bool:=
 match aQ tm x with
 |some s=>Mr s
 |none=>none
theorem tx{H:Nat→Value}{Z:Nat→Nat}{a:Act}{w:World}(h:Mod C H Z n tm mm a w){x:Operand}{b:Bool}(he:uw tm x=some b):a.eval x=.bool b:=by
 unfold uw at he
 split at he
 ·rename_i s hs
  have:=aU h hs
  cases s<;>simp only[Mr]at he<;>try(cases he;done)
  ·rename_i c
   cases c<;>simp only at he<;>try(cases he;done)
   injection he with he;subst he
   exact aV.pc this
  ·injection he with he;subst he;exact this
 ·cases he
theorem Re{x:Operand}{b:Bool}{ty:Nat}(ho:o.op=.unOp .not ty x)(hc:uw tm x=some b)(hd:o.dst=some d)(hn:Nat.blt d n=true):
 ea C n o tm mm d (.v (.one (.c (.bool (!b))))):=
 ea.val hd hn _ fun H Z a w hm=>by
  have h1:a.eval x=.bool b:=tx hm hc
  exact⟨.bool (!b),by simp[execOp,ho,h1,Op.unary],.bool _⟩
def SM:BinOp→Int→Int→Option Bool
 |.eql,x,y=>some (decide (x=y))
 |.neq,x,y=>some (!decide (x=y))
 |.lss,x,y=>some (decide (x < y))
 |.leq,x,y=>some (decide (x≤y))
 |.gtr,x,y=>some (decide (y < x))
 |.geq,x,y=>some (decide (y≤x))
 |_,_,_=>none
theorem NZ{p:BinOp}{k:IntKind}{t t':Nat}{x y:Operand}{m q:Int}{b:Bool}(ho:o.op=.binOp p t x y t')
 (hx:aQ tm x=some (.c (.int k m)))(hy:aQ tm y=some (.c (.int k q)))(hb:SM p m q=some b)(hd:o.dst=some d)(hn:Nat.blt d n=true):
 ea C n o tm mm d (.v (.one (.c (.bool b)))):=
 ea.val hd hn _ fun H Z a w hm=>by
  have h1:a.eval x=.int k m:=aV.cA (aU hm hx)
  have h2:a.eval y=.int k q:=aV.cA (aU hm hy)
  refine⟨.bool b,?_,.bool _⟩
  cases p<;>simp only[SM]at hb<;>first
   |(cases hb;done)
   |(injection hb with hb;subst hb
     simp[execOp,ho,h1,h2,eqGuard,binOp,Op.intCmp]
     try first|rfl|(by_cases Zm:m=q<;>simp[Zm]))
theorem toList_inj{a b:ByteArray}:(a.toList==b.toList)=decide (a=b):=by
 have h:∀s:ByteArray,s.toList=s.data.toList:=fun s=>ByteArray.toList_eq s
 by_cases ur:a=b
 ·subst ur;simp
 ·simp[h,ur]
  intro hh
  apply ur
  cases a;cases b;simp at hh⊢;exact hh
def gQ(x y:ByteArray):Bool:=Op.bytesLess x.toList y.toList
def sq:BinOp→ByteArray→ByteArray→Option Bool
 |.eql,x,y=>some (decide (x=y))
 |.neq,x,y=>some (!decide (x=y))
 |.lss,x,y=>some (gQ x y)
 |.leq,x,y=>some (gQ x y||decide (x=y))
 |.gtr,x,y=>some (!(gQ x y||decide (x=y)))
 |.geq,x,y=>some (!gQ x y)
 |_,_,_=>none
theorem NX{p:BinOp}{t t':Nat}{x y:Operand}{m q:ByteArray}{b:Bool}(ho:o.op=.binOp p t x y t')
 (hx:aQ tm x=some (.c (.str m)))(hy:aQ tm y=some (.c (.str q)))(hb:sq p m q=some b)(hd:o.dst=some d)(hn:Nat.blt d n=true):
 ea C n o tm mm d (.v (.one (.c (.bool b)))):=
 ea.val hd hn _ fun H Z a w hm=>by
  have h1:a.eval x=.string m:=aV.fR (aU hm hx)
  have h2:a.eval y=.string q:=aV.fR (aU hm hy)
  refine⟨.bool b,?_,.bool _⟩
  cases p<;>simp only[sq]at hb<;>first
   |(cases hb;done)
   |(injection hb with hb;subst hb
     simp only[execOp,ho,h1,h2,Sem.run_bind]
     simp[eqGuard,binOp,Op.stringOp,toList_inj,gQ])
theorem Gq{p:BinOp}{t t':Nat}{x y:Operand}{m q:Bool}{Θ:da}(bt:a8 C.P Θ){z:Nat}{cz:Nat}{ag:Bool}{zr:Option (List CT)}
 (ho:o.op=.binOp p t x y t')(ht:aP Θ t=some ⟨z,cz,ag,zr,.bool⟩)
 (hp:p=.eql∨p=.neq)(hx:uw tm x=some m)(hy:uw tm y=some q)(hd:o.dst=some d)(hn:Nat.blt d n=true):
 ea C n o tm mm d (.v (.one (.c (.bool (match p with|.eql=>m==q|_=>m !=q))))):=
 ea.val hd hn _ fun H Z a w hm=>by
  have h1:a.eval x=.bool m:=tx hm hx
  have h2:a.eval y=.bool q:=tx hm hy
  obtain⟨inf,de,hf⟩:=gI bt ht
  have jL:de=.bool:=by
   have:=hf.sh
   cases de<;>simp[dA]at this⊢
  subst jL
  refine⟨.bool (match p with|.eql=>m==q|_=>m !=q),?_,.bool _⟩
  have he:(Op.equal t (.bool m) (.bool q)).run C.P w=.ok (m==q) w:=run_equalIn_bool w 9999 t m q hf.Aj
  rcases hp with rfl|rfl
  ·simp only[execOp,ho,h1,h2,Sem.run_bind]
   simp only[eqGuard,binOp,Sem.run_bind,he,Result.andThen_ok,Sem.run_pure]
   simp[he]
  ·simp only[execOp,ho,h1,h2,Sem.run_bind]
   simp only[eqGuard,binOp,Sem.run_bind,he,Result.andThen_ok,Sem.run_pure]
   simp[he]
   cases m<;>cases q<;>rfl
theorem Kp{t t':Nat}{x:Operand}{m:Int}{k k':IntKind}{Θ:da}(bt:a8 C.P Θ){z z':Nat}{cz Bp:Nat}{ag Vm:Bool}{zr TL:Option (List CT)}
 (ho:o.op=.convert t t' x)(ht:aP Θ t=some ⟨z,cz,ag,zr,.int k⟩)(Ir:aP Θ t'=some ⟨z',Bp,Vm,TL,.int k'⟩)
 (hx:aQ tm x=some (.c (.int k m)))(hd:o.dst=some d)(hn:Nat.blt d n=true):
 ea C n o tm mm d (.v (.one (.c (.int k' (k'.wrap m))))):=
 ea.val hd hn _ fun H Z a w hm=>by
  have h1:a.eval x=.int k m:=aV.cA (aU hm hx)
  obtain⟨inf,de,hf⟩:=gI bt ht
  obtain⟨jK,qw,fK⟩:=gI bt Ir
  have Xg:qw=.int k':=by
   have:=fK.sh
   cases qw<;>simp[dA]at this⊢
   exact this
  subst Xg
  refine⟨.int k' (k'.wrap m),?_,.int _ _⟩
  simp[execOp,ho,h1,convert,hf.underlying,fK.underlying,Conv.intToInt]
theorem EP{x:Operand}{i:Nat}{xs:List SV}{s:SV}(ho:o.op=.extract x i)(hx:mg tm x=some (.fo xs))(hi:xs[i]? =some s)(hd:o.dst=some d)(hn:Nat.blt d n=true):
 ea C n o tm mm d (.v s):=
 ea.val hd hn _ fun H Z a w hm=>by
  obtain⟨vs,h1,h2,h3⟩:=j9 hm hx
  obtain⟨u,hu,hr⟩:=h3 i s hi
  exact⟨u,by simp[execOp,ho,h1,Instr.extract,hu],hr⟩
theorem oJ{x:Operand}{s:SC}(ho:o.op=.nilCheck x)(hx:aQ tm x=some s)(hs:(match s with|.ptr _ _|.iH _ _ _|.iw _=>true|_=>false)=true)
 (hd:o.dst=some d)(hn:Nat.blt d n=true):ea C n o tm mm d (.v (.one s)):=
 ea.val hd hn _ fun H Z a w hm=>by
  have h1:=aU hm hx
  refine⟨a.eval x,?_,h1⟩
  cases s<;>simp at hs
  ·obtain⟨_,b,_,hv⟩:=h1;simp[execOp,ho,hv]
  ·obtain⟨_,b,_,hv⟩:=h1;simp[execOp,ho,hv]
  ·obtain⟨ad,hv,_⟩:=h1;simp[execOp,ho,hv]
end
end Go.Sy
namespace Go.Sy
open Go.RowKit
def jV{α:Type}(f:Nat→α)(i:Nat)(v:α):Nat→α:=fun j=>if j=i then v else f j
theorem bm{α:Type}(f:Nat→α)(i:Nat)(v:α):jV f i v i=v:=if_pos J
theorem bG{α:Type}(f:Nat→α){i j:Nat}(v:α)(h:j≠i):jV f i v j=f j:=if_neg h
def getM(mm:MM)(i:Nat):Option MO:=
 match mm with
 |[]=>none
 |(e,u)::r=>match Nat.beq e i with
  |true=>some u
  |false=>getM r i
theorem aT{mm:MM}{i:Nat}{o:MO}(h:getM mm i=some o):(i,o)∈mm:=by
 induction mm with
 |nil=>simp[getM]at h
 |cons p r ih=>
  obtain⟨e,u⟩:=p
  unfold getM at h
  cases hb:Nat.beq e i with
  |true=>
   have he:e=i:=aJ hb
   subst he
   rw[hb]at h
   injection h with h;subst h;exact ah
  |false=>rw[hb]at h;exact ab _ (ih h)
theorem getM_none{mm:MM}{i:Nat}(h:getM mm i=none):¬cU mm i:=by
 induction mm with
 |nil=>rintro⟨p,hp,_⟩;simp at hp
 |cons p r ih=>
  obtain⟨e,u⟩:=p
  unfold getM at h
  cases hb:Nat.beq e i with
  |true=>rw[hb]at h;cases h
  |false=>
   rw[hb]at h
   rintro⟨q,hq,hi⟩
   rcases ae.1 hq with rfl|hq
   ·subst hi;simp at hb
   ·exact ih h ⟨q,hq,hi⟩
def cS(mm:MM)(i:Nat)(o:MO):MM:=
 match mm with
 |[]=>[]
 |(e,u)::r=>match Nat.beq e i with
  |true=>(e,o)::cS r i o
  |false=>(e,u)::cS r i o
theorem cW{mm:MM}{i:Nat}{o:MO}:∀p∈cS mm i o,(p=(i,o)∧cU mm i)∨(p∈mm∧p.1≠i):=by
 induction mm with
 |nil=>intro p hp;simp[cS]at hp
 |cons q r ih=>
  obtain⟨e,u⟩:=q
  intro p hp
  unfold cS at hp
  cases hb:Nat.beq e i with
  |true=>
   have he:e=i:=aJ hb
   subst he
   rw[hb]at hp
   rcases ae.1 hp with rfl|hp
   ·exact .inl ⟨rfl,_,ah,rfl⟩
   ·rcases ih p hp with⟨k1,q,hq,nv⟩|⟨k1,k2⟩
    ·exact .inl ⟨k1,q,ab _ hq,nv⟩
    ·exact .inr ⟨ab _ k1,k2⟩
  |false=>
   have cV:e≠i:=fun he=>by subst he;simp at hb
   rw[hb]at hp
   rcases ae.1 hp with rfl|hp
   ·exact .inr ⟨ah,cV⟩
   ·rcases ih p hp with⟨k1,q,hq,nv⟩|⟨k1,k2⟩
    ·exact .inl ⟨k1,q,ab _ hq,nv⟩
    ·exact .inr ⟨ab _ k1,k2⟩
theorem fT{mm:MM}{i:Nat}{o:MO}(j:Nat):cU (cS mm i o) j↔cU mm j:=by
 induction mm with
 |nil=>simp[cS]
 |cons q r ih=>
  obtain⟨e,u⟩:=q
  unfold cS
  have key:∀(x y:MO),(cU ((e,x)::cS r i o) j↔cU ((e,y)::r) j):=by
   intro x y
   constructor
   ·rintro⟨p,hp,Us⟩
    rcases ae.1 hp with rfl|hp
    ·exact⟨_,ah,Us⟩
    ·obtain⟨p',sa,k⟩:=ih.1 ⟨p,hp,Us⟩
     exact⟨p',ab _ sa,k⟩
   ·rintro⟨p,hp,Us⟩
    rcases ae.1 hp with rfl|hp
    ·exact⟨_,ah,Us⟩
    ·obtain⟨p',sa,k⟩:=ih.2 ⟨p,hp,Us⟩
     exact⟨p',ab _ sa,k⟩
  cases hb:Nat.beq e i
  ·exact key _ _
  ·exact key _ _
theorem Mod.add{C:Ctx}{H:Nat→Value}{Z:Nat→Nat}{n:Nat}{tm:TM}{mm:MM}{a:Act}{w w':World}(h:Mod C H Z n tm mm a w)
 {i:Nat}(hi:¬cU mm i){hv:Value}{z:Nat}{o:MO}{d:Nat}(hd:d < n)(hid:i=d){v:Value}{st:ST}
 (dy:Ext (fun _=>False) w w')(oh:∀b,Hb hv b→w.heap.size≤b∧b < w'.heap.size)
 (dX:(∀b,b < w.heap.size→cO C (jV H i hv) ((i,o)::mm) b→cO C H mm b)→
   (∀b,b < w.heap.size→¬cO C H mm b→w'.heap[b]? =w.heap[b]?)→eG (cU ((i,o)::mm)) (jV H i hv) (jV Z i z) w' (cO C (jV H i hv) ((i,o)::mm)) i o)
 (cZ:eK (cU ((i,o)::mm)) (jV H i hv) (jV Z i z) w' (cO C (jV H i hv) ((i,o)::mm)) v st):
 Mod C (jV H i hv) (jV Z i z) n ((d,st)::bo tm d) ((i,o)::mm) (a.put (some d) v) w':=by
 have cV:∀j,cU mm j→j≠i:=fun j hj e=>hi (e▸hj)
 have qu:∀j,cU mm j→cU ((i,o)::mm) j∧jV H i hv j=H j∧jV Z i z j=Z j:=fun j hj=>
  ⟨let⟨p,hp,e⟩:=hj;⟨p,ab _ hp,e⟩,bG _ _ (cV j hj),bG _ _ (cV j hj)⟩
 have eA:∀p∈mm,p.1≠i:=fun p hp=>cV p.1 ⟨p,hp,rfl⟩
 have iJ:i=d→¬given≤i:=fun e=>by have:=h.Oa;omega
 refine h.build (fun _=>False) dy (fun b _ hx=>hx.elim) (by simpa[Act.put]using h.defers) (by simp[Act.put,h.size]) ?_ ?_ ?_ ?_ ?_
 ·intro p hp lN
  rcases ae.1 hp with rfl|hp
  ·exact absurd lN (iJ hid)
  ·rw[bG _ _ (eA p hp)];exact h.hg p hp lN
 ·intro p hp q hq he
  rcases ae.1 hp with rfl|hp<;>rcases ae.1 hq with rfl|hq
  ·rfl
  ·exact absurd he.symm (eA q hq)
  ·exact absurd he (eA p hp)
  ·exact h.ids p hp q hq he
 ·intro p hp
  rcases ae.1 hp with rfl|hp
  ·refine .inr ⟨fun b hb=>.inl (oh b ?_),dX⟩
   simpa[bm]using hb
  ·obtain⟨_,k2,k3⟩:=qu p.1 ⟨p,hp,rfl⟩
   exact .inl ⟨hp,k2,k3,fun _ _ hx=>hx,fun j _ hj=>qu j hj⟩
 ·intro p hp q hq kl b c9 dS
  rcases ae.1 hp with rfl|hp<;>rcases ae.1 hq with rfl|hq
  ·exact kl J
  ·rw[bm]at c9
   rw[bG _ _ (eA q hq)]at dS
   have:=(oh b c9).1
   have:=(h.fresh q hq b dS).2
   omega
  ·rw[bm]at dS
   rw[bG _ _ (eA p hp)]at c9
   have:=(oh b dS).1
   have:=(h.fresh p hp b c9).2
   omega
  ·rw[bG _ _ (eA p hp)]at c9
   rw[bG _ _ (eA q hq)]at dS
   exact h.sep p hp q hq kl b c9 dS
 ·intro p hp
  rcases ae.1 hp with rfl|hp
  ·refine .inr fun _ _=>?_
   rw[iD (by rw[h.size];exact hd)]
   exact cZ
  ·obtain⟨h1,h2⟩:=cj hp
   exact .inl ⟨p,h1,rfl,fV h2,fun j _ hj=>qu j hj⟩
theorem Mod.jV{C:Ctx}{H:Nat→Value}{Z:Nat→Nat}{n:Nat}{tm tm':TM}{mm:MM}{a a':Act}{w w':World}(h:Mod C H Z n tm mm a w)
 {i:Nat}(hi:cU mm i){o:MO}{b0:Nat}(sD:Hb (H i) b0)
 (dy:Ext (fun b=>b=b0) w w')(LF:a'.defers=[])(mS:a'.tmps.size=n)
 (dX:(∀b,b < w.heap.size→cO C H (cS mm i o) b→cO C H mm b)→
   (∀b,b < w.heap.size→¬cO C H mm b→w'.heap[b]? =w.heap[b]?)→eG (cU (cS mm i o)) H Z w' (cO C H (cS mm i o)) i o)
 (Uk:∀p∈tm',p∈tm∧a'.tmps.getD p.1 undef=a.tmps.getD p.1 undef):
 Mod C H Z n tm' (cS mm i o) a' w':=by
 obtain⟨p0,Qi,yq⟩:=hi
 have hI:∀j,cU mm j→cU (cS mm i o) j:=fun j hj=>(fT j).2 hj
 refine h.build (fun b=>b=b0) dy (fun b _ hx=>⟨p0,Qi,by rw[yq,hx];exact sD⟩) LF mS ?_ ?_ ?_ ?_ ?_
 ·intro p hp lN
  rcases cW p hp with⟨rfl,q,hq,nv⟩|⟨k1,_⟩
  ·simp only at lN⊢
   rw[←nv];exact h.hg q hq (by rw[nv];exact lN)
  ·exact h.hg p k1 lN
 ·intro p hp q hq he
  rcases cW p hp with⟨rfl,_⟩|⟨k1,k2⟩<;>rcases cW q hq with⟨rfl,_⟩|⟨l1,l2⟩
  ·rfl
  ·exact absurd he.symm l2
  ·exact absurd he k2
  ·exact h.ids p k1 q l1 he
 ·intro p hp
  rcases cW p hp with⟨rfl,_⟩|⟨k1,k2⟩
  ·refine .inr ⟨fun b hb=>.inr ⟨p0,Qi,by rw[yq];exact hb,.inl yq.symm⟩,dX⟩
  ·refine .inl ⟨k1,rfl,rfl,fun b hb hx=>?_,fun j _ hj=>⟨hI j hj,rfl,rfl⟩⟩
   subst hx
   exact h.sep p k1 p0 Qi (by rw[yq];exact k2) b hb (by rw[yq];exact sD)
 ·intro p hp q hq kl b c9 dS
  have key:∀r∈cS mm i o,∃r'∈mm,r'.1=r.1:=fun r hr=>by
   rcases cW r hr with⟨rfl,_⟩|⟨k1,_⟩
   ·exact⟨p0,Qi,yq⟩
   ·exact⟨r,k1,rfl⟩
  obtain⟨p',sa,e1⟩:=key p hp
  obtain⟨q',rm,e2⟩:=key q hq
  exact h.sep p' sa q' rm (by rw[e1,e2];exact kl) b (by rw[e1];exact c9) (by rw[e2];exact dS)
 ·intro p hp
  obtain⟨k1,k2⟩:=Uk p hp
  exact .inl ⟨p,k1,rfl,k2,fun j _ hj=>⟨hI j hj,rfl,rfl⟩⟩
theorem eG.handle{I:Nat→Prop}{H:Nat→Value}{Z:Nat→Nat}{w:World}{M:Nat→Prop}{i:Nat}{o:MO}(h:eG I H Z w M i o):(H i).oneCell'=true:=by
 cases o with
 |box cs=>obtain⟨b,ty,vs,h1,_⟩:=h;rw[h1];rfl
 |arr nn e sz xs=>
  obtain⟨_,us,h1,_⟩:=h
  rcases h1.2 with⟨hh,_⟩|⟨g,cap,cur,hh,_⟩<;>rw[hh]<;>rfl
 |fw es=>obtain⟨r,es,ck,h1,_⟩:=h;rw[h1];rfl
 |bF e sz qs=>rw[h.1];rfl
def SC.known:SC→Bool
 |.any=>false
 |_=>true
theorem bS.one{C:Ctx}{H:Nat→Value}{Z:Nat→Nat}{n:Nat}{tm:TM}{mm:MM}{a:Act}{w:World}(hm:Mod C H Z n tm mm a w)
 {v:Value}{s:SC}(h:bS (cU mm) H Z w (cO C H mm) v s)(hk:s.known=true):v.oneCell'=true:=by
 cases s with
 |c x=>exact aV.one h
 |lit b=>rw[show v=.bool b from h];rfl
 |ptr i off=>obtain⟨_,b,_,hv⟩:=h;rw[hv];rfl
 |u5 i n=>obtain⟨_,b,_,hv⟩:=h;rw[hv];rfl
 |iH i k off=>obtain⟨_,b,_,hv⟩:=h;rw[hv];rfl
 |iw cs=>obtain⟨ad,hv,_⟩:=h;rw[hv];rfl
 |own i=>obtain⟨⟨p,hp,e⟩,hv⟩:=h;rw[hv,←e];exact(hm.mem p hp).handle
 |mp i=>obtain⟨⟨p,hp,e⟩,hv⟩:=h;rw[hv,←e];exact(hm.mem p hp).handle
 |kD f c7=>obtain⟨_,vs,hv,_⟩:=h;rw[hv];rfl
 |any=>cases hk
def SV.cells:SV→List SC
 |.one x=>[x]
 |.agg xs=>xs
theorem cells_one{v:Value}(h:v.oneCell'=true):v.cells=#[v]:=by cases v<;>first|rfl|cases h
theorem cu.cells{C:Ctx}{H:Nat→Value}{Z:Nat→Nat}{n:Nat}{tm:TM}{mm:MM}{a:Act}{w:World}(hm:Mod C H Z n tm mm a w)
 {v:Value}{s:SV}(h:cu (cU mm) H Z w (cO C H mm) v s)(hk:s.cells.all SC.known=true):
 v.cells.size=s.cells.length∧∀(j:Nat) (c:SC),s.cells[j]? =some c→∃u:Value,v.cells[j]? =some u∧u.oneCell'=true∧bS (cU mm) H Z w (cO C H mm) u c:=by
 cases s with
 |one x=>
  have hx:x.known=true:=by simpa[SV.cells]using hk
  have h1:v.oneCell'=true:=bS.one hm h hx
  rw[cells_one h1]
  refine⟨rfl,fun j c hc=>?_⟩
  cases j with
  |zero=>simp[SV.cells]at hc;subst hc;exact⟨v,by simp,h1,h⟩
  |succ j=>simp[SV.cells]at hc
 |agg xs=>
  obtain⟨vs,rfl,h2,h3⟩:=h
  refine⟨h2,fun j c hc=>?_⟩
  obtain⟨u,hu,hr⟩:=h3 j c hc
  have Yc:c.known=true:=a7.1 hk c (aj hc)
  exact⟨u,hu,bS.one hm hr Yc,hr⟩
section
variable {C:Ctx} {n:Nat} {tm:TM} {mm:MM} {o:Oper} {d:Nat}
theorem ft(w:World)(x:Obj):Ext (fun _=>False) w (w.alloc x):=
 ⟨rfl,rfl,rfl,by show _≤(w.heap.push x).size;rw[jl];omega,fun k hk _=>Below.heap_alloc w x k hk⟩
theorem tO(w:World)(x:Obj):(w.alloc x).heap[w.heap.size]? =some x:=by show(w.heap.push x)[_]? =_;simp
theorem Mod.EX{H:Nat→Value}{Z:Nat→Nat}{a:Act}{w:World}(h:Mod C H Z n tm mm a w)(hi:getM mm d=none)(hd:d < n)
 (ty:TypeId)(vs:Array Value)(cs:List SC)(hs:vs.size=cs.length)
 (hr:∀(j:Nat) (c:SC),cs[j]? =some c→∃u:Value,vs[j]? =some u∧u.oneCell'=true∧bS (cU mm) H Z w (cO C H mm) u c):
 ∃H' Z',Mod C H' Z' n ((d,.v (.one (.ptr d 0)))::bo tm d) ((d,.box cs)::mm) (a.put (some d) (.pointer (some ⟨w.heap.size,0,none⟩))) (w.alloc (.cells vs ty)):=by
 have BH:=getM_none hi
 refine⟨_,_,h.add (i:=d) (hv:=.pointer (some ⟨w.heap.size,0,none⟩)) (z:=0) (o:=.box cs) BH hd J (ft w _) ?_ ?_ ?_⟩
 ·intro b hb
  simp[Hb,hblk]at hb
  subst hb
  exact⟨ay _,by show _ < (w.heap.push _).size;rw[jl];omega⟩
 ·intro iP gb
  refine⟨w.heap.size,ty,vs,bm _ _ _,tO w _,hs,fun j c hc=>?_⟩
  obtain⟨u,hu,h1,cC⟩:=hr j c hc
  refine⟨u,hu,h1,cC.mono (fun k _ hk=>?_) (ft w _).size gb iP⟩
  have cV:k≠d:=fun e=>BH (e▸hk)
  exact⟨let⟨p,hp,e⟩:=hk;⟨p,ab _ hp,e⟩,bG _ _ cV,bG _ _ cV⟩
 ·exact⟨⟨_,ah,rfl⟩,w.heap.size,by rw[bm];rfl,rfl⟩
theorem Rh{e:TypeId}{x:Operand}{s:SV}(ho:o.op=.box e x)(hx:cx tm x=some s)(hk:s.cells.all SC.known=true)
 (hi:getM mm d=none)(hd:o.dst=some d)(hn:Nat.blt d n=true):
 xX C n o tm mm ((d,.v (.one (.ptr d 0)))::bo tm d) ((d,.box s.cells)::mm):=by
 intro a w ⟨H,Z,hm⟩
 obtain⟨h1,h2⟩:=(c8 hm hx).cells hm hk
 obtain⟨H',Z',h3⟩:=hm.EX hi (a6.mp hn) e (a.eval x).cells s.cells h1 h2
 refine .inl ⟨_,_,?_,H',Z',by rw[hd];exact h3⟩
 simp[execOp,ho,Instr.box,newVar,newRow,newObj,Sem.run]
theorem wq{Θ:da}(bt:a8 C.P Θ){e:TypeId}{z cz:Nat}{ag:Bool}{zr:List CT}{sh:Sh}(ho:o.op=.alloc e)
 (ht:aP Θ e=some ⟨z,cz,ag,some zr,sh⟩)(hi:getM mm d=none)(hd:o.dst=some d)(hn:Nat.blt d n=true):
 xX C n o tm mm ((d,.v (.one (.ptr d 0)))::bo tm d) ((d,.box (zr.map SC.c))::mm):=by
 intro a w ⟨H,Z,hm⟩
 obtain⟨inf,de,hf⟩:=gI bt ht
 obtain⟨zv,hz,qe,hl⟩:=hf.zero zr J
 obtain⟨h1,h2⟩:=e8 (w:=w) (M:=cO C H mm) qe
 obtain⟨H',Z',h3⟩:=hm.EX hi (a6.mp hn) e zv.cells (zr.map SC.c) (by simpa using h1) (fun j c hc=>by
  rw[az]at hc
  cases hq:zr[j]? with
  |none=>rw[hq]at hc;cases hc
  |some ct=>
   rw[hq]at hc
   injection hc with hc;subst hc
   obtain⟨u,hu,hr⟩:=h2 j ct hq
   exact⟨u,hu,hr.one,hr⟩)
 refine .inl ⟨_,_,?_,H',Z',by rw[hd];exact h3⟩
 simp[execOp,ho,Instr.alloc,hf.zeroValue hz,newVar,newRow,newObj,Sem.run]
end
end Go.Sy
namespace Go.Sy
open Go.RowKit
def Pw{α β:Type}(R:α→β→Prop)(vs:List α)(cs:List β):Prop:=
 vs.length=cs.length∧∀(j:Nat) (c:β),cs[j]? =some c→∃u:α,vs[j]? =some u∧R u c
section
variable {α β:Type} {R:α→β→Prop} {vs us:List α} {cs ds:List β}
theorem Pw.append(h:Pw R vs cs)(k:Pw R us ds):Pw R (vs++us) (cs++ds):=by
 refine⟨by simp[h.1,k.1],fun j c hc=>?_⟩
 rw[bX]at hc⊢
 rw[h.1]
 split at hc
 ·rename_i hj;rw[if_pos hj];exact h.2 j c hc
 ·rename_i hj;rw[if_neg hj];exact k.2 _ c hc
theorem Pw.take(h:Pw R vs cs)(m:Nat):Pw R (vs.take m) (cs.take m):=by
 refine⟨by simp[h.1],fun j c hc=>?_⟩
 rw[bU]at hc⊢
 split at hc
 ·rename_i hj;rw[if_pos hj];exact h.2 j c hc
 ·cases hc
theorem Pw.drop(h:Pw R vs cs)(m:Nat):Pw R (vs.drop m) (cs.drop m):=by
 refine⟨by simp[h.1],fun j c hc=>?_⟩
 rw[cf]at hc⊢
 exact h.2 _ c hc
theorem Pw.mono{S:α→β→Prop}(h:Pw R vs cs)(hi:∀u c,c∈cs→R u c→S u c):Pw S vs cs:=
 ⟨h.1,fun j c hc=>let⟨u,hu,hr⟩:=h.2 j c hc;⟨u,hu,hi u c (aj hc) hr⟩⟩
theorem Pw.cons{a:α}{b:β}(h:R a b)(k:Pw R vs cs):Pw R (a::vs) (b::cs):=by
 refine⟨by simp[k.1],fun j c hc=>?_⟩
 cases j with
 |zero=>simp at hc;subst hc;exact⟨a,rfl,h⟩
 |succ j=>simp at hc;simpa using k.2 j c hc
theorem Pw.nil:Pw R [] []:=⟨rfl,fun j c hc=>by simp at hc⟩
theorem Pw.map{γ:Type}{f:γ→β}{gs:List γ}:Pw R vs (gs.map f)↔Pw (fun u g=>R u (f g)) vs gs:=by
 constructor
 ·rintro⟨h1,h2⟩
  refine⟨by simpa using h1,fun j g hg=>h2 j (f g) (by simp[hg])⟩
 ·rintro⟨h1,h2⟩
  refine⟨by simpa using h1,fun j c hc=>?_⟩
  rw[az]at hc
  cases hq:gs[j]? with
  |none=>rw[hq]at hc;cases hc
  |some g=>rw[hq]at hc;injection hc with hc;subst hc;exact h2 j g hq
end
def rG{α:Type}:List α→Nat→Option (List α)
 |_,0=>some []
 |[],_+1=>none
 |a::l,n+1=>match rG l n with
  |some r=>some (a::r)
  |none=>none
theorem nz{α:Type}:∀{l:List α} {n:Nat} {r:List α},rG l n=some r→r=l.take n∧r.length=n
 |_,0,_,h=>by simp[rG]at h;subst h;simp
 |[],_+1,_,h=>by simp[rG]at h
 |a::l,n+1,r,h=>by
  unfold rG at h
  split at h
  ·rename_i r' hr
   injection h with h;subst h
   obtain⟨h1,h2⟩:=nz hr
   exact⟨by simp[h1],by simp[h2]⟩
  ·cases h
def sn{α:Type}:List α→Nat→Option (List α)
 |l,0=>some l
 |[],_+1=>none
 |_::l,n+1=>sn l n
theorem lC{α:Type}:∀{l:List α} {n:Nat} {r:List α},sn l n=some r→r=l.drop n
 |_,0,_,h=>by simp[sn]at h;subst h;simp
 |[],_+1,_,h=>by simp[sn]at h
 |a::l,n+1,r,h=>by simpa using lC (l:=l) (n:=n) (by simpa[sn]using h)
def yd{α:Type}(l:List α)(off n:Nat):Option (List α):=
 match sn l off with
 |some r=>rG r n
 |none=>none
theorem sL{α:Type}{l:List α}{off n:Nat}{r:List α}(h:yd l off n=some r):r=(l.drop off).take n∧r.length=n:=by
 unfold yd at h
 split at h
 ·rename_i r' hr
  rw[lC hr]at h
  exact nz h
 ·cases h
def wc{α:Type}:List α→List α→Option (List α)
 |l,[]=>some l
 |[],_::_=>none
 |_::l,a::n=>match wc l n with
  |some r=>some (a::r)
  |none=>none
theorem wb{α:Type}:∀{l n r:List α},wc l n=some r→r=n++l.drop n.length∧n.length≤l.length
 |l,[],r,h=>by cases l<;>(simp[wc]at h;subst h;simp)
 |[],_::_,r,h=>by simp[wc]at h
 |b::l,a::n,r,h=>by
  unfold wc at h
  split at h
  ·rename_i r' hr
   injection h with h;subst h
   obtain⟨h1,h2⟩:=wb hr
   exact⟨by simp[h1],by simpa using h2⟩
  ·cases h
def gl{α:Type}:List α→Nat→List α→Option (List α)
 |l,0,n=>wc l n
 |[],_+1,_=>none
 |a::l,k+1,n=>match gl l k n with
  |some r=>some (a::r)
  |none=>none
theorem jo{α:Type}:∀{l:List α} {k:Nat} {n r:List α},gl l k n=some r→
 r=l.take k++n++l.drop (k+n.length)∧k+n.length≤l.length
 |l,0,n,r,h=>by
  have h':wc l n=some r:=by cases l<;>simpa[gl]using h
  obtain⟨h1,h2⟩:=wb h'
  exact⟨by simpa using h1,by omega⟩
 |[],_+1,_,r,h=>by simp[gl]at h
 |a::l,k+1,n,r,h=>by
  unfold gl at h
  split at h
  ·rename_i r' hr
   injection h with h;subst h
   obtain⟨h1,h2⟩:=jo hr
   refine⟨?_,by simp;omega⟩
   rw[h1,show k+1+n.length=(k+n.length)+1 by omega]
   simp
  ·cases h
def qd{α:Type}(f:α→SC)(agg:Bool)(xs:List α):Option SV:=
 match agg,xs with
 |true,xs=>some (.agg (rZ f xs))
 |false,[x]=>some (.one (f x))
 |false,_=>none
where
 rZ {α:Type} (f:α→SC):List α→List SC
  |[]=>[]
  |a::r=>f a::rZ f r
theorem l7{α:Type}(f:α→SC)(l:List α):qd.rZ f l=l.map f:=by
 induction l with
 |nil=>rfl
 |cons a r ih=>simp[qd.rZ,ih]
theorem gR{P:Program}{w:World}{t:TypeId}{i:fN}{inf:TypeInfo}{de:TypeDesc}(hf:Bz P t i inf de)(ad:Addr)(us:List Value)
 (hl:us.length=i.size)(hc:∀(j:Nat) (u:Value),us[j]? =some u→w.cell? (ad.add j)=some u)(h1:i.agg=false→us.length=1):
 ∃v,(loadVar t ad).run P w=.ok v w∧(i.agg=true→v=.agg us.toArray)∧(i.agg=false→us=[v]):=by
 cases ha:i.agg with
 |true=>
  refine⟨.agg us.toArray,?_,fun _=>rfl,(fun h=>by cases h)⟩
  have:=run_loadCells_list (P:=P) w ad us hc
  rw[hl]at this
  simp[loadVar,hf.isAgg,ha,hf.sizeOf,this]
 |false=>
  have Ix:=h1 ha
  match us,Ix with
  |[u],_=>
   refine⟨u,?_,(fun h=>by cases h),fun _=>rfl⟩
   have Yl:=hc 0 u J
   have:ad.add 0=ad:=by simp[Addr.add]
   rw[this]at Yl
   simp[loadVar,hf.isAgg,ha,load,Sem.run,Yl]
theorem rY{α:Type}{f:α→SC}{C:Ctx}{H:Nat→Value}{Z:Nat→Nat}{mm:MM}{w:World}{agg:Bool}{xs:List α}{s:SV}(hs:qd f agg xs=some s)
 {us:List Value}{v:Value}(hp:Pw (fun u x=>bS (cU mm) H Z w (cO C H mm) u (f x)) us xs)(h1:agg=true→v=.agg us.toArray)(h2:agg=false→us=[v]):
 cu (cU mm) H Z w (cO C H mm) v s:=by
 unfold qd at hs
 split at hs
 ·injection hs with hs;subst hs
  rw[h1 J,l7]
  refine⟨us.toArray,rfl,by simpa using hp.1,fun j c hc=>?_⟩
  have:=(Pw.map (R:=fun u c=>bS (cU mm) H Z w (cO C H mm) u c)).2 hp
  simpa using this.2 j c hc
 ·injection hs with hs;subst hs
  rename_i x
  obtain⟨u,hu,hr⟩:=hp.2 0 x J
  rw[h2 J]at hu
  simp at hu;subst hu
  exact hr
 ·cases hs
section
variable {C:Ctx} {n:Nat} {tm:TM} {mm:MM} {o:Oper} {d:Nat}
theorem Mod.box{H:Nat→Value}{Z:Nat→Nat}{a:Act}{w:World}(h:Mod C H Z n tm mm a w){i:Nat}{cs:List SC}(hi:getM mm i=some (.box cs)):
 ∃b ty vs,H i=.pointer (some ⟨b,0,none⟩)∧w.heap[b]? =some (.cells vs ty (0,0))∧b < w.heap.size∧
  Pw (fun u c=>u.oneCell'=true∧bS (cU mm) H Z w (cO C H mm) u c) vs.toList cs:=by
 obtain⟨b,ty,vs,h1,h2,h3,h4⟩:=h.mem _ (aT hi)
 refine⟨b,ty,vs,h1,h2,(h.fresh _ (aT hi) b (by rw[h1];rfl)).2,by simpa using h3,fun j c hc=>?_⟩
 obtain⟨u,hu,ho,hr⟩:=h4 j c hc
 exact⟨u,by simpa using hu,ho,hr⟩
theorem ue{Θ:da}(bt:a8 C.P Θ){t:TypeId}{ti:fN}{x:Operand}{i off:Nat}{cs xs:List SC}{s:SV}
 (ho:o.op=.load t x)(ht:aP Θ t=some ti)(hx:aQ tm x=some (.ptr i off))(hi:getM mm i=some (.box cs))
 (hs:yd cs off ti.size=some xs)(hv:qd id ti.agg xs=some s)(hd:o.dst=some d)(hn:Nat.blt d n=true):
 ea C n o tm mm d (.v s):=
 ea.val hd hn _ fun H Z a w hm=>by
  obtain⟨inf,de,hf⟩:=gI bt ht
  obtain⟨b,ty,vs,h1,h2,_,h4⟩:=hm.box hi
  obtain⟨_,b',yw,wY⟩:=aU hm hx
  rw[h1]at yw
  simp[Hb,hblk]at yw
  subst yw
  obtain⟨e1,e2⟩:=sL hs
  have hp:Pw (fun u c=>bS (cU mm) H Z w (cO C H mm) u c) ((vs.toList.drop off).take ti.size) xs:=by
   rw[e1];exact((h4.drop off).take _).mono fun _ _ _ h=>h.2
  obtain⟨v,hr,k1,k2⟩:=gR (w:=w) hf ⟨b,off,none⟩ ((vs.toList.drop off).take ti.size) (by rw[hp.1,e2]) (fun j u hu=>by
   rw[jJ,cell_of_row w b (off+j) vs ty _ h2]
   rw[bU]at hu
   split at hu
   ·rw[cf]at hu;simpa using hu
   ·cases hu) (fun ha=>by
    rw[hp.1]
    rw[ha]at hv
    unfold qd at hv
    split at hv<;>first|(rename_i hh;cases hh;done)|rfl|(cases hv;done))
  refine⟨v,by simp[execOp,ho,wY,Instr.loadAt,Instr.sureAddr,hr],?_⟩
  exact rY hv hp k1 k2
theorem AG{Θ:da}(bt:a8 C.P Θ){t:TypeId}{ti:fN}{x:Operand}{cs xs:List CT}{s:SV}
 (ho:o.op=.load t x)(ht:aP Θ t=some ti)(hx:aQ tm x=some (.iw cs))
 (hs:rG cs ti.size=some xs)(hv:qd SC.c ti.agg xs=some s)(hd:o.dst=some d)(hn:Nat.blt d n=true):
 ea C n o tm mm d (.v s):=
 ea.val hd hn _ fun H Z a w hm=>by
  obtain⟨inf,de,hf⟩:=gI bt ht
  obtain⟨ad,wY,h2,h3,h4,h5⟩:=aU hm hx
  obtain⟨e1,e2⟩:=nz hs
  have xc:∀m,m≤cs.length→∃us:List Value,us.length=m∧(∀(j:Nat) (u:Value),us[j]? =some u→w.cell? (ad.add j)=some u)∧
   Pw (fun u c=>aV w (cO C H mm) u c) us (cs.take m):=by
   intro m
   induction m with
   |zero=>intro _;exact⟨[],rfl,fun j u hu=>by simp at hu,by simpa using Pw.nil⟩
   |succ m ih=>
    intro UD
    obtain⟨us,g1,g2,g3⟩:=ih (by omega)
    obtain⟨u,hu,hr⟩:=h5 m cs[m] (aa (by omega))
    refine⟨us++[u],by simp[g1],fun j q hq=>?_,?_⟩
    ·rw[bX]at hq
     split at hq
     ·exact g2 j q hq
     ·rename_i hj
      have OM:j - us.length=0:=by
       rcases rp (j - us.length)with h0|h0
       ·exact h0
       ·rw[bR (by simp;omega)]at hq;cases hq
      rw[OM]at hq
      simp at hq;subst hq
      have:j=m:=by omega
      subst this
      exact hu
    ·rw[al (by omega)]
     exact g3.append (Pw.cons hr Pw.nil)
  have hle:ti.size≤cs.length:=by
   have:=e2;rw[e1]at this;simp at this;omega
  obtain⟨us,g1,g2,g3⟩:=xc ti.size hle
  rw[←e1]at g3
  obtain⟨v,hr,k1,k2⟩:=gR (w:=w) hf ad us g1 g2 (fun ha=>by
   rw[g3.1]
   rw[ha]at hv
   unfold qd at hv
   split at hv<;>first|(rename_i hh;cases hh;done)|rfl|(cases hv;done))
  refine⟨v,by simp[execOp,ho,wY,Instr.loadAt,Instr.sureAddr,hr],?_⟩
  exact rY (f:=SC.c) hv g3 k1 k2
theorem ll(w:World)(g:Nat)(cs:Array Value):Ext (fun b=>b=g) w (w.setRow g cs):=
 ⟨rfl,rfl,rfl,by simp[World.setRow],fun k _ cV=>by simp[World.setRow,e7,Ne.symm cV]⟩
theorem nG{Θ:da}(bt:a8 C.P Θ){t:TypeId}{ti:fN}{x y:Operand}{i off:Nat}{cs r:List SC}{s:SV}
 (ho:o.op=.store t x y)(ht:aP Θ t=some ti)(hx:aQ tm x=some (.ptr i off))(hi:getM mm i=some (.box cs))
 (hy:cx tm y=some s)(hk:s.cells.all SC.known=true)(cM:Nat.beq s.cells.length ti.size=true)(hs:gl cs off s.cells=some r)(hd:o.dst=none):
 xX C n o tm mm tm (cS mm i (.box r)):=by
 intro a w ⟨H,Z,hm⟩
 obtain⟨inf,de,hf⟩:=gI bt ht
 obtain⟨b,ty,vs,h1,h2,bj,h4⟩:=hm.box hi
 obtain⟨_,b',yw,wY⟩:=aU hm hx
 rw[h1]at yw
 simp[Hb,hblk]at yw
 subst yw
 obtain⟨c1,c2⟩:=(c8 hm hy).cells hm hk
 obtain⟨e1,e2⟩:=jo hs
 have mS:(a.eval y).cells.size=ti.size:=by rw[c1];exact aJ cM
 have uU:∀v∈(a.eval y).cells.toList,v.oneCell'=true:=by
  intro v hv
  obtain⟨j,hj,R1⟩:=aC.1 hv
  have fg:j < s.cells.length:=by rw[←c1];simpa using hj
  obtain⟨u,hu,h1u,_⟩:=c2 j s.cells[j] (aa fg)
  have:u=v:=by
   have:(a.eval y).cells.toList[j]? =some u:=by simpa using hu
   rw[aa hj,R1]at this
   injection this with this;exact this.symm
  rw[←this];exact h1u
 have dL:=run_storeCells_at (P:=C.P) b off ty (a.eval y).cells.toList 0 vs w h2 (by
  have:=h4.1
  simp at this⊢
  rw[c1,this];exact e2) uU
 have hlen:vs.toList.length=cs.length:=h4.1
 refine .inr ⟨w.setRow b (vs.toList.take (off+0)++(a.eval y).cells.toList++vs.toList.drop (off+0+(a.eval y).cells.toList.length)).toArray,?_,H,Z,?_⟩
 ·simp only[execOp,ho,wY,Instr.storeAt,Instr.sureAddr,storeVar,Sem.run_bind,Sem.run_pure,Result.andThen_ok,hf.sizeOf,mS,ne_eq,not_true,if_false,dL]
 ·rw[hd]
  refine hm.jV (b0:=b) ⟨_,aT hi,rfl⟩ (by rw[h1];rfl) (ll w b _) hm.defers hm.size ?_ (fun p hp=>⟨hp,rfl⟩)
  intro iP gb
  have hp:Pw (fun u c=>u.oneCell'=true∧bS (cU mm) H Z w (cO C H mm) u c) (vs.toList.take off++(a.eval y).cells.toList++vs.toList.drop (off+(a.eval y).cells.toList.length)) r:=by
   rw[e1]
   have hc:Pw (fun u c=>u.oneCell'=true∧bS (cU mm) H Z w (cO C H mm) u c) (a.eval y).cells.toList s.cells:=
    ⟨by simpa using c1,fun j c hc=>by simpa using c2 j c hc⟩
   rw[show(a.eval y).cells.toList.length=s.cells.length by simpa using c1]
   exact((h4.take off).append hc).append (h4.drop _)
  rw[qA]
  refine⟨b,ty,_,h1,setRow_heap w b vs _ ty _ h2,by simpa using hp.1,fun j c hc=>?_⟩
  ·obtain⟨u,hu,Y9,Y8⟩:=hp.2 j c hc
   refine⟨u,by simpa using hu,Y9,Y8.mono (fun k _ hk=>⟨(fT k).2 hk,rfl,rfl⟩) (ll w b _).size ?_ iP⟩
   exact gb
def ga(fs:List (Nat×Nat))(k:Nat):Option Nat:=
 match fs,k with
 |[],_=>none
 |(o,_)::_,0=>some o
 |_::r,k+1=>ga r k
def Af(s:SC)(k:Nat):Option SC:=
 match s with
 |.ptr i off=>some (.ptr i (off+k))
 |.iH i j off=>some (.iH i j (off+k))
 |.iw cs=>match sn cs k with
  |some r=>some (.iw r)
  |none=>none
 |_=>none
theorem Ae{H:Nat→Value}{Z:Nat→Nat}{w:World}{I M:Nat→Prop}{v:Value}{s r:SC}{k:Nat}(h:Af s k=some r)(hr:bS I H Z w M v s):
 ∃ad:Addr,v=.pointer (some ad)∧bS I H Z w M (.pointer (some (ad.add k))) r:=by
 cases s<;>simp only[Af]at h<;>first|(cases h;done)|skip
 ·injection h with h;subst h
  obtain⟨hi,b,hb,hv⟩:=hr
  exact⟨_,hv,hi,b,hb,by rw[jJ]⟩
 ·injection h with h;subst h
  obtain⟨hi,b,hb,hv⟩:=hr
  exact⟨_,hv,hi,b,hb,by rw[jJ,Nat.add_assoc]⟩
 ·split at h
  ·rename_i cs r' hd
   injection h with h;subst h
   obtain⟨ad,hv,h2,h3,h4,h5⟩:=hr
   refine⟨ad,hv,ad.add k,rfl,xT h2 k,by rw[jc];exact h3,by rw[jc];exact h4,fun j c hc=>?_⟩
   rw[lC hd,cf]at hc
   rw[add_add]
   exact h5 _ c hc
  ·cases h
theorem AI{Θ:da}(bt:a8 C.P Θ){t:TypeId}{z cz:Nat}{ag:Bool}{zr:Option (List CT)}{fs:List (Nat×Nat)}{x:Operand}{k off:Nat}{s r:SC}
 (ho:o.op=.fieldAddr t x k)(ht:aP Θ t=some ⟨z,cz,ag,zr,.struct fs⟩)(hx:aQ tm x=some s)(hk:ga fs k=some off)(hr:Af s off=some r)
 (hd:o.dst=some d)(hn:Nat.blt d n=true):
 ea C n o tm mm d (.v (.one r)):=
 ea.val hd hn _ fun H Z a w hm=>by
  obtain⟨inf,de,hf⟩:=gI bt ht
  obtain⟨ad,hv,cC⟩:=Ae hr (aU hm hx)
  have A4:=hf.sh
  cases de<;>simp only[dA]at A4<;>try(cases A4;done)
  rename_i fields
  simp only[av]at A4
  obtain⟨s1,s2⟩:=A4
  have R6:fields.toList.map (fun f=>(f.offset,f.type))=fs:=by simpa using s1
  have fy:∀(l:List (Nat×Nat)) (q:Nat) (o':Nat),ga l q=some o'→∃t',l[q]? =some (o',t'):=by
   intro l
   induction l with
   |nil=>intro q o' h;cases q<;>simp[ga]at h
   |cons p l ih=>
    intro q o' h
    obtain⟨p1,p2⟩:=p
    cases q with
    |zero=>simp[ga]at h;subst h;exact⟨p2,rfl⟩
    |succ q=>simp[ga]at h;simpa using ih q o' h
  obtain⟨t',Ir⟩:=fy fs k off hk
  rw[←R6]at Ir
  simp at Ir
  obtain⟨f,LD,OQ,UO⟩:=Ir
  have Fp:C.P.cellsOf f.type≠0:=by
   have:=Array.all_eq_true.1 s2
   obtain⟨bj,Xd⟩:=bd.1 LD
   have:=this k bj
   rw[Xd]at this
   simpa using this
  have Fk:(fieldPlace ad f).run C.P w=.ok (ad.add f.offset) w:=by
   unfold fieldPlace
   unfold Program.cellsOf at Fp
   cases hq:C.P.info? f.type with
   |none=>rw[hq]at Fp;simp at Fp
   |some jn=>
    rw[hq]at Fp
    simp at Fp
    simp[sizeOf,typeInfo,hq,Fp]
  refine⟨.pointer (some (ad.add off)),?_,cC⟩
  simp[execOp,ho,hv,Instr.fieldAt,hf.underlying,LD,Instr.sureAddr,Fk,OQ]
def rb(tm:TM):List Operand→Option (List Nat)
 |[]=>some []
 |x::r=>match aQ tm x with
  |some (.ptr i 0)=>match rb tm r with
   |some is=>some (i::is)
   |none=>none
  |_=>none
theorem Cn{f:FuncId}{c7:Array Operand}{ids:List Nat}(ho:o.op=.makeFunc (.func f) #[] c7)
 (hc:rb tm c7.toList=some ids)(hb:ids.all (fun i=>match getM mm i with|some (.box _)=>true|_=>false)=true)(hd:o.dst=some d)(hn:Nat.blt d n=true):
 ea C n o tm mm d (.v (.one (.kD f ids))):=
 ea.val hd hn _ fun H Z a w hm=>by
  have key:∀(l:List Operand) (is:List Nat),rb tm l=some is→(∀i∈is,(match getM mm i with|some (.box _)=>true|_=>false)=true)→
   (∀i∈is,cU mm i)∧(l.map a.eval).length=is.length∧∀(j i:Nat),is[j]? =some i→(l.map a.eval)[j]? =some (H i):=by
   intro l
   induction l with
   |nil=>intro is h _;simp[rb]at h;subst h;simp
   |cons x r ih=>
    intro is h Tz
    unfold rb at h
    split at h
    ·rename_i i hx
     split at h
     ·rename_i YR mT
      injection h with h;subst h
      obtain⟨k1,k2,k3⟩:=ih YR mT (fun q hq=>Tz q (ab _ hq))
      obtain⟨hi,b,x7,hv⟩:=aU hm hx
      have Yp:=Tz i ah
      split at Yp
      ·rename_i cs hg
       obtain⟨b',ty,vs,g1,_⟩:=hm.box hg
       rw[g1]at x7
       simp[Hb,hblk]at x7
       subst x7
       refine⟨fun q hq=>?_,by simpa using k2,fun j q hj=>?_⟩
       ·rcases ae.1 hq with rfl|hq
        ·exact hi
        ·exact k1 q hq
       ·cases j with
        |zero=>simp at hj;subst hj;simp[g1,hv]
        |succ j=>simp at hj;simpa using k3 j q hj
      ·cases Yp
     ·cases h
    ·cases h
  obtain⟨k1,k2,k3⟩:=key c7.toList ids hc (a7.1 hb)
  refine⟨.func (.func f) #[] (c7.map a.eval),by simp[execOp,ho,Instr.makeFunc],k1,c7.toList.map a.eval,by simp[←cF],k2,k3⟩
theorem EJ{t:TypeId}(ho:o.op=.makeMap t none)(hi:getM mm d=none)(hd:o.dst=some d)(hn:Nat.blt d n=true):
 xX C n o tm mm ((d,.v (.one (.mp d)))::bo tm d) ((d,.fw [])::mm):=by
 intro a w ⟨H,Z,hm⟩
 refine .inl ⟨.map (some w.heap.size),w.alloc (.map #[] 0),by simp[execOp,ho,Instr.makeMap,newObj,Sem.run],Sy.jV H d (.map (some w.heap.size)),Sy.jV Z d 0,?_⟩
 rw[hd]
 refine hm.add (i:=d) (hv:=.map (some w.heap.size)) (z:=0) (o:=.fw []) (getM_none hi) (a6.mp hn) J (ft w _) ?_ ?_ ?_
 ·intro b hb
  simp[Hb,hblk]at hb
  subst hb
  exact⟨ay _,by show _ < (w.heap.push _).size;rw[jl];omega⟩
 ·intro _ _
  exact⟨w.heap.size,#[],0,bm _ _ _,tO w _,rfl,fun j p hp=>by simp at hp⟩
 ·exact⟨⟨_,ah,rfl⟩,(bm _ _ _).symm⟩
def wT(mm:MM):SC→Option Int
 |.c .bA=>some 0
 |.c (.slice _ _ xs)=>some (xs.length:Int)
 |.own i=>match getM mm i with
  |some (.arr _ _ _ xs)=>some (xs.length:Int)
  |_=>none
 |_=>none
theorem AH{Θ:da}(bt:a8 C.P Θ){t:TypeId}{z cz e:Nat}{ag:Bool}{zr:Option (List CT)}{x:Operand}{s:SC}{m:Int}
 (ho:o.op=.call {callee:=.builtin .len,args:=#[x],argTypes:=#[t]})(ht:aP Θ t=some ⟨z,cz,ag,zr,.slice e⟩)
 (hx:aQ tm x=some s)(hm:wT mm s=some m)(hd:o.dst=some d)(hn:Nat.blt d n=true):
 ea C n o tm mm d (.v (.one (.c (.int .i64 m)))):=
 ea.val hd hn _ fun H Z a w dh=>by
  obtain⟨inf,de,hf⟩:=gI bt ht
  have jL:de=.slice e:=by
   have:=hf.sh
   cases de<;>simp[dA]at this⊢
   exact this
  subst jL
  have hr:=aU dh hx
  have Fh:∃(ad:Option Addr) (l c:Nat),a.eval x=.slice ad l c∧(l:Int)=m:=by
   cases s<;>simp only[wT]at hm<;>try(cases hm;done)
   ·rename_i ct
    cases ct<;>simp only at hm<;>try(cases hm;done)
    ·injection hm with hm;subst hm
     exact⟨none,0,0,aV.jy hr,rfl⟩
    ·injection hm with hm;subst hm
     have gL:aV w (cO C H mm) (a.eval x) _:=hr
     generalize a.eval x=v at gL
     cases gL with
     |slice u hlen=>exact⟨_,_,_,rfl,by rw[hlen]⟩
   ·split at hm
    ·rename_i i nn e' sz xs hg
     injection hm with hm;subst hm
     obtain⟨_,us,g1,_⟩:=dh.mem _ (aT hg)
     obtain⟨_,hv⟩:=hr
     rcases g1.2 with⟨hh,hz⟩|⟨g,cap,cur,hh,_⟩
     ·rw[hh]at hv;exact⟨_,_,_,hv,by rw[hz]⟩
     ·rw[hh]at hv;exact⟨_,_,_,hv,rfl⟩
    ·cases hm
  obtain⟨ad,l,c,hv,hl⟩:=Fh
  refine⟨.int .i64 m,?_,.int _ _⟩
  simp[execOp,ho,resolve,invoke,builtin,Builtin.len_,hf.underlying,hv,goInt,hl]
theorem EN{Θ:da}(bt:a8 C.P Θ){t:TypeId}{z cz:Nat}{ag:Bool}{zr:Option (List CT)}{x:Operand}{s:ByteArray}
 (ho:o.op=.call {callee:=.builtin .len,args:=#[x],argTypes:=#[t]})(ht:aP Θ t=some ⟨z,cz,ag,zr,.string⟩)
 (hx:aQ tm x=some (.c (.str s)))(hd:o.dst=some d)(hn:Nat.blt d n=true):
 ea C n o tm mm d (.v (.one (.c (.int .i64 (s.size:Int))))):=
 ea.val hd hn _ fun H Z a w dh=>by
  obtain⟨inf,de,hf⟩:=gI bt ht
  have jL:de=.string:=by
   have:=hf.sh
   cases de<;>simp[dA]at this⊢
  subst jL
  have hv:a.eval x=.string s:=aV.fR (aU dh hx)
  refine⟨.int .i64 (s.size:Int),?_,.int _ _⟩
  simp[execOp,ho,resolve,invoke,builtin,Builtin.len_,hf.underlying,hv,goInt]
theorem EO{Θ:da}(bt:a8 C.P Θ){t:TypeId}{z cz k e:Nat}{ag:Bool}{zr:Option (List CT)}{x:Operand}{i:Nat}{es:List (FV×FV)}
 (ho:o.op=.call {callee:=.builtin .len,args:=#[x],argTypes:=#[t]})(ht:aP Θ t=some ⟨z,cz,ag,zr,.map k e⟩)
 (hx:aQ tm x=some (.mp i))(hi:getM mm i=some (.fw es))(hd:o.dst=some d)(hn:Nat.blt d n=true):
 ea C n o tm mm d (.v (.one (.c (.int .i64 (es.length:Int))))):=
 ea.val hd hn _ fun H Z a w dh=>by
  obtain⟨inf,de,hf⟩:=gI bt ht
  have jL:de=.map k e:=by
   have:=hf.sh
   cases de<;>simp[dA]at this⊢
   exact this
  subst jL
  obtain⟨r,ens,ck,h1,h2,h3,_⟩:=dh.mem _ (aT hi)
  obtain⟨_,hv⟩:=aU dh hx
  rw[h1]at hv
  refine⟨.int .i64 (es.length:Int),?_,.int _ _⟩
  simp[execOp,ho,resolve,invoke,builtin,Builtin.len_,hf.underlying,hv,goInt,getObj,Sem.run,h2,h3]
theorem Rf{x y:Operand}{k:IntKind}{p q:Int}{ts:Array TypeId}(ho:o.op=.call {callee:=.builtin .min,args:=#[x,y],argTypes:=ts})
 (hx:aQ tm x=some (.c (.int k p)))(hy:aQ tm y=some (.c (.int k q)))(hd:o.dst=some d)(hn:Nat.blt d n=true):
 ea C n o tm mm d (.v (.one (.c (.int k (min p q))))):=
 ea.val hd hn _ fun H Z a w hm=>by
  have h1:a.eval x=.int k p:=aV.cA (aU hm hx)
  have h2:a.eval y=.int k q:=aV.cA (aU hm hy)
  refine⟨.int k (min p q),?_,.int _ _⟩
  have:(if q < p then q else p)=min p q:=by rw[Int.min_def];split<;>split<;>omega
  simp[execOp,ho,resolve,invoke,builtin,Builtin.min_,h1,h2,Builtin.min2,this]
theorem Rg{x y:Operand}{k:IntKind}{p q:Int}{ts:Array TypeId}(ho:o.op=.call {callee:=.builtin .max,args:=#[x,y],argTypes:=ts})
 (hx:aQ tm x=some (.c (.int k p)))(hy:aQ tm y=some (.c (.int k q)))(hd:o.dst=some d)(hn:Nat.blt d n=true):
 ea C n o tm mm d (.v (.one (.c (.int k (max p q))))):=
 ea.val hd hn _ fun H Z a w hm=>by
  have h1:a.eval x=.int k p:=aV.cA (aU hm hx)
  have h2:a.eval y=.int k q:=aV.cA (aU hm hy)
  refine⟨.int k (max p q),?_,.int _ _⟩
  have:(if p < q then q else p)=max p q:=by rw[Int.max_def];split<;>split<;>omega
  simp[execOp,ho,resolve,invoke,builtin,Builtin.max_,h1,h2,Builtin.max2,this]
end
end Go.Sy
namespace Go.Sy
open Go.RowKit
theorem sg(off:Nat):∀(l:List Value) (k:Nat) (cells:Array Value),off+k+l.length≤cells.size→
 ((l.zipIdx k).foldl (fun cs (p:Value×Nat)=>cs.setIfInBounds (off+p.2) p.1) cells).toList=cells.toList.take (off+k)++l++cells.toList.drop (off+k+l.length)
 |[],k,cells,_=>by simp
 |v::l,k,cells,h=>by
  simp only[List.zipIdx_cons,cJ]
  rw[sg off l (k+1) (cells.setIfInBounds (off+k) v) (by simp at h⊢;omega)]
  have bj:off+k < cells.toList.length:=by simp at h⊢;omega
  simp only[Array.toList_setIfInBounds]
  apply eh
  intro j
  simp only[bX,bU,cf,au,aO,gO,cd,cv,List.getElem?_cons]
  simp at bj h
  by_cases h1:j < off+k
  ·have h2:off+k≠j:=by omega
   simp[h1,h2,show j < off+(k+1) by omega,show j < min (off+(k+1)) cells.size by omega,show j < min (off+k) cells.size by omega,
    show j < min (off+(k+1)) cells.size+l.length by omega,show j < min (off+k) cells.size+(l.length+1) by omega]
  ·by_cases h2:j=off+k
   ·subst h2
    simp[bj,show off+k < min (off+(k+1)) cells.size by omega,show ¬off+k < min (off+k) cells.size by omega,
     show off+k < min (off+(k+1)) cells.size+l.length by omega,show off+k < min (off+k) cells.size+(l.length+1) by omega,
     show off+k < off+(k+1) by omega,show off+k - min (off+k) cells.size=0 by omega]
   ·have h4:¬j < min (off+(k+1)) cells.size:=by omega
    have h5:¬j < min (off+k) cells.size:=by omega
    by_cases h6:j < off+k+(l.length+1)
    ·simp[h4,h5,show j < min (off+(k+1)) cells.size+l.length by omega,show j < min (off+k) cells.size+(l.length+1) by omega,
      show j - min (off+k) cells.size≠0 by omega]
     congr 1
     omega
    ·simp[show ¬j < min (off+(k+1)) cells.size+l.length by omega,show ¬j < min (off+k) cells.size+(l.length+1) by omega]
     rw[if_neg (by omega)]
     congr 1
     omega
theorem IK(place:Nat→Option (Nat×Nat))(cells:Array Value)(i:Nat)(v:Value)(rest:List (Nat×Value)){off size:Nat}
 (hp:place i=some (off,size))(hs:v.cells.size=size)(hb:off+size≤cells.size):
 Instr.fill place cells ((i,v)::rest)=
  Instr.fill place (cells.toList.take off++v.cells.toList++cells.toList.drop (off+v.cells.toList.length)).toArray rest:=by
 conv=>lhs;unfold Instr.fill
 simp only[hp]
 rw[if_neg (by simp[hs];omega)]
 congr 1
 have h:=sg off v.cells.toList 0 cells (by simp[hs];omega)
 simp only[qA]at h
 rw[←h]
 simp only[←Array.foldl_toList,Array.toList_zipIdx]
def nL(place:Nat→Option (Nat×Nat))(tm:TM):List SC→List (Nat×Operand)→Option (List SC)
 |cells,[]=>some cells
 |cells,(i,x)::r=>
  match place i with
  |some (off,size)=>
   match cx tm x with
   |some s=>
    match Nat.beq s.cells.length size with
    |true=>
     match s.cells.all SC.known with
     |true=>
      match gl cells off s.cells with
      |some c'=>nL place tm c' r
      |none=>none
     |false=>none
    |false=>none
   |none=>none
  |none=>none
section
variable {C:Ctx} {n:Nat} {tm:TM} {mm:MM} {o:Oper} {d:Nat}
theorem j5{H:Nat→Value}{Z:Nat→Nat}{a:Act}{w:World}(hm:Mod C H Z n tm mm a w)(place:Nat→Option (Nat×Nat)):
 ∀(parts:List (Nat×Operand)) (cells:List SC) (vs:Array Value) (r:List SC),
  Pw (fun u c=>u.oneCell'=true∧bS (cU mm) H Z w (cO C H mm) u c) vs.toList cells→nL place tm cells parts=some r→
  ∃lK:Array Value,Instr.fill place vs (parts.map fun p=>(p.1,a.eval p.2))=some lK∧Pw (fun u c=>u.oneCell'=true∧bS (cU mm) H Z w (cO C H mm) u c) lK.toList r
 |[],cells,vs,r,hp,h=>by
  simp[nL]at h;subst h
  exact⟨vs,rfl,hp⟩
 |(i,x)::parts,cells,vs,r,hp,h=>by
  unfold nL at h
  split at h
  ·rename_i off size mA
   split at h
   ·rename_i s hs
    split at h
    ·rename_i cM
     split at h
     ·rename_i hk
      split at h
      ·rename_i c' vq
       obtain⟨e1,e2⟩:=(c8 hm hs).cells hm hk
       obtain⟨f1,f2⟩:=jo vq
       have hlen:s.cells.length=size:=aJ cM
       have Uh:vs.size=cells.length:=by simpa using hp.1
       have hc:Pw (fun u c=>u.oneCell'=true∧bS (cU mm) H Z w (cO C H mm) u c) (a.eval x).cells.toList s.cells:=
        ⟨by simpa using e1,fun j c hc=>by simpa using e2 j c hc⟩
       obtain⟨lK,g1,g2⟩:=j5 hm place parts c' (vs.toList.take off++(a.eval x).cells.toList++vs.toList.drop (off+(a.eval x).cells.toList.length)).toArray r (by
        rw[f1,show(a.eval x).cells.toList.length=s.cells.length by simpa using e1]
        exact((hp.take off).append hc).append (hp.drop _)) h
       refine⟨lK,?_,g2⟩
       rw[bN,IK place vs i (a.eval x) _ mA (by rw[e1,hlen]) (by rw[Uh,←hlen];exact f2)]
       exact g1
      ·cases h
     ·cases h
    ·cases h
   ·cases h
  ·cases h
def eC(Θ:da)(fs:List (Nat×Nat))(i:Nat):Option (Nat×Nat):=
 match fs,i with
 |[],_=>none
 |(o,t)::_,0=>match aP Θ t with
  |some ti=>some (o,ti.size)
  |none=>none
 |_::r,k+1=>eC Θ r k
theorem jY{Θ:da}:∀{fs:List (Nat×Nat)} {i:Nat} {p:Nat×Nat},eC Θ fs i=some p→∃t ti,fs[i]? =some (p.1,t)∧aP Θ t=some ti∧p.2=ti.size
 |[],i,p,h=>by cases i<;>simp[eC]at h
 |(o,t)::r,0,p,h=>by
  unfold eC at h
  split at h
  ·rename_i ti Ul
   injection h with h;subst h
   exact⟨t,ti,rfl,Ul,rfl⟩
  ·cases h
 |q::r,k+1,p,h=>by
  unfold eC at h
  simpa using jY h
theorem wK{P:Program}{w:World}(fields:List Field)(gf:∀f∈fields,P.cellsOf f.type≠0):
 (fields.mapM (m:=Sem) fun f=>do pure (f.offset,←sizeOf f.type)).run P w=.ok (fields.map fun f=>(f.offset,P.cellsOf f.type)) w:=by
 induction fields with
 |nil=>simp
 |cons f r ih=>
  have h1:(sizeOf f.type).run P w=.ok (P.cellsOf f.type) w:=by
   have:=gf f ah
   unfold Program.cellsOf at this⊢
   cases hq:P.info? f.type with
   |none=>rw[hq]at this;simp at this
   |some inf=>simp[sizeOf,typeInfo,hq]
  rw[List.mapM_cons]
  simp only[Sem.run_bind,h1,Result.andThen_ok,Sem.run_pure,ih (fun g hg=>gf g (ab _ hg)),bN]
theorem q8(p q:Nat→Option (Nat×Nat)):∀(parts:List (Nat×Value)) (cells:Array Value),(∀x∈parts,p x.1=q x.1)→Instr.fill p cells parts=Instr.fill q cells parts
 |[],_,_=>rfl
 |(i,v)::r,cells,h=>by
  have e:p i=q i:=h (i,v) ah
  simp only[Instr.fill,e]
  cases q i with
  |none=>rfl
  |some os=>
   obtain⟨off,size⟩:=os
   simp only
   split
   ·rfl
   ·exact q8 p q r _ (fun x hx=>h x (ab _ hx))
theorem oP{place:Nat→Option (Nat×Nat)}:∀{parts:List (Nat×Operand)} {cells r:List SC},nL place tm cells parts=some r→∀x∈parts,(place x.1).isSome=true
 |[],_,_,_,x,hx=>by simp at hx
 |(i,y)::parts,cells,r,h,x,hx=>by
  unfold nL at h
  split at h
  ·rename_i off size mA
   split at h
   ·split at h
    ·split at h
     ·split at h
      ·rcases ae.1 hx with rfl|hx
       ·simp[mA]
       ·exact oP h x hx
      ·cases h
     ·cases h
    ·cases h
   ·cases h
  ·cases h
theorem uO{Θ:da}(bt:a8 C.P Θ){t:TypeId}{z cz:Nat}{zr:List CT}{fs:List (Nat×Nat)}{parts:Array (Nat×Operand)}{r:List SC}
 (ho:o.op=.build t parts)(ht:aP Θ t=some ⟨z,cz,true,some zr,.struct fs⟩)(hl:nL (eC Θ fs) tm (qd.rZ SC.c zr) parts.toList=some r)
 (hd:o.dst=some d)(hn:Nat.blt d n=true):
 ea C n o tm mm d (.v (.agg r)):=
 ea.val hd hn _ fun H Z a w hm=>by
  obtain⟨inf,de,hf⟩:=gI bt ht
  obtain⟨zv,hz,qe,BD⟩:=hf.zero zr J
  obtain⟨h1,h2⟩:=e8 (w:=w) (M:=cO C H mm) qe
  have hp:Pw (fun u c=>u.oneCell'=true∧bS (cU mm) H Z w (cO C H mm) u c) zv.cells.toList (qd.rZ SC.c zr):=by
   rw[l7]
   refine Pw.map.2 ⟨by simpa using h1,fun j c hc=>?_⟩
   obtain⟨u,hu,hr⟩:=h2 j c hc
   exact⟨u,by simpa using hu,hr.one,hr⟩
  obtain⟨lK,g1,g2⟩:=j5 hm (eC Θ fs) parts.toList _ _ r hp hl
  have A4:=hf.sh
  cases de<;>simp only[dA]at A4<;>try(cases A4;done)
  rename_i fields
  simp only[av]at A4
  obtain⟨s1,s2⟩:=A4
  have R6:fields.toList.map (fun f=>(f.offset,f.type))=fs:=by simpa using s1
  have gf:∀f∈fields.toList,C.P.cellsOf f.type≠0:=by
   intro f fK
   have:=Array.all_eq_true_iff_forall_mem.1 s2 f (by simpa using fK)
   simpa using this
  have qY:(fields.mapM (m:=Sem) fun f=>do pure (f.offset,←sizeOf f.type)).run C.P w=.ok (fields.map fun f=>(f.offset,C.P.cellsOf f.type)) w:=by
   have:=wK (P:=C.P) (w:=w) fields.toList gf
   rw[sG]
   simp only[Sem.run_map,this,Result.andThen_ok,cF]
   simp[←cF]
  refine⟨.agg lK,?_,?_⟩
  ·have iX:Instr.fill (fun i=>(fields.map fun f=>(f.offset,C.P.cellsOf f.type))[i]?) zv.cells (parts.map fun(i,x)=>(i,a.eval x)).toList=some lK:=by
    rw[←g1,kG]
    refine q8 _ _ _ _ ?_
    intro x hx
    obtain⟨y,hy,rfl⟩:=aL.1 hx
    have Lc:=oP hl y hy
    obtain⟨p,sa⟩:=lj.1 Lc
    obtain⟨t',ti,k1,k2,k3⟩:=jY sa
    simp only[sa]
    rw[←R6]at k1
    simp at k1
    obtain⟨f,LD,OQ,UO⟩:=k1
    obtain⟨jK,qw,fK⟩:=gI bt k2
    have Xp:C.P.cellsOf f.type=ti.size:=by
     unfold Program.cellsOf
     rw[UO,fK.info]
     simp[fK.size]
    have:p=(f.offset,ti.size):=by rw[OQ,←k3]
    simp[LD,Xp,this]
   simp only[execOp,ho,Instr.build,Sem.run_bind,hf.zeroValue hz,Result.andThen_ok,hf.underlying,qY,iX,Sem.run_pure]
  ·refine⟨lK,rfl,by simpa using g2.1,fun j c hc=>?_⟩
   obtain⟨u,hu,_,hr⟩:=g2.2 j c hc
   exact⟨u,by simpa using hu,hr⟩
theorem wm{Θ:da}(bt:a8 C.P Θ){t:TypeId}{z cz len e:Nat}{zr:List CT}{parts:Array (Nat×Operand)}{r:List SC}{ei:fN}
 (ho:o.op=.build t parts)(ht:aP Θ t=some ⟨z,cz,true,some zr,.arr len e⟩)(dO:aP Θ e=some ei)
 (hl:nL (fun i=>some (i * ei.size,ei.size)) tm (qd.rZ SC.c zr) parts.toList=some r)
 (hd:o.dst=some d)(hn:Nat.blt d n=true):
 ea C n o tm mm d (.v (.agg r)):=
 ea.val hd hn _ fun H Z a w hm=>by
  obtain⟨inf,de,hf⟩:=gI bt ht
  obtain⟨jK,qw,fK⟩:=gI bt dO
  obtain⟨zv,hz,qe,BD⟩:=hf.zero zr J
  obtain⟨h1,h2⟩:=e8 (w:=w) (M:=cO C H mm) qe
  have hp:Pw (fun u c=>u.oneCell'=true∧bS (cU mm) H Z w (cO C H mm) u c) zv.cells.toList (qd.rZ SC.c zr):=by
   rw[l7]
   refine Pw.map.2 ⟨by simpa using h1,fun j c hc=>?_⟩
   obtain⟨u,hu,hr⟩:=h2 j c hc
   exact⟨u,by simpa using hu,hr.one,hr⟩
  obtain⟨lK,g1,g2⟩:=j5 hm _ parts.toList _ _ r hp hl
  have jL:de=.array len e:=by
   have:=hf.sh
   cases de<;>simp[dA]at this⊢
   exact this
  subst jL
  refine⟨.agg lK,?_,?_⟩
  ·have iX:Instr.fill (fun i=>some (i * ei.size,ei.size)) zv.cells (parts.map fun(i,x)=>(i,a.eval x)).toList=some lK:=by
    rw[←g1,kG]
   simp only[execOp,ho,Instr.build,Sem.run_bind,hf.zeroValue hz,Result.andThen_ok,hf.underlying,fK.sizeOf,iX,Sem.run_pure]
  ·refine⟨lK,rfl,by simpa using g2.1,fun j c hc=>?_⟩
   obtain⟨u,hu,_,hr⟩:=g2.2 j c hc
   exact⟨u,by simpa using hu,hr⟩
end
end Go.Sy
namespace Go.Sy
open Go.RowKit
def tn:List Nat→Nat→Bool
 |[],_=>false
 |j::r,i=>match Nat.beq j i with
  |true=>true
  |false=>tn r i
theorem pS{i:Nat}:∀{l:List Nat},tn l i=false→i∉l
 |[],_=>by simp
 |j::r,h=>by
  unfold tn at h
  cases hb:Nat.beq j i with
  |true=>rw[hb]at h;cases h
  |false=>
   rw[hb]at h
   intro hm
   rcases ae.1 hm with rfl|hm
   ·simp at hb
   ·exact pS h hm
def SC.sub(s:SC)(i:Nat)(r:SC):SC:=
 match s with
 |.own j=>match Nat.beq j i with|true=>r|false=>.own j
 |.ptr j o=>match Nat.beq j i with|true=>.any|false=>.ptr j o
 |.iH j k o=>match Nat.beq j i with|true=>.any|false=>.iH j k o
 |.mp j=>match Nat.beq j i with|true=>.any|false=>.mp j
 |.u5 j n=>match Nat.beq j i with|true=>.any|false=>.u5 j n
 |.kD f c7=>match tn c7 i with|true=>.any|false=>.kD f c7
 |.c x=>.c x
 |.lit b=>.lit b
 |.iw cs=>.iw cs
 |.any=>.any
theorem SC.iA{i:Nat}{r:SC}(hr:r.bw=[])(s:SC):(∀j∈(s.sub i r).bw,j∈s.bw∧j≠i):=by
 intro j hj
 cases s with
 |own k=>
  simp only[SC.sub]at hj
  cases hb:Nat.beq k i with
  |true=>rw[hb]at hj;simp only[hr]at hj;cases hj
  |false=>rw[hb]at hj;simp[SC.bw]at hj⊢;subst hj;exact⟨rfl,fun e=>by subst e;simp at hb⟩
 |ptr k o=>
  simp only[SC.sub]at hj
  cases hb:Nat.beq k i with
  |true=>rw[hb]at hj;simp[SC.bw]at hj
  |false=>rw[hb]at hj;simp[SC.bw]at hj⊢;subst hj;exact⟨rfl,fun e=>by subst e;simp at hb⟩
 |iH k q o=>
  simp only[SC.sub]at hj
  cases hb:Nat.beq k i with
  |true=>rw[hb]at hj;simp[SC.bw]at hj
  |false=>rw[hb]at hj;simp[SC.bw]at hj⊢;subst hj;exact⟨rfl,fun e=>by subst e;simp at hb⟩
 |mp k=>
  simp only[SC.sub]at hj
  cases hb:Nat.beq k i with
  |true=>rw[hb]at hj;simp[SC.bw]at hj
  |false=>rw[hb]at hj;simp[SC.bw]at hj⊢;subst hj;exact⟨rfl,fun e=>by subst e;simp at hb⟩
 |u5 k n=>
  simp only[SC.sub]at hj
  cases hb:Nat.beq k i with
  |true=>rw[hb]at hj;simp[SC.bw]at hj
  |false=>rw[hb]at hj;simp[SC.bw]at hj⊢;subst hj;exact⟨rfl,fun e=>by subst e;simp at hb⟩
 |kD f c7=>
  simp only[SC.sub]at hj
  cases hb:tn c7 i with
  |true=>rw[hb]at hj;simp[SC.bw]at hj
  |false=>rw[hb]at hj;simp[SC.bw]at hj⊢;exact⟨hj,fun e=>pS hb (e▸hj)⟩
 |c x=>simp[SC.sub,SC.bw]at hj
 |lit b=>simp[SC.sub,SC.bw]at hj
 |iw cs=>simp[SC.sub,SC.bw]at hj
 |any=>simp[SC.sub,SC.bw]at hj
theorem bS.sub{I:Nat→Prop}{H:Nat→Value}{Z:Nat→Nat}{w:World}{M:Nat→Prop}{v:Value}{s:SC}{i:Nat}{r:SC}
 (h:bS I H Z w M v s)(hr:v=H i→bS I H Z w M v r):bS I H Z w M v (s.sub i r):=by
 cases s with
 |own k=>
  simp only[SC.sub]
  cases hb:Nat.beq k i with
  |true=>
   have:k=i:=aJ hb
   subst this
   exact hr h.2
  |false=>exact h
 |ptr k o=>simp only[SC.sub];cases Nat.beq k i<;>first|exact h|trivial
 |iH k q o=>simp only[SC.sub];cases Nat.beq k i<;>first|exact h|trivial
 |mp k=>simp only[SC.sub];cases Nat.beq k i<;>first|exact h|trivial
 |u5 k n=>simp only[SC.sub];cases Nat.beq k i<;>first|exact h|trivial
 |kD f c7=>simp only[SC.sub];cases tn c7 i<;>first|exact h|trivial
 |c x=>exact h
 |lit b=>exact h
 |iw cs=>exact h
 |any=>trivial
def rK(i:Nat)(r:SC):List SC→List SC
 |[]=>[]
 |s::l=>s.sub i r::rK i r l
theorem rJ(i:Nat)(r:SC)(l:List SC):rK i r l=l.map (fun s=>SC.sub s i r):=by
 induction l with
 |nil=>rfl
 |cons a l ih=>simp[rK,ih]
def SV.sub(i:Nat)(r:SC):SV→SV
 |.one s=>.one (s.sub i r)
 |.agg xs=>.agg (rK i r xs)
def qI(i:Nat)(r:SC):List SV→List SV
 |[]=>[]
 |s::l=>s.sub i r::qI i r l
theorem yP(i:Nat)(r:SC)(l:List SV):qI i r l=l.map (SV.sub i r):=by
 induction l with
 |nil=>rfl
 |cons a l ih=>simp[qI,ih]
def ST.sub(i:Nat)(r:SC):ST→ST
 |.v s=>.v (s.sub i r)
 |.fo xs=>.fo (qI i r xs)
def MO.sub(i:Nat)(r:SC):MO→MO
 |.box cs=>.box (rK i r cs)
 |.arr nn e sz xs=>.arr nn e sz xs
 |.fw es=>.fw es
 |.bF e sz qs=>.bF e sz qs
def uL(i:Nat)(r:SC):TM→TM
 |[]=>[]
 |(t,s)::l=>(t,s.sub i r)::uL i r l
theorem vH{i:Nat}{r:SC}{p:Nat×ST}:∀{tm:TM},p∈uL i r tm→∃q∈tm,q.1=p.1∧p.2=q.2.sub i r
 |[],h=>by simp[uL]at h
 |(t,s)::l,h=>by
  unfold uL at h
  rcases ae.1 h with rfl|h
  ·exact⟨_,ah,rfl,rfl⟩
  ·obtain⟨q,hq,e⟩:=vH h
   exact⟨q,ab _ hq,e⟩
def im(i:Nat)(r:SC):MM→MM
 |[]=>[]
 |(t,o)::l=>match Nat.beq t i with
  |true=>im i r l
  |false=>(t,o.sub i r)::im i r l
theorem fU{i:Nat}{r:SC}{p:Nat×MO}:∀{mm:MM},p∈im i r mm→∃q∈mm,q.1=p.1∧p.2=q.2.sub i r∧q.1≠i
 |[],h=>by simp[im]at h
 |(t,s)::l,h=>by
  unfold im at h
  cases hb:Nat.beq t i with
  |true=>
   rw[hb]at h
   obtain⟨q,hq,e⟩:=fU h
   exact⟨q,ab _ hq,e⟩
  |false=>
   rw[hb]at h
   rcases ae.1 h with rfl|h
   ·exact⟨_,ah,rfl,rfl,fun e=>by rw[show t=i from e]at hb;simp at hb⟩
   ·obtain⟨q,hq,e⟩:=fU h
    exact⟨q,ab _ hq,e⟩
theorem rI{i:Nat}{r:SC}{j:Nat}(hj:j≠i):∀{mm:MM},cU mm j→cU (im i r mm) j
 |[],h=>by obtain⟨p,hp,_⟩:=h;simp at hp
 |(t,s)::l,h=>by
  obtain⟨p,hp,he⟩:=h
  unfold im
  cases hb:Nat.beq t i with
  |true=>
   rcases ae.1 hp with rfl|hp
   ·exact absurd (he.symm.trans (aJ hb)) hj
   ·exact rI hj ⟨p,hp,he⟩
  |false=>
   rcases ae.1 hp with rfl|hp
   ·exact⟨_,ah,he⟩
   ·obtain⟨q,hq,A5⟩:=rI (r:=r) hj ⟨p,hp,he⟩
    exact⟨q,ab _ hq,A5⟩
section
variable {I I':Nat→Prop} {H:Nat→Value} {Z:Nat→Nat} {w:World} {M M':Nat→Prop} {i:Nat} {r:SC}
theorem bS.uM{v:Value}{s:SC}(h:bS I H Z w M v s)(D9:r.bw=[])(hr:v=H i→bS I' H Z w M' v r)
 (hI:∀j,j≠i→I j→I' j)(hM:∀b,b < w.heap.size→M' b→M b):bS I' H Z w M' v (s.sub i r):=by
 cases s with
 |own k=>
  simp only[SC.sub]
  cases hb:Nat.beq k i with
  |true=>
   have:k=i:=aJ hb
   subst this
   exact hr h.2
  |false=>exact h.mono (fun j hj Dq=>⟨hI j (by simp[SC.bw]at hj;subst hj;intro e;subst e;simp at hb) Dq,rfl,rfl⟩) (ay _) (fun _ _ _=>rfl) hM
 |ptr k o=>
  simp only[SC.sub]
  cases hb:Nat.beq k i with
  |true=>trivial
  |false=>exact h.mono (fun j hj Dq=>⟨hI j (by simp[SC.bw]at hj;subst hj;intro e;subst e;simp at hb) Dq,rfl,rfl⟩) (ay _) (fun _ _ _=>rfl) hM
 |iH k q o=>
  simp only[SC.sub]
  cases hb:Nat.beq k i with
  |true=>trivial
  |false=>exact h.mono (fun j hj Dq=>⟨hI j (by simp[SC.bw]at hj;subst hj;intro e;subst e;simp at hb) Dq,rfl,rfl⟩) (ay _) (fun _ _ _=>rfl) hM
 |u5 k n=>
  simp only[SC.sub]
  cases hb:Nat.beq k i with
  |true=>trivial
  |false=>exact h.mono (fun j hj Dq=>⟨hI j (by simp[SC.bw]at hj;subst hj;intro e;subst e;simp at hb) Dq,rfl,rfl⟩) (ay _) (fun _ _ _=>rfl) hM
 |mp k=>
  simp only[SC.sub]
  cases hb:Nat.beq k i with
  |true=>trivial
  |false=>exact h.mono (fun j hj Dq=>⟨hI j (by simp[SC.bw]at hj;subst hj;intro e;subst e;simp at hb) Dq,rfl,rfl⟩) (ay _) (fun _ _ _=>rfl) hM
 |kD f c7=>
  simp only[SC.sub]
  cases hb:tn c7 i with
  |true=>trivial
  |false=>exact h.mono (fun j hj Dq=>⟨hI j (fun e=>pS hb (e▸hj)) Dq,rfl,rfl⟩) (ay _) (fun _ _ _=>rfl) hM
 |c x=>exact aV.mono h (ay _) (fun _ _ _=>rfl) hM
 |lit b=>exact h
 |iw cs=>exact bS.mono (x:=.iw cs) h (fun j hj _=>by simp[SC.bw]at hj) (ay _) (fun _ _ _=>rfl) hM
 |any=>trivial
theorem cu.uM{v:Value}{s:SV}(h:cu I H Z w M v s)(D9:r.bw=[])(hr:∀v,v=H i→bS I' H Z w M' v r)
 (hI:∀j,j≠i→I j→I' j)(hM:∀b,b < w.heap.size→M' b→M b):cu I' H Z w M' v (s.sub i r):=by
 cases s with
 |one s=>exact bS.uM h D9 (hr v) hI hM
 |agg xs=>
  obtain⟨vs,h1,h2,h3⟩:=h
  simp only[SV.sub,rJ]
  refine⟨vs,h1,by simpa using h2,fun j c hc=>?_⟩
  rw[az]at hc
  cases hq:xs[j]? with
  |none=>rw[hq]at hc;cases hc
  |some s=>
   rw[hq]at hc;injection hc with hc;subst hc
   obtain⟨u,hu,cC⟩:=h3 j s hq
   exact⟨u,hu,cC.uM D9 (hr u) hI hM⟩
theorem eK.uM{v:Value}{s:ST}(h:eK I H Z w M v s)(D9:r.bw=[])(hr:∀v,v=H i→bS I' H Z w M' v r)
 (hI:∀j,j≠i→I j→I' j)(hM:∀b,b < w.heap.size→M' b→M b):eK I' H Z w M' v (s.sub i r):=by
 cases s with
 |v s=>exact cu.uM h D9 hr hI hM
 |fo xs=>
  obtain⟨vs,h1,h2,h3⟩:=h
  simp only[ST.sub,yP]
  refine⟨vs,h1,by simpa using h2,fun j c hc=>?_⟩
  rw[az]at hc
  cases hq:xs[j]? with
  |none=>rw[hq]at hc;cases hc
  |some s=>
   rw[hq]at hc;injection hc with hc;subst hc
   obtain⟨u,hu,cC⟩:=h3 j s hq
   exact⟨u,hu,cC.uM D9 hr hI hM⟩
theorem eG.uM{k:Nat}{o:MO}(h:eG I H Z w M k o)(D9:r.bw=[])(hr:∀v,v=H i→bS I' H Z w M' v r)
 (hI:∀j,j≠i→I j→I' j)(hM:∀b,b < w.heap.size→M' b→M b):eG I' H Z w M' k (o.sub i r):=by
 cases o with
 |box cs=>
  obtain⟨b,ty,vs,h1,h2,h3,h4⟩:=h
  simp only[MO.sub,rJ]
  refine⟨b,ty,vs,h1,h2,by simpa using h3,fun j c hc=>?_⟩
  rw[az]at hc
  cases hq:cs[j]? with
  |none=>rw[hq]at hc;cases hc
  |some s=>
   rw[hq]at hc;injection hc with hc;subst hc
   obtain⟨u,hu,ho,cC⟩:=h4 j s hq
   exact⟨u,hu,ho,cC.uM D9 (hr u) hI hM⟩
 |arr nn e sz xs=>exact eG.mono (o:=.arr nn e sz xs) h ⟨rfl,rfl⟩ (fun _ _=>rfl) (fun j hj _=>by simp[MO.bw]at hj) (ay _) (fun _ _ _=>rfl) hM
 |fw es=>exact eG.mono (o:=.fw es) h ⟨rfl,rfl⟩ (fun _ _=>rfl) (fun j hj _=>by simp[MO.bw]at hj) (ay _) (fun _ _ _=>rfl) hM
 |bF e sz qs=>exact eG.mono (o:=.bF e sz qs) h ⟨rfl,rfl⟩ (fun _ _=>rfl) (fun j hj _=>by simp[MO.bw]at hj) (ay _) (fun _ _ _=>rfl) hM
end
theorem Mod.XJ{C:Ctx}{H:Nat→Value}{Z:Nat→Nat}{n:Nat}{tm:TM}{mm:MM}{a:Act}{w:World}(h:Mod C H Z n tm mm a w)
 (i:Nat)(r:SC)(D9:r.bw=[])(hr:∀v,v=H i→bS (cU (im i r mm)) H Z w (cO C H (im i r mm)) v r):
 Mod C H Z n (uL i r tm) (im i r mm) a w:=by
 have hI:∀j,j≠i→cU mm j→cU (im i r mm) j:=fun j hj h=>rI hj h
 have hM:∀b,b < w.heap.size→cO C H (im i r mm) b→cO C H mm b:=by
  intro b _ hb
  rcases hb with hb|⟨p,hp,c9⟩
  ·exact .inl hb
  ·obtain⟨q,hq,e1,_⟩:=fU hp
   exact .inr ⟨q,hq,by rw[e1];exact c9⟩
 refine⟨h.defers,h.size,h.Oa,?_,h.ext,h.m0,?_,?_,?_,?_,?_⟩
 ·intro p hp lN
  obtain⟨q,hq,e1,_⟩:=fU hp
  rw[←e1]at lN⊢
  exact h.hg q hq lN
 ·intro p hp q hq he
  obtain⟨p',sa,e1,e2,_⟩:=fU hp
  obtain⟨q',rm,f1,f2,_⟩:=fU hq
  have:=h.ids p' sa q' rm (by rw[e1,f1];exact he)
  subst this
  exact vC he (by rw[e2,f2])
 ·intro p hp
  obtain⟨q,hq,e1,e2,_⟩:=fU hp
  rw[←e1,e2]
  exact(h.mem q hq).uM D9 hr hI hM
 ·intro p hp b hb
  obtain⟨q,hq,e1,e2,_⟩:=fU hp
  rw[←e1]at hb⊢
  exact h.fresh q hq b hb
 ·intro p hp q hq kl b c9
  obtain⟨p',sa,e1,_⟩:=fU hp
  obtain⟨q',rm,f1,_⟩:=fU hq
  rw[←e1]at c9 kl
  rw[←f1]at kl⊢
  exact h.sep p' sa q' rm kl b c9
 ·intro p hp
  obtain⟨q,hq,e1,e2⟩:=vH hp
  rw[←e1,e2]
  exact(h.tmps q hq).uM D9 hr hI hM
section
variable {C:Ctx} {n:Nat} {ops:Array Oper} {l:List Oper} {tm tm':TM} {mm mm':MM} {T:TM→MM→Prop} {o:Oper}
theorem Mod.frozen{H:Nat→Value}{Z:Nat→Nat}{a:Act}{w:World}(h:Mod C H Z n tm mm a w){i:Nat}{nn:Bool}{e sz:Nat}{xs:List (List CT)}
 (hi:getM mm i=some (.arr nn e sz xs))(hg:i < given):
 ∀v,v=H i→aV w (cO C H (im i (.c (.slice nn sz xs)) mm)) v (.slice nn sz xs):=by
 rintro v rfl
 obtain⟨hz,us,h1,h2,h3,h4⟩:=h.mem _ (aT hi)
 have hM:∀b,b < w.heap.size→cO C H (im i (.c (.slice nn sz xs)) mm) b→cO C H mm b:=by
  intro b _ hb
  rcases hb with hb|⟨p,hp,c9⟩
  ·exact .inl hb
  ·obtain⟨q,hq,e1,_⟩:=fU hp
   exact .inr ⟨q,hq,by rw[e1];exact c9⟩
 simp only at h1 h2 h4
 have jh:=h1
 rcases h1.2 with⟨hh,hn⟩|⟨g,cap,cur,hh,_,qv,jC,kL,yv,ob⟩
 ·rw[hh]
  have hx:xs=[]:=bK hn
  subst hx
  exact .slice (fun _ _=>undef) (by simp) (ay _) (by simp[maxLen]) (fun vn=>absurd hh (h2 vn)) (by simp) (fun hp=>by simp at hp) (fun k x hx=>by simp at hx)
 ·have hb:Hb (H i) g:=by rw[hh];rfl
  obtain⟨LD,OQ⟩:=h.fresh _ (aT hi) g hb
  have Eb:¬cO C H (im i (.c (.slice nn sz xs)) mm) g:=by
   rintro(hm|⟨p,hp,c9⟩)
   ·have:=h.m0 g hm
    rcases LD with⟨_,k|k⟩|⟨k,_⟩
    ·omega
    ·exact(C.hV g k).2 hm
    ·simp only at k;omega
   ·obtain⟨q,hq,e1,e2,cV⟩:=fU hp
    rw[←e1]at c9
    exact h.sep q hq _ (aT hi) cV g c9 hb
  rw[hh]
  refine .slice (fun k j=>us.getD (k * sz+j) undef) J jC kL (fun _=>rfl) h3 (fun hp=>?_) (fun k x hx j c hc=>?_)
  ·refine⟨⟨g,0,none⟩,rfl,rfl,OQ,Eb,fun k x hx j c hc=>?_⟩
   obtain⟨u,hu,_⟩:=h4 k x hx j c hc
   have:=World.ownsRow.cells jh (g:=g) (by rw[hh];rfl) (k * sz+j) u hu
   rw[this]
   simp[List.getD,hu]
  ·obtain⟨u,hu,hr⟩:=h4 k x hx j c hc
   have:us.getD (k * sz+j) undef=u:=by simp[List.getD,hu]
   rw[this]
   exact hr.mono (ay _) (fun _ _ _=>rfl) hM
theorem Has.freeze{a:Act}{w:World}(h:Has C n tm mm a w){i:Nat}{nn:Bool}{e sz:Nat}{xs:List (List CT)}
 (hi:getM mm i=some (.arr nn e sz xs))(hg:Nat.blt i given=true):
 Has C n (uL i (.c (.slice nn sz xs)) tm) (im i (.c (.slice nn sz xs)) mm) a w:=by
 obtain⟨H,Z,hm⟩:=h
 exact⟨H,Z,hm.XJ i _ J (hm.frozen hi (a6.mp hg))⟩
theorem aV.yb{w:World}{M:Nat→Prop}{v:Value}{nn:Bool}{sz:Nat}{xs:List (List CT)}(h:aV w M v (.slice nn sz xs)):aV w M v (.slice false sz xs):=by
 cases h with
 |slice u h1 h2 h3 h4 h5 h6 h7=>exact .slice u h1 h2 h3 (fun h=>by cases h) h5 h6 h7
theorem aV.H5{w:World}{M:Nat→Prop}{v:Value}(sz:Nat)(h:aV w M v .bA):aV w M v (.slice false sz []):=by
 cases h with
 |bA=>exact .slice (fun _ _=>undef) J (ay _) (by simp[maxLen]) (fun h=>by cases h) (by simp) (fun h=>by simp at h) (fun k x hx=>by simp at hx)
theorem SOps.mono(h:SOps C n ops l tm' mm' T)(hs:∀a w,Has C n tm mm a w→Has C n tm' mm' a w):SOps C n ops l tm mm T:=
 fun a w hh=>h a w (hs a w hh)
end
end Go.Sy
