/- Layer: a drawn region whose chain stores into rows of one's own; make of rows of several cells. -/
import Derived.Test.YtademmkjmpgplaaGreatDoorSy8
import Derived.Test.YtademmkjmpgplaaGreatDoorBu1
import Derived.MapKept
set_option linter.unusedSimpArgs false
set_option linter.unusedVariables false
set_option linter.unusedSectionVars false
namespace Go.Sy
open Go.RowKit
def depsL(L:List Oper):List Nat→List Nat
 |[]=>[]
 |e::r=>(match nthO L e with|some o=>ons o.after.toList|none=>[])++depsL L r
def expE(L:List Oper):Nat→List Nat→List Nat
 |0,S=>S
 |k+1,S=>expE L k (S++depsL L S)
theorem depsL_down{L:List Oper}{listed:Array Bool}(hdn:DownL L listed):∀{S:List Nat},(∀e∈S,listed.getD e false=true)→∀i∈depsL L S,listed.getD i false=true
 |[],_,i,hi=>by cases hi
 |e::r,h,i,hi=>by
  unfold depsL at hi
  rcases List.mem_append.1 hi with hi|hi
  ·cases ho:nthO L e with
   |none=>rw[ho]at hi;cases hi
   |some o=>
    rw[ho]at hi
    exact hdn e o (by rw[←nthO_get];exact ho) (h e List.mem_cons_self) i hi
  ·exact depsL_down hdn (fun e' he=>h e' (List.mem_cons_of_mem _ he)) i hi
theorem expE_down{L:List Oper}{listed:Array Bool}(hdn:DownL L listed):∀(k:Nat) {S:List Nat},(∀e∈S,listed.getD e false=true)→∀i∈expE L k S,listed.getD i false=true
 |0,_,h,i,hi=>h i hi
 |k+1,S,h,i,hi=>by
  unfold expE at hi
  refine expE_down hdn k (fun e he=>?_) i hi
  rcases List.mem_append.1 he with he|he
  ·exact h e he
  ·exact depsL_down hdn h e he
section
variable {C:Ctx} {n:Nat} {L:List Oper} {tm:TM}
end
section
variable {C:Ctx} {n:Nat} {L l:List Oper} {o:Oper} {d:Nat}
variable {ι:Type} {tmF:TM} {ET:Nat→ι→TM} {MMx:Nat→ι→MM} {k:Nat} {x:ι}
variable {tm tm0:TM} {E:List Nat} {i:Nat} {mmf:Nat→MM} {TF:TM→Prop} {p q:Operand} {ty ty':TypeId}
end
section
variable {C:Ctx} {n:Nat} {tm:TM} {mm:MM} {o:Oper} {d:Nat} {x y:Operand}
end
section
variable {C:Ctx} {n:Nat} {tm:TM} {mm:MM} {L l:List Oper} {T:TM→MM→Prop} {o:Oper} {d:Nat} {x y:Operand}
end
section
variable {C:Ctx} {n:Nat} {tm tm0:TM} {mm:MM} {L l:List Oper} {T:TM→Prop} {o:Oper} {d:Nat} {x y:Operand} {ty ty':TypeId}
end
theorem s_allocZ{C:Ctx}{n:Nat}{tm:TM}{mm:MM}{L l:List Oper}{T:TM→MM→Prop}{o:Oper}{d:Nat}{e:TypeId}{zv:Value}(hz:∀w,(zeroValue e).run C.P w=.ok zv w)(h1:zv.oneCell'=true)(hc:zv.cells=#[zv])
 (ho:o.op=.alloc e)(hi:J1 mm d=none)(hd:o.dst=some d)(hn:Nat.blt d n=true)(hg:QG L tm o=some true)
 (k:SOps C n L.toArray l ((d,.v (.one (.ptr d 0)))::QY tm d) ((d,.box [.any])::mm) T):SOps C n L.toArray (o::l) tm mm T:=by
 have h:OpR C n o tm mm ((d,.v (.one (.ptr d 0)))::QY tm d) ((d,.box [.any])::mm):=by
  intro a w ⟨H,Z,hm⟩
  obtain⟨H',Z',h3⟩:=hm.newBox hi (Nat.blt_eq.mp hn) e zv.cells [.any] (by rw[hc];rfl) (fun j c hcj=>by
   match j,hcj with
   |0,hcj=>simp at hcj;subst hcj;exact⟨zv,by rw[hc];rfl,h1,trivial⟩
   |j+1,hcj=>simp at hcj)
  refine .inl ⟨_,_,?_,H',Z',by rw[hd];exact h3⟩
  simp[execOp,ho,Instr.alloc,hz,newVar,newRow,newObj,Sem.run]
 exact K0 h.wp hg k
section
variable {C:Ctx} {n:Nat} {tm:TM} {mm:MM} {L l:List Oper} {T:TM→MM→Prop} {o:Oper} {d:Nat} {x:Operand}
theorem op_plen{Θ:Tab}(hΘ:QJ C.P Θ){t:TypeId}{z bts e:Nat}{ag:Bool}{zr:Option (List CT)}{i c e' sz:Nat}{qs:PQ}{v:Value}{xs:List (List CT)}
 (ho:o.op=.call {callee:=.builtin .len,args:=#[x],argTypes:=#[t]})(ht:GW Θ t=some ⟨z,bts,ag,zr,.slice e⟩)
 (hx:Q0 tm x=some (.c (.val v)))(hi:J1 mm i=some (.pool e' sz qs))(hk:qs[c]? =some (v,xs))(hd:o.dst=some d)(hn:Nat.blt d n=true):
 OpV C n o tm mm d (.v (.one (.c (.int .i64 (xs.length:Int))))):=
 OpV.val hd hn _ fun H Z a w hmod=>by
  obtain⟨inf,de,hf⟩:=tyF hΘ ht
  have hde:de=.slice e:=by
   have:=hf.sh
   cases de<;>simp[shChk]at this⊢
   exact this
  subst hde
  obtain⟨_,hpool⟩:=hmod.mem _ (Q3 hi)
  have hpool:PoolOK w (Mof C H mm) e' sz qs:=hpool
  obtain⟨us,g1,_,_⟩:=hpool.row hk
  have hv:=RepC.val_inv (Q6 hmod hx)
  have hshape:∃(ad:Option Addr) (c:Nat),a.eval x=.slice ad xs.length c:=by
   rcases g1.2 with⟨hh,hz⟩|⟨g,cap,cur,hh,_⟩
   ·rw[hv,hh,hz];exact⟨_,_,rfl⟩
   ·rw[hv,hh];exact⟨_,_,rfl⟩
  obtain⟨ad,c,hv⟩:=hshape
  refine⟨.int .i64 (xs.length:Int),?_,.int _ _⟩
  simp[execOp,ho,resolve,invoke,builtin,Builtin.len_,hf.underlying,hv,goInt]
theorem s_plen{Θ:Tab}(hΘ:QJ C.P Θ){t:TypeId}{z bts e:Nat}{ag:Bool}{zr:Option (List CT)}{e' sz:Nat}{qs:PQ}{v:Value}{xs:List (List CT)}(i c:Nat)
 (ho:o.op=.call {callee:=.builtin .len,args:=#[x],argTypes:=#[t]})(ht:GW Θ t=some ⟨z,bts,ag,zr,.slice e⟩)
 (hx:Q0 tm x=some (.c (.val v)))(hi:J1 mm i=some (.pool e' sz qs))(hk:qs[c]? =some (v,xs))(hd:o.dst=some d)(hn:Nat.blt d n=true)(hg:QG L tm o=some true)(m:Int)(hm:(xs.length:Int)=m)
 (k:SOps C n L.toArray l ((d,.v (.one (.c (.int .i64 m))))::QY tm d) mm T):SOps C n L.toArray (o::l) tm mm T:=by
 subst hm
 exact K0 (op_plen hΘ ho ht hx hi hk hd hn).wp hg k
end
section
variable {C:Ctx} {n:Nat} {tm:TM} {mm:MM} {f:FuncId} {R:Ending→World→Prop} {k:List Item}
end
section
variable {C:Ctx} {n:Nat} {tm:TM} {mm:MM} {f:FuncId} {R:Ending→World→Prop} {k:List Item}
def headI:List Item→Option Nat
 |.code (.region i _ _)::_=>some i
 |.code (.seq (.region i _ _) _)::_=>some i
 |_=>none
theorem g_atR(i:Nat)(_:headI k=some i)(h:Goes C f n R k tm mm):Goes C f n R k tm mm:=h
end
section
variable {C:Ctx} {n:Nat} {tm:TM} {mm:MM} {f:FuncId} {R:Ending→World→Prop} {k:List Item}
end
theorem le_lit{a b:Bool}(h:a=b):LeT (.v (.one (.lit a))) (.v (.one (.c (.bool b)))):=by subst h;exact .v (.one (.lit _))
section
variable {C:Ctx} {n:Nat} {tm:TM} {mm:MM} {o:Oper} {d:Nat}
theorem op_pstoref{Θ:Tab}(hΘ:QJ C.P Θ){t:TypeId}{ti:TyI}{x y:Operand}{i k j off e sz:Nat}{qs:PQ}{v:Value}{xs:List (List CT)}{s:SV}{cs x0 x1:List CT}
 (ho:o.op=.store t x y)(ht:GW Θ t=some ti)(hx:Q0 tm x=some (.c (.val (ptrV v (j * sz+off)))))(hi:J1 mm i=some (.pool e sz qs))(hk:qs[k]? =some (v,xs))(hj:xs[j]? =some x0)
 (hy:evalV tm y=some s)(hc:ctsOf s.cells=some cs)(hsz:Nat.beq cs.length ti.size=true)(hsp:spliceL x0 off cs=some x1)(hkn:s.cells.all SC.known=true)(hig:Nat.blt i G7=true)(hno:noUse i mm=true)(hd:o.dst=none):
 OpR C n o tm mm (dropU i tm) (K1 mm i (.pool e sz (qs.set k (v,xs.set j x1)))):=by
 intro a w ⟨H,Z,hm⟩
 obtain⟨inf,de,hf⟩:=tyF hΘ ht
 obtain⟨hH,hpool⟩:=hm.mem _ (Q3 hi)
 have hpool:PoolOK w (Mof C H mm) e sz qs:=hpool
 obtain⟨us,hown,hlen,hrep⟩:=hpool.row hk
 have hx':=RepC.val_inv (Q6 hm hx)
 obtain⟨hxe,hoff⟩:=spliceL_spec hsp
 have hjl:j < xs.length:=(List.getElem?_eq_some_iff.1 hj).1
 have hx0:x0.length=sz:=hlen x0 (List.mem_of_getElem? hj)
 have hcl:cs.length=ti.size:=Nat.eq_of_beq_eq_true hsz
 obtain⟨c1,c2⟩:=(evalV_rep hm hy).cells hm hkn
 have hcp:Pw (fun u c=>RepC w (Mof C H mm) u c) (a.eval y).cells.toList cs:=
  ctsOf_pw hc ⟨by simpa using c1,fun j c hc=>let⟨u,hu,_,hr⟩:=c2 j c hc;⟨u,by simpa using hu,hr⟩⟩
 have hone:∀v∈(a.eval y).cells.toList,v.oneCell'=true:=by
  intro v hv
  obtain⟨j,hj,hjv⟩:=List.mem_iff_getElem.1 hv
  have hjl:j < cs.length:=by rw[←hcp.1];exact hj
  obtain⟨u,hu,hr⟩:=hcp.2 j cs[j] (List.getElem?_eq_getElem hjl)
  rw[List.getElem?_eq_getElem hj,hjv]at hu
  injection hu with hu
  rw[hu];exact hr.one
 have hcsl:(a.eval y).cells.toList.length=cs.length:=hcp.1
 rcases hown.2 with⟨_,h0⟩|⟨g,cap,cur,hv,hg0,hheap,hcap,hmax,hcur,htake⟩
 ·omega
 subst hv
 simp only[ptrV,add_mk,Nat.zero_add]at hx'
 have hjs:j * sz+sz≤xs.length * sz:=by
  have:=Nat.mul_le_mul_right sz (show j+1≤xs.length from hjl)
  rw[Nat.add_mul]at this;omega
 have hcaps:xs.length * sz≤cap * sz:=Nat.mul_le_mul_right _ hcap
 obtain⟨p,hp⟩:∃p,p=j * sz+off:=⟨_,rfl⟩
 have hpe:p+cs.length≤j * sz+sz:=by omega
 rw[←hp]at hx'
 have hrun:=run_storeCells_at (P:=C.P) g p e (a.eval y).cells.toList 0 cur w hheap (by rw[hcsl,hcur];omega) hone
 have hsize:(a.eval y).cells.size=ti.size:=by rw[←hcl,←hcsl];simp
 have hrow:=setRow_heap w g cur (cur.toList.take (p+0)++(a.eval y).cells.toList++cur.toList.drop (p+0+(a.eval y).cells.toList.length)).toArray e (0,0) hheap
 have hext:=setRow_ext w g (cur.toList.take (p+0)++(a.eval y).cells.toList++cur.toList.drop (p+0+(a.eval y).cells.toList.length)).toArray
 generalize hw':w.setRow g (cur.toList.take (p+0)++(a.eval y).cells.toList++cur.toList.drop (p+0+(a.eval y).cells.toList.length)).toArray=w' at hrow hext hrun
 have hvmem:(Value.slice (some ⟨g,0,none⟩) xs.length cap,xs)∈qs:=List.mem_of_getElem? hk
 have hus:us=cur.toList.take (xs.length * sz):=htake.symm
 have hcurl:cur.toList.length=cap * sz:=by simpa using hcur
 refine .inr ⟨w',?_,Sy.upd H i (poolV (qs.set k (.slice (some ⟨g,0,none⟩) xs.length cap,xs.set j x1))),Z,?_⟩
 ·simp only[execOp,ho,hx',Instr.storeAt,Instr.sureAddr,storeVar,Sem.run_bind,Sem.run_pure,Result.andThen_ok,hf.sizeOf,hsize,ne_eq,not_true,if_false,hrun]
 ·rw[hd]
  refine hm.setPool hi (Nat.blt_eq.mp hig) hno (hext.weak fun b _ hb=>⟨_,hvmem,by rw[hb];rfl⟩) (by simpa[Act.put]using hm.defers) (by simp[Act.put,hm.size]) ?_ ?_ ?_
  ·intro q hq b hqb
   rcases List.mem_or_eq_of_mem_set hq with hq|rfl
   ·exact .inl ⟨q,hq,hqb⟩
   ·exact .inl ⟨_,hvmem,hqb⟩
  ·intro M' hMM hfr
   have hx1:x1.length=sz:=by rw[hxe,List.length_append,List.length_append,List.length_take,List.length_drop,hx0];omega
   refine hpool.set hk ⟨us.take p++(a.eval y).cells.toList++us.drop (p+cs.length),⟨?_,.inr ⟨g,cap,_,by simp,hg0,hrow,by simpa using hcap,hmax,?_,?_⟩⟩,fun q hq=>?_,fun l q hq m ct hct=>?_⟩ hext.size
    (fun b hb hne=>hext.block b hb (fun e=>hne (by rw[e];rfl))) hfr hMM (fun b hb=>.inl hb)
   ·have hul:=hown.1
    rw[List.length_append,List.length_append,List.length_take,List.length_drop,hcsl,hul,List.length_set];omega
   ·rw[List.size_toArray,List.length_append,List.length_append,List.length_take,List.length_drop,hcsl,hcurl];omega
   ·simp only[List.length_set,Nat.add_zero]
    rw[splice_take (by rw[hcsl];omega) (by omega),htake,hcsl]
   ·rcases List.mem_or_eq_of_mem_set hq with hq|rfl
    ·exact hlen q hq
    ·exact hx1
   ·have hul:us.length=xs.length * sz:=hown.1
    rw[List.getElem?_set]at hq
    have hlsz:∀{q:List CT},q.length=sz→q[m]? =some ct→m < sz:=fun h1 h2=>by rw[←h1];exact(List.getElem?_eq_some_iff.1 h2).1
    have hget:∀{r u},us[r]? =some u→(r < p∨p+cs.length≤r)→(us.take p++(a.eval y).cells.toList++us.drop (p+cs.length))[r]? =some u:=by
     intro r u hu hr
     have hrl:=(List.getElem?_eq_some_iff.1 hu).1
     rcases hr with hr|hr
     ·rw[List.append_assoc,List.getElem?_append_left (by rw[List.length_take];omega),List.getElem?_take,if_pos hr]
      exact hu
     ·rw[List.getElem?_append_right (by rw[List.length_append,List.length_take,hcsl];omega),List.getElem?_drop]
      rw[←hu];congr 1;rw[List.length_append,List.length_take,hcsl];omega
    split at hq
    ·rename_i hjl';subst hjl'
     injection hq with hq;subst hq
     have hm':=hlsz hx1 hct
     by_cases hmo:m < off∨off+cs.length≤m
     ·have hct0:x0[m]? =some ct:=by
       rw[hxe]at hct
       rcases hmo with hmo|hmo
       ·rw[List.append_assoc,List.getElem?_append_left (by rw[List.length_take];omega),List.getElem?_take,if_pos hmo]at hct
        exact hct
       ·rw[List.getElem?_append_right (by rw[List.length_append,List.length_take];omega),List.getElem?_drop]at hct
        rw[←hct];congr 1;rw[List.length_append,List.length_take];omega
      obtain⟨u,hu,hr⟩:=hrep j x0 hj m ct hct0
      exact⟨u,hget hu (by omega),RepC.mono hr hext.size hfr hMM⟩
     ·have hctc:cs[m - off]? =some ct:=by
       rw[hxe,List.getElem?_append_left (by rw[List.length_append,List.length_take];omega),List.getElem?_append_right (by rw[List.length_take];omega)]at hct
       rw[←hct];congr 1;rw[List.length_take];omega
      obtain⟨u,hu,hr⟩:=hcp.2 (m - off) ct hctc
      refine⟨u,?_,RepC.mono hr hext.size hfr hMM⟩
      rw[List.getElem?_append_left (by rw[List.length_append,List.length_take,hcsl,hul];omega),List.getElem?_append_right (by rw[List.length_take,hul];omega)]
      rw[←hu];congr 1;rw[List.length_take,hul];omega
    ·rename_i hjl'
     have hl:l < xs.length:=(List.getElem?_eq_some_iff.1 hq).1
     have hm':=hlsz (hlen q (List.mem_of_getElem? hq)) hct
     obtain⟨u,hu,hr⟩:=hrep l q hq m ct hct
     refine⟨u,hget hu ?_,RepC.mono hr hext.size hfr hMM⟩
     rcases Nat.lt_or_ge l j with hlt|hge
     ·have hle:l * sz+sz≤j * sz:=by
       have:=Nat.mul_le_mul_right sz (show l+1≤j from hlt)
       rw[Nat.add_mul]at this;omega
      omega
     ·have hle:j * sz+sz≤l * sz:=by
       have:=Nat.mul_le_mul_right sz (show j+1≤l by omega)
       rw[Nat.add_mul]at this;omega
      omega
  ·intro p hp
   obtain⟨h1,h2⟩:=dropU_mem hp
   exact .inl ⟨p,h1,rfl,rfl,h2⟩
theorem op_pfield{Θ:Tab}(hΘ:QJ C.P Θ){t:TypeId}{z bts:Nat}{ag:Bool}{zr:Option (List CT)}{fs:List (Nat×Nat)}{x:Operand}{k off:Nat}{v:Value}{i c q e sz:Nat}{qs:PQ}{xs:List (List CT)}
 (ho:o.op=.fieldAddr t x k)(ht:GW Θ t=some ⟨z,bts,ag,zr,.struct fs⟩)(hx:Q0 tm x=some (.c (.val (ptrV v q))))(hi:J1 mm i=some (.pool e sz qs))(hc:qs[c]? =some (v,xs))(hpos:0 < xs.length)(hk:fieldOff fs k=some off)
 (hd:o.dst=some d)(hn:Nat.blt d n=true):
 OpV C n o tm mm d (.v (.one (.c (.val (ptrV v (q+off)))))):=
 OpV.val hd hn _ fun H Z a w hm=>by
  obtain⟨inf,de,hf⟩:=tyF hΘ ht
  have hx':=RepC.val_inv (Q6 hm hx)
  obtain⟨hH,hpool⟩:=hm.mem _ (Q3 hi)
  have hpool:PoolOK w (Mof C H mm) e sz qs:=hpool
  obtain⟨us,g1,_⟩:=hpool.row hc
  obtain⟨ad,hv,hrep⟩:∃ad:Addr,a.eval x=.pointer (some ad)∧RepC w (Mof C H mm) (.pointer (some (ad.add off))) (.val (ptrV v (q+off))):=by
   rcases g1.2 with⟨_,h0⟩|⟨b,cap,cur,rfl,rest⟩
   ·omega
   refine⟨_,hx',?_⟩
   simp only[ptrV]
   rw[add_add]
   exact RepC.val _ rfl
  have hsh:=hf.sh
  cases de<;>simp only[shChk]at hsh<;>try(cases hsh;done)
  rename_i fields
  simp only[Bool.and_eq_true]at hsh
  obtain⟨s1,s2⟩:=hsh
  have hfs:fields.toList.map (fun f=>(f.offset,f.type))=fs:=by simpa using s1
  have hget:∀(l:List (Nat×Nat)) (q:Nat) (o':Nat),fieldOff l q=some o'→∃t',l[q]? =some (o',t'):=by
   intro l
   induction l with
   |nil=>intro q o' h;cases q<;>simp[fieldOff]at h
   |cons p l ih=>
    intro q o' h
    obtain⟨p1,p2⟩:=p
    cases q with
    |zero=>simp[fieldOff]at h;subst h;exact⟨p2,rfl⟩
    |succ q=>simp[fieldOff]at h;simpa using ih q o' h
  obtain⟨t',ht'⟩:=hget fs k off hk
  rw[←hfs]at ht'
  simp at ht'
  obtain⟨f,hf1,hf2,hf3⟩:=ht'
  have hnz:C.P.cellsOf f.type≠0:=by
   have:=Array.all_eq_true.1 s2
   obtain⟨hlt,hfe⟩:=Array.getElem?_eq_some_iff.1 hf1
   have:=this k hlt
   rw[hfe]at this
   simpa using this
  have hplace:(fieldPlace ad f).run C.P w=.ok (ad.add f.offset) w:=by
   unfold fieldPlace
   unfold Program.cellsOf at hnz
   cases hq:C.P.info? f.type with
   |none=>rw[hq]at hnz;simp at hnz
   |some jn=>
    rw[hq]at hnz
    simp at hnz
    simp[sizeOf,typeInfo,hq,hnz]
  refine⟨.pointer (some (ad.add off)),?_,hrep⟩
  simp[execOp,ho,hv,Instr.fieldAt,hf.underlying,hf1,Instr.sureAddr,hplace,hf2]
theorem op_ploadf{Θ:Tab}(hΘ:QJ C.P Θ){t:TypeId}{ti:TyI}{x:Operand}{i k j off e sz:Nat}{qs:PQ}{v:Value}{xs:List (List CT)}{cs0 cs:List CT}{s:SV}
 (ho:o.op=.load t x)(ht:GW Θ t=some ti)(hx:Q0 tm x=some (.c (.val (ptrV v (j * sz+off)))))(hi:J1 mm i=some (.pool e sz qs))(hk:qs[k]? =some (v,xs))(hj:xs[j]? =some cs0)
 (hs:subL cs0 off ti.size=some cs)(hv:mkV SC.c ti.agg cs=some s)(hd:o.dst=some d)(hn:Nat.blt d n=true):
 OpV C n o tm mm d (.v s):=
 OpV.val hd hn _ fun H Z a w hm=>by
  obtain⟨inf,de,hf⟩:=tyF hΘ ht
  obtain⟨hH,hpool⟩:=hm.mem _ (Q3 hi)
  have hpool:PoolOK w (Mof C H mm) e sz qs:=hpool
  obtain⟨us,g1,g3,g4⟩:=hpool.row hk
  have hx':=RepC.val_inv (Q6 hm hx)
  have hlt:j < xs.length:=(List.getElem?_eq_some_iff.1 hj).1
  have hcl0:cs0.length=sz:=g3 cs0 (List.mem_of_getElem? hj)
  obtain⟨hce,hlen⟩:=subL_spec hs
  have hcl:cs.length=ti.size:=hlen
  have hts:ti.size=ti.size:=rfl
  obtain⟨pp,hpp⟩:∃pp,pp=j * sz+off:=⟨_,rfl⟩
  have hcg:∀(m:Nat) (c:CT),cs[m]? =some c→cs0[off+m]? =some c:=fun m c hc=>by
   rw[hce,List.getElem?_take]at hc
   split at hc
   ·rwa [List.getElem?_drop]at hc
   ·cases hc
  rcases g1.2 with⟨_,h0⟩|⟨b,cap,cur,rfl,rest⟩
  ·omega
  rw[←hpp]at hx'
  simp only[ptrV,add_mk,Nat.zero_add]at hx'
  have hown:∀q u,us[q]? =some u→w.cell? ⟨b,q,none⟩=some u:=by
   intro q u hq
   have:=World.ownsRow.cells g1 (g:=b) rfl q u hq
   rwa [add_mk,Nat.zero_add]at this
  have hch:∀m,m≤cs.length→∃vs:List Value,vs.length=m∧(∀(q:Nat) (u:Value),vs[q]? =some u→w.cell? ((⟨b,pp,none⟩:Addr).add q)=some u)∧
   Pw (fun u c=>RepC w (Mof C H mm) u c) vs (cs.take m):=by
   intro m
   induction m with
   |zero=>intro _;exact⟨[],rfl,fun q u hu=>by simp at hu,by simpa using Pw.nil⟩
   |succ m ih=>
    intro hmle
    obtain⟨vs,k1,k2,k3⟩:=ih (by omega)
    obtain⟨u,hu,hr⟩:=g4 j cs0 hj (off+m) cs[m] (hcg m _ (List.getElem?_eq_getElem (by omega)))
    refine⟨vs++[u],by simp[k1],fun q v hq=>?_,?_⟩
    ·rw[List.getElem?_append]at hq
     split at hq
     ·exact k2 q v hq
     ·rename_i hjq
      have hj0:q - vs.length=0:=by
       rcases Nat.eq_zero_or_pos (q - vs.length)with h0|h0
       ·exact h0
       ·rw[List.getElem?_eq_none (by simp;omega)]at hq;cases hq
      rw[hj0]at hq
      simp at hq;subst hq
      have:q=m:=by omega
      subst this
      rw[add_mk]
      exact hown _ _ (by rw[show pp+q=j * sz+(off+q) by omega];exact hu)
    ·rw[List.take_succ_eq_append_getElem (by omega)]
     exact k3.append (Pw.cons hr Pw.nil)
  obtain⟨vs,k1,k2,k3⟩:=hch cs.length (Nat.le_refl _)
  rw[List.take_length]at k3
  obtain⟨v,hr,q1,q2⟩:=run_loadVar_pw (w:=w) hf ⟨b,pp,none⟩ vs (by rw[k1,hcl,hts]) k2 (fun ha=>by
   rw[k1]
   rw[ha]at hv
   unfold mkV at hv
   split at hv<;>first|(rename_i hh;cases hh;done)|rfl|(cases hv;done))
  refine⟨v,by simp[execOp,ho,hx',Instr.loadAt,Instr.sureAddr,hr],?_⟩
  exact mkV_rep (f:=SC.c) hv k3 q1 q2
end
section
variable {C:Ctx} {n:Nat} {tm:TM} {mm:MM} {L l:List Oper} {T:TM→MM→Prop} {o:Oper} {d:Nat} {x y:Operand}
theorem s_pfield{Θ:Tab}(hΘ:QJ C.P Θ){t:TypeId}{z bts:Nat}{ag:Bool}{zr:Option (List CT)}{fs:List (Nat×Nat)}{k off:Nat}{v:Value}{i c q e sz:Nat}{qs:PQ}{xs:List (List CT)}
 (ho:o.op=.fieldAddr t x k)(ht:GW Θ t=some ⟨z,bts,ag,zr,.struct fs⟩)(hx:Q0 tm x=some (.c (.val (ptrV v q))))(hi:J1 mm i=some (.pool e sz qs))(hk:fieldOff fs k=some off)(hd:o.dst=some d)(hn:Nat.blt d n=true)(hg:QG L tm o=some true)
 (hc:qs[c]? =some (v,xs))(hpos:0 < xs.length)(g:SOps C n L.toArray l ((d,.v (.one (.c (.val (ptrV v (q+off))))))::QY tm d) mm T):SOps C n L.toArray (o::l) tm mm T:=
 K0 (op_pfield hΘ ho ht hx hi hc hpos hk hd hn).wp hg g
theorem s_pstoref{Θ:Tab}(hΘ:QJ C.P Θ){t:TypeId}{ti:TyI}{i k j off e sz:Nat}{qs:PQ}{v:Value}{xs:List (List CT)}{s:SV}{cs x1:List CT}(x0:List CT)
 (ho:o.op=.store t x y)(ht:GW Θ t=some ti)(hx:Q0 tm x=some (.c (.val (ptrV v (j * sz+off)))))(hi:J1 mm i=some (.pool e sz qs))(hk:qs[k]? =some (v,xs))(hj:xs[j]? =some x0)
 (hy:evalV tm y=some s)(hc:ctsOf s.cells=some cs)(hsz:Nat.beq cs.length ti.size=true)(hsp:spliceL x0 off cs=some x1)(hkn:s.cells.all SC.known=true)(hig:Nat.blt i G7=true)(hno:noUse i mm=true)(hd:o.dst=none)(hg:QG L tm o=some true)
 (g:SOps C n L.toArray l (dropU i tm) (K1 mm i (.pool e sz (qs.set k (v,xs.set j x1)))) T):SOps C n L.toArray (o::l) tm mm T:=
 K0 (op_pstoref hΘ ho ht hx hi hk hj hy hc hsz hsp hkn hig hno hd).wp hg g
theorem s_ploadf{Θ:Tab}(hΘ:QJ C.P Θ){t:TypeId}{ti:TyI}{i k j off e sz:Nat}{qs:PQ}{v:Value}{xs:List (List CT)}{cs0 cs:List CT}{s:SV}
 (ho:o.op=.load t x)(ht:GW Θ t=some ti)(hx:Q0 tm x=some (.c (.val (ptrV v (j * sz+off)))))(hi:J1 mm i=some (.pool e sz qs))(hd:o.dst=some d)(hn:Nat.blt d n=true)(hg:QG L tm o=some true)
 (hk:qs[k]? =some (v,xs))(hj:xs[j]? =some cs0)(hs:subL cs0 off ti.size=some cs)(hv:mkV SC.c ti.agg cs=some s)(g:SOps C n L.toArray l ((d,.v s)::QY tm d) mm T):SOps C n L.toArray (o::l) tm mm T:=
 K0 (op_ploadf hΘ ho ht hx hi hk hj hs hv hd hn).wp hg g
theorem s_toPool(i:Nat){e sz:Nat}{nn:Bool}{xs:List (List CT)}(hi:J1 mm i=some (.arr nn e sz xs))(hig:Nat.blt i G7=true)
 (g:∀v,SOps C n L.toArray l (subT i (.c (.val v)) tm) ((i,.pool e sz [(v,xs)])::subM i (.c (.val v)) mm) T):SOps C n L.toArray l tm mm T:=fun a w hh=>by
 obtain⟨v,h⟩:=hh.toPool hi hig
 exact g v a w h
end
theorem layL_app{place:Nat→Option (Nat×Nat)}{tm tm':TM}:∀{parts:List (Nat×Operand)} {cells r:List SC},layL place tm cells parts=some r→layL place (tm++tm') cells parts=some r
 |[],cells,r,h=>h
 |(i,x)::l,cells,r,h=>by
  unfold layL at h⊢
  split at h
  ·split at h
   ·rename_i s hs
    rw[evalV_app hs]
    simp only
    split at h
    ·split at h
     ·split at h
      ·exact layL_app h
      ·cases h
     ·cases h
    ·cases h
   ·cases h
  ·cases h
inductive FzC(sz:Nat)(qs:PQ):CT→CT→Prop
 |refl (c:CT):FzC sz qs c c
 |row {v:Value} {xs:List (List CT)} (h:(v,xs)∈qs):FzC sz qs (.val v) (.slice false sz xs)
inductive FzCs(sz:Nat)(qs:PQ):List CT→List CT→Prop
 |refl (l:List CT):FzCs sz qs l l
 |cons {a b:CT} {x y:List CT} (h:FzC sz qs a b) (hr:FzCs sz qs x y):FzCs sz qs (a::x) (b::y)
inductive FzX(sz:Nat)(qs:PQ):List (List CT)→List (List CT)→Prop
 |refl (l:List (List CT)):FzX sz qs l l
 |cons {a b:List CT} {x y:List (List CT)} (h:FzCs sz qs a b) (hr:FzX sz qs x y):FzX sz qs (a::x) (b::y)
theorem FzCs.get{sz:Nat}{qs:PQ}:∀{x y:List CT},FzCs sz qs x y→x.length=y.length∧∀(j:Nat) (c:CT),y[j]? =some c→∃b,x[j]? =some b∧FzC sz qs b c
 |_,_,.refl l=>⟨rfl,fun j c h=>⟨c,h,.refl c⟩⟩
 |_,_,.cons h hr=>by
  obtain⟨h1,h2⟩:=hr.get
  refine⟨by simp[h1],fun j c hc=>?_⟩
  cases j with
  |zero=>simp at hc;subst hc;exact⟨_,by simp,h⟩
  |succ j=>simpa using h2 j c (by simpa using hc)
theorem FzX.get{sz:Nat}{qs:PQ}:∀{xs ys:List (List CT)},FzX sz qs xs ys→xs.length=ys.length∧∀(i:Nat) (y:List CT),ys[i]? =some y→∃x,xs[i]? =some x∧FzCs sz qs x y
 |_,_,.refl l=>⟨rfl,fun j c h=>⟨c,h,.refl c⟩⟩
 |_,_,.cons h hr=>by
  obtain⟨h1,h2⟩:=hr.get
  refine⟨by simp[h1],fun j c hc=>?_⟩
  cases j with
  |zero=>simp at hc;subst hc;exact⟨_,by simp,h⟩
  |succ j=>simpa using h2 j c (by simpa using hc)
section
variable {C:Ctx} {n:Nat} {tm:TM} {mm:MM}
theorem Has.freezeQ{a:Act}{w:World}(i j:Nat){e sz e' sz':Nat}{qs:PQ}{v:Value}{rows:List (List CT)}(rows':List (List CT))(hij:Nat.beq i j=false)(hi:J1 mm i=some (.pool e sz qs))(hig:Nat.blt i G7=true)(hj:J1 mm j=some (.pool e' sz' [(v,rows)]))
 (hno:noUse i mm=true)(hnt:noUseT i tm=true)(hrows:FzX sz qs rows rows')(h:Has C n tm mm a w):
 Has C n tm (K1 (outM [i] mm) j (.pool e' sz' [(v,rows')])) a w:=by
 refine h.dropPool hij hi hig hj hno hnt fun I I' H Z w M M' hI hM hp hn hmem=>?_
 obtain⟨h1,h2,h3⟩:=hmem
 refine⟨h1,fun k q hq=>?_,fun k l q r hq hr hkl=>?_⟩
 ·cases k with
  |zero=>
   simp at hq;subst hq
   obtain⟨us,g1,g2,g3⟩:=h2 0 (v,rows) rfl
   obtain⟨k1,k2⟩:=hrows.get
   refine⟨us,by rw[←k1];exact g1,fun x hx=>?_,fun k y hy m c hc=>?_⟩
   ·obtain⟨k,hk,rfl⟩:=List.mem_iff_getElem.1 hx
    obtain⟨x0,hx0,hx1⟩:=k2 k _ (List.getElem?_eq_getElem hk)
    rw[←hx1.get.1];exact g2 x0 (List.mem_of_getElem? hx0)
   ·obtain⟨x0,hx0,hx1⟩:=k2 k y hy
    obtain⟨b,hb,hbc⟩:=hx1.get.2 m c hc
    obtain⟨u,hu,hr⟩:=g3 k x0 hx0 m b hb
    cases hbc with
    |refl=>exact⟨u,hu,hr.mono (Nat.le_refl _) (fun _ _ _=>rfl) hM⟩
    |row hq=>
     have:u=_:=RepC.val_inv hr
     subst this
     obtain⟨q,hq1⟩:=List.mem_iff_getElem?.1 hq
     exact⟨_,hu,(hp.row (k:=q) hq1).frozen hM (hn _ hq)⟩
  |succ k=>simp at hq
 ·cases k with
  |zero=>
   cases l with
   |zero=>exact absurd rfl hkl
   |succ l=>simp at hr
  |succ k=>simp at hq
variable {f:FuncId} {R:Ending→World→Prop} {k:List Item}
theorem g_freezeQ(i j:Nat){e sz e' sz':Nat}{qs:PQ}{v:Value}{rows:List (List CT)}(rows':List (List CT))(hij:Nat.beq i j=false)(hi:J1 mm i=some (.pool e sz qs))(hig:Nat.blt i G7=true)(hj:J1 mm j=some (.pool e' sz' [(v,rows)]))
 (hno:noUse i mm=true)(hnt:noUseT i tm=true)(hrows:FzX sz qs rows rows')(g:Goes C f n R k tm (K1 (outM [i] mm) j (.pool e' sz' [(v,rows')]))):Goes C f n R k tm mm:=
 g.mono fun _ _ h=>h.freezeQ i j rows' hij hi hig hj hno hnt hrows
end
section
variable {C:Ctx} {n:Nat} {L l:List Oper} {o:Oper} {d:Nat}
variable {ι:Type} {tmF:TM} {ET:Nat→ι→TM} {MMx:Nat→ι→MM} {k:Nat} {x:ι}
theorem ef_litP{Θ:Tab}(hΘ:QJ C.P Θ){t:TypeId}{z bts e len:Nat}{ag:Bool}{zt:Option (List CT)}{ei:TyI}{zr:List CT}{parts:Array (Nat×Operand)}{r:List SC}{cts:List CT}{xs:List (List CT)}
 (ho:o.op=.buildSlice t len parts)(ht:GW Θ t=some ⟨z,bts,ag,zt,.slice e⟩)(hei:GW Θ e=some ei)(hz:ei.zero=some zr)
 (hb:Nat.ble (len * ei.size) 16777216=true)(hs0:Nat.blt 0 ei.size=true)
 (hl:layL (fun i=>some (i * ei.size,ei.size)) (Q9 (GZ L o) (tmF++ET k x)) (anyL (len * ei.size)) parts.toList=some r)(hc:ctsOf r=some cts)(hx:chunkL ei.size len cts=some xs)
 (hf:hasI (MMx k x) d=false)(hno:noUse d (MMx k x)=true)(hnt:noUseT d tmF=true)(hdg:Nat.blt d G7=true)(hd:o.dst=some d)(hn:Nat.blt d n=true)(hg:QG L (Q9 (GZ L o) (tmF++ET k x)) o=some true)(hnk:keyT d tmF=true)
 (X:Value→ι)(hET:∀v,ET (k+1) (X v)=[(d,.v (.one (.c (.val v))))])(hM:∀v,MMx (k+1) (X v)=(d,.pool e ei.size [(v,xs)])::MMx k x):EffOK C n L tmF ET MMx k x o:=by
 refine eff_core hg fun tm a w K Q hin hh hK=>?_
 have hgm:J1 (MMx k x) d=none:=by
  cases hq:J1 (MMx k x) d with
  |none=>rfl
  |some o'=>exact absurd ⟨_,Q3 hq,rfl⟩ (hasI_false hf)
 have hl':layL (fun i=>some (i * ei.size,ei.size)) (Q9 (GZ L o) (tmF++ET k x)++tm) (anyL (len * ei.size)) parts.toList=some r:=layL_app hl
 have hop:=op_buildSlice (mm:=MMx k x) (tm:=Q9 (GZ L o) (tmF++ET k x)++tm) hΘ ho ht hei hz hb hs0 hl' hc hx hgm hd hn
 refine hop.wp a w K Q (hh.incl fun p hp=>(List.mem_append.1 hp).elim (hin p) id) fun a' w' h'=>?_
 obtain⟨v,h⟩:=h'.toPool (i:=d) (nn:=true) (e:=e) (sz:=ei.size) (xs:=xs) (by simp[J1]) hdg
 have hM0:subM d (.c (.val v)) ((d,.arr true e ei.size xs)::MMx k x)=MMx k x:=by
  show(match Nat.beq d d with|true=>subM d (.c (.val v)) (MMx k x)|false=>_)=_
  rw[Nat.beq_refl]
  exact subM_id (fun q hq=>⟨fun e=>hasI_false hf ⟨q,hq,e⟩,noUse_spec hno hq⟩)
 rw[hM0]at h
 refine hK (X v) _ a' w' (fun p hp hpt=>?_) (fun p hp=>?_) (by rw[hM];exact h)
 ·have hn:=noUseT_spec hnt p hp
  exact subT_keep hn (List.mem_cons_of_mem _ (JV (List.mem_append_right _ hpt) (keyT_spec hnk p hp)))
 ·rw[hET]at hp
  rw[List.mem_singleton.1 hp]
  show _∈(d,ST.sub d (.c (.val v)) (.v (.one (.own d))))::_
  have:ST.sub d (.c (.val v)) (.v (.one (.own d)))=.v (.one (.c (.val v))):=by
   show ST.v (.one (match Nat.beq d d with|true=>.c (.val v)|false=>.own d))=_
   rw[Nat.beq_refl]
  rw[this]
  exact List.mem_cons_self
theorem ef_call{f:FuncId}{pre post:List (List CT)}{args args':List SV}{res:ST}(hc:Con C.P f pre args res post)(ids:List Nat){xs:Array Operand}{ts:Array TypeId}
 (ho:o.op=.call {callee:=.value (.func f),args:=xs,argTypes:=ts})(hargs:evalArgs (Q9 (GZ L o) (tmF++ET k x)) xs.toList=some args')(hren:renVs ids args=some args')(hpre:preE (MMx k x) ids=some pre)
 (hnd:noDup ids=true)(hlen:post.length=pre.length)(hpure:pureS res=true)(hd:o.dst=some d)(hn:Nat.blt d n=true)(hg:QG L (Q9 (GZ L o) (tmF++ET k x)) o=some true)(hnk:keyT d tmF=true)
 (hET:ET (k+1) x=[(d,res)])(hM:MMx (k+1) x=updMs (MMx k x) ids post):EffOK C n L tmF ET MMx k x o:=by
 refine eff_core hg fun tm a w K Q hin hh hK=>?_
 refine op_call (tm:=Q9 (GZ L o) (tmF++ET k x)++tm) hc ids ho (evalArgs_app hargs) hren hpre hnd hlen hpure hd hn a w K Q (hh.incl fun p hp=>(List.mem_append.1 hp).elim (hin p) id) fun a' w' h'=>?_
 refine hK x _ a' w' (fun p hp hpt=>?_) (fun p hp=>?_) (by rw[hM];exact h')
 ·exact List.mem_cons_of_mem _ (JV (List.mem_append_right _ hpt) (keyT_spec hnk p hp))
 ·rw[hET]at hp
  rw[List.mem_singleton.1 hp];exact List.mem_cons_self
theorem ef_eval{Θ:Tab}(hΘ:QJ C.P Θ){s:ST}(hv:valE Θ (Q9 (GZ L o) (tmF++ET k x)) (MMx k x) o.op=some s)(hd:o.dst=some d)(hn:Nat.blt d n=true)(hg:QG L (Q9 (GZ L o) (tmF++ET k x)) o=some true)(hnk:keyT d tmF=true)
 (hET:ET (k+1) x=[(d,s)])(hM:MMx (k+1) x=MMx k x):EffOK C n L tmF ET MMx k x o:=ef_val (valE_sound hΘ hv hd hn).toX hg hnk hET hM
theorem K5{Θ:Tab}(hΘ:QJ C.P Θ){t:TypeId}{z bts e len:Nat}{ag:Bool}{zt:Option (List CT)}{ei:TyI}{zr:List CT}{parts:Array (Nat×Operand)}{r:List SC}{cts:List CT}{xs:List (List CT)}{ct:CT}
 (ho:o.op=.buildSlice t len parts)(ht:GW Θ t=some ⟨z,bts,ag,zt,.slice e⟩)(hei:GW Θ e=some ei)(hz:ei.zero=some zr)
 (hb:Nat.ble (len * ei.size) 16777216=true)(hs0:Nat.blt 0 ei.size=true)
 (hl:layL (fun i=>some (i * ei.size,ei.size)) (Q9 (GZ L o) (tmF++ET k x)) (anyL (len * ei.size)) parts.toList=some r)(hc:ctsOf r=some cts)(hx:chunkL ei.size len cts=some xs)
 (hd:o.dst=some d)(hn:Nat.blt d n=true)(hg:QG L (Q9 (GZ L o) (tmF++ET k x)) o=some true)(hnk:keyT d tmF=true)
 (hle:LeC (.slice true ei.size xs) ct)(hET:ET (k+1) x=[(d,.v (.one (.c ct)))])(hM:MMx (k+1) x=MMx k x):EffOK C n L tmF ET MMx k x o:=
 ef_val (op_lit hΘ ho ht hei hz hb hs0 hl hc hx hle hd hn) hg hnk hET hM
end
section
variable {C:Ctx} {n:Nat} {L l:List Oper} {tm tm0:TM} {E:List Nat} {i:Nat} {mmf:Nat→MM} {TF:TM→Prop} {o:Oper} {d:Nat} {x:Operand}
theorem f_plen{Θ:Tab}(hΘ:QJ C.P Θ){t:TypeId}{z bts e:Nat}{ag:Bool}{zr:Option (List CT)}{e' sz:Nat}{qs:PQ}{v:Value}{xs:List (List CT)}(r c:Nat)
 (ho:o.op=.call {callee:=.builtin .len,args:=#[x],argTypes:=#[t]})(ht:GW Θ t=some ⟨z,bts,ag,zr,.slice e⟩)
 (hx:Q0 (Q9 (GZ L o) tm) x=some (.c (.val v)))(hi:J1 (mmf i) r=some (.pool e' sz qs))(hk:qs[c]? =some (v,xs))(hd:o.dst=some d)(hn:Nat.blt d n=true)(hg:QG L (Q9 (GZ L o) tm) o=some true)(hiE:memN E i=false)(m:Int)(hm:(xs.length:Int)=m)
 (k:FOps C n mmf L tm0 E (i+1) l ((d,.v (.one (.c (.int .i64 m))))::QY tm d) TF):FOps C n mmf L tm0 E i (o::l) tm TF:=by
 subst hm
 exact FOps.step hiE hg (fun mm' hb hu=>(op_plen hΘ ho ht hx (mono_get hb hu _ _ hi) hk hd hn).toX) hd k
theorem f_add{p q:Operand}{ty ty':TypeId}{a b:Int}(ho:o.op=.binOp .add ty p q ty')(hx:Q0 (Q9 (GZ L o) tm) p=some (.c (.int .i64 a)))(hy:Q0 (Q9 (GZ L o) tm) q=some (.c (.int .i64 b)))(hd:o.dst=some d)(hn:Nat.blt d n=true)(hg:QG L (Q9 (GZ L o) tm) o=some true)(hiE:memN E i=false)
 (m:Int)(hm:a+b=m)(hr:-9223372036854775808≤m∧m≤9223372036854775807)(k:FOps C n mmf L tm0 E (i+1) l ((d,.v (.one (.c (.int .i64 m))))::QY tm d) TF):FOps C n mmf L tm0 E i (o::l) tm TF:=by
 subst hm
 exact f_step (fun mm'=>op_arith (p:=.add) ho hx hy (IntWalk.i64_in _ hr) hd hn) hiE hg hd k
theorem f_sub{p q:Operand}{ty ty':TypeId}{a b:Int}(ho:o.op=.binOp .sub ty p q ty')(hx:Q0 (Q9 (GZ L o) tm) p=some (.c (.int .i64 a)))(hy:Q0 (Q9 (GZ L o) tm) q=some (.c (.int .i64 b)))(hd:o.dst=some d)(hn:Nat.blt d n=true)(hg:QG L (Q9 (GZ L o) tm) o=some true)(hiE:memN E i=false)
 (m:Int)(hm:a - b=m)(hr:-9223372036854775808≤m∧m≤9223372036854775807)(k:FOps C n mmf L tm0 E (i+1) l ((d,.v (.one (.c (.int .i64 m))))::QY tm d) TF):FOps C n mmf L tm0 E i (o::l) tm TF:=by
 subst hm
 exact f_step (fun mm'=>op_arith (p:=.sub) ho hx hy (IntWalk.i64_in _ hr) hd hn) hiE hg hd k
def depN(m:Nat)(L:List Oper)(e0 i:Nat):Bool:=memN (expE L m [e0]) i
theorem g_drawF3{ι:Type}(m q e0:Nat)(E:List Nat)(ids ids0:List Nat)(ET:Nat→ι→TM)(MMx:Nat→ι→MM)(x0:ι){mm:MM}{f:FuncId}{Rr:Ending→World→Prop}{k:List Item}{id:Nat}(hmix:C.P.follows .mixedOrders=true)
 (hm0:MMx 0 x0=mm)(hbase:∀k x,∀q∈outM ids mm,q∈MMx k x)(hbase0:∀k x,k < q+1→∀q∈outM ids0 mm,q∈MMx k x)(hE0:ET 0 x0=[])(hET:∀k x,subE E L (ET k x)=true)
 (hok:okR2 L [] L 0=true)(hu:uniT (JJ L) (cutT (JJ L) tm)=true)(hEl:E≠[])(hq:E[q]? =some e0)(hch:chainL L E=true)
 (h:FOps C n (fun i=>match depN m L e0 i with|true=>outM ids0 mm|false=>outM ids mm) L (cutT (JJ L) tm) E 0 L (cutT (JJ L) tm) fun tmF=>Effs C n L tmF ET MMx 0 E∧∀x,Goes C f n Rr k (tmF++ET E.length x) (MMx E.length x)):
 Goes C f n Rr (.code (.region id L.toArray true)::k) tm mm:=by
 refine g_drawFm _ E ET MMx x0 hmix hm0 hE0 hET hok hu hEl hch (fun listed k hdn hst i hi hiE hf x=>?_) h
 cases hd:depN m L e0 i with
 |false=>exact hbase k x
 |true=>
  refine hbase0 k x ?_
  rcases Nat.lt_or_ge k (q+1)with hk|hk
  ·exact hk
  ·exfalso
   have:=expE_down hdn m (S:=[e0]) (fun e he=>by rw[List.mem_singleton.1 he];exact(hst _ _ hq).2 (by omega)) i (memN_iff.1 hd)
   rw[hf]at this;cases this
end
section
variable {C:Ctx} {n:Nat} {L:List Oper} {tm:TM}
theorem StatE.nil{ι:Type}{tmF:TM}{ET:Nat→ι→TM}{m:Nat}:StatE L tmF ET m []:=trivial
end
section
variable {C:Ctx} {f:FuncId} {n:Nat} {R:Ending→World→Prop} {k:List Item} {tm:TM} {mm:MM}
theorem g_loopU{c:Code}(g:Goes C f n R (.code c::.inLoop c::k) tm mm):Goes C f n R (.code (.loop c)::k) tm mm:=Goes.step (fun _ _ _ _=>step_loop) g
theorem g_inLoopU{c:Code}(g:Goes C f n R (.code c::.inLoop c::k) tm mm):Goes C f n R (.inLoop c::k) tm mm:=Goes.step (fun _ _ _ _=>step_inLoop) g
end
def svF:FV→SV
 |.one c=>.one (.c c)
 |.agg cs=>.agg (mkV.mapS SC.c cs)
theorem repF_sv{I:Nat→Prop}{H:Nat→Value}{Z:Nat→Nat}{w:World}{M:Nat→Prop}{v:Value}{c:FV}(h:RepF w M v c):RepSV I H Z w M v (svF c):=by
 cases c with
 |one c=>exact h
 |agg cs=>
  obtain⟨vs,h1,h2,h3⟩:=h
  refine⟨vs,h1,by rw[mapS_eq,List.length_map];exact h2,fun j c hc=>?_⟩
  rw[mapS_eq,List.getElem?_map]at hc
  cases hq:cs[j]? with
  |none=>rw[hq]at hc;cases hc
  |some c0=>
   rw[hq]at hc;injection hc with hc;subst hc
   exact h3 j c0 hq
theorem sv_repF{I:Nat→Prop}{H:Nat→Value}{Z:Nat→Nat}{w:World}{M:Nat→Prop}{v:Value}{cs:List CT}(h:RepSV I H Z w M v (.agg (mkV.mapS SC.c cs))):RepF w M v (.agg cs):=by
 obtain⟨vs,h1,h2,h3⟩:=h
 rw[mapS_eq]at h2 h3
 exact⟨vs,h1,by simpa using h2,fun j c hc=>h3 j (.c c) (by rw[List.getElem?_map,hc];rfl)⟩
def entG{α:Type}(kf:α→FV)(m:List (α×FV)):List (FV×FV):=m.map fun q=>(kf q.1,q.2)
def hasG{α:Type}[DecidableEq α](m:List (α×FV))(a:α):Bool:=(m.find? fun q=>decide (a=q.1)).isSome
def lookG{α:Type}[DecidableEq α](m:List (α×FV))(a:α)(z:FV):FV:=
 match m.find? fun q=>decide (a=q.1)with
 |some q=>q.2
 |none=>z
def putG{α:Type}[DecidableEq α](m:List (α×FV))(a:α)(c:FV):List (α×FV):=
 match m.findIdx? fun q=>decide (a=q.1)with
 |some i=>m.set i (a,c)
 |none=>m++[(a,c)]
theorem ent_keysG{α:Type}{rep:α→Value}{kf:α→FV}(hkf:∀(w:World) (M:Nat→Prop) (v:Value) (a:α),RepF w M v (kf a)→v=rep a){w:World}{M:Nat→Prop}{m:List (α×FV)}{es:Array MapEntry}
 (hs:es.size=(entG kf m).length)(h:∀(j:Nat) (p:FV×FV),(entG kf m)[j]? =some p→∃en:MapEntry,es[j]? =some en∧RepF w M en.key p.1∧RepF w M en.val p.2):
 es.toList.map (·.key)=(m.map (·.1)).map rep:=by
 apply List.ext_getElem?
 intro j
 rw[List.getElem?_map,List.getElem?_map,List.getElem?_map]
 cases hm:m[j]? with
 |none=>
  have:es.toList[j]? =none:=by
   rw[List.getElem?_eq_none_iff]at hm⊢
   simp[entG]at hs
   simp;omega
  rw[this];rfl
 |some q=>
  obtain⟨en,h1,h2,_⟩:=h j (kf q.1,q.2) (by simp[entG,hm])
  have:es.toList[j]? =some en:=by simpa using h1
  rw[this]
  simp[hkf _ _ _ _ h2]
section
variable {C:Ctx} {n:Nat} {tm:TM} {mm:MM} {o:Oper} {d:Nat} {α:Type} [DecidableEq α]
theorem find_entG{m:List (α×FV)}{a:α}:((m.map (·.1)).findIdx? fun b=>decide (a=b))=m.findIdx? fun q=>decide (a=q.1):=by
 rw[List.findIdx?_map];rfl
theorem op_lookupG{Θ:Tab}(hΘ:QJ C.P Θ){t k e:TypeId}{x y:Operand}{z bts:Nat}{ag:Bool}{zt:Option (List CT)}{ei:TyI}{zc:List CT}{i:Nat}{rep:α→Value}{kf:α→FV}{m:List (α×FV)}{a0:α}{s:SV}
 (ho:o.op=.lookup t x y false)(ht:GW Θ t=some ⟨z,bts,ag,zt,.map k e⟩)(hei:GW Θ e=some ei)(hz:ei.zero=some zc)(hna:ei.agg=true)
 (hK:KeyL C.P k rep)(hkf:∀(w:World) (M:Nat→Prop) (v:Value) (a:α),RepF w M v (kf a)→v=rep a)
 (hx:Q0 tm x=some (.mp i))(hi:J1 mm i=some (.mpo (entG kf m)))(hy:evalV tm y=some s)(hs:∀I H Z w M v,RepSV I H Z w M v s→v=rep a0)(hd:o.dst=some d)(hn:Nat.blt d n=true):
 OpV C n o tm mm d (.v (svF (lookG m a0 (.agg zc)))):=
 OpV.val hd hn _ fun H Z a w hm=>by
  obtain⟨inf,de,hf⟩:=tyF hΘ ht
  obtain⟨inf',de',hf'⟩:=tyF hΘ hei
  obtain⟨zv,hzv,hzc,hzl⟩:=hf'.zero _ hz
  have hde:de=.map k e:=by
   have:=hf.sh
   cases de<;>simp[shChk]at this⊢
   exact this
  subst hde
  obtain⟨_,hv⟩:=Q6 hm hx
  obtain⟨r,es,ck,h1,h2,h3,h4⟩:=hm.mem _ (Q3 hi)
  have hk:=hs _ _ _ _ _ _ (evalV_rep hm hy)
  have hkeys:=ent_keysG hkf h3 h4
  have hfind:=hK.find a0 es.toList (m.map (·.1)) w (by simpa using hkeys)
  rw[find_entG]at hfind
  have hget:(getObj r).run C.P w=.ok (.map es ck) w:=by simp[getObj,Sem.run,h2]
  have hz1:=hf'.zeroValue (w:=w) hzv
  have hzrep:RepF w (Mof C H mm) zv (.agg zc):=by
   rw[hna]at hzc
   cases zv with
   |agg vs=>
    obtain⟨q1,q2⟩:=zchkL_rep (w:=w) (M:=Mof C H mm) (show zchkL vs.toList zc=true from hzc)
    exact⟨vs,rfl,by simpa using q1,fun j c hc=>let⟨u,hu,hr⟩:=q2 j c hc;⟨u,by simpa using hu,hr⟩⟩
   |_=>simp[zchk]at hzc
  cases hfi:m.findIdx? fun q=>decide (a0=q.1)with
  |none=>
   have hl:lookG m a0 (.agg zc)=.agg zc:=by
    have:m.find? (fun q=>decide (a0=q.1))=none:=by
     rw[List.find?_eq_none]
     intro q hq
     rw[List.findIdx?_eq_none_iff]at hfi
     simp[hfi q hq]
    simp[lookG,this]
   rw[hl]
   refine⟨zv,?_,repF_sv hzrep⟩
   rw[hfi]at hfind
   simp only[execOp,ho,Instr.lookup,Sem.run_bind,hf.underlying,Result.andThen_ok,hv,h1,hk,hget,hK.chk,Sem.run_pure]
   simp at hfind
   simp[hfind,hz1,Sem.run_bind]
  |some j=>
   have hfi':=hfi
   rw[List.findIdx?_eq_some_iff_getElem]at hfi'
   obtain⟨hj,hj1,hj2⟩:=hfi'
   have hl:lookG m a0 (.agg zc)=m[j].2:=by
    have:m.find? (fun q=>decide (a0=q.1))=some m[j]:=by
     rw[List.find?_eq_some_iff_getElem]
     exact⟨hj1,j,hj,rfl,fun i hi=>by simpa using hj2 i hi⟩
    simp[lookG,this]
   rw[hl]
   obtain⟨en,g1,g2,g3⟩:=h4 j (kf m[j].1,m[j].2) (by simp[entG,hj])
   refine⟨en.val,?_,repF_sv g3⟩
   rw[hfi]at hfind
   have g1':es.toList[j]? =some en:=by simpa using g1
   simp only[Option.bind_some,g1',Option.map_some]at hfind
   simp only[execOp,ho,Instr.lookup,Sem.run_bind,hf.underlying,Result.andThen_ok,hv,h1,hk,hget,hK.chk,Sem.run_pure,hfind]
   simp
theorem op_mapUpdateG{Θ:Tab}(hΘ:QJ C.P Θ){t k e:TypeId}{x y vx:Operand}{z bts:Nat}{ag:Bool}{zt:Option (List CT)}{c:FV}{i:Nat}{rep:α→Value}{kf:α→FV}{m:List (α×FV)}{a0:α}{s:SV}
 (ho:o.op=.mapUpdate t x y vx∨o.op=.insert t x y vx)(ht:GW Θ t=some ⟨z,bts,ag,zt,.map k e⟩)
 (hK:KeyL C.P k rep)(hkf:∀(w:World) (M:Nat→Prop) (v:Value) (a:α),RepF w M v (kf a)↔v=rep a)
 (hx:Q0 tm x=some (.mp i))(hi:J1 mm i=some (.mpo (entG kf m)))(hy:evalV tm y=some s)(hs:∀I H Z w M v,RepSV I H Z w M v s→v=rep a0)(hvx:∀H Z a w,Mod C H Z n tm mm a w→RepF w (Mof C H mm) (a.eval vx) c)
 (hd:o.dst=none):OpR C n o tm mm tm (K1 mm i (.mpo (entG kf (putG m a0 c)))):=by
 intro a w ⟨H,Z,hm⟩
 obtain⟨inf,de,hf⟩:=tyF hΘ ht
 have hde:de=.map k e:=by
  have:=hf.sh
  cases de<;>simp[shChk]at this⊢
  exact this
 subst hde
 obtain⟨_,hv⟩:=Q6 hm hx
 obtain⟨r,es,ck,h1,h2,h3,h4⟩:=hm.mem _ (Q3 hi)
 have hk:=hs _ _ _ _ _ _ (evalV_rep hm hy)
 have hval:RepF w (Mof C H mm) (a.eval vx) c:=hvx _ _ _ _ hm
 have hkeys:=ent_keysG (fun w M v a h=>(hkf w M v a).1 h) h3 h4
 have hfind:=hK.find a0 es.toList (m.map (·.1)) w (by simpa using hkeys)
 rw[find_entG]at hfind
 have hHb:Hb (H i) r:=by rw[h1];rfl
 have hrl:r < w.heap.size:=(Array.getElem?_eq_some_iff.1 h2).1
 have fin:∀(es':Array MapEntry) (ck':Nat),(execOp a.eval o).run C.P w=.ok .skip {w with heap:=w.heap.setIfInBounds r (.map es' ck')}→es'.size=(entG kf (putG m a0 c)).length→
  (∀(j:Nat) (p:FV×FV),(entG kf (putG m a0 c))[j]? =some p→∃en:MapEntry,es'[j]? =some en∧RepF w (Mof C H mm) en.key p.1∧RepF w (Mof C H mm) en.val p.2)→
  (∃v w',(execOp a.eval o).run C.P w=.ok (.value v) w'∧Has C n tm (K1 mm i (.mpo (entG kf (putG m a0 c)))) (a.put o.dst v) w')∨
  (∃w',(execOp a.eval o).run C.P w=.ok .skip w'∧Has C n tm (K1 mm i (.mpo (entG kf (putG m a0 c)))) (a.put o.dst undef) w'):=by
  intro es' ck' hrun hsz hent
  have hext:Ext (fun b=>b=r) w {w with heap:=w.heap.setIfInBounds r (.map es' ck')}:=
   ⟨rfl,rfl,rfl,by simp,fun k _ hne=>by simp[Array.getElem?_setIfInBounds_ne (Ne.symm hne)]⟩
  refine .inr ⟨_,hrun,H,Z,?_⟩
  rw[hd]
  refine hm.upd (b0:=r) ⟨_,Q3 hi,rfl⟩ hHb hext hm.defers hm.size ?_ (fun p hp=>⟨hp,rfl⟩)
  intro hMM hfr
  refine⟨r,es',ck',h1,by simp[hrl],hsz,fun j p hp=>?_⟩
  obtain⟨en,q1,q2,q3⟩:=hent j p hp
  exact⟨en,q1,q2.mono hext.size hfr hMM,q3.mono hext.size hfr hMM⟩
 cases hfi:m.findIdx? fun q=>decide (a0=q.1)with
 |none=>
  rw[hfi]at hfind
  simp only[Option.bind_none]at hfind
  have hput:putG m a0 c=m++[(a0,c)]:=by simp[putG,hfi]
  refine fin (es.push {key:=rep a0,val:=a.eval vx,born:=ck}) (ck+1) ?_ ?_ ?_
  ·rcases ho with ho|ho<;>
    simp[execOp,ho,Instr.mapUpdate,Sem.run_bind,hf.underlying,hv,h1,hk,MapKept.run_getObj_map h2,hK.chk,hfind,MapKept.run_setObj_map _ h2,Result.andThen]
  ·rw[hput];simp[entG]at h3⊢;exact h3
  ·intro j p hp
   rw[hput]at hp
   simp only[entG,List.map_append,List.map_cons,List.map_nil]at hp
   have hml:es.size=(m.map fun q=>(kf q.1,q.2)).length:=h3
   rw[List.getElem?_append]at hp
   split at hp
   ·rename_i hjl
    obtain⟨en,q1,q2⟩:=h4 j p hp
    exact⟨en,by rw[Array.getElem?_push,if_neg (by omega)];exact q1,q2⟩
   ·rename_i hjl
    have hj0:j=es.size:=by
     have:=(List.getElem?_eq_some_iff.1 hp).1
     simp at this hjl hml
     omega
    subst hj0
    rw[hml,Nat.sub_self]at hp
    simp at hp
    subst hp
    refine⟨{key:=rep a0,val:=a.eval vx,born:=ck},by rw[Array.getElem?_push,if_pos rfl],(hkf _ _ _ _).2 rfl,?_⟩
    exact hval
 |some j=>
  have hfi':=hfi
  rw[List.findIdx?_eq_some_iff_getElem]at hfi'
  obtain⟨hj,hj1,hj2⟩:=hfi'
  obtain⟨en,g1,g2,g3⟩:=h4 j (kf m[j].1,m[j].2) (by simp[entG,hj])
  have hkey:en.key=rep a0:=by
   rw[(hkf _ _ _ _).1 g2]
   have:a0=m[j].1:=by simpa using hj1
   rw[←this]
  rw[hfi]at hfind
  have g1':es.toList[j]? =some en:=by simpa using g1
  simp only[Option.bind_some,g1',Option.map_some]at hfind
  have hput:putG m a0 c=m.set j (a0,c):=by simp[putG,hfi]
  refine fin (es.modify j fun e=>{e with key:=rep a0,val:=a.eval vx}) ck ?_ ?_ ?_
  ·rcases ho with ho|ho<;>
    simp[execOp,ho,Instr.mapUpdate,Sem.run_bind,hf.underlying,hv,h1,hk,MapKept.run_getObj_map h2,hK.chk,hfind,g1,hkey,Instr.keyThatStays,hK.bits,MapKept.run_setObj_map _ h2,Result.andThen]
  ·rw[hput];simp[entG]at h3⊢;exact h3
  ·intro j' p hp
   rw[hput]at hp
   simp only[entG,List.getElem?_map,List.getElem?_set]at hp
   by_cases hjj:j=j'
   ·subst hjj
    rw[if_pos rfl,if_pos hj]at hp
    simp at hp
    subst hp
    refine⟨{en with key:=rep a0,val:=a.eval vx},by rw[Array.getElem?_modify,if_pos rfl,g1];rfl,(hkf _ _ _ _).2 rfl,?_⟩
    exact hval
   ·rw[if_neg hjj]at hp
    obtain⟨en',q1,q2⟩:=h4 j' p (by simpa[entG]using hp)
    exact⟨en',by rw[Array.getElem?_modify,if_neg hjj];exact q1,q2⟩
theorem op_lookupOkG{Θ:Tab}(hΘ:QJ C.P Θ){t k e:TypeId}{x y:Operand}{z bts:Nat}{ag:Bool}{zt:Option (List CT)}{ei:TyI}{zc:List CT}{i:Nat}{rep:α→Value}{kf:α→FV}{m:List (α×FV)}{a0:α}{s:SV}
 (ho:o.op=.lookup t x y true)(ht:GW Θ t=some ⟨z,bts,ag,zt,.map k e⟩)(hei:GW Θ e=some ei)(hz:ei.zero=some zc)(hna:ei.agg=true)
 (hK:KeyL C.P k rep)(hkf:∀(w:World) (M:Nat→Prop) (v:Value) (a:α),RepF w M v (kf a)→v=rep a)
 (hx:Q0 tm x=some (.mp i))(hi:J1 mm i=some (.mpo (entG kf m)))(hy:evalV tm y=some s)(hs:∀I H Z w M v,RepSV I H Z w M v s→v=rep a0)(hd:o.dst=some d)(hn:Nat.blt d n=true):
 OpV C n o tm mm d (.tup [svF (lookG m a0 (.agg zc)),.one (.c (.bool (hasG m a0)))]):=
 OpV.val hd hn _ fun H Z a w hm=>by
  have hpair:∀(v:Value) (b:Bool) (c:FV),RepF w (Mof C H mm) v c→RepST (Iof mm) H Z w (Mof C H mm) (.tuple #[v,.bool b]) (.tup [svF c,.one (.c (.bool b))]):=by
   intro v b c hv
   refine⟨_,rfl,rfl,fun j s hs=>?_⟩
   match j,hs with
   |0,hs=>simp at hs;subst hs;exact⟨v,rfl,repF_sv hv⟩
   |1,hs=>simp at hs;subst hs;exact⟨.bool b,rfl,RepC.bool b⟩
   |j+2,hs=>simp at hs
  obtain⟨inf,de,hf⟩:=tyF hΘ ht
  obtain⟨inf',de',hf'⟩:=tyF hΘ hei
  obtain⟨zv,hzv,hzc,hzl⟩:=hf'.zero _ hz
  have hde:de=.map k e:=by
   have:=hf.sh
   cases de<;>simp[shChk]at this⊢
   exact this
  subst hde
  obtain⟨_,hv⟩:=Q6 hm hx
  obtain⟨r,es,ck,h1,h2,h3,h4⟩:=hm.mem _ (Q3 hi)
  have hk:=hs _ _ _ _ _ _ (evalV_rep hm hy)
  have hkeys:=ent_keysG hkf h3 h4
  have hfind:=hK.find a0 es.toList (m.map (·.1)) w (by simpa using hkeys)
  rw[find_entG]at hfind
  have hget:(getObj r).run C.P w=.ok (.map es ck) w:=by simp[getObj,Sem.run,h2]
  have hz1:=hf'.zeroValue (w:=w) hzv
  have hzrep:RepF w (Mof C H mm) zv (.agg zc):=by
   rw[hna]at hzc
   cases zv with
   |agg vs=>
    obtain⟨q1,q2⟩:=zchkL_rep (w:=w) (M:=Mof C H mm) (show zchkL vs.toList zc=true from hzc)
    exact⟨vs,rfl,by simpa using q1,fun j c hc=>let⟨u,hu,hr⟩:=q2 j c hc;⟨u,by simpa using hu,hr⟩⟩
   |_=>simp[zchk]at hzc
  cases hfi:m.findIdx? fun q=>decide (a0=q.1)with
  |none=>
   have hnf:m.find? (fun q=>decide (a0=q.1))=none:=by
    rw[List.find?_eq_none]
    intro q hq
    rw[List.findIdx?_eq_none_iff]at hfi
    simp[hfi q hq]
   have hl:lookG m a0 (.agg zc)=.agg zc:=by simp[lookG,hnf]
   have hb:hasG m a0=false:=by simp[hasG,hnf]
   rw[hl,hb]
   refine⟨.tuple #[zv,.bool false],?_,hpair _ _ _ hzrep⟩
   rw[hfi]at hfind
   simp only[execOp,ho,Instr.lookup,Sem.run_bind,hf.underlying,Result.andThen_ok,hv,h1,hk,hget,hK.chk,Sem.run_pure]
   simp at hfind
   simp[hfind,hz1,Sem.run_bind]
  |some j=>
   have hfi':=hfi
   rw[List.findIdx?_eq_some_iff_getElem]at hfi'
   obtain⟨hj,hj1,hj2⟩:=hfi'
   have hsf:m.find? (fun q=>decide (a0=q.1))=some m[j]:=by
    rw[List.find?_eq_some_iff_getElem]
    exact⟨hj1,j,hj,rfl,fun i hi=>by simpa using hj2 i hi⟩
   have hl:lookG m a0 (.agg zc)=m[j].2:=by simp[lookG,hsf]
   have hb:hasG m a0=true:=by simp[hasG,hsf]
   rw[hl,hb]
   obtain⟨en,g1,g2,g3⟩:=h4 j (kf m[j].1,m[j].2) (by simp[entG,hj])
   refine⟨.tuple #[en.val,.bool true],?_,hpair _ _ _ g3⟩
   rw[hfi]at hfind
   have g1':es.toList[j]? =some en:=by simpa using g1
   simp only[Option.bind_some,g1',Option.map_some]at hfind
   simp only[execOp,ho,Instr.lookup,Sem.run_bind,hf.underlying,Result.andThen_ok,hv,h1,hk,hget,hK.chk,Sem.run_pure,hfind]
   simp
end
abbrev carF(q:Int×ByteArray):FV:=.agg [.int .i64 q.1,.str q.2]
abbrev CarM:=List (ByteArray×(Int×ByteArray))
def entK(m:CarM):List (FV×FV):=entG strF (m.map fun q=>(q.1,carF q.2))
def lookK(m:CarM)(a:ByteArray):Option (Int×ByteArray):=(m.find? fun q=>decide (a=q.1)).map (·.2)
def lookKD(m:CarM)(a:ByteArray):Int×ByteArray:=(lookK m a).getD (0,⟨#[]⟩)
def putK(m:CarM)(a:ByteArray)(c:Int×ByteArray):CarM:=
 match m.findIdx? fun q=>decide (a=q.1)with
 |some i=>m.set i (a,c)
 |none=>m++[(a,c)]
theorem lookG_K(m:CarM)(a:ByteArray):lookG (m.map fun q=>(q.1,carF q.2)) a (.agg [.int .i64 0,.str ⟨#[]⟩])=carF (lookKD m a):=by
 unfold lookG lookKD lookK
 rw[List.find?_map]
 cases h:m.find? ((fun q:ByteArray×FV=>decide (a=q.1)) ∘ fun q:ByteArray×(Int×ByteArray)=>(q.1,carF q.2))with
 |none=>
  have h':m.find? (fun q=>decide (a=q.1))=none:=h
  rw[h'];rfl
 |some q=>
  have h':m.find? (fun q=>decide (a=q.1))=some q:=h
  rw[h'];rfl
theorem hasG_K(m:CarM)(a:ByteArray):hasG (m.map fun q=>(q.1,carF q.2)) a=(lookK m a).isSome:=by
 unfold hasG lookK
 rw[List.find?_map,Option.isSome_map,Option.isSome_map];rfl
theorem putG_K(m:CarM)(a:ByteArray)(c:Int×ByteArray):putG (m.map fun q=>(q.1,carF q.2)) a (carF c)=(putK m a c).map fun q=>(q.1,carF q.2):=by
 unfold putG putK
 rw[List.findIdx?_map]
 cases h:m.findIdx? fun q=>decide (a=q.1)with
 |none=>
  have h':m.findIdx? ((fun q:ByteArray×FV=>decide (a=q.1)) ∘ fun q:ByteArray×(Int×ByteArray)=>(q.1,carF q.2))=none:=h
  rw[h'];simp
 |some i=>
  have h':m.findIdx? ((fun q:ByteArray×FV=>decide (a=q.1)) ∘ fun q:ByteArray×(Int×ByteArray)=>(q.1,carF q.2))=some i:=h
  rw[h'];simp
section
variable {C:Ctx} {n:Nat} {tm:TM} {mm:MM} {L l:List Oper} {T:TM→MM→Prop} {o:Oper} {d:Nat} {x y vx:Operand}
theorem op_lookKOk{Θ:Tab}(hΘ:QJ C.P Θ){t k e:TypeId}{z bts zk bk ze be:Nat}{ag agk:Bool}{zt ztk:Option (List CT)}{she:Sh}{i:Nat}{m:CarM}{a0:ByteArray}
 (ho:o.op=.lookup t x y true)(ht:GW Θ t=some ⟨z,bts,ag,zt,.map k e⟩)(hk:GW Θ k=some ⟨zk,bk,agk,ztk,.string⟩)(hei:GW Θ e=some ⟨ze,be,true,some [.int .i64 0,.str ⟨#[]⟩],she⟩)
 (hx:Q0 tm x=some (.mp i))(hi:J1 mm i=some (.mpo (entK m)))(hy:evalV tm y=some (.one (.c (.str a0))))(hd:o.dst=some d)(hn:Nat.blt d n=true):
 OpV C n o tm mm d (.tup [.agg [.c (.int .i64 (lookKD m a0).1),.c (.str (lookKD m a0).2)],.one (.c (.bool (lookK m a0).isSome))]):=by
 have h:=op_lookupOkG (n:=n) hΘ ho ht hei rfl rfl (tyF_str hΘ hk) (fun w M v a h=>(strF_iff w M v a).1 h) hx hi hy strS_rep hd hn
 rw[lookG_K,hasG_K]at h
 exact h
theorem op_lookK{Θ:Tab}(hΘ:QJ C.P Θ){t k e:TypeId}{z bts zk bk ze be:Nat}{ag agk:Bool}{zt ztk:Option (List CT)}{she:Sh}{i:Nat}{m:CarM}{a0:ByteArray}
 (ho:o.op=.lookup t x y false)(ht:GW Θ t=some ⟨z,bts,ag,zt,.map k e⟩)(hk:GW Θ k=some ⟨zk,bk,agk,ztk,.string⟩)(hei:GW Θ e=some ⟨ze,be,true,some [.int .i64 0,.str ⟨#[]⟩],she⟩)
 (hx:Q0 tm x=some (.mp i))(hi:J1 mm i=some (.mpo (entK m)))(hy:evalV tm y=some (.one (.c (.str a0))))(hd:o.dst=some d)(hn:Nat.blt d n=true):
 OpV C n o tm mm d (.v (.agg [.c (.int .i64 (lookKD m a0).1),.c (.str (lookKD m a0).2)])):=by
 have h:=op_lookupG (n:=n) hΘ ho ht hei rfl rfl (tyF_str hΘ hk) (fun w M v a h=>(strF_iff w M v a).1 h) hx hi hy strS_rep hd hn
 rw[lookG_K]at h
 exact h
theorem op_putK{Θ:Tab}(hΘ:QJ C.P Θ){t k e:TypeId}{z bts zk bk:Nat}{ag agk:Bool}{zt ztk:Option (List CT)}{i:Nat}{m:CarM}{a0:ByteArray}{c:Int}{s:ByteArray}
 (ho:o.op=.mapUpdate t x y vx∨o.op=.insert t x y vx)(ht:GW Θ t=some ⟨z,bts,ag,zt,.map k e⟩)(hk:GW Θ k=some ⟨zk,bk,agk,ztk,.string⟩)
 (hx:Q0 tm x=some (.mp i))(hi:J1 mm i=some (.mpo (entK m)))(hy:evalV tm y=some (.one (.c (.str a0))))(hvx:evalV tm vx=some (.agg [.c (.int .i64 c),.c (.str s)]))(hd:o.dst=none):
 OpR C n o tm mm tm (K1 mm i (.mpo (entK (putK m a0 (c,s))))):=by
 have h:=op_mapUpdateG (n:=n) hΘ ho ht (tyF_str hΘ hk) strF_iff hx hi hy strS_rep (c:=carF (c,s)) (fun H Z a w hm=>sv_repF (evalV_rep hm hvx)) hd
 rw[putG_K]at h
 exact h
theorem s_lookKOk{Θ:Tab}(hΘ:QJ C.P Θ){t k e:TypeId}{z bts zk bk ze be:Nat}{ag agk:Bool}{zt ztk:Option (List CT)}{she:Sh}{i:Nat}{m:CarM}{a0:ByteArray}
 (ho:o.op=.lookup t x y true)(ht:GW Θ t=some ⟨z,bts,ag,zt,.map k e⟩)(hk:GW Θ k=some ⟨zk,bk,agk,ztk,.string⟩)(hei:GW Θ e=some ⟨ze,be,true,some [.int .i64 0,.str ⟨#[]⟩],she⟩)
 (hx:Q0 tm x=some (.mp i))(hi:J1 mm i=some (.mpo (entK m)))(hy:evalV tm y=some (.one (.c (.str a0))))(hd:o.dst=some d)(hn:Nat.blt d n=true)(hg:QG L tm o=some true)
 (g:SOps C n L.toArray l ((d,.tup [.agg [.c (.int .i64 (lookKD m a0).1),.c (.str (lookKD m a0).2)],.one (.c (.bool (lookK m a0).isSome))])::QY tm d) mm T):SOps C n L.toArray (o::l) tm mm T:=
 K0 (op_lookKOk hΘ ho ht hk hei hx hi hy hd hn).wp hg g
theorem s_lookK{Θ:Tab}(hΘ:QJ C.P Θ){t k e:TypeId}{z bts zk bk ze be:Nat}{ag agk:Bool}{zt ztk:Option (List CT)}{she:Sh}{i:Nat}{m:CarM}{a0:ByteArray}
 (ho:o.op=.lookup t x y false)(ht:GW Θ t=some ⟨z,bts,ag,zt,.map k e⟩)(hk:GW Θ k=some ⟨zk,bk,agk,ztk,.string⟩)(hei:GW Θ e=some ⟨ze,be,true,some [.int .i64 0,.str ⟨#[]⟩],she⟩)
 (hx:Q0 tm x=some (.mp i))(hi:J1 mm i=some (.mpo (entK m)))(hy:evalV tm y=some (.one (.c (.str a0))))(hd:o.dst=some d)(hn:Nat.blt d n=true)(hg:QG L tm o=some true)
 (g:SOps C n L.toArray l ((d,.v (.agg [.c (.int .i64 (lookKD m a0).1),.c (.str (lookKD m a0).2)]))::QY tm d) mm T):SOps C n L.toArray (o::l) tm mm T:=
 K0 (op_lookK hΘ ho ht hk hei hx hi hy hd hn).wp hg g
theorem s_putK{Θ:Tab}(hΘ:QJ C.P Θ){t k e:TypeId}{z bts zk bk:Nat}{ag agk:Bool}{zt ztk:Option (List CT)}{i:Nat}{m:CarM}{a0:ByteArray}{c:Int}{s:ByteArray}
 (ho:o.op=.mapUpdate t x y vx∨o.op=.insert t x y vx)(ht:GW Θ t=some ⟨z,bts,ag,zt,.map k e⟩)(hk:GW Θ k=some ⟨zk,bk,agk,ztk,.string⟩)
 (hx:Q0 tm x=some (.mp i))(hi:J1 mm i=some (.mpo (entK m)))(hy:evalV tm y=some (.one (.c (.str a0))))(hvx:evalV tm vx=some (.agg [.c (.int .i64 c),.c (.str s)]))(hd:o.dst=none)(hg:QG L tm o=some true)
 (g:SOps C n L.toArray l tm (K1 mm i (.mpo (entK (putK m a0 (c,s))))) T):SOps C n L.toArray (o::l) tm mm T:=
 K0 (op_putK (n:=n) hΘ ho ht hk hx hi hy hvx hd).wp hg g
end
end Go.Sy
