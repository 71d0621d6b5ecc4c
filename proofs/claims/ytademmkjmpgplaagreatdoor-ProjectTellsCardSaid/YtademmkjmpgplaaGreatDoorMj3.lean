/- Layer: maps from texts to rows of one's own (the headers lie in the map, the rows in a pool). The plain law of what project's turned gathers. -/
import Derived.Test.YtademmkjmpgplaaGreatDoorMj2
import Derived.Test.YtademmkjmpgplaaGreatDoorBn1
import Derived.Laws.StructEq
import Derived.Test.YtademmkjmpgplaaGreatDoorMj1
set_option linter.unusedSimpArgs false
set_option linter.unusedVariables false
set_option linter.unusedSectionVars false
namespace Go.Sy
open Go.Proofs
set_option maxRecDepth 100000
abbrev RowM:=List (ByteArray×Value×List Int)
def valV(x:RowM):List (ByteArray×CT):=x.map fun q=>(q.1,CT.val q.2.1)
def poolR(x:RowM):PQ:=x.map fun q=>(q.2.1,rowI' q.2.2)
def frzV(x:RowM):List (ByteArray×CT):=x.map fun q=>(q.1,intsT q.2.2)
def nxtX(x:RowM)(s:ByteArray):List Int:=((x.find? fun q=>decide (s=q.1)).map fun q=>q.2.2).getD []
def updR(x:RowM)(s:ByteArray)(v:Value)(n:Int):RowM:=
 match x with
 |[]=>[(s,v,[n])]
 |q::x=>if s=q.1 then(s,v,q.2.2++[n])::x else q::updR x s v n
theorem nxt_upd:∀(x:RowM) (s:ByteArray) (v:Value) (n:Int) (s':ByteArray),nxtX (updR x s v n) s'=if s'=s then nxtX x s++[n]else nxtX x s'
 |[],s,v,n,s'=>by
  unfold updR nxtX
  by_cases h:s'=s<;>simp[h]
 |q::x,s,v,n,s'=>by
  have ih:=nxt_upd x s v n s'
  unfold nxtX at ih
  unfold updR nxtX
  by_cases h:s=q.1
  ·rw[if_pos h]
   by_cases h':s'=s
   ·subst h';simp[h]
   ·have h2:¬s'=q.1:=fun e=>h' (e.trans h.symm)
    simp[h',h2]
  ·rw[if_neg h]
   by_cases h':s'=q.1
   ·have h2:¬s'=s:=fun e=>h (e.symm.trans h')
    rw[if_neg h2]
    simp[h']
   ·rw[List.find?_cons_of_neg (by simpa using h'),ih]
    by_cases h2:s'=s
    ·rw[if_pos h2,if_pos h2,List.find?_cons_of_neg (by simpa using h)]
    ·rw[if_neg h2,if_neg h2,List.find?_cons_of_neg (by simpa using h')]
theorem putC_cons{α:Type}[DecidableEq α](q:α×CT)(m:List (α×CT))(a:α)(c:CT):putC (q::m) a c=if a=q.1 then(a,c)::m else q::putC m a c:=by
 unfold putC
 rw[List.findIdx?_cons]
 by_cases h:a=q.1
 ·simp[h]
 ·simp only[h,decide_false,if_false,Bool.false_eq_true]
  cases m.findIdx? fun q=>decide (a=q.1)<;>simp
theorem val_upd:∀(x:RowM) (s:ByteArray) (v:Value) (n:Int),valV (updR x s v n)=putC (valV x) s (.val v)
 |[],s,v,n=>rfl
 |q::x,s,v,n=>by
  have ih:=val_upd x s v n
  show valV (updR (q::x) s v n)=putC ((q.1,CT.val q.2.1)::valV x) s (.val v)
  rw[putC_cons,updR]
  split
  ·rfl
  ·rw[←ih];rfl
theorem find_at:∀(x:RowM) (s:ByteArray),(∃(c:Nat) (v:Value),lookC (valV x) s .nils=.val v∧(poolR x)[c]? =some (v,rowI' (nxtX x s))∧∀v' n,poolR (updR x s v' n)=(poolR x).set c (v',rowI' (nxtX x s)++[[.int .i64 n]]))∨
 (lookC (valV x) s .nils=.nils∧nxtX x s=[]∧∀v' n,poolR (updR x s v' n)=(poolR x++[(Value.slice none 0 0,[])]).set x.length (v',[[.int .i64 n]]))
 |[],s=>.inr ⟨rfl,rfl,fun v' n=>rfl⟩
 |q::x,s=>by
  by_cases h:s=q.1
  ·refine .inl ⟨0,q.2.1,?_,?_,fun v' n=>?_⟩
   ·simp[lookC,valV,h]
   ·simp[poolR,nxtX,h]
   ·rw[updR,if_pos h];simp[poolR,nxtX,h]
  ·have e1:lookC (valV (q::x)) s .nils=lookC (valV x) s .nils:=by simp[lookC,valV,h]
   have e2:nxtX (q::x) s=nxtX x s:=by simp[nxtX,h]
   rcases find_at x s with⟨c,v,h1,h2,h3⟩|⟨h1,h2,h3⟩
   ·refine .inl ⟨c+1,v,by rw[e1,h1],by rw[e2];exact h2,fun v' n=>?_⟩
    rw[updR,if_neg h,e2]
    show(q.2.1,rowI' q.2.2)::poolR (updR x s v' n)=_
    rw[h3];rfl
   ·refine .inr ⟨by rw[e1,h1],by rw[e2,h2],fun v' n=>?_⟩
    rw[updR,if_neg h]
    show(q.2.1,rowI' q.2.2)::poolR (updR x s v' n)=_
    rw[h3];rfl
theorem frz_look:∀(x:RowM) (s:ByteArray),LeC (lookC (frzV x) s .nils) (intsT (nxtX x s))
 |[],s=>.nil 1
 |q::x,s=>by
  by_cases h:s=q.1
  ·rw[show lookC (frzV (q::x)) s .nils=intsT (nxtX (q::x) s) by simp[lookC,frzV,nxtX,h]];exact .refl _
  ·rw[show lookC (frzV (q::x)) s .nils=lookC (frzV x) s .nils by simp[lookC,frzV,h],show nxtX (q::x) s=nxtX x s by simp[nxtX,h]]
   exact frz_look x s
theorem poolR_len(x:RowM):(poolR x).length=x.length:=by simp[poolR]
section
variable {C:Ctx} {n:Nat} {tm:TM} {mm:MM} {o:Oper} {d:Nat}
theorem OpV.weaken{st st':ST}(h:OpV C n o tm mm d st)(hw:∀(I:Nat→Prop) (H:Nat→Value) (Z:Nat→Nat) (w:World) (M:Nat→Prop) (v:Value),RepST I H Z w M v st→RepST I H Z w M v st'):OpV C n o tm mm d st':=
 ⟨h.1,fun H Z a w hm=>let⟨v,h1,h2⟩:=h.2 H Z a w hm;⟨v,h1,hw _ _ _ _ _ _ h2⟩⟩
theorem nil_val{I:Nat→Prop}{H:Nat→Value}{Z:Nat→Nat}{w:World}{M:Nat→Prop}{v:Value}(h:RepST I H Z w M v (.v (.one (.c .nils)))):RepST I H Z w M v (.v (.one (.c (.val (.slice none 0 0))))):=by
 have hv:v=.slice none 0 0:=RepC.nils_inv h
 subst hv
 exact RepC.val _ rfl
end
section
variable {C:Ctx} {n:Nat} {tm tm0:TM} {mmf:Nat→MM} {L l:List Oper} {TF:TM→Prop} {o:Oper} {d i:Nat} {p q:Operand} {E:List Nat}
theorem f_lookV{Θ:Tab}(hΘ:QJ C.P Θ){t k e:TypeId}{z bts zk bk ze be:Nat}{ag agk:Bool}{zt ztk:Option (List CT)}{she:Sh}{r:Nat}{m:List (ByteArray×CT)}{a0:ByteArray}
 (ho:o.op=.lookup t p q false)(ht:GW Θ t=some ⟨z,bts,ag,zt,.map k e⟩)(hk:GW Θ k=some ⟨zk,bk,agk,ztk,.string⟩)(hei:GW Θ e=some ⟨ze,be,false,some [.nils],she⟩)
 (hx:Q0 (Q9 (GZ L o) tm) p=some (.mp r))(hi:J1 (mmf i) r=some (.mpo (entF strF m)))(hy:evalV (Q9 (GZ L o) tm) q=some (.one (.c (.str a0))))(hd:o.dst=some d)(hn:Nat.blt d n=true)
 (hg:QG L (Q9 (GZ L o) tm) o=some true)(hiE:memN E i=false)(v:Value)(hl:lookC m a0 .nils=.val v∨(lookC m a0 .nils=.nils∧v=.slice none 0 0))
 (g:FOps C n mmf L tm0 E (i+1) l ((d,.v (.one (.c (.val v))))::QY tm d) TF):FOps C n mmf L tm0 E i (o::l) tm TF:=by
 refine FOps.step hiE hg (fun mm' hb hu=>?_) hd g
 have h:=op_lookup (n:=n) hΘ ho ht hei rfl rfl (tyF_str hΘ hk) (fun w M v a h=>(strF_iff w M v a).1 h) hx (mono_get hb hu _ _ hi) hy strS_rep hd hn
 refine OpV.toX ?_
 rcases hl with hl|⟨hl,rfl⟩
 ·rw[hl]at h;exact h
 ·rw[hl]at h;exact h.weaken fun _ _ _ _ _ _=>nil_val
end
section
variable {C:Ctx} {n:Nat} {L:List Oper} {ι:Type} {tmF:TM} {ET:Nat→ι→TM} {MMx:Nat→ι→MM} {k:Nat} {x:ι} {o:Oper} {p q r:Operand}
theorem ef_putS{Θ:Tab}(hΘ:QJ C.P Θ){t kk e:TypeId}{z bts zk bk:Nat}{ag agk:Bool}{zt ztk:Option (List CT)}{c:CT}{i:Nat}{m:List (ByteArray×CT)}{a0:ByteArray}
 (ho:o.op=.mapUpdate t p q r∨o.op=.insert t p q r)(ht:GW Θ t=some ⟨z,bts,ag,zt,.map kk e⟩)(hk:GW Θ kk=some ⟨zk,bk,agk,ztk,.string⟩)
 (hx:Q0 (Q9 (GZ L o) (tmF++ET k x)) p=some (.mp i))(hi:J1 (MMx k x) i=some (.mpo (entF strF m)))(hy:evalV (Q9 (GZ L o) (tmF++ET k x)) q=some (.one (.c (.str a0))))
 (hvx:evalD (Q9 (GZ L o) (tmF++ET k x)) r=some (.one (.c c)))(hd:o.dst=none)(hg:QG L (Q9 (GZ L o) (tmF++ET k x)) o=some true)
 (hET:ET (k+1) x=[])(hM:MMx (k+1) x=K1 (MMx k x) i (.mpo (entF strF (putC m a0 c)))):EffOK C n L tmF ET MMx k x o:=by
 refine eff_core hg fun tm a w K Q hin hh hK=>?_
 refine(op_mapUpdate (n:=n) (tm:=Q9 (GZ L o) (tmF++ET k x)++tm) hΘ ho ht (tyF_str hΘ hk) strF_iff (evalC_app hx) hi (evalV_app hy) strS_rep (evalD_app hvx) hd).wp a w K Q (hh.incl fun p hp=>(List.mem_append.1 hp).elim (hin p) id) fun a' w' h'=>?_
 exact hK x _ a' w' (fun p hp hpt=>List.mem_append_right _ hpt) (fun p hp=>by rw[hET]at hp;cases hp) (by rw[hM];exact h')
end
section
variable {C:Ctx} {n:Nat} {tm:TM} {mm:MM} {f:FuncId} {R:Ending→World→Prop} {k:List Item}
theorem Has.freezeV{a:Act}{w:World}(i j:Nat){e:Nat}{x:RowM}(hij:Nat.beq i j=false)(hi:J1 mm i=some (.pool e 1 (poolR x)))(hig:Nat.blt i G7=true)(hj:J1 mm j=some (.mpo (entF strF (valV x))))
 (hno:noUse i mm=true)(hnt:noUseT i tm=true)(h:Has C n tm mm a w):Has C n tm (K1 (outM [i] mm) j (.mpo (entF strF (frzV x)))) a w:=by
 refine h.dropPool hij hi hig hj hno hnt fun I I' H Z w M M' hI hM hp hn hmem=>?_
 obtain⟨r,es,ck,h1,h2,h3,h4⟩:=hmem
 refine⟨r,es,ck,h1,h2,by simpa[entF,valV,frzV]using h3,fun c y hy=>?_⟩
 simp only[entF,frzV,List.map_map,List.getElem?_map]at hy
 cases hq:x[c]? with
 |none=>rw[hq]at hy;cases hy
 |some q=>
  rw[hq]at hy
  simp only[Option.map_some,Function.comp_apply,Option.some.injEq]at hy
  subst hy
  obtain⟨en,g1,g2,g3⟩:=h4 c (strF q.1,.one (.val q.2.1)) (by simp[entF,valV,hq])
  have hev:en.val=q.2.1:=RepC.val_inv g3
  refine⟨en,g1,(strF_iff _ _ _ _).2 ((strF_iff _ _ _ _).1 g2),?_⟩
  have hpq:(poolR x)[c]? =some (q.2.1,rowI' q.2.2):=by simp[poolR,hq]
  show RepC w M' en.val _
  rw[hev]
  exact(hp.row hpq).frozen hM (hn _ (List.mem_of_getElem? hpq))
theorem g_freezeV(i j:Nat){e:Nat}{x:RowM}(hij:Nat.beq i j=false)(hi:J1 mm i=some (.pool e 1 (poolR x)))(hig:Nat.blt i G7=true)(hj:J1 mm j=some (.mpo (entF strF (valV x))))
 (hno:noUse i mm=true)(hnt:noUseT i tm=true)(g:Goes C f n R k tm (K1 (outM [i] mm) j (.mpo (entF strF (frzV x))))):Goes C f n R k tm mm:=
 g.mono fun _ _ h=>h.freezeV i j hij hi hig hj hno hnt
end
section
variable {C:Ctx} {n:Nat} {tm:TM} {mm:MM} {f:FuncId} {R:Ending→World→Prop} {k:List Item}
theorem g_join2Q{x y:Item}{k':List Item}(P:Prop)(tm':TM)(mm':MM)(_:runC tm' k=some k')(hk:P→Goes C f n R k' tm' mm')(h:(P→Goes C f n R k' tm' mm')→Goes C f n R (x::y::k) tm mm):Goes C f n R (x::y::k) tm mm:=h hk
end
def carZ(c:Int×ByteArray):Value:=.agg #[.int .i64 c.1,.string c.2]
theorem eqCrr(x y:Int×ByteArray)(w:World):(Op.equalIn 10000 56 (carZ x) (carZ y)).run Tryz.prog w=.ok (decide (x=y)) w:=by
 have u3:=Tryz.underlying3
 have a3:=Tryz.isAgg3
 have z3:=Tryz.sizeOf3
 have u9:=Tryz.underlying9
 have a9:=Tryz.isAgg9
 have z9:=Tryz.sizeOf9
 have hS:Tryz.prog.underlying 56=some (.struct (Tryz.prog.fieldsOf 56)):=by kernel_rfl
 have hp:Tryz.prog.stoodInHeld 56=false:=by kernel_rfl
 obtain⟨a,b⟩:=x
 obtain⟨a',b'⟩:=y
 simp only[carZ]
 rw[show(10000:Nat)=9999+1 from rfl,run_equalIn_agg w 9999 56 _ _ hS hp]
 simp only[Program.fieldsOf,Tryz.underlying56]
 go_simp
 have key:∀c c':ByteArray,(c.toList=c'.toList)↔c=c':=by
  intro c c'
  rw[ByteArray.toList_eq,ByteArray.toList_eq]
  obtain⟨⟨x⟩⟩:=c
  obtain⟨⟨y⟩⟩:=c'
  simp
 by_cases h1:a=a'<;>by_cases h2:b=b'<;>simp[h1,h2,key]
section
variable {C:Ctx} {n:Nat} {tm:TM} {mm:MM} {o:Oper} {d:Nat}
theorem crr_rep{I:Nat→Prop}{H:Nat→Value}{Z:Nat→Nat}{w:World}{M:Nat→Prop}{v:Value}{a:Int}{b:ByteArray}(h:RepSV I H Z w M v (.agg [.c (.int .i64 a),.c (.str b)])):v=carZ (a,b):=by
 obtain⟨vs,rfl,hs,hr⟩:=h
 obtain⟨u0,g0,r0⟩:=hr 0 _ rfl
 obtain⟨u1,g1,r1⟩:=hr 1 _ rfl
 have r0:=RepC.int_inv r0
 have r1:=RepC.str_inv r1
 subst r0 r1
 have hs:vs.size=2:=hs
 show Value.agg vs=Value.agg _
 congr 1
 apply Array.ext
 ·simpa using hs
 ·intro i hi hi'
  have:i=0∨i=1:=by omega
  rcases this with rfl|rfl
  ·rw[Array.getElem?_eq_getElem hi]at g0;injection g0 with g0
  ·rw[Array.getElem?_eq_getElem hi]at g1;injection g1 with g1
theorem op_neCar{t':Nat}{x y:Operand}{a a':Int}{b b':ByteArray}(hP:C.P=Tryz.prog)(ho:o.op=.binOp .neq 56 x y t')
 (hx:evalV tm x=some (.agg [.c (.int .i64 a),.c (.str b)]))(hy:evalV tm y=some (.agg [.c (.int .i64 a'),.c (.str b')]))(hd:o.dst=some d)(hn:Nat.blt d n=true):
 OpV C n o tm mm d (.v (.one (.c (.bool (!decide ((a,b)=(a',b'))))))):=
 OpV.val hd hn _ fun H Z A w hm=>by
  have h1:A.eval x=carZ (a,b):=crr_rep (evalV_rep hm hx)
  have h2:A.eval y=carZ (a',b'):=crr_rep (evalV_rep hm hy)
  have hq:Tryz.prog.eqGuardType Tryz.prog.depth 56=false:=by kernel_rfl
  have heq:=eqCrr (a,b) (a',b') w
  simp only[carZ]at h1 h2 heq
  refine⟨.bool (!decide ((a,b)=(a',b'))),?_,.bool _⟩
  rw[hP]
  simp only[execOp,ho,h1,h2,Sem.run_bind,run_eqGuard_agg w _ _ _ _ _ _ hq,Result.andThen_ok,run_neq_struct,heq,Sem.run_pure]
end
section
variable {C:Ctx} {n:Nat} {tm:TM} {mm:MM} {L l:List Oper} {T:TM→MM→Prop} {o:Oper} {d:Nat} {x y:Operand}
theorem s_neCar{t':Nat}{a a':Int}{b b':ByteArray}(hP:C.P=Tryz.prog)(ho:o.op=.binOp .neq 56 x y t')
 (hx:evalV tm x=some (.agg [.c (.int .i64 a),.c (.str b)]))(hy:evalV tm y=some (.agg [.c (.int .i64 a'),.c (.str b')]))(hd:o.dst=some d)(hn:Nat.blt d n=true)(hg:QG L tm o=some true)
 (k:SOps C n L.toArray l ((d,.v (.one (.c (.bool (!decide ((a,b)=(a',b')))))))::QY tm d) mm T):SOps C n L.toArray (o::l) tm mm T:=
 K0 (op_neCar hP ho hx hy hd hn).wp hg k
end
theorem next_snoc(pre:List Arm)(a:Arm)(s:ByteArray):nextN (pre++[a]) s=if s=a.label then nextN pre s++[a.next]else nextN pre s:=by
 unfold nextN
 rw[List.filter_append,List.map_append]
 by_cases h:s=a.label
 ·rw[if_pos h];simp[h]
 ·rw[if_neg h]
  have:¬a.label=s:=fun e=>h e.symm
  simp[this]
theorem carO_snoc(pre:List Arm)(a:Arm)(s:ByteArray):carO (pre++[a]) s=(carO pre s).or (if a.label=s then some (a.kind,a.name)else none):=by
 unfold carO
 rw[List.find?_append]
 cases pre.find? fun a=>decide (a.label=s)with
 |some b=>rfl
 |none=>
  by_cases h:a.label=s<;>simp[h]
theorem carO_some{pre:List Arm}{b:Arm}(h:b∈pre):(carO pre b.label).isSome=true:=by
 unfold carO
 rw[Option.isSome_map,List.find?_isSome]
 exact⟨b,h,by simp⟩
theorem clash_snoc{pre:List Arm}(h:clashB pre=false)(a:Arm):clashB (pre++[a])=decide (carO (pre++[a]) a.label≠some (a.kind,a.name)):=by
 unfold clashB at h⊢
 rw[List.any_append]
 have h1:pre.any (fun b=>decide (carO (pre++[a]) b.label≠some (b.kind,b.name)))=false:=by
  rw[List.any_eq_false]at h⊢
  intro b hb
  have:=h b hb
  obtain⟨c,hc⟩:=Option.isSome_iff_exists.1 (carO_some hb)
  rw[carO_snoc,hc,Option.some_or]
  rw[hc]at this
  exact this
 rw[h1];simp
theorem clash_app{pre:List Arm}(h:clashB pre=true):∀r:List Arm,clashB (pre++r)=true:=by
 intro r
 unfold clashB at h⊢
 rw[List.any_eq_true]at h⊢
 obtain⟨b,hb,hn⟩:=h
 refine⟨b,List.mem_append_left _ hb,?_⟩
 obtain⟨c,hc⟩:=Option.isSome_iff_exists.1 (carO_some hb)
 have e:carO (pre++r) b.label=some c:=by
  unfold carO at hc⊢
  rw[List.find?_append]
  cases hf:pre.find? fun a=>decide (a.label=b.label)with
  |none=>rw[hf]at hc;cases hc
  |some d=>rw[hf]at hc;exact hc
 rw[e,←hc];exact hn
theorem putK_cons(q:ByteArray×(Int×ByteArray))(m:CarM)(a:ByteArray)(c:Int×ByteArray):putK (q::m) a c=if a=q.1 then(a,c)::m else q::putK m a c:=by
 unfold putK
 rw[List.findIdx?_cons]
 by_cases h:a=q.1
 ·simp[h]
 ·simp only[h,decide_false,if_false,Bool.false_eq_true]
  cases m.findIdx? fun q=>decide (a=q.1)<;>simp
theorem lookK_put:∀(m:CarM) (a:ByteArray) (c:Int×ByteArray) (s:ByteArray),lookK (putK m a c) s=if s=a then some c else lookK m s
 |[],a,c,s=>by by_cases h:s=a<;>simp[putK,lookK,h]
 |q::m,a,c,s=>by
  have ih:=lookK_put m a c s
  rw[putK_cons]
  unfold lookK at ih⊢
  by_cases h:a=q.1
  ·rw[if_pos h]
   by_cases h':s=a
   ·simp[h']
   ·have h2:¬s=q.1:=fun e=>h' (e.trans h.symm)
    simp[h',h2]
  ·rw[if_neg h]
   by_cases h':s=q.1
   ·have h2:¬s=a:=fun e=>h (e.symm.trans h')
    rw[if_neg h2];simp[h']
   ·rw[List.find?_cons_of_neg (by simpa using h'),ih]
    by_cases h2:s=a
    ·rw[if_pos h2,if_pos h2]
    ·rw[if_neg h2,if_neg h2,List.find?_cons_of_neg (by simpa using h')]
structure Gath(pre:List Arm)(cm:CarM)(x:RowM):Prop where
 ok:clashB pre=false
 car:∀s,lookK cm s=carO pre s
 nxt:∀s,nxtX x s=nextN pre s
theorem Gath.nil:Gath [] [] []:=⟨rfl,fun _=>rfl,fun _=>rfl⟩
theorem Gath.step{pre:List Arm}{cm:CarM}{x:RowM}(h:Gath pre cm x)(a:Arm)(hok:lookK cm a.label=none∨lookK cm a.label=some (a.kind,a.name))(v:Value):Gath (pre++[a]) (putK cm a.label (a.kind,a.name)) (updR x a.label v a.next):=by
 have hc:carO (pre++[a]) a.label=some (a.kind,a.name):=by
  rw[carO_snoc,←h.car]
  rcases hok with h1|h1<;>rw[h1]<;>simp
 refine⟨by rw[clash_snoc h.ok,hc];simp,fun s=>?_,fun s=>?_⟩
 ·rw[lookK_put]
  by_cases hs:s=a.label
  ·rw[if_pos hs,hs,hc]
  ·rw[if_neg hs,h.car,carO_snoc,if_neg (fun e=>hs e.symm),Option.or_none]
 ·rw[nxt_upd,next_snoc,h.nxt,h.nxt]
  by_cases hs:s=a.label
  ·rw[if_pos hs,if_pos hs,hs]
  ·rw[if_neg hs,if_neg hs]
theorem Gath.clash{pre:List Arm}{cm:CarM}{x:RowM}(h:Gath pre cm x)(a:Arm){c:Int×ByteArray}(hc:lookK cm a.label=some c)(hne:c≠(a.kind,a.name))(r:List Arm):clashB (pre++a::r)=true:=by
 have:clashB (pre++[a])=true:=by
  rw[clash_snoc h.ok,carO_snoc,←h.car,hc,Option.some_or]
  simpa using hne
 have h2:=clash_app this r
 rwa [List.append_assoc]at h2
end Go.Sy
set_option linter.unusedSimpArgs false
set_option linter.unusedVariables false
set_option linter.unusedSectionVars false
namespace Go.Sy
open Go.Proofs
set_option maxRecDepth 100000
attribute [local irreducible] SOps Goes DOps EOps FOps GOps
section
variable {p:Prt} {role:ByteArray} {S:List (List Int)} {near r:List Int} {x0:Int}
theorem turn_def(h:near=x0::r):turnS p role S near=
 if near.any (fun x=>decide (J4 p role x≠J4 p role x0))then((noTrn,802),S)
 else if(J4 p role x0).1&&near.any (fun x=>decide (labsL (Q5 p x)≠allL p near))then((noTrn,803),S)
 else if 6 < (allL p near).length then((noTrn,805),S)
 else if clashB (armsN p near)then((noTrn,804),S)
 else if(armsS p role (armsN p near) (allL p near) [] S).1.2=0 then
  ((⟨kindOf (J4 p role x0).1,(J4 p role x0).2,(armsS p role (armsN p near) (allL p near) [] S).1.1⟩,0),(armsS p role (armsN p near) (allL p near) [] S).2)
 else((noTrn,(armsS p role (armsN p near) (allL p near) [] S).1.2),(armsS p role (armsN p near) (allL p near) [] S).2):=by
 subst h;rfl
theorem turn_mix(h:near=x0::r)(h1:near.any (fun x=>decide (J4 p role x≠J4 p role x0))=true):turnS p role S near=((noTrn,802),S):=by
 rw[turn_def h,if_pos h1]
theorem turn_says(h:near=x0::r)(h1:near.any (fun x=>decide (J4 p role x≠J4 p role x0))=false)(h2:((J4 p role x0).1&&near.any (fun x=>decide (labsL (Q5 p x)≠allL p near)))=true):
 turnS p role S near=((noTrn,803),S):=by
 rw[turn_def h,h1,if_neg (by decide),if_pos h2]
theorem turn_large(h:near=x0::r)(h1:near.any (fun x=>decide (J4 p role x≠J4 p role x0))=false)(h2:((J4 p role x0).1&&near.any (fun x=>decide (labsL (Q5 p x)≠allL p near)))=false)
 (h3:6 < (allL p near).length):turnS p role S near=((noTrn,805),S):=by
 rw[turn_def h,h1,if_neg (by decide),h2,if_neg (by decide),if_pos h3]
theorem turn_clash(h:near=x0::r)(h1:near.any (fun x=>decide (J4 p role x≠J4 p role x0))=false)(h2:((J4 p role x0).1&&near.any (fun x=>decide (labsL (Q5 p x)≠allL p near)))=false)
 (h3:¬6 < (allL p near).length)(h4:clashB (armsN p near)=true):turnS p role S near=((noTrn,804),S):=by
 rw[turn_def h,h1,if_neg (by decide),h2,if_neg (by decide),if_neg h3,if_pos h4]
theorem turn_arms(h:near=x0::r)(h1:near.any (fun x=>decide (J4 p role x≠J4 p role x0))=false)(h2:((J4 p role x0).1&&near.any (fun x=>decide (labsL (Q5 p x)≠allL p near)))=false)
 (h3:¬6 < (allL p near).length)(h4:clashB (armsN p near)=false):turnS p role S near=
 if(armsS p role (armsN p near) (allL p near) [] S).1.2=0 then
  ((⟨kindOf (J4 p role x0).1,(J4 p role x0).2,(armsS p role (armsN p near) (allL p near) [] S).1.1⟩,0),(armsS p role (armsN p near) (allL p near) [] S).2)
 else((noTrn,(armsS p role (armsN p near) (allL p near) [] S).1.2),(armsS p role (armsN p near) (allL p near) [] S).2):=by
 rw[turn_def h,h1,if_neg (by decide),h2,if_neg (by decide),if_neg h3,h4,if_neg (by decide)]
theorem allJ_snoc{k:Nat}(h:k < near.length):allL p (near.take (k+1))=(labsL (Q5 p near[k])).foldl putN (allL p (near.take k)):=by
 unfold allL
 rw[List.take_succ_eq_append_getElem h,List.foldl_append];rfl
theorem foldPut_len:∀(l out:List ByteArray),(l.foldl putN out).length≤out.length+l.length
 |[],out=>by simp
 |s::l,out=>by
  have h1:=foldPut_len l (putN out s)
  have h2:=putN_len out s
  simp only[List.foldl_cons,List.length_cons];omega
theorem labsL_len(hv:prtB p=true)(x:Int):(labsL (Q5 p x)).length≤6:=by
 have h1:=labsA_len (Q5 p x).arms
 have h2:(Q5 p x).arms.length≤6:=by
  rcases pntAt_arms hv x with h|h
  ·rw[h];simp
  ·exact(arms_all h).1.2
 exact Nat.le_trans h1 h2
theorem allJ_len(hv:prtB p=true):∀k,(allL p (near.take k)).length≤6 * k
 |0=>by simp[allL]
 |k+1=>by
  have ih:=allJ_len hv k
  by_cases h:k < near.length
  ·rw[allJ_snoc h]
   have h1:=foldPut_len (labsL (Q5 p near[k])) (allL p (near.take k))
   have h2:=labsL_len hv near[k]
   omega
  ·rw[show near.take (k+1)=near.take k by rw[List.take_of_length_le (by omega),List.take_of_length_le (by omega)]]
   omega
end
abbrev turnT(p:Prt)(role:ByteArray)(S:List (List Int))(near:List Int):ST:=.tup [Ag (turnS p role S near).1.1.cs,C1 (.int .i64 (turnS p role S near).1.2)]
def gMM(p:Prt)(role:ByteArray)(v:Value)(S:List (List Int))(kd:Int)(s2:ByteArray)(cm:CarM)(x:RowM):MM:=
 [(119,.mpo (entF strF (valV x))),(120,.mpo (entK cm)),(300,.pool 3 1 (poolR x)),(12,.box [.c (.int .i64 kd),.c (.str s2),.c .nils]),(4,.box [.c (.int .i64 0),.c (.str ⟨#[]⟩),.c .nils]),
  (G7,.box (seerCs p role v)),(G7+1,keysM S),(1,.pool 26 1 [(v,rowsI S)])]
theorem armsN_snoc{p:Prt}{near:List Int}{k:Nat}(h:k < near.length):armsN p (near.take (k+1))=armsN p (near.take k)++(Q5 p near[k]).arms:=by
 unfold armsN
 rw[List.take_succ_eq_append_getElem h,List.flatMap_append];simp
theorem armsN_split{p:Prt}{near:List Int}{k j:Nat}(h:k < near.length)(hj:j < (Q5 p near[k]).arms.length):∃r,armsN p near=(armsN p (near.take k)++(Q5 p near[k]).arms.take j)++(Q5 p near[k]).arms[j]::r:=by
 refine⟨(Q5 p near[k]).arms.drop (j+1)++armsN p (near.drop (k+1)),?_⟩
 have h1:armsN p near=armsN p (near.take (k+1))++armsN p (near.drop (k+1)):=by
  unfold armsN;rw[←List.flatMap_append,List.take_append_drop]
 have h2:(Q5 p near[k]).arms=(Q5 p near[k]).arms.take j++(Q5 p near[k]).arms[j]::(Q5 p near[k]).arms.drop (j+1):=by
  rw[←List.drop_eq_getElem_cons hj,List.take_append_drop]
 have h3:(Q5 p near[k]).arms++armsN p (near.drop (k+1))=((Q5 p near[k]).arms.take j++(Q5 p near[k]).arms[j]::(Q5 p near[k]).arms.drop (j+1))++armsN p (near.drop (k+1)):=by rw[←h2]
 rw[h1,armsN_snoc h,List.append_assoc,h3]
 simp only[List.append_assoc,List.cons_append]
theorem armsN_len{p:Prt}(hv:prtB p=true):∀near:List Int,(armsN p near).length≤6 * near.length
 |[]=>by simp[armsN]
 |x::l=>by
  have ih:=armsN_len hv l
  have h2:(Q5 p x).arms.length≤6:=by
   rcases pntAt_arms hv x with h|h
   ·rw[h];simp
   ·exact(arms_all h).1.2
  simp only[armsN,List.flatMap_cons,List.length_append,List.length_cons]at ih⊢
  omega
theorem nextN_len(arr:List Arm)(s:ByteArray):(nextN arr s).length≤arr.length:=by
 unfold nextN
 rw[List.length_map]
 exact List.length_filter_le _ _
theorem nextN_range{p:Prt}(hv:prtB p=true){near:List Int}{s:ByteArray}:∀x∈nextN (armsN p near) s,0≤x∧x < (p.points.length:Int):=by
 intro x hx
 unfold nextN armsN at hx
 obtain⟨a,ha,rfl⟩:=List.mem_map.1 hx
 obtain⟨y,_,hy⟩:=List.mem_flatMap.1 (List.mem_filter.1 ha).1
 exact prt_in hv y a hy
def r44(X:MM)(m0:List (FV×FV))(m1:Value→List (FV×FV))(q0:PQ)(q1:Value→PQ):Nat→Value→MM
 |0,_=>(119,.mpo m0)::(300,.pool 3 1 q0)::X
 |1,v=>(119,.mpo m0)::(300,.pool 3 1 (q1 v))::X
 |_,v=>(119,.mpo (m1 v))::(300,.pool 3 1 (q1 v))::X
def r44ET:Nat→Value→TM
 |1,v=>[(171,.v (.one (.c (.val v))))]
 |_,_=>[]
theorem le_poolQ{e sz:Nat}{a b:PQ}(h:a=b):LeM (.pool e sz a) (.pool e sz b):=by subst h;exact .refl _
abbrev zBox:MO:=.box [.c (.int .i64 0),.c (.str ⟨#[]⟩),.c .nils]
set_option maxHeartbeats 32000000 in
theorem pturned_c(p:Prt)(hv:prtB p=true)(hB:PrtBig p)(role:ByteArray)(hh:hasB p.roles role=true)(v:Value)(S:List (List Int))(hS:SeerOK p S)(near:List Int)(hnr:∀x∈near,0≤x∧x < (p.points.length:Int))(hnl:near.length≤24):
 ConM Tryz.prog 40 (seerM p role v S) [.one (.ptr G7 0),C1 (intsT near)] (fun _:Value=>True) (fun _=>turnT p role S near) (fun v'=>seerM p role v' (turnS p role S near).2):=by
 cases hne:near with
 |nil=>
  refine conM_of (c:=_) Tryz.func40 rfl rfl rfl (by decide) rfl fun w M0 H Z hd=>?_
  repeat'(first|refine gc_ rfl ?_|(refine G1 ?_;refine G0 th rfl ?_)|(refine G9 mix rfl rfl ?_;refine G3 th rfl ?_)|(refine G5 mix rfl rfl ?_;refine GJ th rfl ?_)|refine G2 ?_|refine G4 ?_|refine G6 ?_ rfl rfl|((first|refine G8 rfl rfl ?_ ?_|refine GG rfl rfl rfl ?_ ?_|refine Q1 rfl ?_ ?_)<;>intro hb<;>(try simp only[hbL]at hb)<;>first|(exfalso;omega)|refine G0 th rfl ?_|refine G3 th rfl ?_|skip))
  all_goals first
   |(exfalso;revert hb;simp;done)
   |(refine g_leB 4 2 (armsC []) rfl rfl (.nil 4) ?_
     exact JW (hd:=hd) th Tryz.func40 v (.inr ⟨_,rfl⟩) rfl rfl rfl rfl ⟨rfl,rfl,rfl,trivial⟩ rfl rfl rfl trivial)
 |cons x0 rr=>
  rw[←hne]
  have hl0:0 < near.length:=by rw[hne];simp
  have hx0:(near.map fun r=>[CT.int .i64 r])[0]? =some [.int .i64 x0]:=by rw[hne];rfl
  have hxr0:=hnr x0 (by rw[hne];exact List.mem_cons_self)
  have hside0:=side_c p role v S x0 hxr0
  obtain⟨s1,s2,hs⟩:∃a b,J4 p role x0=(a,b):=⟨_,_,rfl⟩
  simp only[hs]at hside0
  refine conM_of (c:=_) Tryz.func40 rfl rfl rfl (by decide) rfl fun w M0 H Z hd=>?_
  repeat'(first|refine gc_ rfl ?_|(refine G1 ?_;refine G0 th rfl ?_)|(refine G9 mix rfl rfl ?_;refine G3 th rfl ?_)|(refine G5 mix rfl rfl ?_;refine GJ th rfl ?_)|refine G2 ?_|refine G4 ?_|refine G6 ?_ rfl rfl|((first|refine G8 rfl rfl ?_ ?_|refine GG rfl rfl rfl ?_ ?_|refine Q1 rfl ?_ ?_)<;>intro hb<;>(try simp only[hbL]at hb)<;>first|(exfalso;omega)|refine G0 th rfl ?_|refine G3 th rfl ?_|skip)|((first|refine K2 th rfl rfl rfl rfl rfl rfl rfl rfl rfl 0 _ rfl hx0 ?_|refine s_callM hside0 [] rfl rfl rfl rfl ⟨rfl,rfl,rfl,trivial⟩ ⟨rfl,rfl,rfl,rfl,rfl⟩ (fun _=>⟨rfl,rfl,rfl,rfl,rfl,rfl,rfl⟩) (fun _=>rfl) (fun _=>rfl) rfl rfl rfl (fun _ _=>?_));refine G0 th rfl ?_))
  all_goals try(exfalso;simp only[List.length_map]at hb;omega)
  refine J8 (fun k:Nat=>k≤near.length∧(near.take k).any (fun x=>decide (J4 p role x≠J4 p role x0))=false)
   (fun k=>[(0,.v (.one (.ptr G7 0))),(1,.v (C1 (intsT near))),(4,.v (.one (.ptr 4 0))),(5,.v (C1 (.int .i64 0))),(6,.v (C1 (.bool s1))),(7,.v (C1 (.str s2))),(44,.v (C1 (intsT near))),(45,.v (C1 (.int .i64 (near.length:Int)))),(46,.v (C1 (.int .i64 (k:Int))))])
   (fun _=>(4,zBox)::seerM p role v S)
   (fun k=>near.length - k) 0 ⟨Nat.zero_le _,rfl⟩
   (fun a w h=>h.sub (by exact⟨⟨_,rfl,.refl _⟩,⟨_,rfl,.refl _⟩,⟨_,rfl,.refl _⟩,⟨_,rfl,.refl _⟩,⟨_,rfl,.refl _⟩,⟨_,rfl,.refl _⟩,⟨_,rfl,.refl _⟩,⟨_,rfl,GY (by simp)⟩,⟨_,rfl,GY rfl⟩,trivial⟩) (by(repeat refine⟨⟨_,rfl,.refl _⟩,?_⟩);trivial) rfl rfl rfl) (fun k hk ih=>?_)
  obtain⟨hk,hal⟩:=hk
  by_cases hlt:k < near.length
  ·have hx:(near.map fun r=>[CT.int .i64 r])[k]? =some [.int .i64 near[k]]:=by simp[hlt]
   have hxr:=hnr _ (List.getElem_mem hlt)
   have hside:=side_c p role v S near[k] hxr
   obtain⟨y1,y2,hy⟩:∃a b,J4 p role near[k]=(a,b):=⟨_,_,rfl⟩
   simp only[hy]at hside
   have hsn:=anyT_snoc hlt (fun x=>decide (J4 p role x≠J4 p role x0))
   rw[hal,Bool.false_or]at hsn
   repeat'(first|refine gc_ rfl ?_|(refine G1 ?_;refine G0 th rfl ?_)|(refine G9 mix rfl rfl ?_;refine G3 th rfl ?_)|(refine G5 mix rfl rfl ?_;refine GJ th rfl ?_)|refine G2 ?_|refine G4 ?_|refine G6 ?_ rfl rfl|((first|refine G8 rfl rfl ?_ ?_|refine GG rfl rfl rfl ?_ ?_|refine Q1 rfl ?_ ?_)<;>intro hb<;>(try simp only[hbL]at hb)<;>first|(exfalso;omega)|refine G0 th rfl ?_|refine G3 th rfl ?_|skip)|((first|refine K2 th rfl rfl rfl rfl rfl rfl rfl rfl rfl k _ rfl hx ?_|refine s_callM hside [] rfl rfl rfl rfl ⟨rfl,rfl,rfl,trivial⟩ ⟨rfl,rfl,rfl,rfl,rfl⟩ (fun _=>⟨rfl,rfl,rfl,rfl,rfl,rfl,rfl⟩) (fun _=>rfl) (fun _=>rfl) rfl rfl rfl (fun _ _=>?_)|refine QW rfl rfl rfl rfl rfl rfl (by omega) ?_);refine G0 th rfl ?_))
   all_goals first
    |(have hne2:¬(y1,y2)=(s1,s2):=by
       intro e;injection e with e1 e2;subst e1 e2;revert hb;simp;done
      have hany:near.any (fun x=>decide (J4 p role x≠J4 p role x0))=true:=List.any_eq_true.2 ⟨near[k],List.getElem_mem hlt,by rw[hy,hs];exact decide_eq_true hne2⟩
      refine g_leB 4 2 (armsC []) rfl rfl (.nil 4) ?_
      unfold turnT
      rw[turn_mix hne hany]
      exact JW (hd:=hd) th Tryz.func40 v (.inr ⟨_,rfl⟩) rfl rfl rfl rfl ⟨rfl,rfl,rfl,trivial⟩ rfl rfl rfl trivial)
    |(have he2:(y1,y2)=(s1,s2):=by
       have e1:y1=s1:=by simpa using(show(y1 !=s1)=false by assumption)
       have e2:y2=s2:=by assumption
       rw[e1,e2]
      have hih:=ih (k+1) ⟨hlt,by rw[hsn,hy,hs];exact decide_eq_false fun h=>h he2⟩ (by omega)
      exact QK (by exact⟨⟨_,rfl,.refl _⟩,⟨_,rfl,.refl _⟩,⟨_,rfl,.refl _⟩,⟨_,rfl,.refl _⟩,⟨_,rfl,.refl _⟩,⟨_,rfl,.refl _⟩,⟨_,rfl,.refl _⟩,⟨_,rfl,.refl _⟩,⟨_,rfl,GY (by omega)⟩,trivial⟩) (by(repeat refine⟨⟨_,rfl,.refl _⟩,?_⟩);trivial) rfl rfl rfl hih)
  rw[show near.take k=near from List.take_of_length_le (by omega)]at hal
  clear ih
  repeat'(first|refine gc_ rfl ?_|(refine G1 ?_;refine G0 th rfl ?_)|(refine G9 mix rfl rfl ?_;refine G3 th rfl ?_)|(refine G5 mix rfl rfl ?_;refine GJ th rfl ?_)|refine G2 ?_|refine G4 ?_|refine G6 ?_ rfl rfl|((first|refine G8 rfl rfl ?_ ?_|refine GG rfl rfl rfl ?_ ?_|refine Q1 rfl ?_ ?_)<;>intro hb<;>(try simp only[hbL]at hb)<;>first|(exfalso;omega)|refine G0 th rfl ?_|refine G3 th rfl ?_|skip))
  clear hk
  refine J8 (fun k:Nat=>k≤near.length)
   (fun k=>[(0,.v (.one (.ptr G7 0))),(1,.v (C1 (intsT near))),(4,.v (.one (.ptr 4 0))),(5,.v (C1 (.int .i64 0))),(6,.v (C1 (.bool s1))),(12,.v (.one (.ptr 12 0))),(13,.v (C1 (Q8 (allL p (near.take k))))),(68,.v (C1 (intsT near))),(69,.v (C1 (.int .i64 (near.length:Int)))),(70,.v (C1 (.int .i64 (k:Int))))])
   (fun _=>(12,.box [.c (.int .i64 2),.c (.str s2),.c .nils])::(4,zBox)::seerM p role v S)
   (fun k=>near.length - k) 0 (Nat.zero_le _)
   (fun a w h=>h.sub (by exact⟨⟨_,rfl,.refl _⟩,⟨_,rfl,.refl _⟩,⟨_,rfl,.refl _⟩,⟨_,rfl,.refl _⟩,⟨_,rfl,.refl _⟩,⟨_,rfl,.refl _⟩,⟨_,rfl,.v (.one (.c (.nil 1)))⟩,⟨_,rfl,.refl _⟩,⟨_,rfl,GY (by simp)⟩,⟨_,rfl,GY rfl⟩,trivial⟩) (by(repeat refine⟨⟨_,rfl,.refl _⟩,?_⟩);trivial) rfl rfl rfl) (fun k hk ih=>?_)
  by_cases hlt:k < near.length
  ·have hx:(near.map fun r=>[CT.int .i64 r])[k]? =some [.int .i64 near[k]]:=by simp[hlt]
   have hxr:=hnr _ (List.getElem_mem hlt)
   have hxp:=pntAt_get hxr
   have hx6:(Q5 p near[k]).arms.length≤6:=by
    rcases pntAt_arms hv near[k]with h1|h1
    ·rw[h1];simp
    ·exact(arms_all h1).1.2
   have hlab:=labels_c' (Q5 p near[k]) hx6
   have hll:=labsL_len hv near[k]
   have hA:=allJ_len hv (p:=p) (near:=near) k
   have hsn:=allJ_snoc (p:=p) hlt
   obtain⟨q,hq⟩:∃q,q=Q5 p near[k]:=⟨_,rfl⟩
   obtain⟨A,hAA⟩:∃A,A=allL p (near.take k):=⟨_,rfl⟩
   rw[←hq]at hxp hlab hll hsn
   rw[←hAA]at hA hsn⊢
   have hih:=ih (k+1) hlt (by omega)
   rw[hsn]at hih
   repeat'(first|refine gc_ rfl ?_|(refine G1 ?_;refine G0 th rfl ?_)|(refine G9 mix rfl rfl ?_;refine G3 th rfl ?_)|(refine G5 mix rfl rfl ?_;refine GJ th rfl ?_)|refine G2 ?_|refine G4 ?_|refine G6 ?_ rfl rfl|((first|refine G8 rfl rfl ?_ ?_|refine GG rfl rfl rfl ?_ ?_|refine Q1 rfl ?_ ?_)<;>intro hb<;>(try simp only[hbL]at hb)<;>first|(exfalso;omega)|refine G0 th rfl ?_|refine G3 th rfl ?_|skip)|((first|refine K2 th rfl rfl rfl rfl rfl rfl rfl rfl rfl k _ rfl hx ?_|refine K2 th rfl rfl rfl rfl rfl rfl rfl rfl rfl near[k].toNat _ (by omega) hxp ?_|refine Q4 hlab [] rfl rfl rfl rfl rfl rfl rfl rfl rfl rfl ?_);refine G0 th rfl ?_))
   obtain⟨lb,hlb⟩:∃lb,lb=labsL q:=⟨_,rfl⟩
   rw[←hlb]at hih hll⊢
   refine J8 (fun j:Nat=>j≤lb.length)
    (fun j=>[(0,.v (.one (.ptr G7 0))),(1,.v (C1 (intsT near))),(4,.v (.one (.ptr 4 0))),(5,.v (C1 (.int .i64 0))),(6,.v (C1 (.bool s1))),(12,.v (.one (.ptr 12 0))),(13,.v (C1 (Q8 ((lb.take j).foldl putN A)))),(68,.v (C1 (intsT near))),(69,.v (C1 (.int .i64 (near.length:Int)))),(70,.v (C1 (.int .i64 (k:Int)))),
      (82,.v (C1 (Q8 lb))),(83,.v (C1 (.int .i64 (lb.length:Int)))),(84,.v (C1 (.int .i64 (j:Int))))])
    (fun _=>(12,.box [.c (.int .i64 2),.c (.str s2),.c .nils])::(4,zBox)::seerM p role v S)
    (fun j=>lb.length - j) 0 (Nat.zero_le _)
    (fun a w h=>h.sub (by exact⟨⟨_,rfl,.refl _⟩,⟨_,rfl,.refl _⟩,⟨_,rfl,.refl _⟩,⟨_,rfl,.refl _⟩,⟨_,rfl,.refl _⟩,⟨_,rfl,.refl _⟩,⟨_,rfl,.refl _⟩,⟨_,rfl,.refl _⟩,⟨_,rfl,.refl _⟩,⟨_,rfl,.refl _⟩,⟨_,rfl,.refl _⟩,⟨_,rfl,GY (by simp)⟩,⟨_,rfl,GY rfl⟩,trivial⟩) (by(repeat refine⟨⟨_,rfl,.refl _⟩,?_⟩);trivial) rfl rfl rfl) (fun j hj ih2=>?_)
   by_cases hjt:j < lb.length
   ·have hxj:(lb.map fun s=>[CT.str s])[j]? =some [.str lb[j]]:=by simp[hjt]
    have hfl:=foldPut_len (lb.take j) A
    rw[List.length_take]at hfl
    have hput:=put_c ((lb.take j).foldl putN A) lb[j] (by omega)
    have hih2:=ih2 (j+1) hjt (by omega)
    rw[show(lb.take (j+1)).foldl putN A=putN ((lb.take j).foldl putN A) lb[j] by rw[List.take_succ_eq_append_getElem hjt,List.foldl_append];rfl]at hih2
    repeat'(first|refine gc_ rfl ?_|(refine G1 ?_;refine G0 th rfl ?_)|(refine G9 mix rfl rfl ?_;refine G3 th rfl ?_)|(refine G5 mix rfl rfl ?_;refine GJ th rfl ?_)|refine G2 ?_|refine G4 ?_|refine G6 ?_ rfl rfl|((first|refine G8 rfl rfl ?_ ?_|refine GG rfl rfl rfl ?_ ?_|refine Q1 rfl ?_ ?_)<;>intro hb<;>(try simp only[hbL]at hb)<;>first|(exfalso;omega)|refine G0 th rfl ?_|refine G3 th rfl ?_|skip)|((first|refine K2 th rfl rfl rfl rfl rfl rfl rfl rfl rfl j _ rfl hxj ?_|refine Q4 hput [] rfl rfl rfl rfl rfl rfl rfl rfl rfl rfl ?_|refine QW rfl rfl rfl rfl rfl rfl (by omega) ?_);refine G0 th rfl ?_))
    exact QK (by exact⟨⟨_,rfl,.refl _⟩,⟨_,rfl,.refl _⟩,⟨_,rfl,.refl _⟩,⟨_,rfl,.refl _⟩,⟨_,rfl,.refl _⟩,⟨_,rfl,.refl _⟩,⟨_,rfl,.refl _⟩,⟨_,rfl,.refl _⟩,⟨_,rfl,.refl _⟩,⟨_,rfl,.refl _⟩,⟨_,rfl,.refl _⟩,⟨_,rfl,.refl _⟩,⟨_,rfl,GY (by omega)⟩,trivial⟩) (by(repeat refine⟨⟨_,rfl,.refl _⟩,?_⟩);trivial) rfl rfl rfl hih2
   ·rw[show lb.take j=lb from List.take_of_length_le (by omega)]
    repeat'(first|refine gc_ rfl ?_|(refine G1 ?_;refine G0 th rfl ?_)|(refine G9 mix rfl rfl ?_;refine G3 th rfl ?_)|(refine G5 mix rfl rfl ?_;refine GJ th rfl ?_)|refine G2 ?_|refine G4 ?_|refine G6 ?_ rfl rfl|((first|refine G8 rfl rfl ?_ ?_|refine GG rfl rfl rfl ?_ ?_|refine Q1 rfl ?_ ?_)<;>intro hb<;>(try simp only[hbL]at hb)<;>first|(exfalso;omega)|refine G0 th rfl ?_|refine G3 th rfl ?_|skip)|(refine QW rfl rfl rfl rfl rfl rfl (by omega) ?_;refine G0 th rfl ?_))
    exact QK (by exact⟨⟨_,rfl,.refl _⟩,⟨_,rfl,.refl _⟩,⟨_,rfl,.refl _⟩,⟨_,rfl,.refl _⟩,⟨_,rfl,.refl _⟩,⟨_,rfl,.refl _⟩,⟨_,rfl,.refl _⟩,⟨_,rfl,.refl _⟩,⟨_,rfl,.refl _⟩,⟨_,rfl,GY (by omega)⟩,trivial⟩) (by(repeat refine⟨⟨_,rfl,.refl _⟩,?_⟩);trivial) rfl rfl rfl hih
  have hA:=allJ_len hv (p:=p) (near:=near) near.length
  rw[List.take_length]at hA
  rw[show near.take k=near from List.take_of_length_le (by omega)]
  clear ih hk
  obtain⟨A,hAA⟩:∃A,A=allL p near:=⟨_,rfl⟩
  rw[←hAA]at hA⊢
  repeat'((fail_if_success refine g_atR 22 rfl ?_);first|refine gc_ rfl ?_|(refine G1 ?_;refine G0 th rfl ?_)|(refine G9 mix rfl rfl ?_;refine G3 th rfl ?_)|(refine G5 mix rfl rfl ?_;refine GJ th rfl ?_)|refine G2 ?_|refine G4 ?_|refine G6 ?_ rfl rfl|((first|refine G8 rfl rfl ?_ ?_|refine GG rfl rfl rfl ?_ ?_|refine Q1 rfl ?_ ?_)<;>intro hb<;>(try simp only[hbL]at hb)<;>first|(exfalso;omega)|refine G0 th rfl ?_|refine G3 th rfl ?_|skip))
  refine g_join2Q ((s1&&near.any (fun x=>decide (labsL (Q5 p x)≠A)))=false)
   [(0,.v (.one (.ptr G7 0))),(1,.v (C1 (intsT near))),(4,.v (.one (.ptr 4 0))),(5,.v (C1 (.int .i64 0))),(12,.v (.one (.ptr 12 0))),(13,.v (C1 (Q8 A)))]
   ((12,.box [.c (.int .i64 (kindOf s1)),.c (.str s2),.c .nils])::(4,zBox)::seerM p role v S) rfl (fun hsay=>?_) (fun hk0=>?_)
  ·have hsay':((J4 p role x0).1&&near.any (fun x=>decide (labsL (Q5 p x)≠allL p near)))=false:=by rw[hs,←hAA];exact hsay
   obtain⟨kd,hkd⟩:∃kd,kd=kindOf s1:=⟨_,rfl⟩
   rw[←hkd]
   repeat'(first|refine gc_ rfl ?_|(refine G1 ?_;refine G0 th rfl ?_)|(refine G9 mix rfl rfl ?_;refine G3 th rfl ?_)|(refine G5 mix rfl rfl ?_;refine GJ th rfl ?_)|refine G2 ?_|refine G4 ?_|refine G6 ?_ rfl rfl|((first|refine G8 rfl rfl ?_ ?_|refine GG rfl rfl rfl ?_ ?_|refine Q1 rfl ?_ ?_)<;>intro hb<;>(try simp only[hbL]at hb)<;>first|(exfalso;omega)|refine G0 th rfl ?_|refine G3 th rfl ?_|skip))
   ·refine g_leB 4 2 (armsC []) rfl rfl (.nil 4) ?_
    unfold turnT
    rw[turn_large hne hal hsay' (by rw[←hAA];omega)]
    exact JW (hd:=hd) th Tryz.func40 v (.inr ⟨_,rfl⟩) rfl rfl rfl rfl ⟨rfl,rfl,rfl,trivial⟩ rfl rfl rfl trivial
   have hA6:¬6 < (allL p near).length:=by rw[←hAA];omega
   refine g_newPool 300 3 1 rfl rfl ?_
   refine g_loop2 (fun(k:Nat) (s:CarM×RowM)=>k≤near.length∧Gath (armsN p (near.take k)) s.1 s.2)
    (fun k _=>[(0,.v (.one (.ptr G7 0))),(1,.v (C1 (intsT near))),(4,.v (.one (.ptr 4 0))),(5,.v (C1 (.int .i64 0))),(12,.v (.one (.ptr 12 0))),(13,.v (C1 (Q8 A))),(20,.v (.one (.mp 119))),(21,.v (.one (.mp 120))),(121,.v (C1 (intsT near))),(122,.v (C1 (.int .i64 (near.length:Int)))),(123,.v (C1 (.int .i64 (k:Int))))])
    (fun _ s=>gMM p role v S kd s2 s.1 s.2)
    (fun k _=>near.length - k) 0 ([],[]) ⟨Nat.zero_le _,Gath.nil⟩
    (fun a w h=>h.sub (by exact⟨⟨_,rfl,.refl _⟩,⟨_,rfl,.refl _⟩,⟨_,rfl,.refl _⟩,⟨_,rfl,.refl _⟩,⟨_,rfl,.refl _⟩,⟨_,rfl,.refl _⟩,⟨_,rfl,.refl _⟩,⟨_,rfl,.refl _⟩,⟨_,rfl,.refl _⟩,⟨_,rfl,GY (by simp)⟩,⟨_,rfl,GY rfl⟩,trivial⟩)
      (by(repeat refine⟨⟨_,rfl,.refl _⟩,?_⟩);trivial) rfl rfl rfl) (fun k s hk ih=>?_)
   obtain⟨cm,xm⟩:=s
   obtain⟨hk,hG⟩:=hk
   simp only at hG⊢
   by_cases hlt4:k < near.length
   ·have hx:(near.map fun r=>[CT.int .i64 r])[k]? =some [.int .i64 near[k]]:=by simp[hlt4]
    have hxr:=hnr _ (List.getElem_mem hlt4)
    have hxp:=pntAt_get hxr
    have hx6:(Q5 p near[k]).arms.length≤6:=by
     rcases pntAt_arms hv near[k]with h1|h1
     ·rw[h1];simp
     ·exact(arms_all h1).1.2
    have hsp:=fun j=>armsN_split (p:=p) (j:=j) hlt4
    have hih:=fun s h=>ih (k+1) s ⟨hlt4,h⟩ (by omega)
    rw[armsN_snoc hlt4]at hih
    obtain⟨q,hq⟩:∃q,q=Q5 p near[k]:=⟨_,rfl⟩
    rw[←hq]at hxp hx6 hsp hih
    repeat'(first|refine gc_ rfl ?_|(refine G1 ?_;refine G0 th rfl ?_)|(refine G9 mix rfl rfl ?_;refine G3 th rfl ?_)|(refine G5 mix rfl rfl ?_;refine GJ th rfl ?_)|refine G2 ?_|refine G4 ?_|refine G6 ?_ rfl rfl|((first|refine G8 rfl rfl ?_ ?_|refine GG rfl rfl rfl ?_ ?_|refine Q1 rfl ?_ ?_)<;>intro hb<;>(try simp only[hbL]at hb)<;>first|(exfalso;omega)|refine G0 th rfl ?_|refine G3 th rfl ?_|skip)|((first|refine K2 th rfl rfl rfl rfl rfl rfl rfl rfl rfl k _ rfl hx ?_|refine K2 th rfl rfl rfl rfl rfl rfl rfl rfl rfl near[k].toNat _ (by omega) hxp ?_);refine G0 th rfl ?_))
    refine g_loop2 (fun(j:Nat) (s:CarM×RowM)=>j≤q.arms.length∧Gath (armsN p (near.take k)++q.arms.take j) s.1 s.2)
     (fun j _=>[(0,.v (.one (.ptr G7 0))),(1,.v (C1 (intsT near))),(4,.v (.one (.ptr 4 0))),(5,.v (C1 (.int .i64 0))),(12,.v (.one (.ptr 12 0))),(13,.v (C1 (Q8 A))),(20,.v (.one (.mp 119))),(21,.v (.one (.mp 120))),(121,.v (C1 (intsT near))),(122,.v (C1 (.int .i64 (near.length:Int)))),(123,.v (C1 (.int .i64 (k:Int)))),
       (135,.v (C1 (armsC q.arms))),(136,.v (C1 (.int .i64 (q.arms.length:Int)))),(137,.v (C1 (.int .i64 (j:Int))))])
     (fun _ s=>gMM p role v S kd s2 s.1 s.2)
     (fun j _=>q.arms.length - j) 0 (cm,xm) ⟨Nat.zero_le _,by rw[List.take_zero,List.append_nil];exact hG⟩
     (fun a w h=>h.sub (by exact⟨⟨_,rfl,.refl _⟩,⟨_,rfl,.refl _⟩,⟨_,rfl,.refl _⟩,⟨_,rfl,.refl _⟩,⟨_,rfl,.refl _⟩,⟨_,rfl,.refl _⟩,⟨_,rfl,.refl _⟩,⟨_,rfl,.refl _⟩,⟨_,rfl,.refl _⟩,⟨_,rfl,.refl _⟩,⟨_,rfl,.refl _⟩,⟨_,rfl,.refl _⟩,⟨_,rfl,GY (by simp)⟩,⟨_,rfl,GY rfl⟩,trivial⟩)
       (by(repeat refine⟨⟨_,rfl,.refl _⟩,?_⟩);trivial) rfl rfl rfl) (fun j s hj ih2=>?_)
    clear hG
    obtain⟨cm1,xm1⟩:=s
    obtain⟨hj,hG⟩:=hj
    simp only at hG⊢
    by_cases hjt:j < q.arms.length
    ·have hxj:(q.arms.map Arm.cs)[j]? =some (q.arms[j]).cs:=by simp[hjt]
     obtain⟨rest,hsp⟩:=hsp j hjt
     obtain⟨a,ha⟩:∃a,a=q.arms[j]:=⟨_,rfl⟩
     rw[←ha]at hsp hxj
     have hG2:∀vx,(lookK cm1 a.label=none∨lookK cm1 a.label=some (a.kind,a.name))→Gath (armsN p (near.take k)++q.arms.take (j+1)) (putK cm1 a.label (a.kind,a.name)) (updR xm1 a.label vx a.next):=by
      intro vx hgo
      rw[List.take_succ_eq_append_getElem hjt,←List.append_assoc,←ha]
      exact hG.step a hgo vx
     have hnxl:(nxtX xm1 a.label).length≤200:=by
      rw[hG.nxt]
      have h1:=nextN_len (armsN p (near.take k)++q.arms.take j) a.label
      have h2:=armsN_len hv (near.take k)
      rw[List.length_append,List.length_take]at h1
      rw[List.length_take]at h2
      omega
     have hih2:=fun(vx:Value) (hgo:lookK cm1 a.label=none∨lookK cm1 a.label=some (a.kind,a.name))=>ih2 (j+1) (putK cm1 a.label (a.kind,a.name),updR xm1 a.label vx a.next) ⟨hjt,hG2 vx hgo⟩ (by omega)
     cases hlk:lookK cm1 a.label with
     |none=>
      have hIs:(lookK cm1 a.label).isSome=false:=by rw[hlk];rfl
      repeat'((fail_if_success refine g_atR 44 rfl ?_);first|refine gc_ rfl ?_|(refine G1 ?_;refine G0 th rfl ?_)|(refine G9 mix rfl rfl ?_;refine G3 th rfl ?_)|(refine G5 mix rfl rfl ?_;refine GJ th rfl ?_)|refine G2 ?_|refine G4 ?_|refine G6 ?_ rfl rfl|((first|refine G8 rfl rfl ?_ ?_|refine GG rfl rfl rfl ?_ ?_|refine Q1 rfl ?_ ?_)<;>intro hb<;>(try simp only[hbL]at hb)<;>first|(exfalso;omega)|refine G0 th rfl ?_|refine G3 th rfl ?_|skip)|((first|refine K2 th rfl rfl rfl rfl rfl rfl rfl rfl rfl j _ rfl hxj ?_|(refine s_lookKOk th rfl rfl rfl rfl rfl rfl rfl rfl rfl rfl ?_;rw[hIs])|refine s_putK th (.inl rfl) rfl rfl rfl rfl rfl rfl rfl rfl ?_);refine G0 th rfl ?_))
      have hgo:lookK cm1 a.label=none∨lookK cm1 a.label=some (a.kind,a.name):=.inl hlk
      refine QK (tm':=[(0,.v (.one (.ptr G7 0))),(1,.v (C1 (intsT near))),(4,.v (.one (.ptr 4 0))),(5,.v (C1 (.int .i64 0))),(12,.v (.one (.ptr 12 0))),(13,.v (C1 (Q8 A))),(20,.v (.one (.mp 119))),(21,.v (.one (.mp 120))),(25,.v (.one (.ptr 25 0))),(121,.v (C1 (intsT near))),(122,.v (C1 (.int .i64 (near.length:Int)))),(123,.v (C1 (.int .i64 (k:Int)))),(135,.v (C1 (armsC q.arms))),(136,.v (C1 (.int .i64 (q.arms.length:Int)))),(137,.v (C1 (.int .i64 (j:Int))))]) (mm':=(119,.mpo (entF strF (valV xm1)))::(300,.pool 3 1 (poolR xm1))::[(25,.box [.c (.str a.label),.c (.int .i64 a.kind),.c (.str a.name),.c (.int .i64 a.next)]),(120,.mpo (entK (putK cm1 a.label (a.kind,a.name)))),(12,.box [.c (.int .i64 kd),.c (.str s2),.c .nils]),(4,.box [.c (.int .i64 0),.c (.str ⟨#[]⟩),.c .nils]),(G7,.box (seerCs p role v)),(G7+1,keysM S),(1,.pool 26 1 [(v,rowsI S)])]) (by(repeat refine⟨⟨_,rfl,.refl _⟩,?_⟩);trivial) (by(repeat refine⟨⟨_,rfl,.refl _⟩,?_⟩);trivial) rfl rfl rfl ?_
      rcases find_at xm1 a.label with⟨c0,v0,f1,f2,f3⟩|⟨f1,f2,f3⟩
      ·skip
       refine g_drawF (ι:=Value) [10,11] [300] r44ET (r44 [(25,.box [.c (.str a.label),.c (.int .i64 a.kind),.c (.str a.name),.c (.int .i64 a.next)]),(120,.mpo (entK (putK cm1 a.label (a.kind,a.name)))),(12,.box [.c (.int .i64 kd),.c (.str s2),.c .nils]),(4,.box [.c (.int .i64 0),.c (.str ⟨#[]⟩),.c .nils]),(G7,.box (seerCs p role v)),(G7+1,keysM S),(1,.pool 26 1 [(v,rowsI S)])] (entF strF (valV xm1)) (fun v=>entF strF (putC (valV xm1) a.label (.val v))) (poolR xm1) (fun v=>(poolR xm1).set c0 (v,rowI' (nxtX xm1 a.label)++[[.int .i64 a.next]]))) (.slice none 0 0) mix rfl (fun k x hk=>by match k,hk with|0,_|1,_=>(refine GQ ?_;repeat (first|exact trivial|refine⟨rfl,?_⟩))) rfl (fun k x=>by match k with|0|1|_+2=>rfl) rfl rfl (by simp) rfl rfl ?_
       refine Q2 th rfl ?_
       refine f_lookV th rfl rfl rfl rfl rfl rfl rfl rfl rfl rfl rfl v0 (.inl f1) ?_
       refine Q2 th rfl ?_
       refine f_lit th rfl rfl rfl rfl rfl rfl rfl rfl rfl rfl rfl rfl rfl (.refl _) ?_
       refine Q2 th rfl ?_
       refine FOps.nil ⟨GK rfl (fun x=>?_) (GK rfl (fun x=>?_) Effs.nil),fun v'=>?_⟩
       ·exact J0 (i:=300) th rfl rfl rfl rfl rfl rfl rfl rfl rfl rfl rfl rfl rfl rfl rfl rfl c0 f2 (by constructor<;>simp<;>omega) (fun v'=>v') (fun _=>rfl) (fun _=>rfl)
       ·exact ef_putS th (.inl rfl) rfl rfl rfl rfl rfl rfl rfl rfl rfl rfl
       have hih3:=hih2 v' hgo
       repeat'(first|refine gc_ rfl ?_|(refine G1 ?_;refine G0 th rfl ?_)|(refine G9 mix rfl rfl ?_;refine G3 th rfl ?_)|(refine G5 mix rfl rfl ?_;refine GJ th rfl ?_)|refine G2 ?_|refine G4 ?_|refine G6 ?_ rfl rfl|((first|refine G8 rfl rfl ?_ ?_|refine GG rfl rfl rfl ?_ ?_|refine Q1 rfl ?_ ?_)<;>intro hb<;>(try simp only[hbL]at hb)<;>first|(exfalso;omega)|refine G0 th rfl ?_|refine G3 th rfl ?_|skip)|(refine QW rfl rfl rfl rfl rfl rfl (by omega) ?_;refine G0 th rfl ?_))
       exact QK (by exact⟨⟨_,rfl,.refl _⟩,⟨_,rfl,.refl _⟩,⟨_,rfl,.refl _⟩,⟨_,rfl,.refl _⟩,⟨_,rfl,.refl _⟩,⟨_,rfl,.refl _⟩,⟨_,rfl,.refl _⟩,⟨_,rfl,.refl _⟩,⟨_,rfl,.refl _⟩,⟨_,rfl,.refl _⟩,⟨_,rfl,.refl _⟩,⟨_,rfl,.refl _⟩,⟨_,rfl,.refl _⟩,⟨_,rfl,GY (by omega)⟩,trivial⟩) (by exact⟨⟨_,rfl,le_mpo (by rw[val_upd])⟩,⟨_,rfl,.refl _⟩,⟨_,rfl,le_poolQ (f3 v' a.next).symm⟩,⟨_,rfl,.refl _⟩,⟨_,rfl,.refl _⟩,⟨_,rfl,.refl _⟩,⟨_,rfl,.refl _⟩,⟨_,rfl,.refl _⟩,trivial⟩) rfl rfl rfl hih3
      ·skip
       refine g_nilPool 300 rfl rfl rfl rfl ?_
       refine g_drawF (ι:=Value) [10,11] [300] r44ET (r44 [(25,.box [.c (.str a.label),.c (.int .i64 a.kind),.c (.str a.name),.c (.int .i64 a.next)]),(120,.mpo (entK (putK cm1 a.label (a.kind,a.name)))),(12,.box [.c (.int .i64 kd),.c (.str s2),.c .nils]),(4,.box [.c (.int .i64 0),.c (.str ⟨#[]⟩),.c .nils]),(G7,.box (seerCs p role v)),(G7+1,keysM S),(1,.pool 26 1 [(v,rowsI S)])] (entF strF (valV xm1)) (fun v=>entF strF (putC (valV xm1) a.label (.val v))) (poolR xm1++[(Value.slice none 0 0,[])]) (fun v=>(poolR xm1++[(Value.slice none 0 0,[])]).set xm1.length (v,[[.int .i64 a.next]]))) (.slice none 0 0) mix rfl (fun k x hk=>by match k,hk with|0,_|1,_=>(refine GQ ?_;repeat (first|exact trivial|refine⟨rfl,?_⟩))) rfl (fun k x=>by match k with|0|1|_+2=>rfl) rfl rfl (by simp) rfl rfl ?_
       refine Q2 th rfl ?_
       refine f_lookV th rfl rfl rfl rfl rfl rfl rfl rfl rfl rfl rfl (.slice none 0 0) (.inr ⟨f1,rfl⟩) ?_
       refine Q2 th rfl ?_
       refine f_lit th rfl rfl rfl rfl rfl rfl rfl rfl rfl rfl rfl rfl rfl (.refl _) ?_
       refine Q2 th rfl ?_
       refine FOps.nil ⟨GK rfl (fun x=>?_) (GK rfl (fun x=>?_) Effs.nil),fun v'=>?_⟩
       ·exact J0 (i:=300) th rfl rfl rfl rfl rfl rfl rfl rfl rfl rfl rfl rfl rfl rfl rfl rfl xm1.length (by rw[←poolR_len xm1];exact List.getElem?_concat_length) (by constructor<;>simp<;>omega) (fun v'=>v') (fun _=>rfl) (fun _=>rfl)
       ·exact ef_putS th (.inl rfl) rfl rfl rfl rfl rfl rfl rfl rfl rfl rfl
       have hih3:=hih2 v' hgo
       repeat'(first|refine gc_ rfl ?_|(refine G1 ?_;refine G0 th rfl ?_)|(refine G9 mix rfl rfl ?_;refine G3 th rfl ?_)|(refine G5 mix rfl rfl ?_;refine GJ th rfl ?_)|refine G2 ?_|refine G4 ?_|refine G6 ?_ rfl rfl|((first|refine G8 rfl rfl ?_ ?_|refine GG rfl rfl rfl ?_ ?_|refine Q1 rfl ?_ ?_)<;>intro hb<;>(try simp only[hbL]at hb)<;>first|(exfalso;omega)|refine G0 th rfl ?_|refine G3 th rfl ?_|skip)|(refine QW rfl rfl rfl rfl rfl rfl (by omega) ?_;refine G0 th rfl ?_))
       exact QK (by exact⟨⟨_,rfl,.refl _⟩,⟨_,rfl,.refl _⟩,⟨_,rfl,.refl _⟩,⟨_,rfl,.refl _⟩,⟨_,rfl,.refl _⟩,⟨_,rfl,.refl _⟩,⟨_,rfl,.refl _⟩,⟨_,rfl,.refl _⟩,⟨_,rfl,.refl _⟩,⟨_,rfl,.refl _⟩,⟨_,rfl,.refl _⟩,⟨_,rfl,.refl _⟩,⟨_,rfl,.refl _⟩,⟨_,rfl,GY (by omega)⟩,trivial⟩) (by exact⟨⟨_,rfl,le_mpo (by rw[val_upd])⟩,⟨_,rfl,.refl _⟩,⟨_,rfl,le_poolQ (f3 v' a.next).symm⟩,⟨_,rfl,.refl _⟩,⟨_,rfl,.refl _⟩,⟨_,rfl,.refl _⟩,⟨_,rfl,.refl _⟩,⟨_,rfl,.refl _⟩,trivial⟩) rfl rfl rfl hih3
     |some c=>
      obtain⟨c1,c2⟩:=c
      have hIs:(lookK cm1 a.label).isSome=true:=by rw[hlk];rfl
      have hDe:lookKD cm1 a.label=(c1,c2):=by unfold lookKD;rw[hlk];rfl
      repeat'((fail_if_success refine g_atR 44 rfl ?_);first|refine gc_ rfl ?_|(refine G1 ?_;refine G0 th rfl ?_)|(refine G9 mix rfl rfl ?_;refine G3 th rfl ?_)|(refine G5 mix rfl rfl ?_;refine GJ th rfl ?_)|refine G2 ?_|refine G4 ?_|refine G6 ?_ rfl rfl|((first|refine G8 rfl rfl ?_ ?_|refine GG rfl rfl rfl ?_ ?_|refine Q1 rfl ?_ ?_)<;>intro hb<;>(try simp only[hbL]at hb)<;>first|(exfalso;omega)|refine G0 th rfl ?_|refine G3 th rfl ?_|skip)|((first|refine K2 th rfl rfl rfl rfl rfl rfl rfl rfl rfl j _ rfl hxj ?_|(refine s_lookKOk th rfl rfl rfl rfl rfl rfl rfl rfl rfl rfl ?_;rw[hIs,hDe])|refine s_neCar rfl rfl rfl rfl rfl rfl rfl ?_|refine s_putK th (.inl rfl) rfl rfl rfl rfl rfl rfl rfl rfl ?_);refine G0 th rfl ?_))
      ·have hbad:=hG.clash a hlk (by intro e;revert hb;simp[←e];done) rest
       rw[←hsp]at hbad
       refine g_leB 4 2 (armsC []) rfl rfl (.nil 4) ?_
       unfold turnT
       rw[turn_clash hne hal hsay' hA6 hbad]
       exact JW (hd:=hd) th Tryz.func40 v (.inr ⟨_,rfl⟩) rfl rfl rfl rfl ⟨rfl,rfl,rfl,trivial⟩ rfl rfl rfl trivial
      all_goals try(exfalso;revert hb;simp;done)
      have hgo:lookK cm1 a.label=none∨lookK cm1 a.label=some (a.kind,a.name):=.inr (by rw[hlk];exact congrArg some (by simpa using hb))
      refine QK (tm':=[(0,.v (.one (.ptr G7 0))),(1,.v (C1 (intsT near))),(4,.v (.one (.ptr 4 0))),(5,.v (C1 (.int .i64 0))),(12,.v (.one (.ptr 12 0))),(13,.v (C1 (Q8 A))),(20,.v (.one (.mp 119))),(21,.v (.one (.mp 120))),(25,.v (.one (.ptr 25 0))),(121,.v (C1 (intsT near))),(122,.v (C1 (.int .i64 (near.length:Int)))),(123,.v (C1 (.int .i64 (k:Int)))),(135,.v (C1 (armsC q.arms))),(136,.v (C1 (.int .i64 (q.arms.length:Int)))),(137,.v (C1 (.int .i64 (j:Int))))]) (mm':=(119,.mpo (entF strF (valV xm1)))::(300,.pool 3 1 (poolR xm1))::[(25,.box [.c (.str a.label),.c (.int .i64 a.kind),.c (.str a.name),.c (.int .i64 a.next)]),(120,.mpo (entK (putK cm1 a.label (a.kind,a.name)))),(12,.box [.c (.int .i64 kd),.c (.str s2),.c .nils]),(4,.box [.c (.int .i64 0),.c (.str ⟨#[]⟩),.c .nils]),(G7,.box (seerCs p role v)),(G7+1,keysM S),(1,.pool 26 1 [(v,rowsI S)])]) (by(repeat refine⟨⟨_,rfl,.refl _⟩,?_⟩);trivial) (by(repeat refine⟨⟨_,rfl,.refl _⟩,?_⟩);trivial) rfl rfl rfl ?_
      rcases find_at xm1 a.label with⟨c0,v0,f1,f2,f3⟩|⟨f1,f2,f3⟩
      ·skip
       refine g_drawF (ι:=Value) [10,11] [300] r44ET (r44 [(25,.box [.c (.str a.label),.c (.int .i64 a.kind),.c (.str a.name),.c (.int .i64 a.next)]),(120,.mpo (entK (putK cm1 a.label (a.kind,a.name)))),(12,.box [.c (.int .i64 kd),.c (.str s2),.c .nils]),(4,.box [.c (.int .i64 0),.c (.str ⟨#[]⟩),.c .nils]),(G7,.box (seerCs p role v)),(G7+1,keysM S),(1,.pool 26 1 [(v,rowsI S)])] (entF strF (valV xm1)) (fun v=>entF strF (putC (valV xm1) a.label (.val v))) (poolR xm1) (fun v=>(poolR xm1).set c0 (v,rowI' (nxtX xm1 a.label)++[[.int .i64 a.next]]))) (.slice none 0 0) mix rfl (fun k x hk=>by match k,hk with|0,_|1,_=>(refine GQ ?_;repeat (first|exact trivial|refine⟨rfl,?_⟩))) rfl (fun k x=>by match k with|0|1|_+2=>rfl) rfl rfl (by simp) rfl rfl ?_
       refine Q2 th rfl ?_
       refine f_lookV th rfl rfl rfl rfl rfl rfl rfl rfl rfl rfl rfl v0 (.inl f1) ?_
       refine Q2 th rfl ?_
       refine f_lit th rfl rfl rfl rfl rfl rfl rfl rfl rfl rfl rfl rfl rfl (.refl _) ?_
       refine Q2 th rfl ?_
       refine FOps.nil ⟨GK rfl (fun x=>?_) (GK rfl (fun x=>?_) Effs.nil),fun v'=>?_⟩
       ·exact J0 (i:=300) th rfl rfl rfl rfl rfl rfl rfl rfl rfl rfl rfl rfl rfl rfl rfl rfl c0 f2 (by constructor<;>simp<;>omega) (fun v'=>v') (fun _=>rfl) (fun _=>rfl)
       ·exact ef_putS th (.inl rfl) rfl rfl rfl rfl rfl rfl rfl rfl rfl rfl
       have hih3:=hih2 v' hgo
       repeat'(first|refine gc_ rfl ?_|(refine G1 ?_;refine G0 th rfl ?_)|(refine G9 mix rfl rfl ?_;refine G3 th rfl ?_)|(refine G5 mix rfl rfl ?_;refine GJ th rfl ?_)|refine G2 ?_|refine G4 ?_|refine G6 ?_ rfl rfl|((first|refine G8 rfl rfl ?_ ?_|refine GG rfl rfl rfl ?_ ?_|refine Q1 rfl ?_ ?_)<;>intro hb<;>(try simp only[hbL]at hb)<;>first|(exfalso;omega)|refine G0 th rfl ?_|refine G3 th rfl ?_|skip)|(refine QW rfl rfl rfl rfl rfl rfl (by omega) ?_;refine G0 th rfl ?_))
       exact QK (by exact⟨⟨_,rfl,.refl _⟩,⟨_,rfl,.refl _⟩,⟨_,rfl,.refl _⟩,⟨_,rfl,.refl _⟩,⟨_,rfl,.refl _⟩,⟨_,rfl,.refl _⟩,⟨_,rfl,.refl _⟩,⟨_,rfl,.refl _⟩,⟨_,rfl,.refl _⟩,⟨_,rfl,.refl _⟩,⟨_,rfl,.refl _⟩,⟨_,rfl,.refl _⟩,⟨_,rfl,.refl _⟩,⟨_,rfl,GY (by omega)⟩,trivial⟩) (by exact⟨⟨_,rfl,le_mpo (by rw[val_upd])⟩,⟨_,rfl,.refl _⟩,⟨_,rfl,le_poolQ (f3 v' a.next).symm⟩,⟨_,rfl,.refl _⟩,⟨_,rfl,.refl _⟩,⟨_,rfl,.refl _⟩,⟨_,rfl,.refl _⟩,⟨_,rfl,.refl _⟩,trivial⟩) rfl rfl rfl hih3
      ·skip
       refine g_nilPool 300 rfl rfl rfl rfl ?_
       refine g_drawF (ι:=Value) [10,11] [300] r44ET (r44 [(25,.box [.c (.str a.label),.c (.int .i64 a.kind),.c (.str a.name),.c (.int .i64 a.next)]),(120,.mpo (entK (putK cm1 a.label (a.kind,a.name)))),(12,.box [.c (.int .i64 kd),.c (.str s2),.c .nils]),(4,.box [.c (.int .i64 0),.c (.str ⟨#[]⟩),.c .nils]),(G7,.box (seerCs p role v)),(G7+1,keysM S),(1,.pool 26 1 [(v,rowsI S)])] (entF strF (valV xm1)) (fun v=>entF strF (putC (valV xm1) a.label (.val v))) (poolR xm1++[(Value.slice none 0 0,[])]) (fun v=>(poolR xm1++[(Value.slice none 0 0,[])]).set xm1.length (v,[[.int .i64 a.next]]))) (.slice none 0 0) mix rfl (fun k x hk=>by match k,hk with|0,_|1,_=>(refine GQ ?_;repeat (first|exact trivial|refine⟨rfl,?_⟩))) rfl (fun k x=>by match k with|0|1|_+2=>rfl) rfl rfl (by simp) rfl rfl ?_
       refine Q2 th rfl ?_
       refine f_lookV th rfl rfl rfl rfl rfl rfl rfl rfl rfl rfl rfl (.slice none 0 0) (.inr ⟨f1,rfl⟩) ?_
       refine Q2 th rfl ?_
       refine f_lit th rfl rfl rfl rfl rfl rfl rfl rfl rfl rfl rfl rfl rfl (.refl _) ?_
       refine Q2 th rfl ?_
       refine FOps.nil ⟨GK rfl (fun x=>?_) (GK rfl (fun x=>?_) Effs.nil),fun v'=>?_⟩
       ·exact J0 (i:=300) th rfl rfl rfl rfl rfl rfl rfl rfl rfl rfl rfl rfl rfl rfl rfl rfl xm1.length (by rw[←poolR_len xm1];exact List.getElem?_concat_length) (by constructor<;>simp<;>omega) (fun v'=>v') (fun _=>rfl) (fun _=>rfl)
       ·exact ef_putS th (.inl rfl) rfl rfl rfl rfl rfl rfl rfl rfl rfl rfl
       have hih3:=hih2 v' hgo
       repeat'(first|refine gc_ rfl ?_|(refine G1 ?_;refine G0 th rfl ?_)|(refine G9 mix rfl rfl ?_;refine G3 th rfl ?_)|(refine G5 mix rfl rfl ?_;refine GJ th rfl ?_)|refine G2 ?_|refine G4 ?_|refine G6 ?_ rfl rfl|((first|refine G8 rfl rfl ?_ ?_|refine GG rfl rfl rfl ?_ ?_|refine Q1 rfl ?_ ?_)<;>intro hb<;>(try simp only[hbL]at hb)<;>first|(exfalso;omega)|refine G0 th rfl ?_|refine G3 th rfl ?_|skip)|(refine QW rfl rfl rfl rfl rfl rfl (by omega) ?_;refine G0 th rfl ?_))
       exact QK (by exact⟨⟨_,rfl,.refl _⟩,⟨_,rfl,.refl _⟩,⟨_,rfl,.refl _⟩,⟨_,rfl,.refl _⟩,⟨_,rfl,.refl _⟩,⟨_,rfl,.refl _⟩,⟨_,rfl,.refl _⟩,⟨_,rfl,.refl _⟩,⟨_,rfl,.refl _⟩,⟨_,rfl,.refl _⟩,⟨_,rfl,.refl _⟩,⟨_,rfl,.refl _⟩,⟨_,rfl,.refl _⟩,⟨_,rfl,GY (by omega)⟩,trivial⟩) (by exact⟨⟨_,rfl,le_mpo (by rw[val_upd])⟩,⟨_,rfl,.refl _⟩,⟨_,rfl,le_poolQ (f3 v' a.next).symm⟩,⟨_,rfl,.refl _⟩,⟨_,rfl,.refl _⟩,⟨_,rfl,.refl _⟩,⟨_,rfl,.refl _⟩,⟨_,rfl,.refl _⟩,trivial⟩) rfl rfl rfl hih3
    ·rw[show q.arms.take j=q.arms from List.take_of_length_le (by omega)]at hG
     have hih3:=hih (cm1,xm1) hG
     repeat'(first|refine gc_ rfl ?_|(refine G1 ?_;refine G0 th rfl ?_)|(refine G9 mix rfl rfl ?_;refine G3 th rfl ?_)|(refine G5 mix rfl rfl ?_;refine GJ th rfl ?_)|refine G2 ?_|refine G4 ?_|refine G6 ?_ rfl rfl|((first|refine G8 rfl rfl ?_ ?_|refine GG rfl rfl rfl ?_ ?_|refine Q1 rfl ?_ ?_)<;>intro hb<;>(try simp only[hbL]at hb)<;>first|(exfalso;omega)|refine G0 th rfl ?_|refine G3 th rfl ?_|skip)|(refine QW rfl rfl rfl rfl rfl rfl (by omega) ?_;refine G0 th rfl ?_))
     exact QK (by exact⟨⟨_,rfl,.refl _⟩,⟨_,rfl,.refl _⟩,⟨_,rfl,.refl _⟩,⟨_,rfl,.refl _⟩,⟨_,rfl,.refl _⟩,⟨_,rfl,.refl _⟩,⟨_,rfl,.refl _⟩,⟨_,rfl,.refl _⟩,⟨_,rfl,.refl _⟩,⟨_,rfl,.refl _⟩,⟨_,rfl,GY (by omega)⟩,trivial⟩) (by(repeat refine⟨⟨_,rfl,.refl _⟩,?_⟩);trivial) rfl rfl rfl hih3
   ·rw[show near.take k=near from List.take_of_length_le (by omega)]at hG
    clear ih
    obtain⟨arr,harr⟩:∃arr,arr=armsN p near:=⟨_,rfl⟩
    have hal2:=armsN_len hv near
    have hnx:∀s,(∀x∈nextN arr s,0≤x∧x < (p.points.length:Int))∧(nextN arr s).length≤1000:=fun s=>by
     have h1:=nextN_len arr s
     rw[harr]at h1⊢
     exact⟨nextN_range hv,by omega⟩
    have hta:=turn_arms (S:=S) hne hal hsay' hA6 (by have:=hG.ok;exact this)
    rw[←harr]at hG hta
    rw[hs,←hAA]at hta
    have hA66:A.length≤6:=by rw[hAA];omega
    have hSt:armsS p role arr A [] S=armsS p role arr (A.drop 0) [] S:=rfl
    repeat'(first|refine gc_ rfl ?_|(refine G1 ?_;refine G0 th rfl ?_)|(refine G9 mix rfl rfl ?_;refine G3 th rfl ?_)|(refine G5 mix rfl rfl ?_;refine GJ th rfl ?_)|refine G2 ?_|refine G4 ?_|refine G6 ?_ rfl rfl|((first|refine G8 rfl rfl ?_ ?_|refine GG rfl rfl rfl ?_ ?_|refine Q1 rfl ?_ ?_)<;>intro hb<;>(try simp only[hbL]at hb)<;>first|(exfalso;omega)|refine G0 th rfl ?_|refine G3 th rfl ?_|skip))
    refine g_freezeV 300 119 rfl rfl rfl rfl rfl rfl ?_
    refine g_adoptB 12 2 290 58 4 rfl rfl rfl rfl ?_
    refine g_loop2 (fun(k:Nat) (s:List Arm×List (List Int)×Value)=>k≤A.length∧s.1.length≤k∧SeerOK p s.2.1∧armsS p role arr A [] S=armsS p role arr (A.drop k) s.1 s.2.1)
     (fun k _=>[(0,.v (.one (.ptr G7 0))),(4,.v (.one (.ptr 4 0))),(5,.v (C1 (.int .i64 0))),(12,.v (.one (.ptr 12 0))),(20,.v (.one (.mp 119))),(21,.v (.one (.mp 120))),(174,.v (C1 (Q8 A))),(175,.v (C1 (.int .i64 (A.length:Int)))),(176,.v (C1 (.int .i64 (k:Int))))])
     (fun _ s=>[(290,.arr false 58 4 (s.1.map Arm.cs)),(12,.box [.c (.int .i64 kd),.c (.str s2),.own 290]),(4,.box [.c (.int .i64 0),.c (.str ⟨#[]⟩),.c .nils]),(119,.mpo (entF strF (frzV xm))),(120,.mpo (entK cm)),
       (G7,.box (seerCs p role s.2.2)),(G7+1,keysM s.2.1),(1,.pool 26 1 [(s.2.2,rowsI s.2.1)])])
     (fun k _=>A.length - k) 0 ([],S,v) ⟨Nat.zero_le _,Nat.le_refl _,hS,hSt⟩
     (fun a w h=>h.sub (by exact⟨⟨_,rfl,.refl _⟩,⟨_,rfl,.refl _⟩,⟨_,rfl,.refl _⟩,⟨_,rfl,.refl _⟩,⟨_,rfl,.refl _⟩,⟨_,rfl,.refl _⟩,⟨_,rfl,.refl _⟩,⟨_,rfl,GY (by simp)⟩,⟨_,rfl,GY rfl⟩,trivial⟩)
       (by exact⟨⟨_,rfl,le_arr rfl⟩,⟨_,rfl,.refl _⟩,⟨_,rfl,.refl _⟩,⟨_,rfl,.refl _⟩,⟨_,rfl,.refl _⟩,⟨_,rfl,.refl _⟩,⟨_,rfl,.refl _⟩,⟨_,rfl,.refl _⟩,trivial⟩) rfl rfl rfl) (fun k s hk ih=>?_)
    obtain⟨out,S1,v1⟩:=s
    obtain⟨hk,hol,hS1,hst⟩:=hk
    simp only at hol hS1 hst⊢
    by_cases hlt5:k < A.length
    ·have hx:(A.map fun s=>[CT.str s])[k]? =some [.str A[k]]:=by simp[hlt5]
     have hle:=frz_look xm A[k]
     rw[hG.nxt]at hle
     have hcar:lookKD cm A[k]=carA arr A[k]:=by unfold lookKD carA;rw[hG.car]
     have hlook:=look_c p hv hB role hh v1 S1 hS1 (nextN arr A[k]) (hnx _).1 (hnx _).2
     have hS2:=hS1.look hv role (nextN arr A[k])
     rw[List.drop_eq_getElem_cons hlt5,armsS]at hst
     obtain⟨⟨⟨i2,e2⟩,S2⟩,hL⟩:∃L,L=JY p role S1 (nextN arr A[k]):=⟨_,rfl⟩
     unfold lookT at hlook
     simp only[←hL]at hlook hS2 hst
     have hih:=fun(h0:e2=0) v2=>ih (k+1) (out++[⟨A[k],(carA arr A[k]).1,(carA arr A[k]).2,i2⟩],S2,v2) ⟨hlt5,by simp;omega,hS2,by rw[hst,if_pos h0]⟩ (by omega)
     have herr:=fun(h0:¬e2=0)=>(show armsS p role arr A [] S=(([],e2),S2) by rw[hst,if_neg h0])
     clear ih hst
     obtain⟨sk,hsk⟩:∃sk,sk=A[k]:=⟨_,rfl⟩
     rw[←hsk]at hx hle hcar hlook hih
     obtain⟨cc,hcc⟩:∃cc,cc=carA arr sk:=⟨_,rfl⟩
     rw[←hcc]at hcar hih
     obtain⟨nx,hnx2⟩:∃nx,nx=nextN arr sk:=⟨_,rfl⟩
     rw[←hnx2]at hle hlook
     repeat'(first|refine gc_ rfl ?_|(refine G1 ?_;refine G0 th rfl ?_)|(refine G9 mix rfl rfl ?_;refine G3 th rfl ?_)|(refine G5 mix rfl rfl ?_;refine GJ th rfl ?_)|refine G2 ?_|refine G4 ?_|refine G6 ?_ rfl rfl|((first|refine G8 rfl rfl ?_ ?_|refine GG rfl rfl rfl ?_ ?_|refine Q1 rfl ?_ ?_)<;>intro hb<;>(try simp only[hbL]at hb)<;>first|(exfalso;omega)|refine G0 th rfl ?_|refine G3 th rfl ?_|skip)|((first|refine K2 th rfl rfl rfl rfl rfl rfl rfl rfl rfl k _ rfl hx ?_|(refine s_lookS th (m:=frzV xm) rfl rfl rfl rfl rfl rfl rfl rfl rfl rfl rfl rfl ?_;refine s_leT 184 (.v (C1 (intsT nx))) rfl (.v (.one (.c hle))) ?_)|refine s_callM hlook [] rfl rfl rfl rfl ⟨rfl,rfl,rfl,trivial⟩ ⟨rfl,rfl,rfl,rfl,rfl⟩ (fun _=>⟨rfl,rfl,rfl,rfl,rfl,rfl,rfl⟩) (fun _=>rfl) (fun _=>rfl) rfl rfl rfl (fun v2 _=>?_)|(refine s_lookK th rfl rfl rfl rfl rfl rfl rfl rfl rfl rfl ?_;rw[hcar]));refine G0 th rfl ?_)|(refine s_anyB 12 2 rfl ?_;refine s_append th rfl rfl rfl rfl rfl rfl rfl rfl rfl rfl rfl rfl rfl rfl rfl (by constructor<;>simp<;>omega) ?_;refine G0 th rfl ?_)|(refine QW rfl rfl rfl rfl rfl rfl (by omega) ?_;refine G0 th rfl ?_))
     ·have he:=herr (by assumption)
      rw[he,if_neg (by assumption)]at hta
      refine g_leB 4 2 (armsC []) rfl rfl (.nil 4) ?_
      unfold turnT
      rw[hta]
      exact JW (hd:=hd) th Tryz.func40 v2 (.inr ⟨_,rfl⟩) rfl rfl rfl rfl ⟨rfl,rfl,rfl,trivial⟩ rfl rfl rfl trivial
     ·exact QK (by exact⟨⟨_,rfl,.refl _⟩,⟨_,rfl,.refl _⟩,⟨_,rfl,.refl _⟩,⟨_,rfl,.refl _⟩,⟨_,rfl,.refl _⟩,⟨_,rfl,.refl _⟩,⟨_,rfl,.refl _⟩,⟨_,rfl,.refl _⟩,⟨_,rfl,GY (by omega)⟩,trivial⟩)
       (by exact⟨⟨_,rfl,le_arr (by simp)⟩,⟨_,rfl,.refl _⟩,⟨_,rfl,.refl _⟩,⟨_,rfl,.refl _⟩,⟨_,rfl,.refl _⟩,⟨_,rfl,.refl _⟩,⟨_,rfl,.refl _⟩,⟨_,rfl,.refl _⟩,trivial⟩) rfl rfl rfl (hih (by assumption) v2)
    ·rw[List.drop_eq_nil_of_le (by omega),armsS]at hst
     clear ih
     rw[hst,if_pos rfl,←hkd]at hta
     repeat'(first|(refine g_freeze 290 rfl rfl ?_)|refine gc_ rfl ?_|(refine G1 ?_;refine G0 th rfl ?_)|(refine G9 mix rfl rfl ?_;refine G3 th rfl ?_)|(refine G5 mix rfl rfl ?_;refine GJ th rfl ?_)|refine G2 ?_|refine G4 ?_|refine G6 ?_ rfl rfl|((first|refine G8 rfl rfl ?_ ?_|refine GG rfl rfl rfl ?_ ?_|refine Q1 rfl ?_ ?_)<;>intro hb<;>(try simp only[hbL]at hb)<;>first|(exfalso;omega)|refine G0 th rfl ?_|refine G3 th rfl ?_|skip))
     unfold turnT
     rw[hta]
     exact JW (hd:=hd) th Tryz.func40 v1 (.inr ⟨_,rfl⟩) rfl rfl rfl rfl ⟨rfl,rfl,rfl,trivial⟩ rfl rfl rfl trivial
  ·skip
   repeat'((fail_if_success refine g_atR 30 rfl ?_);first|refine gc_ rfl ?_|(refine G1 ?_;refine G0 th rfl ?_)|(refine G9 mix rfl rfl ?_;refine G3 th rfl ?_)|(refine G5 mix rfl rfl ?_;refine GJ th rfl ?_)|refine G2 ?_|refine G4 ?_|refine G6 ?_ rfl rfl|((first|refine G8 rfl rfl ?_ ?_|refine GG rfl rfl rfl ?_ ?_|refine Q1 rfl ?_ ?_)<;>intro hb<;>(try simp only[hbL]at hb)<;>first|(exfalso;omega)|refine G0 th rfl ?_|refine G3 th rfl ?_|skip))
   ·have hs1:s1=true:=hb
    rw[hs1,Bool.true_and]at hk0
    refine J8 (fun k:Nat=>k≤near.length∧(near.take k).any (fun x=>decide (labsL (Q5 p x)≠A))=false)
     (fun k=>[(0,.v (.one (.ptr G7 0))),(1,.v (C1 (intsT near))),(4,.v (.one (.ptr 4 0))),(5,.v (C1 (.int .i64 0))),(12,.v (.one (.ptr 12 0))),(13,.v (C1 (Q8 A))),(95,.v (C1 (intsT near))),(96,.v (C1 (.int .i64 (near.length:Int)))),(97,.v (C1 (.int .i64 (k:Int))))])
     (fun _=>(12,.box [.c (.int .i64 1),.c (.str s2),.c .nils])::(4,zBox)::seerM p role v S)
     (fun k=>near.length - k) 0 ⟨Nat.zero_le _,rfl⟩
     (fun a w h=>h.sub (by exact⟨⟨_,rfl,.refl _⟩,⟨_,rfl,.refl _⟩,⟨_,rfl,.refl _⟩,⟨_,rfl,.refl _⟩,⟨_,rfl,.refl _⟩,⟨_,rfl,.refl _⟩,⟨_,rfl,.refl _⟩,⟨_,rfl,GY (by simp)⟩,⟨_,rfl,GY rfl⟩,trivial⟩) (by(repeat refine⟨⟨_,rfl,.refl _⟩,?_⟩);trivial) rfl rfl rfl) (fun k hk ih=>?_)
    obtain⟨hk,hal3⟩:=hk
    by_cases hlt3:k < near.length
    ·have hx:(near.map fun r=>[CT.int .i64 r])[k]? =some [.int .i64 near[k]]:=by simp[hlt3]
     have hxr:=hnr _ (List.getElem_mem hlt3)
     have hxp:=pntAt_get hxr
     have hx6:(Q5 p near[k]).arms.length≤6:=by
      rcases pntAt_arms hv near[k]with h1|h1
      ·rw[h1];simp
      ·exact(arms_all h1).1.2
     have hlab:=labels_c' (Q5 p near[k]) hx6
     have heq:=equalS_c (labsL (Q5 p near[k])) A
     have hsn:=anyT_snoc hlt3 (fun x=>decide (labsL (Q5 p x)≠A))
     rw[hal3,Bool.false_or]at hsn
     repeat'(first|refine gc_ rfl ?_|(refine G1 ?_;refine G0 th rfl ?_)|(refine G9 mix rfl rfl ?_;refine G3 th rfl ?_)|(refine G5 mix rfl rfl ?_;refine GJ th rfl ?_)|refine G2 ?_|refine G4 ?_|refine G6 ?_ rfl rfl|((first|refine G8 rfl rfl ?_ ?_|refine GG rfl rfl rfl ?_ ?_|refine Q1 rfl ?_ ?_)<;>intro hb<;>(try simp only[hbL]at hb)<;>first|(exfalso;omega)|refine G0 th rfl ?_|refine G3 th rfl ?_|skip)|((first|refine K2 th rfl rfl rfl rfl rfl rfl rfl rfl rfl k _ rfl hx ?_|refine K2 th rfl rfl rfl rfl rfl rfl rfl rfl rfl near[k].toNat _ (by omega) hxp ?_|refine Q4 hlab [] rfl rfl rfl rfl rfl rfl rfl rfl rfl rfl ?_|refine Q4 heq [] rfl rfl rfl rfl rfl rfl rfl rfl rfl rfl ?_|refine QW rfl rfl rfl rfl rfl rfl (by omega) ?_);refine G0 th rfl ?_))
     all_goals first
      |(have hnq:labsL (Q5 p near[k])≠A:=by intro e;revert hb;simp[e];done
        have hany:((J4 p role x0).1&&near.any (fun x=>decide (labsL (Q5 p x)≠allL p near)))=true:=by
         rw[hs,hs1,Bool.true_and,←hAA];exact List.any_eq_true.2 ⟨near[k],List.getElem_mem hlt3,decide_eq_true hnq⟩
        refine g_leB 4 2 (armsC []) rfl rfl (.nil 4) ?_
        unfold turnT
        rw[turn_says hne hal hany]
        exact JW (hd:=hd) th Tryz.func40 v (.inr ⟨_,rfl⟩) rfl rfl rfl rfl ⟨rfl,rfl,rfl,trivial⟩ rfl rfl rfl trivial)
      |(have hih:=ih (k+1) ⟨hlt3,by rw[hsn];exact decide_eq_false fun h=>h (by simpa using hb)⟩ (by omega)
        exact QK (by exact⟨⟨_,rfl,.refl _⟩,⟨_,rfl,.refl _⟩,⟨_,rfl,.refl _⟩,⟨_,rfl,.refl _⟩,⟨_,rfl,.refl _⟩,⟨_,rfl,.refl _⟩,⟨_,rfl,.refl _⟩,⟨_,rfl,.refl _⟩,⟨_,rfl,GY (by omega)⟩,trivial⟩) (by(repeat refine⟨⟨_,rfl,.refl _⟩,?_⟩);trivial) rfl rfl rfl hih)
    ·rw[show near.take k=near from List.take_of_length_le (by omega)]at hal3
     repeat'((fail_if_success refine g_atR 30 rfl ?_);first|refine gc_ rfl ?_|(refine G1 ?_;refine G0 th rfl ?_)|(refine G9 mix rfl rfl ?_;refine G3 th rfl ?_)|(refine G5 mix rfl rfl ?_;refine GJ th rfl ?_)|refine G2 ?_|refine G4 ?_|refine G6 ?_ rfl rfl|((first|refine G8 rfl rfl ?_ ?_|refine GG rfl rfl rfl ?_ ?_|refine Q1 rfl ?_ ?_)<;>intro hb<;>(try simp only[hbL]at hb)<;>first|(exfalso;omega)|refine G0 th rfl ?_|refine G3 th rfl ?_|skip))
     exact QK (by(repeat refine⟨⟨_,rfl,.refl _⟩,?_⟩);trivial) (by(repeat refine⟨⟨_,rfl,.refl _⟩,?_⟩);trivial) rfl rfl rfl (hk0 hal3)
   ·have hs1:s1=false:=hb
    subst hs1
    exact QK (by(repeat refine⟨⟨_,rfl,.refl _⟩,?_⟩);trivial) (by(repeat refine⟨⟨_,rfl,.refl _⟩,?_⟩);trivial) rfl rfl rfl (hk0 rfl)
def FromN(p:Prt)(role:ByteArray)(S:List (List Int)):Prop:=∀m∈S,∃l,m=J7 p role l
section
variable {p:Prt} {role:ByteArray} {S:List (List Int)}
theorem FromN.look(h:FromN p role S)(set:List Int):FromN p role (JY p role S set).2:=by
 intro m hm
 rcases look_cases (p:=p) (role:=role) S set with⟨_,e⟩|⟨_,_,e⟩|⟨_,_,_,e⟩|⟨_,_,_,e⟩
 ·rw[e]at hm;exact h m hm
 ·rw[e]at hm;exact h m hm
 ·rw[e]at hm;exact h m hm
 ·rw[e]at hm
  rcases List.mem_append.1 hm with hm|hm
  ·exact h m hm
  ·exact⟨set,List.mem_singleton.1 hm⟩
theorem FromN.arms{arr:List Arm}:∀(ls:List ByteArray) {out:List Arm} {S:List (List Int)},FromN p role S→FromN p role (armsS p role arr ls out S).2
 |[],_,_,h=>h
 |s::ls,out,S,h=>by
  rw[armsS]
  split
  ·exact FromN.arms ls (h.look _)
  ·exact h.look _
theorem FromN.turn(h:FromN p role S)(near:List Int):FromN p role (turnS p role S near).2:=by
 unfold turnS
 cases near with
 |nil=>exact h
 |cons x0 r=>
  simp only
  repeat' split
  all_goals first|exact h|exact FromN.arms _ h
theorem seer_of(hv:prtB p=true)(h:FromN p role S)(hs:SetsOK S):SeerOK p S:=⟨hs,fun m hm=>by obtain⟨l,rfl⟩:=h m hm;exact(near_small hv role l).1⟩
theorem turn_grows(S:List (List Int))(near:List Int):∃r,(turnS p role S near).2=S++r:=by
 have ha:∀(arr:List Arm) (ls:List ByteArray) (out:List Arm) (S:List (List Int)),∃r,(armsS p role arr ls out S).2=S++r:=by
  intro arr ls
  induction ls with
  |nil=>intro out S;exact⟨[],by simp[armsS]⟩
  |cons s ls ih=>
   intro out S
   obtain⟨r1,h1⟩:=look_grows (p:=p) (role:=role) S (nextN arr s)
   rw[armsS]
   split
   ·obtain⟨r2,h2⟩:=ih (out++[⟨s,(carA arr s).1,(carA arr s).2,(JY p role S (nextN arr s)).1.1⟩]) (JY p role S (nextN arr s)).2
    exact⟨r1++r2,by rw[h2,h1,List.append_assoc]⟩
   ·exact⟨r1,h1⟩
 unfold turnS
 cases near with
 |nil=>exact⟨[],by simp⟩
 |cons x0 r=>
  simp only
  repeat' split
  all_goals first|exact⟨[],(List.append_nil S).symm⟩|exact ha _ _ _ _
end
section
open Go.RowKit
variable {C:Ctx} {n:Nat} {tm:TM} {mm:MM} {o:Oper} {d:Nat}
theorem op_build_structZ{Θ:Tab}(hΘ:QJ C.P Θ){t:TypeId}{z bts:Nat}{zv:Value}{zs:List SC}{fs:List (Nat×Nat)}{parts:Array (Nat×Operand)}{r:List SC}
 (hz0:∀w,(zeroValue t).run C.P w=.ok zv w)(hzp:∀(I:Nat→Prop) (H:Nat→Value) (Z:Nat→Nat) (w:World) (M:Nat→Prop),Pw (fun u c=>u.oneCell'=true∧RepSC I H Z w M u c) zv.cells.toList zs)
 (ho:o.op=.build t parts)(ht:GW Θ t=some ⟨z,bts,true,none,.struct fs⟩)(hl:layL (structPlace Θ fs) tm zs parts.toList=some r)
 (hd:o.dst=some d)(hn:Nat.blt d n=true):
 OpV C n o tm mm d (.v (.agg r)):=
 OpV.val hd hn _ fun H Z a w hm=>by
  obtain⟨inf,de,hf⟩:=tyF hΘ ht
  have hp:=hzp (Iof mm) H Z w (Mof C H mm)
  obtain⟨vs',g1,g2⟩:=layL_fill hm (structPlace Θ fs) parts.toList _ _ r hp hl
  have hsh:=hf.sh
  cases de<;>simp only[shChk]at hsh<;>try(cases hsh;done)
  rename_i fields
  simp only[Bool.and_eq_true]at hsh
  obtain⟨s1,s2⟩:=hsh
  have hfs:fields.toList.map (fun f=>(f.offset,f.type))=fs:=by simpa using s1
  have hall:∀f∈fields.toList,C.P.cellsOf f.type≠0:=by
   intro f hf'
   have:=Array.all_eq_true_iff_forall_mem.1 s2 f (by simpa using hf')
   simpa using this
  have hmap:(fields.mapM (m:=Sem) fun f=>do pure (f.offset,←sizeOf f.type)).run C.P w=.ok (fields.map fun f=>(f.offset,C.P.cellsOf f.type)) w:=by
   have:=mapM_sizes (P:=C.P) (w:=w) fields.toList hall
   rw[Array.mapM_eq_mapM_toList]
   simp only[Sem.run_map,this,Result.andThen_ok,List.map_toArray]
   simp[←List.map_toArray]
  refine⟨.agg vs',?_,?_⟩
  ·have hfill:Instr.fill (fun i=>(fields.map fun f=>(f.offset,C.P.cellsOf f.type))[i]?) zv.cells (parts.map fun(i,x)=>(i,a.eval x)).toList=some vs':=by
    rw[←g1,Array.toList_map]
    refine fill_congr _ _ _ _ ?_
    intro x hx
    obtain⟨y,hy,rfl⟩:=List.mem_map.1 hx
    have hsome:=layL_places hl y hy
    obtain⟨p,hp'⟩:=Option.isSome_iff_exists.1 hsome
    obtain⟨t',ti,k1,k2,k3⟩:=structPlace_spec hp'
    simp only[hp']
    rw[←hfs]at k1
    simp at k1
    obtain⟨f,hf1,hf2,hf3⟩:=k1
    obtain⟨inf',de',hf'⟩:=tyF hΘ k2
    have hce:C.P.cellsOf f.type=ti.size:=by
     unfold Program.cellsOf
     rw[hf3,hf'.info]
     simp[hf'.size]
    have:p=(f.offset,ti.size):=by rw[hf2,←k3]
    simp[hf1,hce,this]
   simp only[execOp,ho,Instr.build,Sem.run_bind,hz0,Result.andThen_ok,hf.underlying,hmap,hfill,Sem.run_pure]
  ·refine⟨vs',rfl,by simpa using g2.1,fun j c hc=>?_⟩
   obtain⟨u,hu,_,hr⟩:=g2.2 j c hc
   exact⟨u,by simpa using hu,hr⟩
end
section
variable {C:Ctx} {n:Nat} {tm:TM} {mm:MM} {L l:List Oper} {T:TM→MM→Prop} {o:Oper} {d:Nat}
theorem s_buildZ{Θ:Tab}(hΘ:QJ C.P Θ){t:TypeId}{z bts:Nat}{zv:Value}{zs:List SC}{fs:List (Nat×Nat)}{parts:Array (Nat×Operand)}{r:List SC}
 (hz0:∀w,(zeroValue t).run C.P w=.ok zv w)(hzp:∀(I:Nat→Prop) (H:Nat→Value) (Z:Nat→Nat) (w:World) (M:Nat→Prop),Pw (fun u c=>u.oneCell'=true∧RepSC I H Z w M u c) zv.cells.toList zs)
 (ho:o.op=.build t parts)(ht:GW Θ t=some ⟨z,bts,true,none,.struct fs⟩)(hl:layL (structPlace Θ fs) tm zs parts.toList=some r)(hd:o.dst=some d)(hn:Nat.blt d n=true)(hg:QG L tm o=some true)
 (k:SOps C n L.toArray l ((d,.v (.agg r))::QY tm d) mm T):SOps C n L.toArray (o::l) tm mm T:=
 K0 (op_build_structZ (n:=n) hΘ hz0 hzp ho ht hl hd hn).wp hg k
theorem seer_zero(I:Nat→Prop)(H:Nat→Value)(Z:Nat→Nat)(w:World)(M:Nat→Prop):Pw (fun u c=>u.oneCell'=true∧RepSC I H Z w M u c)
 (Value.agg #[.string ⟨#[]⟩,.slice none 0 0,.slice none 0 0,.string ⟨#[]⟩,.slice none 0 0,.map none]).cells.toList [.c (.str ⟨#[]⟩),.c .nils,.c .nils,.c (.str ⟨#[]⟩),.c .nils,.any]:=
 Pw.cons ⟨rfl,RepC.str _⟩ (Pw.cons ⟨rfl,RepC.nils⟩ (Pw.cons ⟨rfl,RepC.nils⟩ (Pw.cons ⟨rfl,RepC.str _⟩ (Pw.cons ⟨rfl,RepC.nils⟩ (Pw.cons ⟨rfl,trivial⟩ Pw.nil)))))
end
theorem nameB_size{s:ByteArray}(h:nameB s=true):s.size≤100:=by
 unfold nameB at h
 split at h
 ·cases h
 ·rename_i c r hc
  simp only[Bool.and_eq_true,decide_eq_true_eq]at h
  have:s.size=s.data.toList.length:=by simp
  rw[this,hc,List.length_cons];omega
theorem role_name{p:Prt}(hv:prtB p=true){role:ByteArray}(hh:hasB p.roles role=true):nameB role=true∧nameB p.name=true:=by
 unfold prtB at hv
 simp only[Bool.and_eq_true]at hv
 exact⟨List.all_eq_true.1 hv.2.2.2.2.1 role (hasB_iff.1 hh),hv.1⟩
abbrev locT(r:Loc×Int):ST:=.tup [Ag r.1.cs,C1 (.int .i64 r.2)]
theorem le_noLoc(e:Int):LeT (.tup [Ag [.str ⟨#[]⟩,.nils],C1 (.int .i64 e)]) (locT (noLoc,e)):=.tup (.cons (.agg (.cons (.refl _) (.cons (.c (.nil 3)) .nil))) (.cons (.refl _) .nil))
set_option maxHeartbeats 16000000 in
theorem role_c(p:Prt)(hB:PrtBig p)(role:ByteArray):Con Tryz.prog 13 [] [Ag p.cs,C1 (.str role)] (locT (roleE p role)) []:=by
 have hmay:=gmay_c p hB
 have hhas:=has_c p.roles role
 cases hv:prtB p with
 |false=>
  rw[hv]at hmay
  rw[roleE_form (by rw[hv];simp)]
  refine J2 (c:=_) Tryz.func13 rfl rfl rfl (by decide) fun w M0 H Z=>?_
  repeat'(first|refine gc_ rfl ?_|(refine G1 ?_;refine G0 th rfl ?_)|(refine G9 mix rfl rfl ?_;refine G3 th rfl ?_)|(refine G5 mix rfl rfl ?_;refine GJ th rfl ?_)|refine G2 ?_|refine G4 ?_|refine G6 ?_ rfl rfl|((first|refine G8 rfl rfl ?_ ?_|refine GG rfl rfl rfl ?_ ?_|refine Q1 rfl ?_ ?_)<;>intro hb<;>(try simp only[hbL]at hb)<;>first|(exfalso;omega)|refine G0 th rfl ?_|refine G3 th rfl ?_|skip)|refine QQ th Tryz.func13 (.inr ⟨_,rfl⟩) rfl rfl rfl ?_ rfl|(refine Q4 hmay [] rfl rfl rfl rfl rfl rfl rfl rfl rfl rfl ?_;refine G0 th rfl ?_))
  all_goals first|exact le_noLoc 800|(exfalso;revert hb;simp;done)
 |true=>
  rw[hv]at hmay
  cases hh:hasB p.roles role with
  |false=>
   rw[hh]at hhas
   rw[roleE_form (by rw[hh];simp)]
   refine J2 (c:=_) Tryz.func13 rfl rfl rfl (by decide) fun w M0 H Z=>?_
   repeat'(first|refine gc_ rfl ?_|(refine G1 ?_;refine G0 th rfl ?_)|(refine G9 mix rfl rfl ?_;refine G3 th rfl ?_)|(refine G5 mix rfl rfl ?_;refine GJ th rfl ?_)|refine G2 ?_|refine G4 ?_|refine G6 ?_ rfl rfl|((first|refine G8 rfl rfl ?_ ?_|refine GG rfl rfl rfl ?_ ?_|refine Q1 rfl ?_ ?_)<;>intro hb<;>(try simp only[hbL]at hb)<;>first|(exfalso;omega)|refine G0 th rfl ?_|refine G3 th rfl ?_|skip)|refine QQ th Tryz.func13 (.inr ⟨_,rfl⟩) rfl rfl rfl ?_ rfl|((first|refine Q4 hmay [] rfl rfl rfl rfl rfl rfl rfl rfl rfl rfl ?_|refine Q4 hhas [] rfl rfl rfl rfl rfl rfl rfl rfl rfl rfl ?_);refine G0 th rfl ?_))
   all_goals first|exact le_noLoc 800|(exfalso;revert hb;simp;done)
  |true=>
   rw[hh]at hhas
   obtain⟨hn1,hn2⟩:=role_name hv hh
   have hz1:=nameB_size hn1
   have hz2:=nameB_size hn2
   have hpl:=prt_len hv
   have hS0:SeerOK p []:=⟨⟨List.nodup_nil,by simp⟩,fun m hm=>by cases hm⟩
   have hlook:=look_c p hv hB role hh (.slice none 0 0) [] hS0 [0] (by simp;omega) (by simp)
   have hro:roleE p role=if(JY p role [] [0]).1.2=0 then
    if(roleS p role 41 0 [] (JY p role [] [0]).2).2=0 then(⟨dotN p.name role,(roleS p role 41 0 [] (JY p role [] [0]).2).1⟩,0)else(noLoc,(roleS p role 41 0 [] (JY p role [] [0]).2).2)
    else(noLoc,(JY p role [] [0]).1.2):=by unfold roleE;rw[hv,hh];rfl
   have hF0:FromN p role (JY p role [] [0]).2:=FromN.look (S:=[]) (fun m hm=>by cases hm) _
   have hO0:SetsOK (JY p role [] [0]).2:=look_ok hS0.sets _
   obtain⟨⟨⟨i0,e0⟩,S0⟩,hL⟩:∃L,L=JY p role [] [0]:=⟨_,rfl⟩
   unfold lookT at hlook
   rw[←hL]at hlook hro hF0 hO0
   simp only at hlook hro hF0 hO0
   refine J2 (c:=_) Tryz.func13 rfl rfl rfl (by decide) fun w M0 H Z=>?_
   repeat'((fail_if_success refine g_atR 4 rfl ?_);first|refine gc_ rfl ?_|(refine G1 ?_;refine G0 th rfl ?_)|(refine G9 mix rfl rfl ?_;refine G3 th rfl ?_)|(refine G5 mix rfl rfl ?_;refine GJ th rfl ?_)|refine G2 ?_|refine G4 ?_|refine G6 ?_ rfl rfl|((first|refine G8 rfl rfl ?_ ?_|refine GG rfl rfl rfl ?_ ?_|refine Q1 rfl ?_ ?_)<;>intro hb<;>(try simp only[hbL]at hb)<;>first|(exfalso;omega)|refine G0 th rfl ?_|refine G3 th rfl ?_|skip)|((first|refine Q4 hmay [] rfl rfl rfl rfl rfl rfl rfl rfl rfl rfl ?_|refine Q4 hhas [] rfl rfl rfl rfl rfl rfl rfl rfl rfl rfl ?_|refine s_buildZ th Tryz.zeroValue80 seer_zero rfl rfl rfl rfl rfl rfl ?_);refine G0 th rfl ?_))
   all_goals try(exfalso;revert hb;simp;done)
   refine g_newPool 190 26 1 rfl rfl ?_
   refine g_nilPool 190 rfl rfl rfl rfl ?_
   refine g_nilVal 28 4 rfl rfl ?_
   repeat'(first|refine gc_ rfl ?_|(refine G1 ?_;refine G0 th rfl ?_)|(refine G9 mix rfl rfl ?_;refine G3 th rfl ?_)|(refine G5 mix rfl rfl ?_;refine GJ th rfl ?_)|refine G2 ?_|refine G4 ?_|refine G6 ?_ rfl rfl|((first|refine G8 rfl rfl ?_ ?_|refine GG rfl rfl rfl ?_ ?_|refine Q1 rfl ?_ ?_)<;>intro hb<;>(try simp only[hbL]at hb)<;>first|(exfalso;omega)|refine G0 th rfl ?_|refine G3 th rfl ?_|skip)|((first|(refine s_freeze 31 rfl rfl ?_;refine s_leT 31 (.v (C1 (intsT [0]))) rfl (.v (.one (.c (.nn true 1 _)))) ?_)|refine s_callM hlook [(G7,28),(G7+1,26),(1,190)] rfl rfl rfl rfl ⟨rfl,rfl,rfl,trivial⟩ ⟨rfl,rfl,rfl,rfl,rfl⟩ (fun _=>⟨rfl,rfl,rfl,rfl,rfl,rfl,rfl⟩) (fun _=>rfl) (fun _=>rfl) rfl rfl rfl (fun v0 _=>?_));refine G0 th rfl ?_)|(refine s_cat rfl rfl rfl rfl rfl rfl (by first|omega|(simp only[ByteArray.size_append,show(ByteArray.mk #[46]).size=1 from rfl];omega)) ?_;refine G0 th rfl ?_))
   ·rw[hro,if_neg (by assumption)]
    refine QQ th Tryz.func13 (.inr ⟨_,rfl⟩) rfl rfl rfl ?_ rfl
    exact le_noLoc _
   have he0:e0=0:=by assumption
   rw[if_pos he0]at hro
   obtain⟨RS,hRS⟩:∃RS,RS=roleS p role 41 0 [] S0:=⟨_,rfl⟩
   rw[←hRS]at hro
   refine g_adoptB 9 1 191 48 3 rfl rfl rfl rfl ?_
   refine g_loop2 (fun(i:Nat) (s:List Trn×List (List Int)×Value)=>s.1.length=i∧i≤s.2.1.length∧FromN p role s.2.1∧SetsOK s.2.1∧RS=roleS p role (41 - i) i s.1 s.2.1)
    (fun i _=>[(4,.v (.one (.ptr 4 0))),(5,.v (C1 (.int .i64 0))),(6,.v (.one (.ptr 28 0))),(9,.v (.one (.ptr 9 0))),(10,.v (C1 (.int .i64 (i:Int))))])
    (fun _ s=>[(191,.arr false 48 3 (s.1.map Trn.cs)),(9,.box [.c (.str (dotN p.name role)),.own 191]),(4,.box [.c (.str ⟨#[]⟩),.c .nils]),
      (28,.box [.c (.str p.name),.c (Q8 p.roles),.c (pointsC p.points),.c (.str role),.c (.val s.2.2),.mp 26]),(26,keysM s.2.1),(190,.pool 26 1 [(s.2.2,rowsI s.2.1)])])
    (fun i _=>41 - i) 0 ([],S0,v0) ⟨rfl,Nat.zero_le _,hF0,hO0,hRS⟩
    (fun a w h=>h.sub (by exact⟨⟨_,rfl,.refl _⟩,⟨_,rfl,.refl _⟩,⟨_,rfl,.refl _⟩,⟨_,rfl,.refl _⟩,⟨_,rfl,GY rfl⟩,trivial⟩)
      (by exact⟨⟨_,rfl,le_arr rfl⟩,⟨_,rfl,.refl _⟩,⟨_,rfl,.refl _⟩,⟨_,rfl,.refl _⟩,⟨_,rfl,.refl _⟩,⟨_,rfl,.refl _⟩,trivial⟩) rfl rfl rfl) (fun i s hi ih=>?_)
   obtain⟨out,S,v⟩:=s
   obtain⟨hol,hle,hF,hO,hst⟩:=hi
   simp only at hol hle hF hO hst⊢
   have hl40:=hO.len
   have hl1:((rowsI S).length:Int)=(S.length:Int):=by simp
   by_cases hlt:i < S.length
   ·have hx:(rowsI S)[i]? =some [intsT S[i]]:=by simp[hlt]
    obtain⟨l0,hl0⟩:=hF S[i] (List.getElem_mem hlt)
    obtain⟨_,hn24,hnr⟩:=near_small hv role l0
    rw[←hl0]at hn24 hnr
    have hturn:=pturned_c p hv hB role hh v S (seer_of hv hF hO) S[i] hnr hn24
    have hF2:=hF.turn S[i]
    have hO2:=turn_ok (p:=p) (role:=role) hO S[i]
    obtain⟨rg,hrg⟩:=turn_grows (p:=p) (role:=role) S S[i]
    rw[show 41 - i=(40 - i)+1 by omega,roleS,List.getElem?_eq_getElem hlt]at hst
    obtain⟨⟨⟨t2,e2⟩,S2⟩,hT⟩:∃L,L=turnS p role S S[i]:=⟨_,rfl⟩
    unfold turnT at hturn
    simp only[←hT]at hturn hF2 hO2 hst hrg
    have hih:=fun(h0:e2=0) v2=>ih (i+1) (out++[t2],S2,v2) ⟨by simp[hol],by simp only;rw[hrg,List.length_append];omega,hF2,hO2,by rw[hst,if_pos h0,show 41 - (i+1)=40 - i by omega]⟩ (by omega)
    have herr:=fun(h0:¬e2=0)=>(show RS=([],e2) by rw[hst,if_neg h0])
    clear ih hst
    obtain⟨nr,hnr2⟩:∃nr,nr=S[i]:=⟨_,rfl⟩
    rw[←hnr2]at hx hturn
    repeat'(first|refine gc_ rfl ?_|(refine G1 ?_;refine G0 th rfl ?_)|(refine G9 mix rfl rfl ?_;refine G3 th rfl ?_)|(refine G5 mix rfl rfl ?_;refine GJ th rfl ?_)|refine G2 ?_|refine G4 ?_|refine G6 ?_ rfl rfl|((first|refine G8 rfl rfl ?_ ?_|refine GG rfl rfl rfl ?_ ?_|refine Q1 rfl ?_ ?_)<;>intro hb<;>(try simp only[hbL]at hb)<;>first|(exfalso;omega)|refine G0 th rfl ?_|refine G3 th rfl ?_|skip)|((first|refine s_plen th 190 0 rfl rfl rfl rfl rfl rfl rfl rfl _ hl1 ?_|refine s_pidx th (r:=190) rfl rfl rfl rfl rfl rfl rfl rfl rfl rfl 0 rfl i rfl (by simpa using hlt) ?_|refine s_pload th (r:=190) rfl rfl rfl rfl rfl rfl rfl rfl 0 rfl hx rfl ?_|refine s_callM hturn [(G7,28),(G7+1,26),(1,190)] rfl rfl rfl rfl ⟨rfl,rfl,rfl,trivial⟩ ⟨rfl,rfl,rfl,rfl,rfl⟩ (fun _=>⟨rfl,rfl,rfl,rfl,rfl,rfl,rfl⟩) (fun _=>rfl) (fun _=>rfl) rfl rfl rfl (fun v2 _=>?_));refine G0 th rfl ?_)|(refine s_anyB 9 1 rfl ?_;refine s_append th rfl rfl rfl rfl rfl rfl rfl rfl rfl rfl rfl rfl rfl rfl rfl (by constructor<;>simp<;>omega) ?_;refine G0 th rfl ?_)|(refine QW rfl rfl rfl rfl rfl rfl (by omega) ?_;refine G0 th rfl ?_))
    ·have he:=herr (by assumption)
     rw[he,if_neg (by assumption)]at hro
     rw[hro]
     refine QQ th Tryz.func13 (.inr ⟨_,rfl⟩) rfl rfl rfl ?_ rfl
     exact le_noLoc _
    ·exact QK (by exact⟨⟨_,rfl,.refl _⟩,⟨_,rfl,.refl _⟩,⟨_,rfl,.refl _⟩,⟨_,rfl,.refl _⟩,⟨_,rfl,GY (by omega)⟩,trivial⟩)
      (by exact⟨⟨_,rfl,le_arr (by simp)⟩,⟨_,rfl,.refl _⟩,⟨_,rfl,.refl _⟩,⟨_,rfl,.refl _⟩,⟨_,rfl,.refl _⟩,⟨_,rfl,.refl _⟩,trivial⟩) rfl rfl rfl (hih (by assumption) v2)
   ·rw[show 41 - i=(40 - i)+1 by omega,roleS,List.getElem?_eq_none (by omega)]at hst
    simp only at hst
    clear ih
    rw[hst,if_pos rfl]at hro
    rw[hro]
    repeat'(first|(refine g_freeze 191 rfl rfl ?_)|refine gc_ rfl ?_|(refine G1 ?_;refine G0 th rfl ?_)|(refine G9 mix rfl rfl ?_;refine G3 th rfl ?_)|(refine G5 mix rfl rfl ?_;refine GJ th rfl ?_)|refine G2 ?_|refine G4 ?_|refine G6 ?_ rfl rfl|((first|refine G8 rfl rfl ?_ ?_|refine GG rfl rfl rfl ?_ ?_|refine Q1 rfl ?_ ?_)<;>intro hb<;>(try simp only[hbL]at hb)<;>first|(exfalso;omega)|refine G0 th rfl ?_|refine G3 th rfl ?_|skip)|(refine s_plen th 190 0 rfl rfl rfl rfl rfl rfl rfl rfl _ hl1 ?_;refine G0 th rfl ?_))
    refine QQ th Tryz.func13 (.inr ⟨_,rfl⟩) rfl rfl rfl ?_ rfl
    exact .refl _
abbrev locsC(l:List Loc):CT:=.slice false 2 (l.map Loc.cs)
abbrev allT(r:(List Loc×Int)×Int):ST:=.tup [C1 (locsC r.1.1),C1 (.int .i64 r.1.2),C1 (.int .i64 r.2)]
theorem le_noAll(i e:Int):LeT (.tup [C1 .nils,C1 (.int .i64 i),C1 (.int .i64 e)]) (allT (([],i),e)):=.tup (.cons (.one (.c (.nil 2))) (.cons (.refl _) (.cons (.refl _) .nil)))
set_option maxHeartbeats 8000000 in
theorem all_c(p:Prt)(hB:PrtBig p):Con Tryz.prog 15 [] [Ag p.cs] (allT (allE p)) []:=by
 have hmay:=gmay_c p hB
 unfold allE
 cases hv:prtB p with
 |false=>
  rw[hv]at hmay
  rw[if_neg (by decide)]
  refine J2 (c:=_) Tryz.func15 rfl rfl rfl (by decide) fun w M0 H Z=>?_
  repeat'(first|refine gc_ rfl ?_|(refine G1 ?_;refine G0 th rfl ?_)|(refine G9 mix rfl rfl ?_;refine G3 th rfl ?_)|(refine G5 mix rfl rfl ?_;refine GJ th rfl ?_)|refine G2 ?_|refine G4 ?_|refine G6 ?_ rfl rfl|((first|refine G8 rfl rfl ?_ ?_|refine GG rfl rfl rfl ?_ ?_|refine Q1 rfl ?_ ?_)<;>intro hb<;>(try simp only[hbL]at hb)<;>first|(exfalso;omega)|refine G0 th rfl ?_|refine G3 th rfl ?_|skip)|refine QQ th Tryz.func15 (.inr ⟨_,rfl⟩) rfl rfl rfl ?_ rfl|(refine Q4 hmay [] rfl rfl rfl rfl rfl rfl rfl rfl rfl rfl ?_;refine G0 th rfl ?_))
  all_goals first|exact le_noAll 0 800|(exfalso;revert hb;simp;done)
 |true=>
  rw[hv]at hmay
  rw[if_pos rfl]
  have hpl:=prt_len hv
  obtain⟨RS,hRS⟩:∃RS,RS=allS p 0 p.roles []:=⟨_,rfl⟩
  rw[←hRS]
  refine J2 (c:=_) Tryz.func15 rfl rfl rfl (by decide) fun w M0 H Z=>?_
  repeat'(first|refine gc_ rfl ?_|(refine G1 ?_;refine G0 th rfl ?_)|(refine G9 mix rfl rfl ?_;refine G3 th rfl ?_)|(refine G5 mix rfl rfl ?_;refine GJ th rfl ?_)|refine G2 ?_|refine G4 ?_|refine G6 ?_ rfl rfl|((first|refine G8 rfl rfl ?_ ?_|refine GG rfl rfl rfl ?_ ?_|refine Q1 rfl ?_ ?_)<;>intro hb<;>(try simp only[hbL]at hb)<;>first|(exfalso;omega)|refine G0 th rfl ?_|refine G3 th rfl ?_|skip)|(refine Q4 hmay [] rfl rfl rfl rfl rfl rfl rfl rfl rfl rfl ?_;refine G0 th rfl ?_))
  all_goals try(exfalso;revert hb;simp;done)
  refine g_adopt 5 290 32 2 rfl rfl rfl ?_
  refine g_loop2 (fun(i:Nat) (out:List Loc)=>i≤p.roles.length∧out.length=i∧RS=allS p i (p.roles.drop i) out)
   (fun i _=>[(1,.v (.one (.ptr 1 0))),(5,.v (.one (.own 290))),(14,.v (C1 (Q8 p.roles))),(15,.v (C1 (.int .i64 (p.roles.length:Int)))),(16,.v (C1 (.int .i64 (i:Int))))])
   (fun _ out=>[(290,.arr false 32 2 (out.map Loc.cs)),(1,.box (p.cs.map SC.c))])
   (fun i _=>p.roles.length - i) 0 [] ⟨Nat.zero_le _,rfl,hRS⟩
   (fun a w h=>h.sub (by exact⟨⟨_,rfl,.refl _⟩,⟨_,rfl,.refl _⟩,⟨_,rfl,.refl _⟩,⟨_,rfl,GY (by simp)⟩,⟨_,rfl,GY rfl⟩,trivial⟩)
     (by exact⟨⟨_,rfl,le_arr rfl⟩,⟨_,rfl,.refl _⟩,trivial⟩) rfl rfl rfl) (fun i out hi ih=>?_)
  obtain⟨hi,hol,hst⟩:=hi
  by_cases hlt:i < p.roles.length
  ·have hx:(p.roles.map fun s=>[CT.str s])[i]? =some [.str p.roles[i]]:=by simp[hlt]
   have hrole:=role_c p hB p.roles[i]
   rw[List.drop_eq_getElem_cons hlt,allS]at hst
   obtain⟨⟨l1,e1⟩,hR⟩:∃R,R=roleE p p.roles[i]:=⟨_,rfl⟩
   rw[←hR]at hrole hst
   simp only at hrole hst
   have hih:=fun(h0:e1=0)=>ih (i+1) (out++[l1]) ⟨hlt,by simp[hol],by rw[hst,if_pos h0]⟩ (by omega)
   have herr:=fun(h0:¬e1=0)=>(show RS=(([],(i:Int)),e1) by rw[hst,if_neg h0])
   clear ih hst
   repeat'(first|refine gc_ rfl ?_|(refine G1 ?_;refine G0 th rfl ?_)|(refine G9 mix rfl rfl ?_;refine G3 th rfl ?_)|(refine G5 mix rfl rfl ?_;refine GJ th rfl ?_)|refine G2 ?_|refine G4 ?_|refine G6 ?_ rfl rfl|((first|refine G8 rfl rfl ?_ ?_|refine GG rfl rfl rfl ?_ ?_|refine Q1 rfl ?_ ?_)<;>intro hb<;>(try simp only[hbL]at hb)<;>first|(exfalso;omega)|refine G0 th rfl ?_|refine G3 th rfl ?_|skip)|((first|refine K2 th rfl rfl rfl rfl rfl rfl rfl rfl rfl i _ rfl hx ?_|refine Q4 hrole [] rfl rfl rfl rfl rfl rfl rfl rfl rfl rfl ?_);refine G0 th rfl ?_)|(refine s_append th rfl rfl rfl rfl rfl rfl rfl rfl rfl rfl rfl rfl rfl rfl rfl (by constructor<;>simp<;>omega) ?_;refine G0 th rfl ?_)|(refine QW rfl rfl rfl rfl rfl rfl (by omega) ?_;refine G0 th rfl ?_))
   ·rw[herr (by assumption)]
    refine QQ th Tryz.func15 (.inr ⟨_,rfl⟩) rfl rfl rfl ?_ rfl
    exact le_noAll _ _
   ·exact QK (by exact⟨⟨_,rfl,.refl _⟩,⟨_,rfl,.refl _⟩,⟨_,rfl,.refl _⟩,⟨_,rfl,.refl _⟩,⟨_,rfl,GY (by omega)⟩,trivial⟩)
     (by exact⟨⟨_,rfl,le_arr (by simp)⟩,⟨_,rfl,.refl _⟩,trivial⟩) rfl rfl rfl (hih (by assumption))
  ·rw[List.drop_eq_nil_of_le (by omega),allS]at hst
   clear ih
   rw[hst]
   repeat'(first|(refine g_freeze 290 rfl rfl ?_)|refine gc_ rfl ?_|(refine G1 ?_;refine G0 th rfl ?_)|(refine G9 mix rfl rfl ?_;refine G3 th rfl ?_)|(refine G5 mix rfl rfl ?_;refine GJ th rfl ?_)|refine G2 ?_|refine G4 ?_|refine G6 ?_ rfl rfl|((first|refine G8 rfl rfl ?_ ?_|refine GG rfl rfl rfl ?_ ?_|refine Q1 rfl ?_ ?_)<;>intro hb<;>(try simp only[hbL]at hb)<;>first|(exfalso;omega)|refine G0 th rfl ?_|refine G3 th rfl ?_|skip))
   refine QQ th Tryz.func15 (.inr ⟨_,rfl⟩) rfl rfl rfl ?_ rfl
   exact .refl _
end Go.Sy
