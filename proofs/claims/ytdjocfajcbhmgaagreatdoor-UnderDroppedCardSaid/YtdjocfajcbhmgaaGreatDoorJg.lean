/- Layer: maps from texts to rows of one's own (the headers lie in the map, the rows in a pool). The plain law of what project's turned gathers. -/
import Derived.Test.YtdjocfajcbhmgaaGreatDoorJf
import Derived.Test.YtdjocfajcbhmgaaGreatDoorZ1
import Derived.Laws.StructEq
set_option linter.unusedSimpArgs false
set_option linter.unusedVariables false
set_option linter.unusedSectionVars false
namespace Go.Sy
open Go.Proofs
set_option maxRecDepth 100000
abbrev nT:=List (ByteArray×Value×List Int)
def kH(x:nT):List (ByteArray×CT):=x.map fun q=>(q.1,CT.val q.2.1)
def gh(x:nT):PQ:=x.map fun q=>(q.2.1,gS q.2.2)
def uY(x:nT):List (ByteArray×CT):=x.map fun q=>(q.1,ch q.2.2)
def kW(x:nT)(s:ByteArray):List Int:=((x.find? fun q=>decide (s=q.1)).map fun q=>q.2.2).getD []
def ou(x:nT)(s:ByteArray)(v:Value)(n:Int):nT:=
 match x with
 |[]=>[(s,v,[n])]
 |q::x=>if s=q.1 then(s,v,q.2.2++[n])::x else q::ou x s v n
theorem Gs:∀(x:nT) (s:ByteArray) (v:Value) (n:Int) (s':ByteArray),kW (ou x s v n) s'=if s'=s then kW x s++[n]else kW x s'
 |[],s,v,n,s'=>by
  unfold ou kW
  by_cases h:s'=s<;>simp[h]
 |q::x,s,v,n,s'=>by
  have ih:=Gs x s v n s'
  unfold kW at ih
  unfold ou kW
  by_cases h:s=q.1
  ·rw[if_pos h]
   by_cases h':s'=s
   ·subst h';simp[h]
   ·have h2:¬s'=q.1:=fun e=>h' (e.trans h.symm)
    simp[h',h2]
  ·rw[if_neg h]
   by_cases h':s'=q.1
   ·have h2:¬s'=s:=fun e=>h (e.symm.trans h')
    rw[if_neg h2]
    simp[h']
   ·rw[je (by simpa using h'),ih]
    by_cases h2:s'=s
    ·rw[if_pos h2,if_pos h2,je (by simpa using h)]
    ·rw[if_neg h2,if_neg h2,je (by simpa using h')]
theorem HM{α:Type}[DecidableEq α](q:α×CT)(m:List (α×CT))(a:α)(c:CT):iq (q::m) a c=if a=q.1 then(a,c)::m else q::iq m a c:=by
 unfold iq
 rw[fk]
 by_cases h:a=q.1
 ·simp[h]
 ·simp only[h,decide_false,if_false,cP]
  cases m.findIdx? fun q=>decide (a=q.1)<;>simp
theorem rC:∀(x:nT) (s:ByteArray) (v:Value) (n:Int),kH (ou x s v n)=iq (kH x) s (.val v)
 |[],s,v,n=>rfl
 |q::x,s,v,n=>by
  have ih:=rC x s v n
  show kH (ou (q::x) s v n)=iq ((q.1,CT.val q.2.1)::kH x) s (.val v)
  rw[HM,ou]
  split
  ·rfl
  ·rw[←ih];rfl
theorem Bl:∀(x:nT) (s:ByteArray),(∃(c:Nat) (v:Value),dE (kH x) s .bA=.val v∧(gh x)[c]? =some (v,gS (kW x s))∧∀v' n,gh (ou x s v' n)=(gh x).set c (v',gS (kW x s)++[[.int .i64 n]]))∨
 (dE (kH x) s .bA=.bA∧kW x s=[]∧∀v' n,gh (ou x s v' n)=(gh x++[(Value.slice none 0 0,[])]).set x.length (v',[[.int .i64 n]]))
 |[],s=>.inr ⟨rfl,rfl,fun v' n=>rfl⟩
 |q::x,s=>by
  by_cases h:s=q.1
  ·refine .inl ⟨0,q.2.1,?_,?_,fun v' n=>?_⟩
   ·simp[dE,kH,h]
   ·simp[gh,kW,h]
   ·rw[ou,if_pos h];simp[gh,kW,h]
  ·have e1:dE (kH (q::x)) s .bA=dE (kH x) s .bA:=by simp[dE,kH,h]
   have e2:kW (q::x) s=kW x s:=by simp[kW,h]
   rcases Bl x s with⟨c,v,h1,h2,h3⟩|⟨h1,h2,h3⟩
   ·refine .inl ⟨c+1,v,by rw[e1,h1],by rw[e2];exact h2,fun v' n=>?_⟩
    rw[ou,if_neg h,e2]
    show(q.2.1,gS q.2.2)::gh (ou x s v' n)=_
    rw[h3];rfl
   ·refine .inr ⟨by rw[e1,h1],by rw[e2,h2],fun v' n=>?_⟩
    rw[ou,if_neg h]
    show(q.2.1,gS q.2.2)::gh (ou x s v' n)=_
    rw[h3];rfl
theorem Dt:∀(x:nT) (s:ByteArray),yB (dE (uY x) s .bA) (ch (kW x s))
 |[],s=>.nil 1
 |q::x,s=>by
  by_cases h:s=q.1
  ·rw[show dE (uY (q::x)) s .bA=ch (kW (q::x) s) by simp[dE,uY,kW,h]];exact .refl _
  ·rw[show dE (uY (q::x)) s .bA=dE (uY x) s .bA by simp[dE,uY,h],show kW (q::x) s=kW x s by simp[kW,h]]
   exact Dt x s
theorem za(x:nT):(gh x).length=x.length:=by simp[gh]
section
variable {C:Ctx} {n:Nat} {tm:TM} {mm:MM} {o:Oper} {d:Nat}
theorem ea.weaken{st XX:ST}(h:ea C n o tm mm d st)(hw:∀(I:Nat→Prop) (H:Nat→Value) (Z:Nat→Nat) (w:World) (M:Nat→Prop) (v:Value),eK I H Z w M v st→eK I H Z w M v XX):ea C n o tm mm d XX:=
 ⟨h.1,fun H Z a w hm=>let⟨v,h1,h2⟩:=h.2 H Z a w hm;⟨v,h1,hw _ _ _ _ _ _ h2⟩⟩
theorem Ob{I:Nat→Prop}{H:Nat→Value}{Z:Nat→Nat}{w:World}{M:Nat→Prop}{v:Value}(h:eK I H Z w M v (.v (.one (.c .bA)))):eK I H Z w M v (.v (.one (.c (.val (.slice none 0 0))))):=by
 have hv:v=.slice none 0 0:=aV.jy h
 subst hv
 exact aV.val _ J
end
section
variable {C:Ctx} {n:Nat} {tm cq:TM} {mmf:Nat→MM} {L l:List Oper} {TF:TM→Prop} {o:Oper} {d i:Nat} {p q:Operand} {E:List Nat}
theorem vt{Θ:da}(bt:a8 C.P Θ){t k e:TypeId}{z cz zk bk ze be:Nat}{ag nt:Bool}{zt mF:Option (List CT)}{JD:Sh}{r:Nat}{m:List (ByteArray×CT)}{a0:ByteArray}
 (ho:o.op=.lookup t p q false)(ht:aP Θ t=some ⟨z,cz,ag,zt,.map k e⟩)(hk:aP Θ k=some ⟨zk,bk,nt,mF,.string⟩)(dO:aP Θ e=some ⟨ze,be,false,some [.bA],JD⟩)
 (hx:aQ (aX (aI L o) tm) p=some (.mp r))(hi:getM (mmf i) r=some (.fw (dI iC m)))(hy:cx (aX (aI L o) tm) q=some (.one (.c (.str a0))))(hd:o.dst=some d)(hn:Nat.blt d n=true)
 (hg:aY L (aX (aI L o) tm) o=some true)(lg:eV E i=false)(v:Value)(hl:dE m a0 .bA=.val v∨(dE m a0 .bA=.bA∧v=.slice none 0 0))
 (g:FOps C n mmf L cq E (i+1) l ((d,.v (.one (.c (.val v))))::bo tm d) TF):FOps C n mmf L cq E i (o::l) tm TF:=by
 refine FOps.step lg hg (fun mm' hb hu=>?_) hd g
 have h:=pE (n:=n) bt ho ht dO J J (lT bt hk) (fun w M v a h=>(iB w M v a).1 h) hx (kr hb hu _ _ hi) hy ko hd hn
 refine ea.Em ?_
 rcases hl with hl|⟨hl,rfl⟩
 ·rw[hl]at h;exact h
 ·rw[hl]at h;exact h.weaken fun _ _ _ _ _ _=>Ob
end
section
variable {C:Ctx} {n:Nat} {L:List Oper} {ι:Type} {cN:TM} {ET:Nat→ι→TM} {MMx:Nat→ι→MM} {k:Nat} {x:ι} {o:Oper} {p q r:Operand}
theorem vv{Θ:da}(bt:a8 C.P Θ){t kk e:TypeId}{z cz zk bk:Nat}{ag nt:Bool}{zt mF:Option (List CT)}{c:CT}{i:Nat}{m:List (ByteArray×CT)}{a0:ByteArray}
 (ho:o.op=.mapUpdate t p q r∨o.op=.insert t p q r)(ht:aP Θ t=some ⟨z,cz,ag,zt,.map kk e⟩)(hk:aP Θ kk=some ⟨zk,bk,nt,mF,.string⟩)
 (hx:aQ (aX (aI L o) (cN++ET k x)) p=some (.mp i))(hi:getM (MMx k x) i=some (.fw (dI iC m)))(hy:cx (aX (aI L o) (cN++ET k x)) q=some (.one (.c (.str a0))))
 (C6:na (aX (aI L o) (cN++ET k x)) r=some (.one (.c c)))(hd:o.dst=none)(hg:aY L (aX (aI L o) (cN++ET k x)) o=some true)
 (vr:ET (k+1) x=[])(hM:MMx (k+1) x=cS (MMx k x) i (.fw (dI iC (iq m a0 c)))):lF C n L cN ET MMx k x o:=by
 refine nf hg fun tm a w K Q eA hh hK=>?_
 refine(kU (n:=n) (tm:=aX (aI L o) (cN++ET k x)++tm) bt ho ht (lT bt hk) iB (iZ hx) hi (mZ hy) ko (zO C6) hd).wp a w K Q (hh.kX fun p hp=>(aK.1 hp).elim (eA p) id) fun a' w' h'=>?_
 exact hK x _ a' w' (fun p hp vl=>bQ _ vl) (fun p hp=>by rw[vr]at hp;cases hp) (by rw[hM];exact h')
end
section
variable {C:Ctx} {n:Nat} {tm:TM} {mm:MM} {f:FuncId} {R:Ending→World→Prop} {k:List Item}
theorem Has.O6{a:Act}{w:World}(i j:Nat){e:Nat}{x:nT}(km:Nat.beq i j=false)(hi:getM mm i=some (.bF e 1 (gh x)))(iJ:Nat.blt i given=true)(hj:getM mm j=some (.fw (dI iC (kH x))))
 (gA:eD i mm=true)(qX:gn i tm=true)(h:Has C n tm mm a w):Has C n tm (cS (fO [i] mm) j (.fw (dI iC (uY x)))) a w:=by
 refine h.xu km hi iJ hj gA qX fun I I' H Z w M M' hI hM hp hn dX=>?_
 obtain⟨r,es,ck,h1,h2,h3,h4⟩:=dX
 refine⟨r,es,ck,h1,h2,by simpa[dI,kH,uY]using h3,fun c y hy=>?_⟩
 simp only[dI,uY,qB,az]at hy
 cases hq:x[c]? with
 |none=>rw[hq]at hy;cases hy
 |some q=>
  rw[hq]at hy
  simp only[dQ,Function.comp_apply,cI]at hy
  subst hy
  obtain⟨en,g1,g2,g3⟩:=h4 c (iC q.1,.one (.val q.2.1)) (by simp[dI,kH,hq])
  have Xe:en.val=q.2.1:=aV.gH g3
  refine⟨en,g1,(iB _ _ _ _).2 ((iB _ _ _ _).1 g2),?_⟩
  have kl:(gh x)[c]? =some (q.2.1,gS q.2.2):=by simp[gh,hq]
  show aV w M' en.val _
  rw[Xe]
  exact(hp.row kl).frozen hM (hn _ (aj kl))
theorem IG(i j:Nat){e:Nat}{x:nT}(km:Nat.beq i j=false)(hi:getM mm i=some (.bF e 1 (gh x)))(iJ:Nat.blt i given=true)(hj:getM mm j=some (.fw (dI iC (kH x))))
 (gA:eD i mm=true)(qX:gn i tm=true)(g:Goes C f n R k tm (cS (fO [i] mm) j (.fw (dI iC (uY x))))):Goes C f n R k tm mm:=
 g.mono fun _ _ h=>h.O6 i j km hi iJ hj gA qX
end
section
variable {C:Ctx} {n:Nat} {tm:TM} {mm:MM} {f:FuncId} {R:Ending→World→Prop} {k:List Item}
theorem LW{x y:Item}{k':List Item}(P:Prop)(tm':TM)(mm':MM)(_:Q1 tm' k=some k')(hk:P→Goes C f n R k' tm' mm')(h:(P→Goes C f n R k' tm' mm')→Goes C f n R (x::y::k) tm mm):Goes C f n R (x::y::k) tm mm:=h hk
end
def FT(c:Int×ByteArray):Value:=.agg #[.int .i64 c.1,.string c.2]
theorem U6(x y:Int×ByteArray)(w:World):(Op.equalIn 10000 32 (FT x) (FT y)).run Tryz.prog w=.ok (decide (x=y)) w:=by
 have u3:=Tryz.underlying3
 have a3:=Tryz.isAgg3
 have z3:=Tryz.sizeOf3
 have u9:=Tryz.underlying9
 have a9:=Tryz.isAgg9
 have z9:=Tryz.sizeOf9
 have hS:Tryz.prog.underlying 32=some (.struct (Tryz.prog.fieldsOf 32)):=by kernel_rfl
 have hp:Tryz.prog.stoodInHeld 32=false:=by kernel_rfl
 obtain⟨a,b⟩:=x
 obtain⟨a',b'⟩:=y
 simp only[FT]
 rw[show(10000:Nat)=9999+1 from rfl,run_equalIn_agg w 9999 32 _ _ hS hp]
 simp only[Program.fieldsOf,Tryz.underlying32]
 go_simp
 have key:∀c c':ByteArray,(c.toList=c'.toList)↔c=c':=by
  intro c c'
  rw[ByteArray.toList_eq,ByteArray.toList_eq]
  obtain⟨⟨x⟩⟩:=c
  obtain⟨⟨y⟩⟩:=c'
  simp
 by_cases h1:a=a'<;>by_cases h2:b=b'<;>simp[h1,h2,key]
section
variable {C:Ctx} {n:Nat} {tm:TM} {mm:MM} {o:Oper} {d:Nat}
theorem Ha{I:Nat→Prop}{H:Nat→Value}{Z:Nat→Nat}{w:World}{M:Nat→Prop}{v:Value}{a:Int}{b:ByteArray}(h:cu I H Z w M v (.agg [.c (.int .i64 a),.c (.str b)])):v=FT (a,b):=by
 obtain⟨vs,rfl,hs,hr⟩:=h
 obtain⟨u0,g0,r0⟩:=hr 0 _ J
 obtain⟨u1,g1,r1⟩:=hr 1 _ J
 have r0:=aV.cA r0
 have r1:=aV.fR r1
 subst r0 r1
 have hs:vs.size=2:=hs
 show Value.agg vs=Value.agg _
 congr 1
 apply Array.ext
 ·simpa using hs
 ·intro i hi Qs
  have:i=0∨i=1:=by omega
  rcases this with rfl|rfl
  ·rw[cy hi]at g0;injection g0 with g0
  ·rw[cy hi]at g1;injection g1 with g1
theorem Kl{t':Nat}{x y:Operand}{a a':Int}{b b':ByteArray}(hP:C.P=Tryz.prog)(ho:o.op=.binOp .neq 32 x y t')
 (hx:cx tm x=some (.agg [.c (.int .i64 a),.c (.str b)]))(hy:cx tm y=some (.agg [.c (.int .i64 a'),.c (.str b')]))(hd:o.dst=some d)(hn:Nat.blt d n=true):
 ea C n o tm mm d (.v (.one (.c (.bool (!decide ((a,b)=(a',b'))))))):=
 ea.val hd hn _ fun H Z A w hm=>by
  have h1:A.eval x=FT (a,b):=Ha (c8 hm hx)
  have h2:A.eval y=FT (a',b'):=Ha (c8 hm hy)
  have hq:Tryz.prog.eqGuardType Tryz.prog.depth 32=false:=by kernel_rfl
  have heq:=U6 (a,b) (a',b') w
  simp only[FT]at h1 h2 heq
  refine⟨.bool (!decide ((a,b)=(a',b'))),?_,.bool _⟩
  rw[hP]
  simp only[execOp,ho,h1,h2,Sem.run_bind,run_eqGuard_agg w _ _ _ _ _ _ hq,Result.andThen_ok,run_neq_struct,heq,Sem.run_pure]
end
section
variable {C:Ctx} {n:Nat} {tm:TM} {mm:MM} {L l:List Oper} {T:TM→MM→Prop} {o:Oper} {d:Nat} {x y:Operand}
theorem Nt{t':Nat}{a a':Int}{b b':ByteArray}(hP:C.P=Tryz.prog)(ho:o.op=.binOp .neq 32 x y t')
 (hx:cx tm x=some (.agg [.c (.int .i64 a),.c (.str b)]))(hy:cx tm y=some (.agg [.c (.int .i64 a'),.c (.str b')]))(hd:o.dst=some d)(hn:Nat.blt d n=true)(hg:aY L tm o=some true)
 (k:SOps C n L.toArray l ((d,.v (.one (.c (.bool (!decide ((a,b)=(a',b')))))))::bo tm d) mm T):SOps C n L.toArray (o::l) tm mm T:=
 cB (Kl hP ho hx hy hd hn).wp hg k
end
theorem H6(pre:List bD)(a:bD)(s:ByteArray):df (pre++[a]) s=if s=a.label then df pre s++[a.next]else df pre s:=by
 unfold df
 rw[List.filter_append,bg]
 by_cases h:s=a.label
 ·rw[if_pos h];simp[h]
 ·rw[if_neg h]
  have:¬a.label=s:=fun e=>h e.symm
  simp[this]
theorem p4(pre:List bD)(a:bD)(s:ByteArray):oi (pre++[a]) s=(oi pre s).or (if a.label=s then some (a.kind,a.name)else none):=by
 unfold oi
 rw[List.find?_append]
 cases pre.find? fun a=>decide (a.label=s)with
 |some b=>rfl
 |none=>
  by_cases h:a.label=s<;>simp[h]
theorem zU{pre:List bD}{b:bD}(h:b∈pre):(oi pre b.label).isSome=true:=by
 unfold oi
 rw[Option.isSome_map,List.find?_isSome]
 exact⟨b,h,by simp⟩
theorem xA{pre:List bD}(h:eN pre=false)(a:bD):eN (pre++[a])=decide (oi (pre++[a]) a.label≠some (a.kind,a.name)):=by
 unfold eN at h⊢
 rw[List.any_append]
 have h1:pre.any (fun b=>decide (oi (pre++[a]) b.label≠some (b.kind,b.name)))=false:=by
  rw[fH]at h⊢
  intro b hb
  have:=h b hb
  obtain⟨c,hc⟩:=lj.1 (zU hb)
  rw[p4,hc,Option.some_or]
  rw[hc]at this
  exact this
 rw[h1];simp
theorem IV{pre:List bD}(h:eN pre=true):∀r:List bD,eN (pre++r)=true:=by
 intro r
 unfold eN at h⊢
 rw[cw]at h⊢
 obtain⟨b,hb,hn⟩:=h
 refine⟨b,dN _ hb,?_⟩
 obtain⟨c,hc⟩:=lj.1 (zU hb)
 have e:oi (pre++r) b.label=some c:=by
  unfold oi at hc⊢
  rw[List.find?_append]
  cases hf:pre.find? fun a=>decide (a.label=b.label)with
  |none=>rw[hf]at hc;cases hc
  |some d=>rw[hf]at hc;exact hc
 rw[e,←hc];exact hn
theorem HL(q:ByteArray×(Int×ByteArray))(m:lS)(a:ByteArray)(c:Int×ByteArray):og (q::m) a c=if a=q.1 then(a,c)::m else q::og m a c:=by
 unfold og
 rw[fk]
 by_cases h:a=q.1
 ·simp[h]
 ·simp only[h,decide_false,if_false,cP]
  cases m.findIdx? fun q=>decide (a=q.1)<;>simp
theorem zu:∀(m:lS) (a:ByteArray) (c:Int×ByteArray) (s:ByteArray),gz (og m a c) s=if s=a then some c else gz m s
 |[],a,c,s=>by by_cases h:s=a<;>simp[og,gz,h]
 |q::m,a,c,s=>by
  have ih:=zu m a c s
  rw[HL]
  unfold gz at ih⊢
  by_cases h:a=q.1
  ·rw[if_pos h]
   by_cases h':s=a
   ·simp[h']
   ·have h2:¬s=q.1:=fun e=>h' (e.trans h.symm)
    simp[h',h2]
  ·rw[if_neg h]
   by_cases h':s=q.1
   ·have h2:¬s=a:=fun e=>h (e.symm.trans h')
    rw[if_neg h2];simp[h']
   ·rw[je (by simpa using h'),ih]
    by_cases h2:s=a
    ·rw[if_pos h2,if_pos h2]
    ·rw[if_neg h2,if_neg h2,je (by simpa using h')]
structure xZ(pre:List bD)(cm:lS)(x:nT):Prop where
 ok:eN pre=false
 TJ:∀s,gz cm s=oi pre s
 Vz:∀s,kW x s=df pre s
theorem xZ.nil:xZ [] [] []:=⟨rfl,fun _=>rfl,fun _=>rfl⟩
theorem xZ.step{pre:List bD}{cm:lS}{x:nT}(h:xZ pre cm x)(a:bD)(b6:gz cm a.label=none∨gz cm a.label=some (a.kind,a.name))(v:Value):xZ (pre++[a]) (og cm a.label (a.kind,a.name)) (ou x a.label v a.next):=by
 have hc:oi (pre++[a]) a.label=some (a.kind,a.name):=by
  rw[p4,←h.TJ]
  rcases b6 with h1|h1<;>rw[h1]<;>simp
 refine⟨by rw[xA h.ok,hc];simp,fun s=>?_,fun s=>?_⟩
 ·rw[zu]
  by_cases hs:s=a.label
  ·rw[if_pos hs,hs,hc]
  ·rw[if_neg hs,h.TJ,p4,if_neg (fun e=>hs e.symm),Option.or_none]
 ·rw[Gs,H6,h.Vz,h.Vz]
  by_cases hs:s=a.label
  ·rw[if_pos hs,if_pos hs,hs]
  ·rw[if_neg hs,if_neg hs]
theorem xZ.Vf{pre:List bD}{cm:lS}{x:nT}(h:xZ pre cm x)(a:bD){c:Int×ByteArray}(hc:gz cm a.label=some c)(cV:c≠(a.kind,a.name))(r:List bD):eN (pre++a::r)=true:=by
 have:eN (pre++[a])=true:=by
  rw[xA h.ok,p4,←h.TJ,hc,Option.some_or]
  simpa using cV
 have h2:=IV this r
 rwa [bf]at h2
end Go.Sy
