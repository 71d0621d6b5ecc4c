/- Contracts: book.bound. -/
import Derived.Test.YtdjocfajcbhmgaaGreatDoorAu
import Derived.Test.YtdjocfajcbhmgaaGreatDoorZ24
import Derived.Test.YtdjocfajcbhmgaaGreatDoorZ5
import Derived.Test.YtdjocfajcbhmgaaGreatDoorZ12
import Derived.Test.YtdjocfajcbhmgaaGreatDoorSymZs
set_option maxHeartbeats 64000000
set_option linter.unusedSimpArgs false
set_option linter.unusedVariables false
set_option linter.unusedSectionVars false
namespace Go.Sy
open Go.Proofs Go.RowKit
set_option maxRecDepth 100000
attribute [local irreducible] SOps Goes DOps EOps FOps GOps
theorem IY(L:List Loc)(l:Loc):Bq (L++[l])=yf l.name (gx L:Int) (Bq L):=by
 unfold Bq
 rw[ee,cJ,mD]
 show yf l.name (L.foldl vJ (0,[])).1 _=_
 rw[DL]
abbrev Vj(M:x5)(x:MO):MM:=[(19,.fw (dI iC (xI M))),(3,x),(2,.box [.c .bA,.c .bA,.c .bA])]
theorem PB(x:List (Nat×Loc))(hl:x.length≤100)(hs:gx (ij x)≤400)(hv:∀l∈ij x,fP l=true):er Tryz.prog 48 [] [C1 (iL x)] (.v (Ag (dJ (ij x)).cs)) []:=by
 obtain⟨L,hL⟩:∃L,L=ij x:=⟨_,rfl⟩
 have fy:∀k,(h:k < x.length)→∃h':k < L.length,L[k]=x[k].2:=fun k h=>⟨by rw[hL];simpa[ij]using h,by simp[hL,ij]⟩
 have hlen:L.length=x.length:=by rw[hL];simp[ij]
 rw[←hL]at hs hv⊢
 have yr:=qS L
 clear hL
 refine bn (c:=_) Tryz.func48 rfl rfl rfl (by decide) fun w M0 H Z=>?_
 repeat'(first|refine aA ?_|(refine aB ?_ ?_<;>first|exact aD|(refine aE ?_;intro hb))|fail)
 refine xh 3 1 (bL []) J J (.nil 1) ?_
 refine bE (fun k:Nat=>k≤x.length)
  (fun k=>[(0,.v (C1 (iL x))),(2,.v (.one (.ptr 2 0))),(3,.v (.one (.ptr 3 0))),(4,.v (.one (.mp 19))),(5,.v (C1 (.int .i64 (gx (L.take k):Int)))),(20,.v (C1 (iL x))),(21,.v (C1 (.int .i64 (x.length:Int)))),(22,.v (C1 (.int .i64 (k:Int))))])
  (fun k=>Vj (Bq (L.take k)) (.box [.c .bA,.c (bL (eU (L.take k))),.c .bA])) (fun k=>x.length - k) 0 (aF _)
  aH (fun k hk ih=>?_)
 by_cases bj:k < x.length
 ·have hx:(x.map qn)[k]? =some (qn x[k]):=by simp[bj]
  obtain⟨oV,OW⟩:=fy k bj
  have VI:=rH oV
  have cT:=ih (k+1) bj (by omega)
  rw[al oV,IY,l6,sK]at cT
  have kK:=Ka (eU (L.take k)) L[k].name (by have:=qS (L.take k);simp at this;omega)
  rw[OW]at cT kK VI
  clear ih
  generalize x[k]=q at *
  generalize eU (L.take k)=NV at *
  generalize Bq (L.take k)=M at *
  generalize gx (L.take k)=c at *
  repeat'(first|refine aA ?_|(refine aB ?_ ?_<;>first|exact aD|(refine aE ?_;intro hb))|((first|refine bO th J J J J J J J J J k _ J hx ?_|(refine Et th (m:=xI M) (.inl rfl) J J J J J J J J ?_;rw[DM])|refine aR kK [] J J J J J J J J J J ?_);refine ao th J ?_)|(refine bH J J J J J J (by first|omega|(simp only[ak];omega)) ?_;refine ao th J ?_))
  exact aS cT
 ·clear ih
  have gv:k=x.length:=by omega
  subst gv
  rw[bC (by omega)]
  have Yn:(dJ L).cs=[mo (ir (eX L) L),bL (eU L),ch ((eU L).map (eX L))]:=rfl
  rw[Yn]
  have Se:∀s,mN s (Bq L)=eX L s:=fun s=>rfl
  have RP:∀k (h:k < L.length),∀t∈L[k].turns,∀a∈t.ax,0≤a.next∧a.next < 40:=fun k h t ht a ha=>by
   have hb:=hv _ (an h)
   obtain⟨hg,_,_⟩:=GD hb
   obtain⟨j,hj,rfl⟩:=aC.1 ht
   have:=hg (j:Int) a (by rw[iQ];unfold dc;rw[aG,fI,aa hj];exact ha)
   have h2:=l8 hb
   rw[show L[k].g.length=L[k].turns.length by simp[Loc.g]]at this
   omega
  have UT:∀k (h:k < L.length),∀t∈L[k].turns,t.ax.length≤6:=fun k h t ht=>by
   have:=vG (hv _ (an h)) t ht
   unfold kS at this
   split at this
   ·simp only[av,fj]at this;rw[this.2];simp
   ·split at this
    ·simp only[av]at this;exact(dx this.2).1.2
    ·cases this
  have RM:∀k (h:k < L.length),L[k].turns.length≤40:=fun k h=>(l8 (hv _ (an h))).2
  obtain⟨g,hg⟩:∃g,g=eX L:=⟨_,rfl⟩
  rw[←hg]at Se⊢
  clear Yn hg hv
  generalize eU L=NV at *
  generalize Bq L=M at *
  repeat'(first|refine aA ?_|(refine aB ?_ ?_<;>first|exact aD|(refine aE ?_;intro hb))|fail)
  refine kv 3 2 200 3 1 J J J J ?_
  refine bE (fun k:Nat=>k≤NV.length)
   (fun k=>[(0,.v (C1 (iL x))),(2,.v (.one (.ptr 2 0))),(3,.v (.one (.ptr 3 0))),(4,.v (.one (.mp 19))),(46,.v (C1 (bL NV))),(47,.v (C1 (.int .i64 (NV.length:Int)))),(48,.v (C1 (.int .i64 (k:Int))))])
   (fun k=>(200,.arr false 3 1 (((NV.take k).map g).map fun r=>[CT.int .i64 r]))::Vj M (.box [.c .bA,.c (bL NV),.own 200])) (fun k=>NV.length - k) 0 (aF _)
   aH (fun k hk ih=>?_)
  by_cases bj:k < NV.length
  ·have hx:(NV.map fun s=>[CT.str s])[k]? =some [.str NV[k]]:=by simp[bj]
   have cT:=ih (k+1) bj (by omega)
   rw[al bj,bg,bg]at cT
   have x7:=Se NV[k]
   clear ih
   repeat'(first|refine aA ?_|(refine aB ?_ ?_<;>first|exact aD|(refine aE ?_;intro hb))|((first|refine bO th J J J J J J J J J k _ J hx ?_|(refine vc th (m:=xI M) J J J J J J J J J J J J ?_;rw[tJ,x7]));refine ao th J ?_)|(refine nB 3 2 J ?_;refine eo th J J J J J J J J J J J J J J J (by constructor<;>simp<;>omega) ?_;refine ao th J ?_)|(refine bH J J J J J J (by omega) ?_;refine ao th J ?_))
   exact aS cT
  ·clear ih
   have gv:k=NV.length:=by omega
   subst gv
   rw[bq]
   repeat'(first|(refine dY 200 J J ?_)|refine aA ?_|(refine aB ?_ ?_<;>first|exact aD|(refine aE ?_;intro hb))|fail)
   refine kv 3 0 201 70 3 J J J J ?_
   refine bE (fun i:Nat=>i≤x.length)
    (fun i=>[(2,.v (.one (.ptr 2 0))),(3,.v (.one (.ptr 3 0))),(4,.v (.one (.mp 19))),(61,.v (C1 (iL x))),(62,.v (C1 (.int .i64 (x.length:Int)))),(63,.v (C1 (.int .i64 (i:Int))))])
    (fun i=>(201,.arr false 70 3 ((ir g (L.take i)).map Nd.cs))::Vj M (.box [.own 201,.c (bL NV),.c (ch (NV.map g))])) (fun i=>x.length - i) 0 (aF _)
    aH (fun i hi ih=>?_)
   by_cases sb:i < x.length
   ·have hx:(x.map qn)[i]? =some (qn x[i]):=by simp[sb]
    obtain⟨oV,OW⟩:=fy i sb
    have VI:=rH oV
    have Is:=RP i oV
    have TB:=UT i oV
    have Wv:=RM i oV
    have cT:=ih (i+1) sb (by omega)
    have WS:=j3 (g:=g) (L.take i)
    rw[al oV,l4]at cT
    rw[OW]at cT VI Is TB Wv
    clear ih
    generalize x[i]=q at *
    generalize ir g (L.take i)=ND at *
    rw[←WS]at VI
    repeat'(first|refine aA ?_|(refine aB ?_ ?_<;>first|exact aD|(refine aE ?_;intro hb))|(refine bO th J J J J J J J J J i _ J hx ?_;refine ao th J ?_))
    refine bE (fun t:Nat=>t≤q.2.turns.length)
     (fun t=>[(2,.v (.one (.ptr 2 0))),(3,.v (.one (.ptr 3 0))),(4,.v (.one (.mp 19))),(61,.v (C1 (iL x))),(62,.v (C1 (.int .i64 (x.length:Int)))),(63,.v (C1 (.int .i64 (i:Int)))),(12,.v (C1 (.int .i64 (ND.length:Int)))),(72,.v (C1 (sJ q.2.turns))),(73,.v (C1 (.int .i64 (q.2.turns.length:Int)))),(74,.v (C1 (.int .i64 (t:Int))))])
     (fun t=>(201,.arr false 70 3 ((ND++(q.2.turns.take t).map (l5 g (ND.length:Int))).map Nd.cs))::Vj M (.box [.own 201,.c (bL NV),.c (ch (NV.map g))])) (fun t=>q.2.turns.length - t) 0 (aF _)
     (aH (h2:=by exact⟨⟨_,rfl,fE (by simp)⟩,⟨_,rfl,.refl _⟩,⟨_,rfl,.refl _⟩,⟨_,rfl,.refl _⟩,trivial⟩)) (fun t ht n9=>?_)
    by_cases C7:t < q.2.turns.length
    ·have YZ:(q.2.turns.map jk.cs)[t]? =some (q.2.turns[t]).cs:=by simp[C7]
     have Ze:=Is _ (an C7)
     have ha3:=TB _ (an C7)
     have ji:=n9 (t+1) C7 (by omega)
     rw[xP _ _ C7,bg]at ji
     have Tp:(q.2.turns.take t).length=t:=by simp;omega
     clear n9 cT
     generalize q.2.turns[t]=tu at *
     repeat'(first|refine aA ?_|(refine aB ?_ ?_<;>first|exact aD|(refine aE ?_;intro hb))|(refine bO th J J J J J J J J J t _ J YZ ?_;refine ao th J ?_))
     refine kv 15 2 202 72 4 J J J J ?_
     refine bE (fun k:Nat=>k≤tu.ax.length)
      (fun k=>[(2,.v (.one (.ptr 2 0))),(3,.v (.one (.ptr 3 0))),(4,.v (.one (.mp 19))),(61,.v (C1 (iL x))),(62,.v (C1 (.int .i64 (x.length:Int)))),(63,.v (C1 (.int .i64 (i:Int)))),(12,.v (C1 (.int .i64 (ND.length:Int)))),(72,.v (C1 (sJ q.2.turns))),(73,.v (C1 (.int .i64 (q.2.turns.length:Int)))),(74,.v (C1 (.int .i64 (t:Int)))),(15,.v (.one (.ptr 15 0))),(84,.v (C1 (fM tu.ax))),(85,.v (C1 (.int .i64 (tu.ax.length:Int)))),(86,.v (C1 (.int .i64 (k:Int))))])
      (fun k=>(202,.arr false 72 4 (((tu.ax.take k).map (mh g (ND.length:Int))).map Edge.cs))::(15,.box [.c (.int .i64 tu.kind),.c (.str tu.peer),.own 202])::(201,.arr false 70 3 ((ND++(q.2.turns.take t).map (l5 g (ND.length:Int))).map Nd.cs))::Vj M (.box [.own 201,.c (bL NV),.c (ch (NV.map g))])) (fun k=>tu.ax.length - k) 0 (aF _)
      aH (fun k hk Ud=>?_)
     by_cases j7:k < tu.ax.length
     ·have RI:(tu.ax.map bD.cs)[k]? =some (tu.ax[k]).cs:=by simp[j7]
      have Ql:=Ze _ (an j7)
      have uW:=Ud (k+1) j7 (by omega)
      rw[al j7,bg,bg]at uW
      have x7:=Se tu.ax[k].name
      clear Ud ji
      generalize tu.ax[k]=a at *
      by_cases h5:a.kind=5
      all_goals
       repeat'(first|(exfalso;exact h5 hb)|(exfalso;exact hb h5)|refine aA ?_|(refine aB ?_ ?_<;>first|exact aD|(refine aE ?_;intro hb))|((first|refine bO th J J J J J J J J J k _ J RI ?_|(refine vc th (m:=xI M) J J J J J J J J J J J J ?_;rw[tJ,x7]));refine ao th J ?_)|(refine nB 15 2 J ?_;refine eo th J J J J J J J J J J J J J J J (by constructor<;>simp<;>omega) ?_;refine ao th J ?_)|(refine bH J J J J J J (by omega) ?_;refine ao th J ?_))
       all_goals
        exact aS (h2:=by exact⟨⟨_,rfl,fE (by simp[mh,h5])⟩,⟨_,rfl,.refl _⟩,⟨_,rfl,.refl _⟩,⟨_,rfl,.refl _⟩,⟨_,rfl,.refl _⟩,⟨_,rfl,.refl _⟩,trivial⟩) uW
     ·clear Ud
      have gv:k=tu.ax.length:=by omega
      subst gv
      rw[bq]
      repeat'(first|refine aA ?_|(refine aB ?_ ?_<;>first|exact aD|(refine aE ?_;intro hb))|(refine fa 202 J J ?_;refine ao th J ?_)|(refine nB 3 0 J ?_;refine eo th J J J J J J J J J J J J J J J (by constructor<;>simp<;>omega) ?_;refine ao th J ?_)|(refine bH J J J J J J (by omega) ?_;refine ao th J ?_))
      all_goals
       exact aS (h2:=by exact⟨⟨_,rfl,fE (by simp[l5])⟩,⟨_,rfl,.refl _⟩,⟨_,rfl,.refl _⟩,⟨_,rfl,.refl _⟩,trivial⟩) ji
    ·clear n9
     have Zb:t=q.2.turns.length:=by omega
     subst Zb
     rw[bq]
     repeat'(first|refine aA ?_|(refine aB ?_ ?_<;>first|exact aD|(refine aE ?_;intro hb))|(refine bH J J J J J J (by omega) ?_;refine ao th J ?_))
     exact aS cT
   ·clear ih
    have OO:i=x.length:=by omega
    subst OO
    rw[bC (by omega)]
    repeat'(first|(refine dY 201 J J ?_)|refine aA ?_|(refine aB ?_ ?_<;>first|exact aD|(refine aE ?_;intro hb))|refine aZ th Tryz.func48 (.inr ⟨_,rfl⟩) J J J ?_ rfl)
    all_goals exact .refl _
end Go.Sy
set_option linter.unusedSimpArgs false
set_option linter.unusedVariables false
set_option linter.unusedSectionVars false
namespace Go.Sy
section
variable {C:Ctx} {n:Nat} {L:List Oper} {cN:TM} {ι:Type} {ET:Nat→ι→TM} {MMx:Nat→ι→MM} {k:Nat} {x:ι} {o:Oper}
theorem FK{Θ:da}(bt:a8 C.P Θ){t:TypeId}{ti:fN}{p q:Operand}{i j off e sz:Nat}{qs:PQ}{v:Value}{xs:List (List CT)}{s:SV}{cs x1:List CT}(x0:List CT)
 (ho:o.op=.store t p q)(ht:aP Θ t=some ti)(hx:aQ (aX (aI L o) (cN++ET k x)) p=some (.c (.val (lL v (j * sz+off)))))(hi:getM (MMx k x) i=some (.bF e sz qs))
 (hy:cx (aX (aI L o) (cN++ET k x)) q=some s)(hc:iG s.cells=some cs)(cM:Nat.beq cs.length ti.size=true)(yp:gl x0 off cs=some x1)(GQ:s.cells.all SC.known=true)(iJ:Nat.blt i given=true)(gA:eD i (MMx k x)=true)(hd:o.dst=none)
 (hg:aY L (aX (aI L o) (cN++ET k x)) o=some true)(qX:gn i cN=true)(m:Nat)(hk:qs[m]? =some (v,xs))(hj:xs[j]? =some x0)(vr:ET (k+1) x=[])(hM:MMx (k+1) x=cS (MMx k x) i (.bF e sz (qs.set m (v,xs.set j x1)))):lF C n L cN ET MMx k x o:=by
 refine nf hg fun tm a w K Q eA hh hK=>?_
 refine(EI (tm:=aX (aI L o) (cN++ET k x)++tm) bt ho ht (iZ hx) hi hk hj (mZ hy) hc cM yp GQ iJ gA hd).wp a w K Q (hh.kX fun p hp=>(aK.1 hp).elim (eA p) id) fun a' w' h'=>?_
 exact hK x _ a' w' (fun p hp vl=>o9 (gi qX p hp) (bQ _ vl)) (fun p hp=>by rw[vr]at hp;cases hp) (by rw[hM];exact h')
end
section
variable {C:Ctx} {n:Nat} {L l:List Oper} {tm cq:TM} {E:List Nat} {i:Nat} {mmf:Nat→MM} {TF:TM→Prop} {o:Oper} {d:Nat} {x:Operand}
theorem L4{Θ:da}(bt:a8 C.P Θ){t:TypeId}{z cz:Nat}{ag:Bool}{zr:Option (List CT)}{fs:List (Nat×Nat)}{k off:Nat}{v:Value}{r c q e sz:Nat}{qs:PQ}{xs:List (List CT)}
 (ho:o.op=.fieldAddr t x k)(ht:aP Θ t=some ⟨z,cz,ag,zr,.struct fs⟩)(hx:aQ (aX (aI L o) tm) x=some (.c (.val (lL v q))))(hi:getM (mmf i) r=some (.bF e sz qs))(hk:ga fs k=some off)(hd:o.dst=some d)(hn:Nat.blt d n=true)(hg:aY L (aX (aI L o) tm) o=some true)(lg:eV E i=false)
 (hc:qs[c]? =some (v,xs))(Ur:0 < xs.length)(g:FOps C n mmf L cq E (i+1) l ((d,.v (.one (.c (.val (lL v (q+off))))))::bo tm d) TF):FOps C n mmf L cq E i (o::l) tm TF:=
 FOps.step lg hg (fun mm' hb hu=>(HS bt ho ht hx (kr hb hu _ _ hi) hc Ur hk hd hn).Em) hd g
end
section
variable {C:Ctx} {n:Nat} {tm:TM} {mm:MM} {o:Oper} {d:Nat}
theorem NT{Θ:da}(bt:a8 C.P Θ){t:TypeId}{z cz e len Bp:Nat}{ag:Bool}{zt V6:Option (List CT)}{QS:Sh}{zv:Value}{parts:Array (Nat×Operand)}{r:List SC}
 (ho:o.op=.buildSlice t len parts)(ht:aP Θ t=some ⟨z,cz,ag,zt,.slice e⟩)(dO:aP Θ e=some ⟨1,Bp,false,V6,QS⟩)(wV:∀w,(zeroValue e).run C.P w=.ok zv w)(A3:zv.oneCell'=true)
 (hb:Nat.ble len 16777216=true)(h0:Nat.blt 0 len=true)
 (hl:nL (fun i=>some (i * 1,1)) tm (tN (len * 1)) parts.toList=some r)(GQ:r.all SC.known=true)
 (hi:getM mm d=none)(hd:o.dst=some d)(hn:Nat.blt d n=true):
 xX C n o tm mm ((d,.v (.one (.u5 d len)))::bo tm d) ((d,.box r)::mm):=by
 intro a w ⟨H,Z,hm⟩
 obtain⟨inf,de,hf⟩:=gI bt ht
 obtain⟨jK,qw,fK⟩:=gI bt dO
 have jL:de=.slice e:=by
  have:=hf.sh
  cases de<;>simp[dA]at this⊢
  exact this
 subst jL
 have Fz:len≤16777216:=gw.mp hb
 have WZ:0 < len:=a6.mp h0
 have Bc:zv.cells=#[zv]:=by cases zv<;>first|rfl|cases A3
 let init:Array Value:=(Array.range (len * 1)).map (zv.cells[·% zv.cells.size]!)
 have hp:Pw (fun u c=>u.oneCell'=true∧bS (cU mm) H Z w (cO C H mm) u c) init.toList (tN (len * 1)):=by
  rw[By]
  refine⟨by simp[init],fun j c hc=>?_⟩
  have hj:j < len * 1:=by
   have:=(ai.1 hc).1
   simpa using this
  rw[iy,if_pos hj]at hc
  injection hc with hc;subst hc
  refine⟨zv,?_,A3,trivial⟩
  have A9:j < len:=by omega
  simp[init,A9,Bc,Nat.mod_one]
 obtain⟨lK,g1,g2⟩:=j5 hm _ parts.toList _ _ r hp hl
 have dL:(execOp a.eval o).run C.P w=.ok (.value (.slice (some ⟨w.heap.size,0,none⟩) len len)) (w.alloc (.cells lK e)):=by
  have iX:Instr.fill (fun i=>some (i * 1,1)) init (parts.map fun(i,x)=>(i,a.eval x)).toList=some lK:=by
   rw[←g1,kG]
  simp only[execOp,ho,Instr.buildSlice,Sem.run_bind,hf.underlying,Result.andThen_ok,fK.sizeOf]
  rw[if_neg (by omega)]
  simp only[init]at iX
  rw[if_neg (by omega)]
  simp only[Sem.run_bind,Sem.run_pure,Result.andThen_ok,wV,iX]
  simp[newRow,newObj,Sem.run]
 refine .inl ⟨_,_,dL,jV H d (.pointer (some ⟨w.heap.size,0,none⟩)),jV Z d 0,?_⟩
 rw[hd]
 refine hm.add (i:=d) (hv:=.pointer (some ⟨w.heap.size,0,none⟩)) (z:=0) (o:=.box r) (getM_none hi) (a6.mp hn) J (ft w _) ?_ ?_ ?_
 ·intro b hb
  simp[Hb,hblk]at hb
  subst hb
  exact⟨ay _,by show _ < (w.heap.push _).size;rw[jl];omega⟩
 ·intro iP gb
  refine⟨w.heap.size,e,lK,bm _ _ _,tO w _,by simpa using g2.1,fun j c hc=>?_⟩
  obtain⟨u,hu,h1,cC⟩:=g2.2 j c hc
  refine⟨u,by simpa using hu,h1,cC.mono (fun k _ hk=>?_) (ft w _).size gb iP⟩
  have cV:k≠d:=fun e=>getM_none hi (e▸hk)
  exact⟨let⟨p,hp,e⟩:=hk;⟨p,ab _ hp,e⟩,bG _ _ cV,bG _ _ cV⟩
 ·exact⟨⟨_,ah,rfl⟩,w.heap.size,by rw[bm];rfl,rfl⟩
theorem NU{Θ:da}(bt:a8 C.P Θ){t:TypeId}{x:Operand}{z cz e i m:Nat}{ag:Bool}{zr:Option (List CT)}
 (ho:o.op=.call {callee:=.builtin .len,args:=#[x],argTypes:=#[t]})(ht:aP Θ t=some ⟨z,cz,ag,zr,.slice e⟩)(hx:aQ tm x=some (.u5 i m))(hd:o.dst=some d)(hn:Nat.blt d n=true):
 ea C n o tm mm d (.v (.one (.c (.int .i64 (m:Int))))):=
 ea.val hd hn _ fun H Z a w hm=>by
  obtain⟨_,b,_,hv⟩:=aU hm hx
  obtain⟨inf,de,hf⟩:=gI bt ht
  have jL:de=.slice e:=by
   have:=hf.sh
   cases de<;>simp[dA]at this⊢
   exact this
  subst jL
  refine⟨.int .i64 (m:Int),?_,.int _ _⟩
  simp[execOp,ho,resolve,invoke,builtin,Builtin.len_,hf.underlying,hv,goInt]
theorem NW{Θ:da}(bt:a8 C.P Θ){t:TypeId}{x y:Operand}{z cz e i m Bp:Nat}{ag Vm:Bool}{zr TL:Option (List CT)}{QS:Sh}{k:Nat}
 (ho:o.op=.indexAddr t x y)(ht:aP Θ t=some ⟨z,cz,ag,zr,.slice e⟩)(dO:aP Θ e=some ⟨1,Bp,Vm,TL,QS⟩)(hx:aQ tm x=some (.u5 i m))(hy:aQ tm y=some (.c (.int .i64 (k:Int))))(hk:Nat.blt k m=true)(hd:o.dst=some d)(hn:Nat.blt d n=true):
 ea C n o tm mm d (.v (.one (.ptr i k))):=
 ea.val hd hn _ fun H Z a w hm=>by
  obtain⟨hI,b,hb,hv⟩:=aU hm hx
  have h2:a.eval y=.int .i64 (k:Int):=aV.cA (aU hm hy)
  obtain⟨inf,de,hf⟩:=gI bt ht
  obtain⟨jK,qw,fK⟩:=gI bt dO
  have jL:de=.slice e:=by
   have:=hf.sh
   cases de<;>simp[dA]at this⊢
   exact this
  subst jL
  have bj:k < m:=a6.mp hk
  refine⟨.pointer (some ⟨b,k,none⟩),?_,hI,b,hb,rfl⟩
  have e1:(⟨b,0,none⟩:Addr).add k=⟨b,k,none⟩:=by rw[jJ];simp
  simp[execOp,ho,hv,h2,Instr.indexAt,asIntOf,hf.underlying,fK.sizeOf,e1]
  omega
end
section
variable {C:Ctx} {n:Nat} {tm:TM} {mm:MM} {L l:List Oper} {T:TM→MM→Prop} {o:Oper} {d:Nat} {x y:Operand}
theorem QV{Θ:da}(bt:a8 C.P Θ){t:TypeId}{z cz e len Bp:Nat}{ag:Bool}{zt V6:Option (List CT)}{QS:Sh}{zv:Value}{parts:Array (Nat×Operand)}{r:List SC}
 (ho:o.op=.buildSlice t len parts)(ht:aP Θ t=some ⟨z,cz,ag,zt,.slice e⟩)(dO:aP Θ e=some ⟨1,Bp,false,V6,QS⟩)(wV:∀w,(zeroValue e).run C.P w=.ok zv w)(A3:zv.oneCell'=true)
 (hb:Nat.ble len 16777216=true)(h0:Nat.blt 0 len=true)
 (hl:nL (fun i=>some (i * 1,1)) tm (tN (len * 1)) parts.toList=some r)(GQ:r.all SC.known=true)
 (hi:getM mm d=none)(hd:o.dst=some d)(hn:Nat.blt d n=true)(hg:aY L tm o=some true)
 (g:SOps C n L.toArray l ((d,.v (.one (.u5 d len)))::bo tm d) ((d,.box r)::mm) T):SOps C n L.toArray (o::l) tm mm T:=
 cB (NT bt ho ht dO wV A3 hb h0 hl GQ hi hd hn).wp hg g
theorem QW{Θ:da}(bt:a8 C.P Θ){t:TypeId}{z cz e i m:Nat}{ag:Bool}{zr:Option (List CT)}
 (ho:o.op=.call {callee:=.builtin .len,args:=#[x],argTypes:=#[t]})(ht:aP Θ t=some ⟨z,cz,ag,zr,.slice e⟩)(hx:aQ tm x=some (.u5 i m))(hd:o.dst=some d)(hn:Nat.blt d n=true)(hg:aY L tm o=some true)
 (g:SOps C n L.toArray l ((d,.v (.one (.c (.int .i64 (m:Int)))))::bo tm d) mm T):SOps C n L.toArray (o::l) tm mm T:=
 cB (NU bt ho ht hx hd hn).wp hg g
theorem vL{Θ:da}(bt:a8 C.P Θ){t:TypeId}{z cz e i m Bp:Nat}{ag Vm:Bool}{zr TL:Option (List CT)}{QS:Sh}(k:Nat)
 (ho:o.op=.indexAddr t x y)(ht:aP Θ t=some ⟨z,cz,ag,zr,.slice e⟩)(dO:aP Θ e=some ⟨1,Bp,Vm,TL,QS⟩)(hx:aQ tm x=some (.u5 i m))(hy:aQ tm y=some (.c (.int .i64 (k:Int))))(hk:Nat.blt k m=true)(hd:o.dst=some d)(hn:Nat.blt d n=true)(hg:aY L tm o=some true)
 (g:SOps C n L.toArray l ((d,.v (.one (.ptr i k)))::bo tm d) mm T):SOps C n L.toArray (o::l) tm mm T:=
 cB (NW bt ho ht dO hx hy hk hd hn).wp hg g
theorem rN{Θ:da}(bt:a8 C.P Θ){t:TypeId}{ti:fN}{i off:Nat}{cs xs:List SC}{s:SV}
 (ho:o.op=.load t x)(ht:aP Θ t=some ti)(hx:aQ tm x=some (.ptr i off))(hi:getM mm i=some (.box cs))
 (hs:yd cs off ti.size=some xs)(hv:qd id ti.agg xs=some s)(hd:o.dst=some d)(hn:Nat.blt d n=true)(hg:aY L tm o=some true)
 (g:SOps C n L.toArray l ((d,.v s)::bo tm d) mm T):SOps C n L.toArray (o::l) tm mm T:=
 cB (ue bt ho ht hx hi hs hv hd hn).wp hg g
end
end Go.Sy
