/- The symbolic layer, bundle Sy6. -/
import Derived.Test.YtdjocfajcbhmgaaGreatDoorSy5
import Derived.Laws.Cover3
set_option linter.unusedSimpArgs false
set_option linter.unusedVariables false
set_option linter.unusedSectionVars false
namespace Go.Sy
open Go.RowKit
section
variable {C:Ctx} {n:Nat} {tm:TM} {mm:MM} {L l:List Oper} {T:TM→MM→Prop} {o:Oper} {d:Nat} {x y:Operand} {ty sI:TypeId}
theorem p9{Θ:dD}(bI:bz C.P Θ){z dG e:Nat}{ag:Bool}{zr:Option (List CT)}{nn:Bool}{sz:Nat}{xs:List (List CT)}
 (ho:o.op=.binOp .eql ty x y sI)(ht:aZ Θ ty=some ⟨z,dG,ag,zr,.slice e⟩)(hx:aW tm x=some (.c (.slice nn sz xs)))(hy:aW tm y=some (.c .bK))
 (hd:o.dst=some d)(hn:Nat.blt d n=true)(hg:bp L tm o=some true)
 (k:∀b:Bool,(b=true→xs=[])→SOps C n L.toArray l ((d,.v (.one (.c (.bool b))))::bw tm d) mm T):SOps C n L.toArray (o::l) tm mm T:=by
 intro a w hh
 obtain⟨H,Z,hm⟩:=hh
 have h1:a7 w (cU C H mm) (a.eval x) (.slice nn sz xs):=aX hm hx
 have h2:a.eval y=.slice none 0 0:=a7.kF (aX hm hy)
 obtain⟨ad,len,cap,hA⟩:∃ad len cap,a.eval x=.slice ad len cap:=by
  generalize a.eval x=v at h1
  cases h1 with
  |slice u hlen j3 kY sv NS yT cL=>exact⟨_,_,_,rfl⟩
 rw[hA]at h1
 have nI:ad.isNone=true→xs=[]:=by
  intro hb
  cases h1 with
  |slice u hlen j3 kY sv NS yT cL=>
   cases xs with
   |nil=>rfl
   |cons q r=>
    obtain⟨a',h',_⟩:=yT (by simp)
    rw[h']at hb;simp at hb
 have hop:eO C n o [] mm d (.v (.one (.c (.bool ad.isNone))))∨True:=.inr trivial
 obtain⟨inf,de,hf⟩:=jH bI ht
 have kZ:de=.slice e:=by
  have:=hf.sh
  cases de<;>simp[eR]at this⊢
  exact this
 subst kZ
 have dQ:(execOp a.eval o).run C.P w=.ok (.value (.bool ad.isNone)) w:=by
  simp only[execOp,ho,hA,h2,Sem.run_bind]
  simp[eqGuard,binOp,Sem.run_bind,run_equal_slice_nil w ty e ad len cap hf.Dd,Sem.run_pure]
 unfold wpList
 rw[if_pos (iw (iB hg) ⟨H,Z,hm⟩)]
 refine .inl ?_
 unfold Oper.wp
 rw[dQ]
 refine k ad.isNone nI _ _ ⟨H,Z,?_⟩
 rw[hd]
 exact hm.BD (aY.mp hn) (a7.bool _)
end
section
variable {C:Ctx} {n:Nat} {By:TM} {mm:MM} {o:Oper} {d:Nat} {x y:Operand}
theorem Hh{Θ:dD}(bI:bz C.P Θ){t:TypeId}{z dG e:Nat}{ag:Bool}{zt:Option (List CT)}{ei:gD}{c0:CT}{ct:CT}{kx ky:IntKind}{v v':Int}
 (ho:o.op=.makeSlice t x y)(ht:aZ Θ t=some ⟨z,dG,ag,zt,.slice e⟩)(fm:aZ Θ e=some ei)(hz:ei.zero=some [c0])(Mg:Nat.beq ei.size 1=true)
 (hx:aW By x=some (.c (.int kx v)))(hy:aW By y=some (.c (.int ky v')))(hd:o.dst=some d)(hn:Nat.blt d n=true)
 (m:Nat)(hv:v=(m:Int))(yh:v'=(m:Int))(gx:m≤9223372036854775807∧ei.bytes * m≤281474976710656)(hle:sF (.slice true 1 (List.replicate m [c0])) ct):
 JH C n mm o By d (.v (.one (.c ct))):=by
 refine⟨⟨hd,hn⟩,fun tm' hs=>yW.wp ?_⟩
 intro a w ⟨H,Z,Ic⟩
 have hm:=Ic.sub hs
 subst hv yh
 have h1:a.eval x=.int kx m:=a7.cH (aX hm hx)
 have h2:a.eval y=.int ky m:=a7.cH (aX hm hy)
 obtain⟨inf,de,hf⟩:=jH bI ht
 obtain⟨lX,yU,iG⟩:=jH bI fm
 obtain⟨zv,Aw,vH,Cp⟩:=iG.zero [c0] hz
 obtain⟨q1,q2⟩:=e7 (w:=w) (M:=cU C H mm) vH
 have kZ:de=.slice e:=by
  have:=hf.sh
  cases de<;>simp[eR]at this⊢
  exact this
 subst kZ
 have Mg:ei.size=1:=aR Mg
 have Mh:=run_make (P:=C.P) w t e lX zv hf.Dd iG.info Aw kx ky m m (by omega) (by omega) (by rw[iG.bytes];omega) (by omega)
 rw[iG.size,Mg]at Mh
 have sR:zv.cells.size=1:=by rw[q1];rfl
 obtain⟨u0,NQ,Qq⟩:=q2 0 c0 J
 have CC:∀i,i < m→(madeCells zv.cells (m * 1))[i]? =some u0:=by
  intro i hi
  simp only[madeCells,Nat.mul_one]
  rw[Array.getElem?_map,Array.getElem?_range]
  rw[if_pos hi]
  simp only[iI,sR,Nat.mod_one]
  rw[getElem!_def,NQ]
 have dQ:(execOp a.eval o).run C.P w=.ok (.value (.slice (some ⟨w.heap.size,0,none⟩) m m)) (w.alloc (.cells (madeCells zv.cells (m * 1)) e)):=by
  simp only[execOp,ho,h1,h2,Sem.run_bind]
  simp[Mh,Sem.run_pure]
 have Ox:∀b,cU C H mm b→b < w.heap.size:=by
  rintro b (hb|⟨p,hp,cC⟩)
  ·exact bX (hm.m0 b hb) hm.ext.size
  ·exact(hm.fresh p hp b cC).2
 have jY:(w.alloc (.cells (madeCells zv.cells (m * 1)) e)).heap.size=w.heap.size+1:=by show(w.heap.push _).size=_;rw[iL]
 have jN:∀(k:Nat) (q:List CT),(List.replicate m [c0])[k]? =some q→k < m∧q=[c0]:=fun k q hk=>by
  rw[gM]at hk
  split at hk
  ·rename_i h;injection hk with hk;exact⟨h,hk.symm⟩
  ·cases hk
 have cL:a7 (w.alloc (.cells (madeCells zv.cells (m * 1)) e)) (cU C H mm) (.slice (some ⟨w.heap.size,0,none⟩) m m) (.slice true 1 (List.replicate m [c0])):=by
  refine .slice (fun _ _=>u0) (by simp) (aA _) (by simp only[maxLen];omega) (fun _=>rfl) (fun q hq=>by rw[List.mem_replicate]at hq;rw[hq.2];rfl) (fun _=>⟨_,rfl,rfl,by rw[jY];exact Nat.lt_succ_self _,fun hM=>absurd (Ox _ hM) (Nat.lt_irrefl _),fun k q hk j c hc=>?_⟩) (fun k q hk j c hc=>?_)
  ·obtain⟨g1,rfl⟩:=jN k q hk
   cases j with
   |succ j=>simp at hc
   |zero=>
    have Fm:=oK w (.cells (madeCells zv.cells (m * 1)) e)
    have yP:=CC k g1
    simp only[Nat.mul_one,lI]at Fm yP⊢
    unfold World.cell?
    rw[show((⟨w.heap.size,0,none⟩:Addr).add k).block=w.heap.size from gA _ _,Fm]
    have Fe:((⟨w.heap.size,0,none⟩:Addr).add k).spot=none:=qP J k
    have VP:((⟨w.heap.size,0,none⟩:Addr).add k).off=k:=by unfold Addr.add;split<;>simp_all
    simp only[Fe,VP]
    simpa using yP
  ·obtain⟨g1,rfl⟩:=jN k q hk
   cases j with
   |succ j=>simp at hc
   |zero=>
    simp at hc;subst hc
    exact Qq.mono (eE w _).size (fun b hb _=>(eE w (.cells (madeCells zv.cells (m * 1)) e)).block b hb (fun h=>h)) (fun _ _ h=>h)
 refine .inl ⟨_,_,dQ,H,Z,?_⟩
 rw[hd]
 refine Ic.build (fun _=>False) (eE w _) (fun _ _ h=>h.elim) (by simpa[Act.put]using hm.defers) (by simp[Act.put,hm.size]) hm.hg hm.ids
  (fun p hp=>.inl ⟨hp,rfl,rfl,fun _ _ h=>h,fun _ _ hj=>⟨hj,rfl,rfl⟩⟩) hm.sep (fun p hp=>?_)
 rcases ae.1 hp with rfl|hp
 ·refine .inr fun _ _=>?_
  rw[gQ (by rw[hm.size];exact aY.mp hn)]
  exact hle.rep cL
 ·obtain⟨h1,qv⟩:=b4 hp
  exact .inl ⟨p,h1,rfl,fu qv,fun _ _ hj=>⟨hj,rfl,rfl⟩⟩
end
section
variable {C:Ctx} {n:Nat} {eh:MM} {L l:List Oper} {cp tm:TM} {R:List Rec} {i:Nat} {o:Oper} {d:Nat} {T:TM→MM→Prop} {x y:Operand}
theorem IQ{Θ:dD}(bI:bz C.P Θ){t:TypeId}{z dG e:Nat}{ag:Bool}{zt:Option (List CT)}{ei:gD}{c0:CT}{ct:CT}{kx ky:IntKind}{v v':Int}
 (ho:o.op=.makeSlice t x y)(ht:aZ Θ t=some ⟨z,dG,ag,zt,.slice e⟩)(fm:aZ Θ e=some ei)(hz:ei.zero=some [c0])(Mg:Nat.beq ei.size 1=true)
 (hx:aW (bg (aK L o) tm) x=some (.c (.int kx v)))(hy:aW (bg (aK L o) tm) y=some (.c (.int ky v')))(hd:o.dst=some d)(hn:Nat.blt d n=true)(hg:bp L (bg (aK L o) tm) o=some true)
 (m:Nat)(hv:v=(m:Int))(yh:v'=(m:Int))(gx:m≤9223372036854775807∧ei.bytes * m≤281474976710656)(hle:sF (.slice true 1 (List.replicate m [c0])) ct)
 (k:EOps C n eh L cp (i+1) l ((d,.v (.one (.c ct)))::bw tm d) R T):EOps C n eh L cp i (o::l) tm R T:=
 EOps.step hg (fun _ _ _=>Hh bI ho ht fm hz Mg hx hy hd hn m hv yh gx hle) hd k
end
end Go.Sy
namespace Go.Sy
open Go.RowKit
abbrev PQ:=List (Value×List (List CT))
def eA(qs:PQ):Value:=.func (.func 0) #[] (qs.map (·.1)).toArray
theorem cO{qs:PQ}{b:Nat}:Hb (eA qs) b↔∃q∈qs,hblk q.1=some b:=by
 unfold eA Hb
 simp only[aE]
 constructor
 ·rintro⟨u,⟨q,hq,rfl⟩,hb⟩;exact⟨q,hq,hb⟩
 ·rintro⟨q,hq,hb⟩;exact⟨q.1,⟨q,hq,rfl⟩,hb⟩
def eM(w:World)(M:Nat→Prop)(e sz:Nat)(v:Value)(xs:List (List CT)):Prop:=
 ∃us,w.ownsRow 0 e sz v xs.length us∧(∀x∈xs,x.length=sz)∧
  ∀(i:Nat) (x:List CT),xs[i]? =some x→∀(j:Nat) (c:CT),x[j]? =some c→∃u:Value,us[i * sz+j]? =some u∧a7 w M u c
theorem ea.row{w:World}{M:Nat→Prop}{e sz:Nat}{qs:PQ}(h:ea w M e sz qs){k:Nat}{v:Value}{xs:List (List CT)}(hk:qs[k]? =some (v,xs)):eM w M e sz v xs:=h.1 k _ hk
section
variable {w w':World} {M M':Nat→Prop} {e sz:Nat} {v:Value} {xs:List (List CT)}
theorem eM.mono(h:eM w M e sz v xs)(o2:∀b,hblk v=some b→w'.heap[b]? =w.heap[b]?)(hs:w.heap.size≤w'.heap.size)
 (hb:∀b,b < w.heap.size→¬M b→w'.heap[b]? =w.heap[b]?)(hM:∀b,b < w.heap.size→M' b→M b):eM w' M' e sz v xs:=by
 obtain⟨us,g1,g2,g3⟩:=h
 refine⟨us,⟨g1.1,?_⟩,g2,fun i x hx j c hc=>let⟨u,hu,hr⟩:=g3 i x hx j c hc;⟨u,hu,hr.mono hs hb hM⟩⟩
 rcases g1.2 with hh|⟨g,cap,cur,hv,hg,hh,rest⟩
 ·exact .inl hh
 ·exact .inr ⟨g,cap,cur,hv,hg,(o2 g (by rw[hv];rfl)).trans hh,rest⟩
theorem l4{us:List Value}{n:Nat}(h:w.ownsRow 0 e sz v n us):hblk v=v.ownBlock:=lD h
theorem eM.lt(h:eM w M e sz v xs){b:Nat}(hb:hblk v=some b):b < w.heap.size:=by
 obtain⟨us,g1,_⟩:=h
 rw[l4 g1]at hb
 exact(g1.lt b hb).2
theorem eM.one(h:eM w M e sz v xs):v.oneCell'=true:=by
 obtain⟨us,g1,_⟩:=h
 rcases g1.2 with⟨rfl,_⟩|⟨g,cap,cur,rfl,_⟩<;>rfl
theorem eM.nil(w:World)(M:Nat→Prop)(e sz:Nat):eM w M e sz (.slice none 0 0) []:=
 ⟨[],World.ownsRow_nil _ _ _ _,(fun x hx=>by cases hx),fun i x hx=>by simp at hx⟩
theorem eM.frozen(h:eM w M e sz v xs)(hM:∀b,b < w.heap.size→M' b→M b)(hn:∀b,hblk v=some b→¬M' b):a7 w M' v (.slice false sz xs):=by
 obtain⟨us,g1,g2,g3⟩:=h
 have lB:=g1
 rcases g1.2 with⟨rfl,h0⟩|⟨g,cap,cur,rfl,_,uG,j3,kY,CA,uy⟩
 ·have hx:xs=[]:=b6 h0
  subst hx
  exact .slice (fun _ _=>undef) (by simp) (aA _) (by simp[maxLen]) (fun sv=>by cases sv) (by simp) (fun hp=>by simp at hp) (fun k x hx=>by simp at hx)
 ·refine .slice (fun k j=>us.getD (k * sz+j) undef) J j3 kY (fun _=>rfl) g2 (fun hp=>?_) (fun k x hx j c hc=>?_)
  ·refine⟨⟨g,0,none⟩,rfl,rfl,(lB.lt g J).2,hn g J,fun k x hx j c hc=>?_⟩
   obtain⟨u,hu,_⟩:=g3 k x hx j c hc
   have:=World.ownsRow.cells lB (g:=g) J (k * sz+j) u hu
   rw[this]
   simp[List.getD,hu]
  ·obtain⟨u,hu,hr⟩:=g3 k x hx j c hc
   have:us.getD (k * sz+j) undef=u:=by simp[List.getD,hu]
   rw[this]
   exact hr.mono (aA _) (fun _ _ _=>rfl) hM
theorem ea.set{qs:PQ}(h:ea w M e sz qs){k:Nat}{v:Value}{xs:List (List CT)}(hk:qs[k]? =some (v,xs)){v':Value}{Uw:List (List CT)}
 (lB:eM w' M' e sz v' Uw)(hs:w.heap.size≤w'.heap.size)(o5:∀b,b < w.heap.size→hblk v≠some b→w'.heap[b]? =w.heap[b]?)
 (hb:∀b,b < w.heap.size→¬M b→w'.heap[b]? =w.heap[b]?)(hM:∀b,b < w.heap.size→M' b→M b)(hv:∀b,hblk v'=some b→hblk v=some b∨w.heap.size≤b):
 ea w' M' e sz (qs.set k (v',Uw)):=by
 refine⟨fun l q hq=>?_,fun l m q r hq hr Tj b db o3=>?_⟩
 ·rw[cY]at hq
  split at hq
  ·split at hq
   ·injection hq with hq;subst hq;exact lB
   ·cases hq
  ·rename_i KZ
   exact eM.mono (v:=q.1) (xs:=q.2) (h.1 l q hq) (fun b pP=>o5 b (eM.lt (v:=q.1) (xs:=q.2) (h.1 l q hq) pP) (fun e=>h.2 k l _ _ hk hq KZ b e pP)) hs hb hM
 ·have Cz:∀(l:Nat) (q:Value×List (List CT)),qs[l]? =some q→k≠l→∀b,hblk q.1=some b→hblk v'≠some b:=by
   intro l q hq kl b db Cs
   rcases hv b Cs with h1|h1
   ·exact h.2 k l _ _ hk hq kl b h1 db
   ·have:=eM.lt (v:=q.1) (xs:=q.2) (h.1 l q hq) db;omega
  rw[cY]at hq hr
  split at hq
  ·rename_i KZ;subst KZ
   split at hq
   ·injection hq with hq;subst hq
    rw[if_neg Tj]at hr
    exact Cz m r hr Tj b o3 db
   ·cases hq
  ·rename_i KZ
   split at hr
   ·rename_i VU;subst VU
    split at hr
    ·injection hr with hr;subst hr
     exact Cz l q hq KZ b db o3
    ·cases hr
   ·exact h.2 l m q r hq hr Tj b db o3
end
section
variable {C:Ctx} {n:Nat} {tm tm':TM} {mm:MM} {o:Oper} {d:Nat}
theorem Mod.xI{H:Nat→Value}{Z:Nat→Nat}{a a':Act}{w w':World}(hm:Mod C H Z n tm mm a w){i e sz:Nat}{qs J8:PQ}(hi:getM mm i=some (.bG e sz qs))(iF:i < given)(fO:ed i mm=true)
 (ec:Ext (fun b=>∃q∈qs,hblk q.1=some b) w w')(Is:a'.defers=[])(nF:a'.tmps.size=n)
 (CD:∀q∈J8,∀b,hblk q.1=some b→(∃r∈qs,hblk r.1=some b)∨(w.heap.size≤b∧b < w'.heap.size))
 (b7:∀M':Nat→Prop,(∀b,b < w.heap.size→M' b→cU C H mm b)→(∀b,b < w.heap.size→¬cU C H mm b→w'.heap[b]? =w.heap[b]?)→ea w' M' e sz J8)
 (Qf:∀p∈tm',(∃q∈tm,q.2=p.2∧a'.tmps.getD p.1 undef=a.tmps.getD q.1 undef∧i∉p.2.bD)∨
   (∃v,a'.tmps.getD p.1 undef=v∧v.oneCell'=true∧p.2=.v (.one (.c (.val v))))):
 Mod C (Sy.jf H i (eA J8)) Z n tm' (cK mm i (.bG e sz J8)) a' w':=by
 obtain⟨hH,qq,hdist⟩:=hm.mem _ (aN hi)
 have hH:H i=eA qs:=hH
 have hX:∀b,Hb (H i) b↔∃q∈qs,hblk q.1=some b:=fun b=>by rw[hH];exact cO
 have hI:∀j,cD mm j→cD (cK mm i (.bG e sz J8)) j:=fun j hj=>(eI j).2 hj
 refine hm.build (fun b=>Hb (H i) b) (ec.xB fun b _ h=>(hX b).2 h) (fun b _ hb=>⟨_,aN hi,hb⟩) Is nF ?_ ?_ ?_ ?_ ?_
 ·intro p hp jZ
  have su:p.1≠i:=by omega
  rw[bx _ _ su]
  rcases cq p hp with⟨rfl,_⟩|⟨k1,_⟩
  ·exact absurd J su
  ·exact hm.hg p k1 jZ
 ·intro p hp q hq he
  rcases cq p hp with⟨rfl,_⟩|⟨k1,k2⟩<;>rcases cq q hq with⟨rfl,_⟩|⟨vF,s7⟩
  ·rfl
  ·exact absurd he.symm s7
  ·exact absurd he k2
  ·exact hm.ids p k1 q vF he
 ·intro p hp
  rcases cq p hp with⟨rfl,_⟩|⟨k1,k2⟩
  ·refine .inr ⟨fun b hb=>?_,fun iH iA=>?_⟩
   ·rw[bc]at hb
    obtain⟨q,hq,db⟩:=cO.1 hb
    rcases CD q hq b db with h|h
    ·exact .inr ⟨_,aN hi,(hX b).2 h,.inl rfl⟩
    ·exact .inl h
   ·exact⟨by rw[bc];rfl,b7 _ iH iA⟩
  ·refine .inl ⟨k1,bx _ _ k2,rfl,fun b hb hx=>hm.sep p k1 _ (aN hi) k2 b hb hx,fun j hj j1=>⟨hI j j1,bx _ _ (fun e=>?_),rfl⟩⟩
   subst e;exact dP fO k1 hj
 ·intro p hp q hq jl b cC db
  have key:∀p∈mm,p.1≠i→Hb (H p.1) b→Hb (eA J8) b→False:=by
   intro p hp su h1 h2
   obtain⟨q,hq,db⟩:=cO.1 h2
   rcases CD q hq b db with h|h
   ·exact hm.sep p hp _ (aN hi) su b h1 ((hX b).2 h)
   ·have:=(hm.fresh p hp b h1).2
    omega
  rcases cq p hp with⟨rfl,_⟩|⟨k1,k2⟩<;>rcases cq q hq with⟨rfl,_⟩|⟨vF,s7⟩
  ·exact jl J
  ·rw[bc]at cC;rw[bx _ _ s7]at db
   exact key q vF s7 db cC
  ·rw[bc]at db;rw[bx _ _ k2]at cC
   exact key p k1 k2 cC db
  ·rw[bx _ _ k2]at cC;rw[bx _ _ s7]at db
   exact hm.sep p k1 q vF jl b cC db
 ·intro p hp
  rcases Qf p hp with⟨q,hq,e1,e2,e3⟩|⟨v,e1,e2,e3⟩
  ·exact .inl ⟨q,hq,e1,e2,fun j hj j1=>⟨hI j j1,bx _ _ (fun e=>e3 (e▸hj)),rfl⟩⟩
  ·refine .inr fun _ _=>?_
   rw[e3,e1]
   exact a7.val v e2
theorem yE{Θ:dD}(bI:bz C.P Θ){t:TypeId}{y:Operand}{z dG e:Nat}{ag:Bool}{zt:Option (List CT)}{ei:gD}{zr:List CT}{zZ:Bool}{xs ys:List (List CT)}{ty:TypeId}
 (ht:aZ Θ t=some ⟨z,dG,ag,zt,.slice e⟩)(fm:aZ Θ e=some ei)(hz:ei.zero=some zr)(mS:0 < ei.size)
 (gx:xs.length+ys.length≤9223372036854775807∧(xs.length+ys.length) * ei.bytes≤140737488355328)
 {a:Act}{w:World}{M:Nat→Prop}{v:Value}{us:List Value}(dF:w.ownsRow 0 e ei.size v xs.length us)(hy:a7 w M (a.eval y) (.slice zZ ei.size ys)):
 ∃v' w' news,(Builtin.append_ #[t,t] ty #[v,a.eval y]).run C.P w=.ok v' w'∧w'.ownsRow 0 e ei.size v' (xs.length+ys.length) (us++news)∧w.grownBy w' v.ownBlock∧
  (v'.ownBlock=v.ownBlock∨v'.ownBlock=some w.heap.size)∧(∀q∈ys,q.length=ei.size)∧
  (∀(k:Nat) (q:List CT),ys[k]? =some q→∀(j:Nat) (ct:CT),q[j]? =some ct→∃u,news[k * ei.size+j]? =some u∧a7 w M u ct):=by
 obtain⟨inf,de,hf⟩:=jH bI ht
 obtain⟨lX,yU,iG⟩:=jH bI fm
 obtain⟨zv,Aw,vH,Cp⟩:=iG.zero zr hz
 obtain⟨FP,_⟩:=e7 (w:=w) (M:=M) vH
 have kZ:de=.slice e:=by
  have:=hf.sh
  cases de<;>simp[eR]at this⊢
  exact this
 subst kZ
 have nG:=mS
 generalize VA:a.eval y=vy at hy
 cases hy with
 |slice u uE j3 kY sv jY yT H3=>
  rename_i ad len cap
  by_cases Cq:ys=[]
  ·subst Cq
   simp only[oO]at uE
   subst uE
   refine⟨v,w,[],?_,by simpa using dF,⟨rfl,rfl,rfl,aA _,fun _ _ _=>rfl⟩,.inl rfl,(fun q hq=>by cases hq),fun k q hq=>by simp at hq⟩
   rcases dF.2 with⟨h0,_⟩|⟨g,I6,cur,h0,_,_,RW,_⟩
   ·rw[h0]
    cases ad<;>simp[Builtin.append_,run_underlying hf.Dd,sizeOf,typeInfo,iG.info,Builtin.lenOf,Builtin.firstCells,loadCells,loadCellsFrom]
   ·rw[h0]
    cases ad<;>simp[Builtin.append_,run_underlying hf.Dd,sizeOf,typeInfo,iG.info,Builtin.lenOf,Builtin.firstCells,RW,storeCells,loadCells,loadCellsFrom]
  ·obtain⟨RB,rfl,Fe,vN,Wp,nJ⟩:=yT (fq.2 Cq)
   let news:List Value:=(List.range (ys.length * ei.size)).map fun m=>u (m / ei.size) (m % ei.size)
   have AF:∀m,m < ys.length * ei.size→news[m]? =some (u (m / ei.size) (m % ei.size)):=fun m hm=>by simp[news,hm]
   have H8:news.length=ys.length * ei.size:=by simp[news]
   have QP:∀k j,j < ei.size→(k * ei.size+j) / ei.size=k∧(k * ei.size+j) % ei.size=j:=fun k j hj=>by
    constructor
    ·rw[pa,mJ _ _ nG,jU hj,fA]
    ·rw[pa,Nat.add_mul_mod_self_right,Nat.mod_eq_of_lt hj]
   have bo:∀k j,k < ys.length→j < ei.size→k * ei.size+j < ys.length * ei.size:=fun k j hk hj=>by
    have:=bq ei.size (show k+1≤ys.length from hk)
    rw[dt]at this;omega
   have AE:∀(k:Nat) (q:List CT),ys[k]? =some q→∀(j:Nat) (ct:CT),q[j]? =some ct→∃v,news[k * ei.size+j]? =some v∧a7 w M v ct:=by
    intro k q hq j ct hc
    have hk:=(ai.1 hq).1
    have hj:j < ei.size:=by rw[←jY q (an hq)];exact(ai.1 hc).1
    refine⟨u k j,?_,H3 k q hq j ct hc⟩
    rw[AF _ (bo k j hk hj),(QP k j hj).1,(QP k j hj).2]
   have Cx:∀j v,news[j]? =some v→w.cell? (RB.add j)=some v:=by
    intro j v hj
    have eC:j < ys.length * ei.size:=by rw[←H8];exact(ai.1 hj).1
    rw[AF j eC]at hj
    injection hj with hj
    have hk:j / ei.size < ys.length:=by rw[Nat.div_lt_iff_lt_mul nG];exact eC
    have Ml:j % ei.size < ei.size:=vl _ nG
    have h1:ys[j / ei.size]? =some ys[j / ei.size]:=aa hk
    have Fg:=jY _ (an h1)
    have h2:(ys[j / ei.size])[j % ei.size]? =some ((ys[j / ei.size])[j % ei.size]'(by rw[Fg];exact Ml)):=aa _
    have:=nJ _ _ h1 _ _ h2
    rw[show j / ei.size * ei.size+j % ei.size=j by rw[vk];exact Nat.div_add_mod j ei.size,hj]at this
    exact this
   obtain⟨v',w',hr,h2,h3,_,h5⟩:=run_append_own_at (P:=C.P) w 0 t ty e lX zv ei.size ei.bytes hf.Dd iG.info Aw iG.size iG.bytes (by rw[FP,Cp]) nG v xs.length us dF RB ys.length cap news H8 Cx
    (mA jY H8 AE) (by simp only[maxLen];omega) gx.2 (aM _)
   exact⟨v',w',news,by rw[uE];exact hr,h2,h3,h5,jY,AE⟩
theorem BY{Θ:dD}(bI:bz C.P Θ){t:TypeId}{x y:Operand}{z dG e:Nat}{ag:Bool}{zt:Option (List CT)}{ei:gD}{zr:List CT}{i k:Nat}{zZ:Bool}{sz:Nat}{xs ys:List (List CT)}{qs:PQ}{v:Value}
 (ho:o.op=.call {callee:=.builtin .append,args:=⟨[x,y]⟩,argTypes:=⟨[t,t]⟩})(ht:aZ Θ t=some ⟨z,dG,ag,zt,.slice e⟩)(fm:aZ Θ e=some ei)(hz:ei.zero=some zr)
 (c8:Nat.beq ei.size sz=true)(mS:Nat.blt 0 ei.size=true)(hx:aW tm x=some (.c (.val v)))(hi:getM mm i=some (.bG e sz qs))(hk:qs[k]? =some (v,xs))(hy:aW tm y=some (.c (.slice zZ sz ys)))
 (iF:Nat.blt i given=true)(fO:ed i mm=true)(hd:o.dst=some d)(hn:Nat.blt d n=true)
 (gx:xs.length+ys.length≤9223372036854775807∧(xs.length+ys.length) * ei.bytes≤140737488355328){a:Act}{w:World}(hh:Has C n tm mm a w):
 ∃v' w',(execOp a.eval o).run C.P w=.ok (.value v') w'∧Has C n ((d,.v (.one (.c (.val v'))))::bw (jQ i tm) d) (cK mm i (.bG e sz (qs.set k (v',xs++ys)))) (a.put o.dst v') w':=by
 obtain⟨H,Z,hm⟩:=hh
 have HW:ei.size=sz:=aR c8
 subst HW
 have hv:a.eval x=v:=a7.iM (aX hm hx)
 obtain⟨hH,dj⟩:=hm.mem _ (aN hi)
 have dj:ea w (cU C H mm) e ei.size qs:=dj
 obtain⟨us,dF,hlen,cL⟩:=dj.row hk
 obtain⟨v',w',news,hr,h2,h3,h5,w6,w5⟩:=yE (xs:=xs) (ty:=o.type) bI ht fm hz (aY.mp mS) gx dF (aX hm hy:a7 w (cU C H mm) (a.eval y) (.slice zZ ei.size ys))
 have dQ:(execOp a.eval o).run C.P w=.ok (.value v') w':=by
  unfold execOp
  simp only[ho,resolve,invoke,builtin,Sem.run_bind,Sem.run_pure,Result.andThen_ok,dz,bF,gh,hv,hr]
 have CI:hblk v'=v'.ownBlock:=l4 h2
 have Ub:hblk v=v.ownBlock:=l4 dF
 have Ax:(v,xs)∈qs:=an hk
 have Iu:∀b,b < w.heap.size→hblk v≠some b→w'.heap[b]? =w.heap[b]? :=fun b hb cj=>h3.block b hb (fun e=>cj (by rw[Ub,←e]))
 refine⟨v',w',dQ,Sy.jf H i (eA (qs.set k (v',xs++ys))),Z,?_⟩
 rw[hd]
 refine hm.xI (Z:=Z) hi (aY.mp iF) fO ⟨h3.os,h3.tape,h3.output,h3.size,fun b hb cj=>Iu b hb (fun e=>cj ⟨_,Ax,e⟩)⟩ (by simpa[Act.put]using hm.defers) (by simp[Act.put,hm.size]) ?_ ?_ ?_
 ·intro q hq b db
  rcases eF hq with hq|rfl
  ·exact .inl ⟨q,hq,db⟩
  ·rcases h5 with h5|h5
   ·exact .inl ⟨_,Ax,by rw[Ub,←h5,←CI];exact db⟩
   ·have Cs:hblk v'=some b:=db
    refine .inr ⟨?_,?_⟩
    ·rw[CI,h5]at Cs;injection Cs with Cs;omega
    ·rw[CI]at Cs;exact(h2.lt b Cs).2
 ·intro M' iH iA
  refine dj.set hk ⟨us++news,by rw[aL];exact h2,fun q hq=>?_,fun k q hk j ct hc=>?_⟩ h3.size Iu iA iH (fun b hb=>?_)
  ·rcases aQ.1 hq with hq|hq
   ·exact hlen q hq
   ·exact w6 q hq
  ·have rK:us.length=xs.length * ei.size:=dF.1
   rw[bN]at hk
   split at hk
   ·obtain⟨u,hu,hr⟩:=cL k q hk j ct hc
    refine⟨u,?_,a7.mono hr h3.size iA iH⟩
    rw[aG (ai.1 hu).1]
    exact hu
   ·rename_i kl
    obtain⟨u,hu,hr⟩:=w5 _ q hk j ct hc
    refine⟨u,?_,a7.mono hr h3.size iA iH⟩
    have hle:xs.length * ei.size≤k * ei.size:=bq _ (by omega)
    rw[aO (by rw[rK];omega),rK]
    rw[Nat.sub_mul]at hu
    rw[←hu];congr 1;omega
  ·rcases h5 with h5|h5
   ·exact .inl (by rw[Ub,←h5,←CI];exact hb)
   ·rw[CI,h5]at hb;injection hb with hb;exact .inr (by omega)
 ·intro p hp
  rcases ae.1 hp with rfl|hp
  ·refine .inr ⟨v',gQ (by rw[hm.size];exact aY.mp hn),?_,rfl⟩
   rcases h2.2 with⟨rfl,_⟩|⟨g,cap,cur,rfl,_⟩<;>rfl
  ·obtain⟨h1,qv⟩:=b4 hp
   obtain⟨OB,h4⟩:=jB h1
   exact .inl ⟨p,OB,rfl,fu qv,h4⟩
def vw(v:Value)(k:Nat):Value:=
 match v with
 |.slice (some ad) _ _=>.pointer (some (ad.add k))
 |_=>.pointer none
theorem DA{t:TypeId}{x y:Operand}{i k:Nat}{qs:PQ}{v:Value}{sz:Nat}{xs:List (List CT)}{kd:IntKind}{m:Int}{j e e':Nat}{Θ:dD}(bI:bz C.P Θ)
 {z dG:Nat}{ag:Bool}{zr:Option (List CT)}{ei:gD}
 (ho:o.op=.indexAddr t x y)(ht:aZ Θ t=some ⟨z,dG,ag,zr,.slice e⟩)(fm:aZ Θ e=some ei)(c8:Nat.beq ei.size sz=true)
 (hx:aW tm x=some (.c (.val v)))(hi:getM mm i=some (.bG e' sz qs))(hk:qs[k]? =some (v,xs))(hy:aW tm y=some (.c (.int kd m)))(hm:m=(j:Int))(hj:j < xs.length)(hd:o.dst=some d)(hn:Nat.blt d n=true):
 eO C n o tm mm d (.v (.one (.c (.val (vw v (j * sz)))))):=
 eO.val hd hn _ fun H Z A w dC=>by
  have h2:A.eval y=.int kd m:=a7.cH (aX dC hy)
  have h1:A.eval x=v:=a7.iM (aX dC hx)
  obtain⟨hH,dj⟩:=dC.mem _ (aN hi)
  have dj:ea w (cU C H mm) e' sz qs:=dj
  obtain⟨us,dF,_⟩:=dj.row hk
  obtain⟨inf,de,hf⟩:=jH bI ht
  obtain⟨lX,yU,iG⟩:=jH bI fm
  have kZ:de=.slice e:=by
   have:=hf.sh
   cases de<;>simp[eR]at this⊢
   exact this
  subst kZ
  subst hm
  have Ct:ei.size=sz:=aR c8
  rcases dF.2 with⟨_,h0⟩|⟨g,cap,cur,hv,_⟩
  ·omega
  ·subst hv
   refine⟨.pointer (some ((⟨g,0,none⟩:Addr).add (j * sz))),?_,a7.val _ J⟩
   have eC:((j:Nat):Int) < ((xs.length:Nat):Int):=by omega
   simp[execOp,ho,h1,h2,Instr.indexAt,asIntOf,hf.underlying,iG.sizeOf,Ct,jF]
   intro dB;omega
theorem Hg{Θ:dD}(bI:bz C.P Θ){t:TypeId}{ti:gD}{x:Operand}{i k j e sz:Nat}{qs:PQ}{v:Value}{xs:List (List CT)}{cs:List CT}{s:SV}
 (ho:o.op=.load t x)(ht:aZ Θ t=some ti)(hx:aW tm x=some (.c (.val (vw v (j * sz)))))(hi:getM mm i=some (.bG e sz qs))(hk:qs[k]? =some (v,xs))(hj:xs[j]? =some cs)
 (hs:Nat.beq ti.size sz=true)(hv:qn SC.c ti.agg cs=some s)(hd:o.dst=some d)(hn:Nat.blt d n=true):
 eO C n o tm mm d (.v s):=
 eO.val hd hn _ fun H Z a w hm=>by
  obtain⟨inf,de,hf⟩:=jH bI ht
  obtain⟨hH,dj⟩:=hm.mem _ (aN hi)
  have dj:ea w (cU C H mm) e sz qs:=dj
  obtain⟨us,g1,g3,g4⟩:=dj.row hk
  have HU:=a7.iM (aX hm hx)
  have bo:j < xs.length:=(ai.1 hj).1
  have vi:cs.length=sz:=g3 cs (an hj)
  have Mf:ti.size=sz:=aR hs
  rcases g1.2 with⟨_,h0⟩|⟨b,cap,cur,rfl,rest⟩
  ·omega
  simp only[vw,jF,fA]at HU
  have dF:∀q u,us[q]? =some u→w.cell? ⟨b,q,none⟩=some u:=by
   intro q u hq
   have:=World.ownsRow.cells g1 (g:=b) J q u hq
   rwa [jF,fA]at this
  have DW:∀m,m≤cs.length→∃vs:List Value,vs.length=m∧(∀(q:Nat) (u:Value),vs[q]? =some u→w.cell? ((⟨b,j * sz,none⟩:Addr).add q)=some u)∧
   Pw (fun u c=>a7 w (cU C H mm) u c) vs (cs.take m):=by
   intro m
   induction m with
   |zero=>intro _;exact⟨[],rfl,fun q u hu=>by simp at hu,by simpa using Pw.nil⟩
   |succ m ih=>
    intro QI
    obtain⟨vs,k1,k2,k3⟩:=ih (by omega)
    obtain⟨u,hu,hr⟩:=g4 j cs hj m cs[m] (aa (by omega))
    refine⟨vs++[u],by simp[k1],fun q v hq=>?_,?_⟩
    ·rw[bN]at hq
     split at hq
     ·exact k2 q v hq
     ·rename_i V1
      have Of:q - vs.length=0:=by
       rcases pR (q - vs.length)with h0|h0
       ·exact h0
       ·rw[cR (by simp;omega)]at hq;cases hq
      rw[Of]at hq
      simp at hq;subst hq
      have:q=m:=by omega
      subst this
      rw[jF]
      exact dF _ _ hu
    ·rw[aD (by omega)]
     exact k3.append (Pw.cons hr Pw.nil)
  obtain⟨vs,k1,k2,k3⟩:=DW cs.length (aA _)
  rw[bC]at k3
  obtain⟨v,hr,q1,q2⟩:=gj (w:=w) hf ⟨b,j * sz,none⟩ vs (by rw[k1,vi,Mf]) k2 (fun ha=>by
   rw[k1]
   rw[ha]at hv
   unfold qn at hv
   split at hv<;>first|(rename_i hh;cases hh;done)|rfl|(cases hv;done))
  refine⟨v,by simp[execOp,ho,HU,Instr.loadAt,Instr.sureAddr,hr],?_⟩
  exact qm (f:=SC.c) hv k3 q1 q2
end
end Go.Sy
