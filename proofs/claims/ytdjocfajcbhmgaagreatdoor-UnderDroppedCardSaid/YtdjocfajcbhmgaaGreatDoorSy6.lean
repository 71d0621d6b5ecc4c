/- The symbolic layer, bundle Sy6. -/
import Derived.Test.YtdjocfajcbhmgaaGreatDoorSy5
import Derived.Laws.Cover3
set_option linter.unusedSimpArgs false
set_option linter.unusedVariables false
set_option linter.unusedSectionVars false
namespace Go.Sy
open Go.RowKit
section
variable {C:Ctx} {n:Nat} {tm:TM} {mm:MM} {L l:List Oper} {T:TM→MM→Prop} {o:Oper} {d:Nat} {x y:Operand} {ty rk:TypeId}
theorem Gg{Θ:da}(bt:a8 C.P Θ){z cz e:Nat}{ag:Bool}{zr:Option (List CT)}{nn:Bool}{sz:Nat}{xs:List (List CT)}
 (ho:o.op=.binOp .eql ty x y rk)(ht:aP Θ ty=some ⟨z,cz,ag,zr,.slice e⟩)(hx:aQ tm x=some (.c (.slice nn sz xs)))(hy:aQ tm y=some (.c .bA))
 (hd:o.dst=some d)(hn:Nat.blt d n=true)(hg:aY L tm o=some true)
 (k:∀b:Bool,(b=true→xs=[])→SOps C n L.toArray l ((d,.v (.one (.c (.bool b))))::bo tm d) mm T):SOps C n L.toArray (o::l) tm mm T:=by
 intro a w hh
 obtain⟨H,Z,hm⟩:=hh
 have h1:aV w (cO C H mm) (a.eval x) (.slice nn sz xs):=aU hm hx
 have h2:a.eval y=.slice none 0 0:=aV.jy (aU hm hy)
 obtain⟨ad,len,cap,hA⟩:∃ad len cap,a.eval x=.slice ad len cap:=by
  generalize a.eval x=v at h1
  cases h1 with
  |slice u hlen jC kL vn OB rn cC=>exact⟨_,_,_,rfl⟩
 rw[hA]at h1
 have w5:ad.isNone=true→xs=[]:=by
  intro hb
  cases h1 with
  |slice u hlen jC kL vn OB rn cC=>
   cases xs with
   |nil=>rfl
   |cons q r=>
    obtain⟨a',h',_⟩:=rn (by simp)
    rw[h']at hb;simp at hb
 have VO:ea C n o [] mm d (.v (.one (.c (.bool ad.isNone))))∨True:=.inr trivial
 obtain⟨inf,de,hf⟩:=gI bt ht
 have jL:de=.slice e:=by
  have:=hf.sh
  cases de<;>simp[dA]at this⊢
  exact this
 subst jL
 have dL:(execOp a.eval o).run C.P w=.ok (.value (.bool ad.isNone)) w:=by
  simp only[execOp,ho,hA,h2,Sem.run_bind]
  simp[eqGuard,binOp,Sem.run_bind,run_equal_slice_nil w ty e ad len cap hf.Aj,Sem.run_pure]
 unfold wpList
 rw[if_pos (gC (gD hg) ⟨H,Z,hm⟩)]
 refine .inl ?_
 unfold Oper.wp
 rw[dL]
 refine k ad.isNone w5 _ _ ⟨H,Z,?_⟩
 rw[hd]
 exact hm.Ep (a6.mp hn) (aV.bool _)
end
section
variable {C:Ctx} {n:Nat} {D7:TM} {mm:MM} {o:Oper} {d:Nat} {x y:Operand}
end
section
variable {C:Ctx} {n:Nat} {eS:MM} {L l:List Oper} {cq tm:TM} {R:List Rec} {i:Nat} {o:Oper} {d:Nat} {T:TM→MM→Prop} {x y:Operand}
end
end Go.Sy
namespace Go.Sy
open Go.RowKit
abbrev PQ:=List (Value×List (List CT))
def gg(qs:PQ):Value:=.func (.func 0) #[] (qs.map (·.1)).toArray
theorem dD{qs:PQ}{b:Nat}:Hb (gg qs) b↔∃q∈qs,hblk q.1=some b:=by
 unfold gg Hb
 simp only[aL]
 constructor
 ·rintro⟨u,⟨q,hq,rfl⟩,hb⟩;exact⟨q,hq,hb⟩
 ·rintro⟨q,hq,hb⟩;exact⟨q.1,⟨q,hq,rfl⟩,hb⟩
def fp(w:World)(M:Nat→Prop)(e sz:Nat)(v:Value)(xs:List (List CT)):Prop:=
 ∃us,w.ownsRow 0 e sz v xs.length us∧(∀x∈xs,x.length=sz)∧
  ∀(i:Nat) (x:List CT),xs[i]? =some x→∀(j:Nat) (c:CT),x[j]? =some c→∃u:Value,us[i * sz+j]? =some u∧aV w M u c
theorem eF.row{w:World}{M:Nat→Prop}{e sz:Nat}{qs:PQ}(h:eF w M e sz qs){k:Nat}{v:Value}{xs:List (List CT)}(hk:qs[k]? =some (v,xs)):fp w M e sz v xs:=h.1 k _ hk
section
variable {w w':World} {M M':Nat→Prop} {e sz:Nat} {v:Value} {xs:List (List CT)}
theorem fp.mono(h:fp w M e sz v xs)(oc:∀b,hblk v=some b→w'.heap[b]? =w.heap[b]?)(hs:w.heap.size≤w'.heap.size)
 (hb:∀b,b < w.heap.size→¬M b→w'.heap[b]? =w.heap[b]?)(hM:∀b,b < w.heap.size→M' b→M b):fp w' M' e sz v xs:=by
 obtain⟨us,g1,g2,g3⟩:=h
 refine⟨us,⟨g1.1,?_⟩,g2,fun i x hx j c hc=>let⟨u,hu,hr⟩:=g3 i x hx j c hc;⟨u,hu,hr.mono hs hb hM⟩⟩
 rcases g1.2 with hh|⟨g,cap,cur,hv,hg,hh,rest⟩
 ·exact .inl hh
 ·exact .inr ⟨g,cap,cur,hv,hg,(oc g (by rw[hv];rfl)).trans hh,rest⟩
theorem mU{us:List Value}{n:Nat}(h:w.ownsRow 0 e sz v n us):hblk v=v.ownBlock:=mr h
theorem fp.lt(h:fp w M e sz v xs){b:Nat}(hb:hblk v=some b):b < w.heap.size:=by
 obtain⟨us,g1,_⟩:=h
 rw[mU g1]at hb
 exact(g1.lt b hb).2
theorem fp.one(h:fp w M e sz v xs):v.oneCell'=true:=by
 obtain⟨us,g1,_⟩:=h
 rcases g1.2 with⟨rfl,_⟩|⟨g,cap,cur,rfl,_⟩<;>rfl
theorem fp.nil(w:World)(M:Nat→Prop)(e sz:Nat):fp w M e sz (.slice none 0 0) []:=
 ⟨[],World.ownsRow_nil _ _ _ _,(fun x hx=>by cases hx),fun i x hx=>by simp at hx⟩
theorem fp.frozen(h:fp w M e sz v xs)(hM:∀b,b < w.heap.size→M' b→M b)(hn:∀b,hblk v=some b→¬M' b):aV w M' v (.slice false sz xs):=by
 obtain⟨us,g1,g2,g3⟩:=h
 have jh:=g1
 rcases g1.2 with⟨rfl,h0⟩|⟨g,cap,cur,rfl,_,qv,jC,kL,yv,ob⟩
 ·have hx:xs=[]:=bK h0
  subst hx
  exact .slice (fun _ _=>undef) (by simp) (ay _) (by simp[maxLen]) (fun vn=>by cases vn) (by simp) (fun hp=>by simp at hp) (fun k x hx=>by simp at hx)
 ·refine .slice (fun k j=>us.getD (k * sz+j) undef) J jC kL (fun _=>rfl) g2 (fun hp=>?_) (fun k x hx j c hc=>?_)
  ·refine⟨⟨g,0,none⟩,rfl,rfl,(jh.lt g J).2,hn g J,fun k x hx j c hc=>?_⟩
   obtain⟨u,hu,_⟩:=g3 k x hx j c hc
   have:=World.ownsRow.cells jh (g:=g) J (k * sz+j) u hu
   rw[this]
   simp[List.getD,hu]
  ·obtain⟨u,hu,hr⟩:=g3 k x hx j c hc
   have:us.getD (k * sz+j) undef=u:=by simp[List.getD,hu]
   rw[this]
   exact hr.mono (ay _) (fun _ _ _=>rfl) hM
theorem eF.set{qs:PQ}(h:eF w M e sz qs){k:Nat}{v:Value}{xs:List (List CT)}(hk:qs[k]? =some (v,xs)){v':Value}{XV:List (List CT)}
 (jh:fp w' M' e sz v' XV)(hs:w.heap.size≤w'.heap.size)(qu:∀b,b < w.heap.size→hblk v≠some b→w'.heap[b]? =w.heap[b]?)
 (hb:∀b,b < w.heap.size→¬M b→w'.heap[b]? =w.heap[b]?)(hM:∀b,b < w.heap.size→M' b→M b)(hv:∀b,hblk v'=some b→hblk v=some b∨w.heap.size≤b):
 eF w' M' e sz (qs.set k (v',XV)):=by
 refine⟨fun l q hq=>?_,fun l m q r hq hr Qo b dS wZ=>?_⟩
 ·rw[cv]at hq
  split at hq
  ·split at hq
   ·injection hq with hq;subst hq;exact jh
   ·cases hq
  ·rename_i uV
   exact fp.mono (v:=q.1) (xs:=q.2) (h.1 l q hq) (fun b yw=>qu b (fp.lt (v:=q.1) (xs:=q.2) (h.1 l q hq) yw) (fun e=>h.2 k l _ _ hk hq uV b e yw)) hs hb hM
 ·have Fv:∀(l:Nat) (q:Value×List (List CT)),qs[l]? =some q→k≠l→∀b,hblk q.1=some b→hblk v'≠some b:=by
   intro l q hq j7 b dS La
   rcases hv b La with h1|h1
   ·exact h.2 k l _ _ hk hq j7 b h1 dS
   ·have:=fp.lt (v:=q.1) (xs:=q.2) (h.1 l q hq) dS;omega
  rw[cv]at hq hr
  split at hq
  ·rename_i uV;subst uV
   split at hq
   ·injection hq with hq;subst hq
    rw[if_neg Qo]at hr
    exact Fv m r hr Qo b wZ dS
   ·cases hq
  ·rename_i uV
   split at hr
   ·rename_i Zn;subst Zn
    split at hr
    ·injection hr with hr;subst hr
     exact Fv l q hq uV b dS wZ
    ·cases hr
   ·exact h.2 l m q r hq hr Qo b dS wZ
end
section
variable {C:Ctx} {n:Nat} {tm tm':TM} {mm:MM} {o:Oper} {d:Nat}
theorem Mod.vb{H:Nat→Value}{Z:Nat→Nat}{a a':Act}{w w':World}(hm:Mod C H Z n tm mm a w){i e sz:Nat}{qs Tg:PQ}(hi:getM mm i=some (.bF e sz qs))(iJ:i < given)(gA:eD i mm=true)
 (dy:Ext (fun b=>∃q∈qs,hblk q.1=some b) w w')(LF:a'.defers=[])(mS:a'.tmps.size=n)
 (Fz:∀q∈Tg,∀b,hblk q.1=some b→(∃r∈qs,hblk r.1=some b)∨(w.heap.size≤b∧b < w'.heap.size))
 (b6:∀M':Nat→Prop,(∀b,b < w.heap.size→M' b→cO C H mm b)→(∀b,b < w.heap.size→¬cO C H mm b→w'.heap[b]? =w.heap[b]?)→eF w' M' e sz Tg)
 (Uk:∀p∈tm',(∃q∈tm,q.2=p.2∧a'.tmps.getD p.1 undef=a.tmps.getD q.1 undef∧i∉p.2.bw)∨
   (∃v,a'.tmps.getD p.1 undef=v∧v.oneCell'=true∧p.2=.v (.one (.c (.val v))))):
 Mod C (Sy.jV H i (gg Tg)) Z n tm' (cS mm i (.bF e sz Tg)) a' w':=by
 obtain⟨hH,GN,hdist⟩:=hm.mem _ (aT hi)
 have hH:H i=gg qs:=hH
 have hX:∀b,Hb (H i) b↔∃q∈qs,hblk q.1=some b:=fun b=>by rw[hH];exact dD
 have hI:∀j,cU mm j→cU (cS mm i (.bF e sz Tg)) j:=fun j hj=>(fT j).2 hj
 refine hm.build (fun b=>Hb (H i) b) (dy.yb fun b _ h=>(hX b).2 h) (fun b _ hb=>⟨_,aT hi,hb⟩) LF mS ?_ ?_ ?_ ?_ ?_
 ·intro p hp lN
  have yq:p.1≠i:=by omega
  rw[bG _ _ yq]
  rcases cW p hp with⟨rfl,_⟩|⟨k1,_⟩
  ·exact absurd J yq
  ·exact hm.hg p k1 lN
 ·intro p hp q hq he
  rcases cW p hp with⟨rfl,_⟩|⟨k1,k2⟩<;>rcases cW q hq with⟨rfl,_⟩|⟨D8,AY⟩
  ·rfl
  ·exact absurd he.symm AY
  ·exact absurd he k2
  ·exact hm.ids p k1 q D8 he
 ·intro p hp
  rcases cW p hp with⟨rfl,_⟩|⟨k1,k2⟩
  ·refine .inr ⟨fun b hb=>?_,fun iP gb=>?_⟩
   ·rw[bm]at hb
    obtain⟨q,hq,dS⟩:=dD.1 hb
    rcases Fz q hq b dS with h|h
    ·exact .inr ⟨_,aT hi,(hX b).2 h,.inl rfl⟩
    ·exact .inl h
   ·exact⟨by rw[bm];rfl,b6 _ iP gb⟩
  ·refine .inl ⟨k1,bG _ _ k2,rfl,fun b hb hx=>hm.sep p k1 _ (aT hi) k2 b hb hx,fun j hj km=>⟨hI j km,bG _ _ (fun e=>?_),rfl⟩⟩
   subst e;exact fD gA k1 hj
 ·intro p hp q hq kl b c9 dS
  have key:∀p∈mm,p.1≠i→Hb (H p.1) b→Hb (gg Tg) b→False:=by
   intro p hp yq h1 h2
   obtain⟨q,hq,dS⟩:=dD.1 h2
   rcases Fz q hq b dS with h|h
   ·exact hm.sep p hp _ (aT hi) yq b h1 ((hX b).2 h)
   ·have:=(hm.fresh p hp b h1).2
    omega
  rcases cW p hp with⟨rfl,_⟩|⟨k1,k2⟩<;>rcases cW q hq with⟨rfl,_⟩|⟨D8,AY⟩
  ·exact kl J
  ·rw[bm]at c9;rw[bG _ _ AY]at dS
   exact key q D8 AY dS c9
  ·rw[bm]at dS;rw[bG _ _ k2]at c9
   exact key p k1 k2 c9 dS
  ·rw[bG _ _ k2]at c9;rw[bG _ _ AY]at dS
   exact hm.sep p k1 q D8 kl b c9 dS
 ·intro p hp
  rcases Uk p hp with⟨q,hq,e1,e2,e3⟩|⟨v,e1,e2,e3⟩
  ·exact .inl ⟨q,hq,e1,e2,fun j hj km=>⟨hI j km,bG _ _ (fun e=>e3 (e▸hj)),rfl⟩⟩
  ·refine .inr fun _ _=>?_
   rw[e3,e1]
   exact aV.val v e2
theorem sv{Θ:da}(bt:a8 C.P Θ){t:TypeId}{y:Operand}{z cz e:Nat}{ag:Bool}{zt:Option (List CT)}{ei:fN}{zr:List CT}{uh:Bool}{xs ys:List (List CT)}{ty:TypeId}
 (ht:aP Θ t=some ⟨z,cz,ag,zt,.slice e⟩)(dO:aP Θ e=some ei)(hz:ei.zero=some zr)(lx:0 < ei.size)
 (gW:xs.length+ys.length≤9223372036854775807∧(xs.length+ys.length) * ei.bytes≤140737488355328)
 {a:Act}{w:World}{M:Nat→Prop}{v:Value}{us:List Value}(dH:w.ownsRow 0 e ei.size v xs.length us)(hy:aV w M (a.eval y) (.slice uh ei.size ys)):
 ∃v' w' news,(Builtin.append_ #[t,t] ty #[v,a.eval y]).run C.P w=.ok v' w'∧w'.ownsRow 0 e ei.size v' (xs.length+ys.length) (us++news)∧w.grownBy w' v.ownBlock∧
  (v'.ownBlock=v.ownBlock∨v'.ownBlock=some w.heap.size)∧(∀q∈ys,q.length=ei.size)∧
  (∀(k:Nat) (q:List CT),ys[k]? =some q→∀(j:Nat) (ct:CT),q[j]? =some ct→∃u,news[k * ei.size+j]? =some u∧aV w M u ct):=by
 obtain⟨inf,de,hf⟩:=gI bt ht
 obtain⟨jK,qw,fK⟩:=gI bt dO
 obtain⟨zv,wV,qe,BD⟩:=fK.zero zr hz
 obtain⟨A3,_⟩:=e8 (w:=w) (M:=M) qe
 have jL:de=.slice e:=by
  have:=hf.sh
  cases de<;>simp[dA]at this⊢
  exact this
 subst jL
 have oS:=lx
 generalize Y7:a.eval y=vy at hy
 cases hy with
 |slice u w7 jC kL vn j6 rn Lj=>
  rename_i ad len cap
  by_cases Fb:ys=[]
  ·subst Fb
   simp only[lH]at w7
   subst w7
   refine⟨v,w,[],?_,by simpa using dH,⟨rfl,rfl,rfl,ay _,fun _ _ _=>rfl⟩,.inl rfl,(fun q hq=>by cases hq),fun k q hq=>by simp at hq⟩
   rcases dH.2 with⟨h0,_⟩|⟨g,Mp,cur,h0,_,_,VP,_⟩
   ·rw[h0]
    cases ad<;>simp[Builtin.append_,run_underlying hf.Aj,sizeOf,typeInfo,fK.info,Builtin.lenOf,Builtin.firstCells,loadCells,loadCellsFrom]
   ·rw[h0]
    cases ad<;>simp[Builtin.append_,run_underlying hf.Aj,sizeOf,typeInfo,fK.info,Builtin.lenOf,Builtin.firstCells,VP,storeCells,loadCells,loadCellsFrom]
  ·obtain⟨Vo,rfl,yp,ur,ZT,sc⟩:=rn (fS.2 Fb)
   let news:List Value:=(List.range (ys.length * ei.size)).map fun m=>u (m / ei.size) (m % ei.size)
   have Dc:∀m,m < ys.length * ei.size→news[m]? =some (u (m / ei.size) (m % ei.size)):=fun m hm=>by simp[news,hm]
   have yr:news.length=ys.length * ei.size:=by simp[news]
   have UG:∀k j,j < ei.size→(k * ei.size+j) / ei.size=k∧(k * ei.size+j) % ei.size=j:=fun k j hj=>by
    constructor
    ·rw[x9,Nat.add_mul_div_right _ _ oS,Nat.div_eq_of_lt hj,fq]
    ·rw[x9,Nat.add_mul_mod_self_right,Nat.mod_eq_of_lt hj]
   have bj:∀k j,k < ys.length→j < ei.size→k * ei.size+j < ys.length * ei.size:=fun k j hk hj=>by
    have:=br ei.size (show k+1≤ys.length from hk)
    rw[ec]at this;omega
   have Db:∀(k:Nat) (q:List CT),ys[k]? =some q→∀(j:Nat) (ct:CT),q[j]? =some ct→∃v,news[k * ei.size+j]? =some v∧aV w M v ct:=by
    intro k q hq j ct hc
    have hk:=(ai.1 hq).1
    have hj:j < ei.size:=by rw[←j6 q (aj hq)];exact(ai.1 hc).1
    refine⟨u k j,?_,Lj k q hq j ct hc⟩
    rw[Dc _ (bj k j hk hj),(UG k j hj).1,(UG k j hj).2]
   have Fq:∀j v,news[j]? =some v→w.cell? (Vo.add j)=some v:=by
    intro j v hj
    have fg:j < ys.length * ei.size:=by rw[←yr];exact(ai.1 hj).1
    rw[Dc j fg]at hj
    injection hj with hj
    have hk:j / ei.size < ys.length:=by rw[Nat.div_lt_iff_lt_mul oS];exact fg
    have Iu:j % ei.size < ei.size:=Nat.mod_lt _ oS
    have h1:ys[j / ei.size]? =some ys[j / ei.size]:=aa hk
    have WD:=j6 _ (aj h1)
    have h2:(ys[j / ei.size])[j % ei.size]? =some ((ys[j / ei.size])[j % ei.size]'(by rw[WD];exact Iu)):=aa _
    have:=sc _ _ h1 _ _ h2
    rw[show j / ei.size * ei.size+j % ei.size=j by rw[Nat.mul_comm];exact Nat.div_add_mod j ei.size,hj]at this
    exact this
   obtain⟨v',w',hr,h2,h3,_,h5⟩:=run_append_own_at (P:=C.P) w 0 t ty e jK zv ei.size ei.bytes hf.Aj fK.info wV fK.size fK.bytes (by rw[A3,BD]) oS v xs.length us dH Vo ys.length cap news yr Fq
    (nH j6 yr Db) (by simp only[maxLen];omega) gW.2 (aF _)
   exact⟨v',w',news,by rw[w7];exact hr,h2,h3,h5,j6,Db⟩
theorem wi{Θ:da}(bt:a8 C.P Θ){t:TypeId}{x y:Operand}{z cz e:Nat}{ag:Bool}{zt:Option (List CT)}{ei:fN}{zr:List CT}{i k:Nat}{uh:Bool}{sz:Nat}{xs ys:List (List CT)}{qs:PQ}{v:Value}
 (ho:o.op=.call {callee:=.builtin .append,args:=⟨[x,y]⟩,argTypes:=⟨[t,t]⟩})(ht:aP Θ t=some ⟨z,cz,ag,zt,.slice e⟩)(dO:aP Θ e=some ei)(hz:ei.zero=some zr)
 (cM:Nat.beq ei.size sz=true)(lx:Nat.blt 0 ei.size=true)(hx:aQ tm x=some (.c (.val v)))(hi:getM mm i=some (.bF e sz qs))(hk:qs[k]? =some (v,xs))(hy:aQ tm y=some (.c (.slice uh sz ys)))
 (iJ:Nat.blt i given=true)(gA:eD i mm=true)(hd:o.dst=some d)(hn:Nat.blt d n=true)
 (gW:xs.length+ys.length≤9223372036854775807∧(xs.length+ys.length) * ei.bytes≤140737488355328){a:Act}{w:World}(hh:Has C n tm mm a w):
 ∃v' w',(execOp a.eval o).run C.P w=.ok (.value v') w'∧Has C n ((d,.v (.one (.c (.val v'))))::bo (jF i tm) d) (cS mm i (.bF e sz (qs.set k (v',xs++ys)))) (a.put o.dst v') w':=by
 obtain⟨H,Z,hm⟩:=hh
 have Fg:ei.size=sz:=aJ cM
 subst Fg
 have hv:a.eval x=v:=aV.gH (aU hm hx)
 obtain⟨hH,c6⟩:=hm.mem _ (aT hi)
 have c6:eF w (cO C H mm) e ei.size qs:=c6
 obtain⟨us,dH,hlen,cC⟩:=c6.row hk
 obtain⟨v',w',news,hr,h2,h3,h5,um,uk⟩:=sv (xs:=xs) (ty:=o.type) bt ht dO hz (a6.mp lx) gW dH (aU hm hy:aV w (cO C H mm) (a.eval y) (.slice uh ei.size ys))
 have dL:(execOp a.eval o).run C.P w=.ok (.value v') w':=by
  unfold execOp
  simp only[ho,resolve,invoke,builtin,Sem.run_bind,Sem.run_pure,Result.andThen_ok,cF,bN,jd,hv,hr]
 have BJ:hblk v'=v'.ownBlock:=mU h2
 have XG:hblk v=v.ownBlock:=mU dH
 have uo:(v,xs)∈qs:=aj hk
 have LG:∀b,b < w.heap.size→hblk v≠some b→w'.heap[b]? =w.heap[b]? :=fun b hb cV=>h3.block b hb (fun e=>cV (by rw[XG,←e]))
 refine⟨v',w',dL,Sy.jV H i (gg (qs.set k (v',xs++ys))),Z,?_⟩
 rw[hd]
 refine hm.vb (Z:=Z) hi (a6.mp iJ) gA ⟨h3.os,h3.tape,h3.output,h3.size,fun b hb cV=>LG b hb (fun e=>cV ⟨_,uo,e⟩)⟩ (by simpa[Act.put]using hm.defers) (by simp[Act.put,hm.size]) ?_ ?_ ?_
 ·intro q hq b dS
  rcases dt hq with hq|rfl
  ·exact .inl ⟨q,hq,dS⟩
  ·rcases h5 with h5|h5
   ·exact .inl ⟨_,uo,by rw[XG,←h5,←BJ];exact dS⟩
   ·have La:hblk v'=some b:=dS
    refine .inr ⟨?_,?_⟩
    ·rw[BJ,h5]at La;injection La with La;omega
    ·rw[BJ]at La;exact(h2.lt b La).2
 ·intro M' iP gb
  refine c6.set hk ⟨us++news,by rw[au];exact h2,fun q hq=>?_,fun k q hk j ct hc=>?_⟩ h3.size LG gb iP (fun b hb=>?_)
  ·rcases aK.1 hq with hq|hq
   ·exact hlen q hq
   ·exact um q hq
  ·have qf:us.length=xs.length * ei.size:=dH.1
   rw[bX]at hk
   split at hk
   ·obtain⟨u,hu,hr⟩:=cC k q hk j ct hc
    refine⟨u,?_,aV.mono hr h3.size gb iP⟩
    rw[aw (ai.1 hu).1]
    exact hu
   ·rename_i j7
    obtain⟨u,hu,hr⟩:=uk _ q hk j ct hc
    refine⟨u,?_,aV.mono hr h3.size gb iP⟩
    have hle:xs.length * ei.size≤k * ei.size:=br _ (by omega)
    rw[aN (by rw[qf];omega),qf]
    rw[Nat.sub_mul]at hu
    rw[←hu];congr 1;omega
  ·rcases h5 with h5|h5
   ·exact .inl (by rw[XG,←h5,←BJ];exact hb)
   ·rw[BJ,h5]at hb;injection hb with hb;exact .inr (by omega)
 ·intro p hp
  rcases ae.1 hp with rfl|hp
  ·refine .inr ⟨v',iD (by rw[hm.size];exact a6.mp hn),?_,rfl⟩
   rcases h2.2 with⟨rfl,_⟩|⟨g,cap,cur,rfl,_⟩<;>rfl
  ·obtain⟨h1,sE⟩:=cj hp
   obtain⟨Sr,h4⟩:=ja h1
   exact .inl ⟨p,Sr,rfl,fV sE,h4⟩
def lL(v:Value)(k:Nat):Value:=
 match v with
 |.slice (some ad) _ _=>.pointer (some (ad.add k))
 |_=>.pointer none
theorem vi{t:TypeId}{x y:Operand}{i k:Nat}{qs:PQ}{v:Value}{sz:Nat}{xs:List (List CT)}{kd:IntKind}{m:Int}{j e e':Nat}{Θ:da}(bt:a8 C.P Θ)
 {z cz:Nat}{ag:Bool}{zr:Option (List CT)}{ei:fN}
 (ho:o.op=.indexAddr t x y)(ht:aP Θ t=some ⟨z,cz,ag,zr,.slice e⟩)(dO:aP Θ e=some ei)(cM:Nat.beq ei.size sz=true)
 (hx:aQ tm x=some (.c (.val v)))(hi:getM mm i=some (.bF e' sz qs))(hk:qs[k]? =some (v,xs))(hy:aQ tm y=some (.c (.int kd m)))(hm:m=(j:Int))(hj:j < xs.length)(hd:o.dst=some d)(hn:Nat.blt d n=true):
 ea C n o tm mm d (.v (.one (.c (.val (lL v (j * sz)))))):=
 ea.val hd hn _ fun H Z A w dh=>by
  have h2:A.eval y=.int kd m:=aV.cA (aU dh hy)
  have h1:A.eval x=v:=aV.gH (aU dh hx)
  obtain⟨hH,c6⟩:=dh.mem _ (aT hi)
  have c6:eF w (cO C H mm) e' sz qs:=c6
  obtain⟨us,dH,_⟩:=c6.row hk
  obtain⟨inf,de,hf⟩:=gI bt ht
  obtain⟨jK,qw,fK⟩:=gI bt dO
  have jL:de=.slice e:=by
   have:=hf.sh
   cases de<;>simp[dA]at this⊢
   exact this
  subst jL
  subst hm
  have Ff:ei.size=sz:=aJ cM
  rcases dH.2 with⟨_,h0⟩|⟨g,cap,cur,hv,_⟩
  ·omega
  ·subst hv
   refine⟨.pointer (some ((⟨g,0,none⟩:Addr).add (j * sz))),?_,aV.val _ J⟩
   have fg:((j:Nat):Int) < ((xs.length:Nat):Int):=by omega
   simp[execOp,ho,h1,h2,Instr.indexAt,asIntOf,hf.underlying,fK.sizeOf,Ff,jJ]
   intro cY;omega
theorem wh{Θ:da}(bt:a8 C.P Θ){t:TypeId}{ti:fN}{x:Operand}{i k j e sz:Nat}{qs:PQ}{v:Value}{xs:List (List CT)}{cs:List CT}{s:SV}
 (ho:o.op=.load t x)(ht:aP Θ t=some ti)(hx:aQ tm x=some (.c (.val (lL v (j * sz)))))(hi:getM mm i=some (.bF e sz qs))(hk:qs[k]? =some (v,xs))(hj:xs[j]? =some cs)
 (hs:Nat.beq ti.size sz=true)(hv:qd SC.c ti.agg cs=some s)(hd:o.dst=some d)(hn:Nat.blt d n=true):
 ea C n o tm mm d (.v s):=
 ea.val hd hn _ fun H Z a w hm=>by
  obtain⟨inf,de,hf⟩:=gI bt ht
  obtain⟨hH,c6⟩:=hm.mem _ (aT hi)
  have c6:eF w (cO C H mm) e sz qs:=c6
  obtain⟨us,g1,g3,g4⟩:=c6.row hk
  have C5:=aV.gH (aU hm hx)
  have bj:j < xs.length:=(ai.1 hj).1
  have sC:cs.length=sz:=g3 cs (aj hj)
  have To:ti.size=sz:=aJ hs
  rcases g1.2 with⟨_,h0⟩|⟨b,cap,cur,rfl,rest⟩
  ·omega
  simp only[lL,jJ,fq]at C5
  have dH:∀q u,us[q]? =some u→w.cell? ⟨b,q,none⟩=some u:=by
   intro q u hq
   have:=World.ownsRow.cells g1 (g:=b) J q u hq
   rwa [jJ,fq]at this
  have xc:∀m,m≤cs.length→∃vs:List Value,vs.length=m∧(∀(q:Nat) (u:Value),vs[q]? =some u→w.cell? ((⟨b,j * sz,none⟩:Addr).add q)=some u)∧
   Pw (fun u c=>aV w (cO C H mm) u c) vs (cs.take m):=by
   intro m
   induction m with
   |zero=>intro _;exact⟨[],rfl,fun q u hu=>by simp at hu,by simpa using Pw.nil⟩
   |succ m ih=>
    intro UD
    obtain⟨vs,k1,k2,k3⟩:=ih (by omega)
    obtain⟨u,hu,hr⟩:=g4 j cs hj m cs[m] (aa (by omega))
    refine⟨vs++[u],by simp[k1],fun q v hq=>?_,?_⟩
    ·rw[bX]at hq
     split at hq
     ·exact k2 q v hq
     ·rename_i Zu
      have OM:q - vs.length=0:=by
       rcases rp (q - vs.length)with h0|h0
       ·exact h0
       ·rw[bR (by simp;omega)]at hq;cases hq
      rw[OM]at hq
      simp at hq;subst hq
      have:q=m:=by omega
      subst this
      rw[jJ]
      exact dH _ _ hu
    ·rw[al (by omega)]
     exact k3.append (Pw.cons hr Pw.nil)
  obtain⟨vs,k1,k2,k3⟩:=xc cs.length (ay _)
  rw[bq]at k3
  obtain⟨v,hr,q1,q2⟩:=gR (w:=w) hf ⟨b,j * sz,none⟩ vs (by rw[k1,sC,To]) k2 (fun ha=>by
   rw[k1]
   rw[ha]at hv
   unfold qd at hv
   split at hv<;>first|(rename_i hh;cases hh;done)|rfl|(cases hv;done))
  refine⟨v,by simp[execOp,ho,C5,Instr.loadAt,Instr.sureAddr,hr],?_⟩
  exact rY (f:=SC.c) hv k3 q1 q2
end
end Go.Sy
