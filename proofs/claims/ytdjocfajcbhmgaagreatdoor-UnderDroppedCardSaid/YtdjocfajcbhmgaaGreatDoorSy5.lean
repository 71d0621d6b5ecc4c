/- The symbolic layer, bundle Sy5. -/
import Derived.Test.YtdjocfajcbhmgaaGreatDoorSy4
import Derived.Laws.OwnMore
set_option linter.unusedSimpArgs false
set_option linter.unusedVariables false
set_option linter.unusedSectionVars false
namespace Go.Sy
open Go.RowKit
section
variable {C:Ctx} {n:Nat} {tm:TM} {mm:MM} {o:Oper} {d:Nat}
theorem Mod.MH{H:Nat→Value}{Z:Nat→Nat}{a:Act}{w:World}(hm:Mod C H Z n tm mm a w)(j e sz:Nat)(hj:Nat.blt j given=true)(hf:jj mm j=false):
 Mod C (Sy.jV H j (.slice none 0 0)) (Sy.jV Z j sz) n tm ((j,.arr false e sz [])::mm) a w:=by
 have BH:=fF hf
 have cV:∀p∈mm,p.1≠j:=fun p hp e=>BH ⟨p,hp,e⟩
 have OF:∀k,cU mm k→k≠j:=fun k ⟨p,hp,e⟩ e'=>cV p hp (e.trans e')
 have hI:∀k,cU mm k→cU ((j,MO.arr false e sz [])::mm) k:=fun k ⟨p,hp,e⟩=>⟨p,ab _ hp,e⟩
 have Ed:j < given:=a6.mp hj
 refine hm.build (fun _=>False) (Ext.refl _ _) (fun _ _ h=>h.elim) hm.defers hm.size ?_ ?_ ?_ ?_ ?_
 ·intro p hp lN
  rcases ae.1 hp with rfl|hp
  ·simp only at lN;omega
  ·rw[bG _ _ (cV p hp)];exact hm.hg p hp lN
 ·intro p hp q hq he
  rcases ae.1 hp with rfl|hp<;>rcases ae.1 hq with rfl|hq
  ·rfl
  ·exact absurd he.symm (cV q hq)
  ·exact absurd he (cV p hp)
  ·exact hm.ids p hp q hq he
 ·intro p hp
  rcases ae.1 hp with rfl|hp
  ·refine .inr ⟨fun b hb=>by rw[bm]at hb;simp[Hb,hblk]at hb,fun _ _=>⟨bm _ _ _,[],?_,(fun h=>by cases h),(fun q hq=>by cases hq),fun k q hq=>by simp at hq⟩⟩
   rw[bm]
   exact World.ownsRow_nil w 0 e sz
  ·exact .inl ⟨hp,bG _ _ (cV p hp),bG _ _ (cV p hp),fun _ _ h=>h,fun k _ hk=>⟨hI k hk,bG _ _ (OF k hk),bG _ _ (OF k hk)⟩⟩
 ·intro p hp q hq kl b c9 dS
  rcases ae.1 hp with rfl|hp
  ·rw[bm]at c9;simp[Hb,hblk]at c9
  ·rcases ae.1 hq with rfl|hq
   ·rw[bm]at dS;simp[Hb,hblk]at dS
   ·rw[bG _ _ (cV p hp)]at c9
    rw[bG _ _ (cV q hq)]at dS
    exact hm.sep p hp q hq kl b c9 dS
 ·intro p hp
  exact .inl ⟨p,hp,rfl,rfl,fun k _ hk=>⟨hI k hk,bG _ _ (OF k hk),bG _ _ (OF k hk)⟩⟩
theorem Has.S8{a:Act}{w:World}(i c j e sz:Nat){cs:List SC}(hi:getM mm i=some (.box cs))(hc:s9 cs c=some (.c .bA))(hj:Nat.blt j given=true)(hf:jj mm j=false)(h:Has C n tm mm a w):
 Has C n tm (cS ((j,.arr false e sz [])::mm) i (.box (oB cs c (.own j)))) a w:=by
 obtain⟨H,Z,hm⟩:=h
 have h0:=hm.MH j e sz hj hf
 have km:i≠j:=fun e=>by subst e;exact fF hf ⟨_,aT hi,rfl⟩
 rw[pJ]at hc
 have GP:(i,MO.box cs)∈((j,MO.arr false e sz [])::mm):=ab _ (aT hi)
 obtain⟨b,ty,vs,h1,h2,h3,h4⟩:=h0.mem _ GP
 obtain⟨b',rk,lK,g1,g2,g3,g4⟩:=hm.mem _ (aT hi)
 have FG:H i=.pointer (some ⟨b,0,none⟩):=by
  have h1:Sy.jV H j (.slice none 0 0) i=_:=h1
  rwa [bG _ _ km]at h1
 have Sf:b'=b:=by
  have g1:H i=_:=g1
  rw[FG]at g1;injection g1 with g1;injection g1 with g1;injection g1 with g1;exact g1.symm
 subst Sf
 rw[h2]at g2
 injection g2 with g2;injection g2 with g2 g2'
 subst g2
 obtain⟨u,hu,ho,hr⟩:=g4 c _ hc
 have hv:=aV.jy hr
 have hI:∀q,cU ((j,MO.arr false e sz [])::mm) q→cU (cS ((j,.arr false e sz [])::mm) i (.box (oB cs c (.own j)))) q:=fun q hq=>(fT q).2 hq
 refine⟨_,_,h0.jV (b0:=b') ⟨_,GP,rfl⟩ (by show Hb (Sy.jV H j _ i) _;rw[bG _ _ km,FG];rfl) (Ext.refl _ _) hm.defers hm.size ?_ (fun q hq=>⟨hq,rfl⟩)⟩
 intro iP gb
 refine⟨b',ty,vs,h1,h2,by rw[jq];simpa using h3,fun j' x hx=>?_⟩
 rw[jq,cv]at hx
 split at hx
 ·rename_i A8
  subst A8
  split at hx
  ·injection hx with hx
   subst hx
   exact⟨u,hu,ho,hI _ ⟨_,ah,rfl⟩,by rw[bm];exact hv⟩
  ·cases hx
 ·obtain⟨u',mR,dv,gL⟩:=h4 j' x hx
  exact⟨u',mR,dv,gL.mono (fun q _ hq=>⟨hI q hq,rfl,rfl⟩) (ay _) (fun _ _ _=>rfl) iP⟩
end
section
variable {C:Ctx} {f:FuncId} {n:Nat} {R:Ending→World→Prop} {k:List Item} {tm:TM} {mm:MM}
theorem kv(i c j e sz:Nat){cs:List SC}(hi:getM mm i=some (.box cs))(hc:s9 cs c=some (.c .bA))(hj:Nat.blt j given=true)(hf:jj mm j=false)
 (g:Goes C f n R k tm (cS ((j,.arr false e sz [])::mm) i (.box (oB cs c (.own j))))):Goes C f n R k tm mm:=g.mono fun _ _ h=>h.S8 i c j e sz hi hc hj hf
end
section
variable {C:Ctx} {n:Nat} {tm:TM} {mm:MM} {o:Oper} {d:Nat}
theorem uE{Θ:da}(bt:a8 C.P Θ){t:TypeId}{x y:Operand}{z cz e:Nat}{ag:Bool}{zt:Option (List CT)}{ei:fN}{zr:List CT}{i:Nat}{nn uh:Bool}{sz:Nat}{xs ys:List (List CT)}
 (ho:o.op=.call {callee:=.builtin .append,args:=⟨[x,y]⟩,argTypes:=⟨[t,t]⟩})(ht:aP Θ t=some ⟨z,cz,ag,zt,.slice e⟩)(dO:aP Θ e=some ei)(hz:ei.zero=some zr)
 (cM:Nat.beq ei.size sz=true)(lx:Nat.blt 0 ei.size=true)(hi:getM mm i=some (.arr nn e sz xs))
 (gW:xs.length+ys.length≤9223372036854775807∧(xs.length+ys.length) * ei.bytes≤140737488355328)(iJ:Nat.blt i given=true)(gA:eD i mm=true)(hd:o.dst=some d)(hn:Nat.blt d n=true)
 {H:Nat→Value}{Z:Nat→Nat}{a:Act}{w:World}(hm:Mod C H Z n tm mm a w)(hv:a.eval x=H i){My:Nat→Prop}(hy:aV w My (a.eval y) (.slice uh sz ys))(Z2:∀q∈ys,∀ct∈q,∀v,aV w My v ct→aV w (cO C H mm) v ct):
 ∃v' w',(execOp a.eval o).run C.P w=.ok (.value v') w'∧Has C n ((d,.v (.one (.own i)))::bo (jF i tm) d) (cS mm i (.arr false e sz (xs++ys))) (a.put o.dst v') w':=by
 obtain⟨inf,de,hf⟩:=gI bt ht
 obtain⟨jK,qw,fK⟩:=gI bt dO
 obtain⟨zv,wV,qe,BD⟩:=fK.zero zr hz
 obtain⟨A3,_⟩:=e8 (w:=w) (M:=cO C H mm) qe
 have jL:de=.slice e:=by
  have:=hf.sh
  cases de<;>simp[dA]at this⊢
  exact this
 subst jL
 have Fg:ei.size=sz:=aJ cM
 subst Fg
 have oS:0 < ei.size:=a6.mp lx
 obtain⟨hZ,us,dH,_,hlen,cC⟩:=hm.mem _ (aT hi)
 have gf:∃v' w' news,(Builtin.append_ #[t,t] o.type #[H i,a.eval y]).run C.P w=.ok v' w'∧w'.ownsRow 0 e ei.size v' (xs.length+ys.length) (us++news)∧w.grownBy w' (H i).ownBlock∧
  (v'.ownBlock=(H i).ownBlock∨v'.ownBlock=some w.heap.size)∧(∀q∈ys,q.length=ei.size)∧
  (∀(k:Nat) (q:List CT),ys[k]? =some q→∀(j:Nat) (ct:CT),q[j]? =some ct→∃u,news[k * ei.size+j]? =some u∧aV w (cO C H mm) u ct):=by
  generalize Y7:a.eval y=vy at hy
  cases hy with
  |slice u w7 jC kL vn j6 rn Lj=>
   rename_i ad len cap
   by_cases Fb:ys=[]
   ·subst Fb
    simp only[lH]at w7
    subst w7
    refine⟨H i,w,[],?_,by simpa using dH,⟨rfl,rfl,rfl,ay _,fun _ _ _=>rfl⟩,.inl rfl,(fun q hq=>by cases hq),fun k q hq=>by simp at hq⟩
    rcases dH.2 with⟨h0,_⟩|⟨g,Mp,cur,h0,_,_,VP,_⟩
    ·rw[h0]
     cases ad<;>simp[Builtin.append_,run_underlying hf.Aj,sizeOf,typeInfo,fK.info,Builtin.lenOf,Builtin.firstCells,loadCells,loadCellsFrom]
    ·rw[h0]
     cases ad<;>simp[Builtin.append_,run_underlying hf.Aj,sizeOf,typeInfo,fK.info,Builtin.lenOf,Builtin.firstCells,VP,storeCells,loadCells,loadCellsFrom]
   ·obtain⟨Vo,rfl,yp,ur,ZT,sc⟩:=rn (fS.2 Fb)
    let news:List Value:=(List.range (ys.length * ei.size)).map fun m=>u (m / ei.size) (m % ei.size)
    have Dc:∀m,m < ys.length * ei.size→news[m]? =some (u (m / ei.size) (m % ei.size)):=fun m hm=>by simp[news,hm]
    have yr:news.length=ys.length * ei.size:=by simp[news]
    have UG:∀k j,j < ei.size→(k * ei.size+j) / ei.size=k∧(k * ei.size+j) % ei.size=j:=fun k j hj=>by
     constructor
     ·rw[x9,Nat.add_mul_div_right _ _ oS,Nat.div_eq_of_lt hj,fq]
     ·rw[x9,Nat.add_mul_mod_self_right,Nat.mod_eq_of_lt hj]
    have bj:∀k j,k < ys.length→j < ei.size→k * ei.size+j < ys.length * ei.size:=fun k j hk hj=>by
     have:=br ei.size (show k+1≤ys.length from hk)
     rw[ec]at this;omega
    have Db:∀(k:Nat) (q:List CT),ys[k]? =some q→∀(j:Nat) (ct:CT),q[j]? =some ct→∃v,news[k * ei.size+j]? =some v∧aV w (cO C H mm) v ct:=by
     intro k q hq j ct hc
     have hk:=(ai.1 hq).1
     have hj:j < ei.size:=by rw[←j6 q (aj hq)];exact(ai.1 hc).1
     refine⟨u k j,?_,Z2 q (aj hq) ct (aj hc) _ (Lj k q hq j ct hc)⟩
     rw[Dc _ (bj k j hk hj),(UG k j hj).1,(UG k j hj).2]
    have Fq:∀j v,news[j]? =some v→w.cell? (Vo.add j)=some v:=by
     intro j v hj
     have fg:j < ys.length * ei.size:=by rw[←yr];exact(ai.1 hj).1
     rw[Dc j fg]at hj
     injection hj with hj
     have hk:j / ei.size < ys.length:=by rw[Nat.div_lt_iff_lt_mul oS];exact fg
     have Iu:j % ei.size < ei.size:=Nat.mod_lt _ oS
     have h1:ys[j / ei.size]? =some ys[j / ei.size]:=aa hk
     have WD:=j6 _ (aj h1)
     have h2:(ys[j / ei.size])[j % ei.size]? =some ((ys[j / ei.size])[j % ei.size]'(by rw[WD];exact Iu)):=aa _
     have:=sc _ _ h1 _ _ h2
     rw[show j / ei.size * ei.size+j % ei.size=j by rw[Nat.mul_comm];exact Nat.div_add_mod j ei.size,hj]at this
     exact this
    obtain⟨v',w',hr,h2,h3,_,h5⟩:=run_append_own_at (P:=C.P) w 0 t o.type e jK zv ei.size ei.bytes hf.Aj fK.info wV fK.size fK.bytes (by rw[A3,BD]) oS (H i) xs.length us dH Vo ys.length cap news yr Fq
     (nH j6 yr Db) (by simp only[maxLen];omega) gW.2 (aF _)
    exact⟨v',w',news,by rw[w7];exact hr,h2,h3,h5,j6,Db⟩
 obtain⟨v',w',news,hr,h2,h3,h5,um,uk⟩:=gf
 have dL:(execOp a.eval o).run C.P w=.ok (.value v') w':=by
  unfold execOp
  simp only[ho,resolve,invoke,builtin,Sem.run_bind,Sem.run_pure,Result.andThen_ok,cF,bN,jd,hv,hr]
 have BJ:∀b,Hb v' b↔v'.ownBlock=some b:=fun b=>tQ h2 b
 have Sn:∀b,Hb (H i) b↔(H i).ownBlock=some b:=fun b=>tQ dH b
 have dy:Ext (fun b=>Hb (H i) b) w w':=⟨h3.os,h3.tape,h3.output,h3.size,fun k hk cV=>h3.block k hk (fun e=>cV ((Sn _).2 (by first|exact e|exact e.symm)))⟩
 have oh:∀b,Hb v' b→b < w'.heap.size:=by
  intro b hb
  rcases h2.2 with⟨rfl,_⟩|⟨g,cap,cur,rfl,_,hg,_⟩
  ·simp[Hb,hblk]at hb
  ·simp[Hb,hblk]at hb
   subst hb
   exact(bd.1 hg).1
 have W9:i < given:=a6.mp iJ
 have hI:∀j,cU mm j→cU (cS mm i (.arr false e ei.size (xs++ys))) j:=fun j hj=>(fT j).2 hj
 refine⟨v',w',dL,jV H i v',Z,?_⟩
 rw[hd]
 refine hm.build (fun b=>Hb (H i) b) dy (fun b _ hb=>⟨_,aT hi,hb⟩) (by simpa[Act.put]using hm.defers) (by simp[Act.put,hm.size]) ?_ ?_ ?_ ?_ ?_
 ·intro p hp lN
  have yq:p.1≠i:=by omega
  rw[bG _ _ yq]
  rcases cW p hp with⟨rfl,_⟩|⟨k1,_⟩
  ·exact absurd J yq
  ·exact hm.hg p k1 lN
 ·intro p hp q hq he
  rcases cW p hp with⟨rfl,_⟩|⟨k1,k2⟩<;>rcases cW q hq with⟨rfl,_⟩|⟨D8,AY⟩
  ·rfl
  ·exact absurd he.symm AY
  ·exact absurd he k2
  ·exact hm.ids p k1 q D8 he
 ·intro p hp
  rcases cW p hp with⟨rfl,_⟩|⟨k1,k2⟩
  ·refine .inr ⟨fun b hb=>?_,fun iP gb=>?_⟩
   ·rw[bm]at hb
    rcases h5 with h5|h5
    ·exact .inr ⟨_,aT hi,(Sn b).2 (by rw[←h5];exact(BJ b).1 hb),.inl rfl⟩
    ·refine .inl ⟨?_,oh b hb⟩
     replace hb:=(BJ b).1 hb;rw[h5]at hb;injection hb with hb;omega
   ·refine⟨hZ,us++news,by rw[bm,au];exact h2,(fun h=>by cases h),fun q hq=>?_,fun k q hk j ct hc=>?_⟩
    ·rcases aK.1 hq with hq|hq
     ·exact hlen q hq
     ·exact um q hq
    ·have qf:us.length=xs.length * ei.size:=dH.1
     rw[bX]at hk
     split at hk
     ·rename_i j7
      obtain⟨u,hu,hr⟩:=cC k q hk j ct hc
      refine⟨u,?_,aV.mono hr h3.size gb iP⟩
      rw[aw (ai.1 hu).1]
      exact hu
     ·rename_i j7
      obtain⟨u,hu,hr⟩:=uk _ q hk j ct hc
      refine⟨u,?_,aV.mono hr h3.size gb iP⟩
      have hle:xs.length * ei.size≤k * ei.size:=br _ (by omega)
      rw[aN (by rw[qf];omega),qf]
      rw[Nat.sub_mul]at hu
      rw[←hu];congr 1;omega
  ·refine .inl ⟨k1,bG _ _ k2,rfl,fun b hb hx=>?_,fun j hj km=>⟨hI j km,bG _ _ (fun e=>?_),rfl⟩⟩
   ·exact hm.sep p k1 _ (aT hi) k2 b hb hx
   ·subst e;exact fD gA k1 hj
 ·intro p hp q hq kl b c9 dS
  have key:∀p∈mm,p.1≠i→Hb (H p.1) b→Hb v' b→False:=by
   intro p hp yq h1 h2
   rcases h5 with h5|h5
   ·exact hm.sep p hp _ (aT hi) yq b h1 ((Sn b).2 (by rw[←h5];exact(BJ b).1 h2))
   ·replace h2:=(BJ b).1 h2;rw[h5]at h2
    injection h2 with h2
    have:=(hm.fresh p hp b h1).2
    omega
  rcases cW p hp with⟨rfl,_⟩|⟨k1,k2⟩<;>rcases cW q hq with⟨rfl,_⟩|⟨D8,AY⟩
  ·exact kl J
  ·rw[bm]at c9;rw[bG _ _ AY]at dS
   exact key q D8 AY dS c9
  ·rw[bm]at dS;rw[bG _ _ k2]at c9
   exact key p k1 k2 c9 dS
  ·rw[bG _ _ k2]at c9;rw[bG _ _ AY]at dS
   exact hm.sep p k1 q D8 kl b c9 dS
 ·intro p hp
  rcases ae.1 hp with rfl|hp
  ·refine .inr fun _ _=>?_
   rw[iD (by rw[hm.size];exact a6.mp hn)]
   exact⟨hI i ⟨_,aT hi,rfl⟩,(bm _ _ _).symm⟩
  ·obtain⟨h1,sE⟩:=cj hp
   obtain⟨Sr,h4⟩:=ja h1
   exact .inl ⟨p,Sr,rfl,fV sE,fun j hj km=>⟨hI j km,bG _ _ (fun e=>h4 (e▸hj)),rfl⟩⟩
theorem EU{Θ:da}(bt:a8 C.P Θ){t:TypeId}{x y:Operand}{z cz e:Nat}{ag:Bool}{zt:Option (List CT)}{ei:fN}{zr:List CT}{i:Nat}{nn uh:Bool}{sz:Nat}{xs ys:List (List CT)}
 (ho:o.op=.call {callee:=.builtin .append,args:=⟨[x,y]⟩,argTypes:=⟨[t,t]⟩})(ht:aP Θ t=some ⟨z,cz,ag,zt,.slice e⟩)(dO:aP Θ e=some ei)(hz:ei.zero=some zr)
 (cM:Nat.beq ei.size sz=true)(lx:Nat.blt 0 ei.size=true)(hx:aQ tm x=some (.own i))(hi:getM mm i=some (.arr nn e sz xs))(hy:aQ tm y=some (.c (.slice uh sz ys)))
 (iJ:Nat.blt i given=true)(gA:eD i mm=true)(hd:o.dst=some d)(hn:Nat.blt d n=true)
 (gW:xs.length+ys.length≤9223372036854775807∧(xs.length+ys.length) * ei.bytes≤140737488355328):
 xX C n o tm mm ((d,.v (.one (.own i)))::bo (jF i tm) d) (cS mm i (.arr false e sz (xs++ys))):=by
 intro a w ⟨H,Z,hm⟩
 obtain⟨v',w',h1,h2⟩:=uE bt ho ht dO hz cM lx hi gW iJ gA hd hn hm (aU hm hx).2 (aU hm hy) (fun _ _ _ _ _ h=>h)
 exact .inl ⟨v',w',h1,h2⟩
theorem wo{Θ:da}(bt:a8 C.P Θ){t:TypeId}{x y:Operand}{z cz e:Nat}{ag:Bool}{zt:Option (List CT)}{ei:fN}{zr:List CT}(i:Nat){uh:Bool}{sz:Nat}{ys:List (List CT)}
 (ho:o.op=.call {callee:=.builtin .append,args:=⟨[x,y]⟩,argTypes:=⟨[t,t]⟩})(ht:aP Θ t=some ⟨z,cz,ag,zt,.slice e⟩)(dO:aP Θ e=some ei)(hz:ei.zero=some zr)
 (cM:Nat.beq ei.size sz=true)(lx:Nat.blt 0 ei.size=true)(hx:aQ tm x=some (.c .bA))(hy:aQ tm y=some (.c (.slice uh sz ys)))
 (iJ:Nat.blt i given=true)(hf:jj mm i=false)(gA:eD i ((i,.arr false e sz [])::mm)=true)(hd:o.dst=some d)(hn:Nat.blt d n=true)
 (gW:ys.length≤9223372036854775807∧ys.length * ei.bytes≤140737488355328):
 xX C n o tm mm ((d,.v (.one (.own i)))::bo (jF i tm) d) ((i,.arr false e sz ys)::mm):=by
 intro a w ⟨H,Z,hm⟩
 have h0:=hm.MH i e sz iJ hf
 have w5:a.eval x=Sy.jV H i (.slice none 0 0) i:=by rw[bm];exact aV.jy (aU hm hx)
 have YW:aV w (cO C (Sy.jV H i (.slice none 0 0)) ((i,.arr false e sz [])::mm)) (a.eval y) (.slice uh sz ys):=aU h0 hy
 obtain⟨v',w',h1,h2⟩:=uE bt ho ht dO hz cM lx (nn:=false) (xs:=[]) (by simp[getM]) (by simpa using gW) iJ gA hd hn h0 w5 YW (fun _ _ _ _ _ h=>h)
 refine .inl ⟨v',w',h1,?_⟩
 have BH:∀l:MM,jj l i=false→cS l i (.arr false e sz ys)=l:=by
  intro l
  induction l with
  |nil=>intro _;rfl
  |cons p l ih=>
   obtain⟨q,o'⟩:=p
   intro h
   have cV:Nat.beq q i=false:=by
    cases hb:Nat.beq q i with
    |false=>rfl
    |true=>simp[jj,getM,hb]at h
   simp only[jj,getM,cV]at h
   simp only[cS,cV]
   rw[ih (by simpa[jj]using h)]
 have:cS ((i,.arr false e sz [])::mm) i (.arr false e sz ([]++ys))=(i,.arr false e sz ys)::mm:=by
  simp only[gN]
  have:Nat.beq i i=true:=Nat.beq_refl i
  simp only[cS,this]
  first|rfl|rw[BH mm hf]
 rw[←this]
 exact h2
end
end Go.Sy
namespace Go.Sy
open Go.RowKit
section
variable {C:Ctx} {n:Nat} {D7:TM} {mm:MM} {o:Oper} {d:Nat}
theorem Ko{Θ:da}(bt:a8 C.P Θ){t:TypeId}{z cz e len:Nat}{ag:Bool}{zt:Option (List CT)}{ei:fN}{zr:List CT}{parts:Array (Nat×Operand)}{r:List SC}{cts:List CT}{xs:List (List CT)}{ct:CT}
 (ho:o.op=.buildSlice t len parts)(ht:aP Θ t=some ⟨z,cz,ag,zt,.slice e⟩)(dO:aP Θ e=some ei)(hz:ei.zero=some zr)
 (hb:Nat.ble (len * ei.size) 16777216=true)(lx:Nat.blt 0 ei.size=true)
 (hl:nL (fun i=>some (i * ei.size,ei.size)) D7 (tN (len * ei.size)) parts.toList=some r)(hc:iG r=some cts)(hx:mx ei.size len cts=some xs)
 (hle:yB (.slice true ei.size xs) ct)(hd:o.dst=some d)(hn:Nat.blt d n=true):
 M8 C n mm o D7 d (.v (.one (.c ct))):=by
 refine⟨⟨hd,hn⟩,fun tm' hs=>xX.wp ?_⟩
 intro a w ⟨H,Z,Iv⟩
 have hm:=Iv.sub hs
 obtain⟨inf,de,hf⟩:=gI bt ht
 obtain⟨jK,qw,fK⟩:=gI bt dO
 obtain⟨zv,wV,qe,BD⟩:=fK.zero zr hz
 obtain⟨h1,h2⟩:=e8 (w:=w) (M:=cO C H mm) qe
 have jL:de=.slice e:=by
  have:=hf.sh
  cases de<;>simp[dA]at this⊢
  exact this
 subst jL
 have Fz:len * ei.size≤16777216:=gw.mp hb
 have oS:0 < ei.size:=a6.mp lx
 have RG:zv.cells.size=ei.size:=by rw[h1,BD]
 let init:Array Value:=(Array.range (len * ei.size)).map ((if len * ei.size=0 then#[]else zv.cells)[·% (if len * ei.size=0 then#[]else zv.cells).size]!)
 have hp:Pw (fun u c=>u.oneCell'=true∧bS (cU mm) H Z w (cO C H mm) u c) init.toList (tN (len * ei.size)):=by
  rw[By]
  refine⟨by simp[init],fun j c hc=>?_⟩
  have hj:j < len * ei.size:=by
   have:=(ai.1 hc).1
   simpa using this
  rw[iy,if_pos hj]at hc
  injection hc with hc;subst hc
  have cV:len * ei.size≠0:=by omega
  refine⟨zv.cells[j % zv.cells.size]!,by simp[init,hj,cV],?_,trivial⟩
  have bj:j % zv.cells.size < zv.cells.size:=Nat.mod_lt _ (by rw[RG];exact oS)
  have Lw:j % zv.cells.size < zr.length:=by rw[←h1];exact bj
  obtain⟨u,hu,hr⟩:=h2 (j % zv.cells.size) zr[j % zv.cells.size] (aa Lw)
  rw[getElem!_def,hu]
  exact hr.one
 obtain⟨lK,g1,g2⟩:=j5 hm _ parts.toList _ _ r hp hl
 have g3:Pw (fun u c=>aV w (cO C H mm) u c) lK.toList cts:=iF hc (g2.mono fun _ _ _ h=>h.2)
 obtain⟨c1,c2,c3,c4⟩:=pb _ hx
 have Uh:lK.size=len * ei.size:=by have:=g3.1;rw[c3]at this;simpa using this
 have dL:(execOp a.eval o).run C.P w=.ok (.value (.slice (some ⟨w.heap.size,0,none⟩) len len)) (w.alloc (.cells lK e)):=by
  have iX:Instr.fill (fun i=>some (i * ei.size,ei.size)) init (parts.map fun(i,x)=>(i,a.eval x)).toList=some lK:=by
   rw[←g1,kG]
  simp only[execOp,ho,Instr.buildSlice,Sem.run_bind,hf.underlying,Result.andThen_ok,fK.sizeOf]
  rw[if_neg (by omega)]
  simp only[init]at iX
  by_cases h0:len * ei.size=0
  ·rw[if_pos h0]at iX
   rw[if_pos h0]
   simp only[Sem.run_bind,Sem.run_pure,Result.andThen_ok,iX]
   simp[newRow,newObj,Sem.run]
  ·rw[if_neg h0]at iX
   rw[if_neg h0]
   simp only[Sem.run_bind,Sem.run_pure,Result.andThen_ok,fK.zeroValue wV,iX]
   simp[newRow,newObj,Sem.run]
 have hlen:len≤maxLen:=by
  have:len≤len * ei.size:=Nat.le_mul_of_pos_right _ oS
  simp only[maxLen];omega
 have Sl:∀b,cO C H mm b→b < w.heap.size:=by
  rintro b (hb|⟨p,hp,c9⟩)
  ·exact ca (hm.m0 b hb) hm.ext.size
  ·exact(hm.fresh p hp b c9).2
 have j6:(w.alloc (.cells lK e)).heap.size=w.heap.size+1:=by show(w.heap.push _).size=_;rw[jl]
 have cC:aV (w.alloc (.cells lK e)) (cO C H mm) (.slice (some ⟨w.heap.size,0,none⟩) len len) (.slice true ei.size xs):=by
  refine .slice (fun k j=>(lK.toList[k * ei.size+j]?).getD undef) c1.symm (ay _) hlen (fun _=>rfl) c2 (fun _=>⟨_,rfl,rfl,by rw[j6];exact Nat.lt_succ_self _,fun hM=>absurd (Sl _ hM) (Nat.lt_irrefl _),fun k x hk j c hc=>?_⟩) (fun k x hk j c hc=>?_)
  ·obtain⟨u,hu,_⟩:=g3.2 _ c (c4 k x hk j c hc)
   rw[hu]
   exact World.ownsRow.cells (World.ownsRow_lit (base:=0) (e:=e) (size:=ei.size) w lK len (aF _) hlen Uh) J _ _ hu
  ·obtain⟨u,hu,cC⟩:=g3.2 _ c (c4 k x hk j c hc)
   rw[hu]
   exact cC.mono (ft w _).size (fun b hb _=>(ft w (.cells lK e)).block b hb (fun h=>h)) (fun _ _ h=>h)
 refine .inl ⟨_,_,dL,H,Z,?_⟩
 rw[hd]
 refine Iv.build (fun _=>False) (ft w _) (fun _ _ h=>h.elim) (by simpa[Act.put]using hm.defers) (by simp[Act.put,hm.size]) hm.hg hm.ids
  (fun p hp=>.inl ⟨hp,rfl,rfl,fun _ _ h=>h,fun _ _ hj=>⟨hj,rfl,rfl⟩⟩) hm.sep (fun p hp=>?_)
 rcases ae.1 hp with rfl|hp
 ·refine .inr fun _ _=>?_
  rw[iD (by rw[hm.size];exact a6.mp hn)]
  exact hle.rep cC
 ·obtain⟨h1,sE⟩:=cj hp
  exact .inl ⟨p,h1,rfl,fV sE,fun _ _ hj=>⟨hj,rfl,rfl⟩⟩
end
section
variable {C:Ctx} {n:Nat} {eS:MM} {L l:List Oper} {cq tm:TM} {R:List Rec} {i:Nat} {o:Oper} {d t:Nat} {T:TM→MM→Prop} {x y:Operand} {ty rk:TypeId} {mm:MM}
theorem k8{Θ:da}(bt:a8 C.P Θ){t:TypeId}{x y:Operand}{z cz e:Nat}{ag:Bool}{zt:Option (List CT)}{ei:fN}{zr:List CT}{i:Nat}{nn uh:Bool}{sz:Nat}{xs ys:List (List CT)}{T:TM→MM→Prop}
 (ho:o.op=.call {callee:=.builtin .append,args:=⟨[x,y]⟩,argTypes:=⟨[t,t]⟩})(ht:aP Θ t=some ⟨z,cz,ag,zt,.slice e⟩)(dO:aP Θ e=some ei)(hz:ei.zero=some zr)
 (cM:Nat.beq ei.size sz=true)(lx:Nat.blt 0 ei.size=true)(hx:aQ tm x=some (.own i))(hi:getM mm i=some (.arr nn e sz xs))(hy:aQ tm y=some (.c (.slice uh sz ys)))
 (iJ:Nat.blt i given=true)(gA:eD i mm=true)(hd:o.dst=some d)(hn:Nat.blt d n=true)(hg:aY L tm o=some true)
 (gW:xs.length+ys.length≤9223372036854775807∧(xs.length+ys.length) * ei.bytes≤140737488355328)
 (g:SOps C n L.toArray l ((d,.v (.one (.own i)))::bo (jF i tm) d) (cS mm i (.arr false e sz (xs++ys))) T):SOps C n L.toArray (o::l) tm mm T:=
 cB (EU bt ho ht dO hz cM lx hx hi hy iJ gA hd hn gW).wp hg g
theorem sS{Θ:da}(bt:a8 C.P Θ){t:TypeId}{x y:Operand}{z cz e:Nat}{ag:Bool}{zt:Option (List CT)}{ei:fN}{zr:List CT}(i:Nat){uh:Bool}{sz:Nat}{ys:List (List CT)}{T:TM→MM→Prop}
 (ho:o.op=.call {callee:=.builtin .append,args:=⟨[x,y]⟩,argTypes:=⟨[t,t]⟩})(ht:aP Θ t=some ⟨z,cz,ag,zt,.slice e⟩)(dO:aP Θ e=some ei)(hz:ei.zero=some zr)
 (cM:Nat.beq ei.size sz=true)(lx:Nat.blt 0 ei.size=true)(hx:aQ tm x=some (.c .bA))(hy:aQ tm y=some (.c (.slice uh sz ys)))
 (iJ:Nat.blt i given=true)(hf:jj mm i=false)(gA:eD i ((i,.arr false e sz [])::mm)=true)(hd:o.dst=some d)(hn:Nat.blt d n=true)(hg:aY L tm o=some true)
 (gW:ys.length≤9223372036854775807∧ys.length * ei.bytes≤140737488355328)
 (g:SOps C n L.toArray l ((d,.v (.one (.own i)))::bo (jF i tm) d) ((i,.arr false e sz ys)::mm) T):SOps C n L.toArray (o::l) tm mm T:=
 cB (wo bt i ho ht dO hz cM lx hx hy iJ hf gA hd hn gW).wp hg g
theorem gP{T:TM→MM→Prop}(ho:o.op=.assign x)(hd:o.dst=some d)(hn:Nat.blt d n=true)(hg:aY L tm o=some true)
 (k:SOps C n L.toArray l ((d,.v (.one .any))::bo tm d) mm T):SOps C n L.toArray (o::l) tm mm T:=
 cB (ea.wp (ea.val hd hn (.v (.one .any)) fun H Z a w hm=>⟨a.eval x,by simp[execOp,ho,Sem.run_pure],trivial⟩)) hg k
theorem Gi{g:FuncId}{args:List SV}{cs:List CT}{T:TM→MM→Prop}(hc:P2 C.P g args cs){xs:Array Operand}{ts:Array TypeId}
 (ho:o.op=.call {callee:=.value (.func g),args:=xs,argTypes:=ts})(cE:dr tm xs.toList=some args)(kI:kq [] args=some args)
 (hi:getM mm d=none)(hd:o.dst=some d)(hn:Nat.blt d n=true)(hg:aY L tm o=some true)
 (k:SOps C n L.toArray l ((d,.v (.one (.ptr d 0)))::bo tm d) ((d,.box (cs.map SC.c))::mm) T):SOps C n L.toArray (o::l) tm mm T:=
 cB (Kr hc ho cE kI hi hd hn) hg k
end
def XU(Q:ST→Prop)(H:Nat→Value)(Z:Nat→Nat)(pre post:List (List CT))(w:World)(M0:Nat→Prop)(e:Ending)(w':World):Prop:=
 ∃res,Q res∧MT H Z pre post w M0 res e w'
structure I6(P:Program)(f:FuncId)(pre:List (List CT))(args:List SV)(Q:ST→Prop)(post:List (List CT)):Prop where
 ok:lG P f
 calls:∀(w:World) (M0:Nat→Prop) (H:Nat→Value) (Z:Nat→Nat) (vs:List Value),vB w M0 H Z (bY given pre)→
  Pw (fun v s=>cu (cU (bY given pre)) H Z w (fun b=>M0 b∨bT H (bY given pre) b) v s) vs args→
  Calls P f vs.toArray w (XU Q H Z pre post w M0)
section
variable {C:Ctx} {n:Nat} {tm:TM} {mm:MM} {L l:List Oper} {T:TM→MM→Prop} {o:Oper} {d:Nat}
end
end Go.Sy
namespace Go.Sy
open Go.RowKit
section
variable {C:Ctx} {n:Nat} {tm:TM} {mm:MM} {L l:List Oper} {T:TM→MM→Prop} {o:Oper} {d:Nat} {f:FuncId} {R:Ending→World→Prop} {k:List Item}
theorem Has.XT{i j:Nat}{cs:List SC}(hi:getM mm i=some (.box cs)){a:Act}{w:World}(h:Has C n tm mm a w):
 Has C n tm (cS mm i (.box (oB cs j .any))) a w:=by
 obtain⟨H,Z,hm⟩:=h
 obtain⟨b,ty,vs,h1,h2,h3,h4⟩:=hm.mem _ (aT hi)
 have hI:∀q,cU mm q→cU (cS mm i (.box (oB cs j .any))) q:=fun q hq=>(fT q).2 hq
 refine⟨H,Z,hm.jV (b0:=b) ⟨_,aT hi,rfl⟩ (by rw[show H i=_ from h1];rfl) (Ext.refl _ _) hm.defers hm.size ?_ (fun q hq=>⟨hq,rfl⟩)⟩
 intro iP gb
 refine⟨b,ty,vs,h1,h2,by rw[jq];simpa using h3,fun j' c hc=>?_⟩
 rw[jq,cv]at hc
 split at hc
 ·rename_i A8
  subst A8
  split at hc
  ·rename_i bj
   injection hc with hc
   subst hc
   obtain⟨u,hu,ho,_⟩:=h4 j _ (aa bj)
   exact⟨u,hu,ho,trivial⟩
  ·cases hc
 ·obtain⟨u',mR,dv,gL⟩:=h4 j' c hc
  exact⟨u',mR,dv,gL.mono (fun q _ hq=>⟨hI q hq,rfl,rfl⟩) (ay _) (fun _ _ _=>rfl) iP⟩
theorem nB(i j:Nat){cs:List SC}(hi:getM mm i=some (.box cs))(g:SOps C n L.toArray l tm (cS mm i (.box (oB cs j .any))) T):SOps C n L.toArray l tm mm T:=
 g.mono fun _ _ h=>h.XT hi
end
end Go.Sy
namespace Go.Sy
open Go.RowKit
theorem er.le{P:Program}{f:FuncId}{pre post:List (List CT)}{args:List SV}{res res':ST}(h:er P f pre args res post)(hl:BL res res'):er P f pre args res' post:=
 ⟨h.ok,fun w M0 H Z vs hp hv=>(h.calls w M0 H Z vs hp hv).mono fun _ _ ⟨v,h1,h2,h3,h4⟩=>⟨v,h1,h2,h3,hl.rep h4⟩⟩
theorem yA.Bi:∀{x y:List CT},yA x y→x.length=y.length∧∀(j:Nat) (c d:CT),x[j]? =some c→y[j]? =some d→yB c d
 |_,_,.nil=>⟨rfl,fun j c d h _=>by simp at h⟩
 |_,_,.cons h k=>by
  obtain⟨k1,k2⟩:=k.Bi
  refine⟨by simp[k1],fun j c d hc hd=>?_⟩
  cases j with
  |zero=>simp at hc hd;subst hc hd;exact h
  |succ j=>exact k2 j c d (by simpa using hc) (by simpa using hd)
theorem D2.Bi:∀{xs ys:List (List CT)},D2 xs ys→xs.length=ys.length∧∀(i:Nat) (x y:List CT),xs[i]? =some x→ys[i]? =some y→x.length=y.length∧∀(j:Nat) (c d:CT),x[j]? =some c→y[j]? =some d→yB c d
 |_,_,.refl l=>⟨rfl,fun i x y hx hy=>by
   rw[hx]at hy;injection hy with hy;subst hy
   exact⟨rfl,fun j c d hc hd=>by rw[hc]at hd;injection hd with hd;subst hd;exact .refl _⟩⟩
 |_,_,.nil=>⟨rfl,fun i x y h _=>by simp at h⟩
 |_,_,.cons h k=>by
  obtain⟨k1,k2⟩:=k.Bi
  refine⟨by simp[k1],fun i x y hx hy=>?_⟩
  cases i with
  |zero=>simp at hx hy;subst hx hy;exact h.Bi
  |succ i=>exact k2 i x y (by simpa using hx) (by simpa using hy)
 |_,_,.append (a:=a) (b:=b) h k=>by
  obtain⟨h1,h2⟩:=h.Bi
  obtain⟨k1,k2⟩:=k.Bi
  refine⟨by simp[h1,k1],fun i x y hx hy=>?_⟩
  by_cases hi:i < a.length
  ·rw[aw hi]at hx
   rw[aw (by omega)]at hy
   exact h2 i x y hx hy
  ·rw[aN (by omega)]at hx
   rw[aN (by omega)]at hy
   rw[←h1]at hy
   exact k2 _ x y hx hy
theorem GF{nn:Bool}{sz:Nat}{xs ys:List (List CT)}(h:D2 xs ys):yB (.slice nn sz xs) (.slice nn sz ys):=
 .deep h.Bi.1 (fun i x y hx hy=>(h.Bi.2 i x y hx hy).1) (fun i j x y c d hx hy hc hd=>(h.Bi.2 i x y hx hy).2 j c d hc hd)
section
variable {C:Ctx} {n:Nat} {tm:TM} {mm:MM} {L l:List Oper} {T:TM→MM→Prop} {o:Oper} {d:Nat} {f:FuncId} {R:Ending→World→Prop} {k:List Item}
theorem Has.YQ{i j:Nat}{cs:List SC}{x y:CT}(hi:getM mm i=some (.box cs))(hj:s9 cs j=some (.c x))(hle:yB x y){a:Act}{w:World}(h:Has C n tm mm a w):
 Has C n tm (cS mm i (.box (oB cs j (.c y)))) a w:=by
 obtain⟨H,Z,hm⟩:=h
 rw[pJ]at hj
 obtain⟨b,ty,vs,h1,h2,h3,h4⟩:=hm.mem _ (aT hi)
 obtain⟨u,hu,ho,hr⟩:=h4 j _ hj
 have hI:∀q,cU mm q→cU (cS mm i (.box (oB cs j (.c y)))) q:=fun q hq=>(fT q).2 hq
 have fg:=(ai.1 hj).1
 refine⟨H,Z,hm.jV (b0:=b) ⟨_,aT hi,rfl⟩ (by rw[show H i=_ from h1];rfl) (Ext.refl _ _) hm.defers hm.size ?_ (fun q hq=>⟨hq,rfl⟩)⟩
 intro iP gb
 refine⟨b,ty,vs,h1,h2,by rw[jq];simpa using h3,fun j' c hc=>?_⟩
 rw[jq,cv]at hc
 split at hc
 ·rename_i A8
  subst A8
  injection hc with hc
  subst hc
  exact⟨u,hu,ho,aV.mono (hle.rep hr) (ay _) (fun _ _ _=>rfl) iP⟩
 ·obtain⟨u',mR,dv,gL⟩:=h4 j' c hc
  exact⟨u',mR,dv,gL.mono (fun q _ hq=>⟨hI q hq,rfl,rfl⟩) (ay _) (fun _ _ _=>rfl) iP⟩
end
end Go.Sy
namespace Go.Sy
open Go.RowKit
section
variable {C:Ctx} {n:Nat} {tm:TM} {mm:MM} {L l:List Oper} {T:TM→MM→Prop} {o:Oper} {d:Nat}
theorem NY{p:BinOp}{t t' e':Nat}{x y:Operand}{a b a' b':Int}{Θ:da}(bt:a8 C.P Θ){zk bk be:Nat}{nt:Bool}{mF QQ:Option (List CT)}
 (ho:o.op=.binOp p t x y t')(hk:aP Θ t=some ⟨zk,bk,nt,mF,.arr 2 e'⟩)(he:aP Θ e'=some ⟨1,be,false,QQ,.int .i64⟩)(hq:C.P.eqGuardType C.P.depth t=false)
 (hp:p=.eql∨p=.neq)(hx:cx tm x=some (.agg [.c (.int .i64 a),.c (.int .i64 b)]))(hy:cx tm y=some (.agg [.c (.int .i64 a'),.c (.int .i64 b')]))(hd:o.dst=some d)(hn:Nat.blt d n=true):
 ea C n o tm mm d (.v (.one (.c (.bool (match p with|.eql=>decide ((a,b)=(a',b'))|_=>!decide ((a,b)=(a',b'))))))):=
 ea.val hd hn _ fun H Z A w hm=>by
  have h1:A.eval x=l3 (a,b):=pD _ _ _ _ _ _ (c8 hm hx)
  have h2:A.eval y=l3 (a',b'):=pD _ _ _ _ _ _ (c8 hm hy)
  obtain⟨inf,de,hf⟩:=gI bt hk
  obtain⟨jK,qw,fK⟩:=gI bt he
  have e1:de=.array 2 e':=by
   have:=hf.sh
   cases de<;>simp[dA]at this⊢
   exact this
  have e2:qw=.int .i64:=by
   have:=fK.sh
   cases qw<;>simp[dA]at this⊢
   exact this
  subst e1 e2
  have heq:=oF (w:=w) hf fK J J a b a' b'
  refine⟨.bool (match p with|.eql=>decide ((a,b)=(a',b'))|_=>!decide ((a,b)=(a',b'))),?_,.bool _⟩
  rcases hp with rfl|rfl
  ·simp only[execOp,ho,h1,h2,Sem.run_bind,l3,run_eqGuard_agg w _ _ _ _ _ _ hq,Result.andThen_ok]
   simp only[binOp,Sem.run_bind,heq,Result.andThen_ok,Sem.run_pure]
  ·simp only[execOp,ho,h1,h2,Sem.run_bind,l3,run_eqGuard_agg w _ _ _ _ _ _ hq,Result.andThen_ok]
   simp only[binOp,Sem.run_bind,heq,Result.andThen_ok,Sem.run_pure]
theorem QY{p:BinOp}{t t' e':Nat}{x y:Operand}{a b a' b':Int}{Θ:da}(bt:a8 C.P Θ){zk bk be:Nat}{nt:Bool}{mF QQ:Option (List CT)}
 (ho:o.op=.binOp p t x y t')(hk:aP Θ t=some ⟨zk,bk,nt,mF,.arr 2 e'⟩)(he:aP Θ e'=some ⟨1,be,false,QQ,.int .i64⟩)(hq:C.P.eqGuardType C.P.depth t=false)
 (hp:p=.eql∨p=.neq)(hx:cx tm x=some (.agg [.c (.int .i64 a),.c (.int .i64 b)]))(hy:cx tm y=some (.agg [.c (.int .i64 a'),.c (.int .i64 b')]))(hd:o.dst=some d)(hn:Nat.blt d n=true)
 (hg:aY L tm o=some true)(k:SOps C n L.toArray l ((d,.v (.one (.c (.bool (match p with|.eql=>decide ((a,b)=(a',b'))|_=>!decide ((a,b)=(a',b')))))))::bo tm d) mm T):SOps C n L.toArray (o::l) tm mm T:=
 cB (NY bt ho hk he hq hp hx hy hd hn).wp hg k
end
end Go.Sy
namespace Go.Sy
open Go.RowKit
theorem Dp{i:Nat}:∀{l:List Nat},tn l i=true→i∈l
 |[],h=>by simp[tn]at h
 |j::r,h=>by
  unfold tn at h
  cases hb:Nat.beq j i with
  |true=>rw[aJ hb];exact ah
  |false=>rw[hb]at h;exact ab _ (Dp h)
theorem SC.nA{i:Nat}{r s:SC}(h:i∉s.bw):s.sub i r=s:=by
 cases s with
 |own j=>
  simp only[SC.bw,aq]at h
  unfold SC.sub
  have:Nat.beq j i=false:=by
   cases hb:Nat.beq j i with
   |false=>rfl
   |true=>exact absurd (aJ hb).symm h
  simp[this]
 |ptr j off=>
  simp only[SC.bw,aq]at h
  unfold SC.sub
  have:Nat.beq j i=false:=by
   cases hb:Nat.beq j i with
   |false=>rfl
   |true=>exact absurd (aJ hb).symm h
  simp[this]
 |iH j k off=>
  simp only[SC.bw,aq]at h
  unfold SC.sub
  have:Nat.beq j i=false:=by
   cases hb:Nat.beq j i with
   |false=>rfl
   |true=>exact absurd (aJ hb).symm h
  simp[this]
 |u5 j n=>
  simp only[SC.bw,aq]at h
  unfold SC.sub
  have:Nat.beq j i=false:=by
   cases hb:Nat.beq j i with
   |false=>rfl
   |true=>exact absurd (aJ hb).symm h
  simp[this]
 |mp j=>
  simp only[SC.bw,aq]at h
  unfold SC.sub
  have:Nat.beq j i=false:=by
   cases hb:Nat.beq j i with
   |false=>rfl
   |true=>exact absurd (aJ hb).symm h
  simp[this]
 |kD f c7=>
  simp only[SC.bw]at h
  unfold SC.sub
  have:tn c7 i=false:=by
   cases hb:tn c7 i with
   |false=>rfl
   |true=>exact absurd (Dp hb) h
  simp[this]
 |_=>rfl
theorem rj{i:Nat}{r:SC}:∀{l:List SC},i∉l.flatMap SC.bw→rK i r l=l
 |[],_=>rfl
 |s::l,h=>by
  simp only[ef,aK,not_or]at h
  unfold rK
  rw[SC.nA h.1,rj h.2]
theorem SV.nA{i:Nat}{r:SC}{s:SV}(h:i∉s.bw):s.sub i r=s:=by
 cases s with
 |one x=>show SV.one (x.sub i r)=_;rw[SC.nA h]
 |agg xs=>show SV.agg (rK i r xs)=_;rw[rj h]
theorem xV{i:Nat}{r:SC}:∀{l:List SV},i∉l.flatMap SV.bw→qI i r l=l
 |[],_=>rfl
 |s::l,h=>by
  simp only[ef,aK,not_or]at h
  unfold qI
  rw[SV.nA h.1,xV h.2]
theorem ST.nA{i:Nat}{r:SC}{s:ST}(h:i∉s.bw):s.sub i r=s:=by
 cases s with
 |v x=>show ST.v (x.sub i r)=_;rw[SV.nA h]
 |fo xs=>show ST.fo (qI i r xs)=_;rw[xV h]
theorem MO.nA{i:Nat}{r:SC}{o:MO}(h:i∉o.bw):o.sub i r=o:=by
 cases o with
 |box cs=>show MO.box (rK i r cs)=_;rw[rj h]
 |_=>rfl
theorem yO{i:Nat}{r:SC}{p:Nat×ST}(hn:i∉p.2.bw):∀{tm:TM},p∈tm→p∈uL i r tm
 |[],h=>by cases h
 |(t,s)::l,h=>by
  unfold uL
  rcases ae.1 h with rfl|h
  ·rw[ST.nA hn];exact ah
  ·exact ab _ (yO hn h)
theorem o9{i:Nat}{p:Nat×ST}(hn:i∉p.2.bw):∀{l:TM},p∈l→p∈jF i l
 |[],h=>by cases h
 |(t,s)::r,h=>by
  unfold jF
  split
  ·rename_i hm
   rcases ae.1 h with rfl|h
   ·exact absurd (cD.1 hm) hn
   ·exact o9 hn h
  ·rcases ae.1 h with rfl|h
   ·exact ah
   ·exact ab _ (o9 hn h)
section
variable {C:Ctx} {n:Nat} {eS mm:MM} {L l:List Oper} {cq tm:TM} {R:List Rec} {i:Nat} {o:Oper} {d t:Nat} {T:TM→MM→Prop} {x y:Operand} {s:ST}
theorem EB{I:Nat→Prop}{H:Nat→Value}{Z:Nat→Nat}{w:World}{M:Nat→Prop}{v:Value}{s:ST}(h:eK I H Z w M v s):∀j∈s.bw,I j:=by
 have X7:∀{v:Value} {s:SV},cu I H Z w M v s→∀j∈s.bw,I j:=by
  intro v s h j hj
  cases s with
  |one x=>exact qM h j hj
  |agg xs=>
   obtain⟨vs,_,_,h3⟩:=h
   simp only[SV.bw,bu]at hj
   obtain⟨c,hc,hj⟩:=hj
   obtain⟨k,hk,rfl⟩:=aC.1 hc
   obtain⟨u,_,hr⟩:=h3 k _ (aa hk)
   exact qM hr j hj
 intro j hj
 cases s with
 |v x=>exact X7 h j hj
 |fo xs=>
  obtain⟨vs,_,_,h3⟩:=h
  simp only[ST.bw,bu]at hj
  obtain⟨c,hc,hj⟩:=hj
  obtain⟨k,hk,rfl⟩:=aC.1 hc
  obtain⟨u,_,hr⟩:=h3 k _ (aa hk)
  exact X7 hr j hj
theorem Has.Nc{a:Act}{w:World}(h:Has C n tm mm a w):∀p∈tm,∀j∈p.2.bw,cU mm j:=by
 obtain⟨H,Z,hm⟩:=h
 exact fun p hp=>EB (hm.tmps p hp)
theorem Has.T8{tm tm':TM}{mm mm':MM}{a:Act}{w:World}(h:Has C n tm mm a w)(ht:∀p∈tm',p∈tm)(hm:∀q∈mm',q∈mm)(b6:∀p∈tm',∀j∈p.2.bw,cU mm' j)(Fo:∀q∈mm',∀j∈q.2.bw,cU mm' j):Has C n tm' mm' a w:=by
 obtain⟨H,Z,dh⟩:=h
 have hM:∀b,b < w.heap.size→cO C H mm' b→cO C H mm b:=by
  rintro b _ (hb|⟨p,hp,c9⟩)
  ·exact .inl hb
  ·exact .inr ⟨_,hm p hp,c9⟩
 refine⟨H,Z,dh.defers,dh.size,dh.Oa,fun p hp=>dh.hg p (hm p hp),dh.ext,dh.m0,fun p hp q hq=>dh.ids p (hm p hp) q (hm q hq),?_,fun p hp=>dh.fresh p (hm p hp),fun p hp q hq=>dh.sep p (hm p hp) q (hm q hq),?_⟩
 ·intro p hp
  exact(dh.mem _ (hm p hp)).mono ⟨rfl,rfl⟩ (fun _ _=>rfl) (fun j hj _=>⟨Fo p hp j hj,rfl,rfl⟩) (ay _) (fun _ _ _=>rfl) hM
 ·intro p hp
  exact(dh.tmps _ (ht p hp)).mono (fun j hj _=>⟨b6 p hp j hj,rfl,rfl⟩) (ay _) (fun _ _ _=>rfl) hM
theorem o5(ids:List Nat){R0:List Rec}{f:FuncId}{Rr:Ending→World→Prop}{k:List Item}{id:Nat}(mq:C.P.follows .mixedOrders=true)(dn:HO L.length mm ids=some R0)(LA:ids.all (fun i=>!eV (bP L) i)=true)(_hst:L.any (fun o=>o.dst.isNone)=true)
 (b6:kV L [] L 0=true)(hu:rD (bP L) (gB (bP L) tm)=true)
 (h:EOps C n (fO ids mm) L (gB (bP L) tm) 0 L (gB (bP L) tm) R0 (fun tm' mm'=>Goes C f n Rr k tm' mm')):Goes C f n Rr (.code (.region id L.toArray true)::k) tm mm:=
 (G0 ids mq dn LA b6 hu h).mono fun _ _ hh=>hh.kX fun _ hp=>jG hp
end
end Go.Sy
namespace Go.Sy
open Go.RowKit
theorem aV.take{w:World}{M:Nat→Prop}{a:Option Addr}{len cap:Nat}{nn:Bool}{sz:Nat}{xs:List (List CT)}(h:aV w M (.slice a len cap) (.slice nn sz xs)){j:Nat}(hj:j≤xs.length):
 aV w M (.slice a j cap) (.slice nn sz (xs.take j)):=by
 cases h with
 |slice u hlen jC kL vn cM rn cC=>
  have fy:∀(i:Nat) (y:List CT),(xs.take j)[i]? =some y→xs[i]? =some y:=fun i y hy=>by
   rw[bU]at hy
   split at hy
   ·exact hy
   ·cases hy
  exact .slice u (by simp;omega) (by omega) kL vn (fun y hy=>cM y (List.mem_of_mem_take hy)) (fun hp=>by
   obtain⟨ad,h1,h2,h3,h4,h5⟩:=rn (by simp at hp;omega)
   exact⟨ad,h1,h2,h3,h4,fun i y hy=>h5 i y (fy i y hy)⟩) (fun i y hy=>cC i y (fy i y hy))
theorem aV.drop{w:World}{M:Nat→Prop}{a:Option Addr}{len cap:Nat}{nn:Bool}{sz:Nat}{xs:List (List CT)}(h:aV w M (.slice a len cap) (.slice nn sz xs)){j:Nat}(hj:j≤xs.length):
 aV w M (.slice (if cap=j then a else a.map (·.add (j * sz))) (len - j) (cap - j)) (.slice nn sz (xs.drop j)):=by
 cases h with
 |slice u hlen jC kL vn cM rn cC=>
  refine .slice (fun i q=>u (j+i) q) (by simp;omega) (by omega) (by omega) (fun h=>?_) (fun y hy=>cM y (List.mem_of_mem_drop hy)) (fun hp=>?_) (fun i y hy q c hc=>?_)
  ·have:=vn h
   split
   ·exact this
   ·cases a with
    |none=>exact this
    |some ad=>rfl
  ·simp at hp
   obtain⟨ad,rfl,h2,h3,h4,h5⟩:=rn (by omega)
   rw[if_neg (by omega)]
   refine⟨ad.add (j * sz),rfl,xT h2 _,by rw[jc];exact h3,by rw[jc];exact h4,fun i y hy q c hc=>?_⟩
   rw[add_add,show j * sz+(i * sz+q)=(j+i) * sz+q by rw[ec];omega]
   rw[cf]at hy
   exact h5 (j+i) y hy q c hc
  ·rw[cf]at hy
   exact cC (j+i) y hy q c hc
section
variable {C:Ctx} {n:Nat} {tm:TM} {mm:MM} {o:Oper} {d:Nat}
theorem wg{Θ:da}(bt:a8 C.P Θ){t:TypeId}{x y:Operand}{nn:Bool}{sz:Nat}{xs:List (List CT)}{k:IntKind}{m:Int}{j e:Nat}{z cz:Nat}{ag:Bool}{zr:Option (List CT)}{ei:fN}
 (ho:o.op=.slice t x none (some y) none)(ht:aP Θ t=some ⟨z,cz,ag,zr,.slice e⟩)(dO:aP Θ e=some ei)
 (hx:aQ tm x=some (.c (.slice nn sz xs)))(hi:aQ tm y=some (.c (.int k m)))(hm:m=(j:Int))(hj:j≤xs.length)(hd:o.dst=some d)(hn:Nat.blt d n=true):
 ea C n o tm mm d (.v (.one (.c (.slice nn sz (xs.take j))))):=
 ea.val hd hn _ fun H Z A w dh=>by
  have h2:A.eval y=.int k m:=aV.cA (aU dh hi)
  have h1:aV w (cO C H mm) (A.eval x) (.slice nn sz xs):=aU dh hx
  obtain⟨inf,de,hf⟩:=gI bt ht
  obtain⟨jK,qw,fK⟩:=gI bt dO
  have jL:de=.slice e:=by
   have:=hf.sh
   cases de<;>simp[dA]at this⊢
   exact this
  subst jL
  subst hm
  obtain⟨a,len,cap,hA⟩:∃a len cap,A.eval x=.slice a len cap:=by
   generalize A.eval x=v at h1
   cases h1 with
   |slice u hlen jC kL vn OB rn cC=>exact⟨_,_,_,rfl⟩
  rw[hA]at h1
  have Zq:len=xs.length∧len≤cap:=by cases h1;exact⟨by assumption,by assumption⟩
  refine⟨.slice a j cap,?_,h1.take hj⟩
  have x7:(0:Int)≤(j:Int)∧(j:Int)≤(cap:Int):=by omega
  simp[execOp,ho,hA,h2,Instr.sliceAt,Instr.slice,Instr.sliceBounds,Instr.sliceBound,asIntOf,hf.underlying,fK.sizeOf,x7]
  rw[if_pos (show j≤cap by omega)]
  have ZS:(if cap=0 then a else Option.map (fun x=>x.add 0) a)=a:=by
   split
   ·rfl
   ·cases a<;>simp[Addr.add]
  rw[ZS]
theorem AE{Θ:da}(bt:a8 C.P Θ){t:TypeId}{x y:Operand}{nn:Bool}{sz:Nat}{xs:List (List CT)}{k:IntKind}{m:Int}{j e:Nat}{z cz:Nat}{ag:Bool}{zr:Option (List CT)}{ei:fN}
 (ho:o.op=.slice t x (some y) none none)(ht:aP Θ t=some ⟨z,cz,ag,zr,.slice e⟩)(dO:aP Θ e=some ei)(cM:Nat.beq ei.size sz=true)
 (hx:aQ tm x=some (.c (.slice nn sz xs)))(hi:aQ tm y=some (.c (.int k m)))(hm:m=(j:Int))(hj:j≤xs.length)(hd:o.dst=some d)(hn:Nat.blt d n=true):
 ea C n o tm mm d (.v (.one (.c (.slice nn sz (xs.drop j))))):=
 ea.val hd hn _ fun H Z A w dh=>by
  have h2:A.eval y=.int k m:=aV.cA (aU dh hi)
  have h1:aV w (cO C H mm) (A.eval x) (.slice nn sz xs):=aU dh hx
  obtain⟨inf,de,hf⟩:=gI bt ht
  obtain⟨jK,qw,fK⟩:=gI bt dO
  have jL:de=.slice e:=by
   have:=hf.sh
   cases de<;>simp[dA]at this⊢
   exact this
  subst jL
  subst hm
  have Ff:ei.size=sz:=aJ cM
  obtain⟨a,len,cap,hA⟩:∃a len cap,A.eval x=.slice a len cap:=by
   generalize A.eval x=v at h1
   cases h1 with
   |slice u hlen jC kL vn OB rn cC=>exact⟨_,_,_,rfl⟩
  rw[hA]at h1
  have Zq:len=xs.length∧len≤cap:=by cases h1;exact⟨by assumption,by assumption⟩
  refine⟨_,?_,h1.drop hj⟩
  have x7:(0:Int)≤(j:Int)∧(j:Int)≤(len:Int):=by omega
  simp[execOp,ho,hA,h2,Instr.sliceAt,Instr.slice,Instr.sliceBounds,Instr.sliceBound,asIntOf,hf.underlying,fK.sizeOf,x7,Ff]
  intro cY;omega
end
section
variable {C:Ctx} {n:Nat} {eS:MM} {L l:List Oper} {cq tm:TM} {R:List Rec} {i:Nat} {o:Oper} {d t:Nat} {T:TM→MM→Prop} {x y:Operand} {ty rk:TypeId} {mm:MM}
end
section
variable {C:Ctx} {n:Nat} {tm:TM} {mm:MM} {L l:List Oper} {T:TM→MM→Prop}
theorem B1(t:Nat)(s':ST){s:ST}(ht:jD tm t=some s)(hle:BL s s')(g:SOps C n L.toArray l ((t,s')::bo tm t) mm T):SOps C n L.toArray l tm mm T:=by
 refine g.mono fun a w ⟨H,Z,hm⟩=>⟨H,Z,{hm with tmps:=fun p hp=>?_}⟩
 rcases ae.1 hp with rfl|hp
 ·exact hle.rep (hm.tmps _ (gX ht))
 ·exact hm.tmps p (cj hp).1
end
end Go.Sy
