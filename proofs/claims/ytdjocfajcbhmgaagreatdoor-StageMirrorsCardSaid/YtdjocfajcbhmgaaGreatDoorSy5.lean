/- The symbolic layer, bundle Sy5. -/
import Derived.Test.YtdjocfajcbhmgaaGreatDoorSy4
import Derived.Laws.OwnMore
set_option linter.unusedSimpArgs false
set_option linter.unusedVariables false
set_option linter.unusedSectionVars false
namespace Go.Sy
open Go.RowKit
section
variable {C:Ctx} {n:Nat} {tm:TM} {mm:MM} {o:Oper} {d:Nat}
theorem Mod.Jj{H:Nat→Value}{Z:Nat→Nat}{a:Act}{w:World}(hm:Mod C H Z n tm mm a w)(j e sz:Nat)(hj:Nat.blt j given=true)(hf:iW mm j=false):
 Mod C (Sy.jf H j (.slice none 0 0)) (Sy.jf Z j sz) n tm ((j,.arr false e sz [])::mm) a w:=by
 have yO:=fc hf
 have cj:∀p∈mm,p.1≠j:=fun p hp e=>yO ⟨p,hp,e⟩
 have KW:∀k,cD mm k→k≠j:=fun k ⟨p,hp,e⟩ e'=>cj p hp (e.trans e')
 have hI:∀k,cD mm k→cD ((j,MO.arr false e sz [])::mm) k:=fun k ⟨p,hp,e⟩=>⟨p,ab _ hp,e⟩
 have rM:j < given:=aY.mp hj
 refine hm.build (fun _=>False) (Ext.refl _ _) (fun _ _ h=>h.elim) hm.defers hm.size ?_ ?_ ?_ ?_ ?_
 ·intro p hp jZ
  rcases ae.1 hp with rfl|hp
  ·simp only at jZ;omega
  ·rw[bx _ _ (cj p hp)];exact hm.hg p hp jZ
 ·intro p hp q hq he
  rcases ae.1 hp with rfl|hp<;>rcases ae.1 hq with rfl|hq
  ·rfl
  ·exact absurd he.symm (cj q hq)
  ·exact absurd he (cj p hp)
  ·exact hm.ids p hp q hq he
 ·intro p hp
  rcases ae.1 hp with rfl|hp
  ·refine .inr ⟨fun b hb=>by rw[bc]at hb;simp[Hb,hblk]at hb,fun _ _=>⟨bc _ _ _,[],?_,(fun h=>by cases h),(fun q hq=>by cases hq),fun k q hq=>by simp at hq⟩⟩
   rw[bc]
   exact World.ownsRow_nil w 0 e sz
  ·exact .inl ⟨hp,bx _ _ (cj p hp),bx _ _ (cj p hp),fun _ _ h=>h,fun k _ hk=>⟨hI k hk,bx _ _ (KW k hk),bx _ _ (KW k hk)⟩⟩
 ·intro p hp q hq jl b cC db
  rcases ae.1 hp with rfl|hp
  ·rw[bc]at cC;simp[Hb,hblk]at cC
  ·rcases ae.1 hq with rfl|hq
   ·rw[bc]at db;simp[Hb,hblk]at db
   ·rw[bx _ _ (cj p hp)]at cC
    rw[bx _ _ (cj q hq)]at db
    exact hm.sep p hp q hq jl b cC db
 ·intro p hp
  exact .inl ⟨p,hp,rfl,rfl,fun k _ hk=>⟨hI k hk,bx _ _ (KW k hk),bx _ _ (KW k hk)⟩⟩
theorem Has.O6{a:Act}{w:World}(i c j e sz:Nat){cs:List SC}(hi:getM mm i=some (.box cs))(hc:py cs c=some (.c .bK))(hj:Nat.blt j given=true)(hf:iW mm j=false)(h:Has C n tm mm a w):
 Has C n tm (cK ((j,.arr false e sz [])::mm) i (.box (mr cs c (.own j)))) a w:=by
 obtain⟨H,Z,hm⟩:=h
 have h0:=hm.Jj j e sz hj hf
 have j1:i≠j:=fun e=>by subst e;exact fc hf ⟨_,aN hi,rfl⟩
 rw[mB]at hc
 have DU:(i,MO.box cs)∈((j,MO.arr false e sz [])::mm):=ab _ (aN hi)
 obtain⟨b,ty,vs,h1,h2,h3,h4⟩:=h0.mem _ DU
 obtain⟨b',sI,lN,g1,g2,g3,g4⟩:=hm.mem _ (aN hi)
 have AQ:H i=.pointer (some ⟨b,0,none⟩):=by
  have h1:Sy.jf H j (.slice none 0 0) i=_:=h1
  rwa [bx _ _ j1]at h1
 have Ot:b'=b:=by
  have g1:H i=_:=g1
  rw[AQ]at g1;injection g1 with g1;injection g1 with g1;injection g1 with g1;exact g1.symm
 subst Ot
 rw[h2]at g2
 injection g2 with g2;injection g2 with g2 g2'
 subst g2
 obtain⟨u,hu,ho,hr⟩:=g4 c _ hc
 have hv:=a7.kF hr
 have hI:∀q,cD ((j,MO.arr false e sz [])::mm) q→cD (cK ((j,.arr false e sz [])::mm) i (.box (mr cs c (.own j)))) q:=fun q hq=>(eI q).2 hq
 refine⟨_,_,h0.jf (b0:=b') ⟨_,DU,rfl⟩ (by show Hb (Sy.jf H j _ i) _;rw[bx _ _ j1,AQ];rfl) (Ext.refl _ _) hm.defers hm.size ?_ (fun q hq=>⟨hq,rfl⟩)⟩
 intro iH iA
 refine⟨b',ty,vs,h1,h2,by rw[ia];simpa using h3,fun j' x hx=>?_⟩
 rw[ia,cY]at hx
 split at hx
 ·rename_i Fi
  subst Fi
  split at hx
  ·injection hx with hx
   subst hx
   exact⟨u,hu,ho,hI _ ⟨_,ah,rfl⟩,by rw[bc];exact hv⟩
  ·cases hx
 ·obtain⟨u',lY,dX,ga⟩:=h4 j' x hx
  exact⟨u',lY,dX,ga.mono (fun q _ hq=>⟨hI q hq,rfl,rfl⟩) (aA _) (fun _ _ _=>rfl) iH⟩
end
section
variable {C:Ctx} {f:FuncId} {n:Nat} {R:Ending→World→Prop} {k:List Item} {tm:TM} {mm:MM}
theorem l9(i c j e sz:Nat){cs:List SC}(hi:getM mm i=some (.box cs))(hc:py cs c=some (.c .bK))(hj:Nat.blt j given=true)(hf:iW mm j=false)
 (g:Goes C f n R k tm (cK ((j,.arr false e sz [])::mm) i (.box (mr cs c (.own j))))):Goes C f n R k tm mm:=g.mono fun _ _ h=>h.O6 i c j e sz hi hc hj hf
end
section
variable {C:Ctx} {n:Nat} {tm:TM} {mm:MM} {o:Oper} {d:Nat}
theorem sE{Θ:dD}(bI:bz C.P Θ){t:TypeId}{x y:Operand}{z dG e:Nat}{ag:Bool}{zt:Option (List CT)}{ei:gD}{zr:List CT}{i:Nat}{nn zZ:Bool}{sz:Nat}{xs ys:List (List CT)}
 (ho:o.op=.call {callee:=.builtin .append,args:=⟨[x,y]⟩,argTypes:=⟨[t,t]⟩})(ht:aZ Θ t=some ⟨z,dG,ag,zt,.slice e⟩)(fm:aZ Θ e=some ei)(hz:ei.zero=some zr)
 (c8:Nat.beq ei.size sz=true)(mS:Nat.blt 0 ei.size=true)(hi:getM mm i=some (.arr nn e sz xs))
 (gx:xs.length+ys.length≤9223372036854775807∧(xs.length+ys.length) * ei.bytes≤140737488355328)(iF:Nat.blt i given=true)(fO:ed i mm=true)(hd:o.dst=some d)(hn:Nat.blt d n=true)
 {H:Nat→Value}{Z:Nat→Nat}{a:Act}{w:World}(hm:Mod C H Z n tm mm a w)(hv:a.eval x=H i){My:Nat→Prop}(hy:a7 w My (a.eval y) (.slice zZ sz ys))(WA:∀q∈ys,∀ct∈q,∀v,a7 w My v ct→a7 w (cU C H mm) v ct):
 ∃v' w',(execOp a.eval o).run C.P w=.ok (.value v') w'∧Has C n ((d,.v (.one (.own i)))::bw (jQ i tm) d) (cK mm i (.arr false e sz (xs++ys))) (a.put o.dst v') w':=by
 obtain⟨inf,de,hf⟩:=jH bI ht
 obtain⟨lX,yU,iG⟩:=jH bI fm
 obtain⟨zv,Aw,vH,Cp⟩:=iG.zero zr hz
 obtain⟨FP,_⟩:=e7 (w:=w) (M:=cU C H mm) vH
 have kZ:de=.slice e:=by
  have:=hf.sh
  cases de<;>simp[eR]at this⊢
  exact this
 subst kZ
 have HW:ei.size=sz:=aR c8
 subst HW
 have nG:0 < ei.size:=aY.mp mS
 obtain⟨hZ,us,dF,_,hlen,cL⟩:=hm.mem _ (aN hi)
 have fP:∃v' w' news,(Builtin.append_ #[t,t] o.type #[H i,a.eval y]).run C.P w=.ok v' w'∧w'.ownsRow 0 e ei.size v' (xs.length+ys.length) (us++news)∧w.grownBy w' (H i).ownBlock∧
  (v'.ownBlock=(H i).ownBlock∨v'.ownBlock=some w.heap.size)∧(∀q∈ys,q.length=ei.size)∧
  (∀(k:Nat) (q:List CT),ys[k]? =some q→∀(j:Nat) (ct:CT),q[j]? =some ct→∃u,news[k * ei.size+j]? =some u∧a7 w (cU C H mm) u ct):=by
  generalize VA:a.eval y=vy at hy
  cases hy with
  |slice u uE j3 kY sv jY yT H3=>
   rename_i ad len cap
   by_cases Cq:ys=[]
   ·subst Cq
    simp only[oO]at uE
    subst uE
    refine⟨H i,w,[],?_,by simpa using dF,⟨rfl,rfl,rfl,aA _,fun _ _ _=>rfl⟩,.inl rfl,(fun q hq=>by cases hq),fun k q hq=>by simp at hq⟩
    rcases dF.2 with⟨h0,_⟩|⟨g,I6,cur,h0,_,_,RW,_⟩
    ·rw[h0]
     cases ad<;>simp[Builtin.append_,run_underlying hf.Dd,sizeOf,typeInfo,iG.info,Builtin.lenOf,Builtin.firstCells,loadCells,loadCellsFrom]
    ·rw[h0]
     cases ad<;>simp[Builtin.append_,run_underlying hf.Dd,sizeOf,typeInfo,iG.info,Builtin.lenOf,Builtin.firstCells,RW,storeCells,loadCells,loadCellsFrom]
   ·obtain⟨RB,rfl,Fe,vN,Wp,nJ⟩:=yT (fq.2 Cq)
    let news:List Value:=(List.range (ys.length * ei.size)).map fun m=>u (m / ei.size) (m % ei.size)
    have AF:∀m,m < ys.length * ei.size→news[m]? =some (u (m / ei.size) (m % ei.size)):=fun m hm=>by simp[news,hm]
    have H8:news.length=ys.length * ei.size:=by simp[news]
    have QP:∀k j,j < ei.size→(k * ei.size+j) / ei.size=k∧(k * ei.size+j) % ei.size=j:=fun k j hj=>by
     constructor
     ·rw[pa,mJ _ _ nG,jU hj,fA]
     ·rw[pa,Nat.add_mul_mod_self_right,Nat.mod_eq_of_lt hj]
    have bo:∀k j,k < ys.length→j < ei.size→k * ei.size+j < ys.length * ei.size:=fun k j hk hj=>by
     have:=bq ei.size (show k+1≤ys.length from hk)
     rw[dt]at this;omega
    have AE:∀(k:Nat) (q:List CT),ys[k]? =some q→∀(j:Nat) (ct:CT),q[j]? =some ct→∃v,news[k * ei.size+j]? =some v∧a7 w (cU C H mm) v ct:=by
     intro k q hq j ct hc
     have hk:=(ai.1 hq).1
     have hj:j < ei.size:=by rw[←jY q (an hq)];exact(ai.1 hc).1
     refine⟨u k j,?_,WA q (an hq) ct (an hc) _ (H3 k q hq j ct hc)⟩
     rw[AF _ (bo k j hk hj),(QP k j hj).1,(QP k j hj).2]
    have Cx:∀j v,news[j]? =some v→w.cell? (RB.add j)=some v:=by
     intro j v hj
     have eC:j < ys.length * ei.size:=by rw[←H8];exact(ai.1 hj).1
     rw[AF j eC]at hj
     injection hj with hj
     have hk:j / ei.size < ys.length:=by rw[Nat.div_lt_iff_lt_mul nG];exact eC
     have Ml:j % ei.size < ei.size:=vl _ nG
     have h1:ys[j / ei.size]? =some ys[j / ei.size]:=aa hk
     have Fg:=jY _ (an h1)
     have h2:(ys[j / ei.size])[j % ei.size]? =some ((ys[j / ei.size])[j % ei.size]'(by rw[Fg];exact Ml)):=aa _
     have:=nJ _ _ h1 _ _ h2
     rw[show j / ei.size * ei.size+j % ei.size=j by rw[vk];exact Nat.div_add_mod j ei.size,hj]at this
     exact this
    obtain⟨v',w',hr,h2,h3,_,h5⟩:=run_append_own_at (P:=C.P) w 0 t o.type e lX zv ei.size ei.bytes hf.Dd iG.info Aw iG.size iG.bytes (by rw[FP,Cp]) nG (H i) xs.length us dF RB ys.length cap news H8 Cx
     (mA jY H8 AE) (by simp only[maxLen];omega) gx.2 (aM _)
    exact⟨v',w',news,by rw[uE];exact hr,h2,h3,h5,jY,AE⟩
 obtain⟨v',w',news,hr,h2,h3,h5,w6,w5⟩:=fP
 have dQ:(execOp a.eval o).run C.P w=.ok (.value v') w':=by
  unfold execOp
  simp only[ho,resolve,invoke,builtin,Sem.run_bind,Sem.run_pure,Result.andThen_ok,dz,bF,gh,hv,hr]
 have CI:∀b,Hb v' b↔v'.ownBlock=some b:=fun b=>pM h2 b
 have OA:∀b,Hb (H i) b↔(H i).ownBlock=some b:=fun b=>pM dF b
 have ec:Ext (fun b=>Hb (H i) b) w w':=⟨h3.os,h3.tape,h3.output,h3.size,fun k hk cj=>h3.block k hk (fun e=>cj ((OA _).2 (by first|exact e|exact e.symm)))⟩
 have na:∀b,Hb v' b→b < w'.heap.size:=by
  intro b hb
  rcases h2.2 with⟨rfl,_⟩|⟨g,cap,cur,rfl,_,hg,_⟩
  ·simp[Hb,hblk]at hb
  ·simp[Hb,hblk]at hb
   subst hb
   exact(bu.1 hg).1
 have QX:i < given:=aY.mp iF
 have hI:∀j,cD mm j→cD (cK mm i (.arr false e ei.size (xs++ys))) j:=fun j hj=>(eI j).2 hj
 refine⟨v',w',dQ,jf H i v',Z,?_⟩
 rw[hd]
 refine hm.build (fun b=>Hb (H i) b) ec (fun b _ hb=>⟨_,aN hi,hb⟩) (by simpa[Act.put]using hm.defers) (by simp[Act.put,hm.size]) ?_ ?_ ?_ ?_ ?_
 ·intro p hp jZ
  have su:p.1≠i:=by omega
  rw[bx _ _ su]
  rcases cq p hp with⟨rfl,_⟩|⟨k1,_⟩
  ·exact absurd J su
  ·exact hm.hg p k1 jZ
 ·intro p hp q hq he
  rcases cq p hp with⟨rfl,_⟩|⟨k1,k2⟩<;>rcases cq q hq with⟨rfl,_⟩|⟨vF,s7⟩
  ·rfl
  ·exact absurd he.symm s7
  ·exact absurd he k2
  ·exact hm.ids p k1 q vF he
 ·intro p hp
  rcases cq p hp with⟨rfl,_⟩|⟨k1,k2⟩
  ·refine .inr ⟨fun b hb=>?_,fun iH iA=>?_⟩
   ·rw[bc]at hb
    rcases h5 with h5|h5
    ·exact .inr ⟨_,aN hi,(OA b).2 (by rw[←h5];exact(CI b).1 hb),.inl rfl⟩
    ·refine .inl ⟨?_,na b hb⟩
     replace hb:=(CI b).1 hb;rw[h5]at hb;injection hb with hb;omega
   ·refine⟨hZ,us++news,by rw[bc,aL];exact h2,(fun h=>by cases h),fun q hq=>?_,fun k q hk j ct hc=>?_⟩
    ·rcases aQ.1 hq with hq|hq
     ·exact hlen q hq
     ·exact w6 q hq
    ·have rK:us.length=xs.length * ei.size:=dF.1
     rw[bN]at hk
     split at hk
     ·rename_i kl
      obtain⟨u,hu,hr⟩:=cL k q hk j ct hc
      refine⟨u,?_,a7.mono hr h3.size iA iH⟩
      rw[aG (ai.1 hu).1]
      exact hu
     ·rename_i kl
      obtain⟨u,hu,hr⟩:=w5 _ q hk j ct hc
      refine⟨u,?_,a7.mono hr h3.size iA iH⟩
      have hle:xs.length * ei.size≤k * ei.size:=bq _ (by omega)
      rw[aO (by rw[rK];omega),rK]
      rw[Nat.sub_mul]at hu
      rw[←hu];congr 1;omega
  ·refine .inl ⟨k1,bx _ _ k2,rfl,fun b hb hx=>?_,fun j hj j1=>⟨hI j j1,bx _ _ (fun e=>?_),rfl⟩⟩
   ·exact hm.sep p k1 _ (aN hi) k2 b hb hx
   ·subst e;exact dP fO k1 hj
 ·intro p hp q hq jl b cC db
  have key:∀p∈mm,p.1≠i→Hb (H p.1) b→Hb v' b→False:=by
   intro p hp su h1 h2
   rcases h5 with h5|h5
   ·exact hm.sep p hp _ (aN hi) su b h1 ((OA b).2 (by rw[←h5];exact(CI b).1 h2))
   ·replace h2:=(CI b).1 h2;rw[h5]at h2
    injection h2 with h2
    have:=(hm.fresh p hp b h1).2
    omega
  rcases cq p hp with⟨rfl,_⟩|⟨k1,k2⟩<;>rcases cq q hq with⟨rfl,_⟩|⟨vF,s7⟩
  ·exact jl J
  ·rw[bc]at cC;rw[bx _ _ s7]at db
   exact key q vF s7 db cC
  ·rw[bc]at db;rw[bx _ _ k2]at cC
   exact key p k1 k2 cC db
  ·rw[bx _ _ k2]at cC;rw[bx _ _ s7]at db
   exact hm.sep p k1 q vF jl b cC db
 ·intro p hp
  rcases ae.1 hp with rfl|hp
  ·refine .inr fun _ _=>?_
   rw[gQ (by rw[hm.size];exact aY.mp hn)]
   exact⟨hI i ⟨_,aN hi,rfl⟩,(bc _ _ _).symm⟩
  ·obtain⟨h1,qv⟩:=b4 hp
   obtain⟨OB,h4⟩:=jB h1
   exact .inl ⟨p,OB,rfl,fu qv,fun j hj j1=>⟨hI j j1,bx _ _ (fun e=>h4 (e▸hj)),rfl⟩⟩
theorem B5{Θ:dD}(bI:bz C.P Θ){t:TypeId}{x y:Operand}{z dG e:Nat}{ag:Bool}{zt:Option (List CT)}{ei:gD}{zr:List CT}{i:Nat}{nn zZ:Bool}{sz:Nat}{xs ys:List (List CT)}
 (ho:o.op=.call {callee:=.builtin .append,args:=⟨[x,y]⟩,argTypes:=⟨[t,t]⟩})(ht:aZ Θ t=some ⟨z,dG,ag,zt,.slice e⟩)(fm:aZ Θ e=some ei)(hz:ei.zero=some zr)
 (c8:Nat.beq ei.size sz=true)(mS:Nat.blt 0 ei.size=true)(hx:aW tm x=some (.own i))(hi:getM mm i=some (.arr nn e sz xs))(hy:aW tm y=some (.c (.slice zZ sz ys)))
 (iF:Nat.blt i given=true)(fO:ed i mm=true)(hd:o.dst=some d)(hn:Nat.blt d n=true)
 (gx:xs.length+ys.length≤9223372036854775807∧(xs.length+ys.length) * ei.bytes≤140737488355328):
 yW C n o tm mm ((d,.v (.one (.own i)))::bw (jQ i tm) d) (cK mm i (.arr false e sz (xs++ys))):=by
 intro a w ⟨H,Z,hm⟩
 obtain⟨v',w',h1,h2⟩:=sE bI ho ht fm hz c8 mS hi gx iF fO hd hn hm (aX hm hx).2 (aX hm hy) (fun _ _ _ _ _ h=>h)
 exact .inl ⟨v',w',h1,h2⟩
theorem B4{Θ:dD}(bI:bz C.P Θ){t:TypeId}{x y:Operand}{z dG e:Nat}{ag:Bool}{zt:Option (List CT)}{ei:gD}{zr:List CT}(i:Nat){zZ:Bool}{sz:Nat}{ys:List (List CT)}
 (ho:o.op=.call {callee:=.builtin .append,args:=⟨[x,y]⟩,argTypes:=⟨[t,t]⟩})(ht:aZ Θ t=some ⟨z,dG,ag,zt,.slice e⟩)(fm:aZ Θ e=some ei)(hz:ei.zero=some zr)
 (c8:Nat.beq ei.size sz=true)(mS:Nat.blt 0 ei.size=true)(hx:aW tm x=some (.c .bK))(hy:aW tm y=some (.c (.slice zZ sz ys)))
 (iF:Nat.blt i given=true)(hf:iW mm i=false)(fO:ed i ((i,.arr false e sz [])::mm)=true)(hd:o.dst=some d)(hn:Nat.blt d n=true)
 (gx:ys.length≤9223372036854775807∧ys.length * ei.bytes≤140737488355328):
 yW C n o tm mm ((d,.v (.one (.own i)))::bw (jQ i tm) d) ((i,.arr false e sz ys)::mm):=by
 intro a w ⟨H,Z,hm⟩
 have h0:=hm.Jj i e sz iF hf
 have nI:a.eval x=Sy.jf H i (.slice none 0 0) i:=by rw[bc];exact a7.kF (aX hm hx)
 have Vr:a7 w (cU C (Sy.jf H i (.slice none 0 0)) ((i,.arr false e sz [])::mm)) (a.eval y) (.slice zZ sz ys):=aX h0 hy
 obtain⟨v',w',h1,h2⟩:=sE bI ho ht fm hz c8 mS (nn:=false) (xs:=[]) (by simp[getM]) (by simpa using gx) iF fO hd hn h0 nI Vr (fun _ _ _ _ _ h=>h)
 refine .inl ⟨v',w',h1,?_⟩
 have yO:∀l:MM,iW l i=false→cK l i (.arr false e sz ys)=l:=by
  intro l
  induction l with
  |nil=>intro _;rfl
  |cons p l ih=>
   obtain⟨q,o'⟩:=p
   intro h
   have cj:Nat.beq q i=false:=by
    cases hb:Nat.beq q i with
    |false=>rfl
    |true=>simp[iW,getM,hb]at h
   simp only[iW,getM,cj]at h
   simp only[cK,cj]
   rw[ih (by simpa[iW]using h)]
 have:cK ((i,.arr false e sz [])::mm) i (.arr false e sz ([]++ys))=(i,.arr false e sz ys)::mm:=by
  simp only[cw]
  have:Nat.beq i i=true:=Nat.beq_refl i
  simp only[cK,this]
  first|rfl|rw[yO mm hf]
 rw[←this]
 exact h2
end
end Go.Sy
namespace Go.Sy
open Go.RowKit
section
variable {C:Ctx} {n:Nat} {By:TM} {mm:MM} {o:Oper} {d:Nat}
theorem tV{Θ:dD}(bI:bz C.P Θ){t:TypeId}{z dG e len:Nat}{ag:Bool}{zt:Option (List CT)}{ei:gD}{zr:List CT}{parts:Array (Nat×Operand)}{r:List SC}{cts:List CT}{xs:List (List CT)}{ct:CT}
 (ho:o.op=.buildSlice t len parts)(ht:aZ Θ t=some ⟨z,dG,ag,zt,.slice e⟩)(fm:aZ Θ e=some ei)(hz:ei.zero=some zr)
 (hb:Nat.ble (len * ei.size) 16777216=true)(mS:Nat.blt 0 ei.size=true)
 (hl:mY (fun i=>some (i * ei.size,ei.size)) By (qM (len * ei.size)) parts.toList=some r)(hc:hJ r=some cts)(hx:kO ei.size len cts=some xs)
 (hle:sF (.slice true ei.size xs) ct)(hd:o.dst=some d)(hn:Nat.blt d n=true):
 JH C n mm o By d (.v (.one (.c ct))):=by
 refine⟨⟨hd,hn⟩,fun tm' hs=>yW.wp ?_⟩
 intro a w ⟨H,Z,Ic⟩
 have hm:=Ic.sub hs
 obtain⟨inf,de,hf⟩:=jH bI ht
 obtain⟨lX,yU,iG⟩:=jH bI fm
 obtain⟨zv,Aw,vH,Cp⟩:=iG.zero zr hz
 obtain⟨h1,h2⟩:=e7 (w:=w) (M:=cU C H mm) vH
 have kZ:de=.slice e:=by
  have:=hf.sh
  cases de<;>simp[eR]at this⊢
  exact this
 subst kZ
 have CD:len * ei.size≤16777216:=fR.mp hb
 have nG:0 < ei.size:=aY.mp mS
 have NK:zv.cells.size=ei.size:=by rw[h1,Cp]
 let init:Array Value:=(Array.range (len * ei.size)).map ((if len * ei.size=0 then#[]else zv.cells)[·% (if len * ei.size=0 then#[]else zv.cells).size]!)
 have hp:Pw (fun u c=>u.oneCell'=true∧bR (cD mm) H Z w (cU C H mm) u c) init.toList (qM (len * ei.size)):=by
  rw[yF]
  refine⟨by simp[init],fun j c hc=>?_⟩
  have hj:j < len * ei.size:=by
   have:=(ai.1 hc).1
   simpa using this
  rw[gM,if_pos hj]at hc
  injection hc with hc;subst hc
  have cj:len * ei.size≠0:=by omega
  refine⟨zv.cells[j % zv.cells.size]!,by simp[init,hj,cj],?_,trivial⟩
  have bo:j % zv.cells.size < zv.cells.size:=vl _ (by rw[NK];exact nG)
  have Ie:j % zv.cells.size < zr.length:=by rw[←h1];exact bo
  obtain⟨u,hu,hr⟩:=h2 (j % zv.cells.size) zr[j % zv.cells.size] (aa Ie)
  rw[getElem!_def,hu]
  exact hr.one
 obtain⟨lN,g1,g2⟩:=ks hm _ parts.toList _ _ r hp hl
 have g3:Pw (fun u c=>a7 w (cU C H mm) u c) lN.toList cts:=iZ hc (g2.mono fun _ _ _ h=>h.2)
 obtain⟨c1,c2,c3,c4⟩:=nP _ hx
 have Qc:lN.size=len * ei.size:=by have:=g3.1;rw[c3]at this;simpa using this
 have dQ:(execOp a.eval o).run C.P w=.ok (.value (.slice (some ⟨w.heap.size,0,none⟩) len len)) (w.alloc (.cells lN e)):=by
  have jm:Instr.fill (fun i=>some (i * ei.size,ei.size)) init (parts.map fun(i,x)=>(i,a.eval x)).toList=some lN:=by
   rw[←g1,mW]
  simp only[execOp,ho,Instr.buildSlice,Sem.run_bind,hf.underlying,Result.andThen_ok,iG.sizeOf]
  rw[if_neg (by omega)]
  simp only[init]at jm
  by_cases h0:len * ei.size=0
  ·rw[if_pos h0]at jm
   rw[if_pos h0]
   simp only[Sem.run_bind,Sem.run_pure,Result.andThen_ok,jm]
   simp[newRow,newObj,Sem.run]
  ·rw[if_neg h0]at jm
   rw[if_neg h0]
   simp only[Sem.run_bind,Sem.run_pure,Result.andThen_ok,iG.zeroValue Aw,jm]
   simp[newRow,newObj,Sem.run]
 have hlen:len≤maxLen:=by
  have:len≤len * ei.size:=Nat.le_mul_of_pos_right _ nG
  simp only[maxLen];omega
 have Ox:∀b,cU C H mm b→b < w.heap.size:=by
  rintro b (hb|⟨p,hp,cC⟩)
  ·exact bX (hm.m0 b hb) hm.ext.size
  ·exact(hm.fresh p hp b cC).2
 have jY:(w.alloc (.cells lN e)).heap.size=w.heap.size+1:=by show(w.heap.push _).size=_;rw[iL]
 have cL:a7 (w.alloc (.cells lN e)) (cU C H mm) (.slice (some ⟨w.heap.size,0,none⟩) len len) (.slice true ei.size xs):=by
  refine .slice (fun k j=>(lN.toList[k * ei.size+j]?).getD undef) c1.symm (aA _) hlen (fun _=>rfl) c2 (fun _=>⟨_,rfl,rfl,by rw[jY];exact Nat.lt_succ_self _,fun hM=>absurd (Ox _ hM) (Nat.lt_irrefl _),fun k x hk j c hc=>?_⟩) (fun k x hk j c hc=>?_)
  ·obtain⟨u,hu,_⟩:=g3.2 _ c (c4 k x hk j c hc)
   rw[hu]
   exact World.ownsRow.cells (World.ownsRow_lit (base:=0) (e:=e) (size:=ei.size) w lN len (aM _) hlen Qc) J _ _ hu
  ·obtain⟨u,hu,cL⟩:=g3.2 _ c (c4 k x hk j c hc)
   rw[hu]
   exact cL.mono (eE w _).size (fun b hb _=>(eE w (.cells lN e)).block b hb (fun h=>h)) (fun _ _ h=>h)
 refine .inl ⟨_,_,dQ,H,Z,?_⟩
 rw[hd]
 refine Ic.build (fun _=>False) (eE w _) (fun _ _ h=>h.elim) (by simpa[Act.put]using hm.defers) (by simp[Act.put,hm.size]) hm.hg hm.ids
  (fun p hp=>.inl ⟨hp,rfl,rfl,fun _ _ h=>h,fun _ _ hj=>⟨hj,rfl,rfl⟩⟩) hm.sep (fun p hp=>?_)
 rcases ae.1 hp with rfl|hp
 ·refine .inr fun _ _=>?_
  rw[gQ (by rw[hm.size];exact aY.mp hn)]
  exact hle.rep cL
 ·obtain⟨h1,qv⟩:=b4 hp
  exact .inl ⟨p,h1,rfl,fu qv,fun _ _ hj=>⟨hj,rfl,rfl⟩⟩
end
section
variable {C:Ctx} {n:Nat} {eh:MM} {L l:List Oper} {cp tm:TM} {R:List Rec} {i:Nat} {o:Oper} {d t:Nat} {T:TM→MM→Prop} {x y:Operand} {ty sI:TypeId} {mm:MM}
theorem MG{Θ:dD}(bI:bz C.P Θ){t:TypeId}{z dG e len:Nat}{ag:Bool}{zt:Option (List CT)}{ei:gD}{zr:List CT}{parts:Array (Nat×Operand)}{r:List SC}{cts:List CT}{xs:List (List CT)}{ct:CT}
 (ho:o.op=.buildSlice t len parts)(ht:aZ Θ t=some ⟨z,dG,ag,zt,.slice e⟩)(fm:aZ Θ e=some ei)(hz:ei.zero=some zr)
 (hb:Nat.ble (len * ei.size) 16777216=true)(mS:Nat.blt 0 ei.size=true)
 (hl:mY (fun i=>some (i * ei.size,ei.size)) (bg (aK L o) tm) (qM (len * ei.size)) parts.toList=some r)(hc:hJ r=some cts)(hx:kO ei.size len cts=some xs)
 (hd:o.dst=some d)(hn:Nat.blt d n=true)(hg:bp L (bg (aK L o) tm) o=some true)(hle:sF (.slice true ei.size xs) ct)
 (k:EOps C n eh L cp (i+1) l ((d,.v (.one (.c ct)))::bw tm d) R T):EOps C n eh L cp i (o::l) tm R T:=
 EOps.step hg (fun _ _ _=>tV bI ho ht fm hz hb mS hl hc hx hle hd hn) hd k
theorem Ri{kd:IntKind}{a b:Int}(ho:o.op=.binOp .rem ty x y sI)(hx:aW (bg (aK L o) tm) x=some (.c (.int kd a)))(hy:aW (bg (aK L o) tm) y=some (.c (.int kd b)))(hd:o.dst=some d)(hn:Nat.blt d n=true)(hg:bp L (bg (aK L o) tm) o=some true)
 (hr:b≠0)(k:EOps C n eh L cp (i+1) l ((d,.v (.one (.c (.int kd (a.tmod b)))))::bw tm d) R T):EOps C n eh L cp i (o::l) tm R T:=
 yu (fun mm'=>iS (p:=.rem) ho hx hy ⟨hr,rfl⟩ hd hn) hg hd k
theorem jv{Θ:dD}(bI:bz C.P Θ){t:TypeId}{x y:Operand}{z dG e:Nat}{ag:Bool}{zt:Option (List CT)}{ei:gD}{zr:List CT}{i:Nat}{nn zZ:Bool}{sz:Nat}{xs ys:List (List CT)}{T:TM→MM→Prop}
 (ho:o.op=.call {callee:=.builtin .append,args:=⟨[x,y]⟩,argTypes:=⟨[t,t]⟩})(ht:aZ Θ t=some ⟨z,dG,ag,zt,.slice e⟩)(fm:aZ Θ e=some ei)(hz:ei.zero=some zr)
 (c8:Nat.beq ei.size sz=true)(mS:Nat.blt 0 ei.size=true)(hx:aW tm x=some (.own i))(hi:getM mm i=some (.arr nn e sz xs))(hy:aW tm y=some (.c (.slice zZ sz ys)))
 (iF:Nat.blt i given=true)(fO:ed i mm=true)(hd:o.dst=some d)(hn:Nat.blt d n=true)(hg:bp L tm o=some true)
 (gx:xs.length+ys.length≤9223372036854775807∧(xs.length+ys.length) * ei.bytes≤140737488355328)
 (g:SOps C n L.toArray l ((d,.v (.one (.own i)))::bw (jQ i tm) d) (cK mm i (.arr false e sz (xs++ys))) T):SOps C n L.toArray (o::l) tm mm T:=
 dO (B5 bI ho ht fm hz c8 mS hx hi hy iF fO hd hn gx).wp hg g
theorem Ev{Θ:dD}(bI:bz C.P Θ){t:TypeId}{x y:Operand}{z dG e:Nat}{ag:Bool}{zt:Option (List CT)}{ei:gD}{zr:List CT}(i:Nat){zZ:Bool}{sz:Nat}{ys:List (List CT)}{T:TM→MM→Prop}
 (ho:o.op=.call {callee:=.builtin .append,args:=⟨[x,y]⟩,argTypes:=⟨[t,t]⟩})(ht:aZ Θ t=some ⟨z,dG,ag,zt,.slice e⟩)(fm:aZ Θ e=some ei)(hz:ei.zero=some zr)
 (c8:Nat.beq ei.size sz=true)(mS:Nat.blt 0 ei.size=true)(hx:aW tm x=some (.c .bK))(hy:aW tm y=some (.c (.slice zZ sz ys)))
 (iF:Nat.blt i given=true)(hf:iW mm i=false)(fO:ed i ((i,.arr false e sz [])::mm)=true)(hd:o.dst=some d)(hn:Nat.blt d n=true)(hg:bp L tm o=some true)
 (gx:ys.length≤9223372036854775807∧ys.length * ei.bytes≤140737488355328)
 (g:SOps C n L.toArray l ((d,.v (.one (.own i)))::bw (jQ i tm) d) ((i,.arr false e sz ys)::mm) T):SOps C n L.toArray (o::l) tm mm T:=
 dO (B4 bI i ho ht fm hz c8 mS hx hy iF hf fO hd hn gx).wp hg g
theorem dV{T:TM→MM→Prop}(ho:o.op=.assign x)(hd:o.dst=some d)(hn:Nat.blt d n=true)(hg:bp L tm o=some true)
 (k:SOps C n L.toArray l ((d,.v (.one .any))::bw tm d) mm T):SOps C n L.toArray (o::l) tm mm T:=
 dO (eO.wp (eO.val hd hn (.v (.one .any)) fun H Z a w hm=>⟨a.eval x,by simp[execOp,ho,Sem.run_pure],trivial⟩)) hg k
theorem JW{g:FuncId}{args:List SV}{cs:List CT}{T:TM→MM→Prop}(hc:L1 C.P g args cs){xs:Array Operand}{ts:Array TypeId}
 (ho:o.op=.call {callee:=.value (.func g),args:=xs,argTypes:=ts})(cE:da tm xs.toList=some args)(iV:iO [] args=some args)
 (hi:getM mm d=none)(hd:o.dst=some d)(hn:Nat.blt d n=true)(hg:bp L tm o=some true)
 (k:SOps C n L.toArray l ((d,.v (.one (.ptr d 0)))::bw tm d) ((d,.box (cs.map SC.c))::mm) T):SOps C n L.toArray (o::l) tm mm T:=
 dO (Hj hc ho cE iV hi hd hn) hg k
end
def Ut(Q:ST→Prop)(H:Nat→Value)(Z:Nat→Nat)(pre post:List (List CT))(w:World)(M0:Nat→Prop)(e:Ending)(w':World):Prop:=
 ∃res,Q res∧Jq H Z pre post w M0 res e w'
structure Pb(P:Program)(f:FuncId)(pre:List (List CT))(args:List SV)(Q:ST→Prop)(post:List (List CT)):Prop where
 ok:kQ P f
 calls:∀(w:World) (M0:Nat→Prop) (H:Nat→Value) (Z:Nat→Nat) (vs:List Value),te w M0 H Z (bU given pre)→
  Pw (fun v s=>cF (cD (bU given pre)) H Z w (fun b=>M0 b∨bP H (bU given pre) b) v s) vs args→
  Calls P f vs.toArray w (Ut Q H Z pre post w M0)
section
variable {C:Ctx} {n:Nat} {tm:TM} {mm:MM} {L l:List Oper} {T:TM→MM→Prop} {o:Oper} {d:Nat}
end
end Go.Sy
namespace Go.Sy
open Go.RowKit
section
variable {C:Ctx} {n:Nat} {tm:TM} {mm:MM} {L l:List Oper} {T:TM→MM→Prop} {o:Oper} {d:Nat} {f:FuncId} {R:Ending→World→Prop} {k:List Item}
theorem Has.Us{i j:Nat}{cs:List SC}(hi:getM mm i=some (.box cs)){a:Act}{w:World}(h:Has C n tm mm a w):
 Has C n tm (cK mm i (.box (mr cs j .any))) a w:=by
 obtain⟨H,Z,hm⟩:=h
 obtain⟨b,ty,vs,h1,h2,h3,h4⟩:=hm.mem _ (aN hi)
 have hI:∀q,cD mm q→cD (cK mm i (.box (mr cs j .any))) q:=fun q hq=>(eI q).2 hq
 refine⟨H,Z,hm.jf (b0:=b) ⟨_,aN hi,rfl⟩ (by rw[show H i=_ from h1];rfl) (Ext.refl _ _) hm.defers hm.size ?_ (fun q hq=>⟨hq,rfl⟩)⟩
 intro iH iA
 refine⟨b,ty,vs,h1,h2,by rw[ia];simpa using h3,fun j' c hc=>?_⟩
 rw[ia,cY]at hc
 split at hc
 ·rename_i Fi
  subst Fi
  split at hc
  ·rename_i bo
   injection hc with hc
   subst hc
   obtain⟨u,hu,ho,_⟩:=h4 j _ (aa bo)
   exact⟨u,hu,ho,trivial⟩
  ·cases hc
 ·obtain⟨u',lY,dX,ga⟩:=h4 j' c hc
  exact⟨u',lY,dX,ga.mono (fun q _ hq=>⟨hI q hq,rfl,rfl⟩) (aA _) (fun _ _ _=>rfl) iH⟩
theorem pj(i j:Nat){cs:List SC}(hi:getM mm i=some (.box cs))(g:SOps C n L.toArray l tm (cK mm i (.box (mr cs j .any))) T):SOps C n L.toArray l tm mm T:=
 g.mono fun _ _ h=>h.Us hi
end
end Go.Sy
namespace Go.Sy
open Go.RowKit
theorem dy.le{P:Program}{f:FuncId}{pre post:List (List CT)}{args:List SV}{res res':ST}(h:dy P f pre args res post)(hl:Eh res res'):dy P f pre args res' post:=
 ⟨h.ok,fun w M0 H Z vs hp hv=>(h.calls w M0 H Z vs hp hv).mono fun _ _ ⟨v,h1,h2,h3,h4⟩=>⟨v,h1,h2,h3,hl.rep h4⟩⟩
theorem vQ.yo:∀{x y:List CT},vQ x y→x.length=y.length∧∀(j:Nat) (c d:CT),x[j]? =some c→y[j]? =some d→sF c d
 |_,_,.nil=>⟨rfl,fun j c d h _=>by simp at h⟩
 |_,_,.cons h k=>by
  obtain⟨k1,k2⟩:=k.yo
  refine⟨by simp[k1],fun j c d hc hd=>?_⟩
  cases j with
  |zero=>simp at hc hd;subst hc hd;exact h
  |succ j=>exact k2 j c d (by simpa using hc) (by simpa using hd)
theorem Bn.yo:∀{xs ys:List (List CT)},Bn xs ys→xs.length=ys.length∧∀(i:Nat) (x y:List CT),xs[i]? =some x→ys[i]? =some y→x.length=y.length∧∀(j:Nat) (c d:CT),x[j]? =some c→y[j]? =some d→sF c d
 |_,_,.refl l=>⟨rfl,fun i x y hx hy=>by
   rw[hx]at hy;injection hy with hy;subst hy
   exact⟨rfl,fun j c d hc hd=>by rw[hc]at hd;injection hd with hd;subst hd;exact .refl _⟩⟩
 |_,_,.nil=>⟨rfl,fun i x y h _=>by simp at h⟩
 |_,_,.cons h k=>by
  obtain⟨k1,k2⟩:=k.yo
  refine⟨by simp[k1],fun i x y hx hy=>?_⟩
  cases i with
  |zero=>simp at hx hy;subst hx hy;exact h.yo
  |succ i=>exact k2 i x y (by simpa using hx) (by simpa using hy)
 |_,_,.append (a:=a) (b:=b) h k=>by
  obtain⟨h1,h2⟩:=h.yo
  obtain⟨k1,k2⟩:=k.yo
  refine⟨by simp[h1,k1],fun i x y hx hy=>?_⟩
  by_cases hi:i < a.length
  ·rw[aG hi]at hx
   rw[aG (by omega)]at hy
   exact h2 i x y hx hy
  ·rw[aO (by omega)]at hx
   rw[aO (by omega)]at hy
   rw[←h1]at hy
   exact k2 _ x y hx hy
theorem DM{nn:Bool}{sz:Nat}{xs ys:List (List CT)}(h:Bn xs ys):sF (.slice nn sz xs) (.slice nn sz ys):=
 .deep h.yo.1 (fun i x y hx hy=>(h.yo.2 i x y hx hy).1) (fun i j x y c d hx hy hc hd=>(h.yo.2 i x y hx hy).2 j c d hc hd)
section
variable {C:Ctx} {n:Nat} {tm:TM} {mm:MM} {L l:List Oper} {T:TM→MM→Prop} {o:Oper} {d:Nat} {f:FuncId} {R:Ending→World→Prop} {k:List Item}
theorem Has.SF{i j:Nat}{cs:List SC}{x y:CT}(hi:getM mm i=some (.box cs))(hj:py cs j=some (.c x))(hle:sF x y){a:Act}{w:World}(h:Has C n tm mm a w):
 Has C n tm (cK mm i (.box (mr cs j (.c y)))) a w:=by
 obtain⟨H,Z,hm⟩:=h
 rw[mB]at hj
 obtain⟨b,ty,vs,h1,h2,h3,h4⟩:=hm.mem _ (aN hi)
 obtain⟨u,hu,ho,hr⟩:=h4 j _ hj
 have hI:∀q,cD mm q→cD (cK mm i (.box (mr cs j (.c y)))) q:=fun q hq=>(eI q).2 hq
 have eC:=(ai.1 hj).1
 refine⟨H,Z,hm.jf (b0:=b) ⟨_,aN hi,rfl⟩ (by rw[show H i=_ from h1];rfl) (Ext.refl _ _) hm.defers hm.size ?_ (fun q hq=>⟨hq,rfl⟩)⟩
 intro iH iA
 refine⟨b,ty,vs,h1,h2,by rw[ia];simpa using h3,fun j' c hc=>?_⟩
 rw[ia,cY]at hc
 split at hc
 ·rename_i Fi
  subst Fi
  injection hc with hc
  subst hc
  exact⟨u,hu,ho,a7.mono (hle.rep hr) (aA _) (fun _ _ _=>rfl) iH⟩
 ·obtain⟨u',lY,dX,ga⟩:=h4 j' c hc
  exact⟨u',lY,dX,ga.mono (fun q _ hq=>⟨hI q hq,rfl,rfl⟩) (aA _) (fun _ _ _=>rfl) iH⟩
end
end Go.Sy
namespace Go.Sy
open Go.RowKit
section
variable {C:Ctx} {n:Nat} {tm:TM} {mm:MM} {L l:List Oper} {T:TM→MM→Prop} {o:Oper} {d:Nat}
end
end Go.Sy
namespace Go.Sy
open Go.RowKit
theorem qE{i:Nat}{p:Nat×ST}(hn:i∉p.2.bD):∀{l:TM},p∈l→p∈jQ i l
 |[],h=>by cases h
 |(t,s)::r,h=>by
  unfold jQ
  split
  ·rename_i hm
   rcases ae.1 h with rfl|h
   ·exact absurd (cz.1 hm) hn
   ·exact qE hn h
  ·rcases ae.1 h with rfl|h
   ·exact ah
   ·exact ab _ (qE hn h)
section
variable {C:Ctx} {n:Nat} {eh mm:MM} {L l:List Oper} {cp tm:TM} {R:List Rec} {i:Nat} {o:Oper} {d t:Nat} {T:TM→MM→Prop} {x y:Operand} {s:ST}
theorem nM(ids:List Nat){R0:List Rec}{f:FuncId}{Rr:Ending→World→Prop}{k:List Item}{id:Nat}(mE:C.P.follows .mixedOrders=true)(dp:EB L.length mm ids=some R0)(Im:ids.all (fun i=>!fw (bV L) i)=true)(_hst:L.any (fun o=>o.dst.isNone)=true)
 (b7:kX L [] L 0=true)(hu:q5 (bV L) (gJ (bV L) tm)=true)
 (h:EOps C n (eT ids mm) L (gJ (bV L) tm) 0 L (gJ (bV L) tm) R0 (fun tm' mm'=>Goes C f n Rr k tm' mm')):Goes C f n Rr (.code (.region id L.toArray true)::k) tm mm:=
 (D0 ids mE dp Im b7 hu h).mono fun _ _ hh=>hh.lA fun _ hp=>jR hp
end
end Go.Sy
namespace Go.Sy
open Go.RowKit
theorem a7.take{w:World}{M:Nat→Prop}{a:Option Addr}{len cap:Nat}{nn:Bool}{sz:Nat}{xs:List (List CT)}(h:a7 w M (.slice a len cap) (.slice nn sz xs)){j:Nat}(hj:j≤xs.length):
 a7 w M (.slice a j cap) (.slice nn sz (xs.take j)):=by
 cases h with
 |slice u hlen j3 kY sv c8 yT cL=>
  have jN:∀(i:Nat) (y:List CT),(xs.take j)[i]? =some y→xs[i]? =some y:=fun i y hy=>by
   rw[b9]at hy
   split at hy
   ·exact hy
   ·cases hy
  exact .slice u (by simp;omega) (by omega) kY sv (fun y hy=>c8 y (List.mem_of_mem_take hy)) (fun hp=>by
   obtain⟨ad,h1,h2,h3,h4,h5⟩:=yT (by simp at hp;omega)
   exact⟨ad,h1,h2,h3,h4,fun i y hy=>h5 i y (jN i y hy)⟩) (fun i y hy=>cL i y (jN i y hy))
theorem a7.drop{w:World}{M:Nat→Prop}{a:Option Addr}{len cap:Nat}{nn:Bool}{sz:Nat}{xs:List (List CT)}(h:a7 w M (.slice a len cap) (.slice nn sz xs)){j:Nat}(hj:j≤xs.length):
 a7 w M (.slice (if cap=j then a else a.map (·.add (j * sz))) (len - j) (cap - j)) (.slice nn sz (xs.drop j)):=by
 cases h with
 |slice u hlen j3 kY sv c8 yT cL=>
  refine .slice (fun i q=>u (j+i) q) (by simp;omega) (by omega) (by omega) (fun h=>?_) (fun y hy=>c8 y (List.mem_of_mem_drop hy)) (fun hp=>?_) (fun i y hy q c hc=>?_)
  ·have:=sv h
   split
   ·exact this
   ·cases a with
    |none=>exact this
    |some ad=>rfl
  ·simp at hp
   obtain⟨ad,rfl,h2,h3,h4,h5⟩:=yT (by omega)
   rw[if_neg (by omega)]
   refine⟨ad.add (j * sz),rfl,qP h2 _,by rw[gA];exact h3,by rw[gA];exact h4,fun i y hy q c hc=>?_⟩
   rw[add_add,show j * sz+(i * sz+q)=(j+i) * sz+q by rw[dt];omega]
   rw[ca]at hy
   exact h5 (j+i) y hy q c hc
  ·rw[ca]at hy
   exact cL (j+i) y hy q c hc
section
variable {C:Ctx} {n:Nat} {tm:TM} {mm:MM} {o:Oper} {d:Nat}
theorem xV{Θ:dD}(bI:bz C.P Θ){t:TypeId}{x y:Operand}{nn:Bool}{sz:Nat}{xs:List (List CT)}{k:IntKind}{m:Int}{j e:Nat}{z dG:Nat}{ag:Bool}{zr:Option (List CT)}{ei:gD}
 (ho:o.op=.slice t x (some y) none none)(ht:aZ Θ t=some ⟨z,dG,ag,zr,.slice e⟩)(fm:aZ Θ e=some ei)(c8:Nat.beq ei.size sz=true)
 (hx:aW tm x=some (.c (.slice nn sz xs)))(hi:aW tm y=some (.c (.int k m)))(hm:m=(j:Int))(hj:j≤xs.length)(hd:o.dst=some d)(hn:Nat.blt d n=true):
 eO C n o tm mm d (.v (.one (.c (.slice nn sz (xs.drop j))))):=
 eO.val hd hn _ fun H Z A w dC=>by
  have h2:A.eval y=.int k m:=a7.cH (aX dC hi)
  have h1:a7 w (cU C H mm) (A.eval x) (.slice nn sz xs):=aX dC hx
  obtain⟨inf,de,hf⟩:=jH bI ht
  obtain⟨lX,yU,iG⟩:=jH bI fm
  have kZ:de=.slice e:=by
   have:=hf.sh
   cases de<;>simp[eR]at this⊢
   exact this
  subst kZ
  subst hm
  have Ct:ei.size=sz:=aR c8
  obtain⟨a,len,cap,hA⟩:∃a len cap,A.eval x=.slice a len cap:=by
   generalize A.eval x=v at h1
   cases h1 with
   |slice u hlen j3 kY sv NS yT cL=>exact⟨_,_,_,rfl⟩
  rw[hA]at h1
  have hlc:len=xs.length∧len≤cap:=by cases h1;exact⟨by assumption,by assumption⟩
  refine⟨_,?_,h1.drop hj⟩
  have yS:(0:Int)≤(j:Int)∧(j:Int)≤(len:Int):=by omega
  simp[execOp,ho,hA,h2,Instr.sliceAt,Instr.slice,Instr.sliceBounds,Instr.sliceBound,asIntOf,hf.underlying,iG.sizeOf,yS,Ct]
  intro dB;omega
end
section
variable {C:Ctx} {n:Nat} {eh:MM} {L l:List Oper} {cp tm:TM} {R:List Rec} {i:Nat} {o:Oper} {d t:Nat} {T:TM→MM→Prop} {x y:Operand} {ty sI:TypeId} {mm:MM}
end
section
variable {C:Ctx} {n:Nat} {tm:TM} {mm:MM} {L l:List Oper} {T:TM→MM→Prop}
theorem L3(t:Nat)(s':ST){s:ST}(ht:iX tm t=some s)(hle:Eh s s')(g:SOps C n L.toArray l ((t,s')::bw tm t) mm T):SOps C n L.toArray l tm mm T:=by
 refine g.mono fun a w ⟨H,Z,hm⟩=>⟨H,Z,{hm with tmps:=fun p hp=>?_}⟩
 rcases ae.1 hp with rfl|hp
 ·exact hle.rep (hm.tmps _ (gk ht))
 ·exact hm.tmps p (b4 hp).1
end
end Go.Sy
