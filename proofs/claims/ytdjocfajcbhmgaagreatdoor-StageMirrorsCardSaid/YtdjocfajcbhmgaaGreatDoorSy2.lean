/- The symbolic layer, bundle Sy2. -/
import Derived.Test.YtdjocfajcbhmgaaGreatDoorSy1
import Derived.Tactics
import Derived.Scope
import Derived.IntWalk
import Derived.Orders
set_option linter.unusedSimpArgs false
set_option linter.unusedVariables false
set_option linter.unusedSectionVars false
namespace Go.Sy
open Go.RowKit
section
variable {C:Ctx} {n:Nat} {tm:TM} {mm:MM} {o:Oper} {d:Nat}
theorem iS{p:BinOp}{t t':TypeId}{x y:Operand}{k:IntKind}{a b r:Int}(ho:o.op=.binOp p t x y t')
 (hx:aW tm x=some (.c (.int k a)))(hy:aW tm y=some (.c (.int k b)))
 (hr:match p with
   |.add=>k.wrap (a+b)=r
   |.sub=>k.wrap (a - b)=r
   |.mul=>k.wrap (a * b)=r
   |.rem=>b≠0∧a.tmod b=r
   |.quo=>b≠0∧k.wrap (a.tdiv b)=r
   |_=>False)(hd:o.dst=some d)(hn:Nat.blt d n=true):
 eO C n o tm mm d (.v (.one (.c (.int k r)))):=
 eO.val hd hn _ fun H Z A w hm=>by
  have h1:A.eval x=.int k a:=a7.cH (aX hm hx)
  have h2:A.eval y=.int k b:=a7.cH (aX hm hy)
  refine⟨.int k r,?_,.int _ _⟩
  cases p<;>simp only at hr<;>first|exact hr.elim|(subst hr;simp[execOp,ho,h1,h2,eqGuard,binOp,Op.intArith])|(obtain⟨h0,rfl⟩:=hr;simp[execOp,ho,h1,h2,eqGuard,binOp,Op.intDiv,h0])
theorem Kk{t t':TypeId}{x y:Operand}{a b:ByteArray}(ho:o.op=.binOp .add t x y t')
 (hx:aW tm x=some (.c (.str a)))(hy:aW tm y=some (.c (.str b)))(hr:a.size+b.size≤9223372036854775807)(hd:o.dst=some d)(hn:Nat.blt d n=true):
 eO C n o tm mm d (.v (.one (.c (.str (a++b))))):=
 eO.val hd hn _ fun H Z A w hm=>by
  have h1:A.eval x=.string a:=a7.fo (aX hm hx)
  have h2:A.eval y=.string b:=a7.fo (aX hm hy)
  refine⟨.string (a++b),?_,.str _⟩
  have:¬((a.size+b.size:Nat):Int) > IntKind.i64.max:=by
   simp[IntKind.max,IntKind.bits,IntKind.signed];omega
  simp only[execOp,ho,h1,h2,eqGuard,binOp,Op.stringOp,Sem.run_bind]
  rw[if_neg this]
  simp
theorem EH{t:TypeId}{x i:Operand}{s:ByteArray}{k:IntKind}{m:Int}{j:Nat}{b:UInt8}{Θ:dD}(bI:bz C.P Θ){z dG:Nat}{ag:Bool}{zr:Option (List CT)}
 (ho:o.op=.index t x i)(ht:aZ Θ t=some ⟨z,dG,ag,zr,.string⟩)
 (hx:aW tm x=some (.c (.str s)))(hi:aW tm i=some (.c (.int k m)))(hm:m=(j:Int))(hb:s.data.toList[j]? =some b)(hd:o.dst=some d)(hn:Nat.blt d n=true):
 eO C n o tm mm d (.v (.one (.c (.int .u8 (b.toNat:Int))))):=
 eO.val hd hn _ fun H Z A w dC=>by
  have h1:A.eval x=.string s:=a7.fo (aX dC hx)
  have h2:A.eval i=.int k m:=a7.cH (aX dC hi)
  obtain⟨inf,de,hf⟩:=jH bI ht
  have kZ:de=.string:=by
   have:=hf.sh
   cases de<;>simp[eR]at this⊢
  subst kZ
  subst hm
  refine⟨.int .u8 (b.toNat:Int),?_,.int _ _⟩
  have hs:s[j]? =some b:=by
   obtain⟨hl,he⟩:=ai.1 hb
   have K2:j < s.size:=by simpa using hl
   rw[getElem?_pos s j K2,←he]
   rfl
  simp[execOp,ho,h1,h2,Instr.index,asIntOf,hf.underlying,hs]
theorem xY{t:TypeId}{x i:Operand}{nn:Bool}{sz:Nat}{xs:List (List CT)}{cs:List CT}{k:IntKind}{m:Int}{j e:Nat}{Θ:dD}(bI:bz C.P Θ)
 {z dG:Nat}{ag:Bool}{zr:Option (List CT)}{ei:gD}
 (ho:o.op=.indexAddr t x i)(ht:aZ Θ t=some ⟨z,dG,ag,zr,.slice e⟩)(fm:aZ Θ e=some ei)(c8:Nat.beq ei.size sz=true)
 (hx:aW tm x=some (.c (.slice nn sz xs)))(hi:aW tm i=some (.c (.int k m)))(hm:m=(j:Int))(hj:xs[j]? =some cs)(hd:o.dst=some d)(hn:Nat.blt d n=true):
 eO C n o tm mm d (.v (.one (.hC cs))):=
 eO.val hd hn _ fun H Z A w dC=>by
  have h2:A.eval i=.int k m:=a7.cH (aX dC hi)
  have h1:a7 w (cU C H mm) (A.eval x) (.slice nn sz xs):=aX dC hx
  obtain⟨inf,de,hf⟩:=jH bI ht
  obtain⟨lX,yU,iG⟩:=jH bI fm
  have kZ:de=.slice e:=by
   have:=hf.sh
   cases de<;>simp[eR]at this⊢
   exact this
  subst kZ
  subst hm
  have Ct:ei.size=sz:=aR c8
  have bo:j < xs.length:=(ai.1 hj).1
  generalize hA:A.eval x=v at h1
  cases h1 with
  |slice u hlen j3 kY sv NS yT cL=>
   obtain⟨ad,rfl,h3,h4,h5,h6⟩:=yT (by omega)
   refine⟨.pointer (some (ad.add (j * sz))),?_,ad.add (j * sz),rfl,qP h3 _,by rw[gA];exact h4,by rw[gA];exact h5,fun q c hc=>?_⟩
   ·have eC:((j:Nat):Int) < ((xs.length:Nat):Int):=by omega
    simp[execOp,ho,hA,h2,Instr.indexAt,asIntOf,hf.underlying,hlen,iG.sizeOf,Ct]
    intro dB;omega
   ·rw[add_add]
    exact⟨u j q,h6 j cs hj q c hc,cL j cs hj q c hc⟩
theorem tW{t:TypeId}{x i:Operand}{id:Nat}{nn:Bool}{sz:Nat}{xs:List (List CT)}{k:IntKind}{m:Int}{j e e':Nat}{Θ:dD}(bI:bz C.P Θ)
 {z dG:Nat}{ag:Bool}{zr:Option (List CT)}{ei:gD}
 (ho:o.op=.indexAddr t x i)(ht:aZ Θ t=some ⟨z,dG,ag,zr,.slice e⟩)(fm:aZ Θ e=some ei)(c8:Nat.beq ei.size sz=true)
 (hx:aW tm x=some (.own id))(hid:getM mm id=some (.arr nn e' sz xs))(hi:aW tm i=some (.c (.int k m)))(hm:m=(j:Int))(hj:j < xs.length)(hd:o.dst=some d)(hn:Nat.blt d n=true):
 eO C n o tm mm d (.v (.one (.iu id j 0))):=
 eO.val hd hn _ fun H Z A w dC=>by
  have h2:A.eval i=.int k m:=a7.cH (aX dC hi)
  obtain⟨hI,h1⟩:=aX dC hx
  obtain⟨hz,us,g1,_⟩:=dC.mem _ (aN hid)
  obtain⟨inf,de,hf⟩:=jH bI ht
  obtain⟨lX,yU,iG⟩:=jH bI fm
  have kZ:de=.slice e:=by
   have:=hf.sh
   cases de<;>simp[eR]at this⊢
   exact this
  subst kZ
  subst hm
  have Ct:ei.size=sz:=aR c8
  simp only at hz g1
  rcases g1.2 with⟨_,h0⟩|⟨g,cap,cur,hv,_⟩
  ·omega
  ·rw[hv]at h1
   refine⟨.pointer (some ⟨g,j * sz,none⟩),?_,hI,g,by rw[hv];rfl,by rw[hz];rfl⟩
   have eC:((j:Nat):Int) < ((xs.length:Nat):Int):=by omega
   simp[execOp,ho,h1,h2,Instr.indexAt,asIntOf,hf.underlying,iG.sizeOf,Ct,jF]
   intro dB;omega
theorem qj{Θ:dD}(bI:bz C.P Θ){t:TypeId}{ti:gD}{x:Operand}{i j off e sz:Nat}{nn:Bool}{xs:List (List CT)}{cs ys:List CT}{s:SV}
 (ho:o.op=.load t x)(ht:aZ Θ t=some ti)(hx:aW tm x=some (.iu i j off))(hi:getM mm i=some (.arr nn e sz xs))(hj:xs[j]? =some cs)
 (hs:vu cs off ti.size=some ys)(hv:qn SC.c ti.agg ys=some s)(hd:o.dst=some d)(hn:Nat.blt d n=true):
 eO C n o tm mm d (.v s):=
 eO.val hd hn _ fun H Z a w hm=>by
  obtain⟨inf,de,hf⟩:=jH bI ht
  obtain⟨hz,us,g1,g2,g3,g4⟩:=hm.mem _ (aN hi)
  obtain⟨_,b,hb,yh⟩:=aX hm hx
  simp only at hz g1 g4
  rw[hz]at yh
  have bo:j < xs.length:=(ai.1 hj).1
  have vi:cs.length=sz:=g3 cs (an hj)
  obtain⟨e1,e2⟩:=q9 hs
  have dF:∀q u,us[q]? =some u→w.cell? ⟨b,q,none⟩=some u:=by
   intro q u hq
   have pP:(H i).ownBlock=some b:=by rw[←lD g1];exact hb
   have:=World.ownsRow.cells g1 pP q u hq
   rwa [jF,fA]at this
  have DW:∀m,m≤ys.length→∃vs:List Value,vs.length=m∧(∀(q:Nat) (u:Value),vs[q]? =some u→w.cell? ((⟨b,j * sz+off,none⟩:Addr).add q)=some u)∧
   Pw (fun u c=>a7 w (cU C H mm) u c) vs (ys.take m):=by
   intro m
   induction m with
   |zero=>intro _;exact⟨[],rfl,fun q u hu=>by simp at hu,by simpa using Pw.nil⟩
   |succ m ih=>
    intro QI
    obtain⟨vs,k1,k2,k3⟩:=ih (by omega)
    have SM:ys[m]? =cs[off+m]? :=by
     rw[e1,b9,if_pos (by omega),ca]
    have hy:ys[m]? =some ys[m]:=aa (by omega)
    obtain⟨u,hu,hr⟩:=g4 j cs hj (off+m) ys[m] (by rw[←SM,hy])
    refine⟨vs++[u],by simp[k1],fun q v hq=>?_,?_⟩
    ·rw[bN]at hq
     split at hq
     ·exact k2 q v hq
     ·rename_i V1
      have Of:q - vs.length=0:=by
       rcases pR (q - vs.length)with h0|h0
       ·exact h0
       ·rw[cR (by simp;omega)]at hq;cases hq
      rw[Of]at hq
      simp at hq;subst hq
      have:q=m:=by omega
      subst this
      rw[jF]
      exact dF _ _ (by rw[←hu];congr 1;omega)
    ·rw[aD (by omega)]
     exact k3.append (Pw.cons hr Pw.nil)
  obtain⟨vs,k1,k2,k3⟩:=DW ys.length (aA _)
  rw[bC]at k3
  obtain⟨v,hr,q1,q2⟩:=gj (w:=w) hf ⟨b,j * sz+off,none⟩ vs (by rw[k1,e2]) k2 (fun ha=>by
   rw[k1]
   rw[ha]at hv
   unfold qn at hv
   split at hv<;>first|(rename_i hh;cases hh;done)|rfl|(cases hv;done))
  refine⟨v,by simp[execOp,ho,yh,Instr.loadAt,Instr.sureAddr,hr],?_⟩
  exact qm (f:=SC.c) hv k3 q1 q2
def hJ:List SC→Option (List CT)
 |[]=>some []
 |.c x::r=>match hJ r with
  |some l=>some (x::l)
  |none=>none
 |.lit b::r=>match hJ r with
  |some l=>some (.bool b::l)
  |none=>none
 |_::_=>none
theorem iZ{I:Nat→Prop}{H:Nat→Value}{Z:Nat→Nat}{w:World}{M:Nat→Prop}:∀{l:List SC} {r:List CT} {us:List Value},hJ l=some r→
 Pw (fun u c=>bR I H Z w M u c) us l→Pw (fun u c=>a7 w M u c) us r
 |[],r,us,h,hp=>by
  simp[hJ]at h;subst h
  exact⟨hp.1,fun j c hc=>by simp at hc⟩
 |s::l,r,us,h,hp=>by
  match us,hp with
  |[],hp=>exact absurd hp.1 (by simp)
  |u::us,hp=>
   have DP:Pw (fun u c=>bR I H Z w M u c) us l:=⟨by simpa using hp.1,fun j c hc=>by simpa using hp.2 (j+1) c (by simpa using hc)⟩
   obtain⟨u',lY,hr⟩:=hp.2 0 s J
   simp at lY;subst lY
   cases s<;>simp only[hJ]at h<;>try(cases h;done)
   ·split at h
    ·rename_i x r' ga
     injection h with h;subst h
     exact Pw.cons hr (iZ ga DP)
    ·cases h
   ·split at h
    ·rename_i r' ga
     injection h with h;subst h
     exact Pw.cons (by rw[show u=.bool _ from hr];exact .bool _) (iZ ga DP)
    ·cases h
def qM:Nat→List SC
 |0=>[]
 |n+1=>.any::qM n
theorem yF(n:Nat):qM n=List.replicate n SC.any:=by
 induction n with
 |zero=>rfl
 |succ n ih=>simp[qM,ih,List.replicate_succ]
def kO(sz:Nat):Nat→List CT→Option (List (List CT))
 |0,[]=>some []
 |0,_::_=>none
 |n+1,l=>match pY l sz with
  |some a=>match qF l sz with
   |some b=>match kO sz n b with
    |some r=>some (a::r)
    |none=>none
   |none=>none
  |none=>none
theorem nP(sz:Nat):∀{n:Nat} {l:List CT} {r:List (List CT)},kO sz n l=some r→
 r.length=n∧(∀x∈r,x.length=sz)∧l.length=n * sz∧∀(k:Nat) (x:List CT),r[k]? =some x→∀(j:Nat) (c:CT),x[j]? =some c→l[k * sz+j]? =some c
 |0,[],r,h=>by simp[kO]at h;subst h;simp
 |0,_::_,r,h=>by simp[kO]at h
 |n+1,l,r,h=>by
  unfold kO at h
  split at h
  ·rename_i a ha
   split at h
   ·rename_i b hb
    split at h
    ·rename_i r' ga
     injection h with h;subst h
     obtain⟨t1,t2⟩:=mn ha
     have t3:=kM hb
     obtain⟨c1,c2,c3,c4⟩:=nP sz ga
     have mT:l.length=(n+1) * sz:=by
      have:l.length=a.length+b.length:=by
       rw[t1,t3,←aL,List.take_append_drop]
      rw[this,t2,c3,dt];omega
     refine⟨by simp[c1],fun x hx=>?_,mT,fun k x hk j c hc=>?_⟩
     ·rcases ae.1 hx with rfl|hx
      ·exact t2
      ·exact c2 x hx
     ·cases k with
      |zero=>
       simp at hk;subst hk
       rw[t1,b9]at hc
       split at hc
       ·simpa using hc
       ·cases hc
      |succ k=>
       simp at hk
       have:=c4 k x hk j c hc
       rw[t3,ca]at this
       rw[←this];congr 1;rw[dt];omega
    ·cases h
   ·cases h
  ·cases h
theorem vC{Θ:dD}(bI:bz C.P Θ){t:TypeId}{z dG e len:Nat}{ag:Bool}{zt:Option (List CT)}{ei:gD}{zr:List CT}{parts:Array (Nat×Operand)}{r:List SC}{cts:List CT}{xs:List (List CT)}
 (ho:o.op=.buildSlice t len parts)(ht:aZ Θ t=some ⟨z,dG,ag,zt,.slice e⟩)(fm:aZ Θ e=some ei)(hz:ei.zero=some zr)
 (hb:Nat.ble (len * ei.size) 16777216=true)(mS:Nat.blt 0 ei.size=true)
 (hl:mY (fun i=>some (i * ei.size,ei.size)) tm (qM (len * ei.size)) parts.toList=some r)(hc:hJ r=some cts)(hx:kO ei.size len cts=some xs)
 (hi:getM mm d=none)(hd:o.dst=some d)(hn:Nat.blt d n=true):
 yW C n o tm mm ((d,.v (.one (.own d)))::bw tm d) ((d,.arr true e ei.size xs)::mm):=by
 intro a w ⟨H,Z,hm⟩
 obtain⟨inf,de,hf⟩:=jH bI ht
 obtain⟨lX,yU,iG⟩:=jH bI fm
 obtain⟨zv,Aw,vH,Cp⟩:=iG.zero zr hz
 obtain⟨h1,h2⟩:=e7 (w:=w) (M:=cU C H mm) vH
 have kZ:de=.slice e:=by
  have:=hf.sh
  cases de<;>simp[eR]at this⊢
  exact this
 subst kZ
 have CD:len * ei.size≤16777216:=fR.mp hb
 have nG:0 < ei.size:=aY.mp mS
 have NK:zv.cells.size=ei.size:=by rw[h1,Cp]
 let init:Array Value:=(Array.range (len * ei.size)).map ((if len * ei.size=0 then#[]else zv.cells)[·% (if len * ei.size=0 then#[]else zv.cells).size]!)
 have hp:Pw (fun u c=>u.oneCell'=true∧bR (cD mm) H Z w (cU C H mm) u c) init.toList (qM (len * ei.size)):=by
  rw[yF]
  refine⟨by simp[init],fun j c hc=>?_⟩
  have hj:j < len * ei.size:=by
   have:=(ai.1 hc).1
   simpa using this
  rw[gM,if_pos hj]at hc
  injection hc with hc;subst hc
  have cj:len * ei.size≠0:=by omega
  refine⟨zv.cells[j % zv.cells.size]!,by simp[init,hj,cj],?_,trivial⟩
  have bo:j % zv.cells.size < zv.cells.size:=vl _ (by rw[NK];exact nG)
  have Ie:j % zv.cells.size < zr.length:=by rw[←h1];exact bo
  obtain⟨u,hu,hr⟩:=h2 (j % zv.cells.size) zr[j % zv.cells.size] (aa Ie)
  rw[getElem!_def,hu]
  exact hr.one
 obtain⟨lN,g1,g2⟩:=ks hm _ parts.toList _ _ r hp hl
 have g3:Pw (fun u c=>a7 w (cU C H mm) u c) lN.toList cts:=iZ hc (g2.mono fun _ _ _ h=>h.2)
 obtain⟨c1,c2,c3,c4⟩:=nP _ hx
 have Qc:lN.size=len * ei.size:=by have:=g3.1;rw[c3]at this;simpa using this
 have dQ:(execOp a.eval o).run C.P w=.ok (.value (.slice (some ⟨w.heap.size,0,none⟩) len len)) (w.alloc (.cells lN e)):=by
  have jm:Instr.fill (fun i=>some (i * ei.size,ei.size)) init (parts.map fun(i,x)=>(i,a.eval x)).toList=some lN:=by
   rw[←g1,mW]
  simp only[execOp,ho,Instr.buildSlice,Sem.run_bind,hf.underlying,Result.andThen_ok,iG.sizeOf]
  rw[if_neg (by omega)]
  simp only[init]at jm
  by_cases h0:len * ei.size=0
  ·rw[if_pos h0]at jm
   rw[if_pos h0]
   simp only[Sem.run_bind,Sem.run_pure,Result.andThen_ok,jm]
   simp[newRow,newObj,Sem.run]
  ·rw[if_neg h0]at jm
   rw[if_neg h0]
   simp only[Sem.run_bind,Sem.run_pure,Result.andThen_ok,iG.zeroValue Aw,jm]
   simp[newRow,newObj,Sem.run]
 refine .inl ⟨_,_,dQ,jf H d (.slice (some ⟨w.heap.size,0,none⟩) len len),jf Z d ei.size,?_⟩
 rw[hd]
 refine hm.add (i:=d) (hv:=.slice (some ⟨w.heap.size,0,none⟩) len len) (z:=ei.size) (o:=.arr true e ei.size xs) (getM_none hi) (aY.mp hn) J (eE w _) ?_ ?_ ?_
 ·intro b hb
  simp[Hb,hblk]at hb
  subst hb
  exact⟨aA _,by show _ < (w.heap.push _).size;rw[iL];omega⟩
 ·intro iH iA
  refine⟨bc _ _ _,lN.toList,?_,by rw[bc];simp,c2,fun k x hk j c hc=>?_⟩
  ·rw[bc,c1]
   have hlen:len≤maxLen:=by
    have:len≤len * ei.size:=Nat.le_mul_of_pos_right _ nG
    simp only[maxLen];omega
   exact World.ownsRow_lit w lN len (aM _) hlen Qc
  ·obtain⟨u,hu,cL⟩:=g3.2 _ c (c4 k x hk j c hc)
   exact⟨u,hu,cL.mono (eE w _).size iA iH⟩
 ·exact⟨⟨_,ah,rfl⟩,(bc _ _ _).symm⟩
end
end Go.Sy
namespace Go.Sy
open Go.RowKit
def rE:List Oper→Nat→Option Oper
 |[],_=>none
 |o::_,0=>some o
 |_::r,k+1=>rE r k
theorem x4:∀(l:List Oper) (j:Nat),rE l j=l[j]?
 |[],j=>by cases j<;>rfl
 |o::l,0=>rfl
 |o::l,j+1=>by simpa[rE]using x4 l j
def bp(L:List Oper)(tm:TM)(o:Oper):Option Bool:=
 match o.guard with
 |none=>some true
 |some (j,want)=>
  match rE L j with
  |none=>none
  |some oj=>
   match oj.dst with
   |none=>none
   |some t=>
    match wX tm t with
    |none=>Pj tm t
    |some true=>(match want with|true=>some true|false=>some false)
    |some false=>(match want with|true=>some false|false=>some true)
theorem iB{L:List Oper}{tm:TM}{o:Oper}{b:Bool}(h:bp L tm o=some b):pF L.toArray tm o=some b:=by
 unfold bp at h
 unfold pF
 split at h
 ·rename_i hg;rw[hg];exact h
 ·rename_i j want hg
  rw[hg]
  simp only[cB,←x4]
  split at h
  ·cases h
  ·rename_i oj QC
   simp only[QC]
   split at h
   ·cases h
   ·rename_i t ht
    simp only[ht]
    split at h
    ·rename_i hb;simp only[hb];exact h
    ·rename_i hb;simp only[hb];cases want<;>simpa using h
    ·rename_i hb;simp only[hb];cases want<;>simpa using h
def Fy(tm:TM)(d:Nat):Option TM:=
 match tm with
 |[]=>some []
 |(e,u)::r=>match Nat.beq e d with
  |true=>Fy r d
  |false=>match Fy r d with
   |some r'=>some ((e,u)::r')
   |none=>none
theorem yv{d:Nat}:∀{tm r:TM},Fy tm d=some r→r=bw tm d
 |[],r,h=>by simp[Fy]at h;subst h;rfl
 |(e,u)::tm,r,h=>by
  unfold Fy at h
  unfold bw
  cases hb:Nat.beq e d with
  |true=>rw[hb]at h;exact yv h
  |false=>
   rw[hb]at h
   simp only at h
   split at h
   ·rename_i r' ga
    injection h with h;subst h
    rw[yv ga]
   ·cases h
def nk(n d:Nat)(st:ST)(tm:TM):Option TM:=
 match Nat.blt d n with
 |true=>match Fy tm d with
  |some r=>some ((d,st)::r)
  |none=>none
 |false=>none
theorem fJ{n d:Nat}{st:ST}{tm r:TM}(h:nk n d st tm=some r):Nat.blt d n=true∧r=(d,st)::bw tm d:=by
 unfold nk at h
 split at h
 ·rename_i hb
  split at h
  ·rename_i r' ga
   injection h with h;subst h
   exact⟨hb,by rw[yv ga]⟩
  ·cases h
 ·cases h
def P4:IntKind→IntKind→Bool
 |.i64,.i64=>true
 |.u8,.u8=>true
 |.u64,.u64=>true
 |.i32,.i32=>true
 |.u32,.u32=>true
 |.i8,.i8=>true
 |.i16,.i16=>true
 |.u16,.u16=>true
 |_,_=>false
theorem ye{k k':IntKind}(h:P4 k k'=true):k'=k:=by cases k<;>cases k'<;>first|rfl|cases h
theorem EI{C:Ctx}{n:Nat}{tm:TM}{mm:MM}{o:Oper}{d:Nat}{Θ:dD}(bI:bz C.P Θ){t:TypeId}{x i:Operand}{z dG len e:Nat}{ag:Bool}{zr:Option (List CT)}{ei:gD}{k:IntKind}{j:Nat}{s r:SC}
 (ho:o.op=.indexAddr t x i)(ht:aZ Θ t=some ⟨z,dG,ag,zr,.arr len e⟩)(fm:aZ Θ e=some ei)
 (hx:aW tm x=some s)(hi:aW tm i=some (.c (.int k (j:Int))))(hj:Nat.blt j len=true)(hr:xy s (j * ei.size)=some r)(hd:o.dst=some d)(hn:Nat.blt d n=true):
 eO C n o tm mm d (.v (.one r)):=
 eO.val hd hn _ fun H Z a w hm=>by
  obtain⟨inf,de,hf⟩:=jH bI ht
  obtain⟨lX,yU,iG⟩:=jH bI fm
  have h2:a.eval i=.int k (j:Int):=a7.cH (aX hm hi)
  obtain⟨ad,hv,cL⟩:=xx hr (aX hm hx)
  have kZ:de=.array len e:=by
   have:=hf.sh
   cases de<;>simp[eR]at this⊢
   exact this
  subst kZ
  have eC:j < len:=aY.mp hj
  refine⟨.pointer (some (ad.add (j * ei.size))),?_,cL⟩
  simp[execOp,ho,hv,h2,Instr.indexAt,asIntOf,hf.underlying,Instr.sureAddr,iG.sizeOf]
  intro dB;omega
def vr(Θ:dD)(tm:TM)(mm:MM):Op→Option ST
 |.move x=>lv tm x
 |.assign x=>lv tm x
 |.pick c x y=>match aW tm c with
  |some (.lit true)=>lv tm x
  |some (.lit false)=>lv tm y
  |_=>none
 |.unOp .not _ x=>match sy tm x with
  |some b=>some (.v (.one (.c (.bool (!b)))))
  |_=>none
 |.binOp p t x y _=>match aW tm x,aW tm y with
  |some (.c (.int k a)),some (.c (.int k' b))=>match P4 k k' with
   |true=>match OU p a b with
    |some r=>some (.v (.one (.c (.bool r))))
    |none=>none
   |false=>none
  |some (.c (.str a)),some (.c (.str b))=>match qH p a b with
    |some r=>some (.v (.one (.c (.bool r))))
    |none=>none
  |_,_=>match sy tm x,sy tm y with
   |some a,some b=>match aZ Θ t with
    |some ⟨_,_,_,_,.bool⟩=>match p with
     |.eql=>some (.v (.one (.c (.bool (a==b)))))
     |.neq=>some (.v (.one (.c (.bool (a !=b)))))
     |_=>none
    |_=>none
   |_,_=>none
 |.convert t t' x=>match aW tm x with
  |some (.c (.int k m))=>match aZ Θ t,aZ Θ t' with
   |some ⟨_,_,_,_,.int k0⟩,some ⟨_,_,_,_,.int k'⟩=>match P4 k k0 with
    |true=>some (.v (.one (.c (.int k' (k'.wrap m)))))
    |false=>none
   |_,_=>none
  |_=>none
 |.extract x i=>match lv tm x with
  |some (.gE xs)=>match qF xs i with
   |some (s::_)=>some (.v s)
   |_=>none
  |_=>none
 |.nilCheck x=>match aW tm x with
  |some (.ptr i off)=>some (.v (.one (.ptr i off)))
  |some (.iu i k off)=>some (.v (.one (.iu i k off)))
  |some (.hC cs)=>some (.v (.one (.hC cs)))
  |_=>none
 |.load t x=>match aZ Θ t with
  |some ⟨sz,_,ag,_,_⟩=>match aW tm x with
   |some (.ptr i off)=>match getM mm i with
    |some (.box cs)=>match vu cs off sz with
     |some xs=>match qn id ag xs with
      |some s=>some (.v s)
      |none=>none
     |none=>none
    |_=>none
   |some (.hC cs)=>match pY cs sz with
    |some xs=>match qn SC.c ag xs with
     |some s=>some (.v s)
     |none=>none
    |none=>none
   |_=>none
  |none=>none
 |.fieldAddr t x k=>match aZ Θ t with
  |some ⟨_,_,_,_,.struct fs⟩=>match kL fs k with
   |some off=>match aW tm x with
    |some s=>match xy s off with
     |some r=>some (.v (.one r))
     |none=>none
    |none=>none
   |none=>none
  |_=>none
 |.indexAddr t x i=>match aZ Θ t with
  |some ⟨_,_,_,_,.arr len e⟩=>match aZ Θ e with
   |some ⟨F3,_,_,_,_⟩=>match aW tm i with
    |some (.c (.int _ (.ofNat j)))=>match Nat.blt j len with
     |true=>match aW tm x with
      |some s=>match xy s (j * F3)with
       |some r=>some (.v (.one r))
       |none=>none
      |none=>none
     |false=>none
    |_=>none
   |none=>none
  |_=>none
 |.makeFunc (.func f) ⟨[]⟩ df=>match pI tm df.toList with
  |some ids=>match ids.all (fun i=>match getM mm i with|some (.box _)=>true|_=>false)with
   |true=>some (.v (.one (.ku f ids)))
   |false=>none
  |none=>none
 |.build t parts=>match aZ Θ t with
  |some ⟨_,_,true,some zr,.struct fs⟩=>match mY (fF Θ fs) tm (qn.sN SC.c zr) parts.toList with
   |some r=>some (.v (.agg r))
   |none=>none
  |some ⟨_,_,true,some zr,.arr _ e⟩=>match aZ Θ e with
   |some ⟨F3,_,_,_,_⟩=>match mY (fun i=>some (i * F3,F3)) tm (qn.sN SC.c zr) parts.toList with
    |some r=>some (.v (.agg r))
    |none=>none
   |none=>none
  |_=>none
 |.call ⟨.builtin .len,⟨[x]⟩,⟨[t]⟩⟩=>match aZ Θ t with
  |some ⟨_,_,_,_,.slice _⟩=>match aW tm x with
   |some s=>match uv mm s with
    |some m=>some (.v (.one (.c (.int .i64 m))))
    |none=>none
   |none=>none
  |some ⟨_,_,_,_,.string⟩=>match aW tm x with
   |some (.c (.str s))=>some (.v (.one (.c (.int .i64 (s.size:Int)))))
   |_=>none
  |some ⟨_,_,_,_,.map _ _⟩=>match aW tm x with
   |some (.mp i)=>match getM mm i with
    |some (.lo es)=>some (.v (.one (.c (.int .i64 (es.length:Int)))))
    |_=>none
   |_=>none
  |_=>none
 |.call ⟨.builtin .min,⟨[x,y]⟩,_⟩=>match aW tm x,aW tm y with
  |some (.c (.int k a)),some (.c (.int k' b))=>match P4 k k' with
   |true=>some (.v (.one (.c (.int k (min a b)))))
   |false=>none
  |_,_=>none
 |.call ⟨.builtin .max,⟨[x,y]⟩,_⟩=>match aW tm x,aW tm y with
  |some (.c (.int k a)),some (.c (.int k' b))=>match P4 k k' with
   |true=>some (.v (.one (.c (.int k (max a b)))))
   |false=>none
  |_,_=>none
 |_=>none
section
variable {C:Ctx} {n:Nat} {tm:TM} {mm:MM} {o:Oper} {d:Nat} {Θ:dD}
theorem kB(bI:bz C.P Θ){st:ST}(h:vr Θ tm mm o.op=some st)(hd:o.dst=some d)(hn:Nat.blt d n=true):
 eO C n o tm mm d st:=by
 generalize ho:o.op=p at h
 unfold vr at h
 split at h
 ·exact Ke ho h hd hn
 ·exact EL ho h hd hn
 ·split at h
  ·rename_i hc;exact DB (b:=true) ho hc h hd hn
  ·rename_i hc;exact DB (b:=false) ho hc h hd hn
  ·cases h
 ·split at h
  ·rename_i hc;injection h with h;subst h;exact Nc ho hc hd hn
  ·cases h
 ·split at h
  ·rename_i hx hy
   split at h
   ·rename_i hk
    have:=ye hk
    subst this
    split at h
    ·rename_i hr;injection h with h;subst h;exact Kj ho hx hy hr hd hn
    ·cases h
   ·cases h
  ·rename_i hx hy
   split at h
   ·rename_i hr;injection h with h;subst h;exact Ki ho hx hy hr hd hn
   ·cases h
  ·split at h
   ·rename_i hx hy
    split at h
    ·rename_i ht
     split at h
     ·injection h with h;subst h;exact DC bI ho ht (.inl rfl) hx hy hd hn
     ·injection h with h;subst h;exact DC bI ho ht (.inr rfl) hx hy hd hn
     ·cases h
    ·cases h
   ·cases h
 ·split at h
  ·rename_i hx
   split at h
   ·rename_i ht DQ
    split at h
    ·rename_i hk
     have:=ye hk
     subst this
     injection h with h;subst h;exact Hi bI ho ht DQ hx hd hn
    ·cases h
   ·cases h
  ·cases h
 ·split at h
  ·rename_i hx
   split at h
   ·rename_i s r hs
    injection h with h;subst h
    refine B2 ho hx ?_ hd hn
    have:=kM hs
    have h2:=congrArg (fun l:List SV=>l[0]?) this
    simpa using h2.symm
   ·cases h
  ·cases h
 ·split at h
  ·rename_i hx;injection h with h;subst h;exact nw ho hx J hd hn
  ·rename_i hx;injection h with h;subst h;exact nw ho hx J hd hn
  ·rename_i hx;injection h with h;subst h;exact nw ho hx J hd hn
  ·cases h
 ·split at h
  ·rename_i ht
   split at h
   ·rename_i hx
    split at h
    ·rename_i hi
     split at h
     ·rename_i hs
      split at h
      ·rename_i hv;injection h with h;subst h;exact sk bI ho ht hx hi hs hv hd hn
      ·cases h
     ·cases h
    ·cases h
   ·rename_i hx
    split at h
    ·rename_i hs
     split at h
     ·rename_i hv;injection h with h;subst h;exact xW bI ho ht hx hs hv hd hn
     ·cases h
    ·cases h
   ·cases h
  ·cases h
 ·split at h
  ·rename_i ht
   split at h
   ·rename_i hk
    split at h
    ·rename_i hx
     split at h
     ·rename_i hr;injection h with h;subst h;exact xZ bI ho ht hx hk hr hd hn
     ·cases h
    ·cases h
   ·cases h
  ·cases h
 ·split at h
  ·rename_i ht
   split at h
   ·rename_i fm
    split at h
    ·rename_i hi
     split at h
     ·rename_i hj
      split at h
      ·rename_i hx
       split at h
       ·rename_i hr;injection h with h;subst h;exact EI bI ho ht fm hx hi hj hr hd hn
       ·cases h
      ·cases h
     ·cases h
    ·cases h
   ·cases h
  ·cases h
 ·split at h
  ·rename_i hc
   split at h
   ·rename_i hb;injection h with h;subst h;exact zK ho hc hb hd hn
   ·cases h
  ·cases h
 ·split at h
  ·rename_i ht
   split at h
   ·rename_i hl;injection h with h;subst h;exact sL bI ho ht hl hd hn
   ·cases h
  ·rename_i ht
   split at h
   ·rename_i fm
    split at h
    ·rename_i hl;injection h with h;subst h;exact tY bI ho ht fm hl hd hn
    ·cases h
   ·cases h
  ·cases h
 ·split at h
  ·rename_i ht
   split at h
   ·rename_i hx
    split at h
    ·rename_i hm;injection h with h;subst h;exact xX bI ho ht hx hm hd hn
    ·cases h
   ·cases h
  ·rename_i ht
   split at h
   ·rename_i hx;injection h with h;subst h;exact B0 bI ho ht hx hd hn
   ·cases h
  ·rename_i ht
   split at h
   ·rename_i hx
    split at h
    ·rename_i hi;injection h with h;subst h;exact B1 bI ho ht hx hi hd hn
    ·cases h
   ·cases h
  ·cases h
 ·split at h
  ·rename_i hx hy
   split at h
   ·rename_i hk
    have:=ye hk
    subst this
    injection h with h;subst h;exact Nf ho hx hy hd hn
   ·cases h
  ·cases h
 ·split at h
  ·rename_i hx hy
   split at h
   ·rename_i hk
    have:=ye hk
    subst this
    injection h with h;subst h;exact Ng ho hx hy hd hn
   ·cases h
  ·cases h
 ·cases h
end
def Gb(mm:MM)(i:Nat)(o:MO):Option MM:=
 match mm with
 |[]=>some []
 |(e,u)::r=>match Gb r i o with
  |some r'=>match Nat.beq e i with
   |true=>some ((e,o)::r')
   |false=>some ((e,u)::r')
  |none=>none
theorem Dc{i:Nat}{o:MO}:∀{mm r:MM},Gb mm i o=some r→r=cK mm i o
 |[],r,h=>by simp[Gb]at h;subst h;rfl
 |(e,u)::mm,r,h=>by
  unfold Gb at h
  unfold cK
  split at h
  ·rename_i r' ga
   have:=Dc ga
   subst this
   cases hb:Nat.beq e i<;>rw[hb]at h<;>(injection h with h;exact h.symm)
  ·cases h
def E1(Θ:dD)(n:Nat)(tm:TM)(mm:MM)(o:Oper):Option (TM×MM):=
 match o.dst with
 |some d=>match getM mm d with
  |some _=>none
  |none=>match o.op with
   |.box _ x=>match dM tm x with
    |some s=>match s.cells.all SC.known with
     |true=>match nk n d (.v (.one (.ptr d 0))) tm with
      |some tm'=>match EO s.cells with
       |some cs=>some (tm',(d,.box cs)::mm)
       |none=>none
      |none=>none
     |false=>none
    |none=>none
   |.alloc e=>match aZ Θ e with
    |some ⟨_,_,_,some zr,_⟩=>match nk n d (.v (.one (.ptr d 0))) tm with
     |some tm'=>match EO (qn.sN SC.c zr)with
      |some cs=>some (tm',(d,.box cs)::mm)
      |none=>none
     |none=>none
    |_=>none
   |.makeMap _ none=>match nk n d (.v (.one (.mp d))) tm with
    |some tm'=>some (tm',(d,.lo [])::mm)
    |none=>none
   |.buildSlice t len parts=>match aZ Θ t with
    |some ⟨_,_,_,_,.slice e⟩=>match aZ Θ e with
     |some ⟨F3,_,_,some _,_⟩=>match Nat.ble (len * F3) 16777216,Nat.blt 0 F3 with
      |true,true=>match mY (fun i=>some (i * F3,F3)) tm (qM (len * F3)) parts.toList with
       |some r=>match hJ r with
        |some cts=>match kO F3 len cts with
         |some xs=>match nk n d (.v (.one (.own d))) tm with
          |some tm'=>some (tm',(d,.arr true e F3 xs)::mm)
          |none=>none
         |none=>none
        |none=>none
       |none=>none
      |_,_=>none
     |_=>none
    |_=>none
   |_=>none
 |none=>match o.op with
  |.store t x y=>match aZ Θ t with
   |some ⟨sz,_,_,_,_⟩=>match aW tm x with
    |some (.ptr i off)=>match getM mm i with
     |some (.box cs)=>match dM tm y with
      |some s=>match s.cells.all SC.known with
       |true=>match Nat.beq s.cells.length sz with
        |true=>match gq cs off s.cells with
         |some r=>match Gb mm i (.box r)with
          |some mm'=>some (tm,mm')
          |none=>none
         |none=>none
        |false=>none
       |false=>none
      |none=>none
     |_=>none
    |_=>none
   |none=>none
  |_=>none
where
 EO:List SC→Option (List SC)
  |[]=>some []
  |a::r=>match EO r with
   |some r'=>some (a::r')
   |none=>none
theorem x6:∀{l r:List SC},E1.EO l=some r→r=l
 |[],r,h=>by simp[E1.EO]at h;exact h
 |a::l,r,h=>by
  unfold E1.EO at h
  split at h
  ·rename_i r' ga;injection h with h;subst h;rw[x6 ga]
  ·cases h
theorem Cf{C:Ctx}{n:Nat}{tm tm':TM}{mm mm':MM}{o:Oper}{Θ:dD}(bI:bz C.P Θ)(h:E1 Θ n tm mm o=some (tm',mm')):yW C n o tm mm tm' mm':=by
 unfold E1 at h
 split at h
 ·rename_i d hd
  split at h
  ·cases h
  ·rename_i hi
   split at h
   ·rename_i ho
    split at h
    ·rename_i hx
     split at h
     ·rename_i hk
      split at h
      ·rename_i hs
       split at h
       ·rename_i hl
        obtain⟨hn,rfl⟩:=fJ hs
        injection h with h;injection h with h1 h2;subst h1 h2
        rw[x6 hl]
        exact Nh ho hx hk hi hd hn
       ·cases h
      ·cases h
     ·cases h
    ·cases h
   ·rename_i ho
    split at h
    ·rename_i ht
     split at h
     ·rename_i hs
      split at h
      ·rename_i hl
       obtain⟨hn,rfl⟩:=fJ hs
       injection h with h;injection h with h1 h2;subst h1 h2
       rw[x6 hl,qo]
       exact zO bI ho ht hi hd hn
      ·cases h
     ·cases h
    ·cases h
   ·rename_i ho
    split at h
    ·rename_i hs
     obtain⟨hn,rfl⟩:=fJ hs
     injection h with h;injection h with h1 h2;subst h1 h2
     exact BZ ho hi hd hn
    ·cases h
   ·rename_i ho
    split at h
    ·rename_i ht
     split at h
     ·rename_i fm
      split at h
      ·rename_i hb mS
       split at h
       ·rename_i hl
        split at h
        ·rename_i hc
         split at h
         ·rename_i hx
          split at h
          ·rename_i hs
           obtain⟨hn,rfl⟩:=fJ hs
           injection h with h;injection h with h1 h2;subst h1 h2
           exact vC bI ho ht fm J hb mS hl hc hx hi hd hn
          ·cases h
         ·cases h
        ·cases h
       ·cases h
      ·cases h
     ·cases h
    ·cases h
   ·cases h
 ·rename_i hd
  split at h
  ·rename_i ho
   split at h
   ·rename_i ht
    split at h
    ·rename_i hx
     split at h
     ·rename_i hi
      split at h
      ·rename_i hy
       split at h
       ·rename_i hk
        split at h
        ·rename_i c8
         split at h
         ·rename_i hs
          split at h
          ·rename_i hu
           injection h with h;injection h with h1 h2;subst h1 h2
           rw[Dc hu]
           exact mz bI ho ht hx hi hy hk c8 hs hd
          ·cases h
         ·cases h
        ·cases h
       ·cases h
      ·cases h
     ·cases h
    ·cases h
   ·cases h
  ·cases h
def No:SC→Option SC
 |.c x=>some (.c x)
 |.lit b=>some (.lit b)
 |.ptr i o=>some (.ptr i o)
 |.iu i k o=>some (.iu i k o)
 |.hC cs=>some (.hC cs)
 |.own i=>some (.own i)
 |.mp i=>some (.mp i)
 |.td i n=>some (.td i n)
 |.ku f l=>some (.ku f l)
 |.any=>some .any
theorem DH{s r:SC}(h:No s=some r):r=s:=by cases s<;>(injection h with h;exact h.symm)
def wP:List SC→Option (List SC)
 |[]=>some []
 |a::l=>match No a with
  |some a'=>match wP l with
   |some l'=>some (a'::l')
   |none=>none
  |none=>none
theorem ua:∀{l r:List SC},wP l=some r→r=l
 |[],r,h=>by simp[wP]at h;exact h
 |a::l,r,h=>by
  unfold wP at h
  split at h
  ·rename_i a' ha
   split at h
   ·rename_i l' hl;injection h with h;subst h;rw[DH ha,ua hl]
   ·cases h
  ·cases h
def Kr:SV→Option SV
 |.one s=>match No s with
  |some s'=>some (.one s')
  |none=>none
 |.agg l=>match wP l with
  |some l'=>some (.agg l')
  |none=>none
theorem DF{s r:SV}(h:Kr s=some r):r=s:=by
 cases s<;>simp only[Kr]at h<;>split at h<;>first|(cases h;done)|skip
 ·rename_i hs;injection h with h;subst h;rw[DH hs]
 ·rename_i hs;injection h with h;subst h;rw[ua hs]
def zV:List SV→Option (List SV)
 |[]=>some []
 |a::l=>match Kr a with
  |some a'=>match zV l with
   |some l'=>some (a'::l')
   |none=>none
  |none=>none
theorem zU:∀{l r:List SV},zV l=some r→r=l
 |[],r,h=>by simp[zV]at h;exact h
 |a::l,r,h=>by
  unfold zV at h
  split at h
  ·rename_i a' ha
   split at h
   ·rename_i l' hl;injection h with h;subst h;rw[DF ha,zU hl]
   ·cases h
  ·cases h
def Nl:ST→Option ST
 |.v s=>match Kr s with
  |some s'=>some (.v s')
  |none=>none
 |.gE l=>match zV l with
  |some l'=>some (.gE l')
  |none=>none
theorem Ks{s r:ST}(h:Nl s=some r):r=s:=by
 cases s<;>simp only[Nl]at h<;>split at h<;>first|(cases h;done)|skip
 ·rename_i hs;injection h with h;subst h;rw[DF hs]
 ·rename_i hs;injection h with h;subst h;rw[zU hs]
def x5:TM→Option TM
 |[]=>some []
 |(t,s)::l=>match Nl s with
  |some s'=>match x5 l with
   |some l'=>some ((t,s')::l')
   |none=>none
  |none=>none
theorem oq:∀{l r:TM},x5 l=some r→r=l
 |[],r,h=>by simp[x5]at h;exact h
 |(t,s)::l,r,h=>by
  unfold x5 at h
  split at h
  ·rename_i s' hs
   split at h
   ·rename_i l' hl;injection h with h;subst h;rw[Ks hs,oq hl]
   ·cases h
  ·cases h
def Nn:MO→Option MO
 |.box cs=>match wP cs with
  |some sA=>some (.box sA)
  |none=>none
 |.arr nn e sz xs=>some (.arr nn e sz xs)
 |.lo es=>some (.lo es)
 |.bG e sz qs=>some (.bG e sz qs)
theorem Kt{s r:MO}(h:Nn s=some r):r=s:=by
 cases s<;>simp only[Nn]at h
 ·split at h
  ·rename_i hs;injection h with h;subst h;rw[ua hs]
  ·cases h
 ·injection h with h;exact h.symm
 ·injection h with h;exact h.symm
 ·injection h with h;exact h.symm
def Ht:MM→Option MM
 |[]=>some []
 |(t,s)::l=>match Nn s with
  |some s'=>match Ht l with
   |some l'=>some ((t,s')::l')
   |none=>none
  |none=>none
theorem DG:∀{l r:MM},Ht l=some r→r=l
 |[],r,h=>by simp[Ht]at h;exact h
 |(t,s)::l,r,h=>by
  unfold Ht at h
  split at h
  ·rename_i s' hs
   split at h
   ·rename_i l' hl;injection h with h;subst h;rw[Kt hs,DG hl]
   ·cases h
  ·cases h
inductive Out where
 |stop (l:List Oper)(tm:TM)(mm:MM)
 |bad
def ME(Θ:dD)(n:Nat)(L:List Oper):List Oper→TM→MM→Out
 |[],tm,mm=>.stop [] tm mm
 |o::r,tm,mm=>match bp L tm o with
  |some true=>match o.dst,vr Θ tm mm o.op with
   |some d,some st=>match nk n d st tm with
    |some tm'=>ME Θ n L r tm' mm
    |none=>.stop (o::r) tm mm
   |_,_=>match E1 Θ n tm mm o with
    |some (tm',mm')=>ME Θ n L r tm' mm'
    |none=>.stop (o::r) tm mm
  |some false=>match o.dst with
   |some d=>match nk n d (.gE []) tm with
    |some tm'=>ME Θ n L r tm' mm
    |none=>.stop (o::r) tm mm
   |none=>ME Θ n L r tm mm
  |none=>.stop (o::r) tm mm
theorem l6{C:Ctx}{n:Nat}{Θ:dD}(bI:bz C.P Θ){L:List Oper}{T:TM→MM→Prop}:∀{l:List Oper} {tm:TM} {mm:MM} {l':List Oper} {tm':TM} {mm':MM},
 ME Θ n L l tm mm=.stop l' tm' mm'→SOps C n L.toArray l' tm' mm' T→SOps C n L.toArray l tm mm T
 |[],tm,mm,l',tm',mm',h,k=>by
  simp only[ME,Out.stop.injEq]at h
  obtain⟨rfl,rfl,rfl⟩:=h
  exact k
 |o::r,tm,mm,l',tm',mm',h,k=>by
  have same:Out.stop (o::r) tm mm=.stop l' tm' mm'→SOps C n L.toArray (o::r) tm mm T:=by
   intro e
   injection e with e1 e2 e3
   subst e1 e2 e3
   exact k
  unfold ME at h
  split at h
  ·rename_i hg
   have Oj:=iB hg
   split at h
   ·rename_i d st hd hv
    split at h
    ·rename_i Bz hs
     obtain⟨hn,rfl⟩:=fJ hs
     exact SOps.step Oj (kB bI hv hd hn).wp (l6 bI h k)
    ·exact same h
   ·split at h
    ·rename_i hm
     exact SOps.step Oj (Cf bI hm).wp (l6 bI h k)
    ·exact same h
  ·rename_i hg
   have Oj:=iB hg
   split at h
   ·rename_i d hd
    split at h
    ·rename_i Bz hs
     obtain⟨hn,rfl⟩:=fJ hs
     exact SOps.PJ Oj hd hn (l6 bI h k)
    ·exact same h
   ·rename_i hd
    refine SOps.skip Oj ?_
    rw[hd]
    exact l6 bI h k
  ·exact same h
def PR(Θ:dD)(n:Nat)(L:List Oper)(l:List Oper)(tm:TM)(mm:MM):Option Out:=
 match x5 tm with
 |some tm'=>match Ht mm with
  |some mm'=>match ME Θ n L l tm' mm' with
   |.stop a b c=>some (.stop a b c)
   |.bad=>none
  |none=>none
 |none=>none
theorem aj{C:Ctx}{n:Nat}{Θ:dD}(bI:bz C.P Θ){L:List Oper}{T:TM→MM→Prop}{l:List Oper}{tm:TM}{mm:MM}{l':List Oper}{tm':TM}{mm':MM}
 (h:PR Θ n L l tm mm=some (.stop l' tm' mm'))(k:SOps C n L.toArray l' tm' mm' T):SOps C n L.toArray l tm mm T:=by
 unfold PR at h
 split at h
 ·rename_i Bz h1
  split at h
  ·rename_i mm1 h2
   rw[←oq h1,←DG h2]
   split at h
   ·rename_i a b c h3
    injection h with h
    injection h with e1 e2 e3
    subst e1 e2 e3
    exact l6 bI h3 k
   ·cases h
  ·cases h
 ·cases h
end Go.Sy
namespace Go.Sy
open Go.RowKit
def Goes(C:Ctx)(f:FuncId)(n:Nat)(R:Ending→World→Prop)(todo:List Item)(tm:TM)(mm:MM):Prop:=
 ∀a w,Has C n tm mm a w→∀(b:Frame) (cs:List Frame),b.fn=f→b.kind=.normal→
  ∃e w' fr,R e w'∧Comes C.P (lone (b.at a todo) cs w) (lone fr cs w') e∧fr.fn=f∧fr.leaving C.P w' e
section
variable {C:Ctx} {f:FuncId} {n:Nat} {R:Ending→World→Prop} {k:List Item} {tm tm':TM} {mm mm':MM}
theorem Goes.step{t t':List Item}(h:∀(b:Frame) a cs w,step C.P (lone (b.at a t) cs w)=.next (lone (b.at a t') cs w))(g:Goes C f n R t' tm mm):Goes C f n R t tm mm:=by
 intro a w hh b cs hb hk
 obtain⟨e,w',fr,h1,h2,h3⟩:=g a w hh b cs hb hk
 exact⟨e,w',fr,h1,Comes.of_steps (.one (h b a cs w)) h2,h3⟩
theorem DY{x y:Code}(g:Goes C f n R (.code x::.code y::k) tm mm):Goes C f n R (.code (.seq x y)::k) tm mm:=Goes.step (fun _ _ _ _=>step_seq) g
theorem IB(g:Goes C f n R k tm mm):Goes C f n R (.code .skip::k) tm mm:=Goes.step (fun _ _ _ _=>step_skip) g
theorem Li{l:Nat}(g:Goes C f n R k tm mm):Goes C f n R (.code (.label l)::k) tm mm:=Goes.step (fun _ _ _ _=>step_label) g
theorem D1{id:Nat}{c:Code}(g:Goes C f n R (.code c::.inBlock id::k) tm mm):Goes C f n R (.code (.block id c)::k) tm mm:=Goes.step (fun _ _ _ _=>step_block) g
theorem xa{id:Nat}(g:Goes C f n R k tm mm):Goes C f n R (.inBlock id::k) tm mm:=Goes.step (fun _ _ _ _=>step_inBlock) g
theorem Le{c:Code}(g:Goes C f n R (.code c::.inScope c::k) tm mm):Goes C f n R (.code (.scope c)::k) tm mm:=Goes.step (fun _ _ _ _=>step_scope) g
theorem Fs{c:Code}(g:Goes C f n R k tm mm):Goes C f n R (.inScope c::k) tm mm:=Goes.step (fun _ _ _ _=>step_inScope) g
theorem IE{id:Nat}{k':List Item}(h:exitTo id k=some k')(g:Goes C f n R k' tm mm):Goes C f n R (.code (.exit id)::k) tm mm:=Goes.step (fun _ _ _ _=>step_exit h) g
theorem OJ{l:Nat}{k':List Item}(h:gotoIn l k=some k')(g:Goes C f n R k' tm mm):Goes C f n R (.code (.goto l)::k) tm mm:=Goes.step (fun _ _ _ _=>step_goto h) g
theorem xb{c:Operand}{x y:Code}(hc:aW tm c=some (.lit true))(h1:Goes C f n R (.code x::k) tm mm):
 Goes C f n R (.code (.cond c x y)::k) tm mm:=by
 intro a w hh b cs hb hk
 have hv:a.eval c=.bool true:=by
  obtain⟨H,Z,hm⟩:=hh
  exact aX hm hc
 obtain⟨e,w',fr,g1,g2,g3⟩:=h1 a w hh b cs hb hk
 exact⟨e,w',fr,g1,Comes.of_steps (.one (step_cond hv)) g2,g3⟩
theorem uL{c:Operand}{x y:Code}(hc:aW tm c=some (.lit false))(h1:Goes C f n R (.code y::k) tm mm):
 Goes C f n R (.code (.cond c x y)::k) tm mm:=by
 intro a w hh b cs hb hk
 have hv:a.eval c=.bool false:=by
  obtain⟨H,Z,hm⟩:=hh
  exact aX hm hc
 obtain⟨e,w',fr,g1,g2,g3⟩:=h1 a w hh b cs hb hk
 exact⟨e,w',fr,g1,Comes.of_steps (.one (step_cond hv)) g2,g3⟩
theorem aU{t:Nat}{x y:Code}{v:Bool}(hc:iX tm t=some (.v (.one (.c (.bool v)))))
 (h1:v=true→Goes C f n R (.code x::k) ((t,.v (.one (.lit true)))::bw tm t) mm)(h2:v=false→Goes C f n R (.code y::k) ((t,.v (.one (.lit false)))::bw tm t) mm):
 Goes C f n R (.code (.cond (.tmp t) x y)::k) tm mm:=by
 intro a w hh b cs hb hk
 obtain⟨H,Z,hm⟩:=hh
 have hv:a.eval (.tmp t)=.bool v:=a7.nS (hm.tmps _ (gk hc))
 have key:Has C n ((t,.v (.one (.lit v)))::bw tm t) mm a w:=by
  refine⟨H,Z,{hm with tmps:=fun p hp=>?_}⟩
  rcases ae.1 hp with rfl|hp
  ·exact hv
  ·exact hm.tmps p (b4 hp).1
 cases v with
 |true=>
  obtain⟨e,w',fr,g1,g2,g3⟩:=h1 J a w key b cs hb hk
  exact⟨e,w',fr,g1,Comes.of_steps (.one (step_cond hv)) g2,g3⟩
 |false=>
  obtain⟨e,w',fr,g1,g2,g3⟩:=h2 J a w key b cs hb hk
  exact⟨e,w',fr,g1,Comes.of_steps (.one (step_cond hv)) g2,g3⟩
theorem al{id:Nat}{L:List Oper}(h:SOps C n L.toArray L tm mm (fun tm' mm'=>Goes C f n R k tm' mm')):Goes C f n R (.code (.region id L.toArray false)::k) tm mm:=by
 intro a w hh b cs hb hk
 obtain⟨e,a',w',hq,uK⟩:=wp_region_lit (id:=id) (h a w hh) b k cs
 cases e with
 |normal=>
  obtain⟨tm',mm',hg,Io⟩:=hq
  obtain⟨e,xC,fr,g1,g2,g3⟩:=hg a' w' Io b cs hb hk
  exact⟨e,xC,fr,g1,Comes.of_steps uK g2,g3⟩
 |_=>exact hq.elim
theorem Goes.mono{t:List Item}(g:Goes C f n R t tm' mm')(hs:∀a w,Has C n tm mm a w→Has C n tm' mm' a w):Goes C f n R t tm mm:=
 fun a w hh=>g a w (hs a w hh)
theorem IC{ι:Type}(S:ι→TM×MM)(μ:ι→Nat){c:Code}
 (h:∀i,(∀j,μ j < μ i→Goes C f n R (.inLoop c::k) (S j).1 (S j).2)→Goes C f n R (.code c::.inLoop c::k) (S i).1 (S i).2)(i:ι):
 Goes C f n R (.inLoop c::k) (S i).1 (S i).2:=by
 have key:∀m i,μ i < m→Goes C f n R (.inLoop c::k) (S i).1 (S i).2:=by
  intro m
  induction m with
  |zero=>intro i hi;omega
  |succ m ih=>
   intro i hi
   exact Goes.step (fun _ _ _ _=>step_inLoop) (h i (fun j hj=>ih j (by omega)))
 exact key (μ i+1) i (by omega)
theorem OI{ι:Type}(S:ι→TM×MM)(μ:ι→Nat){c:Code}(i:ι)
 (hs:∀a w,Has C n tm mm a w→Has C n (S i).1 (S i).2 a w)
 (h:∀i,(∀j,μ j < μ i→Goes C f n R (.inLoop c::k) (S j).1 (S j).2)→Goes C f n R (.code c::.inLoop c::k) (S i).1 (S i).2):
 Goes C f n R (.code (.loop c)::k) tm mm:=
 Goes.step (fun _ _ _ _=>step_loop) ((h i (fun j _=>IC S μ h j)).mono hs)
end
def Lt:SC→Option SC
 |.lit b=>some (.c (.bool b))
 |s=>some s
def A0:List SC→Option (List SC)
 |[]=>some []
 |a::l=>match Lt a with
  |some a'=>match A0 l with
   |some l'=>some (a'::l')
   |none=>none
  |none=>none
def IU:SV→Option SV
 |.one s=>match Lt s with
  |some s'=>some (.one s')
  |none=>none
 |.agg l=>match A0 l with
  |some l'=>some (.agg l')
  |none=>none
theorem A1{I:Nat→Prop}{H:Nat→Value}{Z:Nat→Nat}{w:World}{M:Nat→Prop}{v:Value}{s r:SC}(h:Lt s=some r)(hr:bR I H Z w M v s):bR I H Z w M v r:=by
 cases s<;>simp only[Lt]at h<;>injection h with h<;>subst h<;>first|exact hr|skip
 rw[show v=_ from hr];exact a7.bool _
theorem xk{I:Nat→Prop}{H:Nat→Value}{Z:Nat→Nat}{w:World}{M:Nat→Prop}:∀{l r:List SC} {us:List Value},A0 l=some r→Pw (fun u c=>bR I H Z w M u c) us l→Pw (fun u c=>bR I H Z w M u c) us r
 |[],r,us,h,hp=>by simp[A0]at h;subst h;exact hp
 |s::l,r,us,h,hp=>by
  match us,hp with
  |[],hp=>exact absurd hp.1 (by simp)
  |u::us,hp=>
   have DP:Pw (fun u c=>bR I H Z w M u c) us l:=⟨by simpa using hp.1,fun j c hc=>by simpa using hp.2 (j+1) c (by simpa using hc)⟩
   obtain⟨u',lY,hr⟩:=hp.2 0 s J
   simp at lY;subst lY
   unfold A0 at h
   split at h
   ·rename_i a' ha
    split at h
    ·rename_i l' hl
     injection h with h;subst h
     exact Pw.cons (A1 ha hr) (xk hl DP)
    ·cases h
   ·cases h
theorem AZ{I:Nat→Prop}{H:Nat→Value}{Z:Nat→Nat}{w:World}{M:Nat→Prop}{v:Value}{s r:SV}(h:IU s=some r)(hr:cF I H Z w M v s):cF I H Z w M v r:=by
 cases s with
 |one s=>
  simp only[IU]at h
  split at h
  ·rename_i hs;injection h with h;subst h;exact A1 hs hr
  ·cases h
 |agg l=>
  simp only[IU]at h
  split at h
  ·rename_i l' hs
   injection h with h;subst h
   obtain⟨vs,h1,h2,h3⟩:=hr
   have:=xk (us:=vs.toList) hs ⟨by simpa using h2,fun j c hc=>by simpa using h3 j c hc⟩
   exact⟨vs,h1,by simpa using this.1,fun j c hc=>by simpa using this.2 j c hc⟩
  ·cases h
def o6(tm:TM)(x:Operand):Option SV:=
 match dM tm x with
 |some s=>IU s
 |none=>none
theorem rS{C:Ctx}{H:Nat→Value}{Z:Nat→Nat}{n:Nat}{tm:TM}{mm:MM}{a:Act}{w:World}(h:Mod C H Z n tm mm a w)
 {x:Operand}{s:SV}(he:o6 tm x=some s):cF (cD mm) H Z w (cU C H mm) (a.eval x) s:=by
 unfold o6 at he
 split at he
 ·rename_i s' hs;exact AZ he (ee h hs)
 ·cases he
def sK(Θ:dD)(tm:TM)(mm:MM):List ResultVar→Option (List SV)
 |[]=>some []
 |.tmp t::r=>match o6 tm (.tmp t)with
  |some s=>match sK Θ tm mm r with
   |some l=>some (s::l)
   |none=>none
  |none=>none
 |.cell a t::r=>match aZ Θ t with
  |some ⟨sz,_,ag,_,_⟩=>match aW tm (.tmp a)with
   |some (.ptr i off)=>match getM mm i with
    |some (.box cs)=>match vu cs off sz with
     |some xs=>match qn id ag xs with
      |some s=>match IU s,sK Θ tm mm r with
       |some s,some l=>some (s::l)
       |_,_=>none
      |none=>none
     |none=>none
    |_=>none
   |_=>none
  |none=>none
def dI:List SV→ST
 |[s]=>.v s
 |l=>.gE l
theorem HF{C:Ctx}{n:Nat}{tm:TM}{mm:MM}{Θ:dD}(bI:bz C.P Θ){t:TypeId}{ti:gD}{x:Operand}{i off:Nat}{cs xs:List SC}{s:SV}
 (ht:aZ Θ t=some ti)(hx:aW tm x=some (.ptr i off))(hi:getM mm i=some (.box cs))
 (hs:vu cs off ti.size=some xs)(hv:qn id ti.agg xs=some s){H:Nat→Value}{Z:Nat→Nat}{a:Act}{w:World}(hm:Mod C H Z n tm mm a w):
 ∃b v,a.eval x=.pointer (some ⟨b,off,none⟩)∧(loadVar t ⟨b,off,none⟩).run C.P w=.ok v w∧cF (cD mm) H Z w (cU C H mm) v s:=by
 obtain⟨inf,de,hf⟩:=jH bI ht
 obtain⟨b,ty,vs,h1,h2,_,h4⟩:=hm.box hi
 obtain⟨_,b',pP,yh⟩:=aX hm hx
 rw[h1]at pP
 simp[Hb,hblk]at pP
 subst pP
 obtain⟨e1,e2⟩:=q9 hs
 have hp:Pw (fun u c=>bR (cD mm) H Z w (cU C H mm) u c) ((vs.toList.drop off).take ti.size) xs:=by
  rw[e1];exact((h4.drop off).take _).mono fun _ _ _ h=>h.2
 obtain⟨v,hr,k1,k2⟩:=gj (w:=w) hf ⟨b,off,none⟩ ((vs.toList.drop off).take ti.size) (by rw[hp.1,e2]) (fun j u hu=>by
  rw[jF,cell_of_row w b (off+j) vs ty _ h2]
  rw[b9]at hu
  split at hu
  ·rw[ca]at hu;simpa using hu
  ·cases hu) (fun ha=>by
   rw[hp.1]
   rw[ha]at hv
   unfold qn at hv
   split at hv<;>first|(rename_i hh;cases hh;done)|rfl|(cases hv;done))
 exact⟨b,v,yh,hr,qm hv hp k1 k2⟩
def wx(tmps:Array Value):ResultVar→Sem Value
 |.tmp t=>pure (tmps.getD t undef)
 |.cell x t=>do loadVar t (←asAddr (tmps.getD x undef))
theorem BK(fn:Func)(tmps:Array Value):results fn tmps=(do
 let vs ←fn.results.mapM (wx tmps)
 pure (if h:vs.size=1 then vs[0]else .tuple vs)):=by
 unfold results
 congr 1
theorem tE{C:Ctx}{n:Nat}{tm:TM}{mm:MM}{Θ:dD}(bI:bz C.P Θ){H:Nat→Value}{Z:Nat→Nat}{a:Act}{w:World}(hm:Mod C H Z n tm mm a w):
 ∀{l:List ResultVar} {rs:List SV},sK Θ tm mm l=some rs→
 ∃vs:List Value,(l.mapM (m:=Sem) (wx a.tmps)).run C.P w=.ok vs w∧Pw (fun v s=>cF (cD mm) H Z w (cU C H mm) v s) vs rs
 |[],rs,h=>by
  simp[sK]at h;subst h
  exact⟨[],by simp,Pw.nil⟩
 |.tmp t::l,rs,h=>by
  unfold sK at h
  split at h
  ·rename_i s hs
   split at h
   ·rename_i l' hl
    injection h with h;subst h
    obtain⟨vs,h1,h2⟩:=tE bI hm hl
    refine⟨a.tmps.getD t undef::vs,?_,Pw.cons (rS hm hs) h2⟩
    rw[List.mapM_cons]
    simp only[wx,Sem.run_bind,Sem.run_pure,Result.andThen_ok,h1]
   ·cases h
  ·cases h
 |.cell x t::l,rs,h=>by
  unfold sK at h
  split at h
  ·rename_i ht
   split at h
   ·rename_i hx
    split at h
    ·rename_i hi
     split at h
     ·rename_i hs
      split at h
      ·rename_i hv
       split at h
       ·rename_i s' l' Wg hl
        injection h with h;subst h
        obtain⟨vs,h1,h2⟩:=tE bI hm hl
        obtain⟨b,v,g1,g2,g3⟩:=HF bI ht hx hi hs hv hm
        have g3:=AZ Wg g3
        have Re:a.tmps.getD x undef=.pointer (some ⟨b,_,none⟩):=g1
        refine⟨v::vs,?_,Pw.cons g3 h2⟩
        rw[List.mapM_cons]
        have g4:(wx a.tmps (.cell x t)).run C.P w=.ok v w:=by
         simp only[wx,Sem.run_bind,Re,asAddr,Sem.run_pure,Result.andThen_ok,g2]
        simp only[Sem.run_bind,Sem.run_pure,Result.andThen_ok,g4,h1]
       ·cases h
      ·cases h
     ·cases h
    ·cases h
   ·cases h
  ·cases h
theorem lh{C:Ctx}{n:Nat}{tm:TM}{mm:MM}{Θ:dD}(bI:bz C.P Θ){H:Nat→Value}{Z:Nat→Nat}{a:Act}{w:World}(hm:Mod C H Z n tm mm a w)
 {fn:Func}{rs:List SV}(h:sK Θ tm mm fn.results.toList=some rs):
 ∃v,(results fn a.tmps).run C.P w=.ok v w∧fy (cD mm) H Z w (cU C H mm) v (dI rs):=by
 obtain⟨vs,h1,h2⟩:=tE bI hm h
 have DT:(fn.results.mapM (m:=Sem) (wx a.tmps)).run C.P w=.ok vs.toArray w:=by
  rw[Array.mapM_eq_mapM_toList]
  simp only[Sem.run_map,h1,Result.andThen_ok]
 have dQ:∀v,(if h:vs.toArray.size=1 then vs.toArray[0]else .tuple vs.toArray)=v→(results fn a.tmps).run C.P w=.ok v w:=by
  intro v hv
  rw[BK]
  simp only[Sem.run_bind,DT,Result.andThen_ok,Sem.run_pure,hv]
 clear DT h1
 match vs,rs,h2,dQ with
 |[],[],h2,dQ=>
  exact⟨.tuple #[],dQ _ (by simp),#[],rfl,rfl,fun j c hc=>by simp at hc⟩
 |[v],[s],h2,dQ=>
  obtain⟨u,hu,hr⟩:=h2.2 0 s J
  simp at hu;subst hu
  exact⟨v,dQ _ (by simp),hr⟩
 |v1::v2::vs,s1::s2::rs,h2,dQ=>
  refine⟨.tuple (v1::v2::vs).toArray,dQ _ (by simp),(v1::v2::vs).toArray,rfl,by simpa using h2.1,fun j c hc=>?_⟩
  obtain⟨u,hu,hr⟩:=h2.2 j c hc
  exact⟨u,by simpa using hu,hr⟩
 |[],_::_,h2,_=>exact absurd h2.1 (by simp)
 |[_],[],h2,_=>exact absurd h2.1 (by simp)
 |[_],_::_::_,h2,_=>exact absurd h2.1 (by simp)
 |_::_::_,[],h2,_=>exact absurd h2.1 (by simp)
 |_::_::_,[_],h2,_=>exact absurd h2.1 (by simp)
def bU:Nat→List (List CT)→MM
 |_,[]=>[]
 |i,cs::r=>(i,.box (cs.map SC.c))::bU (i+1) r
def bP(H:Nat→Value)(mm:MM)(b:Nat):Prop:=∃p∈mm,Hb (H p.1) b
structure te(w:World)(M0:Nat→Prop)(H:Nat→Value)(Z:Nat→Nat)(mm:MM):Prop where
 m0:∀b,M0 b→b < w.heap.size
 mem:∀p∈mm,eb (cD mm) H Z w (fun b=>M0 b∨bP H mm b) p.1 p.2
 lt:∀p∈mm,∀b,Hb (H p.1) b→b < w.heap.size
 sep:∀p∈mm,∀q∈mm,p.1≠q.1→∀b,Hb (H p.1) b→¬Hb (H q.1) b
def kQ(P:Program)(f:FuncId):Prop:=∀(w:World) (args:Array Value),(callFunc f args).run P w=.ok (.enter f args) w
theorem nR{P:Program}{f:FuncId}{fn:Func}{c:Code}(hf:P.funcs[f]? =some fn)(hb:fn.body=some c)(hn:(fn.name=="runtime.NumGoroutine")=false):kQ P f:=by
 intro w args
 have VR:¬fn.name="runtime.NumGoroutine":=by simpa using hn
 simp[callFunc,program,Sem.run,hf,hb,VR]
structure dy(P:Program)(f:FuncId)(pre:List (List CT))(args:List SV)(res:ST)(post:List (List CT)):Prop where
 ok:kQ P f
 calls:∀(w:World) (M0:Nat→Prop) (H:Nat→Value) (Z:Nat→Nat) (vs:List Value),te w M0 H Z (bU given pre)→
  Pw (fun v s=>cF (cD (bU given pre)) H Z w (fun b=>M0 b∨bP H (bU given pre) b) v s) vs args→
  Calls P f vs.toArray w fun e w'=>∃v,e=.returned v∧Ext (bP H (bU given pre)) w w'∧
   (∀p∈bU given post,eb (cD (bU given pre)) H Z w' (fun b=>M0 b∨bP H (bU given pre) b) p.1 p.2)∧
   fy (cD (bU given pre)) H Z w' (fun b=>M0 b∨bP H (bU given pre) b) v res
theorem kq:∀{l:List (List CT)} {i:Nat} {p:Nat×MO},p∈bU i l→i≤p.1∧p.1 < i+l.length
 |[],i,p,h=>by simp[bU]at h
 |cs::l,i,p,h=>by
  unfold bU at h
  rcases ae.1 h with rfl|h
  ·exact⟨aA _,by simp⟩
  ·obtain⟨h1,h2⟩:=kq h
   exact⟨by omega,by simp;omega⟩
theorem tQ:∀{l:List (List CT)} {i:Nat} {p q:Nat×MO},p∈bU i l→q∈bU i l→p.1=q.1→p=q
 |[],i,p,q,h,_,_=>by simp[bU]at h
 |cs::l,i,p,q,hp,hq,he=>by
  unfold bU at hp hq
  rcases ae.1 hp with rfl|hp<;>rcases ae.1 hq with rfl|hq
  ·rfl
  ·have:=(kq hq).1;simp only at he;omega
  ·have:=(kq hp).1;simp only at he;omega
  ·exact tQ hp hq he
def sT:Nat→List SV→TM
 |_,[]=>[]
 |i,s::r=>(i,.v s)::sT (i+1) r
theorem nY:∀{l:List SV} {i:Nat} {p:Nat×ST},p∈sT i l→∃j s,p=(i+j,.v s)∧l[j]? =some s
 |[],i,p,h=>by simp[sT]at h
 |s::l,i,p,h=>by
  unfold sT at h
  rcases ae.1 h with rfl|h
  ·exact⟨0,s,rfl,rfl⟩
  ·obtain⟨j,s',h1,h2⟩:=nY h
   exact⟨j+1,s',by rw[h1];congr 1;omega,by simpa using h2⟩
def Jq(H:Nat→Value)(Z:Nat→Nat)(pre post:List (List CT))(w:World)(M0:Nat→Prop)(res:ST)(e:Ending)(w':World):Prop:=
 ∃v,e=.returned v∧Ext (bP H (bU given pre)) w w'∧
  (∀p∈bU given post,eb (cD (bU given pre)) H Z w' (fun b=>M0 b∨bP H (bU given pre) b) p.1 p.2)∧
  fy (cD (bU given pre)) H Z w' (fun b=>M0 b∨bP H (bU given pre) b) v res
theorem bd{P:Program}{f:FuncId}{fn:Func}{c:Code}{pre post:List (List CT)}{args:List SV}{res:ST}
 (hf:P.funcs[f]? =some fn)(hb:fn.body=some c)(hn:Nat.ble args.length fn.ntmps=true)(N4:Nat.ble fn.ntmps given=true)(FW:(fn.name=="runtime.NumGoroutine")=false)
 (h:∀(w:World) (M0:Nat→Prop) (H:Nat→Value) (Z:Nat→Nat),
   Goes ⟨P,w,M0,bP H (bU given pre),H,fun _=>False,fun _ h=>h.elim⟩ f fn.ntmps (Jq H Z pre post w M0 res) [.code c] (sT 0 args) (bU given pre)):
 dy P f pre args res post:=by
 refine⟨nR hf hb FW,?_⟩
 intro w M0 H Z vs dp cE cs
 have hlen:vs.length=args.length:=cE.1
 let a:Act:={tmps:=vs.toArray++Array.replicate (fn.ntmps - vs.toArray.size) undef,defers:=[]}
 have hn:=fR.mp hn
 have dC:Mod ⟨P,w,M0,bP H (bU given pre),H,fun _=>False,fun _ h=>h.elim⟩ H Z fn.ntmps (sT 0 args) (bU given pre) a w:=by
  refine⟨rfl,by simp[a];omega,fR.mp N4,fun _ _ _=>rfl,Ext.refl _ _,dp.m0,fun p hp q hq he=>tQ hp hq he,dp.mem,?_,dp.sep,?_⟩
  ·intro p hp b hb
   have:=(kq hp).1
   exact⟨.inr ⟨this,.inl ⟨p,hp,hb⟩⟩,dp.lt p hp b hb⟩
  ·intro p hp
   obtain⟨j,s,rfl,hj⟩:=nY hp
   obtain⟨u,hu,hr⟩:=cE.2 j s hj
   have eC:j < vs.length:=(ai.1 hu).1
   have:a.tmps.getD (0+j) undef=u:=by
    have Oc:vs[j]=u:=by
     have:=aa eC
     rw[hu]at this
     injection this with this;exact this.symm
    simp[a,cN,mL,eC,Oc]
   rw[this]
   exact hr
 let b:Frame:={(default:Frame)with fn:=f,kind:=.normal}
 have pC:Frame.enter P f vs.toArray .normal=b.at a [.code c]:=by
  simp[Frame.enter,Frame.at,hf,hb,b,a]
 obtain⟨e,w',fr,h1,h2,h3,h4⟩:=h w M0 H Z a w ⟨H,Z,dC⟩ b cs J J
 rw[pC]
 exact⟨e,w',fr,h1,h2,h3,h4⟩
def wF(mm:MM):Nat→Nat→Option (List (List CT))
 |_,0=>some []
 |i,k+1=>match getM mm i with
  |some (.box cs)=>match hJ cs with
   |some l=>match wF mm (i+1) k with
    |some r=>some (l::r)
    |none=>none
   |none=>none
  |_=>none
theorem tR{mm:MM}:∀{k i:Nat} {post:List (List CT)},wF mm i k=some post→
 post.length=k∧(∀p∈bU i post,∃cs l,(p.1,MO.box cs)∈mm∧p.2=.box (l.map SC.c)∧hJ cs=some l)∧(∀j,i≤j→j < i+k→cD mm j)
 |0,i,post,h=>by simp[wF]at h;subst h;exact⟨rfl,fun p hp=>by simp[bU]at hp,fun j h1 h2=>by omega⟩
 |k+1,i,post,h=>by
  unfold wF at h
  split at h
  ·rename_i cs hg
   split at h
   ·rename_i l hl
    split at h
    ·rename_i r hr
     injection h with h;subst h
     obtain⟨h1,h2,h3⟩:=tR hr
     refine⟨by simp[h1],fun p hp=>?_,fun j Pt Tr=>?_⟩
     ·unfold bU at hp
      rcases ae.1 hp with rfl|hp
      ·exact⟨cs,l,aN hg,rfl,hl⟩
      ·exact h2 p hp
     ·by_cases jc:j=i
      ·subst jc;exact⟨_,aN hg,rfl⟩
      ·exact h3 j (by omega) (by omega)
    ·cases h
   ·cases h
  ·cases h
def zA:SV→Bool
 |.one (.c _)=>true
 |.one _=>false
 |.agg xs=>Dw xs
where
 Dw:List SC→Bool
  |[]=>true
  |.c _::r=>Dw r
  |_::_=>false
def gR:ST→Bool
 |.v s=>zA s
 |.gE xs=>xQ xs
where
 xQ:List SV→Bool
  |[]=>true
  |s::r=>match zA s with
   |true=>xQ r
   |false=>false
theorem tO:∀{l:List SC},zA.Dw l=true→∀c∈l,c.bD=[]
 |[],_,c,hc=>by cases hc
 |s::l,h,c,hc=>by
  cases s<;>simp only[zA.Dw]at h<;>try(cases h;done)
  rcases ae.1 hc with rfl|hc
  ·rfl
  ·exact tO h c hc
theorem tN{s:SV}(h:zA s=true):s.bD=[]:=by
 cases s with
 |one c=>cases c<;>first|rfl|cases h
 |agg xs=>
  have:=tO (l:=xs) h
  simp only[SV.bD]
  exact List.flatMap_eq_nil_iff.2 this
theorem sg:∀{l:List SV},gR.xQ l=true→∀c∈l,c.bD=[]
 |[],_,c,hc=>by cases hc
 |s::l,h,c,hc=>by
  unfold gR.xQ at h
  split at h
  ·rename_i hs
   rcases ae.1 hc with rfl|hc
   ·exact tN hs
   ·exact sg h c hc
  ·cases h
theorem my{s:ST}(h:gR s=true):s.bD=[]:=by
 cases s with
 |v s=>exact tN h
 |gE xs=>exact List.flatMap_eq_nil_iff.2 (sg h)
theorem fk{P:Program}{w0:World}{M0:Nat→Prop}{f:FuncId}{n:Nat}{tm:TM}{mm:MM}{pre post:List (List CT)}{H:Nat→Value}{Z:Nat→Nat}{Θ:dD}(bI:bz P Θ)
 {fn:Func}(hf:P.funcs[f]? =some fn){rs:List SV}{res:ST}{wG:List (List CT)}{t:List Item}(ht:t=[]∨∃k,t=.code .ret::k)
 (hr:sK Θ tm mm fn.results.toList=some rs)(hp:gR (dI rs)=true)(qt:wF mm given pre.length=some wG)
 (he:dI rs=res∧wG=post):
 Goes ⟨P,w0,M0,bP H (bU given pre),H,fun _=>False,fun _ h=>h.elim⟩ f n (Jq H Z pre post w0 M0 res) t tm mm:=by
 obtain⟨e1,e2⟩:=he
 subst e1 e2
 intro a w ⟨H',Z',hm⟩ b cs hb hk
 obtain⟨v,h1,h2⟩:=lh bI hm hr
 obtain⟨p1,p2,p3⟩:=tR qt
 have dK:∀q,(M0 q∨bP H (bU given pre) q)→cU ⟨P,w0,M0,bP H (bU given pre),H,fun _=>False,fun _ h=>h.elim⟩ H' mm q:=by
  rintro q (hq|⟨p,hp,cC⟩)
  ·exact .inl hq
  ·obtain⟨q1,q2⟩:=kq hp
   obtain⟨r,FR,AD⟩:=p3 p.1 q1 q2
   refine .inr ⟨r,FR,?_⟩
   rw[hm.hg r FR (by rw[AD];exact q1),AD]
   exact cC
 have uI:Jq H Z pre wG w0 M0 (dI rs) (.returned v) w:=by
  refine⟨v,rfl,hm.ext,fun p hp=>?_,h2.mono (fun i hi=>by rw[my hp]at hi;cases hi) (aA _) (fun _ _ _=>rfl) (fun q _ hq=>dK q hq)⟩
  obtain⟨sA,l,NY,hl,vi⟩:=p2 p hp
  have eL:=kq hp
  have h3:=hm.mem _ NY
  have hh:H' p.1=H p.1:=hm.hg (p.1,.box sA) NY eL.1
  rw[hl]
  obtain⟨b',ty,vs,g1,g2,g3,g4⟩:=h3
  have Qu:Pw (fun u c=>bR (cD mm) H' Z' w (cU ⟨P,w0,M0,bP H (bU given pre),H,fun _=>False,fun _ h=>h.elim⟩ H' mm) u c) vs.toList sA:=
   ⟨by simpa using g3,fun j c hc=>let⟨u,hu,_,hr⟩:=g4 j c hc;⟨u,by simpa using hu,hr⟩⟩
  have yQ:=iZ vi Qu
  refine⟨b',ty,vs,by rw[←hh];exact g1,g2,by simpa using yQ.1,fun j c hc=>?_⟩
  rw[aI]at hc
  cases hq:l[j]? with
  |none=>rw[hq]at hc;cases hc
  |some ct=>
   rw[hq]at hc;injection hc with hc;subst hc
   obtain⟨u,hu,cL⟩:=yQ.2 j ct hq
   exact⟨u,by simpa using hu,cL.one,a7.mono cL (aA _) (fun _ _ _=>rfl) (fun q _ hq=>dK q hq)⟩
 rcases ht with rfl|⟨k,rfl⟩
 ·exact⟨.returned v,w,_,uI,Steps.one step_end,hb,rfl,hm.defers,hk,fn,hb▸hf,h1⟩
 ·exact⟨.returned v,w,_,uI,Steps.one step_ret,hb,rfl,hm.defers,hk,fn,hb▸hf,h1⟩
end Go.Sy
namespace Go.Sy
open Go.RowKit
def da(tm:TM):List Operand→Option (List SV)
 |[]=>some []
 |x::r=>match o6 tm x with
  |some s=>match da tm r with
   |some l=>some (s::l)
   |none=>none
  |none=>none
theorem gz{C:Ctx}{H:Nat→Value}{Z:Nat→Nat}{n:Nat}{tm:TM}{mm:MM}{a:Act}{w:World}(h:Mod C H Z n tm mm a w):
 ∀{xs:List Operand} {l:List SV},da tm xs=some l→Pw (fun v s=>cF (cD mm) H Z w (cU C H mm) v s) (xs.map a.eval) l
 |[],l,he=>by simp[da]at he;subst he;exact Pw.nil
 |x::xs,l,he=>by
  unfold da at he
  split at he
  ·rename_i s hs
   split at he
   ·rename_i l' hl
    injection he with he;subst he
    exact Pw.cons (rS h hs) (gz h hl)
   ·cases he
  ·cases he
def Kq:List Nat→Nat→Option Nat
 |[],_=>none
 |a::_,0=>some a
 |_::l,k+1=>Kq l k
theorem DE:∀(l:List Nat) (j:Nat),Kq l j=l[j]?
 |[],j=>by cases j<;>rfl
 |o::l,0=>rfl
 |o::l,j+1=>by simpa[Kq]using DE l j
def rk(ids:List Nat)(i:Nat):Option Nat:=
 match Nat.ble given i with
 |true=>Kq ids (i - given)
 |false=>none
def zw(ids:List Nat):List Nat→Option (List Nat)
 |[]=>some []
 |i::l=>match rk ids i with
  |some j=>match zw ids l with
   |some r=>some (j::r)
   |none=>none
  |none=>none
def J7(ids:List Nat):SC→Option SC
 |.c x=>some (.c x)
 |.ptr i off=>match rk ids i with
  |some j=>some (.ptr j off)
  |none=>none
 |.ku f df=>match zw ids df with
  |some l=>some (.ku f l)
  |none=>none
 |.hC cs=>some (.hC cs)
 |_=>none
def zx(ids:List Nat):List SC→Option (List SC)
 |[]=>some []
 |a::l=>match J7 ids a with
  |some a'=>match zx ids l with
   |some l'=>some (a'::l')
   |none=>none
  |none=>none
def J6(ids:List Nat):SV→Option SV
 |.one s=>match J7 ids s with
  |some s'=>some (.one s')
  |none=>none
 |.agg l=>match zx ids l with
  |some l'=>some (.agg l')
  |none=>none
def iO(ids:List Nat):List SV→Option (List SV)
 |[]=>some []
 |a::l=>match J6 ids a with
  |some a'=>match iO ids l with
   |some l'=>some (a'::l')
   |none=>none
  |none=>none
section
variable {I I':Nat→Prop} {H H':Nat→Value} {Z Z':Nat→Nat} {w:World} {M M':Nat→Prop} {ids:List Nat}
theorem rj{i j:Nat}(h:rk ids i=some j):given≤i∧ids[i - given]? =some j:=by
 unfold rk at h
 split at h
 ·rename_i hb;exact⟨fR.mp hb,by rw[←DE];exact h⟩
 ·cases h
theorem tG:∀{l r:List Nat},zw ids l=some r→l.length=r.length∧∀(k i j:Nat),l[k]? =some i→r[k]? =some j→rk ids i=some j
 |[],r,h=>by simp[zw]at h;subst h;simp
 |a::l,r,h=>by
  unfold zw at h
  split at h
  ·rename_i j hj
   split at h
   ·rename_i r' ga
    injection h with h;subst h
    obtain⟨h1,h2⟩:=tG ga
    refine⟨by simp[h1],fun k i j' hi AI=>?_⟩
    cases k with
    |zero=>simp at hi AI;subst hi AI;exact hj
    |succ k=>exact h2 k i j' (by simpa using hi) (by simpa using AI)
   ·cases h
  ·cases h
theorem zy(hI:∀i j,rk ids i=some j→I j→I' i∧H' i=H j)(hM:∀b,b < w.heap.size→M' b→M b){s r:SC}(h:J7 ids s=some r){v:Value}
 (hr:bR I H Z w M v r):bR I' H' Z' w M' v s:=by
 cases s<;>simp only[J7]at h<;>try(cases h;done)
 ·injection h with h;subst h;exact a7.mono hr (aA _) (fun _ _ _=>rfl) hM
 ·split at h
  ·rename_i j hj
   injection h with h;subst h
   obtain⟨h1,b,h2,h3⟩:=hr
   obtain⟨k1,k2⟩:=hI _ _ hj h1
   exact⟨k1,b,by rw[k2];exact h2,h3⟩
  ·cases h
 ·injection h with h;subst h
  exact bR.mono (x:=.hC _) hr (fun j hj _=>by simp[SC.bD]at hj) (aA _) (fun _ _ _=>rfl) hM
 ·rename_i g df
  split at h
  ·rename_i l hl
   injection h with h;subst h
   obtain⟨h1,vs,h2,h3,h4⟩:=hr
   obtain⟨e1,e2⟩:=tG hl
   have key:∀i∈df,∃j,rk ids i=some j∧I j:=by
    intro i hi
    obtain⟨k,hk,kS⟩:=aB.1 hi
    have Ps:k < l.length:=by omega
    have h5:=e2 k i l[k] (by rw[aa hk,kS]) (aa Ps)
    exact⟨l[k],h5,h1 _ (az Ps)⟩
   refine⟨fun i hi=>?_,vs,h2,by omega,fun k i hk=>?_⟩
   ·obtain⟨j,hj,AP⟩:=key i hi
    exact(hI i j hj AP).1
   ·have UO:k < df.length:=(ai.1 hk).1
    have Ps:k < l.length:=by omega
    have h5:=e2 k i l[k] hk (aa Ps)
    rw[(hI i _ h5 (h1 _ (az Ps))).2]
    exact h4 k _ (aa Ps)
  ·cases h
theorem wy(hI:∀i j,rk ids i=some j→I j→I' i∧H' i=H j)(hM:∀b,b < w.heap.size→M' b→M b):∀{l r:List SC} {us:List Value},zx ids l=some r→
 Pw (fun u c=>bR I H Z w M u c) us r→Pw (fun u c=>bR I' H' Z' w M' u c) us l
 |[],r,us,h,hp=>by simp[zx]at h;subst h;exact⟨hp.1,fun j c hc=>by simp at hc⟩
 |s::l,r,us,h,hp=>by
  unfold zx at h
  split at h
  ·rename_i a' ha
   split at h
   ·rename_i l' hl
    injection h with h;subst h
    match us,hp with
    |[],hp=>exact absurd hp.1 (by simp)
    |u::us,hp=>
     obtain⟨u',lY,hr⟩:=hp.2 0 a' J
     simp at lY;subst lY
     exact Pw.cons (zy hI hM ha hr) (wy hI hM hl ⟨by simpa using hp.1,fun j c hc=>by simpa using hp.2 (j+1) c (by simpa using hc)⟩)
   ·cases h
  ·cases h
theorem GO(hI:∀i j,rk ids i=some j→I j→I' i∧H' i=H j)(hM:∀b,b < w.heap.size→M' b→M b){s r:SV}(h:J6 ids s=some r){v:Value}
 (hr:cF I H Z w M v r):cF I' H' Z' w M' v s:=by
 cases s with
 |one s=>
  simp only[J6]at h
  split at h
  ·rename_i hs;injection h with h;subst h;exact zy hI hM hs hr
  ·cases h
 |agg l=>
  simp only[J6]at h
  split at h
  ·rename_i l' hs
   injection h with h;subst h
   obtain⟨vs,h1,h2,h3⟩:=hr
   have:=wy (Z':=Z') (us:=vs.toList) hI hM hs ⟨by simpa using h2,fun j c hc=>by simpa using h3 j c hc⟩
   exact⟨vs,h1,by simpa using this.1,fun j c hc=>by simpa using this.2 j c hc⟩
  ·cases h
theorem og(hI:∀i j,rk ids i=some j→I j→I' i∧H' i=H j)(hM:∀b,b < w.heap.size→M' b→M b):∀{l r:List SV} {us:List Value},iO ids l=some r→
 Pw (fun u c=>cF I H Z w M u c) us r→Pw (fun u c=>cF I' H' Z' w M' u c) us l
 |[],r,us,h,hp=>by simp[iO]at h;subst h;exact⟨hp.1,fun j c hc=>by simp at hc⟩
 |s::l,r,us,h,hp=>by
  unfold iO at h
  split at h
  ·rename_i a' ha
   split at h
   ·rename_i l' hl
    injection h with h;subst h
    match us,hp with
    |[],hp=>exact absurd hp.1 (by simp)
    |u::us,hp=>
     obtain⟨u',lY,hr⟩:=hp.2 0 a' J
     simp at lY;subst lY
     exact Pw.cons (GO hI hM ha hr) (og hI hM hl ⟨by simpa using hp.1,fun j c hc=>by simpa using hp.2 (j+1) c (by simpa using hc)⟩)
   ·cases h
  ·cases h
end
def ru(mm:MM):List Nat→Option (List (List CT))
 |[]=>some []
 |i::l=>match getM mm i with
  |some (.box cs)=>match hJ cs with
   |some ct=>match ru mm l with
    |some r=>some (ct::r)
    |none=>none
   |none=>none
  |_=>none
def jI(mm:MM):List Nat→List (List CT)→MM
 |i::l,ct::r=>jI (cK mm i (.box (ct.map SC.c))) l r
 |_,_=>mm
def j8:List Nat→Bool
 |[]=>true
 |i::l=>match AN l i with
  |true=>false
  |false=>j8 l
theorem mC:∀{l:List Nat},j8 l=true→l.Nodup
 |[],_=>List.nodup_nil
 |i::l,h=>by
  unfold j8 at h
  split at h
  ·cases h
  ·rename_i hh;exact iJ.2 ⟨oB hh,mC h⟩
theorem ot{l:List Nat}(h:l.Nodup){i j:Nat}(hi:i < l.length)(hj:j < l.length)(e:l[i]=l[j]):i=j:=by
 rw[bA,bm]at h
 rcases cv i j with k|k|k
 ·exact absurd e (h i j hi hj k)
 ·exact k
 ·exact absurd e.symm (h j i hj hi k)
theorem rq{mm:MM}:∀{ids:List Nat} {pre:List (List CT)},ru mm ids=some pre→
 pre.length=ids.length∧∀(k i:Nat) (ct:List CT),ids[k]? =some i→pre[k]? =some ct→∃cs,(i,MO.box cs)∈mm∧hJ cs=some ct
 |[],pre,h=>by simp[ru]at h;subst h;simp
 |i::l,pre,h=>by
  unfold ru at h
  split at h
  ·rename_i cs hg
   split at h
   ·rename_i ct vh
    split at h
    ·rename_i r hr
     injection h with h;subst h
     obtain⟨h1,h2⟩:=rq hr
     refine⟨by simp[h1],fun k i' PD hi hc=>?_⟩
     cases k with
     |zero=>simp at hi hc;subst hi hc;exact⟨cs,aN hg,vh⟩
     |succ k=>exact h2 k i' PD (by simpa using hi) (by simpa using hc)
    ·cases h
   ·cases h
  ·cases h
theorem kr:∀{l:List (List CT)} {i:Nat} {p:Nat×MO},p∈bU i l→∃(k:Nat) (ct:List CT),l[k]? =some ct∧p=(i+k,.box (ct.map SC.c))
 |[],i,p,h=>by simp[bU]at h
 |cs::l,i,p,h=>by
  unfold bU at h
  rcases ae.1 h with rfl|h
  ·exact⟨0,cs,rfl,rfl⟩
  ·obtain⟨k,ct,h1,h2⟩:=kr h
   exact⟨k+1,ct,by simpa using h1,by rw[h2];congr 1;omega⟩
theorem rp:∀{l:List (List CT)} {i k:Nat} {ct:List CT},l[k]? =some ct→(i+k,MO.box (ct.map SC.c))∈bU i l
 |[],i,k,ct,h=>by simp at h
 |cs::l,i,0,ct,h=>by simp at h;subst h;exact ah
 |cs::l,i,k+1,ct,h=>by
  unfold bU
  have:=rp (l:=l) (i:=i+1) (k:=k) (ct:=ct) (by simpa using h)
  exact ab _ (by rw[show i+(k+1)=i+1+k by omega];exact this)
theorem ob:∀{ids:List Nat} {post:List (List CT)} {mm:MM} {p:Nat×MO},ids.Nodup→ids.length=post.length→p∈jI mm ids post→
 (∃(k:Nat) (ct:List CT),ids[k]? =some p.1∧post[k]? =some ct∧p.2=.box (ct.map SC.c)∧cD mm p.1)∨(p∈mm∧p.1∉ids)
 |[],post,mm,p,_,_,h=>.inr ⟨by cases post<;>exact h,by simp⟩
 |i::l,[],mm,p,_,hl,h=>by simp at hl
 |i::l,ct::r,mm,p,hn,hl,h=>by
  unfold jI at h
  obtain⟨DR,s9⟩:=iJ.1 hn
  rcases ob s9 (by simpa using hl) h with⟨k,PD,h1,h2,h3,h4⟩|⟨h1,h2⟩
  ·exact .inl ⟨k+1,PD,by simpa using h1,by simpa using h2,h3,(eI _).1 h4⟩
  ·rcases cq p h1 with⟨rfl,k⟩|⟨k1,k2⟩
   ·exact .inl ⟨0,ct,rfl,rfl,rfl,k⟩
   ·exact .inr ⟨k1,by simp only[ae,not_or];exact⟨k2,h2⟩⟩
theorem ko:∀{ids:List Nat} {post:List (List CT)} {mm:MM} (j:Nat),cD (jI mm ids post) j↔cD mm j
 |[],post,mm,j=>by cases post<;>exact Iff.rfl
 |i::l,[],mm,j=>Iff.rfl
 |i::l,ct::r,mm,j=>by unfold jI;rw[ko j,eI]
section
variable {C:Ctx} {n:Nat} {tm:TM} {mm:MM} {o:Oper} {d:Nat}
theorem Mod.called{H:Nat→Value}{Z:Nat→Nat}{a:Act}{w w':World}(hm:Mod C H Z n tm mm a w){ids:List Nat}{pre post:List (List CT)}{res:ST}{v:Value}
 (kI:ids.Nodup)(dp:ru mm ids=some pre)(hlen:ids.length=post.length)(eK:gR res=true){Hc:Nat→Value}(Lb:∀k i,ids[k]? =some i→Hc (given+k)=H i)
 (ec:Ext (bP Hc (bU given pre)) w w')
 (qt:∀p∈bU given post,eb (cD (bU given pre)) Hc Z w' (fun b=>cU C H mm b∨bP Hc (bU given pre) b) p.1 p.2)
 (oS:fy (cD (bU given pre)) Hc Z w' (fun b=>cU C H mm b∨bP Hc (bU given pre) b) v res)(hd:d < n):
 Mod C H Z n ((d,res)::bw tm d) (jI mm ids post) (a.put (some d) v) w':=by
 obtain⟨mZ,jZ⟩:=rq dp
 have hblk:∀b,bP Hc (bU given pre) b→∃(k i:Nat),ids[k]? =some i∧cD mm i∧Hb (H i) b:=by
  rintro b ⟨p,hp,cC⟩
  obtain⟨k,ct,hk,rfl⟩:=kr hp
  have kl:k < ids.length:=by rw[←mZ];exact(ai.1 hk).1
  have hi:ids[k]? =some ids[k]:=aa kl
  obtain⟨cs,sR,_⟩:=jZ k _ ct hi hk
  rw[Lb k _ hi]at cC
  exact⟨k,_,hi,⟨_,sR,rfl⟩,cC⟩
 have hI:∀j,cD mm j→cD (jI mm ids post) j:=fun j hj=>(ko j).2 hj
 have hM:∀b,cU C H (jI mm ids post) b→cU C H mm b:=by
  rintro b (hb|⟨p,hp,cC⟩)
  ·exact .inl hb
  ·obtain⟨q,hq,vg⟩:=(ko p.1).1 ⟨p,hp,rfl⟩
   exact .inr ⟨q,hq,by rw[vg];exact cC⟩
 refine hm.build (bP Hc (bU given pre)) ec (fun b _ hb=>?_) (by simpa[Act.put]using hm.defers) (by simp[Act.put,hm.size]) ?_ ?_ ?_ ?_ ?_
 ·obtain⟨k,i,_,⟨p,hp,rL⟩,Ty⟩:=hblk b hb
  exact⟨p,hp,by rw[rL];exact Ty⟩
 ·intro p hp S6
  obtain⟨q,hq,vg⟩:=(ko p.1).1 ⟨p,hp,rfl⟩
  rw[←vg];exact hm.hg q hq (by rw[vg];exact S6)
 ·intro p hp q hq he
  rcases ob kI hlen hp with⟨k,ct,h1,h2,h3,h4⟩|⟨h1,h2⟩<;>rcases ob kI hlen hq with⟨k',PD,AQ,qv,OB,h4'⟩|⟨AQ,qv⟩
  ·have QO:k=k':=by
    have e1:=ai.1 h1
    have e2:=ai.1 AQ
    obtain⟨l1,g1⟩:=e1
    obtain⟨l2,g2⟩:=e2
    exact ot kI l1 l2 (by rw[g1,g2,he])
   subst QO
   rw[h2]at qv;injection qv with qv;subst qv
   exact Prod.ext he (by rw[h3,OB])
  ·exact absurd (an h1) (by rw[he];exact qv)
  ·exact absurd (an AQ) (by rw[←he];exact h2)
  ·exact hm.ids p h1 q AQ he
 ·intro p hp
  rcases ob kI hlen hp with⟨k,ct,h1,h2,h3,h4⟩|⟨h1,h2⟩
  ·refine .inr ⟨fun b hb=>?_,fun _ _=>?_⟩
   ·obtain⟨q,hq,vg⟩:=h4
    exact .inr ⟨q,hq,by rw[vg];exact hb,.inl vg.symm⟩
   ·have h5:=qt _ (rp (i:=given) h2)
    obtain⟨b,ty,vs,g1,g2,g3,g4⟩:=h5
    rw[h3]
    refine⟨b,ty,vs,by rw[←Lb k _ h1];exact g1,g2,g3,fun j c hc=>?_⟩
    obtain⟨u,hu,ho,hr⟩:=g4 j c hc
    refine⟨u,hu,ho,?_⟩
    rw[aI]at hc
    cases hq:ct[j]? with
    |none=>rw[hq]at hc;cases hc
    |some x=>
     rw[hq]at hc;injection hc with hc;subst hc
     exact a7.mono hr (aA _) (fun _ _ _=>rfl) (fun q _ hq=>.inl (hM q hq))
  ·refine .inl ⟨h1,rfl,rfl,fun b hb hx=>?_,fun j _ hj=>⟨hI j hj,rfl,rfl⟩⟩
   obtain⟨k,i,kS,⟨q,hq,vg⟩,Ty⟩:=hblk b hx
   have cj:p.1≠q.1:=by rw[vg];intro e;exact h2 (by rw[e];exact an kS)
   exact hm.sep p h1 q hq cj b hb (by rw[vg];exact Ty)
 ·intro p hp q hq jl b cC db
  obtain⟨p',oA,e1⟩:=(ko p.1).1 ⟨p,hp,rfl⟩
  obtain⟨q',pO,e2⟩:=(ko q.1).1 ⟨q,hq,rfl⟩
  exact hm.sep p' oA q' pO (by rw[e1,e2];exact jl) b (by rw[e1];exact cC) (by rw[e2];exact db)
 ·intro p hp
  rcases ae.1 hp with rfl|hp
  ·refine .inr fun _ _=>?_
   rw[gQ (by rw[hm.size];exact hd)]
   exact oS.mono (fun i hi=>by rw[my eK]at hi;cases hi) (aA _) (fun _ _ _=>rfl) (fun q _ hq=>.inl (hM q hq))
  ·obtain⟨h1,h2⟩:=b4 hp
   exact .inl ⟨p,h1,rfl,fu h2,fun j _ hj=>⟨hI j hj,rfl,rfl⟩⟩
theorem xq{f:FuncId}{pre post:List (List CT)}{args args':List SV}{res:ST}(hc:dy C.P f pre args res post){ids:List Nat}{H:Nat→Value}{Z:Nat→Nat}{a:Act}{w:World}
 (hm:Mod C H Z n tm mm a w){vs:List Value}(hv:Pw (fun v s=>cF (cD mm) H Z w (cU C H mm) v s) vs args')(iV:iO ids args=some args')(dp:ru mm ids=some pre)
 (kI:j8 ids=true)(hlen:post.length=pre.length)(eK:gR res=true)(hd:d < n)
 (K:Act→World→Prop)(Q:Exit→Act→World→Prop)(hK:∀a' w',Has C n ((d,res)::bw tm d) (jI mm ids post) a' w'→K a' w'):
 Calls C.P f vs.toArray w fun
  |.returned v,xC=>K (a.put (some d) v) xC
  |.panicked chain,xC=>Q (.panic chain) a xC
  |.outgrown,_=>LetsOut Q:=by
 obtain⟨mZ,jZ⟩:=rq dp
 have Ia:=mC kI
 let Hc:Nat→Value:=fun j=>H ((ids[j - given]?).getD 0)
 have Lb:∀k i,ids[k]? =some i→Hc (given+k)=H i:=by
  intro k i hk
  simp[Hc,hk]
 have K9:∀i j,rk ids i=some j→cD mm j→cD (bU given pre) i∧Hc i=H j:=by
  intro i j j1 _
  obtain⟨h1,h2⟩:=rj j1
  have hk:i - given < pre.length:=by rw[mZ];exact(ai.1 h2).1
  have:=rp (i:=given) (aa hk)
  refine⟨⟨_,this,by show given+(i - given)=i;omega⟩,?_⟩
  have:=Lb _ _ h2
  rwa [show given+(i - given)=i by omega]at this
 have hblk:∀b,bP Hc (bU given pre) b→cU C H mm b:=by
  rintro b ⟨p,hp,cC⟩
  obtain⟨k,ct,hk,rfl⟩:=kr hp
  have kl:k < ids.length:=by rw[←mZ];exact(ai.1 hk).1
  have hi:ids[k]? =some ids[k]:=aa kl
  obtain⟨cs,sR,_⟩:=jZ k _ ct hi hk
  rw[Lb k _ hi]at cC
  exact .inr ⟨_,sR,cC⟩
 have hM:∀b,b < w.heap.size→(cU C H mm b∨bP Hc (bU given pre) b)→cU C H mm b:=fun b _ hb=>hb.elim id (hblk b)
 have Ow:te w (cU C H mm) Hc Z (bU given pre):=by
  refine⟨?_,?_,?_,?_⟩
  ·rintro b (hb|⟨p,hp,cC⟩)
   ·exact bX (hm.m0 b hb) hm.ext.size
   ·exact(hm.fresh p hp b cC).2
  ·intro p hp
   obtain⟨k,ct,hk,rfl⟩:=kr hp
   have kl:k < ids.length:=by rw[←mZ];exact(ai.1 hk).1
   have hi:ids[k]? =some ids[k]:=aa kl
   obtain⟨cs,sR,vh⟩:=jZ k _ ct hi hk
   obtain⟨b,ty,lN,g1,g2,g3,g4⟩:=hm.mem _ sR
   have Qu:Pw (fun u c=>bR (cD mm) H Z w (cU C H mm) u c) lN.toList cs:=⟨by simpa using g3,fun j c hc=>let⟨u,hu,_,hr⟩:=g4 j c hc;⟨u,by simpa using hu,hr⟩⟩
   have yQ:=iZ vh Qu
   refine⟨b,ty,lN,by rw[Lb k _ hi];exact g1,g2,by simpa using yQ.1,fun j c hc=>?_⟩
   rw[aI]at hc
   cases hq:ct[j]? with
   |none=>rw[hq]at hc;cases hc
   |some x=>
    rw[hq]at hc;injection hc with hc;subst hc
    obtain⟨u,hu,hr⟩:=yQ.2 j x hq
    exact⟨u,by simpa using hu,hr.one,a7.mono hr (aA _) (fun _ _ _=>rfl) hM⟩
  ·intro p hp b hb
   rcases hblk b ⟨p,hp,hb⟩with h0|⟨q,hq,db⟩
   ·exact bX (hm.m0 b h0) hm.ext.size
   ·exact(hm.fresh q hq b db).2
  ·intro p hp q hq jl b cC db
   obtain⟨k,ct,hk,rfl⟩:=kr hp
   obtain⟨k',PD,RZ,rfl⟩:=kr hq
   have kl:k < ids.length:=by rw[←mZ];exact(ai.1 hk).1
   have Fh:k' < ids.length:=by rw[←mZ];exact(ai.1 RZ).1
   have hi:ids[k]? =some ids[k]:=aa kl
   have Mq:ids[k']? =some ids[k']:=aa Fh
   obtain⟨cs,sR,_⟩:=jZ k _ ct hi hk
   obtain⟨sA,TN,_⟩:=jZ k' _ PD Mq RZ
   rw[Lb k _ hi]at cC
   rw[Lb k' _ Mq]at db
   have cj:ids[k]≠ids[k']:=fun e=>by
    have QO:k=k':=ot Ia kl Fh e
    subst QO
    exact jl J
   exact hm.sep _ sR _ TN cj b cC db
 refine(hc.calls w (cU C H mm) Hc Z vs Ow (og K9 hM iV hv)).mono ?_
 rintro e w' ⟨v,rfl,ec,qt,oS⟩
 exact hK _ _ ⟨H,Z,hm.called Ia dp (by rw[hlen,mZ]) eK Lb ec qt oS hd⟩
theorem x2{f:FuncId}{pre post:List (List CT)}{args args':List SV}{res:ST}(hc:dy C.P f pre args res post)(ids:List Nat){xs:Array Operand}{ts:Array TypeId}
 (ho:o.op=.call {callee:=.value (.func f),args:=xs,argTypes:=ts})(cE:da tm xs.toList=some args')(iV:iO ids args=some args')(dp:ru mm ids=some pre)
 (kI:j8 ids=true)(hlen:post.length=pre.length)(eK:gR res=true)(hd:o.dst=some d)(hn:Nat.blt d n=true):
 LW C n o tm mm ((d,res)::bw tm d) (jI mm ids post):=by
 intro a w K Q ⟨H,Z,hm⟩ hK
 have AK:=xq (d:=d) hc hm (gz hm cE) iV dp kI hlen eK (aY.mp hn) K Q hK
 unfold Oper.wp
 have dQ:(execOp a.eval o).run C.P w=.ok (.enter f (xs.toList.map a.eval).toArray) w:=by
  have uC:xs.map a.eval=(xs.toList.map a.eval).toArray:=by simp[←dz]
  simp only[execOp,ho,resolve,uC,Deferred.ofValue,Act.eval,invoke,Sem.run_bind,Sem.run_pure,Result.andThen_ok,pU,kW,hc.ok w]
 rw[dQ]
 show Calls _ _ _ _ _
 rw[hd]
 exact AK
def LC:List Nat→List SV
 |[]=>[]
 |i::l=>.one (.ptr i 0)::LC l
def C0:List SV→List Nat→List SV
 |[],df=>LC df
 |s::l,df=>s::C0 l df
theorem LM(l:List SV)(df:List Nat):C0 l df=l++df.map (fun i=>SV.one (.ptr i 0)):=by
 have h:∀df:List Nat,LC df=df.map (fun i=>SV.one (.ptr i 0)):=by
  intro df
  induction df with
  |nil=>rfl
  |cons i l ih=>simp[LC,ih]
 induction l with
 |nil=>simp[C0,h]
 |cons s l ih=>simp[C0,ih]
theorem B3{f:FuncId}{pre post:List (List CT)}{args args':List SV}{res:ST}(hc:dy C.P f pre args res post)(ids:List Nat){x:Operand}{df:List Nat}{xs:Array Operand}{ts:Array TypeId}
 (ho:o.op=.call {callee:=.value x,args:=xs,argTypes:=ts})(hx:aW tm x=some (.ku f df))(cE:da tm xs.toList=some args')
 (iV:iO ids args=some (C0 args' df))(dp:ru mm ids=some pre)(Oo:df.all (fun i=>match getM mm i with|some (.box _)=>true|_=>false)=true)
 (kI:j8 ids=true)(hlen:post.length=pre.length)(eK:gR res=true)(hd:o.dst=some d)(hn:Nat.blt d n=true):
 LW C n o tm mm ((d,res)::bw tm d) (jI mm ids post):=by
 intro a w K Q ⟨H,Z,hm⟩ hK
 obtain⟨Px,Vb,Wi,vi,Wj⟩:=aX hm hx
 have Ou:∀(l:List SV) (us:List Value),Pw (fun v s=>cF (cD mm) H Z w (cU C H mm) v s) us l→Pw (fun v s=>cF (cD mm) H Z w (cU C H mm) v s) (us++Vb) (C0 l df):=by
  intro l us hp
  rw[LM]
  refine hp.append ⟨by simpa using vi,fun j c yR=>?_⟩
  rw[aI]at yR
  cases hq:df[j]? with
  |none=>rw[hq]at yR;cases yR
  |some i=>
   rw[hq]at yR;injection yR with yR;subst yR
   refine⟨H i,Wj j i hq,Px i (an hq),?_⟩
   have hb:=aV.1 Oo i (an hq)
   split at hb
   ·rename_i cs hg
    obtain⟨b,_,_,g1,_⟩:=hm.box hg
    exact⟨b,by rw[g1];rfl,g1⟩
   ·cases hb
 have AK:=xq (d:=d) hc hm (Ou _ _ (gz hm cE)) iV dp kI hlen eK (aY.mp hn) K Q hK
 unfold Oper.wp
 have dQ:(execOp a.eval o).run C.P w=.ok (.enter f ((xs.toList.map a.eval)++Vb).toArray) w:=by
  have uC:xs.map a.eval=(xs.toList.map a.eval).toArray:=by simp[←dz]
  simp only[execOp,ho,resolve,uC,Wi,Deferred.ofValue,invoke,Sem.run_bind,Sem.run_pure,Result.andThen_ok,kW,hc.ok w,List.append_toArray,cw]
 rw[dQ]
 show Calls _ _ _ _ _
 rw[hd]
 exact AK
end
end Go.Sy
namespace Go.Sy
open Go.RowKit
inductive sF:CT→CT→Prop
 |refl (c:CT):sF c c
 |nil (sz:Nat):sF .bK (.slice false sz [])
 |nn (nn:Bool) (sz:Nat) (xs:List (List CT)):sF (.slice nn sz xs) (.slice false sz xs)
 |Am {k:IntKind} {n:Int} {p:Int→Prop} (h:p n):sF (.int k n) (.Am k p)
 |deep {nn:Bool} {sz:Nat} {xs ys:List (List CT)} (hl:xs.length=ys.length) (hx:∀(i:Nat) (x y:List CT),xs[i]? =some x→ys[i]? =some y→x.length=y.length)
   (h:∀(i j:Nat) (x y:List CT) (c d:CT),xs[i]? =some x→ys[i]? =some y→x[j]? =some c→y[j]? =some d→sF c d):sF (.slice nn sz xs) (.slice nn sz ys)
theorem sF.rep{w:World}{M:Nat→Prop}{c d:CT}(h:sF c d):∀{v:Value},a7 w M v c→a7 w M v d:=by
 induction h with
 |refl c=>exact fun h=>h
 |nil sz=>exact fun h=>h.EU sz
 |nn nn sz xs=>exact fun h=>h.xB
 |Am hp=>intro v h;rw[a7.cH h];exact .Am _ _ hp
 |deep hl hx _ ih=>
  rename_i nn sz xs ys _
  intro v hr
  cases hr with
  |slice u hlen j3 kY sv c8 yT cL=>
   have jN:∀(i:Nat) (y:List CT),ys[i]? =some y→∃x,xs[i]? =some x∧x.length=y.length:=by
    intro i y hy
    have bo:i < xs.length:=by rw[hl];exact(ai.1 hy).1
    exact⟨xs[i],aa bo,hx i _ y (aa bo) hy⟩
   refine .slice u (by rw[hlen,hl]) j3 kY sv (fun y hy=>?_) (fun hp=>?_) (fun i y hy j d hd=>?_)
   ·obtain⟨i,hi,V4⟩:=aB.1 hy
    obtain⟨x,h1,h2⟩:=jN i y (by rw[aa hi,V4])
    rw[←h2];exact c8 x (an h1)
   ·obtain⟨ad,a1,a2,a3,a4,a5⟩:=yT (by omega)
    refine⟨ad,a1,a2,a3,a4,fun i y hy j d hd=>?_⟩
    obtain⟨x,h1,h2⟩:=jN i y hy
    have hj:j < x.length:=by rw[h2];exact(ai.1 hd).1
    exact a5 i x h1 j x[j] (aa hj)
   ·obtain⟨x,h1,h2⟩:=jN i y hy
    have hj:j < x.length:=by rw[h2];exact(ai.1 hd).1
    exact ih i j x y x[j] d h1 hy (aa hj) hd (cL i x h1 j x[j] (aa hj))
inductive LY:SC→SC→Prop
 |refl (s:SC):LY s s
 |any (s:SC):LY s .any
 |lit (b:Bool):LY (.lit b) (.c (.bool b))
 |c {a b:CT} (h:sF a b):LY (.c a) (.c b)
inductive O9:List SC→List SC→Prop
 |nil:O9 [] []
 |cons {a b:SC} {l r:List SC} (h:LY a b) (k:O9 l r):O9 (a::l) (b::r)
inductive MQ:SV→SV→Prop
 |refl (s:SV):MQ s s
 |one {a b:SC} (h:LY a b):MQ (.one a) (.one b)
 |agg {a b:List SC} (h:O9 a b):MQ (.agg a) (.agg b)
inductive vP:List SV→List SV→Prop
 |nil:vP [] []
 |cons {a b:SV} {l r:List SV} (h:MQ a b) (k:vP l r):vP (a::l) (b::r)
inductive Eh:ST→ST→Prop
 |refl (s:ST):Eh s s
 |v {a b:SV} (h:MQ a b):Eh (.v a) (.v b)
 |gE {a b:List SV} (h:vP a b):Eh (.gE a) (.gE b)
inductive vQ:List CT→List CT→Prop
 |nil:vQ [] []
 |cons {a b:CT} {l r:List CT} (h:sF a b) (k:vQ l r):vQ (a::l) (b::r)
inductive Bn:List (List CT)→List (List CT)→Prop
 |refl (l:List (List CT)):Bn l l
 |nil:Bn [] []
 |cons {a b:List CT} {l r:List (List CT)} (h:vQ a b) (k:Bn l r):Bn (a::l) (b::r)
 |append {a b c d:List (List CT)} (h:Bn a b) (k:Bn c d):Bn (a++c) (b++d)
inductive F5:MO→MO→Prop
 |refl (o:MO):F5 o o
 |box {a b:List SC} (h:O9 a b):F5 (.box a) (.box b)
 |arr {nn:Bool} {e sz:Nat} {xs ys:List (List CT)} (h:Bn xs ys):F5 (.arr nn e sz xs) (.arr nn e sz ys)
 |nn {nn:Bool} {e sz:Nat} {xs ys:List (List CT)} (h:Bn xs ys):F5 (.arr nn e sz xs) (.arr false e sz ys)
section
variable {I:Nat→Prop} {H:Nat→Value} {Z:Nat→Nat} {w:World} {M:Nat→Prop}
theorem LY.rep{a b:SC}(h:LY a b){v:Value}(hr:bR I H Z w M v a):bR I H Z w M v b:=by
 cases h with
 |refl=>exact hr
 |any=>trivial
 |lit b=>rw[show v=.bool b from hr];exact a7.bool b
 |c h=>exact h.rep hr
theorem O9.rep{a b:List SC}(h:O9 a b):∀{us:List Value},Pw (fun u c=>bR I H Z w M u c) us a→Pw (fun u c=>bR I H Z w M u c) us b:=by
 induction h with
 |nil=>exact fun h=>h
 |cons h _ ih=>
  intro us hp
  match us,hp with
  |[],hp=>exact absurd hp.1 (by simp)
  |u::us,hp=>
   obtain⟨u',lY,hr⟩:=hp.2 0 _ J
   simp at lY;subst lY
   exact Pw.cons (h.rep hr) (ih ⟨by simpa using hp.1,fun j c hc=>by simpa using hp.2 (j+1) c (by simpa using hc)⟩)
theorem MQ.rep{a b:SV}(h:MQ a b){v:Value}(hr:cF I H Z w M v a):cF I H Z w M v b:=by
 cases h with
 |refl=>exact hr
 |one h=>exact LY.rep h hr
 |agg h=>
  obtain⟨vs,h1,h2,h3⟩:=hr
  have:=h.rep (us:=vs.toList) ⟨by simpa using h2,fun j c hc=>by simpa using h3 j c hc⟩
  exact⟨vs,h1,by simpa using this.1,fun j c hc=>by simpa using this.2 j c hc⟩
theorem vP.rep{a b:List SV}(h:vP a b):∀{us:List Value},Pw (fun u c=>cF I H Z w M u c) us a→Pw (fun u c=>cF I H Z w M u c) us b:=by
 induction h with
 |nil=>exact fun h=>h
 |cons h _ ih=>
  intro us hp
  match us,hp with
  |[],hp=>exact absurd hp.1 (by simp)
  |u::us,hp=>
   obtain⟨u',lY,hr⟩:=hp.2 0 _ J
   simp at lY;subst lY
   exact Pw.cons (h.rep hr) (ih ⟨by simpa using hp.1,fun j c hc=>by simpa using hp.2 (j+1) c (by simpa using hc)⟩)
theorem Eh.rep{a b:ST}(h:Eh a b){v:Value}(hr:fy I H Z w M v a):fy I H Z w M v b:=by
 cases h with
 |refl=>exact hr
 |v h=>exact MQ.rep h hr
 |gE h=>
  obtain⟨vs,h1,h2,h3⟩:=hr
  have:=h.rep (us:=vs.toList) ⟨by simpa using h2,fun j c hc=>by simpa using h3 j c hc⟩
  exact⟨vs,h1,by simpa using this.1,fun j c hc=>by simpa using this.2 j c hc⟩
theorem vQ.len{a b:List CT}(h:vQ a b):a.length=b.length:=by
 induction h with
 |nil=>rfl
 |cons _ _ ih=>simp[ih]
theorem vQ.get{a b:List CT}(h:vQ a b):∀{j:Nat} {c d:CT},a[j]? =some c→b[j]? =some d→sF c d:=by
 induction h with
 |nil=>intro j c d h;simp at h
 |cons h _ ih=>
  intro j c d hc hd
  cases j with
  |zero=>simp at hc hd;subst hc hd;exact h
  |succ j=>exact ih (by simpa using hc) (by simpa using hd)
theorem Bn.len{a b:List (List CT)}(h:Bn a b):a.length=b.length:=by
 induction h with
 |refl=>rfl
 |nil=>rfl
 |cons _ _ ih=>simp[ih]
 |append _ _ SL oZ=>simp[SL,oZ]
theorem Bn.get{a b:List (List CT)}(h:Bn a b):∀{k:Nat} {y:List CT},b[k]? =some y→∃x,a[k]? =some x∧x.length=y.length∧∀(j:Nat) (c d:CT),x[j]? =some c→y[j]? =some d→sF c d:=by
 induction h with
 |refl l=>intro k y hy;exact⟨y,hy,rfl,fun j c d hc hd=>by rw[hc]at hd;injection hd with hd;subst hd;exact .refl _⟩
 |nil=>intro k y hy;simp at hy
 |cons h _ ih=>
  intro k y hy
  cases k with
  |zero=>simp at hy;subst hy;exact⟨_,rfl,h.len,fun j c d hc hd=>h.get hc hd⟩
  |succ k=>simpa using ih (by simpa using hy)
 |append h1 h2 SL oZ=>
  intro k y hy
  rw[bN]at hy
  rw[bN,h1.len]
  split at hy
  ·rename_i hk;rw[if_pos hk];exact SL hy
  ·rename_i hk;rw[if_neg hk];exact oZ hy
theorem F5.rep{a b:MO}(h:F5 a b){i:Nat}(hr:eb I H Z w M i a):eb I H Z w M i b:=by
 have key:∀{nn:Bool} {e sz:Nat} {xs ys:List (List CT)},Bn xs ys→eb I H Z w M i (.arr nn e sz xs)→eb I H Z w M i (.arr nn e sz ys):=by
  intro nn e sz xs ys h hr
  obtain⟨hz,us,h1,h2,h3,h4⟩:=hr
  refine⟨hz,us,by rw[←h.len];exact h1,h2,fun y hy=>?_,fun k y hy j d hd=>?_⟩
  ·obtain⟨k,hk,V0⟩:=aB.1 hy
   obtain⟨x,g1,g2,_⟩:=h.get (k:=k) (y:=y) (by rw[aa hk,V0])
   rw[←g2];exact h3 x (an g1)
  ·obtain⟨x,g1,g2,g3⟩:=h.get hy
   have hj:j < x.length:=by rw[g2];exact(ai.1 hd).1
   obtain⟨u,hu,cL⟩:=h4 k x g1 j x[j] (aa hj)
   exact⟨u,hu,(g3 j x[j] d (aa hj) hd).rep cL⟩
 cases h with
 |refl=>exact hr
 |box h=>
  obtain⟨b,ty,vs,h1,h2,h3,h4⟩:=hr
  have hp:Pw (fun u c=>bR I H Z w M u c) vs.toList _:=⟨by simpa using h3,fun j c hc=>let⟨u,hu,_,hr⟩:=h4 j c hc;⟨u,by simpa using hu,hr⟩⟩
  have hq:=h.rep hp
  refine⟨b,ty,vs,h1,h2,by simpa using hq.1,fun j c hc=>?_⟩
  obtain⟨u,hu,cL⟩:=hq.2 j c hc
  have hj:j < vs.size:=(bu.1 (show vs[j]? =some u by simpa using hu)).1
  obtain⟨u',lY,ho,_⟩:=h4 j _ (aa (show j < _ by rw[←h3];exact hj))
  have:u'=u:=by
   have h5:vs[j]? =some u:=by simpa using hu
   rw[h5]at lY;injection lY with lY;exact lY.symm
  subst this
  exact⟨u',by simpa using hu,ho,cL⟩
 |arr h=>exact key h hr
 |nn h=>
  obtain⟨hz,us,h1,h2,h3,h4⟩:=key h hr
  exact⟨hz,us,h1,(fun h=>by cases h),h3,h4⟩
end
def LQ(tm:TM):TM→Prop
 |[]=>True
 |(t,s)::r=>(∃s0,iX tm t=some s0∧Eh s0 s)∧LQ tm r
def LR(mm:MM):MM→Prop
 |[]=>True
 |(i,o)::r=>(∃o0,getM mm i=some o0∧F5 o0 o)∧LR mm r
def iW(mm:MM)(i:Nat):Bool:=
 match getM mm i with
 |some _=>true
 |none=>false
def Pg(mm:MM):SC→Bool
 |.ptr i _|.iu i _ _|.own i|.mp i|.td i _=>iW mm i
 |.ku _ df=>RL df
 |_=>true
where
 RL:List Nat→Bool
  |[]=>true
  |i::r=>match iW mm i with
   |true=>RL r
   |false=>false
def Hq(mm:MM):List SC→Bool
 |[]=>true
 |a::l=>match Pg mm a with
  |true=>Hq mm l
  |false=>false
def Sx(mm:MM):SV→Bool
 |.one s=>Pg mm s
 |.agg l=>Hq mm l
def B9(mm:MM):List SV→Bool
 |[]=>true
 |a::l=>match Sx mm a with
  |true=>B9 mm l
  |false=>false
def Pf(mm:MM):ST→Bool
 |.v s=>Sx mm s
 |.gE l=>B9 mm l
def Km(mm:MM):TM→Bool
 |[]=>true
 |(_,s)::r=>match Pf mm s with
  |true=>Km mm r
  |false=>false
def x3(mm:MM):MM→Bool
 |[]=>true
 |(_,.box cs)::r=>match Hq mm cs with
  |true=>x3 mm r
  |false=>false
 |_::r=>x3 mm r
def xD:MM→Bool
 |[]=>true
 |(i,_)::r=>match iW r i with
  |true=>false
  |false=>xD r
theorem rO{mm:MM}{i:Nat}(h:iW mm i=true):cD mm i:=by
 unfold iW at h
 split at h
 ·rename_i hg;exact⟨_,aN hg,rfl⟩
 ·cases h
theorem fc{mm:MM}{i:Nat}(h:iW mm i=false):¬cD mm i:=by
 unfold iW at h
 split at h
 ·cases h
 ·rename_i hg;exact getM_none hg
theorem zT{mm:MM}{s:SC}(h:Pg mm s=true):∀i∈s.bD,cD mm i:=by
 have hl:∀l:List Nat,Pg.RL mm l=true→∀i∈l,cD mm i:=by
  intro l
  induction l with
  |nil=>intro _ i hi;cases hi
  |cons a l ih=>
   intro h i hi
   unfold Pg.RL at h
   split at h
   ·rename_i ha
    rcases ae.1 hi with rfl|hi
    ·exact rO ha
    ·exact ih h i hi
   ·cases h
 intro i hi
 cases s<;>simp only[SC.bD]at hi<;>first|(cases hi;done)|(simp only[Pg]at h;rw[aH]at hi;subst hi;exact rO h)|(exact hl _ h i hi)
theorem rB{mm:MM}:∀{l:List SC},Hq mm l=true→∀s∈l,∀i∈s.bD,cD mm i
 |[],_,s,hs=>by cases hs
 |a::l,h,s,hs=>by
  unfold Hq at h
  split at h
  ·rename_i ha
   rcases ae.1 hs with rfl|hs
   ·exact zT ha
   ·exact rB h s hs
  ·cases h
theorem zQ{mm:MM}{s:SV}(h:Sx mm s=true):∀i∈s.bD,cD mm i:=by
 intro i hi
 cases s with
 |one s=>exact zT h i hi
 |agg l=>
  simp only[SV.bD,bt]at hi
  obtain⟨s,hs,hi⟩:=hi
  exact rB h s hs i hi
theorem rA{mm:MM}:∀{l:List SV},B9 mm l=true→∀s∈l,∀i∈s.bD,cD mm i
 |[],_,s,hs=>by cases hs
 |a::l,h,s,hs=>by
  unfold B9 at h
  split at h
  ·rename_i ha
   rcases ae.1 hs with rfl|hs
   ·exact zQ ha
   ·exact rA h s hs
  ·cases h
theorem zR{mm:MM}{s:ST}(h:Pf mm s=true):∀i∈s.bD,cD mm i:=by
 intro i hi
 cases s with
 |v s=>exact zQ h i hi
 |gE l=>
  simp only[ST.bD,bt]at hi
  obtain⟨s,hs,hi⟩:=hi
  exact rA h s hs i hi
theorem qk{mm:MM}:∀{tm:TM},Km mm tm=true→∀p∈tm,∀i∈p.2.bD,cD mm i
 |[],_,p,hp=>by cases hp
 |(t,s)::l,h,p,hp=>by
  unfold Km at h
  split at h
  ·rename_i ha
   rcases ae.1 hp with rfl|hp
   ·exact zR ha
   ·exact qk h p hp
  ·cases h
theorem iT{mm:MM}:∀{l:MM},x3 mm l=true→∀p∈l,∀i∈p.2.bD,cD mm i
 |[],_,p,hp=>by cases hp
 |(t,o)::l,h,p,hp=>by
  cases o with
  |box cs=>
   unfold x3 at h
   split at h
   ·rename_i ha
    rcases ae.1 hp with rfl|hp
    ·intro i hi
     simp only[MO.bD,bt]at hi
     obtain⟨s,hs,hi⟩:=hi
     exact rB ha s hs i hi
    ·exact iT h p hp
   ·cases h
  |arr nn e sz xs=>
   have h':x3 mm l=true:=by simpa[x3]using h
   rcases ae.1 hp with rfl|hp
   ·intro i hi;cases hi
   ·exact iT h' p hp
  |lo es=>
   have h':x3 mm l=true:=by simpa[x3]using h
   rcases ae.1 hp with rfl|hp
   ·intro i hi;cases hi
   ·exact iT h' p hp
  |bG e sz qs=>
   have h':x3 mm l=true:=by simpa[x3]using h
   rcases ae.1 hp with rfl|hp
   ·intro i hi;cases hi
   ·exact iT h' p hp
theorem oc:∀{mm:MM},xD mm=true→∀p∈mm,∀q∈mm,p.1=q.1→p=q
 |[],_,p,hp=>by cases hp
 |(i,o)::r,h,p,hp=>by
  unfold xD at h
  split at h
  ·cases h
  ·rename_i hh
   have yO:=fc hh
   intro q hq he
   rcases ae.1 hp with rfl|hp<;>rcases ae.1 hq with rfl|hq
   ·rfl
   ·exact absurd ⟨q,hq,he.symm⟩ yO
   ·exact absurd ⟨p,hp,he⟩ yO
   ·exact oc h p hp q hq he
section
variable {C:Ctx} {f:FuncId} {n:Nat} {R:Ending→World→Prop} {k:List Item} {tm tm':TM} {mm mm':MM} {ops:Array Oper} {l:List Oper} {T:TM→MM→Prop}
theorem xz:∀{l:TM},LQ tm l→∀p∈l,∃s0,(p.1,s0)∈tm∧Eh s0 p.2
 |[],_,p,hp=>by cases hp
 |(t,s)::r,h,p,hp=>by
  rcases ae.1 hp with rfl|hp
  ·obtain⟨s0,h1,h2⟩:=h.1;exact⟨s0,gk h1,h2⟩
  ·exact xz h.2 p hp
theorem jG:∀{l:MM},LR mm l→∀p∈l,∃o0,(p.1,o0)∈mm∧F5 o0 p.2
 |[],_,p,hp=>by cases hp
 |(t,s)::r,h,p,hp=>by
  rcases ae.1 hp with rfl|hp
  ·obtain⟨s0,h1,h2⟩:=h.1;exact⟨s0,aN h1,h2⟩
  ·exact jG h.2 p hp
theorem Has.sub(ht:LQ tm tm')(hm:LR mm mm')(b7:Km mm' tm'=true)(H5:x3 mm' mm'=true)(hu:xD mm'=true){a:Act}{w:World}(h:Has C n tm mm a w):Has C n tm' mm' a w:=by
 obtain⟨H,Z,dC⟩:=h
 have hM:∀b,b < w.heap.size→cU C H mm' b→cU C H mm b:=by
  rintro b _ (hb|⟨p,hp,cC⟩)
  ·exact .inl hb
  ·obtain⟨o0,h1,_⟩:=jG hm p hp
   exact .inr ⟨_,h1,cC⟩
 refine⟨H,Z,dC.defers,dC.size,dC.L9,?_,dC.ext,dC.m0,oc hu,?_,?_,?_,?_⟩
 ·intro p hp jZ
  obtain⟨o0,h1,_⟩:=jG hm p hp
  exact dC.hg (p.1,o0) h1 jZ
 ·intro p hp
  obtain⟨o0,h1,h2⟩:=jG hm p hp
  have h3:=dC.mem _ h1
  have h4:=h2.rep h3
  exact h4.mono ⟨rfl,rfl⟩ (fun _ _=>rfl) (fun j hj _=>⟨iT H5 p hp j hj,rfl,rfl⟩) (aA _) (fun _ _ _=>rfl) hM
 ·intro p hp b hb
  obtain⟨o0,h1,_⟩:=jG hm p hp
  exact dC.fresh _ h1 b hb
 ·intro p hp q hq jl b cC
  obtain⟨o0,h1,_⟩:=jG hm p hp
  obtain⟨o1,h2,_⟩:=jG hm q hq
  exact dC.sep _ h1 _ h2 jl b cC
 ·intro p hp
  obtain⟨s0,h1,h2⟩:=xz ht p hp
  have h3:=h2.rep (dC.tmps _ h1)
  exact h3.mono (fun j hj _=>⟨qk b7 p hp j hj,rfl,rfl⟩) (aA _) (fun _ _ _=>rfl) hM
theorem bJ(ht:LQ tm tm')(hm:LR mm mm')(b7:Km mm' tm'=true)(H5:x3 mm' mm'=true)(hu:xD mm'=true){t:List Item}(g:Goes C f n R t tm' mm'):Goes C f n R t tm mm:=
 g.mono fun _ _ h=>h.sub ht hm b7 H5 hu
def Hw(L:List Oper)(o:Oper):Option Nat:=
 match o.guard with
 |none=>none
 |some (j,_)=>match rE L j with
  |some oj=>oj.dst
  |none=>none
variable {L:List Oper} {o:Oper} {t:Nat}
theorem aq{b:Bool}(hn:Hw L o=some t)(ht:iX tm t=some (.v (.one (.c (.bool b)))))
 (h1:b=true→SOps C n L.toArray (o::l) ((t,.v (.one (.lit true)))::bw tm t) mm T)
 (h2:b=false→SOps C n L.toArray (o::l) ((t,.v (.one (.lit false)))::bw tm t) mm T):SOps C n L.toArray (o::l) tm mm T:=
 have _:=hn
 SOps.split (gk ht) h1 h2
theorem zh{p:Prop}[Decidable p](hn:Hw L o=some t)(ht:iX tm t=some (.v (.one (.c (.bool (decide p))))))
 (h1:p→SOps C n L.toArray (o::l) ((t,.v (.one (.lit true)))::bw tm t) mm T)
 (h2:¬p→SOps C n L.toArray (o::l) ((t,.v (.one (.lit false)))::bw tm t) mm T):SOps C n L.toArray (o::l) tm mm T:=
 aq hn ht (fun h=>h1 (of_decide_eq_true h)) (fun h=>h2 (of_decide_eq_false h))
theorem Rb{x y:Code}{p:Prop}[Decidable p](hc:iX tm t=some (.v (.one (.c (.bool (decide p))))))
 (h1:p→Goes C f n R (.code x::k) ((t,.v (.one (.lit true)))::bw tm t) mm)(h2:¬p→Goes C f n R (.code y::k) ((t,.v (.one (.lit false)))::bw tm t) mm):
 Goes C f n R (.code (.cond (.tmp t) x y)::k) tm mm:=aU hc (fun h=>h1 (of_decide_eq_true h)) (fun h=>h2 (of_decide_eq_false h))
theorem dO{tm':TM}{mm':MM}(h:LW C n o tm mm tm' mm')(hg:bp L tm o=some true)(k:SOps C n L.toArray l tm' mm' T):SOps C n L.toArray (o::l) tm mm T:=
 SOps.step (iB hg) h k
variable {d:Nat} {x y:Operand} {ty sI:TypeId}
theorem bO{a b:Int}(ho:o.op=.binOp .add ty x y sI)(hx:aW tm x=some (.c (.int .i64 a)))(hy:aW tm y=some (.c (.int .i64 b)))(hd:o.dst=some d)(hn:Nat.blt d n=true)(hg:bp L tm o=some true)
 (hr:-9223372036854775808≤a+b∧a+b≤9223372036854775807)(k:SOps C n L.toArray l ((d,.v (.one (.c (.int .i64 (a+b)))))::bw tm d) mm T):SOps C n L.toArray (o::l) tm mm T:=
 dO (iS (p:=.add) ho hx hy (IntWalk.i64_in _ (by omega)) hd hn).wp hg k
theorem GA{a b:Int}(ho:o.op=.binOp .mul ty x y sI)(hx:aW tm x=some (.c (.int .i64 a)))(hy:aW tm y=some (.c (.int .i64 b)))(hd:o.dst=some d)(hn:Nat.blt d n=true)(hg:bp L tm o=some true)
 (hr:-9223372036854775808≤a * b∧a * b≤9223372036854775807)(k:SOps C n L.toArray l ((d,.v (.one (.c (.int .i64 (a * b)))))::bw tm d) mm T):SOps C n L.toArray (o::l) tm mm T:=
 dO (iS (p:=.mul) ho hx hy (IntWalk.i64_in _ (by omega)) hd hn).wp hg k
theorem L2{Θ:dD}(bI:bz C.P Θ){s:ByteArray}{kd:IntKind}{m:Int}{z dG:Nat}{ag:Bool}{zr:Option (List CT)}
 (ho:o.op=.index ty x y)(ht:aZ Θ ty=some ⟨z,dG,ag,zr,.string⟩)(hx:aW tm x=some (.c (.str s)))(hi:aW tm y=some (.c (.int kd m)))(hd:o.dst=some d)(hn:Nat.blt d n=true)(hg:bp L tm o=some true)
 (j:Nat)(b:UInt8)(hm:m=(j:Int))(hb:s.data.toList[j]? =some b)(k:SOps C n L.toArray l ((d,.v (.one (.c (.int .u8 (b.toNat:Int)))))::bw tm d) mm T):SOps C n L.toArray (o::l) tm mm T:=
 dO (EH bI ho ht hx hi hm hb hd hn).wp hg k
theorem ch{Θ:dD}(bI:bz C.P Θ){nn:Bool}{sz:Nat}{xs:List (List CT)}{kd:IntKind}{m:Int}{e:Nat}{z dG:Nat}{ag:Bool}{zr:Option (List CT)}{ei:gD}
 (ho:o.op=.indexAddr ty x y)(ht:aZ Θ ty=some ⟨z,dG,ag,zr,.slice e⟩)(fm:aZ Θ e=some ei)(hx:aW tm x=some (.c (.slice nn sz xs)))(c8:Nat.beq ei.size sz=true)
 (hi:aW tm y=some (.c (.int kd m)))(hd:o.dst=some d)(hn:Nat.blt d n=true)(hg:bp L tm o=some true)
 (j:Nat)(cs:List CT)(hm:m=(j:Int))(hj:xs[j]? =some cs)(k:SOps C n L.toArray l ((d,.v (.one (.hC cs)))::bw tm d) mm T):SOps C n L.toArray (o::l) tm mm T:=
 dO (xY bI ho ht fm c8 hx hi hm hj hd hn).wp hg k
theorem aS{g:FuncId}{pre post:List (List CT)}{args args':List SV}{res:ST}(hc:dy C.P g pre args res post)(ids:List Nat){xs:Array Operand}{ts:Array TypeId}
 (ho:o.op=.call {callee:=.value (.func g),args:=xs,argTypes:=ts})(cE:da tm xs.toList=some args')(iV:iO ids args=some args')(dp:ru mm ids=some pre)
 (kI:j8 ids=true)(hlen:post.length=pre.length)(eK:gR res=true)(hd:o.dst=some d)(hn:Nat.blt d n=true)(hg:bp L tm o=some true)
 (k:SOps C n L.toArray l ((d,res)::bw tm d) (jI mm ids post) T):SOps C n L.toArray (o::l) tm mm T:=
 dO (x2 hc ids ho cE iV dp kI hlen eK hd hn) hg k
theorem oW{g:FuncId}{pre post:List (List CT)}{args args':List SV}{res:ST}(hc:dy C.P g pre args res post)(ids:List Nat){df:List Nat}{xs:Array Operand}{ts:Array TypeId}
 (ho:o.op=.call {callee:=.value x,args:=xs,argTypes:=ts})(hx:aW tm x=some (.ku g df))(cE:da tm xs.toList=some args')(iV:iO ids args=some (C0 args' df))(dp:ru mm ids=some pre)
 (Oo:df.all (fun i=>match getM mm i with|some (.box _)=>true|_=>false)=true)
 (kI:j8 ids=true)(hlen:post.length=pre.length)(eK:gR res=true)(hd:o.dst=some d)(hn:Nat.blt d n=true)(hg:bp L tm o=some true)
 (k:SOps C n L.toArray l ((d,res)::bw tm d) (jI mm ids post) T):SOps C n L.toArray (o::l) tm mm T:=
 dO (B3 hc ids ho hx cE iV dp Oo kI hlen eK hd hn) hg k
end
theorem aC{k:IntKind}{a b:Int}(h:a=b):Eh (.v (.one (.c (.int k a)))) (.v (.one (.c (.int k b)))):=by subst h;exact .refl _
theorem fi{a b:CT}(h:a=b):Eh (.v (.one (.c a))) (.v (.one (.c b))):=by subst h;exact .refl _
section
variable {C:Ctx} {f:FuncId} {n:Nat} {R:Ending→World→Prop} {k:List Item} {tm:TM} {mm:MM} {c:Code}
theorem bE{ι:Type}(Inv:ι→Prop)(S:ι→TM)(M:ι→MM)(μ:ι→Nat)(i:ι)(h0:Inv i)(hs:∀a w,Has C n tm mm a w→Has C n (S i) (M i) a w)
 (h:∀i,Inv i→(∀j,Inv j→μ j < μ i→Goes C f n R (.inLoop c::k) (S j) (M j))→Goes C f n R (.code c::.inLoop c::k) (S i) (M i)):
 Goes C f n R (.code (.loop c)::k) tm mm:=
 OI (ι:={i:ι // Inv i}) (fun i=>(S i.1,M i.1)) (fun i=>μ i.1) ⟨i,h0⟩ hs fun i ih=>h i.1 i.2 fun j hj hm=>ih ⟨j,hj⟩ hm
theorem qx{ι κ:Type}(Inv:ι→κ→Prop)(S:ι→κ→TM)(M:ι→κ→MM)(μ:ι→κ→Nat)(i:ι)(a:κ)(h0:Inv i a)(hs:∀x w,Has C n tm mm x w→Has C n (S i a) (M i a) x w)
 (h:∀i a,Inv i a→(∀j b,Inv j b→μ j b < μ i a→Goes C f n R (.inLoop c::k) (S j b) (M j b))→Goes C f n R (.code c::.inLoop c::k) (S i a) (M i a)):
 Goes C f n R (.code (.loop c)::k) tm mm:=
 bE (ι:=ι×κ) (fun p=>Inv p.1 p.2) (fun p=>S p.1 p.2) (fun p=>M p.1 p.2) (fun p=>μ p.1 p.2) (i,a) h0 hs fun p hp ih=>h p.1 p.2 hp fun j b hj hm=>ih (j,b) hj hm
theorem Lh{ι κ τ:Type}(Inv:ι→κ→τ→Prop)(S:ι→κ→τ→TM)(M:ι→κ→τ→MM)(μ:ι→κ→τ→Nat)(i:ι)(a:κ)(t:τ)(h0:Inv i a t)(hs:∀x w,Has C n tm mm x w→Has C n (S i a t) (M i a t) x w)
 (h:∀i a t,Inv i a t→(∀j b u,Inv j b u→μ j b u < μ i a t→Goes C f n R (.inLoop c::k) (S j b u) (M j b u))→Goes C f n R (.code c::.inLoop c::k) (S i a t) (M i a t)):
 Goes C f n R (.code (.loop c)::k) tm mm:=
 bE (ι:=ι×κ×τ) (fun p=>Inv p.1 p.2.1 p.2.2) (fun p=>S p.1 p.2.1 p.2.2) (fun p=>M p.1 p.2.1 p.2.2) (fun p=>μ p.1 p.2.1 p.2.2) (i,a,t) h0 hs fun p hp ih=>h p.1 p.2.1 p.2.2 hp fun j b u hj hm=>ih (j,b,u) hj hm
end
end Go.Sy
namespace Go.Sy
open Go.RowKit
def JN(tm:TM):List Item→Option (List Item)
 |.code (.seq x y)::k=>some (.code x::.code y::k)
 |.code .skip::k=>some k
 |.code (.block id c)::k=>some (.code c::.inBlock id::k)
 |.inBlock _::k=>some k
 |.code (.exit id)::k=>exitTo id k
 |.code (.cond c x y)::k=>match aW tm c with
  |some (.lit true)=>some (.code x::k)
  |some (.lit false)=>some (.code y::k)
  |_=>none
 |_=>none
def R9(tm:TM):Nat→List Item→Option (List Item)
 |0,k=>some k
 |m+1,k=>match JN tm k with
  |some k'=>R9 tm m k'
  |none=>some k
def PT(tm:TM)(k:List Item):Option (List Item):=
 match JN tm k with
 |some k'=>R9 tm 40 k'
 |none=>none
section
variable {C:Ctx} {f:FuncId} {n:Nat} {R:Ending→World→Prop} {k k':List Item} {tm:TM} {mm:MM}
theorem tw(h:JN tm k=some k')(g:Goes C f n R k' tm mm):Goes C f n R k tm mm:=by
 unfold JN at h
 split at h
 ·injection h with h;subst h;exact DY g
 ·injection h with h;subst h;exact IB g
 ·injection h with h;subst h;exact D1 g
 ·injection h with h;subst h;exact xa g
 ·exact IE h g
 ·split at h
  ·injection h with h;subst h;exact xb (by assumption) g
  ·injection h with h;subst h;exact uL (by assumption) g
  ·cases h
 ·cases h
theorem w9:∀{m:Nat} {k:List Item},R9 tm m k=some k'→Goes C f n R k' tm mm→Goes C f n R k tm mm
 |0,k,h,g=>by injection h with h;subst h;exact g
 |m+1,k,h,g=>by
  unfold R9 at h
  split at h
  ·rename_i hs;exact tw hs (w9 h g)
  ·injection h with h;subst h;exact g
theorem bH(h:PT tm k=some k')(g:Goes C f n R k' tm mm):Goes C f n R k tm mm:=by
 unfold PT at h
 split at h
 ·rename_i hs;exact tw hs (w9 h g)
 ·cases h
end
theorem dd{nn:Bool}{e sz:Nat}{xs ys:List (List CT)}(h:xs=ys):F5 (.arr nn e sz xs) (.arr false e sz ys):=by subst h;exact .nn (.refl _)
theorem aF:(∀(p:Prop) [Decidable p],(decide p=true)=p)∧(∀(p:Prop) [Decidable p],(decide p=false)=¬p)∧(∀b:Bool,((!b)=true)=(b=false))∧(∀b:Bool,((!b)=false)=(b=true))∧
 (∀b:Bool,(¬(b=true))=(b=false))∧(∀b:Bool,(¬(b=false))=(b=true))∧((!true)=false)∧((!false)=true)∧((false=true)=False)∧((true=false)=False)∧((¬True)=False)∧((¬False)=True)∧
 (∀(α β:Type) (g:α→β) (l:List α),(l.map g).length=l.length):=by
 refine⟨fun p _=>by simp,fun p _=>by simp,fun b=>by simp,fun b=>by simp,fun b=>by simp,fun b=>by simp,rfl,rfl,by simp,by simp,by simp,by simp,fun α β g l=>by simp⟩
end Go.Sy
namespace Go.Sy
open Go.RowKit
theorem Has.lA{C:Ctx}{n:Nat}{tm tm':TM}{mm:MM}{a:Act}{w:World}(h:Has C n tm mm a w)(hs:∀p∈tm',p∈tm):Has C n tm' mm a w:=by
 obtain⟨H,Z,hm⟩:=h
 exact⟨H,Z,hm.sub hs⟩
def JH(C:Ctx)(n:Nat)(mm:MM)(o:Oper)(By:TM)(d:Nat)(s:ST):Prop:=
 (o.dst=some d∧Nat.blt d n=true)∧∀tm':TM,(∀p∈By,p∈tm')→LW C n o tm' mm ((d,s)::bw tm' d) mm
theorem eO.Jt{C:Ctx}{n:Nat}{mm:MM}{o:Oper}{By:TM}{d:Nat}{s:ST}(h:eO C n o By mm d s):JH C n mm o By d s:=by
 refine⟨h.1,fun tm' hs=>?_⟩
 refine eO.wp ⟨h.1,fun H Z a w hm=>?_⟩
 exact h.2 H Z a w (hm.sub hs)
theorem IA{l r:TM}{t:Nat}{s:ST}(h:iX l t=some s):iX (l++r) t=some s:=by
 induction l with
 |nil=>simp[iX]at h
 |cons p l ih=>
  obtain⟨e,u⟩:=p
  unfold iX at h
  show iX ((e,u)::(l++r)) t=some s
  unfold iX
  cases hb:Nat.beq e t with
  |true=>rw[hb]at h;exact h
  |false=>rw[hb]at h;exact ih h
theorem xg{l r:TM}{x:Operand}{s:ST}(h:lv l x=some s):lv (l++r) x=some s:=by
 cases x<;>first|exact IA h|exact h
theorem oG{l r:TM}{x:Operand}{s:SV}(h:dM l x=some s):dM (l++r) x=some s:=by
 unfold dM at h⊢
 split at h
 ·rename_i hs;rw[xg hs];exact h
 ·cases h
theorem Fv{l r:TM}{x:Operand}{s:SV}(h:o6 l x=some s):o6 (l++r) x=some s:=by
 unfold o6 at h⊢
 split at h
 ·rename_i hs;rw[oG hs];exact h
 ·cases h
theorem kn{l r:TM}:∀{xs:List Operand} {s:List SV},da l xs=some s→da (l++r) xs=some s
 |[],s,h=>h
 |x::xs,s,h=>by
  unfold da at h⊢
  split at h
  ·rename_i hx
   rw[Fv hx]
   split at h
   ·rename_i hl;rw[kn hl];exact h
   ·cases h
  ·cases h
theorem tX{C:Ctx}{n:Nat}{By:TM}{mm:MM}{o:Oper}{d:Nat}{f:FuncId}{pre post:List (List CT)}{args args':List SV}{res:ST}(hc:dy C.P f pre args res post)(ids:List Nat){xs:Array Operand}{ts:Array TypeId}
 (ho:o.op=.call {callee:=.value (.func f),args:=xs,argTypes:=ts})(cE:da By xs.toList=some args')(iV:iO ids args=some args')(dp:ru mm ids=some pre)
 (kI:j8 ids=true)(hlen:post.length=pre.length)(eK:gR res=true)(hd:o.dst=some d)(hn:Nat.blt d n=true)(o2:jI mm ids post=mm):
 JH C n mm o By d res:=by
 refine⟨⟨hd,hn⟩,fun tm' hs=>?_⟩
 have h:=x2 (tm:=By++tm') hc ids ho (kn cE) iV dp kI hlen eK hd hn
 rw[o2]at h
 intro a w K Q hh hK
 refine h a w K Q (hh.lA fun p hp=>(aQ.1 hp).elim (hs p) id) fun a' w' h'=>hK a' w' (h'.lA fun p hp=>?_)
 rcases ae.1 hp with rfl|hp
 ·exact ah
 ·refine ab _ ?_
  have key:∀{l:TM},p∈l→p.1≠d→p∈bw l d:=by
   intro l
   induction l with
   |nil=>intro h;cases h
   |cons q l ih=>
    intro h cj
    obtain⟨e,u⟩:=q
    unfold bw
    cases hb:Nat.beq e d with
    |true=>
     rcases ae.1 h with rfl|h
     ·exact absurd (aR hb) cj
     ·exact ih h cj
    |false=>
     rcases ae.1 h with rfl|h
     ·exact ah
     ·exact ab _ (ih h cj)
  obtain⟨h1,h2⟩:=b4 hp
  exact key (b8 _ h1) h2
theorem cd{d:Nat}{p:Nat×ST}:∀{l:TM},p∈l→p.1≠d→p∈bw l d
 |[],h,_=>by cases h
 |(e,u)::l,h,cj=>by
  unfold bw
  cases hb:Nat.beq e d with
  |true=>
   rcases ae.1 h with rfl|h
   ·exact absurd (aR hb) cj
   ·exact cd h cj
  |false=>
   rcases ae.1 h with rfl|h
   ·exact ah
   ·exact ab _ (cd h cj)
def fw:List Nat→Nat→Bool
 |[],_=>false
 |a::l,t=>match Nat.beq a t with
  |true=>true
  |false=>fw l t
theorem cz{t:Nat}:∀{l:List Nat},fw l t=true↔t∈l
 |[]=>by simp[fw]
 |a::l=>by
  unfold fw
  cases hb:Nat.beq a t with
  |true=>simp[aR hb]
  |false=>
   have:¬t=a:=fun e=>by subst e;simp at hb
   simp[this,cz (l:=l)]
def wa:List Operand→List Nat
 |[]=>[]
 |.tmp t::r=>t::wa r
 |_::r=>wa r
def aK(L:List Oper)(o:Oper):List Nat:=
 match o.guard with
 |none=>wa o.op.operands.toList
 |some (j,_)=>match rE L j with
  |some oj=>match oj.dst with
   |some t=>t::wa o.op.operands.toList
   |none=>wa o.op.operands.toList
  |none=>wa o.op.operands.toList
def bg(l:List Nat):TM→TM
 |[]=>[]
 |(t,s)::r=>match fw l t with
  |true=>(t,s)::bg l r
  |false=>bg l r
theorem cQ{l:List Nat}{p:Nat×ST}:∀{tm:TM},p∈bg l tm↔p∈tm∧p.1∈l
 |[]=>by simp[bg]
 |(t,s)::r=>by
  unfold bg
  cases hb:fw l t with
  |true=>
   have:=cz.1 hb
   simp only[ae,cQ (tm:=r)]
   constructor
   ·rintro(rfl|h)
    ·exact⟨.inl rfl,this⟩
    ·exact⟨.inr h.1,h.2⟩
   ·rintro⟨rfl|h,k⟩
    ·exact .inl rfl
    ·exact .inr ⟨h,k⟩
  |false=>
   have hn:t∉l:=fun h=>by rw[cz.2 h]at hb;cases hb
   simp only[ae,cQ (tm:=r)]
   constructor
   ·rintro⟨h,k⟩;exact⟨.inr h,k⟩
   ·rintro⟨rfl|h,k⟩
    ·exact absurd k hn
    ·exact⟨h,k⟩
section
variable {C:Ctx} {n:Nat} {mm:MM} {L:List Oper}
def FL(C:Ctx)(n:Nat)(mm:MM)(L:List Oper)(tm:TM)(o:Oper):Prop:=
 ∃d s,o.dst=some d∧(d,s)∈tm∧∀tm':TM,(∀p∈tm,p.1∈aK L o→p∈tm')→∀(a:Act) (w:World) (K:Act→World→Prop) (Q:Exit→Act→World→Prop),Has C n tm' mm a w→
  (∀a' w',Has C n ((d,s)::bw tm' d) mm a' w'→K a' w')→
  if Region.wanted o (yielded L.toArray a.tmps)then o.wp C.P a w K Q else K (a.put o.dst undef) w
theorem nx{L:List Oper}{j:Nat}:rE L j=L[j]? :=x4 L j
theorem nL{tm:TM}{o:Oper}{b:Bool}(h:bp L (bg (aK L o) tm) o=some b){tm':TM}(hs:∀p∈tm,p.1∈aK L o→p∈tm')
 {a:Act}{w:World}(hh:Has C n tm' mm a w):Region.wanted o (yielded L.toArray a.tmps)=b:=
 iw (iB h) (hh.lA fun p hp=>hs p (cQ.1 hp).1 (cQ.1 hp).2)
theorem Ho{tm:TM}{o:Oper}{d:Nat}{s:ST}(hg:bp L (bg (aK L o) tm) o=some true)(h:JH C n mm o (bg (aK L o) tm) d s)(iA:d∉aK L o):FL C n mm L ((d,s)::bw tm d) o:=by
 refine⟨d,s,h.1.1,ah,fun tm' hs a w K Q hh hK=>?_⟩
 have FQ:∀p∈tm,p.1∈aK L o→p∈tm':=fun p hp hl=>hs p (ab _ (cd hp fun e=>iA (e▸hl))) hl
 rw[if_pos (nL hg FQ hh)]
 exact h.2 tm' (fun p hp=>FQ p (cQ.1 hp).1 (cQ.1 hp).2) a w K Q hh hK
theorem Hp{tm:TM}{o:Oper}{d:Nat}(hg:bp L (bg (aK L o) tm) o=some false)(hd:o.dst=some d)(hn:Nat.blt d n=true)(iA:d∉aK L o):FL C n mm L ((d,.gE [])::bw tm d) o:=by
 refine⟨d,_,hd,ah,fun tm' hs a w K Q hh hK=>?_⟩
 have FQ:∀p∈tm,p.1∈aK L o→p∈tm':=fun p hp hl=>hs p (ab _ (cd hp fun e=>iA (e▸hl))) hl
 rw[if_neg (by rw[nL hg FQ hh];simp)]
 obtain⟨H,Z,hm⟩:=hh
 rw[hd]
 exact hK _ _ ⟨H,Z,hm.BD (aY.mp hn) ⟨#[],rfl,rfl,fun j c hc=>by simp at hc⟩⟩
theorem FL.grow{tm:TM}{o:Oper}(h:FL C n mm L tm o){d:Nat}{s:ST}(hd:o.dst≠some d)(hl:d∉aK L o):FL C n mm L ((d,s)::bw tm d) o:=by
 obtain⟨d',s',h1,h2,h3⟩:=h
 have cj:d'≠d:=fun e=>hd (e▸h1)
 refine⟨d',s',h1,ab _ (cd h2 cj),fun tm' hs=>h3 tm' fun p hp mZ=>hs p (ab _ (cd hp fun e=>hl (e▸mZ))) mZ⟩
theorem FL.told{tm:TM}{o:Oper}(h:FL C n mm L tm o){t:Nat}{b:Bool}(hu:∀s,(t,s)∈tm→s=.v (.one (.c (.bool b)))):
 FL C n mm L ((t,.v (.one (.lit b)))::bw tm t) o:=by
 obtain⟨d,s,h1,h2,h3⟩:=h
 have conv:∀{l l':TM},(∀p∈l',p∈l∨(p=(t,.v (.one (.lit b)))∧(t,ST.v (.one (.c (.bool b))))∈l)∨(p=(t,.v (.one (.c (.bool b))))∧(t,ST.v (.one (.lit b)))∈l))→
  ∀a w,Has C n l mm a w→Has C n l' mm a w:=by
  intro l l' hl a w ⟨H,Z,hm⟩
  refine⟨H,Z,{hm with tmps:=fun p hp=>?_}⟩
  rcases hl p hp with h|⟨rfl,h⟩|⟨rfl,h⟩
  ·exact hm.tmps p h
  ·exact a7.nS (hm.tmps _ h)
  ·have:a.tmps.getD t undef=.bool b:=hm.tmps _ h
   show a7 _ _ (a.tmps.getD t undef) _
   rw[this];exact .bool b
 by_cases UY:d=t
 ·subst UY
  have hs:=hu s h2
  subst hs
  refine⟨d,_,h1,ah,fun tm' hs a w K Q hh hK=>?_⟩
  refine h3 (bg (aK L o) tm++tm') (fun p hp hl=>eZ _ (cQ.2 ⟨hp,hl⟩)) a w K Q (conv ?_ a w hh) (fun a' w' h'=>hK a' w' (conv ?_ a' w' h'))
  ·intro p hp
   rcases aQ.1 hp with hp|hp
   ·obtain⟨hp,hl⟩:=cQ.1 hp
    by_cases yi:p.1=d
    ·have:p=(d,.v (.one (.c (.bool b)))):=Prod.ext yi (hu p.2 (by rw[←yi];exact hp))
     exact .inr (.inr ⟨this,hs _ ah (yi▸hl)⟩)
    ·exact .inl (hs p (ab _ (cd hp yi)) hl)
   ·exact .inl hp
  ·intro p hp
   rcases ae.1 hp with rfl|hp
   ·exact .inr (.inl ⟨rfl,ah⟩)
   ·obtain⟨e1,e2⟩:=b4 hp
    exact .inl (ab _ (cd (b8 _ e1) e2))
 ·refine⟨d,s,h1,ab _ (cd h2 UY),fun tm' hs a w K Q hh hK=>?_⟩
  refine h3 (bg (aK L o) tm++tm') (fun p hp hl=>eZ _ (cQ.2 ⟨hp,hl⟩)) a w K Q (conv ?_ a w hh) (fun a' w' h'=>hK a' w' (conv ?_ a' w' h'))
  ·intro p hp
   rcases aQ.1 hp with hp|hp
   ·obtain⟨hp,hl⟩:=cQ.1 hp
    by_cases yi:p.1=t
    ·have:p=(t,.v (.one (.c (.bool b)))):=Prod.ext yi (hu p.2 (by rw[←yi];exact hp))
     exact .inr (.inr ⟨this,hs _ ah (yi▸hl)⟩)
    ·exact .inl (hs p (ab _ (cd hp yi)) hl)
   ·exact .inl hp
  ·intro p hp
   rcases ae.1 hp with rfl|hp
   ·exact .inl ah
   ·obtain⟨e1,e2⟩:=b4 hp
    exact .inl (ab _ (cd (b8 _ e1) e2))
def fz:List Edge→List Nat
 |[]=>[]
 |e::r=>match Region.binds .any e with
  |true=>e.on::fz r
  |false=>fz r
def bV:List Oper→List Nat
 |[]=>[]
 |o::r=>match o.dst with
  |some d=>d::bV r
  |none=>bV r
def AR(L:List Oper)(d:Nat):List Oper→Bool
 |[]=>true
 |o::r=>match o.dst with
  |none=>false
  |some e=>match Nat.beq e d with
   |true=>false
   |false=>match fw (aK L o) d with
    |true=>false
    |false=>AR L d r
def mM(lk af:List Nat):List Oper→Nat→Bool
 |[],_=>true
 |o::r,j=>match o.dst with
  |none=>mM lk af r (j+1)
  |some e=>match fw lk e with
   |false=>mM lk af r (j+1)
   |true=>match fw af j with
    |true=>mM lk af r (j+1)
    |false=>false
def mj:List Nat→Nat→Bool
 |[],_=>true
 |a::l,i=>match Nat.blt a i with
  |true=>mj l i
  |false=>false
def Hn(L:List Oper):List Oper→List Oper→Nat→Bool
 |_,[],_=>true
 |ahead,o::r,i=>match o.dst with
  |none=>false
  |some d=>match AR L d ahead,fw (aK L o) d,mM (aK L o) (fz o.after.toList) L 0,mj (fz o.after.toList) i with
   |true,false,true,true=>Hn L (o::ahead) r (i+1)
   |_,_,_,_=>false
theorem uO{d:Nat}:∀{l:List Oper},AR L d l=true→∀o∈l,o.dst≠some d∧d∉aK L o
 |[],_,o,ho=>by cases ho
 |a::l,h,o,ho=>by
  unfold AR at h
  split at h
  ·cases h
  ·rename_i e he
   split at h
   ·cases h
   ·rename_i We
    split at h
    ·cases h
    ·rename_i hm
     rcases ae.1 ho with rfl|ho
     ·refine⟨fun e'=>?_,fun hk=>by rw[cz.2 hk]at hm;cases hm⟩
      rw[he]at e';injection e' with e';subst e';simp at We
     ·exact uO h o ho
theorem jq{lk af:List Nat}:∀{l:List Oper} {j:Nat},mM lk af l j=true→∀(k:Nat) (o:Oper) (e:Nat),l[k]? =some o→o.dst=some e→e∈lk→j+k∈af
 |[],j,_,k,o,e,ho,_,_=>by simp at ho
 |a::l,j,h,k,o,e,ho,he,hl=>by
  unfold mM at h
  cases k with
  |zero=>
   simp at ho;subst ho
   rw[he]at h
   simp only[cz.2 hl]at h
   split at h
   ·rename_i hm;exact cz.1 hm
   ·cases h
  |succ k=>
   have key:mM lk af l (j+1)=true:=by
    split at h
    ·exact h
    ·split at h
     ·exact h
     ·split at h
      ·exact h
      ·cases h
   have:=jq key k o e (by simpa using ho) he hl
   rwa [show j+(k+1)=j+1+k by omega]
theorem dR{i:Nat}:∀{l:List Nat},mj l i=true→∀a∈l,a < i
 |[],_,a,ha=>by cases ha
 |b::l,h,a,ha=>by
  unfold mj at h
  split at h
  ·rename_i hb
   rcases ae.1 ha with rfl|ha
   ·exact aY.mp hb
   ·exact dR h a ha
  ·cases h
theorem zS{ahead l:List Oper}{o:Oper}{i:Nat}(h:Hn L ahead (o::l) i=true):
 ∃d,o.dst=some d∧AR L d ahead=true∧d∉aK L o∧mM (aK L o) (fz o.after.toList) L 0=true∧mj (fz o.after.toList) i=true∧Hn L (o::ahead) l (i+1)=true:=by
 unfold Hn at h
 split at h
 ·cases h
 ·rename_i d hd
  split at h
  ·rename_i h1 h2 h3 h4
   exact⟨d,hd,h1,(fun hk=>by rw[cz.2 hk]at h2;cases h2),h3,h4,h⟩
  ·cases h
theorem oo:∀{l ahead:List Oper} {i:Nat},Hn L ahead l i=true→∀(k:Nat) (o:Oper),l[k]? =some o→
 (∃d,o.dst=some d)∧mM (aK L o) (fz o.after.toList) L 0=true∧mj (fz o.after.toList) (i+k)=true
 |[],_,_,_,k,o,ho=>by simp at ho
 |a::l,ahead,i,h,k,o,ho=>by
  obtain⟨d,h1,_,_,h4,h5,h6⟩:=zS h
  cases k with
  |zero=>simp at ho;subst ho;exact⟨⟨d,h1⟩,h4,h5⟩
  |succ k=>
   have:=oo h6 k o (by simpa using ho)
   rwa [show i+1+k=i+(k+1) by omega]at this
structure DS(C:Ctx)(n:Nat)(mm:MM)(L:List Oper)(cp:TM)(ahead l:List Oper)(i:Nat)(tm:TM):Prop where
 ok:∀o∈ahead,FL C n mm L tm o
 keys:∀p∈tm,∀q∈tm,p.1=q.1→p=q
 base:∀p∈tm,p.1∉bV L→p∈cp
 FO:Hn L ahead l i=true
 whole:L=ahead.reverse++l
def DOps(C:Ctx)(n:Nat)(mm:MM)(L:List Oper)(cp:TM)(l:List Oper)(tm:TM)(T:TM→Prop):Prop:=
 ∀ahead i,DS C n mm L cp ahead l i tm→∃dc,T dc∧(∀o∈L,FL C n mm L dc o)∧(∀p∈dc,p.1∉bV L→p∈cp)∧(∀p∈dc,∀q∈dc,p.1=q.1→p=q)
variable {cp tm:TM} {l:List Oper} {T:TM→Prop} {o:Oper} {d:Nat} {s:ST}
theorem DOps.nil(h:T tm):DOps C n mm L cp [] tm T:=fun ahead i hs=>
 ⟨tm,h,fun o ho=>hs.ok o (by have:=hs.whole;rw[cV]at this;rw[this]at ho;simpa using ho),hs.base,hs.keys⟩
theorem lW{tm:TM}(h:∀p∈tm,∀q∈tm,p.1=q.1→p=q):∀p∈(d,s)::bw tm d,∀q∈(d,s)::bw tm d,p.1=q.1→p=q:=by
 intro p hp q hq he
 rcases ae.1 hp with rfl|hp<;>rcases ae.1 hq with rfl|hq
 ·rfl
 ·exact absurd he.symm (b4 hq).2
 ·exact absurd he (b4 hp).2
 ·exact h p (b4 hp).1 q (b4 hq).1 he
theorem eX{o:Oper}{d:Nat}:∀{l:List Oper},o∈l→o.dst=some d→d∈bV l
 |[],h,_=>by cases h
 |a::l,h,hd=>by
  unfold bV
  rcases ae.1 h with rfl|h
  ·rw[hd];exact ah
  ·split
   ·exact ab _ (eX h hd)
   ·exact eX h hd
theorem eY{d:Nat}:∀{l:List Oper},d∈bV l→∃(k:Nat) (o:Oper),l[k]? =some o∧o.dst=some d
 |[],h=>by simp[bV]at h
 |a::l,h=>by
  unfold bV at h
  split at h
  ·rename_i e he
   rcases ae.1 h with rfl|h
   ·exact⟨0,a,rfl,he⟩
   ·obtain⟨k,o,h1,h2⟩:=eY h
    exact⟨k+1,o,by simpa using h1,h2⟩
  ·obtain⟨k,o,h1,h2⟩:=eY h
   exact⟨k+1,o,by simpa using h1,h2⟩
theorem DS.next{ahead:List Oper}{i:Nat}(hs:DS C n mm L cp ahead (o::l) i tm)(hd:o.dst=some d)(b7:d∉aK L o→FL C n mm L ((d,s)::bw tm d) o):
 DS C n mm L cp (o::ahead) l (i+1) ((d,s)::bw tm d):=by
 obtain⟨d',h1,h2,h3,h4,h5,h6⟩:=zS hs.FO
 rw[hd]at h1;injection h1 with h1;subst h1
 have eL:o∈L:=by rw[hs.whole];simp
 refine⟨fun o' dX=>?_,lW hs.keys,fun p hp hn=>?_,h6,by rw[hs.whole];simp⟩
 ·rcases ae.1 dX with rfl|dX
  ·exact b7 h3
  ·obtain⟨k1,k2⟩:=uO h2 o' dX
   exact(hs.ok o' dX).grow k1 k2
 ·rcases ae.1 hp with rfl|hp
  ·exact absurd (eX eL hd) hn
  ·exact hs.base p (b4 hp).1 hn
theorem DOps.step(hg:bp L (bg (aK L o) tm) o=some true)(h:JH C n mm o (bg (aK L o) tm) d s)(k:DOps C n mm L cp l ((d,s)::bw tm d) T):
 DOps C n mm L cp (o::l) tm T:=fun ahead i hs=>k _ _ (hs.next h.1.1 (Ho hg h))
theorem DOps.skip(hg:bp L (bg (aK L o) tm) o=some false)(hd:o.dst=some d)(hn:Nat.blt d n=true)(k:DOps C n mm L cp l ((d,.gE [])::bw tm d) T):
 DOps C n mm L cp (o::l) tm T:=fun ahead i hs=>k _ _ (hs.next hd (Hp hg hd hn))
theorem DOps.split{t:Nat}{b:Bool}(eL:fw (bV L) t=true)(hm:(t,ST.v (.one (.c (.bool b))))∈tm)
 (h1:b=true→DOps C n mm L cp l ((t,ST.v (.one (.lit true)))::bw tm t) T)
 (h2:b=false→DOps C n mm L cp l ((t,ST.v (.one (.lit false)))::bw tm t) T):DOps C n mm L cp l tm T:=fun ahead i hs=>by
 have key:∀b',b=b'→DS C n mm L cp ahead l i ((t,ST.v (.one (.lit b')))::bw tm t):=by
  intro b' hb
  subst hb
  refine⟨fun o ho=>(hs.ok o ho).told fun s FQ=>?_,lW hs.keys,fun p hp hn=>?_,hs.FO,hs.whole⟩
  ·have:=hs.keys _ FQ _ hm J
   injection this
  ·rcases ae.1 hp with rfl|hp
   ·exact absurd (cz.1 eL) hn
   ·exact hs.base p (b4 hp).1 hn
 cases b with
 |true=>exact h1 J _ _ (key true J)
 |false=>exact h2 J _ _ (key false J)
theorem Has.drawn{tm:TM}{a:Act}{w:World}(h:Has C n tm mm a w):Has C n tm mm a {w with drawn:=w.drawn+1}:=by
 obtain⟨H,Z,hm⟩:=h
 refine⟨H,Z,hm.build (fun _=>False) ⟨rfl,rfl,rfl,aA _,fun _ _ _=>rfl⟩ (fun _ _ h=>h.elim) hm.defers hm.size hm.hg hm.ids
  (fun p hp=>.inl ⟨hp,rfl,rfl,fun _ _ h=>h,fun j _ hj=>⟨hj,rfl,rfl⟩⟩) hm.sep (fun p hp=>.inl ⟨p,hp,rfl,rfl,fun j _ hj=>⟨hj,rfl,rfl⟩⟩)⟩
def nD(L:List Oper)(listed:Array Bool)(tm:TM)(p:Nat×ST):Prop:=
 p∈tm∧(p.1∉bV L∨∃(k:Nat) (o:Oper),L[k]? =some o∧o.dst=some p.1∧listed.getD k false=true)
theorem count_set:∀{l:List Bool} {i:Nat},l[i]? =some false→((l.set i true).filter (!·)).length+1=(l.filter (!·)).length
 |[],i,h=>by simp at h
 |x::l,0,h=>by simp at h;subst h;simp
 |x::l,i+1,h=>by
  have:=count_set (l:=l) (i:=i) (by simpa using h)
  cases x<;>simp_all
theorem O5{dc:TM}(b7:Hn L [] L 0=true)(hF:∀o∈L,FL C n mm L dc o)(Cl:∀p∈dc,∀q∈dc,p.1=q.1→p=q)
 {P:TM→MM→Prop}(hP:P dc mm):
 ∀(fuel:Nat) (listed:Array Bool) (a:Act) (w:World) (tm:TM),listed.size=L.length→(listed.toList.filter (!·)).length≤fuel→(∀p,nD L listed dc p→p∈tm)→Has C n tm mm a w→
  wpAny C.P .any L.toArray (QT C n P) fuel listed a w:=by
 have nH:∀(listed:Array Bool),listed.size=L.length→Region.ready .any L.toArray listed=[]→∀k,k < L.length→listed.getD k false=true:=by
  intro listed c8 hr k
  induction k using Nat.strongRecOn with
  |_ k ih=>
   intro hk
   cases hl:listed.getD k false with
   |true=>rfl
   |false=>
    have dL:k∈Region.ready .any L.toArray listed:=by
     rw[mem_ready]
     refine⟨?_,L[k],by simp[hk],fun e he hb=>?_⟩
     ·have K3:k < listed.size:=by omega
      simp[Array.getD,K3]at hl⊢;exact hl
     ·obtain⟨_,_,h3⟩:=oo b7 k L[k] (aa hk)
      have:e.on∈fz L[k].after.toList:=by
       have key:∀l:List Edge,e∈l→e.on∈fz l:=by
        intro l
        induction l with
        |nil=>intro h;cases h
        |cons x l ih=>
         intro h
         unfold fz
         rcases ae.1 h with rfl|h
         ·rw[hb];exact ah
         ·split
          ·exact ab _ (ih h)
          ·exact ih h
       exact key _ (by simpa using he)
      have bo:=dR h3 _ this
      exact ih e.on (by omega) (by omega)
    rw[hr]at dL;cases dL
 have sw:∀(listed:Array Bool) (a:Act) (w:World) (tm:TM),listed.size=L.length→(∀p,nD L listed dc p→p∈tm)→Has C n tm mm a w→Region.ready .any L.toArray listed=[]→QT C n P .normal a w:=by
  intro listed a w tm c8 hk hh hr
  refine⟨dc,mm,hP,hh.lA fun p hp=>hk p ⟨hp,?_⟩⟩
  by_cases hd:p.1∈bV L
  ·obtain⟨k,o,h1,h2⟩:=eY hd
   exact .inr ⟨k,o,h1,h2,nH listed c8 hr k (ai.1 h1).1⟩
  ·exact .inl hd
 intro fuel
 induction fuel with
 |zero=>
  intro listed a w tm c8 hc hk hh
  have hr:Region.ready .any L.toArray listed=[]:=by
   rw[cW]
   intro j hj
   obtain⟨h1,o,h2,_⟩:=mem_ready.1 hj
   have eC:j < listed.size:=by rw[c8];simpa using(bu.1 h2).1
   have:listed[j]=false:=by simpa[Array.getD,eC]using h1
   have hm:false∈listed.toList.filter (!·):=by
    rw[cI];exact⟨by rw[←this];simp,rfl⟩
   have:=fB hm
   omega
  exact⟨hr,sw listed a w tm c8 hk hh hr⟩
 |succ fuel ih=>
  intro listed a w tm c8 hc hk hh
  refine⟨sw listed a w tm c8 hk hh,fun i hi=>?_⟩
  obtain⟨h1,o,h2,h3⟩:=mem_ready.1 hi
  have hL:L[i]? =some o:=by simpa using h2
  have vK:i < L.length:=(ai.1 hL).1
  have ng:i < listed.size:=by omega
  have j2:listed[i]=false:=by simpa[Array.getD,ng]using h1
  obtain⟨_,hw,_⟩:=oo b7 i o hL
  obtain⟨d,s,e1,e2,e3⟩:=hF o (an hL)
  have sQ:∀j,j∈fz o.after.toList→listed.getD j false=true:=by
   have key:∀l:List Edge,(∀e∈l,e∈o.after)→∀j,j∈fz l→listed.getD j false=true:=by
    intro l
    induction l with
    |nil=>intro _ j h;simp[fz]at h
    |cons x l ih=>
     intro hl j h
     unfold fz at h
     split at h
     ·rename_i hb
      rcases ae.1 h with rfl|h
      ·exact h3 x (hl x ah) hb
      ·exact ih (fun e he=>hl e (ab _ he)) j h
     ·exact ih (fun e he=>hl e (ab _ he)) j h
   exact key _ (fun e he=>by simpa using he)
  have dp:∀p∈dc,p.1∈aK L o→p∈tm:=by
   intro p hp hl
   refine hk p ⟨hp,?_⟩
   by_cases hd:p.1∈bV L
   ·obtain⟨k,o',k1,k2⟩:=eY hd
    have:=jq hw k o' p.1 k1 k2 hl
    exact .inr ⟨k,o',k1,k2,sQ k (by simpa using this)⟩
   ·exact .inl hd
  have iq:((listed.setIfInBounds i true).toList.filter (!·)).length≤fuel:=by
   have h5:((listed.setIfInBounds i true).toList.filter (!·)).length+1=(listed.toList.filter (!·)).length:=by
    rw[show(listed.setIfInBounds i true).toList=listed.toList.set i true by simp]
    exact count_set (by simp[ng,j2])
   omega
  have H9:∀a' w',Has C n ((d,s)::bw tm d) mm a' w'→wpAny C.P .any L.toArray (QT C n P) fuel (listed.setIfInBounds i true) a' w':=by
   intro a' w' h'
   refine ih (listed.setIfInBounds i true) a' w' _ (by simpa using c8) iq (fun p hp=>?_) h'
   obtain⟨g1,g2⟩:=hp
   by_cases uA:p.1=d
   ·have:p=(d,s):=by
     exact Cl p g1 (d,s) e2 uA
    rw[this];exact ah
   ·refine ab _ (cd (hk p ⟨g1,?_⟩) uA)
    rcases g2 with g2|⟨k,o',k1,k2,k3⟩
    ·exact .inl g2
    ·refine .inr ⟨k,o',k1,k2,?_⟩
     have kS:i≠k:=by
      intro e;subst e
      rw[hL]at k1;injection k1 with k1;subst k1
      rw[e1]at k2;injection k2 with k2;exact uA k2.symm
     rwa [getD_set_ne false kS]at k3
  unfold wpOp
  simp only[cB,hL]
  have h6:=e3 tm dp a w (wpAny C.P .any L.toArray (QT C n P) fuel (listed.setIfInBounds i true)) (QT C n P) hh H9
  split
  ·rename_i Cr;rw[if_pos Cr]at h6;exact .inl h6
  ·rename_i Cr;rw[if_neg Cr]at h6;exact h6
def q5:List Nat→TM→Bool
 |_,[]=>true
 |ds,(t,_)::r=>match fw ds t with
  |true=>false
  |false=>q5 (t::ds) r
theorem kp:∀{l:TM} {ds:List Nat},q5 ds l=true→(∀p∈l,p.1∉ds)∧∀p∈l,∀q∈l,p.1=q.1→p=q
 |[],ds,_=>⟨fun p hp=>(by cases hp),fun p hp=>(by cases hp)⟩
 |(t,s)::r,ds,h=>by
  unfold q5 at h
  split at h
  ·cases h
  ·rename_i hm
   obtain⟨h1,h2⟩:=kp h
   have ht:t∉ds:=fun hk=>by rw[cz.2 hk]at hm;cases hm
   refine⟨fun p hp=>?_,fun p hp q hq he=>?_⟩
   ·rcases ae.1 hp with rfl|hp
    ·exact ht
    ·exact fun hk=>h1 p hp (ab _ hk)
   ·rcases ae.1 hp with rfl|hp<;>rcases ae.1 hq with rfl|hq
    ·rfl
    ·exact absurd (ae.2 (.inl he.symm)) (h1 q hq)
    ·exact absurd (ae.2 (.inl he)) (h1 p hp)
    ·exact h2 p hp q hq he
theorem OM{f:FuncId}{R:Ending→World→Prop}{k:List Item}{id:Nat}(mE:C.P.follows .mixedOrders=true)(b7:Hn L [] L 0=true)(hu:q5 (bV L) cp=true)
 (h:DOps C n mm L cp L cp (fun tm'=>Goes C f n R k tm' mm)):Goes C f n R (.code (.region id L.toArray true)::k) cp mm:=by
 obtain⟨u1,u2⟩:=kp hu
 obtain⟨dc,hg,hF,AL,uF⟩:=h [] 0 ⟨fun o ho=>(by cases ho),u2,fun p hp _=>hp,b7,rfl⟩
 intro a w hh b cs hb hk
 have oU:=O5 (P:=fun tm' mm'=>Goes C f n R k tm' mm') b7 hF uF hg L.length (Array.replicate L.length false) a {w with drawn:=w.drawn+1} cp (by simp)
  (by rw[show(Array.replicate L.length false).toList=List.replicate L.length false by simp];exact dN (eG _ _) (by simp))
  (fun p hp=>by
    obtain⟨g1,g2|⟨k,o,k1,k2,k3⟩⟩:=hp
    ·exact AL p g1 g2
    ·have kl:=(ai.1 k1).1
     simp[Array.getD,kl]at k3) hh.drawn
 have KR:=wp_region_any (id:=id) (Q:=QT C n (fun tm' mm'=>Goes C f n R k tm' mm')) (ops:=L.toArray) (a:=a) (w:=w) mE (by simpa using oU)
 obtain⟨e,a',w',hq,uK⟩:=KR b k cs
 cases e with
 |normal=>
  obtain⟨tm',mm',hg,Io⟩:=hq
  obtain⟨e,xC,fr,g1,g2,g3⟩:=hg a' w' Io b cs hb hk
  exact⟨e,xC,fr,g1,Comes.of_steps uK g2,g3⟩
 |_=>exact hq.elim
def PB(Θ:dD)(n:Nat)(mm:MM)(L:List Oper):List Oper→TM→Out
 |[],tm=>.stop [] tm mm
 |o::r,tm=>match bp L (bg (aK L o) tm) o with
  |some true=>match o.dst,vr Θ (bg (aK L o) tm) mm o.op with
   |some d,some st=>match nk n d st tm with
    |some tm'=>PB Θ n mm L r tm'
    |none=>.stop (o::r) tm mm
   |_,_=>.stop (o::r) tm mm
  |some false=>match o.dst with
   |some d=>match nk n d (.gE []) tm with
    |some tm'=>PB Θ n mm L r tm'
    |none=>.stop (o::r) tm mm
   |none=>.stop (o::r) tm mm
  |none=>.stop (o::r) tm mm
theorem rQ{Θ:dD}(bI:bz C.P Θ):∀{l:List Oper} {tm:TM} {l':List Oper} {tm':TM} {mm':MM},
 PB Θ n mm L l tm=.stop l' tm' mm'→DOps C n mm L cp l' tm' T→DOps C n mm L cp l tm T
 |[],tm,l',tm',mm',h,k=>by
  simp only[PB,Out.stop.injEq]at h
  obtain⟨rfl,rfl,_⟩:=h
  exact k
 |o::r,tm,l',tm',mm',h,k=>by
  have same:Out.stop (o::r) tm mm=.stop l' tm' mm'→DOps C n mm L cp (o::r) tm T:=by
   intro e
   injection e with e1 e2 e3
   subst e1 e2
   exact k
  unfold PB at h
  split at h
  ·rename_i hg
   split at h
   ·rename_i d st hd hv
    split at h
    ·rename_i Bz hs
     obtain⟨hn,rfl⟩:=fJ hs
     exact DOps.step hg (kB bI hv hd hn).Jt (rQ bI h k)
    ·exact same h
   ·exact same h
  ·rename_i hg
   split at h
   ·rename_i d hd
    split at h
    ·rename_i Bz hs
     obtain⟨hn,rfl⟩:=fJ hs
     exact DOps.skip hg hd hn (rQ bI h k)
    ·exact same h
   ·exact same h
  ·exact same h
def PS(Θ:dD)(n:Nat)(mm:MM)(L:List Oper)(l:List Oper)(tm:TM):Option Out:=
 match x5 tm with
 |some tm'=>match PB Θ n mm L l tm' with
  |.stop a b c=>some (.stop a b c)
  |.bad=>none
 |none=>none
theorem ak{Θ:dD}(bI:bz C.P Θ){l':List Oper}{tm':TM}{mm':MM}
 (h:PS Θ n mm L l tm=some (.stop l' tm' mm'))(k:DOps C n mm L cp l' tm' T):DOps C n mm L cp l tm T:=by
 unfold PS at h
 split at h
 ·rename_i Bz h1
  rw[←oq h1]
  split at h
  ·rename_i a b c h3
   injection h with h
   injection h with e1 e2 e3
   subst e1 e2 e3
   exact rQ bI h3 k
  ·cases h
 ·cases h
variable {t:Nat}
theorem av{b:Bool}(hn:Hw L o=some t)(ht:iX tm t=some (.v (.one (.c (.bool b)))))(eL:fw (bV L) t=true)
 (h1:b=true→DOps C n mm L cp (o::l) ((t,.v (.one (.lit true)))::bw tm t) T)
 (h2:b=false→DOps C n mm L cp (o::l) ((t,.v (.one (.lit false)))::bw tm t) T):DOps C n mm L cp (o::l) tm T:=
 have _:=hn
 DOps.split eL (gk ht) h1 h2
theorem mH{st:ST}(h:eO C n o (bg (aK L o) tm) mm d st)(hg:bp L (bg (aK L o) tm) o=some true)(k:DOps C n mm L cp l ((d,st)::bw tm d) T):
 DOps C n mm L cp (o::l) tm T:=DOps.step hg h.Jt k
variable {x y:Operand} {ty sI:TypeId}
theorem CN{a b:Int}(ho:o.op=.binOp .sub ty x y sI)(hx:aW (bg (aK L o) tm) x=some (.c (.int .i64 a)))(hy:aW (bg (aK L o) tm) y=some (.c (.int .i64 b)))(hd:o.dst=some d)(hn:Nat.blt d n=true)(hg:bp L (bg (aK L o) tm) o=some true)
 (hr:-9223372036854775808≤a - b∧a - b≤9223372036854775807)(k:DOps C n mm L cp l ((d,.v (.one (.c (.int .i64 (a - b)))))::bw tm d) T):DOps C n mm L cp (o::l) tm T:=
 mH (iS (p:=.sub) ho hx hy (IntWalk.i64_in _ (by omega)) hd hn) hg k
theorem Rn{kd:IntKind}{a b:Int}(ho:o.op=.binOp .rem ty x y sI)(hx:aW (bg (aK L o) tm) x=some (.c (.int kd a)))(hy:aW (bg (aK L o) tm) y=some (.c (.int kd b)))(hd:o.dst=some d)(hn:Nat.blt d n=true)(hg:bp L (bg (aK L o) tm) o=some true)
 (hr:b≠0)(k:DOps C n mm L cp l ((d,.v (.one (.c (.int kd (a.tmod b)))))::bw tm d) T):DOps C n mm L cp (o::l) tm T:=
 mH (iS (p:=.rem) ho hx hy ⟨hr,rfl⟩ hd hn) hg k
theorem fT{Θ:dD}(bI:bz C.P Θ){nn:Bool}{sz:Nat}{xs:List (List CT)}{kd:IntKind}{m:Int}{e:Nat}{z dG:Nat}{ag:Bool}{zr:Option (List CT)}{ei:gD}
 (ho:o.op=.indexAddr ty x y)(ht:aZ Θ ty=some ⟨z,dG,ag,zr,.slice e⟩)(fm:aZ Θ e=some ei)(hx:aW (bg (aK L o) tm) x=some (.c (.slice nn sz xs)))(c8:Nat.beq ei.size sz=true)
 (hi:aW (bg (aK L o) tm) y=some (.c (.int kd m)))(hd:o.dst=some d)(hn:Nat.blt d n=true)(hg:bp L (bg (aK L o) tm) o=some true)
 (j:Nat)(cs:List CT)(hm:m=(j:Int))(hj:xs[j]? =some cs)(k:DOps C n mm L cp l ((d,.v (.one (.hC cs)))::bw tm d) T):DOps C n mm L cp (o::l) tm T:=
 mH (xY bI ho ht fm c8 hx hi hm hj hd hn) hg k
theorem dq{g:FuncId}{pre post:List (List CT)}{args args':List SV}{res:ST}(hc:dy C.P g pre args res post)(ids:List Nat){xs:Array Operand}{ts:Array TypeId}
 (ho:o.op=.call {callee:=.value (.func g),args:=xs,argTypes:=ts})(cE:da (bg (aK L o) tm) xs.toList=some args')(iV:iO ids args=some args')(dp:ru mm ids=some pre)
 (kI:j8 ids=true)(hlen:post.length=pre.length)(eK:gR res=true)(hd:o.dst=some d)(hn:Nat.blt d n=true)(hg:bp L (bg (aK L o) tm) o=some true)(o2:jI mm ids post=mm)
 (k:DOps C n mm L cp l ((d,res)::bw tm d) T):DOps C n mm L cp (o::l) tm T:=
 DOps.step hg (tX hc ids ho cE iV dp kI hlen eK hd hn o2) k
end
end Go.Sy
