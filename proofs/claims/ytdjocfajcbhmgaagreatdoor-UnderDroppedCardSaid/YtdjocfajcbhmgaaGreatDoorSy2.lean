/- The symbolic layer, bundle Sy2. -/
import Derived.Test.YtdjocfajcbhmgaaGreatDoorSy1
import Derived.Tactics
import Derived.Scope
import Derived.IntWalk
import Derived.Orders
set_option linter.unusedSimpArgs false
set_option linter.unusedVariables false
set_option linter.unusedSectionVars false
namespace Go.Sy
open Go.RowKit
section
variable {C:Ctx} {n:Nat} {tm:TM} {mm:MM} {o:Oper} {d:Nat}
theorem iE{p:BinOp}{t t':TypeId}{x y:Operand}{k:IntKind}{a b r:Int}(ho:o.op=.binOp p t x y t')
 (hx:aQ tm x=some (.c (.int k a)))(hy:aQ tm y=some (.c (.int k b)))
 (hr:match p with
   |.add=>k.wrap (a+b)=r
   |.sub=>k.wrap (a - b)=r
   |.mul=>k.wrap (a * b)=r
   |.rem=>b≠0∧a.tmod b=r
   |.quo=>b≠0∧k.wrap (a.tdiv b)=r
   |_=>False)(hd:o.dst=some d)(hn:Nat.blt d n=true):
 ea C n o tm mm d (.v (.one (.c (.int k r)))):=
 ea.val hd hn _ fun H Z A w hm=>by
  have h1:A.eval x=.int k a:=aV.cA (aU hm hx)
  have h2:A.eval y=.int k b:=aV.cA (aU hm hy)
  refine⟨.int k r,?_,.int _ _⟩
  cases p<;>simp only at hr<;>first|exact hr.elim|(subst hr;simp[execOp,ho,h1,h2,eqGuard,binOp,Op.intArith])|(obtain⟨h0,rfl⟩:=hr;simp[execOp,ho,h1,h2,eqGuard,binOp,Op.intDiv,h0])
theorem N1{t t':TypeId}{x y:Operand}{a b:ByteArray}(ho:o.op=.binOp .add t x y t')
 (hx:aQ tm x=some (.c (.str a)))(hy:aQ tm y=some (.c (.str b)))(hr:a.size+b.size≤9223372036854775807)(hd:o.dst=some d)(hn:Nat.blt d n=true):
 ea C n o tm mm d (.v (.one (.c (.str (a++b))))):=
 ea.val hd hn _ fun H Z A w hm=>by
  have h1:A.eval x=.string a:=aV.fR (aU hm hx)
  have h2:A.eval y=.string b:=aV.fR (aU hm hy)
  refine⟨.string (a++b),?_,.str _⟩
  have:¬((a.size+b.size:Nat):Int) > IntKind.i64.max:=by
   simp[IntKind.max,IntKind.bits,IntKind.signed];omega
  simp only[execOp,ho,h1,h2,eqGuard,binOp,Op.stringOp,Sem.run_bind]
  rw[if_neg this]
  simp
theorem HT{t:TypeId}{x i:Operand}{s:ByteArray}{k:IntKind}{m:Int}{j:Nat}{b:UInt8}{Θ:da}(bt:a8 C.P Θ){z cz:Nat}{ag:Bool}{zr:Option (List CT)}
 (ho:o.op=.index t x i)(ht:aP Θ t=some ⟨z,cz,ag,zr,.string⟩)
 (hx:aQ tm x=some (.c (.str s)))(hi:aQ tm i=some (.c (.int k m)))(hm:m=(j:Int))(hb:s.data.toList[j]? =some b)(hd:o.dst=some d)(hn:Nat.blt d n=true):
 ea C n o tm mm d (.v (.one (.c (.int .u8 (b.toNat:Int))))):=
 ea.val hd hn _ fun H Z A w dh=>by
  have h1:A.eval x=.string s:=aV.fR (aU dh hx)
  have h2:A.eval i=.int k m:=aV.cA (aU dh hi)
  obtain⟨inf,de,hf⟩:=gI bt ht
  have jL:de=.string:=by
   have:=hf.sh
   cases de<;>simp[dA]at this⊢
  subst jL
  subst hm
  refine⟨.int .u8 (b.toNat:Int),?_,.int _ _⟩
  have hs:s[j]? =some b:=by
   obtain⟨hl,he⟩:=ai.1 hb
   have OH:j < s.size:=by simpa using hl
   rw[getElem?_pos s j OH,←he]
   rfl
  simp[execOp,ho,h1,h2,Instr.index,asIntOf,hf.underlying,hs]
theorem wk{t:TypeId}{x i:Operand}{nn:Bool}{sz:Nat}{xs:List (List CT)}{cs:List CT}{k:IntKind}{m:Int}{j e:Nat}{Θ:da}(bt:a8 C.P Θ)
 {z cz:Nat}{ag:Bool}{zr:Option (List CT)}{ei:fN}
 (ho:o.op=.indexAddr t x i)(ht:aP Θ t=some ⟨z,cz,ag,zr,.slice e⟩)(dO:aP Θ e=some ei)(cM:Nat.beq ei.size sz=true)
 (hx:aQ tm x=some (.c (.slice nn sz xs)))(hi:aQ tm i=some (.c (.int k m)))(hm:m=(j:Int))(hj:xs[j]? =some cs)(hd:o.dst=some d)(hn:Nat.blt d n=true):
 ea C n o tm mm d (.v (.one (.iw cs))):=
 ea.val hd hn _ fun H Z A w dh=>by
  have h2:A.eval i=.int k m:=aV.cA (aU dh hi)
  have h1:aV w (cO C H mm) (A.eval x) (.slice nn sz xs):=aU dh hx
  obtain⟨inf,de,hf⟩:=gI bt ht
  obtain⟨jK,qw,fK⟩:=gI bt dO
  have jL:de=.slice e:=by
   have:=hf.sh
   cases de<;>simp[dA]at this⊢
   exact this
  subst jL
  subst hm
  have Ff:ei.size=sz:=aJ cM
  have bj:j < xs.length:=(ai.1 hj).1
  generalize hA:A.eval x=v at h1
  cases h1 with
  |slice u hlen jC kL vn OB rn cC=>
   obtain⟨ad,rfl,h3,h4,h5,h6⟩:=rn (by omega)
   refine⟨.pointer (some (ad.add (j * sz))),?_,ad.add (j * sz),rfl,xT h3 _,by rw[jc];exact h4,by rw[jc];exact h5,fun q c hc=>?_⟩
   ·have fg:((j:Nat):Int) < ((xs.length:Nat):Int):=by omega
    simp[execOp,ho,hA,h2,Instr.indexAt,asIntOf,hf.underlying,hlen,fK.sizeOf,Ff]
    intro cY;omega
   ·rw[add_add]
    exact⟨u j q,h6 j cs hj q c hc,cC j cs hj q c hc⟩
theorem wj{t:TypeId}{x i:Operand}{id:Nat}{nn:Bool}{sz:Nat}{xs:List (List CT)}{k:IntKind}{m:Int}{j e e':Nat}{Θ:da}(bt:a8 C.P Θ)
 {z cz:Nat}{ag:Bool}{zr:Option (List CT)}{ei:fN}
 (ho:o.op=.indexAddr t x i)(ht:aP Θ t=some ⟨z,cz,ag,zr,.slice e⟩)(dO:aP Θ e=some ei)(cM:Nat.beq ei.size sz=true)
 (hx:aQ tm x=some (.own id))(hid:getM mm id=some (.arr nn e' sz xs))(hi:aQ tm i=some (.c (.int k m)))(hm:m=(j:Int))(hj:j < xs.length)(hd:o.dst=some d)(hn:Nat.blt d n=true):
 ea C n o tm mm d (.v (.one (.iH id j 0))):=
 ea.val hd hn _ fun H Z A w dh=>by
  have h2:A.eval i=.int k m:=aV.cA (aU dh hi)
  obtain⟨hI,h1⟩:=aU dh hx
  obtain⟨hz,us,g1,_⟩:=dh.mem _ (aT hid)
  obtain⟨inf,de,hf⟩:=gI bt ht
  obtain⟨jK,qw,fK⟩:=gI bt dO
  have jL:de=.slice e:=by
   have:=hf.sh
   cases de<;>simp[dA]at this⊢
   exact this
  subst jL
  subst hm
  have Ff:ei.size=sz:=aJ cM
  simp only at hz g1
  rcases g1.2 with⟨_,h0⟩|⟨g,cap,cur,hv,_⟩
  ·omega
  ·rw[hv]at h1
   refine⟨.pointer (some ⟨g,j * sz,none⟩),?_,hI,g,by rw[hv];rfl,by rw[hz];rfl⟩
   have fg:((j:Nat):Int) < ((xs.length:Nat):Int):=by omega
   simp[execOp,ho,h1,h2,Instr.indexAt,asIntOf,hf.underlying,fK.sizeOf,Ff,jJ]
   intro cY;omega
theorem rT{Θ:da}(bt:a8 C.P Θ){t:TypeId}{ti:fN}{x:Operand}{i j off e sz:Nat}{nn:Bool}{xs:List (List CT)}{cs ys:List CT}{s:SV}
 (ho:o.op=.load t x)(ht:aP Θ t=some ti)(hx:aQ tm x=some (.iH i j off))(hi:getM mm i=some (.arr nn e sz xs))(hj:xs[j]? =some cs)
 (hs:yd cs off ti.size=some ys)(hv:qd SC.c ti.agg ys=some s)(hd:o.dst=some d)(hn:Nat.blt d n=true):
 ea C n o tm mm d (.v s):=
 ea.val hd hn _ fun H Z a w hm=>by
  obtain⟨inf,de,hf⟩:=gI bt ht
  obtain⟨hz,us,g1,g2,g3,g4⟩:=hm.mem _ (aT hi)
  obtain⟨_,b,hb,wY⟩:=aU hm hx
  simp only at hz g1 g4
  rw[hz]at wY
  have bj:j < xs.length:=(ai.1 hj).1
  have sC:cs.length=sz:=g3 cs (aj hj)
  obtain⟨e1,e2⟩:=sL hs
  have dH:∀q u,us[q]? =some u→w.cell? ⟨b,q,none⟩=some u:=by
   intro q u hq
   have yw:(H i).ownBlock=some b:=by rw[←mr g1];exact hb
   have:=World.ownsRow.cells g1 yw q u hq
   rwa [jJ,fq]at this
  have xc:∀m,m≤ys.length→∃vs:List Value,vs.length=m∧(∀(q:Nat) (u:Value),vs[q]? =some u→w.cell? ((⟨b,j * sz+off,none⟩:Addr).add q)=some u)∧
   Pw (fun u c=>aV w (cO C H mm) u c) vs (ys.take m):=by
   intro m
   induction m with
   |zero=>intro _;exact⟨[],rfl,fun q u hu=>by simp at hu,by simpa using Pw.nil⟩
   |succ m ih=>
    intro UD
    obtain⟨vs,k1,k2,k3⟩:=ih (by omega)
    have YV:ys[m]? =cs[off+m]? :=by
     rw[e1,bU,if_pos (by omega),cf]
    have hy:ys[m]? =some ys[m]:=aa (by omega)
    obtain⟨u,hu,hr⟩:=g4 j cs hj (off+m) ys[m] (by rw[←YV,hy])
    refine⟨vs++[u],by simp[k1],fun q v hq=>?_,?_⟩
    ·rw[bX]at hq
     split at hq
     ·exact k2 q v hq
     ·rename_i Zu
      have OM:q - vs.length=0:=by
       rcases rp (q - vs.length)with h0|h0
       ·exact h0
       ·rw[bR (by simp;omega)]at hq;cases hq
      rw[OM]at hq
      simp at hq;subst hq
      have:q=m:=by omega
      subst this
      rw[jJ]
      exact dH _ _ (by rw[←hu];congr 1;omega)
    ·rw[al (by omega)]
     exact k3.append (Pw.cons hr Pw.nil)
  obtain⟨vs,k1,k2,k3⟩:=xc ys.length (ay _)
  rw[bq]at k3
  obtain⟨v,hr,q1,q2⟩:=gR (w:=w) hf ⟨b,j * sz+off,none⟩ vs (by rw[k1,e2]) k2 (fun ha=>by
   rw[k1]
   rw[ha]at hv
   unfold qd at hv
   split at hv<;>first|(rename_i hh;cases hh;done)|rfl|(cases hv;done))
  refine⟨v,by simp[execOp,ho,wY,Instr.loadAt,Instr.sureAddr,hr],?_⟩
  exact rY (f:=SC.c) hv k3 q1 q2
def iG:List SC→Option (List CT)
 |[]=>some []
 |.c x::r=>match iG r with
  |some l=>some (x::l)
  |none=>none
 |.lit b::r=>match iG r with
  |some l=>some (.bool b::l)
  |none=>none
 |_::_=>none
theorem iF{I:Nat→Prop}{H:Nat→Value}{Z:Nat→Nat}{w:World}{M:Nat→Prop}:∀{l:List SC} {r:List CT} {us:List Value},iG l=some r→
 Pw (fun u c=>bS I H Z w M u c) us l→Pw (fun u c=>aV w M u c) us r
 |[],r,us,h,hp=>by
  simp[iG]at h;subst h
  exact⟨hp.1,fun j c hc=>by simp at hc⟩
 |s::l,r,us,h,hp=>by
  match us,hp with
  |[],hp=>exact absurd hp.1 (by simp)
  |u::us,hp=>
   have GL:Pw (fun u c=>bS I H Z w M u c) us l:=⟨by simpa using hp.1,fun j c hc=>by simpa using hp.2 (j+1) c (by simpa using hc)⟩
   obtain⟨u',mR,hr⟩:=hp.2 0 s J
   simp at mR;subst mR
   cases s<;>simp only[iG]at h<;>try(cases h;done)
   ·split at h
    ·rename_i x r' gL
     injection h with h;subst h
     exact Pw.cons hr (iF gL GL)
    ·cases h
   ·split at h
    ·rename_i r' gL
     injection h with h;subst h
     exact Pw.cons (by rw[show u=.bool _ from hr];exact .bool _) (iF gL GL)
    ·cases h
def tN:Nat→List SC
 |0=>[]
 |n+1=>.any::tN n
theorem By(n:Nat):tN n=List.replicate n SC.any:=by
 induction n with
 |zero=>rfl
 |succ n ih=>simp[tN,ih,List.replicate_succ]
def mx(sz:Nat):Nat→List CT→Option (List (List CT))
 |0,[]=>some []
 |0,_::_=>none
 |n+1,l=>match rG l sz with
  |some a=>match sn l sz with
   |some b=>match mx sz n b with
    |some r=>some (a::r)
    |none=>none
   |none=>none
  |none=>none
theorem pb(sz:Nat):∀{n:Nat} {l:List CT} {r:List (List CT)},mx sz n l=some r→
 r.length=n∧(∀x∈r,x.length=sz)∧l.length=n * sz∧∀(k:Nat) (x:List CT),r[k]? =some x→∀(j:Nat) (c:CT),x[j]? =some c→l[k * sz+j]? =some c
 |0,[],r,h=>by simp[mx]at h;subst h;simp
 |0,_::_,r,h=>by simp[mx]at h
 |n+1,l,r,h=>by
  unfold mx at h
  split at h
  ·rename_i a ha
   split at h
   ·rename_i b hb
    split at h
    ·rename_i r' gL
     injection h with h;subst h
     obtain⟨t1,t2⟩:=nz ha
     have t3:=lC hb
     obtain⟨c1,c2,c3,c4⟩:=pb sz gL
     have nw:l.length=(n+1) * sz:=by
      have:l.length=a.length+b.length:=by
       rw[t1,t3,←au,nW]
      rw[this,t2,c3,ec];omega
     refine⟨by simp[c1],fun x hx=>?_,nw,fun k x hk j c hc=>?_⟩
     ·rcases ae.1 hx with rfl|hx
      ·exact t2
      ·exact c2 x hx
     ·cases k with
      |zero=>
       simp at hk;subst hk
       rw[t1,bU]at hc
       split at hc
       ·simpa using hc
       ·cases hc
      |succ k=>
       simp at hk
       have:=c4 k x hk j c hc
       rw[t3,cf]at this
       rw[←this];congr 1;rw[ec];omega
    ·cases h
   ·cases h
  ·cases h
theorem yi{Θ:da}(bt:a8 C.P Θ){t:TypeId}{z cz e len:Nat}{ag:Bool}{zt:Option (List CT)}{ei:fN}{zr:List CT}{parts:Array (Nat×Operand)}{r:List SC}{cts:List CT}{xs:List (List CT)}
 (ho:o.op=.buildSlice t len parts)(ht:aP Θ t=some ⟨z,cz,ag,zt,.slice e⟩)(dO:aP Θ e=some ei)(hz:ei.zero=some zr)
 (hb:Nat.ble (len * ei.size) 16777216=true)(lx:Nat.blt 0 ei.size=true)
 (hl:nL (fun i=>some (i * ei.size,ei.size)) tm (tN (len * ei.size)) parts.toList=some r)(hc:iG r=some cts)(hx:mx ei.size len cts=some xs)
 (hi:getM mm d=none)(hd:o.dst=some d)(hn:Nat.blt d n=true):
 xX C n o tm mm ((d,.v (.one (.own d)))::bo tm d) ((d,.arr true e ei.size xs)::mm):=by
 intro a w ⟨H,Z,hm⟩
 obtain⟨inf,de,hf⟩:=gI bt ht
 obtain⟨jK,qw,fK⟩:=gI bt dO
 obtain⟨zv,wV,qe,BD⟩:=fK.zero zr hz
 obtain⟨h1,h2⟩:=e8 (w:=w) (M:=cO C H mm) qe
 have jL:de=.slice e:=by
  have:=hf.sh
  cases de<;>simp[dA]at this⊢
  exact this
 subst jL
 have Fz:len * ei.size≤16777216:=gw.mp hb
 have oS:0 < ei.size:=a6.mp lx
 have RG:zv.cells.size=ei.size:=by rw[h1,BD]
 let init:Array Value:=(Array.range (len * ei.size)).map ((if len * ei.size=0 then#[]else zv.cells)[·% (if len * ei.size=0 then#[]else zv.cells).size]!)
 have hp:Pw (fun u c=>u.oneCell'=true∧bS (cU mm) H Z w (cO C H mm) u c) init.toList (tN (len * ei.size)):=by
  rw[By]
  refine⟨by simp[init],fun j c hc=>?_⟩
  have hj:j < len * ei.size:=by
   have:=(ai.1 hc).1
   simpa using this
  rw[iy,if_pos hj]at hc
  injection hc with hc;subst hc
  have cV:len * ei.size≠0:=by omega
  refine⟨zv.cells[j % zv.cells.size]!,by simp[init,hj,cV],?_,trivial⟩
  have bj:j % zv.cells.size < zv.cells.size:=Nat.mod_lt _ (by rw[RG];exact oS)
  have Lw:j % zv.cells.size < zr.length:=by rw[←h1];exact bj
  obtain⟨u,hu,hr⟩:=h2 (j % zv.cells.size) zr[j % zv.cells.size] (aa Lw)
  rw[getElem!_def,hu]
  exact hr.one
 obtain⟨lK,g1,g2⟩:=j5 hm _ parts.toList _ _ r hp hl
 have g3:Pw (fun u c=>aV w (cO C H mm) u c) lK.toList cts:=iF hc (g2.mono fun _ _ _ h=>h.2)
 obtain⟨c1,c2,c3,c4⟩:=pb _ hx
 have Uh:lK.size=len * ei.size:=by have:=g3.1;rw[c3]at this;simpa using this
 have dL:(execOp a.eval o).run C.P w=.ok (.value (.slice (some ⟨w.heap.size,0,none⟩) len len)) (w.alloc (.cells lK e)):=by
  have iX:Instr.fill (fun i=>some (i * ei.size,ei.size)) init (parts.map fun(i,x)=>(i,a.eval x)).toList=some lK:=by
   rw[←g1,kG]
  simp only[execOp,ho,Instr.buildSlice,Sem.run_bind,hf.underlying,Result.andThen_ok,fK.sizeOf]
  rw[if_neg (by omega)]
  simp only[init]at iX
  by_cases h0:len * ei.size=0
  ·rw[if_pos h0]at iX
   rw[if_pos h0]
   simp only[Sem.run_bind,Sem.run_pure,Result.andThen_ok,iX]
   simp[newRow,newObj,Sem.run]
  ·rw[if_neg h0]at iX
   rw[if_neg h0]
   simp only[Sem.run_bind,Sem.run_pure,Result.andThen_ok,fK.zeroValue wV,iX]
   simp[newRow,newObj,Sem.run]
 refine .inl ⟨_,_,dL,jV H d (.slice (some ⟨w.heap.size,0,none⟩) len len),jV Z d ei.size,?_⟩
 rw[hd]
 refine hm.add (i:=d) (hv:=.slice (some ⟨w.heap.size,0,none⟩) len len) (z:=ei.size) (o:=.arr true e ei.size xs) (getM_none hi) (a6.mp hn) J (ft w _) ?_ ?_ ?_
 ·intro b hb
  simp[Hb,hblk]at hb
  subst hb
  exact⟨ay _,by show _ < (w.heap.push _).size;rw[jl];omega⟩
 ·intro iP gb
  refine⟨bm _ _ _,lK.toList,?_,by rw[bm];simp,c2,fun k x hk j c hc=>?_⟩
  ·rw[bm,c1]
   have hlen:len≤maxLen:=by
    have:len≤len * ei.size:=Nat.le_mul_of_pos_right _ oS
    simp only[maxLen];omega
   exact World.ownsRow_lit w lK len (aF _) hlen Uh
  ·obtain⟨u,hu,cC⟩:=g3.2 _ c (c4 k x hk j c hc)
   exact⟨u,hu,cC.mono (ft w _).size gb iP⟩
 ·exact⟨⟨_,ah,rfl⟩,(bm _ _ _).symm⟩
end
end Go.Sy
namespace Go.Sy
open Go.RowKit
def qR:List Oper→Nat→Option Oper
 |[],_=>none
 |o::_,0=>some o
 |_::r,k+1=>qR r k
theorem AL:∀(l:List Oper) (j:Nat),qR l j=l[j]?
 |[],j=>by cases j<;>rfl
 |o::l,0=>rfl
 |o::l,j+1=>by simpa[qR]using AL l j
def aY(L:List Oper)(tm:TM)(o:Oper):Option Bool:=
 match o.guard with
 |none=>some true
 |some (j,want)=>
  match qR L j with
  |none=>none
  |some oj=>
   match oj.dst with
   |none=>none
   |some t=>
    match zw tm t with
    |none=>Tm tm t
    |some true=>(match want with|true=>some true|false=>some false)
    |some false=>(match want with|true=>some false|false=>some true)
theorem gD{L:List Oper}{tm:TM}{o:Oper}{b:Bool}(h:aY L tm o=some b):q7 L.toArray tm o=some b:=by
 unfold aY at h
 unfold q7
 split at h
 ·rename_i hg;rw[hg];exact h
 ·rename_i j want hg
  rw[hg]
  simp only[b8,←AL]
  split at h
  ·cases h
  ·rename_i oj Ux
   simp only[Ux]
   split at h
   ·cases h
   ·rename_i t ht
    simp only[ht]
    split at h
    ·rename_i hb;simp only[hb];exact h
    ·rename_i hb;simp only[hb];cases want<;>simpa using h
    ·rename_i hb;simp only[hb];cases want<;>simpa using h
def IT(tm:TM)(d:Nat):Option TM:=
 match tm with
 |[]=>some []
 |(e,u)::r=>match Nat.beq e d with
  |true=>IT r d
  |false=>match IT r d with
   |some r'=>some ((e,u)::r')
   |none=>none
theorem Bm{d:Nat}:∀{tm r:TM},IT tm d=some r→r=bo tm d
 |[],r,h=>by simp[IT]at h;subst h;rfl
 |(e,u)::tm,r,h=>by
  unfold IT at h
  unfold bo
  cases hb:Nat.beq e d with
  |true=>rw[hb]at h;exact Bm h
  |false=>
   rw[hb]at h
   simp only at h
   split at h
   ·rename_i r' gL
    injection h with h;subst h
    rw[Bm gL]
   ·cases h
def oC(n d:Nat)(st:ST)(tm:TM):Option TM:=
 match Nat.blt d n with
 |true=>match IT tm d with
  |some r=>some ((d,st)::r)
  |none=>none
 |false=>none
theorem gm{n d:Nat}{st:ST}{tm r:TM}(h:oC n d st tm=some r):Nat.blt d n=true∧r=(d,st)::bo tm d:=by
 unfold oC at h
 split at h
 ·rename_i hb
  split at h
  ·rename_i r' gL
   injection h with h;subst h
   exact⟨hb,by rw[Bm gL]⟩
  ·cases h
 ·cases h
def Ua:IntKind→IntKind→Bool
 |.i64,.i64=>true
 |.u8,.u8=>true
 |.u64,.u64=>true
 |.i32,.i32=>true
 |.u32,.u32=>true
 |.i8,.i8=>true
 |.i16,.i16=>true
 |.u16,.u16=>true
 |_,_=>false
theorem AX{k k':IntKind}(h:Ua k k'=true):k'=k:=by cases k<;>cases k'<;>first|rfl|cases h
theorem HU{C:Ctx}{n:Nat}{tm:TM}{mm:MM}{o:Oper}{d:Nat}{Θ:da}(bt:a8 C.P Θ){t:TypeId}{x i:Operand}{z cz len e:Nat}{ag:Bool}{zr:Option (List CT)}{ei:fN}{k:IntKind}{j:Nat}{s r:SC}
 (ho:o.op=.indexAddr t x i)(ht:aP Θ t=some ⟨z,cz,ag,zr,.arr len e⟩)(dO:aP Θ e=some ei)
 (hx:aQ tm x=some s)(hi:aQ tm i=some (.c (.int k (j:Int))))(hj:Nat.blt j len=true)(hr:Af s (j * ei.size)=some r)(hd:o.dst=some d)(hn:Nat.blt d n=true):
 ea C n o tm mm d (.v (.one r)):=
 ea.val hd hn _ fun H Z a w hm=>by
  obtain⟨inf,de,hf⟩:=gI bt ht
  obtain⟨jK,qw,fK⟩:=gI bt dO
  have h2:a.eval i=.int k (j:Int):=aV.cA (aU hm hi)
  obtain⟨ad,hv,cC⟩:=Ae hr (aU hm hx)
  have jL:de=.array len e:=by
   have:=hf.sh
   cases de<;>simp[dA]at this⊢
   exact this
  subst jL
  have fg:j < len:=a6.mp hj
  refine⟨.pointer (some (ad.add (j * ei.size))),?_,cC⟩
  simp[execOp,ho,hv,h2,Instr.indexAt,asIntOf,hf.underlying,Instr.sureAddr,fK.sizeOf]
  intro cY;omega
def vE(Θ:da)(tm:TM)(mm:MM):Op→Option ST
 |.move x=>mg tm x
 |.assign x=>mg tm x
 |.pick c x y=>match aQ tm c with
  |some (.lit true)=>mg tm x
  |some (.lit false)=>mg tm y
  |_=>none
 |.unOp .not _ x=>match uw tm x with
  |some b=>some (.v (.one (.c (.bool (!b)))))
  |_=>none
 |.binOp p t x y _=>match aQ tm x,aQ tm y with
  |some (.c (.int k a)),some (.c (.int k' b))=>match Ua k k' with
   |true=>match SM p a b with
    |some r=>some (.v (.one (.c (.bool r))))
    |none=>none
   |false=>none
  |some (.c (.str a)),some (.c (.str b))=>match sq p a b with
    |some r=>some (.v (.one (.c (.bool r))))
    |none=>none
  |_,_=>match uw tm x,uw tm y with
   |some a,some b=>match aP Θ t with
    |some ⟨_,_,_,_,.bool⟩=>match p with
     |.eql=>some (.v (.one (.c (.bool (a==b)))))
     |.neq=>some (.v (.one (.c (.bool (a !=b)))))
     |_=>none
    |_=>none
   |_,_=>none
 |.convert t t' x=>match aQ tm x with
  |some (.c (.int k m))=>match aP Θ t,aP Θ t' with
   |some ⟨_,_,_,_,.int k0⟩,some ⟨_,_,_,_,.int k'⟩=>match Ua k k0 with
    |true=>some (.v (.one (.c (.int k' (k'.wrap m)))))
    |false=>none
   |_,_=>none
  |_=>none
 |.extract x i=>match mg tm x with
  |some (.fo xs)=>match sn xs i with
   |some (s::_)=>some (.v s)
   |_=>none
  |_=>none
 |.nilCheck x=>match aQ tm x with
  |some (.ptr i off)=>some (.v (.one (.ptr i off)))
  |some (.iH i k off)=>some (.v (.one (.iH i k off)))
  |some (.iw cs)=>some (.v (.one (.iw cs)))
  |_=>none
 |.load t x=>match aP Θ t with
  |some ⟨sz,_,ag,_,_⟩=>match aQ tm x with
   |some (.ptr i off)=>match getM mm i with
    |some (.box cs)=>match yd cs off sz with
     |some xs=>match qd id ag xs with
      |some s=>some (.v s)
      |none=>none
     |none=>none
    |_=>none
   |some (.iw cs)=>match rG cs sz with
    |some xs=>match qd SC.c ag xs with
     |some s=>some (.v s)
     |none=>none
    |none=>none
   |_=>none
  |none=>none
 |.fieldAddr t x k=>match aP Θ t with
  |some ⟨_,_,_,_,.struct fs⟩=>match ga fs k with
   |some off=>match aQ tm x with
    |some s=>match Af s off with
     |some r=>some (.v (.one r))
     |none=>none
    |none=>none
   |none=>none
  |_=>none
 |.indexAddr t x i=>match aP Θ t with
  |some ⟨_,_,_,_,.arr len e⟩=>match aP Θ e with
   |some ⟨Jg,_,_,_,_⟩=>match aQ tm i with
    |some (.c (.int _ (.ofNat j)))=>match Nat.blt j len with
     |true=>match aQ tm x with
      |some s=>match Af s (j * Jg)with
       |some r=>some (.v (.one r))
       |none=>none
      |none=>none
     |false=>none
    |_=>none
   |none=>none
  |_=>none
 |.makeFunc (.func f) ⟨[]⟩ c7=>match rb tm c7.toList with
  |some ids=>match ids.all (fun i=>match getM mm i with|some (.box _)=>true|_=>false)with
   |true=>some (.v (.one (.kD f ids)))
   |false=>none
  |none=>none
 |.build t parts=>match aP Θ t with
  |some ⟨_,_,true,some zr,.struct fs⟩=>match nL (eC Θ fs) tm (qd.rZ SC.c zr) parts.toList with
   |some r=>some (.v (.agg r))
   |none=>none
  |some ⟨_,_,true,some zr,.arr _ e⟩=>match aP Θ e with
   |some ⟨Jg,_,_,_,_⟩=>match nL (fun i=>some (i * Jg,Jg)) tm (qd.rZ SC.c zr) parts.toList with
    |some r=>some (.v (.agg r))
    |none=>none
   |none=>none
  |_=>none
 |.call ⟨.builtin .len,⟨[x]⟩,⟨[t]⟩⟩=>match aP Θ t with
  |some ⟨_,_,_,_,.slice _⟩=>match aQ tm x with
   |some s=>match wT mm s with
    |some m=>some (.v (.one (.c (.int .i64 m))))
    |none=>none
   |none=>none
  |some ⟨_,_,_,_,.string⟩=>match aQ tm x with
   |some (.c (.str s))=>some (.v (.one (.c (.int .i64 (s.size:Int)))))
   |_=>none
  |some ⟨_,_,_,_,.map _ _⟩=>match aQ tm x with
   |some (.mp i)=>match getM mm i with
    |some (.fw es)=>some (.v (.one (.c (.int .i64 (es.length:Int)))))
    |_=>none
   |_=>none
  |_=>none
 |.call ⟨.builtin .min,⟨[x,y]⟩,_⟩=>match aQ tm x,aQ tm y with
  |some (.c (.int k a)),some (.c (.int k' b))=>match Ua k k' with
   |true=>some (.v (.one (.c (.int k (min a b)))))
   |false=>none
  |_,_=>none
 |.call ⟨.builtin .max,⟨[x,y]⟩,_⟩=>match aQ tm x,aQ tm y with
  |some (.c (.int k a)),some (.c (.int k' b))=>match Ua k k' with
   |true=>some (.v (.one (.c (.int k (max a b)))))
   |false=>none
  |_,_=>none
 |_=>none
section
variable {C:Ctx} {n:Nat} {tm:TM} {mm:MM} {o:Oper} {d:Nat} {Θ:da}
theorem jU(bt:a8 C.P Θ){st:ST}(h:vE Θ tm mm o.op=some st)(hd:o.dst=some d)(hn:Nat.blt d n=true):
 ea C n o tm mm d st:=by
 generalize ho:o.op=p at h
 unfold vE at h
 split at h
 ·exact NS ho h hd hn
 ·exact HX ho h hd hn
 ·split at h
  ·rename_i hc;exact Gp (b:=true) ho hc h hd hn
  ·rename_i hc;exact Gp (b:=false) ho hc h hd hn
  ·cases h
 ·split at h
  ·rename_i hc;injection h with h;subst h;exact Re ho hc hd hn
  ·cases h
 ·split at h
  ·rename_i hx hy
   split at h
   ·rename_i hk
    have:=AX hk
    subst this
    split at h
    ·rename_i hr;injection h with h;subst h;exact NZ ho hx hy hr hd hn
    ·cases h
   ·cases h
  ·rename_i hx hy
   split at h
   ·rename_i hr;injection h with h;subst h;exact NX ho hx hy hr hd hn
   ·cases h
  ·split at h
   ·rename_i hx hy
    split at h
    ·rename_i ht
     split at h
     ·injection h with h;subst h;exact Gq bt ho ht (.inl rfl) hx hy hd hn
     ·injection h with h;subst h;exact Gq bt ho ht (.inr rfl) hx hy hd hn
     ·cases h
    ·cases h
   ·cases h
 ·split at h
  ·rename_i hx
   split at h
   ·rename_i ht Ir
    split at h
    ·rename_i hk
     have:=AX hk
     subst this
     injection h with h;subst h;exact Kp bt ho ht Ir hx hd hn
    ·cases h
   ·cases h
  ·cases h
 ·split at h
  ·rename_i hx
   split at h
   ·rename_i s r hs
    injection h with h;subst h
    refine EP ho hx ?_ hd hn
    have:=lC hs
    have h2:=congrArg (fun l:List SV=>l[0]?) this
    simpa using h2.symm
   ·cases h
  ·cases h
 ·split at h
  ·rename_i hx;injection h with h;subst h;exact oJ ho hx J hd hn
  ·rename_i hx;injection h with h;subst h;exact oJ ho hx J hd hn
  ·rename_i hx;injection h with h;subst h;exact oJ ho hx J hd hn
  ·cases h
 ·split at h
  ·rename_i ht
   split at h
   ·rename_i hx
    split at h
    ·rename_i hi
     split at h
     ·rename_i hs
      split at h
      ·rename_i hv;injection h with h;subst h;exact ue bt ho ht hx hi hs hv hd hn
      ·cases h
     ·cases h
    ·cases h
   ·rename_i hx
    split at h
    ·rename_i hs
     split at h
     ·rename_i hv;injection h with h;subst h;exact AG bt ho ht hx hs hv hd hn
     ·cases h
    ·cases h
   ·cases h
  ·cases h
 ·split at h
  ·rename_i ht
   split at h
   ·rename_i hk
    split at h
    ·rename_i hx
     split at h
     ·rename_i hr;injection h with h;subst h;exact AI bt ho ht hx hk hr hd hn
     ·cases h
    ·cases h
   ·cases h
  ·cases h
 ·split at h
  ·rename_i ht
   split at h
   ·rename_i dO
    split at h
    ·rename_i hi
     split at h
     ·rename_i hj
      split at h
      ·rename_i hx
       split at h
       ·rename_i hr;injection h with h;subst h;exact HU bt ho ht dO hx hi hj hr hd hn
       ·cases h
      ·cases h
     ·cases h
    ·cases h
   ·cases h
  ·cases h
 ·split at h
  ·rename_i hc
   split at h
   ·rename_i hb;injection h with h;subst h;exact Cn ho hc hb hd hn
   ·cases h
  ·cases h
 ·split at h
  ·rename_i ht
   split at h
   ·rename_i hl;injection h with h;subst h;exact uO bt ho ht hl hd hn
   ·cases h
  ·rename_i ht
   split at h
   ·rename_i dO
    split at h
    ·rename_i hl;injection h with h;subst h;exact wm bt ho ht dO hl hd hn
    ·cases h
   ·cases h
  ·cases h
 ·split at h
  ·rename_i ht
   split at h
   ·rename_i hx
    split at h
    ·rename_i hm;injection h with h;subst h;exact AH bt ho ht hx hm hd hn
    ·cases h
   ·cases h
  ·rename_i ht
   split at h
   ·rename_i hx;injection h with h;subst h;exact EN bt ho ht hx hd hn
   ·cases h
  ·rename_i ht
   split at h
   ·rename_i hx
    split at h
    ·rename_i hi;injection h with h;subst h;exact EO bt ho ht hx hi hd hn
    ·cases h
   ·cases h
  ·cases h
 ·split at h
  ·rename_i hx hy
   split at h
   ·rename_i hk
    have:=AX hk
    subst this
    injection h with h;subst h;exact Rf ho hx hy hd hn
   ·cases h
  ·cases h
 ·split at h
  ·rename_i hx hy
   split at h
   ·rename_i hk
    have:=AX hk
    subst this
    injection h with h;subst h;exact Rg ho hx hy hd hn
   ·cases h
  ·cases h
 ·cases h
end
def Jq(mm:MM)(i:Nat)(o:MO):Option MM:=
 match mm with
 |[]=>some []
 |(e,u)::r=>match Jq r i o with
  |some r'=>match Nat.beq e i with
   |true=>some ((e,o)::r')
   |false=>some ((e,u)::r')
  |none=>none
theorem F7{i:Nat}{o:MO}:∀{mm r:MM},Jq mm i o=some r→r=cS mm i o
 |[],r,h=>by simp[Jq]at h;subst h;rfl
 |(e,u)::mm,r,h=>by
  unfold Jq at h
  unfold cS
  split at h
  ·rename_i r' gL
   have:=F7 gL
   subst this
   cases hb:Nat.beq e i<;>rw[hb]at h<;>(injection h with h;exact h.symm)
  ·cases h
def Ia(Θ:da)(n:Nat)(tm:TM)(mm:MM)(o:Oper):Option (TM×MM):=
 match o.dst with
 |some d=>match getM mm d with
  |some _=>none
  |none=>match o.op with
   |.box _ x=>match cx tm x with
    |some s=>match s.cells.all SC.known with
     |true=>match oC n d (.v (.one (.ptr d 0))) tm with
      |some tm'=>match H2 s.cells with
       |some cs=>some (tm',(d,.box cs)::mm)
       |none=>none
      |none=>none
     |false=>none
    |none=>none
   |.alloc e=>match aP Θ e with
    |some ⟨_,_,_,some zr,_⟩=>match oC n d (.v (.one (.ptr d 0))) tm with
     |some tm'=>match H2 (qd.rZ SC.c zr)with
      |some cs=>some (tm',(d,.box cs)::mm)
      |none=>none
     |none=>none
    |_=>none
   |.makeMap _ none=>match oC n d (.v (.one (.mp d))) tm with
    |some tm'=>some (tm',(d,.fw [])::mm)
    |none=>none
   |.buildSlice t len parts=>match aP Θ t with
    |some ⟨_,_,_,_,.slice e⟩=>match aP Θ e with
     |some ⟨Jg,_,_,some _,_⟩=>match Nat.ble (len * Jg) 16777216,Nat.blt 0 Jg with
      |true,true=>match nL (fun i=>some (i * Jg,Jg)) tm (tN (len * Jg)) parts.toList with
       |some r=>match iG r with
        |some cts=>match mx Jg len cts with
         |some xs=>match oC n d (.v (.one (.own d))) tm with
          |some tm'=>some (tm',(d,.arr true e Jg xs)::mm)
          |none=>none
         |none=>none
        |none=>none
       |none=>none
      |_,_=>none
     |_=>none
    |_=>none
   |_=>none
 |none=>match o.op with
  |.store t x y=>match aP Θ t with
   |some ⟨sz,_,_,_,_⟩=>match aQ tm x with
    |some (.ptr i off)=>match getM mm i with
     |some (.box cs)=>match cx tm y with
      |some s=>match s.cells.all SC.known with
       |true=>match Nat.beq s.cells.length sz with
        |true=>match gl cs off s.cells with
         |some r=>match Jq mm i (.box r)with
          |some mm'=>some (tm,mm')
          |none=>none
         |none=>none
        |false=>none
       |false=>none
      |none=>none
     |_=>none
    |_=>none
   |none=>none
  |_=>none
where
 H2:List SC→Option (List SC)
  |[]=>some []
  |a::r=>match H2 r with
   |some r'=>some (a::r')
   |none=>none
theorem AN:∀{l r:List SC},Ia.H2 l=some r→r=l
 |[],r,h=>by simp[Ia.H2]at h;exact h
 |a::l,r,h=>by
  unfold Ia.H2 at h
  split at h
  ·rename_i r' gL;injection h with h;subst h;rw[AN gL]
  ·cases h
theorem E0{C:Ctx}{n:Nat}{tm tm':TM}{mm mm':MM}{o:Oper}{Θ:da}(bt:a8 C.P Θ)(h:Ia Θ n tm mm o=some (tm',mm')):xX C n o tm mm tm' mm':=by
 unfold Ia at h
 split at h
 ·rename_i d hd
  split at h
  ·cases h
  ·rename_i hi
   split at h
   ·rename_i ho
    split at h
    ·rename_i hx
     split at h
     ·rename_i hk
      split at h
      ·rename_i hs
       split at h
       ·rename_i hl
        obtain⟨hn,rfl⟩:=gm hs
        injection h with h;injection h with h1 h2;subst h1 h2
        rw[AN hl]
        exact Rh ho hx hk hi hd hn
       ·cases h
      ·cases h
     ·cases h
    ·cases h
   ·rename_i ho
    split at h
    ·rename_i ht
     split at h
     ·rename_i hs
      split at h
      ·rename_i hl
       obtain⟨hn,rfl⟩:=gm hs
       injection h with h;injection h with h1 h2;subst h1 h2
       rw[AN hl,l7]
       exact wq bt ho ht hi hd hn
      ·cases h
     ·cases h
    ·cases h
   ·rename_i ho
    split at h
    ·rename_i hs
     obtain⟨hn,rfl⟩:=gm hs
     injection h with h;injection h with h1 h2;subst h1 h2
     exact EJ ho hi hd hn
    ·cases h
   ·rename_i ho
    split at h
    ·rename_i ht
     split at h
     ·rename_i dO
      split at h
      ·rename_i hb lx
       split at h
       ·rename_i hl
        split at h
        ·rename_i hc
         split at h
         ·rename_i hx
          split at h
          ·rename_i hs
           obtain⟨hn,rfl⟩:=gm hs
           injection h with h;injection h with h1 h2;subst h1 h2
           exact yi bt ho ht dO J hb lx hl hc hx hi hd hn
          ·cases h
         ·cases h
        ·cases h
       ·cases h
      ·cases h
     ·cases h
    ·cases h
   ·cases h
 ·rename_i hd
  split at h
  ·rename_i ho
   split at h
   ·rename_i ht
    split at h
    ·rename_i hx
     split at h
     ·rename_i hi
      split at h
      ·rename_i hy
       split at h
       ·rename_i hk
        split at h
        ·rename_i cM
         split at h
         ·rename_i hs
          split at h
          ·rename_i hu
           injection h with h;injection h with h1 h2;subst h1 h2
           rw[F7 hu]
           exact nG bt ho ht hx hi hy hk cM hs hd
          ·cases h
         ·cases h
        ·cases h
       ·cases h
      ·cases h
     ·cases h
    ·cases h
   ·cases h
  ·cases h
def Rm:SC→Option SC
 |.c x=>some (.c x)
 |.lit b=>some (.lit b)
 |.ptr i o=>some (.ptr i o)
 |.iH i k o=>some (.iH i k o)
 |.iw cs=>some (.iw cs)
 |.own i=>some (.own i)
 |.mp i=>some (.mp i)
 |.u5 i n=>some (.u5 i n)
 |.kD f l=>some (.kD f l)
 |.any=>some .any
theorem Gx{s r:SC}(h:Rm s=some r):r=s:=by cases s<;>(injection h with h;exact h.symm)
def zl:List SC→Option (List SC)
 |[]=>some []
 |a::l=>match Rm a with
  |some a'=>match zl l with
   |some l'=>some (a'::l')
   |none=>none
  |none=>none
theorem wz:∀{l r:List SC},zl l=some r→r=l
 |[],r,h=>by simp[zl]at h;exact h
 |a::l,r,h=>by
  unfold zl at h
  split at h
  ·rename_i a' ha
   split at h
   ·rename_i l' hl;injection h with h;subst h;rw[Gx ha,wz hl]
   ·cases h
  ·cases h
def N6:SV→Option SV
 |.one s=>match Rm s with
  |some s'=>some (.one s')
  |none=>none
 |.agg l=>match zl l with
  |some l'=>some (.agg l')
  |none=>none
theorem Gv{s r:SV}(h:N6 s=some r):r=s:=by
 cases s<;>simp only[N6]at h<;>split at h<;>first|(cases h;done)|skip
 ·rename_i hs;injection h with h;subst h;rw[Gx hs]
 ·rename_i hs;injection h with h;subst h;rw[wz hs]
def Cy:List SV→Option (List SV)
 |[]=>some []
 |a::l=>match N6 a with
  |some a'=>match Cy l with
   |some l'=>some (a'::l')
   |none=>none
  |none=>none
theorem Cx:∀{l r:List SV},Cy l=some r→r=l
 |[],r,h=>by simp[Cy]at h;exact h
 |a::l,r,h=>by
  unfold Cy at h
  split at h
  ·rename_i a' ha
   split at h
   ·rename_i l' hl;injection h with h;subst h;rw[Gv ha,Cx hl]
   ·cases h
  ·cases h
def Rk:ST→Option ST
 |.v s=>match N6 s with
  |some s'=>some (.v s')
  |none=>none
 |.fo l=>match Cy l with
  |some l'=>some (.fo l')
  |none=>none
theorem N7{s r:ST}(h:Rk s=some r):r=s:=by
 cases s<;>simp only[Rk]at h<;>split at h<;>first|(cases h;done)|skip
 ·rename_i hs;injection h with h;subst h;rw[Gv hs]
 ·rename_i hs;injection h with h;subst h;rw[Cx hs]
def AM:TM→Option TM
 |[]=>some []
 |(t,s)::l=>match Rk s with
  |some s'=>match AM l with
   |some l'=>some ((t,s')::l')
   |none=>none
  |none=>none
theorem pK:∀{l r:TM},AM l=some r→r=l
 |[],r,h=>by simp[AM]at h;exact h
 |(t,s)::l,r,h=>by
  unfold AM at h
  split at h
  ·rename_i s' hs
   split at h
   ·rename_i l' hl;injection h with h;subst h;rw[N7 hs,pK hl]
   ·cases h
  ·cases h
def Rl:MO→Option MO
 |.box cs=>match zl cs with
  |some uz=>some (.box uz)
  |none=>none
 |.arr nn e sz xs=>some (.arr nn e sz xs)
 |.fw es=>some (.fw es)
 |.bF e sz qs=>some (.bF e sz qs)
theorem N8{s r:MO}(h:Rl s=some r):r=s:=by
 cases s<;>simp only[Rl]at h
 ·split at h
  ·rename_i hs;injection h with h;subst h;rw[wz hs]
  ·cases h
 ·injection h with h;exact h.symm
 ·injection h with h;exact h.symm
 ·injection h with h;exact h.symm
def KA:MM→Option MM
 |[]=>some []
 |(t,s)::l=>match Rl s with
  |some s'=>match KA l with
   |some l'=>some ((t,s')::l')
   |none=>none
  |none=>none
theorem Gw:∀{l r:MM},KA l=some r→r=l
 |[],r,h=>by simp[KA]at h;exact h
 |(t,s)::l,r,h=>by
  unfold KA at h
  split at h
  ·rename_i s' hs
   split at h
   ·rename_i l' hl;injection h with h;subst h;rw[N8 hs,Gw hl]
   ·cases h
  ·cases h
inductive Out where
 |stop (l:List Oper)(tm:TM)(mm:MM)
 |bad
def QF(Θ:da)(n:Nat)(L:List Oper):List Oper→TM→MM→Out
 |[],tm,mm=>.stop [] tm mm
 |o::r,tm,mm=>match aY L tm o with
  |some true=>match o.dst,vE Θ tm mm o.op with
   |some d,some st=>match oC n d st tm with
    |some tm'=>QF Θ n L r tm' mm
    |none=>.stop (o::r) tm mm
   |_,_=>match Ia Θ n tm mm o with
    |some (tm',mm')=>QF Θ n L r tm' mm'
    |none=>.stop (o::r) tm mm
  |some false=>match o.dst with
   |some d=>match oC n d (.fo []) tm with
    |some tm'=>QF Θ n L r tm' mm
    |none=>.stop (o::r) tm mm
   |none=>QF Θ n L r tm mm
  |none=>.stop (o::r) tm mm
theorem mW{C:Ctx}{n:Nat}{Θ:da}(bt:a8 C.P Θ){L:List Oper}{T:TM→MM→Prop}:∀{l:List Oper} {tm:TM} {mm:MM} {l':List Oper} {tm':TM} {mm':MM},
 QF Θ n L l tm mm=.stop l' tm' mm'→SOps C n L.toArray l' tm' mm' T→SOps C n L.toArray l tm mm T
 |[],tm,mm,l',tm',mm',h,k=>by
  simp only[QF,Out.stop.injEq]at h
  obtain⟨rfl,rfl,rfl⟩:=h
  exact k
 |o::r,tm,mm,l',tm',mm',h,k=>by
  have same:Out.stop (o::r) tm mm=.stop l' tm' mm'→SOps C n L.toArray (o::r) tm mm T:=by
   intro e
   injection e with e1 e2 e3
   subst e1 e2 e3
   exact k
  unfold QF at h
  split at h
  ·rename_i hg
   have OP:=gD hg
   split at h
   ·rename_i d st hd hv
    split at h
    ·rename_i En hs
     obtain⟨hn,rfl⟩:=gm hs
     exact SOps.step OP (jU bt hv hd hn).wp (mW bt h k)
    ·exact same h
   ·split at h
    ·rename_i hm
     exact SOps.step OP (E0 bt hm).wp (mW bt h k)
    ·exact same h
  ·rename_i hg
   have OP:=gD hg
   split at h
   ·rename_i d hd
    split at h
    ·rename_i En hs
     obtain⟨hn,rfl⟩:=gm hs
     exact SOps.TS OP hd hn (mW bt h k)
    ·exact same h
   ·rename_i hd
    refine SOps.skip OP ?_
    rw[hd]
    exact mW bt h k
  ·exact same h
def TZ(Θ:da)(n:Nat)(L:List Oper)(l:List Oper)(tm:TM)(mm:MM):Option Out:=
 match AM tm with
 |some tm'=>match KA mm with
  |some mm'=>match QF Θ n L l tm' mm' with
   |.stop a b c=>some (.stop a b c)
   |.bad=>none
  |none=>none
 |none=>none
theorem ao{C:Ctx}{n:Nat}{Θ:da}(bt:a8 C.P Θ){L:List Oper}{T:TM→MM→Prop}{l:List Oper}{tm:TM}{mm:MM}{l':List Oper}{tm':TM}{mm':MM}
 (h:TZ Θ n L l tm mm=some (.stop l' tm' mm'))(k:SOps C n L.toArray l' tm' mm' T):SOps C n L.toArray l tm mm T:=by
 unfold TZ at h
 split at h
 ·rename_i En h1
  split at h
  ·rename_i mm1 h2
   rw[←pK h1,←Gw h2]
   split at h
   ·rename_i a b c h3
    injection h with h
    injection h with e1 e2 e3
    subst e1 e2 e3
    exact mW bt h3 k
   ·cases h
  ·cases h
 ·cases h
end Go.Sy
namespace Go.Sy
open Go.RowKit
def Goes(C:Ctx)(f:FuncId)(n:Nat)(R:Ending→World→Prop)(todo:List Item)(tm:TM)(mm:MM):Prop:=
 ∀a w,Has C n tm mm a w→∀(b:Frame) (cs:List Frame),b.fn=f→b.kind=.normal→
  ∃e w' fr,R e w'∧Comes C.P (lone (b.at a todo) cs w) (lone fr cs w') e∧fr.fn=f∧fr.leaving C.P w' e
section
variable {C:Ctx} {f:FuncId} {n:Nat} {R:Ending→World→Prop} {k:List Item} {tm tm':TM} {mm mm':MM}
theorem Goes.step{t t':List Item}(h:∀(b:Frame) a cs w,step C.P (lone (b.at a t) cs w)=.next (lone (b.at a t') cs w))(g:Goes C f n R t' tm mm):Goes C f n R t tm mm:=by
 intro a w hh b cs hb hk
 obtain⟨e,w',fr,h1,h2,h3⟩:=g a w hh b cs hb hk
 exact⟨e,w',fr,h1,Comes.of_steps (.one (h b a cs w)) h2,h3⟩
theorem GY{x y:Code}(g:Goes C f n R (.code x::.code y::k) tm mm):Goes C f n R (.code (.seq x y)::k) tm mm:=Goes.step (fun _ _ _ _=>step_seq) g
theorem LS(g:Goes C f n R k tm mm):Goes C f n R (.code .skip::k) tm mm:=Goes.step (fun _ _ _ _=>step_skip) g
theorem O3{l:Nat}(g:Goes C f n R k tm mm):Goes C f n R (.code (.label l)::k) tm mm:=Goes.step (fun _ _ _ _=>step_label) g
theorem G2{id:Nat}{c:Code}(g:Goes C f n R (.code c::.inBlock id::k) tm mm):Goes C f n R (.code (.block id c)::k) tm mm:=Goes.step (fun _ _ _ _=>step_block) g
theorem zH{id:Nat}(g:Goes C f n R k tm mm):Goes C f n R (.inBlock id::k) tm mm:=Goes.step (fun _ _ _ _=>step_inBlock) g
theorem O2{c:Code}(g:Goes C f n R (.code c::.inScope c::k) tm mm):Goes C f n R (.code (.scope c)::k) tm mm:=Goes.step (fun _ _ _ _=>step_scope) g
theorem IF{c:Code}(g:Goes C f n R k tm mm):Goes C f n R (.inScope c::k) tm mm:=Goes.step (fun _ _ _ _=>step_inScope) g
theorem LX{id:Nat}{k':List Item}(h:exitTo id k=some k')(g:Goes C f n R k' tm mm):Goes C f n R (.code (.exit id)::k) tm mm:=Goes.step (fun _ _ _ _=>step_exit h) g
theorem Sx{l:Nat}{k':List Item}(h:gotoIn l k=some k')(g:Goes C f n R k' tm mm):Goes C f n R (.code (.goto l)::k) tm mm:=Goes.step (fun _ _ _ _=>step_goto h) g
theorem zI{c:Operand}{x y:Code}(hc:aQ tm c=some (.lit true))(h1:Goes C f n R (.code x::k) tm mm):
 Goes C f n R (.code (.cond c x y)::k) tm mm:=by
 intro a w hh b cs hb hk
 have hv:a.eval c=.bool true:=by
  obtain⟨H,Z,hm⟩:=hh
  exact aU hm hc
 obtain⟨e,w',fr,g1,g2,g3⟩:=h1 a w hh b cs hb hk
 exact⟨e,w',fr,g1,Comes.of_steps (.one (step_cond hv)) g2,g3⟩
theorem xi{c:Operand}{x y:Code}(hc:aQ tm c=some (.lit false))(h1:Goes C f n R (.code y::k) tm mm):
 Goes C f n R (.code (.cond c x y)::k) tm mm:=by
 intro a w hh b cs hb hk
 have hv:a.eval c=.bool false:=by
  obtain⟨H,Z,hm⟩:=hh
  exact aU hm hc
 obtain⟨e,w',fr,g1,g2,g3⟩:=h1 a w hh b cs hb hk
 exact⟨e,w',fr,g1,Comes.of_steps (.one (step_cond hv)) g2,g3⟩
theorem U2{t:Nat}{x y:Code}{v:Bool}(hc:jD tm t=some (.v (.one (.c (.bool v)))))
 (h1:v=true→Goes C f n R (.code x::k) ((t,.v (.one (.lit true)))::bo tm t) mm)(h2:v=false→Goes C f n R (.code y::k) ((t,.v (.one (.lit false)))::bo tm t) mm):
 Goes C f n R (.code (.cond (.tmp t) x y)::k) tm mm:=by
 intro a w hh b cs hb hk
 obtain⟨H,Z,hm⟩:=hh
 have hv:a.eval (.tmp t)=.bool v:=aV.pc (hm.tmps _ (gX hc))
 have key:Has C n ((t,.v (.one (.lit v)))::bo tm t) mm a w:=by
  refine⟨H,Z,{hm with tmps:=fun p hp=>?_}⟩
  rcases ae.1 hp with rfl|hp
  ·exact hv
  ·exact hm.tmps p (cj hp).1
 cases v with
 |true=>
  obtain⟨e,w',fr,g1,g2,g3⟩:=h1 J a w key b cs hb hk
  exact⟨e,w',fr,g1,Comes.of_steps (.one (step_cond hv)) g2,g3⟩
 |false=>
  obtain⟨e,w',fr,g1,g2,g3⟩:=h2 J a w key b cs hb hk
  exact⟨e,w',fr,g1,Comes.of_steps (.one (step_cond hv)) g2,g3⟩
theorem mY{id:Nat}{L:List Oper}(h:SOps C n L.toArray L tm mm (fun tm' mm'=>Goes C f n R k tm' mm')):Goes C f n R (.code (.region id L.toArray false)::k) tm mm:=by
 intro a w hh b cs hb hk
 obtain⟨e,a',w',hq,qi⟩:=wp_region_lit (id:=id) (h a w hh) b k cs
 cases e with
 |normal=>
  obtain⟨tm',mm',hg,IC⟩:=hq
  obtain⟨e,yc,fr,g1,g2,g3⟩:=hg a' w' IC b cs hb hk
  exact⟨e,yc,fr,g1,Comes.of_steps qi g2,g3⟩
 |_=>exact hq.elim
theorem Goes.mono{t:List Item}(g:Goes C f n R t tm' mm')(hs:∀a w,Has C n tm mm a w→Has C n tm' mm' a w):Goes C f n R t tm mm:=
 fun a w hh=>g a w (hs a w hh)
theorem LU{ι:Type}(S:ι→TM×MM)(μ:ι→Nat){c:Code}
 (h:∀i,(∀j,μ j < μ i→Goes C f n R (.inLoop c::k) (S j).1 (S j).2)→Goes C f n R (.code c::.inLoop c::k) (S i).1 (S i).2)(i:ι):
 Goes C f n R (.inLoop c::k) (S i).1 (S i).2:=by
 have key:∀m i,μ i < m→Goes C f n R (.inLoop c::k) (S i).1 (S i).2:=by
  intro m
  induction m with
  |zero=>intro i hi;omega
  |succ m ih=>
   intro i hi
   exact Goes.step (fun _ _ _ _=>step_inLoop) (h i (fun j hj=>ih j (by omega)))
 exact key (μ i+1) i (by omega)
theorem Sw{ι:Type}(S:ι→TM×MM)(μ:ι→Nat){c:Code}(i:ι)
 (hs:∀a w,Has C n tm mm a w→Has C n (S i).1 (S i).2 a w)
 (h:∀i,(∀j,μ j < μ i→Goes C f n R (.inLoop c::k) (S j).1 (S j).2)→Goes C f n R (.code c::.inLoop c::k) (S i).1 (S i).2):
 Goes C f n R (.code (.loop c)::k) tm mm:=
 Goes.step (fun _ _ _ _=>step_loop) ((h i (fun j _=>LU S μ h j)).mono hs)
end
def Po:SC→Option SC
 |.lit b=>some (.c (.bool b))
 |s=>some s
def DB:List SC→Option (List SC)
 |[]=>some []
 |a::l=>match Po a with
  |some a'=>match DB l with
   |some l'=>some (a'::l')
   |none=>none
  |none=>none
def Mg:SV→Option SV
 |.one s=>match Po s with
  |some s'=>some (.one s')
  |none=>none
 |.agg l=>match DB l with
  |some l'=>some (.agg l')
  |none=>none
theorem DC{I:Nat→Prop}{H:Nat→Value}{Z:Nat→Nat}{w:World}{M:Nat→Prop}{v:Value}{s r:SC}(h:Po s=some r)(hr:bS I H Z w M v s):bS I H Z w M v r:=by
 cases s<;>simp only[Po]at h<;>injection h with h<;>subst h<;>first|exact hr|skip
 rw[show v=_ from hr];exact aV.bool _
theorem zS{I:Nat→Prop}{H:Nat→Value}{Z:Nat→Nat}{w:World}{M:Nat→Prop}:∀{l r:List SC} {us:List Value},DB l=some r→Pw (fun u c=>bS I H Z w M u c) us l→Pw (fun u c=>bS I H Z w M u c) us r
 |[],r,us,h,hp=>by simp[DB]at h;subst h;exact hp
 |s::l,r,us,h,hp=>by
  match us,hp with
  |[],hp=>exact absurd hp.1 (by simp)
  |u::us,hp=>
   have GL:Pw (fun u c=>bS I H Z w M u c) us l:=⟨by simpa using hp.1,fun j c hc=>by simpa using hp.2 (j+1) c (by simpa using hc)⟩
   obtain⟨u',mR,hr⟩:=hp.2 0 s J
   simp at mR;subst mR
   unfold DB at h
   split at h
   ·rename_i a' ha
    split at h
    ·rename_i l' hl
     injection h with h;subst h
     exact Pw.cons (DC ha hr) (zS hl GL)
    ·cases h
   ·cases h
theorem DA{I:Nat→Prop}{H:Nat→Value}{Z:Nat→Nat}{w:World}{M:Nat→Prop}{v:Value}{s r:SV}(h:Mg s=some r)(hr:cu I H Z w M v s):cu I H Z w M v r:=by
 cases s with
 |one s=>
  simp only[Mg]at h
  split at h
  ·rename_i hs;injection h with h;subst h;exact DC hs hr
  ·cases h
 |agg l=>
  simp only[Mg]at h
  split at h
  ·rename_i l' hs
   injection h with h;subst h
   obtain⟨vs,h1,h2,h3⟩:=hr
   have:=zS (us:=vs.toList) hs ⟨by simpa using h2,fun j c hc=>by simpa using h3 j c hc⟩
   exact⟨vs,h1,by simpa using this.1,fun j c hc=>by simpa using this.2 j c hc⟩
  ·cases h
def na(tm:TM)(x:Operand):Option SV:=
 match cx tm x with
 |some s=>Mg s
 |none=>none
theorem tw{C:Ctx}{H:Nat→Value}{Z:Nat→Nat}{n:Nat}{tm:TM}{mm:MM}{a:Act}{w:World}(h:Mod C H Z n tm mm a w)
 {x:Operand}{s:SV}(he:na tm x=some s):cu (cU mm) H Z w (cO C H mm) (a.eval x) s:=by
 unfold na at he
 split at he
 ·rename_i s' hs;exact DA he (c8 h hs)
 ·cases he
def uN(Θ:da)(tm:TM)(mm:MM):List ResultVar→Option (List SV)
 |[]=>some []
 |.tmp t::r=>match na tm (.tmp t)with
  |some s=>match uN Θ tm mm r with
   |some l=>some (s::l)
   |none=>none
  |none=>none
 |.cell a t::r=>match aP Θ t with
  |some ⟨sz,_,ag,_,_⟩=>match aQ tm (.tmp a)with
   |some (.ptr i off)=>match getM mm i with
    |some (.box cs)=>match yd cs off sz with
     |some xs=>match qd id ag xs with
      |some s=>match Mg s,uN Θ tm mm r with
       |some s,some l=>some (s::l)
       |_,_=>none
      |none=>none
     |none=>none
    |_=>none
   |_=>none
  |none=>none
def dd:List SV→ST
 |[s]=>.v s
 |l=>.fo l
theorem KU{C:Ctx}{n:Nat}{tm:TM}{mm:MM}{Θ:da}(bt:a8 C.P Θ){t:TypeId}{ti:fN}{x:Operand}{i off:Nat}{cs xs:List SC}{s:SV}
 (ht:aP Θ t=some ti)(hx:aQ tm x=some (.ptr i off))(hi:getM mm i=some (.box cs))
 (hs:yd cs off ti.size=some xs)(hv:qd id ti.agg xs=some s){H:Nat→Value}{Z:Nat→Nat}{a:Act}{w:World}(hm:Mod C H Z n tm mm a w):
 ∃b v,a.eval x=.pointer (some ⟨b,off,none⟩)∧(loadVar t ⟨b,off,none⟩).run C.P w=.ok v w∧cu (cU mm) H Z w (cO C H mm) v s:=by
 obtain⟨inf,de,hf⟩:=gI bt ht
 obtain⟨b,ty,vs,h1,h2,_,h4⟩:=hm.box hi
 obtain⟨_,b',yw,wY⟩:=aU hm hx
 rw[h1]at yw
 simp[Hb,hblk]at yw
 subst yw
 obtain⟨e1,e2⟩:=sL hs
 have hp:Pw (fun u c=>bS (cU mm) H Z w (cO C H mm) u c) ((vs.toList.drop off).take ti.size) xs:=by
  rw[e1];exact((h4.drop off).take _).mono fun _ _ _ h=>h.2
 obtain⟨v,hr,k1,k2⟩:=gR (w:=w) hf ⟨b,off,none⟩ ((vs.toList.drop off).take ti.size) (by rw[hp.1,e2]) (fun j u hu=>by
  rw[jJ,cell_of_row w b (off+j) vs ty _ h2]
  rw[bU]at hu
  split at hu
  ·rw[cf]at hu;simpa using hu
  ·cases hu) (fun ha=>by
   rw[hp.1]
   rw[ha]at hv
   unfold qd at hv
   split at hv<;>first|(rename_i hh;cases hh;done)|rfl|(cases hv;done))
 exact⟨b,v,wY,hr,rY hv hp k1 k2⟩
def y4(tmps:Array Value):ResultVar→Sem Value
 |.tmp t=>pure (tmps.getD t undef)
 |.cell x t=>do loadVar t (←asAddr (tmps.getD x undef))
theorem Ez(fn:Func)(tmps:Array Value):results fn tmps=(do
 let vs ←fn.results.mapM (y4 tmps)
 pure (if h:vs.size=1 then vs[0]else .tuple vs)):=by
 unfold results
 congr 1
theorem vN{C:Ctx}{n:Nat}{tm:TM}{mm:MM}{Θ:da}(bt:a8 C.P Θ){H:Nat→Value}{Z:Nat→Nat}{a:Act}{w:World}(hm:Mod C H Z n tm mm a w):
 ∀{l:List ResultVar} {rs:List SV},uN Θ tm mm l=some rs→
 ∃vs:List Value,(l.mapM (m:=Sem) (y4 a.tmps)).run C.P w=.ok vs w∧Pw (fun v s=>cu (cU mm) H Z w (cO C H mm) v s) vs rs
 |[],rs,h=>by
  simp[uN]at h;subst h
  exact⟨[],by simp,Pw.nil⟩
 |.tmp t::l,rs,h=>by
  unfold uN at h
  split at h
  ·rename_i s hs
   split at h
   ·rename_i l' hl
    injection h with h;subst h
    obtain⟨vs,h1,h2⟩:=vN bt hm hl
    refine⟨a.tmps.getD t undef::vs,?_,Pw.cons (tw hm hs) h2⟩
    rw[List.mapM_cons]
    simp only[y4,Sem.run_bind,Sem.run_pure,Result.andThen_ok,h1]
   ·cases h
  ·cases h
 |.cell x t::l,rs,h=>by
  unfold uN at h
  split at h
  ·rename_i ht
   split at h
   ·rename_i hx
    split at h
    ·rename_i hi
     split at h
     ·rename_i hs
      split at h
      ·rename_i hv
       split at h
       ·rename_i s' l' ZG hl
        injection h with h;subst h
        obtain⟨vs,h1,h2⟩:=vN bt hm hl
        obtain⟨b,v,g1,g2,g3⟩:=KU bt ht hx hi hs hv hm
        have g3:=DA ZG g3
        have II:a.tmps.getD x undef=.pointer (some ⟨b,_,none⟩):=g1
        refine⟨v::vs,?_,Pw.cons g3 h2⟩
        rw[List.mapM_cons]
        have g4:(y4 a.tmps (.cell x t)).run C.P w=.ok v w:=by
         simp only[y4,Sem.run_bind,II,asAddr,Sem.run_pure,Result.andThen_ok,g2]
        simp only[Sem.run_bind,Sem.run_pure,Result.andThen_ok,g4,h1]
       ·cases h
      ·cases h
     ·cases h
    ·cases h
   ·cases h
  ·cases h
theorem lY{C:Ctx}{n:Nat}{tm:TM}{mm:MM}{Θ:da}(bt:a8 C.P Θ){H:Nat→Value}{Z:Nat→Nat}{a:Act}{w:World}(hm:Mod C H Z n tm mm a w)
 {fn:Func}{rs:List SV}(h:uN Θ tm mm fn.results.toList=some rs):
 ∃v,(results fn a.tmps).run C.P w=.ok v w∧eK (cU mm) H Z w (cO C H mm) v (dd rs):=by
 obtain⟨vs,h1,h2⟩:=vN bt hm h
 have VR:(fn.results.mapM (m:=Sem) (y4 a.tmps)).run C.P w=.ok vs.toArray w:=by
  rw[sG]
  simp only[Sem.run_map,h1,Result.andThen_ok]
 have dL:∀v,(if h:vs.toArray.size=1 then vs.toArray[0]else .tuple vs.toArray)=v→(results fn a.tmps).run C.P w=.ok v w:=by
  intro v hv
  rw[Ez]
  simp only[Sem.run_bind,VR,Result.andThen_ok,Sem.run_pure,hv]
 clear VR h1
 match vs,rs,h2,dL with
 |[],[],h2,dL=>
  exact⟨.tuple #[],dL _ (by simp),#[],rfl,rfl,fun j c hc=>by simp at hc⟩
 |[v],[s],h2,dL=>
  obtain⟨u,hu,hr⟩:=h2.2 0 s J
  simp at hu;subst hu
  exact⟨v,dL _ (by simp),hr⟩
 |v1::v2::vs,s1::s2::rs,h2,dL=>
  refine⟨.tuple (v1::v2::vs).toArray,dL _ (by simp),(v1::v2::vs).toArray,rfl,by simpa using h2.1,fun j c hc=>?_⟩
  obtain⟨u,hu,hr⟩:=h2.2 j c hc
  exact⟨u,by simpa using hu,hr⟩
 |[],_::_,h2,_=>exact absurd h2.1 (by simp)
 |[_],[],h2,_=>exact absurd h2.1 (by simp)
 |[_],_::_::_,h2,_=>exact absurd h2.1 (by simp)
 |_::_::_,[],h2,_=>exact absurd h2.1 (by simp)
 |_::_::_,[_],h2,_=>exact absurd h2.1 (by simp)
def bY:Nat→List (List CT)→MM
 |_,[]=>[]
 |i,cs::r=>(i,.box (cs.map SC.c))::bY (i+1) r
def bT(H:Nat→Value)(mm:MM)(b:Nat):Prop:=∃p∈mm,Hb (H p.1) b
structure vB(w:World)(M0:Nat→Prop)(H:Nat→Value)(Z:Nat→Nat)(mm:MM):Prop where
 m0:∀b,M0 b→b < w.heap.size
 mem:∀p∈mm,eG (cU mm) H Z w (fun b=>M0 b∨bT H mm b) p.1 p.2
 lt:∀p∈mm,∀b,Hb (H p.1) b→b < w.heap.size
 sep:∀p∈mm,∀q∈mm,p.1≠q.1→∀b,Hb (H p.1) b→¬Hb (H q.1) b
def lG(P:Program)(f:FuncId):Prop:=∀(w:World) (args:Array Value),(callFunc f args).run P w=.ok (.enter f args) w
theorem my{P:Program}{f:FuncId}{fn:Func}{c:Code}(hf:P.funcs[f]? =some fn)(hb:fn.body=some c)(hn:(fn.name=="runtime.NumGoroutine")=false):lG P f:=by
 intro w args
 have Zi:¬fn.name="runtime.NumGoroutine":=by simpa using hn
 simp[callFunc,program,Sem.run,hf,hb,Zi]
structure er(P:Program)(f:FuncId)(pre:List (List CT))(args:List SV)(res:ST)(post:List (List CT)):Prop where
 ok:lG P f
 calls:∀(w:World) (M0:Nat→Prop) (H:Nat→Value) (Z:Nat→Nat) (vs:List Value),vB w M0 H Z (bY given pre)→
  Pw (fun v s=>cu (cU (bY given pre)) H Z w (fun b=>M0 b∨bT H (bY given pre) b) v s) vs args→
  Calls P f vs.toArray w fun e w'=>∃v,e=.returned v∧Ext (bT H (bY given pre)) w w'∧
   (∀p∈bY given post,eG (cU (bY given pre)) H Z w' (fun b=>M0 b∨bT H (bY given pre) b) p.1 p.2)∧
   eK (cU (bY given pre)) H Z w' (fun b=>M0 b∨bT H (bY given pre) b) v res
theorem k9:∀{l:List (List CT)} {i:Nat} {p:Nat×MO},p∈bY i l→i≤p.1∧p.1 < i+l.length
 |[],i,p,h=>by simp[bY]at h
 |cs::l,i,p,h=>by
  unfold bY at h
  rcases ae.1 h with rfl|h
  ·exact⟨ay _,by simp⟩
  ·obtain⟨h1,h2⟩:=k9 h
   exact⟨by omega,by simp;omega⟩
theorem vZ:∀{l:List (List CT)} {i:Nat} {p q:Nat×MO},p∈bY i l→q∈bY i l→p.1=q.1→p=q
 |[],i,p,q,h,_,_=>by simp[bY]at h
 |cs::l,i,p,q,hp,hq,he=>by
  unfold bY at hp hq
  rcases ae.1 hp with rfl|hp<;>rcases ae.1 hq with rfl|hq
  ·rfl
  ·have:=(k9 hq).1;simp only at he;omega
  ·have:=(k9 hp).1;simp only at he;omega
  ·exact vZ hp hq he
def u6:Nat→List SV→TM
 |_,[]=>[]
 |i,s::r=>(i,.v s)::u6 (i+1) r
theorem pj:∀{l:List SV} {i:Nat} {p:Nat×ST},p∈u6 i l→∃j s,p=(i+j,.v s)∧l[j]? =some s
 |[],i,p,h=>by simp[u6]at h
 |s::l,i,p,h=>by
  unfold u6 at h
  rcases ae.1 h with rfl|h
  ·exact⟨0,s,rfl,rfl⟩
  ·obtain⟨j,s',h1,h2⟩:=pj h
   exact⟨j+1,s',by rw[h1];congr 1;omega,by simpa using h2⟩
def MT(H:Nat→Value)(Z:Nat→Nat)(pre post:List (List CT))(w:World)(M0:Nat→Prop)(res:ST)(e:Ending)(w':World):Prop:=
 ∃v,e=.returned v∧Ext (bT H (bY given pre)) w w'∧
  (∀p∈bY given post,eG (cU (bY given pre)) H Z w' (fun b=>M0 b∨bT H (bY given pre) b) p.1 p.2)∧
  eK (cU (bY given pre)) H Z w' (fun b=>M0 b∨bT H (bY given pre) b) v res
theorem bn{P:Program}{f:FuncId}{fn:Func}{c:Code}{pre post:List (List CT)}{args:List SV}{res:ST}
 (hf:P.funcs[f]? =some fn)(hb:fn.body=some c)(hn:Nat.ble args.length fn.ntmps=true)(RV:Nat.ble fn.ntmps given=true)(Eb:(fn.name=="runtime.NumGoroutine")=false)
 (h:∀(w:World) (M0:Nat→Prop) (H:Nat→Value) (Z:Nat→Nat),
   Goes ⟨P,w,M0,bT H (bY given pre),H,fun _=>False,fun _ h=>h.elim⟩ f fn.ntmps (MT H Z pre post w M0 res) [.code c] (u6 0 args) (bY given pre)):
 er P f pre args res post:=by
 refine⟨my hf hb Eb,?_⟩
 intro w M0 H Z vs dn cE cs
 have hlen:vs.length=args.length:=cE.1
 let a:Act:={tmps:=vs.toArray++Array.replicate (fn.ntmps - vs.toArray.size) undef,defers:=[]}
 have hn:=gw.mp hn
 have dh:Mod ⟨P,w,M0,bT H (bY given pre),H,fun _=>False,fun _ h=>h.elim⟩ H Z fn.ntmps (u6 0 args) (bY given pre) a w:=by
  refine⟨rfl,by simp[a];omega,gw.mp RV,fun _ _ _=>rfl,Ext.refl _ _,dn.m0,fun p hp q hq he=>vZ hp hq he,dn.mem,?_,dn.sep,?_⟩
  ·intro p hp b hb
   have:=(k9 hp).1
   exact⟨.inr ⟨this,.inl ⟨p,hp,hb⟩⟩,dn.lt p hp b hb⟩
  ·intro p hp
   obtain⟨j,s,rfl,hj⟩:=pj hp
   obtain⟨u,hu,hr⟩:=cE.2 j s hj
   have fg:j < vs.length:=(ai.1 hu).1
   have:a.tmps.getD (0+j) undef=u:=by
    have R2:vs[j]=u:=by
     have:=aa fg
     rw[hu]at this
     injection this with this;exact this.symm
    simp[a,db,nZ,fg,R2]
   rw[this]
   exact hr
 let b:Frame:={(default:Frame)with fn:=f,kind:=.normal}
 have q5:Frame.enter P f vs.toArray .normal=b.at a [.code c]:=by
  simp[Frame.enter,Frame.at,hf,hb,b,a]
 obtain⟨e,w',fr,h1,h2,h3,h4⟩:=h w M0 H Z a w ⟨H,Z,dh⟩ b cs J J
 rw[q5]
 exact⟨e,w',fr,h1,h2,h3,h4⟩
def y8(mm:MM):Nat→Nat→Option (List (List CT))
 |_,0=>some []
 |i,k+1=>match getM mm i with
  |some (.box cs)=>match iG cs with
   |some l=>match y8 mm (i+1) k with
    |some r=>some (l::r)
    |none=>none
   |none=>none
  |_=>none
theorem v7{mm:MM}:∀{k i:Nat} {post:List (List CT)},y8 mm i k=some post→
 post.length=k∧(∀p∈bY i post,∃cs l,(p.1,MO.box cs)∈mm∧p.2=.box (l.map SC.c)∧iG cs=some l)∧(∀j,i≤j→j < i+k→cU mm j)
 |0,i,post,h=>by simp[y8]at h;subst h;exact⟨rfl,fun p hp=>by simp[bY]at hp,fun j h1 h2=>by omega⟩
 |k+1,i,post,h=>by
  unfold y8 at h
  split at h
  ·rename_i cs hg
   split at h
   ·rename_i l hl
    split at h
    ·rename_i r hr
     injection h with h;subst h
     obtain⟨h1,h2,h3⟩:=v7 hr
     refine⟨by simp[h1],fun p hp=>?_,fun j GR M6=>?_⟩
     ·unfold bY at hp
      rcases ae.1 hp with rfl|hp
      ·exact⟨cs,l,aT hg,rfl,hl⟩
      ·exact h2 p hp
     ·by_cases lz:j=i
      ·subst lz;exact⟨_,aT hg,rfl⟩
      ·exact h3 j (by omega) (by omega)
    ·cases h
   ·cases h
  ·cases h
def Ce:SV→Bool
 |.one (.c _)=>true
 |.one _=>false
 |.agg xs=>Gm xs
where
 Gm:List SC→Bool
  |[]=>true
  |.c _::r=>Gm r
  |_::_=>false
def jt:ST→Bool
 |.v s=>Ce s
 |.fo xs=>Ay xs
where
 Ay:List SV→Bool
  |[]=>true
  |s::r=>match Ce s with
   |true=>Ay r
   |false=>false
theorem vX:∀{l:List SC},Ce.Gm l=true→∀c∈l,c.bw=[]
 |[],_,c,hc=>by cases hc
 |s::l,h,c,hc=>by
  cases s<;>simp only[Ce.Gm]at h<;>try(cases h;done)
  rcases ae.1 hc with rfl|hc
  ·rfl
  ·exact vX h c hc
theorem vW{s:SV}(h:Ce s=true):s.bw=[]:=by
 cases s with
 |one c=>cases c<;>first|rfl|cases h
 |agg xs=>
  have:=vX (l:=xs) h
  simp only[SV.bw]
  exact List.flatMap_eq_nil_iff.2 this
theorem ub:∀{l:List SV},jt.Ay l=true→∀c∈l,c.bw=[]
 |[],_,c,hc=>by cases hc
 |s::l,h,c,hc=>by
  unfold jt.Ay at h
  split at h
  ·rename_i hs
   rcases ae.1 hc with rfl|hc
   ·exact vW hs
   ·exact ub h c hc
  ·cases h
theorem nE{s:ST}(h:jt s=true):s.bw=[]:=by
 cases s with
 |v s=>exact vW h
 |fo xs=>exact List.flatMap_eq_nil_iff.2 (ub h)
theorem dw{P:Program}{w0:World}{M0:Nat→Prop}{f:FuncId}{n:Nat}{tm:TM}{mm:MM}{pre post:List (List CT)}{H:Nat→Value}{Z:Nat→Nat}{Θ:da}(bt:a8 P Θ)
 {fn:Func}(hf:P.funcs[f]? =some fn){rs:List SV}{res:ST}{y9:List (List CT)}{t:List Item}(ht:t=[]∨∃k,t=.code .ret::k)
 (hr:uN Θ tm mm fn.results.toList=some rs)(hp:jt (dd rs)=true)(r9:y8 mm given pre.length=some y9)
 (he:dd rs=res∧y9=post):
 Goes ⟨P,w0,M0,bT H (bY given pre),H,fun _=>False,fun _ h=>h.elim⟩ f n (MT H Z pre post w0 M0 res) t tm mm:=by
 obtain⟨e1,e2⟩:=he
 subst e1 e2
 intro a w ⟨H',Z',hm⟩ b cs hb hk
 obtain⟨v,h1,h2⟩:=lY bt hm hr
 obtain⟨p1,p2,p3⟩:=v7 r9
 have fY:∀q,(M0 q∨bT H (bY given pre) q)→cO ⟨P,w0,M0,bT H (bY given pre),H,fun _=>False,fun _ h=>h.elim⟩ H' mm q:=by
  rintro q (hq|⟨p,hp,c9⟩)
  ·exact .inl hq
  ·obtain⟨q1,q2⟩:=k9 hp
   obtain⟨r,GO,Is⟩:=p3 p.1 q1 q2
   refine .inr ⟨r,GO,?_⟩
   rw[hm.hg r GO (by rw[Is];exact q1),Is]
   exact c9
 have nM:MT H Z pre y9 w0 M0 (dd rs) (.returned v) w:=by
  refine⟨v,rfl,hm.ext,fun p hp=>?_,h2.mono (fun i hi=>by rw[nE hp]at hi;cases hi) (ay _) (fun _ _ _=>rfl) (fun q _ hq=>fY q hq)⟩
  obtain⟨uz,l,VN,hl,sC⟩:=p2 p hp
  have eA:=k9 hp
  have h3:=hm.mem _ VN
  have hh:H' p.1=H p.1:=hm.hg (p.1,.box uz) VN eA.1
  rw[hl]
  obtain⟨b',ty,vs,g1,g2,g3,g4⟩:=h3
  have RR:Pw (fun u c=>bS (cU mm) H' Z' w (cO ⟨P,w0,M0,bT H (bY given pre),H,fun _=>False,fun _ h=>h.elim⟩ H' mm) u c) vs.toList uz:=
   ⟨by simpa using g3,fun j c hc=>let⟨u,hu,_,hr⟩:=g4 j c hc;⟨u,by simpa using hu,hr⟩⟩
  have xa:=iF sC RR
  refine⟨b',ty,vs,by rw[←hh];exact g1,g2,by simpa using xa.1,fun j c hc=>?_⟩
  rw[az]at hc
  cases hq:l[j]? with
  |none=>rw[hq]at hc;cases hc
  |some ct=>
   rw[hq]at hc;injection hc with hc;subst hc
   obtain⟨u,hu,cC⟩:=xa.2 j ct hq
   exact⟨u,by simpa using hu,cC.one,aV.mono cC (ay _) (fun _ _ _=>rfl) (fun q _ hq=>fY q hq)⟩
 rcases ht with rfl|⟨k,rfl⟩
 ·exact⟨.returned v,w,_,nM,Steps.one step_end,hb,rfl,hm.defers,hk,fn,hb▸hf,h1⟩
 ·exact⟨.returned v,w,_,nM,Steps.one step_ret,hb,rfl,hm.defers,hk,fn,hb▸hf,h1⟩
end Go.Sy
namespace Go.Sy
open Go.RowKit
def dr(tm:TM):List Operand→Option (List SV)
 |[]=>some []
 |x::r=>match na tm x with
  |some s=>match dr tm r with
   |some l=>some (s::l)
   |none=>none
  |none=>none
theorem gr{C:Ctx}{H:Nat→Value}{Z:Nat→Nat}{n:Nat}{tm:TM}{mm:MM}{a:Act}{w:World}(h:Mod C H Z n tm mm a w):
 ∀{xs:List Operand} {l:List SV},dr tm xs=some l→Pw (fun v s=>cu (cU mm) H Z w (cO C H mm) v s) (xs.map a.eval) l
 |[],l,he=>by simp[dr]at he;subst he;exact Pw.nil
 |x::xs,l,he=>by
  unfold dr at he
  split at he
  ·rename_i s hs
   split at he
   ·rename_i l' hl
    injection he with he;subst he
    exact Pw.cons (tw h hs) (gr h hl)
   ·cases he
  ·cases he
def N5:List Nat→Nat→Option Nat
 |[],_=>none
 |a::_,0=>some a
 |_::l,k+1=>N5 l k
theorem Gu:∀(l:List Nat) (j:Nat),N5 l j=l[j]?
 |[],j=>by cases j<;>rfl
 |o::l,0=>rfl
 |o::l,j+1=>by simpa[N5]using Gu l j
def sV(ids:List Nat)(i:Nat):Option Nat:=
 match Nat.ble given i with
 |true=>N5 ids (i - given)
 |false=>none
def B7(ids:List Nat):List Nat→Option (List Nat)
 |[]=>some []
 |i::l=>match sV ids i with
  |some j=>match B7 ids l with
   |some r=>some (j::r)
   |none=>none
  |none=>none
def NN(ids:List Nat):SC→Option SC
 |.c x=>some (.c x)
 |.ptr i off=>match sV ids i with
  |some j=>some (.ptr j off)
  |none=>none
 |.kD f c7=>match B7 ids c7 with
  |some l=>some (.kD f l)
  |none=>none
 |.iw cs=>some (.iw cs)
 |_=>none
def B8(ids:List Nat):List SC→Option (List SC)
 |[]=>some []
 |a::l=>match NN ids a with
  |some a'=>match B8 ids l with
   |some l'=>some (a'::l')
   |none=>none
  |none=>none
def NM(ids:List Nat):SV→Option SV
 |.one s=>match NN ids s with
  |some s'=>some (.one s')
  |none=>none
 |.agg l=>match B8 ids l with
  |some l'=>some (.agg l')
  |none=>none
def kq(ids:List Nat):List SV→Option (List SV)
 |[]=>some []
 |a::l=>match NM ids a with
  |some a'=>match kq ids l with
   |some l'=>some (a'::l')
   |none=>none
  |none=>none
section
variable {I I':Nat→Prop} {H H':Nat→Value} {Z Z':Nat→Nat} {w:World} {M M':Nat→Prop} {ids:List Nat}
theorem sU{i j:Nat}(h:sV ids i=some j):given≤i∧ids[i - given]? =some j:=by
 unfold sV at h
 split at h
 ·rename_i hb;exact⟨gw.mp hb,by rw[←Gu];exact h⟩
 ·cases h
theorem vP:∀{l r:List Nat},B7 ids l=some r→l.length=r.length∧∀(k i j:Nat),l[k]? =some i→r[k]? =some j→sV ids i=some j
 |[],r,h=>by simp[B7]at h;subst h;simp
 |a::l,r,h=>by
  unfold B7 at h
  split at h
  ·rename_i j hj
   split at h
   ·rename_i r' gL
    injection h with h;subst h
    obtain⟨h1,h2⟩:=vP gL
    refine⟨by simp[h1],fun k i j' hi A9=>?_⟩
    cases k with
    |zero=>simp at hi A9;subst hi A9;exact hj
    |succ k=>exact h2 k i j' (by simpa using hi) (by simpa using A9)
   ·cases h
  ·cases h
theorem B9(hI:∀i j,sV ids i=some j→I j→I' i∧H' i=H j)(hM:∀b,b < w.heap.size→M' b→M b){s r:SC}(h:NN ids s=some r){v:Value}
 (hr:bS I H Z w M v r):bS I' H' Z' w M' v s:=by
 cases s<;>simp only[NN]at h<;>try(cases h;done)
 ·injection h with h;subst h;exact aV.mono hr (ay _) (fun _ _ _=>rfl) hM
 ·split at h
  ·rename_i j hj
   injection h with h;subst h
   obtain⟨h1,b,h2,h3⟩:=hr
   obtain⟨k1,k2⟩:=hI _ _ hj h1
   exact⟨k1,b,by rw[k2];exact h2,h3⟩
  ·cases h
 ·injection h with h;subst h
  exact bS.mono (x:=.iw _) hr (fun j hj _=>by simp[SC.bw]at hj) (ay _) (fun _ _ _=>rfl) hM
 ·rename_i g c7
  split at h
  ·rename_i l hl
   injection h with h;subst h
   obtain⟨h1,vs,h2,h3,h4⟩:=hr
   obtain⟨e1,e2⟩:=vP hl
   have key:∀i∈c7,∃j,sV ids i=some j∧I j:=by
    intro i hi
    obtain⟨k,hk,sB⟩:=aC.1 hi
    have Tw:k < l.length:=by omega
    have h5:=e2 k i l[k] (by rw[aa hk,sB]) (aa Tw)
    exact⟨l[k],h5,h1 _ (an Tw)⟩
   refine⟨fun i hi=>?_,vs,h2,by omega,fun k i hk=>?_⟩
   ·obtain⟨j,hj,Dq⟩:=key i hi
    exact(hI i j hj Dq).1
   ·have Yc:k < c7.length:=(ai.1 hk).1
    have Tw:k < l.length:=by omega
    have h5:=e2 k i l[k] hk (aa Tw)
    rw[(hI i _ h5 (h1 _ (an Tw))).2]
    exact h4 k _ (aa Tw)
  ·cases h
theorem y5(hI:∀i j,sV ids i=some j→I j→I' i∧H' i=H j)(hM:∀b,b < w.heap.size→M' b→M b):∀{l r:List SC} {us:List Value},B8 ids l=some r→
 Pw (fun u c=>bS I H Z w M u c) us r→Pw (fun u c=>bS I' H' Z' w M' u c) us l
 |[],r,us,h,hp=>by simp[B8]at h;subst h;exact⟨hp.1,fun j c hc=>by simp at hc⟩
 |s::l,r,us,h,hp=>by
  unfold B8 at h
  split at h
  ·rename_i a' ha
   split at h
   ·rename_i l' hl
    injection h with h;subst h
    match us,hp with
    |[],hp=>exact absurd hp.1 (by simp)
    |u::us,hp=>
     obtain⟨u',mR,hr⟩:=hp.2 0 a' J
     simp at mR;subst mR
     exact Pw.cons (B9 hI hM ha hr) (y5 hI hM hl ⟨by simpa using hp.1,fun j c hc=>by simpa using hp.2 (j+1) c (by simpa using hc)⟩)
   ·cases h
  ·cases h
theorem J3(hI:∀i j,sV ids i=some j→I j→I' i∧H' i=H j)(hM:∀b,b < w.heap.size→M' b→M b){s r:SV}(h:NM ids s=some r){v:Value}
 (hr:cu I H Z w M v r):cu I' H' Z' w M' v s:=by
 cases s with
 |one s=>
  simp only[NM]at h
  split at h
  ·rename_i hs;injection h with h;subst h;exact B9 hI hM hs hr
  ·cases h
 |agg l=>
  simp only[NM]at h
  split at h
  ·rename_i l' hs
   injection h with h;subst h
   obtain⟨vs,h1,h2,h3⟩:=hr
   have:=y5 (Z':=Z') (us:=vs.toList) hI hM hs ⟨by simpa using h2,fun j c hc=>by simpa using h3 j c hc⟩
   exact⟨vs,h1,by simpa using this.1,fun j c hc=>by simpa using this.2 j c hc⟩
  ·cases h
theorem pz(hI:∀i j,sV ids i=some j→I j→I' i∧H' i=H j)(hM:∀b,b < w.heap.size→M' b→M b):∀{l r:List SV} {us:List Value},kq ids l=some r→
 Pw (fun u c=>cu I H Z w M u c) us r→Pw (fun u c=>cu I' H' Z' w M' u c) us l
 |[],r,us,h,hp=>by simp[kq]at h;subst h;exact⟨hp.1,fun j c hc=>by simp at hc⟩
 |s::l,r,us,h,hp=>by
  unfold kq at h
  split at h
  ·rename_i a' ha
   split at h
   ·rename_i l' hl
    injection h with h;subst h
    match us,hp with
    |[],hp=>exact absurd hp.1 (by simp)
    |u::us,hp=>
     obtain⟨u',mR,hr⟩:=hp.2 0 a' J
     simp at mR;subst mR
     exact Pw.cons (J3 hI hM ha hr) (pz hI hM hl ⟨by simpa using hp.1,fun j c hc=>by simpa using hp.2 (j+1) c (by simpa using hc)⟩)
   ·cases h
  ·cases h
end
def sZ(mm:MM):List Nat→Option (List (List CT))
 |[]=>some []
 |i::l=>match getM mm i with
  |some (.box cs)=>match iG cs with
   |some ct=>match sZ mm l with
    |some r=>some (ct::r)
    |none=>none
   |none=>none
  |_=>none
def kn(mm:MM):List Nat→List (List CT)→MM
 |i::l,ct::r=>kn (cS mm i (.box (ct.map SC.c))) l r
 |_,_=>mm
def lq:List Nat→Bool
 |[]=>true
 |i::l=>match tn l i with
  |true=>false
  |false=>lq l
theorem nI:∀{l:List Nat},lq l=true→l.Nodup
 |[],_=>mC
 |i::l,h=>by
  unfold lq at h
  split at h
  ·cases h
  ·rename_i hh;exact gM.2 ⟨pS hh,nI h⟩
theorem pM{l:List Nat}(h:l.Nodup){i j:Nat}(hi:i < l.length)(hj:j < l.length)(e:l[i]=l[j]):i=j:=by
 rw[bM,bB]at h
 rcases bI i j with k|k|k
 ·exact absurd e (h i j hi hj k)
 ·exact k
 ·exact absurd e.symm (h j i hj hi k)
theorem sY{mm:MM}:∀{ids:List Nat} {pre:List (List CT)},sZ mm ids=some pre→
 pre.length=ids.length∧∀(k i:Nat) (ct:List CT),ids[k]? =some i→pre[k]? =some ct→∃cs,(i,MO.box cs)∈mm∧iG cs=some ct
 |[],pre,h=>by simp[sZ]at h;subst h;simp
 |i::l,pre,h=>by
  unfold sZ at h
  split at h
  ·rename_i cs hg
   split at h
   ·rename_i ct qh
    split at h
    ·rename_i r hr
     injection h with h;subst h
     obtain⟨h1,h2⟩:=sY hr
     refine⟨by simp[h1],fun k i' TI hi hc=>?_⟩
     cases k with
     |zero=>simp at hi hc;subst hi hc;exact⟨cs,aT hg,qh⟩
     |succ k=>exact h2 k i' TI (by simpa using hi) (by simpa using hc)
    ·cases h
   ·cases h
  ·cases h
theorem la:∀{l:List (List CT)} {i:Nat} {p:Nat×MO},p∈bY i l→∃(k:Nat) (ct:List CT),l[k]? =some ct∧p=(i+k,.box (ct.map SC.c))
 |[],i,p,h=>by simp[bY]at h
 |cs::l,i,p,h=>by
  unfold bY at h
  rcases ae.1 h with rfl|h
  ·exact⟨0,cs,rfl,rfl⟩
  ·obtain⟨k,ct,h1,h2⟩:=la h
   exact⟨k+1,ct,by simpa using h1,by rw[h2];congr 1;omega⟩
theorem sX:∀{l:List (List CT)} {i k:Nat} {ct:List CT},l[k]? =some ct→(i+k,MO.box (ct.map SC.c))∈bY i l
 |[],i,k,ct,h=>by simp at h
 |cs::l,i,0,ct,h=>by simp at h;subst h;exact ah
 |cs::l,i,k+1,ct,h=>by
  unfold bY
  have:=sX (l:=l) (i:=i+1) (k:=k) (ct:=ct) (by simpa using h)
  exact ab _ (by rw[show i+(k+1)=i+1+k by omega];exact this)
theorem pw:∀{ids:List Nat} {post:List (List CT)} {mm:MM} {p:Nat×MO},ids.Nodup→ids.length=post.length→p∈kn mm ids post→
 (∃(k:Nat) (ct:List CT),ids[k]? =some p.1∧post[k]? =some ct∧p.2=.box (ct.map SC.c)∧cU mm p.1)∨(p∈mm∧p.1∉ids)
 |[],post,mm,p,_,_,h=>.inr ⟨by cases post<;>exact h,by simp⟩
 |i::l,[],mm,p,_,hl,h=>by simp at hl
 |i::l,ct::r,mm,p,hn,hl,h=>by
  unfold kn at h
  obtain⟨Ql,Qk⟩:=gM.1 hn
  rcases pw Qk (by simpa using hl) h with⟨k,TI,h1,h2,h3,h4⟩|⟨h1,h2⟩
  ·exact .inl ⟨k+1,TI,by simpa using h1,by simpa using h2,h3,(fT _).1 h4⟩
  ·rcases cW p h1 with⟨rfl,k⟩|⟨k1,k2⟩
   ·exact .inl ⟨0,ct,rfl,rfl,rfl,k⟩
   ·exact .inr ⟨k1,by simp only[ae,not_or];exact⟨k2,h2⟩⟩
theorem kZ:∀{ids:List Nat} {post:List (List CT)} {mm:MM} (j:Nat),cU (kn mm ids post) j↔cU mm j
 |[],post,mm,j=>by cases post<;>exact Iff.rfl
 |i::l,[],mm,j=>Iff.rfl
 |i::l,ct::r,mm,j=>by unfold kn;rw[kZ j,fT]
section
variable {C:Ctx} {n:Nat} {tm:TM} {mm:MM} {o:Oper} {d:Nat}
theorem Mod.called{H:Nat→Value}{Z:Nat→Nat}{a:Act}{w w':World}(hm:Mod C H Z n tm mm a w){ids:List Nat}{pre post:List (List CT)}{res:ST}{v:Value}
 (mB:ids.Nodup)(dn:sZ mm ids=some pre)(hlen:ids.length=post.length)(fZ:jt res=true){Hc:Nat→Value}(OY:∀k i,ids[k]? =some i→Hc (given+k)=H i)
 (dy:Ext (bT Hc (bY given pre)) w w')
 (r9:∀p∈bY given post,eG (cU (bY given pre)) Hc Z w' (fun b=>cO C H mm b∨bT Hc (bY given pre) b) p.1 p.2)
 (qg:eK (cU (bY given pre)) Hc Z w' (fun b=>cO C H mm b∨bT Hc (bY given pre) b) v res)(hd:d < n):
 Mod C H Z n ((d,res)::bo tm d) (kn mm ids post) (a.put (some d) v) w':=by
 obtain⟨mA,lN⟩:=sY dn
 have hblk:∀b,bT Hc (bY given pre) b→∃(k i:Nat),ids[k]? =some i∧cU mm i∧Hb (H i) b:=by
  rintro b ⟨p,hp,c9⟩
  obtain⟨k,ct,hk,rfl⟩:=la hp
  have j7:k < ids.length:=by rw[←mA];exact(ai.1 hk).1
  have hi:ids[k]? =some ids[k]:=aa j7
  obtain⟨cs,Bc,_⟩:=lN k _ ct hi hk
  rw[OY k _ hi]at c9
  exact⟨k,_,hi,⟨_,Bc,rfl⟩,c9⟩
 have hI:∀j,cU mm j→cU (kn mm ids post) j:=fun j hj=>(kZ j).2 hj
 have hM:∀b,cO C H (kn mm ids post) b→cO C H mm b:=by
  rintro b (hb|⟨p,hp,c9⟩)
  ·exact .inl hb
  ·obtain⟨q,hq,A5⟩:=(kZ p.1).1 ⟨p,hp,rfl⟩
   exact .inr ⟨q,hq,by rw[A5];exact c9⟩
 refine hm.build (bT Hc (bY given pre)) dy (fun b _ hb=>?_) (by simpa[Act.put]using hm.defers) (by simp[Act.put,hm.size]) ?_ ?_ ?_ ?_ ?_
 ·obtain⟨k,i,_,⟨p,hp,M3⟩,Xb⟩:=hblk b hb
  exact⟨p,hp,by rw[M3];exact Xb⟩
 ·intro p hp WI
  obtain⟨q,hq,A5⟩:=(kZ p.1).1 ⟨p,hp,rfl⟩
  rw[←A5];exact hm.hg q hq (by rw[A5];exact WI)
 ·intro p hp q hq he
  rcases pw mB hlen hp with⟨k,ct,h1,h2,h3,h4⟩|⟨h1,h2⟩<;>rcases pw mB hlen hq with⟨k',TI,FG,sE,Sr,h4'⟩|⟨FG,sE⟩
  ·have RY:k=k':=by
    have e1:=ai.1 h1
    have e2:=ai.1 FG
    obtain⟨l1,g1⟩:=e1
    obtain⟨l2,g2⟩:=e2
    exact pM mB l1 l2 (by rw[g1,g2,he])
   subst RY
   rw[h2]at sE;injection sE with sE;subst sE
   exact vC he (by rw[h3,Sr])
  ·exact absurd (aj h1) (by rw[he];exact sE)
  ·exact absurd (aj FG) (by rw[←he];exact h2)
  ·exact hm.ids p h1 q FG he
 ·intro p hp
  rcases pw mB hlen hp with⟨k,ct,h1,h2,h3,h4⟩|⟨h1,h2⟩
  ·refine .inr ⟨fun b hb=>?_,fun _ _=>?_⟩
   ·obtain⟨q,hq,A5⟩:=h4
    exact .inr ⟨q,hq,by rw[A5];exact hb,.inl A5.symm⟩
   ·have h5:=r9 _ (sX (i:=given) h2)
    obtain⟨b,ty,vs,g1,g2,g3,g4⟩:=h5
    rw[h3]
    refine⟨b,ty,vs,by rw[←OY k _ h1];exact g1,g2,g3,fun j c hc=>?_⟩
    obtain⟨u,hu,ho,hr⟩:=g4 j c hc
    refine⟨u,hu,ho,?_⟩
    rw[az]at hc
    cases hq:ct[j]? with
    |none=>rw[hq]at hc;cases hc
    |some x=>
     rw[hq]at hc;injection hc with hc;subst hc
     exact aV.mono hr (ay _) (fun _ _ _=>rfl) (fun q _ hq=>.inl (hM q hq))
  ·refine .inl ⟨h1,rfl,rfl,fun b hb hx=>?_,fun j _ hj=>⟨hI j hj,rfl,rfl⟩⟩
   obtain⟨k,i,sB,⟨q,hq,A5⟩,Xb⟩:=hblk b hx
   have cV:p.1≠q.1:=by rw[A5];intro e;exact h2 (by rw[e];exact aj sB)
   exact hm.sep p h1 q hq cV b hb (by rw[A5];exact Xb)
 ·intro p hp q hq kl b c9 dS
  obtain⟨p',sa,e1⟩:=(kZ p.1).1 ⟨p,hp,rfl⟩
  obtain⟨q',rm,e2⟩:=(kZ q.1).1 ⟨q,hq,rfl⟩
  exact hm.sep p' sa q' rm (by rw[e1,e2];exact kl) b (by rw[e1];exact c9) (by rw[e2];exact dS)
 ·intro p hp
  rcases ae.1 hp with rfl|hp
  ·refine .inr fun _ _=>?_
   rw[iD (by rw[hm.size];exact hd)]
   exact qg.mono (fun i hi=>by rw[nE fZ]at hi;cases hi) (ay _) (fun _ _ _=>rfl) (fun q _ hq=>.inl (hM q hq))
  ·obtain⟨h1,h2⟩:=cj hp
   exact .inl ⟨p,h1,rfl,fV h2,fun j _ hj=>⟨hI j hj,rfl,rfl⟩⟩
theorem zY{f:FuncId}{pre post:List (List CT)}{args args':List SV}{res:ST}(hc:er C.P f pre args res post){ids:List Nat}{H:Nat→Value}{Z:Nat→Nat}{a:Act}{w:World}
 (hm:Mod C H Z n tm mm a w){vs:List Value}(hv:Pw (fun v s=>cu (cU mm) H Z w (cO C H mm) v s) vs args')(kI:kq ids args=some args')(dn:sZ mm ids=some pre)
 (mB:lq ids=true)(hlen:post.length=pre.length)(fZ:jt res=true)(hd:d < n)
 (K:Act→World→Prop)(Q:Exit→Act→World→Prop)(hK:∀a' w',Has C n ((d,res)::bo tm d) (kn mm ids post) a' w'→K a' w'):
 Calls C.P f vs.toArray w fun
  |.returned v,yc=>K (a.put (some d) v) yc
  |.panicked chain,yc=>Q (.panic chain) a yc
  |.outgrown,_=>LetsOut Q:=by
 obtain⟨mA,lN⟩:=sY dn
 have Lt:=nI mB
 let Hc:Nat→Value:=fun j=>H ((ids[j - given]?).getD 0)
 have OY:∀k i,ids[k]? =some i→Hc (given+k)=H i:=by
  intro k i hk
  simp[Hc,hk]
 have Z6:∀i j,sV ids i=some j→cU mm j→cU (bY given pre) i∧Hc i=H j:=by
  intro i j km _
  obtain⟨h1,h2⟩:=sU km
  have hk:i - given < pre.length:=by rw[mA];exact(ai.1 h2).1
  have:=sX (i:=given) (aa hk)
  refine⟨⟨_,this,by show given+(i - given)=i;omega⟩,?_⟩
  have:=OY _ _ h2
  rwa [show given+(i - given)=i by omega]at this
 have hblk:∀b,bT Hc (bY given pre) b→cO C H mm b:=by
  rintro b ⟨p,hp,c9⟩
  obtain⟨k,ct,hk,rfl⟩:=la hp
  have j7:k < ids.length:=by rw[←mA];exact(ai.1 hk).1
  have hi:ids[k]? =some ids[k]:=aa j7
  obtain⟨cs,Bc,_⟩:=lN k _ ct hi hk
  rw[OY k _ hi]at c9
  exact .inr ⟨_,Bc,c9⟩
 have hM:∀b,b < w.heap.size→(cO C H mm b∨bT Hc (bY given pre) b)→cO C H mm b:=fun b _ hb=>hb.elim id (hblk b)
 have Sk:vB w (cO C H mm) Hc Z (bY given pre):=by
  refine⟨?_,?_,?_,?_⟩
  ·rintro b (hb|⟨p,hp,c9⟩)
   ·exact ca (hm.m0 b hb) hm.ext.size
   ·exact(hm.fresh p hp b c9).2
  ·intro p hp
   obtain⟨k,ct,hk,rfl⟩:=la hp
   have j7:k < ids.length:=by rw[←mA];exact(ai.1 hk).1
   have hi:ids[k]? =some ids[k]:=aa j7
   obtain⟨cs,Bc,qh⟩:=lN k _ ct hi hk
   obtain⟨b,ty,lK,g1,g2,g3,g4⟩:=hm.mem _ Bc
   have RR:Pw (fun u c=>bS (cU mm) H Z w (cO C H mm) u c) lK.toList cs:=⟨by simpa using g3,fun j c hc=>let⟨u,hu,_,hr⟩:=g4 j c hc;⟨u,by simpa using hu,hr⟩⟩
   have xa:=iF qh RR
   refine⟨b,ty,lK,by rw[OY k _ hi];exact g1,g2,by simpa using xa.1,fun j c hc=>?_⟩
   rw[az]at hc
   cases hq:ct[j]? with
   |none=>rw[hq]at hc;cases hc
   |some x=>
    rw[hq]at hc;injection hc with hc;subst hc
    obtain⟨u,hu,hr⟩:=xa.2 j x hq
    exact⟨u,by simpa using hu,hr.one,aV.mono hr (ay _) (fun _ _ _=>rfl) hM⟩
  ·intro p hp b hb
   rcases hblk b ⟨p,hp,hb⟩with h0|⟨q,hq,dS⟩
   ·exact ca (hm.m0 b h0) hm.ext.size
   ·exact(hm.fresh q hq b dS).2
  ·intro p hp q hq kl b c9 dS
   obtain⟨k,ct,hk,rfl⟩:=la hp
   obtain⟨k',TI,VU,rfl⟩:=la hq
   have j7:k < ids.length:=by rw[←mA];exact(ai.1 hk).1
   have Iy:k' < ids.length:=by rw[←mA];exact(ai.1 VU).1
   have hi:ids[k]? =some ids[k]:=aa j7
   have Qs:ids[k']? =some ids[k']:=aa Iy
   obtain⟨cs,Bc,_⟩:=lN k _ ct hi hk
   obtain⟨uz,Xk,_⟩:=lN k' _ TI Qs VU
   rw[OY k _ hi]at c9
   rw[OY k' _ Qs]at dS
   have cV:ids[k]≠ids[k']:=fun e=>by
    have RY:k=k':=pM Lt j7 Iy e
    subst RY
    exact kl J
   exact hm.sep _ Bc _ Xk cV b c9 dS
 refine(hc.calls w (cO C H mm) Hc Z vs Sk (pz Z6 hM kI hv)).mono ?_
 rintro e w' ⟨v,rfl,dy,r9,qg⟩
 exact hK _ _ ⟨H,Z,hm.called Lt dn (by rw[hlen,mA]) fZ OY dy r9 qg hd⟩
theorem AJ{f:FuncId}{pre post:List (List CT)}{args args':List SV}{res:ST}(hc:er C.P f pre args res post)(ids:List Nat){xs:Array Operand}{ts:Array TypeId}
 (ho:o.op=.call {callee:=.value (.func f),args:=xs,argTypes:=ts})(cE:dr tm xs.toList=some args')(kI:kq ids args=some args')(dn:sZ mm ids=some pre)
 (mB:lq ids=true)(hlen:post.length=pre.length)(fZ:jt res=true)(hd:o.dst=some d)(hn:Nat.blt d n=true):
 PW C n o tm mm ((d,res)::bo tm d) (kn mm ids post):=by
 intro a w K Q ⟨H,Z,hm⟩ hK
 have xb:=zY (d:=d) hc hm (gr hm cE) kI dn mB hlen fZ (a6.mp hn) K Q hK
 unfold Oper.wp
 have dL:(execOp a.eval o).run C.P w=.ok (.enter f (xs.toList.map a.eval).toArray) w:=by
  have qY:xs.map a.eval=(xs.toList.map a.eval).toArray:=by simp[←cF]
  simp only[execOp,ho,resolve,qY,Deferred.ofValue,Act.eval,invoke,Sem.run_bind,Sem.run_pure,Result.andThen_ok,rA,jg,hc.ok w]
 rw[dL]
 show Calls _ _ _ _ _
 rw[hd]
 exact xb
def PA:List Nat→List SV
 |[]=>[]
 |i::l=>.one (.ptr i 0)::PA l
def yz:List SV→List Nat→List SV
 |[],c7=>PA c7
 |s::l,c7=>s::yz l c7
theorem Hk(l:List SV)(c7:List Nat):yz l c7=l++c7.map (fun i=>SV.one (.ptr i 0)):=by
 have h:∀c7:List Nat,PA c7=c7.map (fun i=>SV.one (.ptr i 0)):=by
  intro c7
  induction c7 with
  |nil=>rfl
  |cons i l ih=>simp[PA,ih]
 induction l with
 |nil=>simp[yz,h]
 |cons s l ih=>simp[yz,ih]
theorem ER{f:FuncId}{pre post:List (List CT)}{args args':List SV}{res:ST}(hc:er C.P f pre args res post)(ids:List Nat){x:Operand}{c7:List Nat}{xs:Array Operand}{ts:Array TypeId}
 (ho:o.op=.call {callee:=.value x,args:=xs,argTypes:=ts})(hx:aQ tm x=some (.kD f c7))(cE:dr tm xs.toList=some args')
 (kI:kq ids args=some (yz args' c7))(dn:sZ mm ids=some pre)(Fy:c7.all (fun i=>match getM mm i with|some (.box _)=>true|_=>false)=true)
 (mB:lq ids=true)(hlen:post.length=pre.length)(fZ:jt res=true)(hd:o.dst=some d)(hn:Nat.blt d n=true):
 PW C n o tm mm ((d,res)::bo tm d) (kn mm ids post):=by
 intro a w K Q ⟨H,Z,hm⟩ hK
 obtain⟨Qw,Vc,Xj,sC,Xo⟩:=aU hm hx
 have LI:∀(l:List SV) (us:List Value),Pw (fun v s=>cu (cU mm) H Z w (cO C H mm) v s) us l→Pw (fun v s=>cu (cU mm) H Z w (cO C H mm) v s) (us++Vc) (yz l c7):=by
  intro l us hp
  rw[Hk]
  refine hp.append ⟨by simpa using sC,fun j c vq=>?_⟩
  rw[az]at vq
  cases hq:c7[j]? with
  |none=>rw[hq]at vq;cases vq
  |some i=>
   rw[hq]at vq;injection vq with vq;subst vq
   refine⟨H i,Xo j i hq,Qw i (aj hq),?_⟩
   have hb:=a7.1 Fy i (aj hq)
   split at hb
   ·rename_i cs hg
    obtain⟨b,_,_,g1,_⟩:=hm.box hg
    exact⟨b,by rw[g1];rfl,g1⟩
   ·cases hb
 have xb:=zY (d:=d) hc hm (LI _ _ (gr hm cE)) kI dn mB hlen fZ (a6.mp hn) K Q hK
 unfold Oper.wp
 have dL:(execOp a.eval o).run C.P w=.ok (.enter f ((xs.toList.map a.eval)++Vc).toArray) w:=by
  have qY:xs.map a.eval=(xs.toList.map a.eval).toArray:=by simp[←cF]
  simp only[execOp,ho,resolve,qY,Xj,Deferred.ofValue,invoke,Sem.run_bind,Sem.run_pure,Result.andThen_ok,jg,hc.ok w,List.append_toArray,gN]
 rw[dL]
 show Calls _ _ _ _ _
 rw[hd]
 exact xb
end
end Go.Sy
namespace Go.Sy
open Go.RowKit
inductive yB:CT→CT→Prop
 |refl (c:CT):yB c c
 |nil (sz:Nat):yB .bA (.slice false sz [])
 |nn (nn:Bool) (sz:Nat) (xs:List (List CT)):yB (.slice nn sz xs) (.slice false sz xs)
 |CV {k:IntKind} {n:Int} {p:Int→Prop} (h:p n):yB (.int k n) (.CV k p)
 |deep {nn:Bool} {sz:Nat} {xs ys:List (List CT)} (hl:xs.length=ys.length) (hx:∀(i:Nat) (x y:List CT),xs[i]? =some x→ys[i]? =some y→x.length=y.length)
   (h:∀(i j:Nat) (x y:List CT) (c d:CT),xs[i]? =some x→ys[i]? =some y→x[j]? =some c→y[j]? =some d→yB c d):yB (.slice nn sz xs) (.slice nn sz ys)
theorem yB.rep{w:World}{M:Nat→Prop}{c d:CT}(h:yB c d):∀{v:Value},aV w M v c→aV w M v d:=by
 induction h with
 |refl c=>exact fun h=>h
 |nil sz=>exact fun h=>h.H5 sz
 |nn nn sz xs=>exact fun h=>h.yb
 |CV hp=>intro v h;rw[aV.cA h];exact .CV _ _ hp
 |deep hl hx _ ih=>
  rename_i nn sz xs ys _
  intro v hr
  cases hr with
  |slice u hlen jC kL vn cM rn cC=>
   have fy:∀(i:Nat) (y:List CT),ys[i]? =some y→∃x,xs[i]? =some x∧x.length=y.length:=by
    intro i y hy
    have bj:i < xs.length:=by rw[hl];exact(ai.1 hy).1
    exact⟨xs[i],aa bj,hx i _ y (aa bj) hy⟩
   refine .slice u (by rw[hlen,hl]) jC kL vn (fun y hy=>?_) (fun hp=>?_) (fun i y hy j d hd=>?_)
   ·obtain⟨i,hi,Zx⟩:=aC.1 hy
    obtain⟨x,h1,h2⟩:=fy i y (by rw[aa hi,Zx])
    rw[←h2];exact cM x (aj h1)
   ·obtain⟨ad,a1,a2,a3,a4,a5⟩:=rn (by omega)
    refine⟨ad,a1,a2,a3,a4,fun i y hy j d hd=>?_⟩
    obtain⟨x,h1,h2⟩:=fy i y hy
    have hj:j < x.length:=by rw[h2];exact(ai.1 hd).1
    exact a5 i x h1 j x[j] (aa hj)
   ·obtain⟨x,h1,h2⟩:=fy i y hy
    have hj:j < x.length:=by rw[h2];exact(ai.1 hd).1
    exact ih i j x y x[j] d h1 hy (aa hj) hd (cC i x h1 j x[j] (aa hj))
inductive PZ:SC→SC→Prop
 |refl (s:SC):PZ s s
 |any (s:SC):PZ s .any
 |lit (b:Bool):PZ (.lit b) (.c (.bool b))
 |c {a b:CT} (h:yB a b):PZ (.c a) (.c b)
inductive Tb:List SC→List SC→Prop
 |nil:Tb [] []
 |cons {a b:SC} {l r:List SC} (h:PZ a b) (k:Tb l r):Tb (a::l) (b::r)
inductive QM:SV→SV→Prop
 |refl (s:SV):QM s s
 |one {a b:SC} (h:PZ a b):QM (.one a) (.one b)
 |agg {a b:List SC} (h:Tb a b):QM (.agg a) (.agg b)
inductive D3:List SV→List SV→Prop
 |nil:D3 [] []
 |cons {a b:SV} {l r:List SV} (h:QM a b) (k:D3 l r):D3 (a::l) (b::r)
inductive BL:ST→ST→Prop
 |refl (s:ST):BL s s
 |v {a b:SV} (h:QM a b):BL (.v a) (.v b)
 |fo {a b:List SV} (h:D3 a b):BL (.fo a) (.fo b)
inductive yA:List CT→List CT→Prop
 |nil:yA [] []
 |cons {a b:CT} {l r:List CT} (h:yB a b) (k:yA l r):yA (a::l) (b::r)
inductive D2:List (List CT)→List (List CT)→Prop
 |refl (l:List (List CT)):D2 l l
 |nil:D2 [] []
 |cons {a b:List CT} {l r:List (List CT)} (h:yA a b) (k:D2 l r):D2 (a::l) (b::r)
 |append {a b c d:List (List CT)} (h:D2 a b) (k:D2 c d):D2 (a++c) (b++d)
inductive Jk:MO→MO→Prop
 |refl (o:MO):Jk o o
 |box {a b:List SC} (h:Tb a b):Jk (.box a) (.box b)
 |arr {nn:Bool} {e sz:Nat} {xs ys:List (List CT)} (h:D2 xs ys):Jk (.arr nn e sz xs) (.arr nn e sz ys)
 |nn {nn:Bool} {e sz:Nat} {xs ys:List (List CT)} (h:D2 xs ys):Jk (.arr nn e sz xs) (.arr false e sz ys)
section
variable {I:Nat→Prop} {H:Nat→Value} {Z:Nat→Nat} {w:World} {M:Nat→Prop}
theorem PZ.rep{a b:SC}(h:PZ a b){v:Value}(hr:bS I H Z w M v a):bS I H Z w M v b:=by
 cases h with
 |refl=>exact hr
 |any=>trivial
 |lit b=>rw[show v=.bool b from hr];exact aV.bool b
 |c h=>exact h.rep hr
theorem Tb.rep{a b:List SC}(h:Tb a b):∀{us:List Value},Pw (fun u c=>bS I H Z w M u c) us a→Pw (fun u c=>bS I H Z w M u c) us b:=by
 induction h with
 |nil=>exact fun h=>h
 |cons h _ ih=>
  intro us hp
  match us,hp with
  |[],hp=>exact absurd hp.1 (by simp)
  |u::us,hp=>
   obtain⟨u',mR,hr⟩:=hp.2 0 _ J
   simp at mR;subst mR
   exact Pw.cons (h.rep hr) (ih ⟨by simpa using hp.1,fun j c hc=>by simpa using hp.2 (j+1) c (by simpa using hc)⟩)
theorem QM.rep{a b:SV}(h:QM a b){v:Value}(hr:cu I H Z w M v a):cu I H Z w M v b:=by
 cases h with
 |refl=>exact hr
 |one h=>exact PZ.rep h hr
 |agg h=>
  obtain⟨vs,h1,h2,h3⟩:=hr
  have:=h.rep (us:=vs.toList) ⟨by simpa using h2,fun j c hc=>by simpa using h3 j c hc⟩
  exact⟨vs,h1,by simpa using this.1,fun j c hc=>by simpa using this.2 j c hc⟩
theorem D3.rep{a b:List SV}(h:D3 a b):∀{us:List Value},Pw (fun u c=>cu I H Z w M u c) us a→Pw (fun u c=>cu I H Z w M u c) us b:=by
 induction h with
 |nil=>exact fun h=>h
 |cons h _ ih=>
  intro us hp
  match us,hp with
  |[],hp=>exact absurd hp.1 (by simp)
  |u::us,hp=>
   obtain⟨u',mR,hr⟩:=hp.2 0 _ J
   simp at mR;subst mR
   exact Pw.cons (h.rep hr) (ih ⟨by simpa using hp.1,fun j c hc=>by simpa using hp.2 (j+1) c (by simpa using hc)⟩)
theorem BL.rep{a b:ST}(h:BL a b){v:Value}(hr:eK I H Z w M v a):eK I H Z w M v b:=by
 cases h with
 |refl=>exact hr
 |v h=>exact QM.rep h hr
 |fo h=>
  obtain⟨vs,h1,h2,h3⟩:=hr
  have:=h.rep (us:=vs.toList) ⟨by simpa using h2,fun j c hc=>by simpa using h3 j c hc⟩
  exact⟨vs,h1,by simpa using this.1,fun j c hc=>by simpa using this.2 j c hc⟩
theorem yA.len{a b:List CT}(h:yA a b):a.length=b.length:=by
 induction h with
 |nil=>rfl
 |cons _ _ ih=>simp[ih]
theorem yA.get{a b:List CT}(h:yA a b):∀{j:Nat} {c d:CT},a[j]? =some c→b[j]? =some d→yB c d:=by
 induction h with
 |nil=>intro j c d h;simp at h
 |cons h _ ih=>
  intro j c d hc hd
  cases j with
  |zero=>simp at hc hd;subst hc hd;exact h
  |succ j=>exact ih (by simpa using hc) (by simpa using hd)
theorem D2.len{a b:List (List CT)}(h:D2 a b):a.length=b.length:=by
 induction h with
 |refl=>rfl
 |nil=>rfl
 |cons _ _ ih=>simp[ih]
 |append _ _ Wm n9=>simp[Wm,n9]
theorem D2.get{a b:List (List CT)}(h:D2 a b):∀{k:Nat} {y:List CT},b[k]? =some y→∃x,a[k]? =some x∧x.length=y.length∧∀(j:Nat) (c d:CT),x[j]? =some c→y[j]? =some d→yB c d:=by
 induction h with
 |refl l=>intro k y hy;exact⟨y,hy,rfl,fun j c d hc hd=>by rw[hc]at hd;injection hd with hd;subst hd;exact .refl _⟩
 |nil=>intro k y hy;simp at hy
 |cons h _ ih=>
  intro k y hy
  cases k with
  |zero=>simp at hy;subst hy;exact⟨_,rfl,h.len,fun j c d hc hd=>h.get hc hd⟩
  |succ k=>simpa using ih (by simpa using hy)
 |append h1 h2 Wm n9=>
  intro k y hy
  rw[bX]at hy
  rw[bX,h1.len]
  split at hy
  ·rename_i hk;rw[if_pos hk];exact Wm hy
  ·rename_i hk;rw[if_neg hk];exact n9 hy
theorem Jk.rep{a b:MO}(h:Jk a b){i:Nat}(hr:eG I H Z w M i a):eG I H Z w M i b:=by
 have key:∀{nn:Bool} {e sz:Nat} {xs ys:List (List CT)},D2 xs ys→eG I H Z w M i (.arr nn e sz xs)→eG I H Z w M i (.arr nn e sz ys):=by
  intro nn e sz xs ys h hr
  obtain⟨hz,us,h1,h2,h3,h4⟩:=hr
  refine⟨hz,us,by rw[←h.len];exact h1,h2,fun y hy=>?_,fun k y hy j d hd=>?_⟩
  ·obtain⟨k,hk,Zt⟩:=aC.1 hy
   obtain⟨x,g1,g2,_⟩:=h.get (k:=k) (y:=y) (by rw[aa hk,Zt])
   rw[←g2];exact h3 x (aj g1)
  ·obtain⟨x,g1,g2,g3⟩:=h.get hy
   have hj:j < x.length:=by rw[g2];exact(ai.1 hd).1
   obtain⟨u,hu,cC⟩:=h4 k x g1 j x[j] (aa hj)
   exact⟨u,hu,(g3 j x[j] d (aa hj) hd).rep cC⟩
 cases h with
 |refl=>exact hr
 |box h=>
  obtain⟨b,ty,vs,h1,h2,h3,h4⟩:=hr
  have hp:Pw (fun u c=>bS I H Z w M u c) vs.toList _:=⟨by simpa using h3,fun j c hc=>let⟨u,hu,_,hr⟩:=h4 j c hc;⟨u,by simpa using hu,hr⟩⟩
  have hq:=h.rep hp
  refine⟨b,ty,vs,h1,h2,by simpa using hq.1,fun j c hc=>?_⟩
  obtain⟨u,hu,cC⟩:=hq.2 j c hc
  have hj:j < vs.size:=(bd.1 (show vs[j]? =some u by simpa using hu)).1
  obtain⟨u',mR,ho,_⟩:=h4 j _ (aa (show j < _ by rw[←h3];exact hj))
  have:u'=u:=by
   have h5:vs[j]? =some u:=by simpa using hu
   rw[h5]at mR;injection mR with mR;exact mR.symm
  subst this
  exact⟨u',by simpa using hu,ho,cC⟩
 |arr h=>exact key h hr
 |nn h=>
  obtain⟨hz,us,h1,h2,h3,h4⟩:=key h hr
  exact⟨hz,us,h1,(fun h=>by cases h),h3,h4⟩
end
def I2(tm:TM):TM→Prop
 |[]=>True
 |(t,s)::r=>(∃s0,jD tm t=some s0∧BL s0 s)∧I2 tm r
def I3(mm:MM):MM→Prop
 |[]=>True
 |(i,o)::r=>(∃o0,getM mm i=some o0∧Jk o0 o)∧I3 mm r
def jj(mm:MM)(i:Nat):Bool:=
 match getM mm i with
 |some _=>true
 |none=>false
def Tj(mm:MM):SC→Bool
 |.ptr i _|.iH i _ _|.own i|.mp i|.u5 i _=>jj mm i
 |.kD _ c7=>Vy c7
 |_=>true
where
 Vy:List Nat→Bool
  |[]=>true
  |i::r=>match jj mm i with
   |true=>Vy r
   |false=>false
def Kx(mm:MM):List SC→Bool
 |[]=>true
 |a::l=>match Tj mm a with
  |true=>Kx mm l
  |false=>false
def Wd(mm:MM):SV→Bool
 |.one s=>Tj mm s
 |.agg l=>Kx mm l
def AK(mm:MM):List SV→Bool
 |[]=>true
 |a::l=>match Wd mm a with
  |true=>AK mm l
  |false=>false
def P9(mm:MM):ST→Bool
 |.v s=>Wd mm s
 |.fo l=>AK mm l
def Kt(mm:MM):TM→Bool
 |[]=>true
 |(_,s)::r=>match P9 mm s with
  |true=>Kt mm r
  |false=>false
def yj(mm:MM):MM→Bool
 |[]=>true
 |(_,.box cs)::r=>match Kx mm cs with
  |true=>yj mm r
  |false=>false
 |_::r=>yj mm r
def vF:MM→Bool
 |[]=>true
 |(i,_)::r=>match jj r i with
  |true=>false
  |false=>vF r
theorem tp{mm:MM}{i:Nat}(h:jj mm i=true):cU mm i:=by
 unfold jj at h
 split at h
 ·rename_i hg;exact⟨_,aT hg,rfl⟩
 ·cases h
theorem fF{mm:MM}{i:Nat}(h:jj mm i=false):¬cU mm i:=by
 unfold jj at h
 split at h
 ·cases h
 ·rename_i hg;exact getM_none hg
theorem Cv{mm:MM}{s:SC}(h:Tj mm s=true):∀i∈s.bw,cU mm i:=by
 have hl:∀l:List Nat,Tj.Vy mm l=true→∀i∈l,cU mm i:=by
  intro l
  induction l with
  |nil=>intro _ i hi;cases hi
  |cons a l ih=>
   intro h i hi
   unfold Tj.Vy at h
   split at h
   ·rename_i ha
    rcases ae.1 hi with rfl|hi
    ·exact tp ha
    ·exact ih h i hi
   ·cases h
 intro i hi
 cases s<;>simp only[SC.bw]at hi<;>first|(cases hi;done)|(simp only[Tj]at h;rw[aq]at hi;subst hi;exact tp h)|(exact hl _ h i hi)
theorem s7{mm:MM}:∀{l:List SC},Kx mm l=true→∀s∈l,∀i∈s.bw,cU mm i
 |[],_,s,hs=>by cases hs
 |a::l,h,s,hs=>by
  unfold Kx at h
  split at h
  ·rename_i ha
   rcases ae.1 hs with rfl|hs
   ·exact Cv ha
   ·exact s7 h s hs
  ·cases h
theorem Cs{mm:MM}{s:SV}(h:Wd mm s=true):∀i∈s.bw,cU mm i:=by
 intro i hi
 cases s with
 |one s=>exact Cv h i hi
 |agg l=>
  simp only[SV.bw,bu]at hi
  obtain⟨s,hs,hi⟩:=hi
  exact s7 h s hs i hi
theorem s6{mm:MM}:∀{l:List SV},AK mm l=true→∀s∈l,∀i∈s.bw,cU mm i
 |[],_,s,hs=>by cases hs
 |a::l,h,s,hs=>by
  unfold AK at h
  split at h
  ·rename_i ha
   rcases ae.1 hs with rfl|hs
   ·exact Cs ha
   ·exact s6 h s hs
  ·cases h
theorem Ct{mm:MM}{s:ST}(h:P9 mm s=true):∀i∈s.bw,cU mm i:=by
 intro i hi
 cases s with
 |v s=>exact Cs h i hi
 |fo l=>
  simp only[ST.bw,bu]at hi
  obtain⟨s,hs,hi⟩:=hi
  exact s6 h s hs i hi
theorem rV{mm:MM}:∀{tm:TM},Kt mm tm=true→∀p∈tm,∀i∈p.2.bw,cU mm i
 |[],_,p,hp=>by cases hp
 |(t,s)::l,h,p,hp=>by
  unfold Kt at h
  split at h
  ·rename_i ha
   rcases ae.1 hp with rfl|hp
   ·exact Ct ha
   ·exact rV h p hp
  ·cases h
theorem jx{mm:MM}:∀{l:MM},yj mm l=true→∀p∈l,∀i∈p.2.bw,cU mm i
 |[],_,p,hp=>by cases hp
 |(t,o)::l,h,p,hp=>by
  cases o with
  |box cs=>
   unfold yj at h
   split at h
   ·rename_i ha
    rcases ae.1 hp with rfl|hp
    ·intro i hi
     simp only[MO.bw,bu]at hi
     obtain⟨s,hs,hi⟩:=hi
     exact s7 ha s hs i hi
    ·exact jx h p hp
   ·cases h
  |arr nn e sz xs=>
   have h':yj mm l=true:=by simpa[yj]using h
   rcases ae.1 hp with rfl|hp
   ·intro i hi;cases hi
   ·exact jx h' p hp
  |fw es=>
   have h':yj mm l=true:=by simpa[yj]using h
   rcases ae.1 hp with rfl|hp
   ·intro i hi;cases hi
   ·exact jx h' p hp
  |bF e sz qs=>
   have h':yj mm l=true:=by simpa[yj]using h
   rcases ae.1 hp with rfl|hp
   ·intro i hi;cases hi
   ·exact jx h' p hp
theorem px:∀{mm:MM},vF mm=true→∀p∈mm,∀q∈mm,p.1=q.1→p=q
 |[],_,p,hp=>by cases hp
 |(i,o)::r,h,p,hp=>by
  unfold vF at h
  split at h
  ·cases h
  ·rename_i hh
   have BH:=fF hh
   intro q hq he
   rcases ae.1 hp with rfl|hp<;>rcases ae.1 hq with rfl|hq
   ·rfl
   ·exact absurd ⟨q,hq,he.symm⟩ BH
   ·exact absurd ⟨p,hp,he⟩ BH
   ·exact px h p hp q hq he
section
variable {C:Ctx} {f:FuncId} {n:Nat} {R:Ending→World→Prop} {k:List Item} {tm tm':TM} {mm mm':MM} {ops:Array Oper} {l:List Oper} {T:TM→MM→Prop}
theorem Ah:∀{l:TM},I2 tm l→∀p∈l,∃s0,(p.1,s0)∈tm∧BL s0 p.2
 |[],_,p,hp=>by cases hp
 |(t,s)::r,h,p,hp=>by
  rcases ae.1 hp with rfl|hp
  ·obtain⟨s0,h1,h2⟩:=h.1;exact⟨s0,gX h1,h2⟩
  ·exact Ah h.2 p hp
theorem kh:∀{l:MM},I3 mm l→∀p∈l,∃o0,(p.1,o0)∈mm∧Jk o0 p.2
 |[],_,p,hp=>by cases hp
 |(t,s)::r,h,p,hp=>by
  rcases ae.1 hp with rfl|hp
  ·obtain⟨s0,h1,h2⟩:=h.1;exact⟨s0,aT h1,h2⟩
  ·exact kh h.2 p hp
theorem Has.sub(ht:I2 tm tm')(hm:I3 mm mm')(b6:Kt mm' tm'=true)(Fo:yj mm' mm'=true)(hu:vF mm'=true){a:Act}{w:World}(h:Has C n tm mm a w):Has C n tm' mm' a w:=by
 obtain⟨H,Z,dh⟩:=h
 have hM:∀b,b < w.heap.size→cO C H mm' b→cO C H mm b:=by
  rintro b _ (hb|⟨p,hp,c9⟩)
  ·exact .inl hb
  ·obtain⟨o0,h1,_⟩:=kh hm p hp
   exact .inr ⟨_,h1,c9⟩
 refine⟨H,Z,dh.defers,dh.size,dh.Oa,?_,dh.ext,dh.m0,px hu,?_,?_,?_,?_⟩
 ·intro p hp lN
  obtain⟨o0,h1,_⟩:=kh hm p hp
  exact dh.hg (p.1,o0) h1 lN
 ·intro p hp
  obtain⟨o0,h1,h2⟩:=kh hm p hp
  have h3:=dh.mem _ h1
  have h4:=h2.rep h3
  exact h4.mono ⟨rfl,rfl⟩ (fun _ _=>rfl) (fun j hj _=>⟨jx Fo p hp j hj,rfl,rfl⟩) (ay _) (fun _ _ _=>rfl) hM
 ·intro p hp b hb
  obtain⟨o0,h1,_⟩:=kh hm p hp
  exact dh.fresh _ h1 b hb
 ·intro p hp q hq kl b c9
  obtain⟨o0,h1,_⟩:=kh hm p hp
  obtain⟨o1,h2,_⟩:=kh hm q hq
  exact dh.sep _ h1 _ h2 kl b c9
 ·intro p hp
  obtain⟨s0,h1,h2⟩:=Ah ht p hp
  have h3:=h2.rep (dh.tmps _ h1)
  exact h3.mono (fun j hj _=>⟨rV b6 p hp j hj,rfl,rfl⟩) (ay _) (fun _ _ _=>rfl) hM
theorem GX(ht:I2 tm tm')(hm:I3 mm mm')(b6:Kt mm' tm'=true)(Fo:yj mm' mm'=true)(hu:vF mm'=true){t:List Item}(g:Goes C f n R t tm' mm'):Goes C f n R t tm mm:=
 g.mono fun _ _ h=>h.sub ht hm b6 Fo hu
def KD(L:List Oper)(o:Oper):Option Nat:=
 match o.guard with
 |none=>none
 |some (j,_)=>match qR L j with
  |some oj=>oj.dst
  |none=>none
variable {L:List Oper} {o:Oper} {t:Nat}
theorem Gf{b:Bool}(hn:KD L o=some t)(ht:jD tm t=some (.v (.one (.c (.bool b)))))
 (h1:b=true→SOps C n L.toArray (o::l) ((t,.v (.one (.lit true)))::bo tm t) mm T)
 (h2:b=false→SOps C n L.toArray (o::l) ((t,.v (.one (.lit false)))::bo tm t) mm T):SOps C n L.toArray (o::l) tm mm T:=
 have _:=hn
 SOps.split (gX ht) h1 h2
theorem B0{p:Prop}[Decidable p](hn:KD L o=some t)(ht:jD tm t=some (.v (.one (.c (.bool (decide p))))))
 (h1:p→SOps C n L.toArray (o::l) ((t,.v (.one (.lit true)))::bo tm t) mm T)
 (h2:¬p→SOps C n L.toArray (o::l) ((t,.v (.one (.lit false)))::bo tm t) mm T):SOps C n L.toArray (o::l) tm mm T:=
 Gf hn ht (fun h=>h1 (of_decide_eq_true h)) (fun h=>h2 (of_decide_eq_false h))
theorem U1{x y:Code}{p:Prop}[Decidable p](hc:jD tm t=some (.v (.one (.c (.bool (decide p))))))
 (h1:p→Goes C f n R (.code x::k) ((t,.v (.one (.lit true)))::bo tm t) mm)(h2:¬p→Goes C f n R (.code y::k) ((t,.v (.one (.lit false)))::bo tm t) mm):
 Goes C f n R (.code (.cond (.tmp t) x y)::k) tm mm:=U2 hc (fun h=>h1 (of_decide_eq_true h)) (fun h=>h2 (of_decide_eq_false h))
theorem cB{tm':TM}{mm':MM}(h:PW C n o tm mm tm' mm')(hg:aY L tm o=some true)(k:SOps C n L.toArray l tm' mm' T):SOps C n L.toArray (o::l) tm mm T:=
 SOps.step (gD hg) h k
variable {d:Nat} {x y:Operand} {ty rk:TypeId}
theorem bH{a b:Int}(ho:o.op=.binOp .add ty x y rk)(hx:aQ tm x=some (.c (.int .i64 a)))(hy:aQ tm y=some (.c (.int .i64 b)))(hd:o.dst=some d)(hn:Nat.blt d n=true)(hg:aY L tm o=some true)
 (hr:-9223372036854775808≤a+b∧a+b≤9223372036854775807)(k:SOps C n L.toArray l ((d,.v (.one (.c (.int .i64 (a+b)))))::bo tm d) mm T):SOps C n L.toArray (o::l) tm mm T:=
 cB (iE (p:=.add) ho hx hy (IntWalk.i64_in _ (by omega)) hd hn).wp hg k
theorem JH{a b:Int}(ho:o.op=.binOp .sub ty x y rk)(hx:aQ tm x=some (.c (.int .i64 a)))(hy:aQ tm y=some (.c (.int .i64 b)))(hd:o.dst=some d)(hn:Nat.blt d n=true)(hg:aY L tm o=some true)
 (hr:-9223372036854775808≤a - b∧a - b≤9223372036854775807)(k:SOps C n L.toArray l ((d,.v (.one (.c (.int .i64 (a - b)))))::bo tm d) mm T):SOps C n L.toArray (o::l) tm mm T:=
 cB (iE (p:=.sub) ho hx hy (IntWalk.i64_in _ (by omega)) hd hn).wp hg k
theorem TV{kd:IntKind}{a b:Int}(ho:o.op=.binOp .rem ty x y rk)(hx:aQ tm x=some (.c (.int kd a)))(hy:aQ tm y=some (.c (.int kd b)))(hd:o.dst=some d)(hn:Nat.blt d n=true)(hg:aY L tm o=some true)
 (hr:b≠0)(k:SOps C n L.toArray l ((d,.v (.one (.c (.int kd (a.tmod b)))))::bo tm d) mm T):SOps C n L.toArray (o::l) tm mm T:=
 cB (iE (p:=.rem) ho hx hy ⟨hr,rfl⟩ hd hn).wp hg k
theorem P4{Θ:da}(bt:a8 C.P Θ){s:ByteArray}{kd:IntKind}{m:Int}{z cz:Nat}{ag:Bool}{zr:Option (List CT)}
 (ho:o.op=.index ty x y)(ht:aP Θ ty=some ⟨z,cz,ag,zr,.string⟩)(hx:aQ tm x=some (.c (.str s)))(hi:aQ tm y=some (.c (.int kd m)))(hd:o.dst=some d)(hn:Nat.blt d n=true)(hg:aY L tm o=some true)
 (j:Nat)(b:UInt8)(hm:m=(j:Int))(hb:s.data.toList[j]? =some b)(k:SOps C n L.toArray l ((d,.v (.one (.c (.int .u8 (b.toNat:Int)))))::bo tm d) mm T):SOps C n L.toArray (o::l) tm mm T:=
 cB (HT bt ho ht hx hi hm hb hd hn).wp hg k
theorem bO{Θ:da}(bt:a8 C.P Θ){nn:Bool}{sz:Nat}{xs:List (List CT)}{kd:IntKind}{m:Int}{e:Nat}{z cz:Nat}{ag:Bool}{zr:Option (List CT)}{ei:fN}
 (ho:o.op=.indexAddr ty x y)(ht:aP Θ ty=some ⟨z,cz,ag,zr,.slice e⟩)(dO:aP Θ e=some ei)(hx:aQ tm x=some (.c (.slice nn sz xs)))(cM:Nat.beq ei.size sz=true)
 (hi:aQ tm y=some (.c (.int kd m)))(hd:o.dst=some d)(hn:Nat.blt d n=true)(hg:aY L tm o=some true)
 (j:Nat)(cs:List CT)(hm:m=(j:Int))(hj:xs[j]? =some cs)(k:SOps C n L.toArray l ((d,.v (.one (.iw cs)))::bo tm d) mm T):SOps C n L.toArray (o::l) tm mm T:=
 cB (wk bt ho ht dO cM hx hi hm hj hd hn).wp hg k
theorem aR{g:FuncId}{pre post:List (List CT)}{args args':List SV}{res:ST}(hc:er C.P g pre args res post)(ids:List Nat){xs:Array Operand}{ts:Array TypeId}
 (ho:o.op=.call {callee:=.value (.func g),args:=xs,argTypes:=ts})(cE:dr tm xs.toList=some args')(kI:kq ids args=some args')(dn:sZ mm ids=some pre)
 (mB:lq ids=true)(hlen:post.length=pre.length)(fZ:jt res=true)(hd:o.dst=some d)(hn:Nat.blt d n=true)(hg:aY L tm o=some true)
 (k:SOps C n L.toArray l ((d,res)::bo tm d) (kn mm ids post) T):SOps C n L.toArray (o::l) tm mm T:=
 cB (AJ hc ids ho cE kI dn mB hlen fZ hd hn) hg k
theorem ua{g:FuncId}{pre post:List (List CT)}{args args':List SV}{res:ST}(hc:er C.P g pre args res post)(ids:List Nat){c7:List Nat}{xs:Array Operand}{ts:Array TypeId}
 (ho:o.op=.call {callee:=.value x,args:=xs,argTypes:=ts})(hx:aQ tm x=some (.kD g c7))(cE:dr tm xs.toList=some args')(kI:kq ids args=some (yz args' c7))(dn:sZ mm ids=some pre)
 (Fy:c7.all (fun i=>match getM mm i with|some (.box _)=>true|_=>false)=true)
 (mB:lq ids=true)(hlen:post.length=pre.length)(fZ:jt res=true)(hd:o.dst=some d)(hn:Nat.blt d n=true)(hg:aY L tm o=some true)
 (k:SOps C n L.toArray l ((d,res)::bo tm d) (kn mm ids post) T):SOps C n L.toArray (o::l) tm mm T:=
 cB (ER hc ids ho hx cE kI dn Fy mB hlen fZ hd hn) hg k
end
theorem eM{k:IntKind}{a b:Int}(h:a=b):BL (.v (.one (.c (.int k a)))) (.v (.one (.c (.int k b)))):=by subst h;exact .refl _
theorem fx{a b:CT}(h:a=b):BL (.v (.one (.c a))) (.v (.one (.c b))):=by subst h;exact .refl _
section
variable {C:Ctx} {f:FuncId} {n:Nat} {R:Ending→World→Prop} {k:List Item} {tm:TM} {mm:MM} {c:Code}
theorem bE{ι:Type}(Inv:ι→Prop)(S:ι→TM)(M:ι→MM)(μ:ι→Nat)(i:ι)(h0:Inv i)(hs:∀a w,Has C n tm mm a w→Has C n (S i) (M i) a w)
 (h:∀i,Inv i→(∀j,Inv j→μ j < μ i→Goes C f n R (.inLoop c::k) (S j) (M j))→Goes C f n R (.code c::.inLoop c::k) (S i) (M i)):
 Goes C f n R (.code (.loop c)::k) tm mm:=
 Sw (ι:={i:ι // Inv i}) (fun i=>(S i.1,M i.1)) (fun i=>μ i.1) ⟨i,h0⟩ hs fun i ih=>h i.1 i.2 fun j hj hm=>ih ⟨j,hj⟩ hm
theorem fz{ι κ:Type}(Inv:ι→κ→Prop)(S:ι→κ→TM)(M:ι→κ→MM)(μ:ι→κ→Nat)(i:ι)(a:κ)(h0:Inv i a)(hs:∀x w,Has C n tm mm x w→Has C n (S i a) (M i a) x w)
 (h:∀i a,Inv i a→(∀j b,Inv j b→μ j b < μ i a→Goes C f n R (.inLoop c::k) (S j b) (M j b))→Goes C f n R (.code c::.inLoop c::k) (S i a) (M i a)):
 Goes C f n R (.code (.loop c)::k) tm mm:=
 bE (ι:=ι×κ) (fun p=>Inv p.1 p.2) (fun p=>S p.1 p.2) (fun p=>M p.1 p.2) (fun p=>μ p.1 p.2) (i,a) h0 hs fun p hp ih=>h p.1 p.2 hp fun j b hj hm=>ih (j,b) hj hm
end
end Go.Sy
namespace Go.Sy
open Go.RowKit
def Nj(tm:TM):List Item→Option (List Item)
 |.code (.seq x y)::k=>some (.code x::.code y::k)
 |.code .skip::k=>some k
 |.code (.block id c)::k=>some (.code c::.inBlock id::k)
 |.inBlock _::k=>some k
 |.code (.exit id)::k=>exitTo id k
 |.code (.cond c x y)::k=>match aQ tm c with
  |some (.lit true)=>some (.code x::k)
  |some (.lit false)=>some (.code y::k)
  |_=>none
 |_=>none
def V1(tm:TM):Nat→List Item→Option (List Item)
 |0,k=>some k
 |m+1,k=>match Nj tm k with
  |some k'=>V1 tm m k'
  |none=>some k
def Q1(tm:TM)(k:List Item):Option (List Item):=
 match Nj tm k with
 |some k'=>V1 tm 40 k'
 |none=>none
section
variable {C:Ctx} {f:FuncId} {n:Nat} {R:Ending→World→Prop} {k k':List Item} {tm:TM} {mm:MM}
theorem vI(h:Nj tm k=some k')(g:Goes C f n R k' tm mm):Goes C f n R k tm mm:=by
 unfold Nj at h
 split at h
 ·injection h with h;subst h;exact GY g
 ·injection h with h;subst h;exact LS g
 ·injection h with h;subst h;exact G2 g
 ·injection h with h;subst h;exact zH g
 ·exact LX h g
 ·split at h
  ·injection h with h;subst h;exact zI (by assumption) g
  ·injection h with h;subst h;exact xi (by assumption) g
  ·cases h
 ·cases h
theorem zG:∀{m:Nat} {k:List Item},V1 tm m k=some k'→Goes C f n R k' tm mm→Goes C f n R k tm mm
 |0,k,h,g=>by injection h with h;subst h;exact g
 |m+1,k,h,g=>by
  unfold V1 at h
  split at h
  ·rename_i hs;exact vI hs (zG h g)
  ·injection h with h;subst h;exact g
theorem gc_(h:Q1 tm k=some k')(g:Goes C f n R k' tm mm):Goes C f n R k tm mm:=by
 unfold Q1 at h
 split at h
 ·rename_i hs;exact vI hs (zG h g)
 ·cases h
end
theorem fE{nn:Bool}{e sz:Nat}{xs ys:List (List CT)}(h:xs=ys):Jk (.arr nn e sz xs) (.arr false e sz ys):=by subst h;exact .nn (.refl _)
theorem Yq:(∀(p:Prop) [Decidable p],(decide p=true)=p)∧(∀(p:Prop) [Decidable p],(decide p=false)=¬p)∧(∀b:Bool,((!b)=true)=(b=false))∧(∀b:Bool,((!b)=false)=(b=true))∧
 (∀b:Bool,(¬(b=true))=(b=false))∧(∀b:Bool,(¬(b=false))=(b=true))∧((!true)=false)∧((!false)=true)∧((false=true)=False)∧((true=false)=False)∧((¬True)=False)∧((¬False)=True)∧
 (∀(α β:Type) (g:α→β) (l:List α),(l.map g).length=l.length):=by
 refine⟨fun p _=>by simp,fun p _=>by simp,fun b=>by simp,fun b=>by simp,fun b=>by simp,fun b=>by simp,rfl,rfl,by simp,by simp,by simp,by simp,fun α β g l=>by simp⟩
end Go.Sy
namespace Go.Sy
open Go.RowKit
theorem Has.kX{C:Ctx}{n:Nat}{tm tm':TM}{mm:MM}{a:Act}{w:World}(h:Has C n tm mm a w)(hs:∀p∈tm',p∈tm):Has C n tm' mm a w:=by
 obtain⟨H,Z,hm⟩:=h
 exact⟨H,Z,hm.sub hs⟩
def M8(C:Ctx)(n:Nat)(mm:MM)(o:Oper)(D7:TM)(d:Nat)(s:ST):Prop:=
 (o.dst=some d∧Nat.blt d n=true)∧∀tm':TM,(∀p∈D7,p∈tm')→PW C n o tm' mm ((d,s)::bo tm' d) mm
theorem ea.Em{C:Ctx}{n:Nat}{mm:MM}{o:Oper}{D7:TM}{d:Nat}{s:ST}(h:ea C n o D7 mm d s):M8 C n mm o D7 d s:=by
 refine⟨h.1,fun tm' hs=>?_⟩
 refine ea.wp ⟨h.1,fun H Z a w hm=>?_⟩
 exact h.2 H Z a w (hm.sub hs)
theorem LR{l r:TM}{t:Nat}{s:ST}(h:jD l t=some s):jD (l++r) t=some s:=by
 induction l with
 |nil=>simp[jD]at h
 |cons p l ih=>
  obtain⟨e,u⟩:=p
  unfold jD at h
  show jD ((e,u)::(l++r)) t=some s
  unfold jD
  cases hb:Nat.beq e t with
  |true=>rw[hb]at h;exact h
  |false=>rw[hb]at h;exact ih h
theorem zN{l r:TM}{x:Operand}{s:ST}(h:mg l x=some s):mg (l++r) x=some s:=by
 cases x<;>first|exact LR h|exact h
theorem mZ{l r:TM}{x:Operand}{s:SV}(h:cx l x=some s):cx (l++r) x=some s:=by
 unfold cx at h⊢
 split at h
 ·rename_i hs;rw[zN hs];exact h
 ·cases h
theorem zO{l r:TM}{x:Operand}{s:SV}(h:na l x=some s):na (l++r) x=some s:=by
 unfold na at h⊢
 split at h
 ·rename_i hs;rw[mZ hs];exact h
 ·cases h
theorem nN{l r:TM}:∀{xs:List Operand} {s:List SV},dr l xs=some s→dr (l++r) xs=some s
 |[],s,h=>h
 |x::xs,s,h=>by
  unfold dr at h⊢
  split at h
  ·rename_i hx
   rw[zO hx]
   split at h
   ·rename_i hl;rw[nN hl];exact h
   ·cases h
  ·cases h
theorem Cq{C:Ctx}{n:Nat}{D7:TM}{mm:MM}{o:Oper}{d:Nat}{f:FuncId}{pre post:List (List CT)}{args args':List SV}{res:ST}(hc:er C.P f pre args res post)(ids:List Nat){xs:Array Operand}{ts:Array TypeId}
 (ho:o.op=.call {callee:=.value (.func f),args:=xs,argTypes:=ts})(cE:dr D7 xs.toList=some args')(kI:kq ids args=some args')(dn:sZ mm ids=some pre)
 (mB:lq ids=true)(hlen:post.length=pre.length)(fZ:jt res=true)(hd:o.dst=some d)(hn:Nat.blt d n=true)(oc:kn mm ids post=mm):
 M8 C n mm o D7 d res:=by
 refine⟨⟨hd,hn⟩,fun tm' hs=>?_⟩
 have h:=AJ (tm:=D7++tm') hc ids ho (nN cE) kI dn mB hlen fZ hd hn
 rw[oc]at h
 intro a w K Q hh hK
 refine h a w K Q (hh.kX fun p hp=>(aK.1 hp).elim (hs p) id) fun a' w' h'=>hK a' w' (h'.kX fun p hp=>?_)
 rcases ae.1 hp with rfl|hp
 ·exact ah
 ·refine ab _ ?_
  have key:∀{l:TM},p∈l→p.1≠d→p∈bo l d:=by
   intro l
   induction l with
   |nil=>intro h;cases h
   |cons q l ih=>
    intro h cV
    obtain⟨e,u⟩:=q
    unfold bo
    cases hb:Nat.beq e d with
    |true=>
     rcases ae.1 h with rfl|h
     ·exact absurd (aJ hb) cV
     ·exact ih h cV
    |false=>
     rcases ae.1 h with rfl|h
     ·exact ah
     ·exact ab _ (ih h cV)
  obtain⟨h1,h2⟩:=cj hp
  exact key (bQ _ h1) h2
theorem b9{d:Nat}{p:Nat×ST}:∀{l:TM},p∈l→p.1≠d→p∈bo l d
 |[],h,_=>by cases h
 |(e,u)::l,h,cV=>by
  unfold bo
  cases hb:Nat.beq e d with
  |true=>
   rcases ae.1 h with rfl|h
   ·exact absurd (aJ hb) cV
   ·exact b9 h cV
  |false=>
   rcases ae.1 h with rfl|h
   ·exact ah
   ·exact ab _ (b9 h cV)
def eV:List Nat→Nat→Bool
 |[],_=>false
 |a::l,t=>match Nat.beq a t with
  |true=>true
  |false=>eV l t
theorem cD{t:Nat}:∀{l:List Nat},eV l t=true↔t∈l
 |[]=>by simp[eV]
 |a::l=>by
  unfold eV
  cases hb:Nat.beq a t with
  |true=>simp[aJ hb]
  |false=>
   have:¬t=a:=fun e=>by subst e;simp at hb
   simp[this,cD (l:=l)]
def yN:List Operand→List Nat
 |[]=>[]
 |.tmp t::r=>t::yN r
 |_::r=>yN r
def aI(L:List Oper)(o:Oper):List Nat:=
 match o.guard with
 |none=>yN o.op.operands.toList
 |some (j,_)=>match qR L j with
  |some oj=>match oj.dst with
   |some t=>t::yN o.op.operands.toList
   |none=>yN o.op.operands.toList
  |none=>yN o.op.operands.toList
def aX(l:List Nat):TM→TM
 |[]=>[]
 |(t,s)::r=>match eV l t with
  |true=>(t,s)::aX l r
  |false=>aX l r
theorem dk{l:List Nat}{p:Nat×ST}:∀{tm:TM},p∈aX l tm↔p∈tm∧p.1∈l
 |[]=>by simp[aX]
 |(t,s)::r=>by
  unfold aX
  cases hb:eV l t with
  |true=>
   have:=cD.1 hb
   simp only[ae,dk (tm:=r)]
   constructor
   ·rintro(rfl|h)
    ·exact⟨.inl rfl,this⟩
    ·exact⟨.inr h.1,h.2⟩
   ·rintro⟨rfl|h,k⟩
    ·exact .inl rfl
    ·exact .inr ⟨h,k⟩
  |false=>
   have hn:t∉l:=fun h=>by rw[cD.2 h]at hb;cases hb
   simp only[ae,dk (tm:=r)]
   constructor
   ·rintro⟨h,k⟩;exact⟨.inr h,k⟩
   ·rintro⟨rfl|h,k⟩
    ·exact absurd k hn
    ·exact⟨h,k⟩
section
variable {C:Ctx} {n:Nat} {mm:MM} {L:List Oper}
def I4(C:Ctx)(n:Nat)(mm:MM)(L:List Oper)(tm:TM)(o:Oper):Prop:=
 ∃d s,o.dst=some d∧(d,s)∈tm∧∀tm':TM,(∀p∈tm,p.1∈aI L o→p∈tm')→∀(a:Act) (w:World) (K:Act→World→Prop) (Q:Exit→Act→World→Prop),Has C n tm' mm a w→
  (∀a' w',Has C n ((d,s)::bo tm' d) mm a' w'→K a' w')→
  if Region.wanted o (yielded L.toArray a.tmps)then o.wp C.P a w K Q else K (a.put o.dst undef) w
theorem ln{L:List Oper}{j:Nat}:qR L j=L[j]? :=AL L j
theorem o4{tm:TM}{o:Oper}{b:Bool}(h:aY L (aX (aI L o) tm) o=some b){tm':TM}(hs:∀p∈tm,p.1∈aI L o→p∈tm')
 {a:Act}{w:World}(hh:Has C n tm' mm a w):Region.wanted o (yielded L.toArray a.tmps)=b:=
 gC (gD h) (hh.kX fun p hp=>hs p (dk.1 hp).1 (dk.1 hp).2)
theorem Kv{tm:TM}{o:Oper}{d:Nat}{s:ST}(hg:aY L (aX (aI L o) tm) o=some true)(h:M8 C n mm o (aX (aI L o) tm) d s)(gb:d∉aI L o):I4 C n mm L ((d,s)::bo tm d) o:=by
 refine⟨d,s,h.1.1,ah,fun tm' hs a w K Q hh hK=>?_⟩
 have Jd:∀p∈tm,p.1∈aI L o→p∈tm':=fun p hp hl=>hs p (ab _ (b9 hp fun e=>gb (e▸hl))) hl
 rw[if_pos (o4 hg Jd hh)]
 exact h.2 tm' (fun p hp=>Jd p (dk.1 hp).1 (dk.1 hp).2) a w K Q hh hK
theorem Kw{tm:TM}{o:Oper}{d:Nat}(hg:aY L (aX (aI L o) tm) o=some false)(hd:o.dst=some d)(hn:Nat.blt d n=true)(gb:d∉aI L o):I4 C n mm L ((d,.fo [])::bo tm d) o:=by
 refine⟨d,_,hd,ah,fun tm' hs a w K Q hh hK=>?_⟩
 have Jd:∀p∈tm,p.1∈aI L o→p∈tm':=fun p hp hl=>hs p (ab _ (b9 hp fun e=>gb (e▸hl))) hl
 rw[if_neg (by rw[o4 hg Jd hh];simp)]
 obtain⟨H,Z,hm⟩:=hh
 rw[hd]
 exact hK _ _ ⟨H,Z,hm.Ep (a6.mp hn) ⟨#[],rfl,rfl,fun j c hc=>by simp at hc⟩⟩
theorem I4.grow{tm:TM}{o:Oper}(h:I4 C n mm L tm o){d:Nat}{s:ST}(hd:o.dst≠some d)(hl:d∉aI L o):I4 C n mm L ((d,s)::bo tm d) o:=by
 obtain⟨d',s',h1,h2,h3⟩:=h
 have cV:d'≠d:=fun e=>hd (e▸h1)
 refine⟨d',s',h1,ab _ (b9 h2 cV),fun tm' hs=>h3 tm' fun p hp mA=>hs p (ab _ (b9 hp fun e=>hl (e▸mA))) mA⟩
theorem I4.told{tm:TM}{o:Oper}(h:I4 C n mm L tm o){t:Nat}{b:Bool}(hu:∀s,(t,s)∈tm→s=.v (.one (.c (.bool b)))):
 I4 C n mm L ((t,.v (.one (.lit b)))::bo tm t) o:=by
 obtain⟨d,s,h1,h2,h3⟩:=h
 have conv:∀{l l':TM},(∀p∈l',p∈l∨(p=(t,.v (.one (.lit b)))∧(t,ST.v (.one (.c (.bool b))))∈l)∨(p=(t,.v (.one (.c (.bool b))))∧(t,ST.v (.one (.lit b)))∈l))→
  ∀a w,Has C n l mm a w→Has C n l' mm a w:=by
  intro l l' hl a w ⟨H,Z,hm⟩
  refine⟨H,Z,{hm with tmps:=fun p hp=>?_}⟩
  rcases hl p hp with h|⟨rfl,h⟩|⟨rfl,h⟩
  ·exact hm.tmps p h
  ·exact aV.pc (hm.tmps _ h)
  ·have:a.tmps.getD t undef=.bool b:=hm.tmps _ h
   show aV _ _ (a.tmps.getD t undef) _
   rw[this];exact .bool b
 by_cases Yi:d=t
 ·subst Yi
  have hs:=hu s h2
  subst hs
  refine⟨d,_,h1,ah,fun tm' hs a w K Q hh hK=>?_⟩
  refine h3 (aX (aI L o) tm++tm') (fun p hp hl=>dN _ (dk.2 ⟨hp,hl⟩)) a w K Q (conv ?_ a w hh) (fun a' w' h'=>hK a' w' (conv ?_ a' w' h'))
  ·intro p hp
   rcases aK.1 hp with hp|hp
   ·obtain⟨hp,hl⟩:=dk.1 hp
    by_cases vl:p.1=d
    ·have:p=(d,.v (.one (.c (.bool b)))):=vC vl (hu p.2 (by rw[←vl];exact hp))
     exact .inr (.inr ⟨this,hs _ ah (vl▸hl)⟩)
    ·exact .inl (hs p (ab _ (b9 hp vl)) hl)
   ·exact .inl hp
  ·intro p hp
   rcases ae.1 hp with rfl|hp
   ·exact .inr (.inl ⟨rfl,ah⟩)
   ·obtain⟨e1,e2⟩:=cj hp
    exact .inl (ab _ (b9 (bQ _ e1) e2))
 ·refine⟨d,s,h1,ab _ (b9 h2 Yi),fun tm' hs a w K Q hh hK=>?_⟩
  refine h3 (aX (aI L o) tm++tm') (fun p hp hl=>dN _ (dk.2 ⟨hp,hl⟩)) a w K Q (conv ?_ a w hh) (fun a' w' h'=>hK a' w' (conv ?_ a' w' h'))
  ·intro p hp
   rcases aK.1 hp with hp|hp
   ·obtain⟨hp,hl⟩:=dk.1 hp
    by_cases vl:p.1=t
    ·have:p=(t,.v (.one (.c (.bool b)))):=vC vl (hu p.2 (by rw[←vl];exact hp))
     exact .inr (.inr ⟨this,hs _ ah (vl▸hl)⟩)
    ·exact .inl (hs p (ab _ (b9 hp vl)) hl)
   ·exact .inl hp
  ·intro p hp
   rcases ae.1 hp with rfl|hp
   ·exact .inl ah
   ·obtain⟨e1,e2⟩:=cj hp
    exact .inl (ab _ (b9 (bQ _ e1) e2))
def fi:List Edge→List Nat
 |[]=>[]
 |e::r=>match Region.binds .any e with
  |true=>e.on::fi r
  |false=>fi r
def bP:List Oper→List Nat
 |[]=>[]
 |o::r=>match o.dst with
  |some d=>d::bP r
  |none=>bP r
def Du(L:List Oper)(d:Nat):List Oper→Bool
 |[]=>true
 |o::r=>match o.dst with
  |none=>false
  |some e=>match Nat.beq e d with
   |true=>false
   |false=>match eV (aI L o) d with
    |true=>false
    |false=>Du L d r
def n0(lk af:List Nat):List Oper→Nat→Bool
 |[],_=>true
 |o::r,j=>match o.dst with
  |none=>n0 lk af r (j+1)
  |some e=>match eV lk e with
   |false=>n0 lk af r (j+1)
   |true=>match eV af j with
    |true=>n0 lk af r (j+1)
    |false=>false
def nq:List Nat→Nat→Bool
 |[],_=>true
 |a::l,i=>match Nat.blt a i with
  |true=>nq l i
  |false=>false
def Ku(L:List Oper):List Oper→List Oper→Nat→Bool
 |_,[],_=>true
 |ahead,o::r,i=>match o.dst with
  |none=>false
  |some d=>match Du L d ahead,eV (aI L o) d,n0 (aI L o) (fi o.after.toList) L 0,nq (fi o.after.toList) i with
   |true,false,true,true=>Ku L (o::ahead) r (i+1)
   |_,_,_,_=>false
theorem xl{d:Nat}:∀{l:List Oper},Du L d l=true→∀o∈l,o.dst≠some d∧d∉aI L o
 |[],_,o,ho=>by cases ho
 |a::l,h,o,ho=>by
  unfold Du at h
  split at h
  ·cases h
  ·rename_i e he
   split at h
   ·cases h
   ·rename_i ZD
    split at h
    ·cases h
    ·rename_i hm
     rcases ae.1 ho with rfl|ho
     ·refine⟨fun e'=>?_,fun hk=>by rw[cD.2 hk]at hm;cases hm⟩
      rw[he]at e';injection e' with e';subst e';simp at ZD
     ·exact xl h o ho
theorem iK{lk af:List Nat}:∀{l:List Oper} {j:Nat},n0 lk af l j=true→∀(k:Nat) (o:Oper) (e:Nat),l[k]? =some o→o.dst=some e→e∈lk→j+k∈af
 |[],j,_,k,o,e,ho,_,_=>by simp at ho
 |a::l,j,h,k,o,e,ho,he,hl=>by
  unfold n0 at h
  cases k with
  |zero=>
   simp at ho;subst ho
   rw[he]at h
   simp only[cD.2 hl]at h
   split at h
   ·rename_i hm;exact cD.1 hm
   ·cases h
  |succ k=>
   have key:n0 lk af l (j+1)=true:=by
    split at h
    ·exact h
    ·split at h
     ·exact h
     ·split at h
      ·exact h
      ·cases h
   have:=iK key k o e (by simpa using ho) he hl
   rwa [show j+(k+1)=j+1+k by omega]
theorem dz{i:Nat}:∀{l:List Nat},nq l i=true→∀a∈l,a < i
 |[],_,a,ha=>by cases ha
 |b::l,h,a,ha=>by
  unfold nq at h
  split at h
  ·rename_i hb
   rcases ae.1 ha with rfl|ha
   ·exact a6.mp hb
   ·exact dz h a ha
  ·cases h
theorem Cu{ahead l:List Oper}{o:Oper}{i:Nat}(h:Ku L ahead (o::l) i=true):
 ∃d,o.dst=some d∧Du L d ahead=true∧d∉aI L o∧n0 (aI L o) (fi o.after.toList) L 0=true∧nq (fi o.after.toList) i=true∧Ku L (o::ahead) l (i+1)=true:=by
 unfold Ku at h
 split at h
 ·cases h
 ·rename_i d hd
  split at h
  ·rename_i h1 h2 h3 h4
   exact⟨d,hd,h1,(fun hk=>by rw[cD.2 hk]at h2;cases h2),h3,h4,h⟩
  ·cases h
theorem pG:∀{l ahead:List Oper} {i:Nat},Ku L ahead l i=true→∀(k:Nat) (o:Oper),l[k]? =some o→
 (∃d,o.dst=some d)∧n0 (aI L o) (fi o.after.toList) L 0=true∧nq (fi o.after.toList) (i+k)=true
 |[],_,_,_,k,o,ho=>by simp at ho
 |a::l,ahead,i,h,k,o,ho=>by
  obtain⟨d,h1,_,_,h4,h5,h6⟩:=Cu h
  cases k with
  |zero=>simp at ho;subst ho;exact⟨⟨d,h1⟩,h4,h5⟩
  |succ k=>
   have:=pG h6 k o (by simpa using ho)
   rwa [show i+1+k=i+(k+1) by omega]at this
structure DS(C:Ctx)(n:Nat)(mm:MM)(L:List Oper)(cq:TM)(ahead l:List Oper)(i:Nat)(tm:TM):Prop where
 ok:∀o∈ahead,I4 C n mm L tm o
 keys:∀p∈tm,∀q∈tm,p.1=q.1→p=q
 base:∀p∈tm,p.1∉bP L→p∈cq
 I9:Ku L ahead l i=true
 whole:L=ahead.reverse++l
def DOps(C:Ctx)(n:Nat)(mm:MM)(L:List Oper)(cq:TM)(l:List Oper)(tm:TM)(T:TM→Prop):Prop:=
 ∀ahead i,DS C n mm L cq ahead l i tm→∃cN,T cN∧(∀o∈L,I4 C n mm L cN o)∧(∀p∈cN,p.1∉bP L→p∈cq)∧(∀p∈cN,∀q∈cN,p.1=q.1→p=q)
variable {cq tm:TM} {l:List Oper} {T:TM→Prop} {o:Oper} {d:Nat} {s:ST}
theorem DOps.nil(h:T tm):DOps C n mm L cq [] tm T:=fun ahead i hs=>
 ⟨tm,h,fun o ho=>hs.ok o (by have:=hs.whole;rw[et]at this;rw[this]at ho;simpa using ho),hs.base,hs.keys⟩
theorem mP{tm:TM}(h:∀p∈tm,∀q∈tm,p.1=q.1→p=q):∀p∈(d,s)::bo tm d,∀q∈(d,s)::bo tm d,p.1=q.1→p=q:=by
 intro p hp q hq he
 rcases ae.1 hp with rfl|hp<;>rcases ae.1 hq with rfl|hq
 ·rfl
 ·exact absurd he.symm (cj hq).2
 ·exact absurd he (cj hp).2
 ·exact h p (cj hp).1 q (cj hq).1 he
theorem eH{o:Oper}{d:Nat}:∀{l:List Oper},o∈l→o.dst=some d→d∈bP l
 |[],h,_=>by cases h
 |a::l,h,hd=>by
  unfold bP
  rcases ae.1 h with rfl|h
  ·rw[hd];exact ah
  ·split
   ·exact ab _ (eH h hd)
   ·exact eH h hd
theorem eI{d:Nat}:∀{l:List Oper},d∈bP l→∃(k:Nat) (o:Oper),l[k]? =some o∧o.dst=some d
 |[],h=>by simp[bP]at h
 |a::l,h=>by
  unfold bP at h
  split at h
  ·rename_i e he
   rcases ae.1 h with rfl|h
   ·exact⟨0,a,rfl,he⟩
   ·obtain⟨k,o,h1,h2⟩:=eI h
    exact⟨k+1,o,by simpa using h1,h2⟩
  ·obtain⟨k,o,h1,h2⟩:=eI h
   exact⟨k+1,o,by simpa using h1,h2⟩
theorem DS.next{ahead:List Oper}{i:Nat}(hs:DS C n mm L cq ahead (o::l) i tm)(hd:o.dst=some d)(b6:d∉aI L o→I4 C n mm L ((d,s)::bo tm d) o):
 DS C n mm L cq (o::ahead) l (i+1) ((d,s)::bo tm d):=by
 obtain⟨d',h1,h2,h3,h4,h5,h6⟩:=Cu hs.I9
 rw[hd]at h1;injection h1 with h1;subst h1
 have eA:o∈L:=by rw[hs.whole];simp
 refine⟨fun o' dv=>?_,mP hs.keys,fun p hp hn=>?_,h6,by rw[hs.whole];simp⟩
 ·rcases ae.1 dv with rfl|dv
  ·exact b6 h3
  ·obtain⟨k1,k2⟩:=xl h2 o' dv
   exact(hs.ok o' dv).grow k1 k2
 ·rcases ae.1 hp with rfl|hp
  ·exact absurd (eH eA hd) hn
  ·exact hs.base p (cj hp).1 hn
theorem DOps.step(hg:aY L (aX (aI L o) tm) o=some true)(h:M8 C n mm o (aX (aI L o) tm) d s)(k:DOps C n mm L cq l ((d,s)::bo tm d) T):
 DOps C n mm L cq (o::l) tm T:=fun ahead i hs=>k _ _ (hs.next h.1.1 (Kv hg h))
theorem DOps.skip(hg:aY L (aX (aI L o) tm) o=some false)(hd:o.dst=some d)(hn:Nat.blt d n=true)(k:DOps C n mm L cq l ((d,.fo [])::bo tm d) T):
 DOps C n mm L cq (o::l) tm T:=fun ahead i hs=>k _ _ (hs.next hd (Kw hg hd hn))
theorem DOps.split{t:Nat}{b:Bool}(eA:eV (bP L) t=true)(hm:(t,ST.v (.one (.c (.bool b))))∈tm)
 (h1:b=true→DOps C n mm L cq l ((t,ST.v (.one (.lit true)))::bo tm t) T)
 (h2:b=false→DOps C n mm L cq l ((t,ST.v (.one (.lit false)))::bo tm t) T):DOps C n mm L cq l tm T:=fun ahead i hs=>by
 have key:∀b',b=b'→DS C n mm L cq ahead l i ((t,ST.v (.one (.lit b')))::bo tm t):=by
  intro b' hb
  subst hb
  refine⟨fun o ho=>(hs.ok o ho).told fun s Jd=>?_,mP hs.keys,fun p hp hn=>?_,hs.I9,hs.whole⟩
  ·have:=hs.keys _ Jd _ hm J
   injection this
  ·rcases ae.1 hp with rfl|hp
   ·exact absurd (cD.1 eA) hn
   ·exact hs.base p (cj hp).1 hn
 cases b with
 |true=>exact h1 J _ _ (key true J)
 |false=>exact h2 J _ _ (key false J)
theorem Has.drawn{tm:TM}{a:Act}{w:World}(h:Has C n tm mm a w):Has C n tm mm a {w with drawn:=w.drawn+1}:=by
 obtain⟨H,Z,hm⟩:=h
 refine⟨H,Z,hm.build (fun _=>False) ⟨rfl,rfl,rfl,ay _,fun _ _ _=>rfl⟩ (fun _ _ h=>h.elim) hm.defers hm.size hm.hg hm.ids
  (fun p hp=>.inl ⟨hp,rfl,rfl,fun _ _ h=>h,fun j _ hj=>⟨hj,rfl,rfl⟩⟩) hm.sep (fun p hp=>.inl ⟨p,hp,rfl,rfl,fun j _ hj=>⟨hj,rfl,rfl⟩⟩)⟩
def mQ(L:List Oper)(listed:Array Bool)(tm:TM)(p:Nat×ST):Prop:=
 p∈tm∧(p.1∉bP L∨∃(k:Nat) (o:Oper),L[k]? =some o∧o.dst=some p.1∧listed.getD k false=true)
theorem count_set:∀{l:List Bool} {i:Nat},l[i]? =some false→((l.set i true).filter (!·)).length+1=(l.filter (!·)).length
 |[],i,h=>by simp at h
 |x::l,0,h=>by simp at h;subst h;simp
 |x::l,i+1,h=>by
  have:=count_set (l:=l) (i:=i) (by simpa using h)
  cases x<;>simp_all
theorem S7{cN:TM}(b6:Ku L [] L 0=true)(hF:∀o∈L,I4 C n mm L cN o)(AW:∀p∈cN,∀q∈cN,p.1=q.1→p=q)
 {P:TM→MM→Prop}(hP:P cN mm):
 ∀(fuel:Nat) (listed:Array Bool) (a:Act) (w:World) (tm:TM),listed.size=L.length→(listed.toList.filter (!·)).length≤fuel→(∀p,mQ L listed cN p→p∈tm)→Has C n tm mm a w→
  wpAny C.P .any L.toArray (QT C n P) fuel listed a w:=by
 have kJ:∀(listed:Array Bool),listed.size=L.length→Region.ready .any L.toArray listed=[]→∀k,k < L.length→listed.getD k false=true:=by
  intro listed cM hr k
  induction k using Nat.strongRecOn with
  |_ k ih=>
   intro hk
   cases hl:listed.getD k false with
   |true=>rfl
   |false=>
    have dX:k∈Region.ready .any L.toArray listed:=by
     rw[mem_ready]
     refine⟨?_,L[k],by simp[hk],fun e he hb=>?_⟩
     ·have Lx:k < listed.size:=by omega
      simp[Array.getD,Lx]at hl⊢;exact hl
     ·obtain⟨_,_,h3⟩:=pG b6 k L[k] (aa hk)
      have:e.on∈fi L[k].after.toList:=by
       have key:∀l:List Edge,e∈l→e.on∈fi l:=by
        intro l
        induction l with
        |nil=>intro h;cases h
        |cons x l ih=>
         intro h
         unfold fi
         rcases ae.1 h with rfl|h
         ·rw[hb];exact ah
         ·split
          ·exact ab _ (ih h)
          ·exact ih h
       exact key _ (by simpa using he)
      have bj:=dz h3 _ this
      exact ih e.on (by omega) (by omega)
    rw[hr]at dX;cases dX
 have oZ:∀(listed:Array Bool) (a:Act) (w:World) (tm:TM),listed.size=L.length→(∀p,mQ L listed cN p→p∈tm)→Has C n tm mm a w→Region.ready .any L.toArray listed=[]→QT C n P .normal a w:=by
  intro listed a w tm cM hk hh hr
  refine⟨cN,mm,hP,hh.kX fun p hp=>hk p ⟨hp,?_⟩⟩
  by_cases hd:p.1∈bP L
  ·obtain⟨k,o,h1,h2⟩:=eI hd
   exact .inr ⟨k,o,h1,h2,kJ listed cM hr k (ai.1 h1).1⟩
  ·exact .inl hd
 intro fuel
 induction fuel with
 |zero=>
  intro listed a w tm cM hc hk hh
  have hr:Region.ready .any L.toArray listed=[]:=by
   rw[cG]
   intro j hj
   obtain⟨h1,o,h2,_⟩:=mem_ready.1 hj
   have fg:j < listed.size:=by rw[cM];simpa using(bd.1 h2).1
   have:listed[j]=false:=by simpa[Array.getD,fg]using h1
   have hm:false∈listed.toList.filter (!·):=by
    rw[cn];exact⟨by rw[←this];simp,rfl⟩
   have:=dU hm
   omega
  exact⟨hr,oZ listed a w tm cM hk hh hr⟩
 |succ fuel ih=>
  intro listed a w tm cM hc hk hh
  refine⟨oZ listed a w tm cM hk hh,fun i hi=>?_⟩
  obtain⟨h1,o,h2,h3⟩:=mem_ready.1 hi
  have hL:L[i]? =some o:=by simpa using h2
  have sb:i < L.length:=(ai.1 hL).1
  have mT:i < listed.size:=by omega
  have iO:listed[i]=false:=by simpa[Array.getD,mT]using h1
  obtain⟨_,hw,_⟩:=pG b6 i o hL
  obtain⟨d,s,e1,e2,e3⟩:=hF o (aj hL)
  have qt:∀j,j∈fi o.after.toList→listed.getD j false=true:=by
   have key:∀l:List Edge,(∀e∈l,e∈o.after)→∀j,j∈fi l→listed.getD j false=true:=by
    intro l
    induction l with
    |nil=>intro _ j h;simp[fi]at h
    |cons x l ih=>
     intro hl j h
     unfold fi at h
     split at h
     ·rename_i hb
      rcases ae.1 h with rfl|h
      ·exact h3 x (hl x ah) hb
      ·exact ih (fun e he=>hl e (ab _ he)) j h
     ·exact ih (fun e he=>hl e (ab _ he)) j h
   exact key _ (fun e he=>by simpa using he)
  have dn:∀p∈cN,p.1∈aI L o→p∈tm:=by
   intro p hp hl
   refine hk p ⟨hp,?_⟩
   by_cases hd:p.1∈bP L
   ·obtain⟨k,o',k1,k2⟩:=eI hd
    have:=iK hw k o' p.1 k1 k2 hl
    exact .inr ⟨k,o',k1,k2,qt k (by simpa using this)⟩
   ·exact .inl hd
  have gp:((listed.setIfInBounds i true).toList.filter (!·)).length≤fuel:=by
   have h5:((listed.setIfInBounds i true).toList.filter (!·)).length+1=(listed.toList.filter (!·)).length:=by
    rw[show(listed.setIfInBounds i true).toList=listed.toList.set i true by simp]
    exact count_set (by simp[mT,iO])
   omega
  have Lr:∀a' w',Has C n ((d,s)::bo tm d) mm a' w'→wpAny C.P .any L.toArray (QT C n P) fuel (listed.setIfInBounds i true) a' w':=by
   intro a' w' h'
   refine ih (listed.setIfInBounds i true) a' w' _ (by simpa using cM) gp (fun p hp=>?_) h'
   obtain⟨g1,g2⟩:=hp
   by_cases tk:p.1=d
   ·have:p=(d,s):=by
     exact AW p g1 (d,s) e2 tk
    rw[this];exact ah
   ·refine ab _ (b9 (hk p ⟨g1,?_⟩) tk)
    rcases g2 with g2|⟨k,o',k1,k2,k3⟩
    ·exact .inl g2
    ·refine .inr ⟨k,o',k1,k2,?_⟩
     have sB:i≠k:=by
      intro e;subst e
      rw[hL]at k1;injection k1 with k1;subst k1
      rw[e1]at k2;injection k2 with k2;exact tk k2.symm
     rwa [getD_set_ne false sB]at k3
  unfold wpOp
  simp only[b8,hL]
  have h6:=e3 tm dn a w (wpAny C.P .any L.toArray (QT C n P) fuel (listed.setIfInBounds i true)) (QT C n P) hh Lr
  split
  ·rename_i Fe;rw[if_pos Fe]at h6;exact .inl h6
  ·rename_i Fe;rw[if_neg Fe]at h6;exact h6
def rD:List Nat→TM→Bool
 |_,[]=>true
 |ds,(t,_)::r=>match eV ds t with
  |true=>false
  |false=>rD (t::ds) r
theorem jW:∀{l:TM} {ds:List Nat},rD ds l=true→(∀p∈l,p.1∉ds)∧∀p∈l,∀q∈l,p.1=q.1→p=q
 |[],ds,_=>⟨fun p hp=>(by cases hp),fun p hp=>(by cases hp)⟩
 |(t,s)::r,ds,h=>by
  unfold rD at h
  split at h
  ·cases h
  ·rename_i hm
   obtain⟨h1,h2⟩:=jW h
   have ht:t∉ds:=fun hk=>by rw[cD.2 hk]at hm;cases hm
   refine⟨fun p hp=>?_,fun p hp q hq he=>?_⟩
   ·rcases ae.1 hp with rfl|hp
    ·exact ht
    ·exact fun hk=>h1 p hp (ab _ hk)
   ·rcases ae.1 hp with rfl|hp<;>rcases ae.1 hq with rfl|hq
    ·rfl
    ·exact absurd (ae.2 (.inl he.symm)) (h1 q hq)
    ·exact absurd (ae.2 (.inl he)) (h1 p hp)
    ·exact h2 p hp q hq he
theorem SA{f:FuncId}{R:Ending→World→Prop}{k:List Item}{id:Nat}(mq:C.P.follows .mixedOrders=true)(b6:Ku L [] L 0=true)(hu:rD (bP L) cq=true)
 (h:DOps C n mm L cq L cq (fun tm'=>Goes C f n R k tm' mm)):Goes C f n R (.code (.region id L.toArray true)::k) cq mm:=by
 obtain⟨u1,u2⟩:=jW hu
 obtain⟨cN,hg,hF,xe,ly⟩:=h [] 0 ⟨fun o ho=>(by cases ho),u2,fun p hp _=>hp,b6,rfl⟩
 intro a w hh b cs hb hk
 have o3:=S7 (P:=fun tm' mm'=>Goes C f n R k tm' mm') b6 hF ly hg L.length (Array.replicate L.length false) a {w with drawn:=w.drawn+1} cq (by simp)
  (by rw[show(Array.replicate L.length false).toList=List.replicate L.length false by simp];exact dB (cR _ _) (by simp))
  (fun p hp=>by
    obtain⟨g1,g2|⟨k,o,k1,k2,k3⟩⟩:=hp
    ·exact xe p g1 g2
    ·have j7:=(ai.1 k1).1
     simp[Array.getD,j7]at k3) hh.drawn
 have K9:=wp_region_any (id:=id) (Q:=QT C n (fun tm' mm'=>Goes C f n R k tm' mm')) (ops:=L.toArray) (a:=a) (w:=w) mq (by simpa using o3)
 obtain⟨e,a',w',hq,qi⟩:=K9 b k cs
 cases e with
 |normal=>
  obtain⟨tm',mm',hg,IC⟩:=hq
  obtain⟨e,yc,fr,g1,g2,g3⟩:=hg a' w' IC b cs hb hk
  exact⟨e,yc,fr,g1,Comes.of_steps qi g2,g3⟩
 |_=>exact hq.elim
def TG(Θ:da)(n:Nat)(mm:MM)(L:List Oper):List Oper→TM→Out
 |[],tm=>.stop [] tm mm
 |o::r,tm=>match aY L (aX (aI L o) tm) o with
  |some true=>match o.dst,vE Θ (aX (aI L o) tm) mm o.op with
   |some d,some st=>match oC n d st tm with
    |some tm'=>TG Θ n mm L r tm'
    |none=>.stop (o::r) tm mm
   |_,_=>.stop (o::r) tm mm
  |some false=>match o.dst with
   |some d=>match oC n d (.fo []) tm with
    |some tm'=>TG Θ n mm L r tm'
    |none=>.stop (o::r) tm mm
   |none=>.stop (o::r) tm mm
  |none=>.stop (o::r) tm mm
theorem tr{Θ:da}(bt:a8 C.P Θ):∀{l:List Oper} {tm:TM} {l':List Oper} {tm':TM} {mm':MM},
 TG Θ n mm L l tm=.stop l' tm' mm'→DOps C n mm L cq l' tm' T→DOps C n mm L cq l tm T
 |[],tm,l',tm',mm',h,k=>by
  simp only[TG,Out.stop.injEq]at h
  obtain⟨rfl,rfl,_⟩:=h
  exact k
 |o::r,tm,l',tm',mm',h,k=>by
  have same:Out.stop (o::r) tm mm=.stop l' tm' mm'→DOps C n mm L cq (o::r) tm T:=by
   intro e
   injection e with e1 e2 e3
   subst e1 e2
   exact k
  unfold TG at h
  split at h
  ·rename_i hg
   split at h
   ·rename_i d st hd hv
    split at h
    ·rename_i En hs
     obtain⟨hn,rfl⟩:=gm hs
     exact DOps.step hg (jU bt hv hd hn).Em (tr bt h k)
    ·exact same h
   ·exact same h
  ·rename_i hg
   split at h
   ·rename_i d hd
    split at h
    ·rename_i En hs
     obtain⟨hn,rfl⟩:=gm hs
     exact DOps.skip hg hd hn (tr bt h k)
    ·exact same h
   ·exact same h
  ·exact same h
def T0(Θ:da)(n:Nat)(mm:MM)(L:List Oper)(l:List Oper)(tm:TM):Option Out:=
 match AM tm with
 |some tm'=>match TG Θ n mm L l tm' with
  |.stop a b c=>some (.stop a b c)
  |.bad=>none
 |none=>none
theorem dP{Θ:da}(bt:a8 C.P Θ){l':List Oper}{tm':TM}{mm':MM}
 (h:T0 Θ n mm L l tm=some (.stop l' tm' mm'))(k:DOps C n mm L cq l' tm' T):DOps C n mm L cq l tm T:=by
 unfold T0 at h
 split at h
 ·rename_i En h1
  rw[←pK h1]
  split at h
  ·rename_i a b c h3
   injection h with h
   injection h with e1 e2 e3
   subst e1 e2 e3
   exact tr bt h3 k
  ·cases h
 ·cases h
variable {t:Nat}
theorem Pp{b:Bool}(hn:KD L o=some t)(ht:jD tm t=some (.v (.one (.c (.bool b)))))(eA:eV (bP L) t=true)
 (h1:b=true→DOps C n mm L cq (o::l) ((t,.v (.one (.lit true)))::bo tm t) T)
 (h2:b=false→DOps C n mm L cq (o::l) ((t,.v (.one (.lit false)))::bo tm t) T):DOps C n mm L cq (o::l) tm T:=
 have _:=hn
 DOps.split eA (gX ht) h1 h2
theorem mv{st:ST}(h:ea C n o (aX (aI L o) tm) mm d st)(hg:aY L (aX (aI L o) tm) o=some true)(k:DOps C n mm L cq l ((d,st)::bo tm d) T):
 DOps C n mm L cq (o::l) tm T:=DOps.step hg h.Em k
variable {x y:Operand} {ty rk:TypeId}
theorem FN{a b:Int}(ho:o.op=.binOp .sub ty x y rk)(hx:aQ (aX (aI L o) tm) x=some (.c (.int .i64 a)))(hy:aQ (aX (aI L o) tm) y=some (.c (.int .i64 b)))(hd:o.dst=some d)(hn:Nat.blt d n=true)(hg:aY L (aX (aI L o) tm) o=some true)
 (hr:-9223372036854775808≤a - b∧a - b≤9223372036854775807)(k:DOps C n mm L cq l ((d,.v (.one (.c (.int .i64 (a - b)))))::bo tm d) T):DOps C n mm L cq (o::l) tm T:=
 mv (iE (p:=.sub) ho hx hy (IntWalk.i64_in _ (by omega)) hd hn) hg k
theorem Vb{kd:IntKind}{a b:Int}(ho:o.op=.binOp .rem ty x y rk)(hx:aQ (aX (aI L o) tm) x=some (.c (.int kd a)))(hy:aQ (aX (aI L o) tm) y=some (.c (.int kd b)))(hd:o.dst=some d)(hn:Nat.blt d n=true)(hg:aY L (aX (aI L o) tm) o=some true)
 (hr:b≠0)(k:DOps C n mm L cq l ((d,.v (.one (.c (.int kd (a.tmod b)))))::bo tm d) T):DOps C n mm L cq (o::l) tm T:=
 mv (iE (p:=.rem) ho hx hy ⟨hr,rfl⟩ hd hn) hg k
theorem qx{Θ:da}(bt:a8 C.P Θ){nn:Bool}{sz:Nat}{xs:List (List CT)}{kd:IntKind}{m:Int}{e:Nat}{z cz:Nat}{ag:Bool}{zr:Option (List CT)}{ei:fN}
 (ho:o.op=.indexAddr ty x y)(ht:aP Θ ty=some ⟨z,cz,ag,zr,.slice e⟩)(dO:aP Θ e=some ei)(hx:aQ (aX (aI L o) tm) x=some (.c (.slice nn sz xs)))(cM:Nat.beq ei.size sz=true)
 (hi:aQ (aX (aI L o) tm) y=some (.c (.int kd m)))(hd:o.dst=some d)(hn:Nat.blt d n=true)(hg:aY L (aX (aI L o) tm) o=some true)
 (j:Nat)(cs:List CT)(hm:m=(j:Int))(hj:xs[j]? =some cs)(k:DOps C n mm L cq l ((d,.v (.one (.iw cs)))::bo tm d) T):DOps C n mm L cq (o::l) tm T:=
 mv (wk bt ho ht dO cM hx hi hm hj hd hn) hg k
theorem mw{g:FuncId}{pre post:List (List CT)}{args args':List SV}{res:ST}(hc:er C.P g pre args res post)(ids:List Nat){xs:Array Operand}{ts:Array TypeId}
 (ho:o.op=.call {callee:=.value (.func g),args:=xs,argTypes:=ts})(cE:dr (aX (aI L o) tm) xs.toList=some args')(kI:kq ids args=some args')(dn:sZ mm ids=some pre)
 (mB:lq ids=true)(hlen:post.length=pre.length)(fZ:jt res=true)(hd:o.dst=some d)(hn:Nat.blt d n=true)(hg:aY L (aX (aI L o) tm) o=some true)(oc:kn mm ids post=mm)
 (k:DOps C n mm L cq l ((d,res)::bo tm d) T):DOps C n mm L cq (o::l) tm T:=
 DOps.step hg (Cq hc ids ho cE kI dn mB hlen fZ hd hn oc) k
end
end Go.Sy
