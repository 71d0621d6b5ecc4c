/- Contracts of the reference, bundle Bu1. -/
import Derived.Test.YtdjocfajcbhmgaaGreatDoorSy8
set_option linter.unusedSimpArgs false
set_option linter.unusedVariables false
set_option linter.unusedSectionVars false
namespace Go.Sy
open Go.RowKit
section
variable {C:Ctx} {n:Nat} {tm:TM} {mm:MM} {o:Oper} {d:Nat} {x y:Operand} {ty sI:TypeId}
end
theorem zW{α:Type}[DecidableEq α]{rep:α→Value}{kind:TypeDesc}(uB:∀a b,Instr.sameNow kind (rep a) (rep b)=some (decide (a=b)))(a:α):
 ∀(es:List MapEntry) (m:List α) (i:Nat),es.map (·.key)=m.map rep→
  Instr.findNow kind (rep a) es i=some ((m.findIdx? (fun b=>decide (a=b))).bind fun j=>(es[j]?).map fun x=>(j+i,x.val))
 |[],m,i,h=>by cases m<;>simp at h;simp[Instr.findNow]
 |x::es,[],i,h=>by simp at h
 |x::es,b::m,i,h=>by
  simp only[bF,vU]at h
  obtain⟨h1,h2⟩:=h
  rw[Instr.findNow,h1,uB]
  by_cases vN:a=b
  ·subst vN;simp[kV]
  ·have:=zW uB a es m (i+1) h2
   simp only[vN,decide_false,this,kV,dS,if_false]
   cases m.findIdx? fun b=>decide (a=b)with
   |none=>simp
   |some j=>
    have:j+(i+1)=j+1+i:=by omega
    simp[this]
theorem Ak{P:Program}{k:TypeId}{ik:gD}{HP:TypeInfo}{kind:TypeDesc}{α:Type}[DecidableEq α]{rep:α→Value}(hk:C3 P k ik HP kind)
 (uB:∀a b,Instr.sameNow kind (rep a) (rep b)=some (decide (a=b)))(TQ:∀em a w,(Instr.checkKey em 10000 k (rep a)).run P w=.ok () w)(Q6:∀a,Instr.sameBits 10000 (rep a) (rep a)=true):C5 P k rep:=by
 refine⟨TQ,fun a es m w hm=>?_,Q6⟩
 unfold Instr.findKey
 simp only[Sem.run_bind,run_underlying hk.Dd,Result.andThen_ok]
 rw[zW uB a es m 0 hm]
 simp
theorem Jf(a b:ByteArray):(a==b)=decide (a=b):=by
 obtain⟨x⟩:=a
 obtain⟨y⟩:=b
 have:(ByteArray.mk x==ByteArray.mk y)=(x==y):=rfl
 rw[this]
 by_cases h:x=y
 ·subst h;simp
 ·simp[h]
abbrev KO(a:Int):Value:=.int .i64 a
abbrev JM(s:ByteArray):Value:=.string s
abbrev ux(a:Int):FV:=.one (.int .i64 a)
abbrev Ep(s:ByteArray):FV:=.one (.str s)
theorem HN{P:Program}{k:TypeId}{ik:gD}{HP:TypeInfo}(hk:C3 P k ik HP (.int .i64)):C5 P k KO:=by
 refine Ak hk (fun a b=>by simp[Instr.sameNow];rfl) (fun em a w=>?_) (fun a=>by simp[Instr.sameBits])
 rw[show(10000:Nat)=9999+1 from rfl,Instr.checkKey]
 simp[Sem.run_bind,run_underlying hk.Dd]
theorem Gn{P:Program}{k:TypeId}{ik:gD}{HP:TypeInfo}(hk:C3 P k ik HP .string):C5 P k JM:=by
 refine Ak hk (fun a b=>?_) (fun em a w=>?_) (fun a=>by simp[Instr.sameBits,Jf])
 ·show some (a==b)=some (decide (a=b))
  rw[Jf]
 rw[show(10000:Nat)=9999+1 from rfl,Instr.checkKey]
 simp[Sem.run_bind,run_underlying hk.Dd]
theorem An(w:World)(M:Nat→Prop)(v:Value)(a:Int):qR w M v (ux a)↔v=KO a:=⟨fun h=>a7.cH h,fun h=>by subst h;exact a7.int _ _⟩
theorem y9(w:World)(M:Nat→Prop)(v:Value)(a:ByteArray):qR w M v (Ep a)↔v=JM a:=⟨fun h=>a7.fo h,fun h=>by subst h;exact a7.str _⟩
theorem Df{P:Program}{Θ:dD}(bI:bz P Θ){t:Nat}{z dG:Nat}{ag:Bool}{zt:Option (List CT)}(h:aZ Θ t=some ⟨z,dG,ag,zt,.int .i64⟩):C5 P t KO:=by
 obtain⟨inf,de,hf⟩:=jH bI h
 have h1:de=.int .i64:=by
  have:=hf.sh
  cases de<;>simp[eR]at this⊢
  exact this
 subst h1
 exact HN hf
theorem De{P:Program}{Θ:dD}(bI:bz P Θ){t:Nat}{z dG:Nat}{ag:Bool}{zt:Option (List CT)}(h:aZ Θ t=some ⟨z,dG,ag,zt,.string⟩):C5 P t JM:=by
 obtain⟨inf,de,hf⟩:=jH bI h
 have h1:de=.string:=by
  have:=hf.sh
  cases de<;>simp[eR]at this⊢
 subst h1
 exact Gn hf
section
variable {C:Ctx} {n:Nat} {tm:TM} {mm:MM} {o:Oper} {d:Nat} {α:Type} [DecidableEq α]
end
section
variable {C:Ctx} {n:Nat} {tm:TM} {mm:MM} {o:Oper} {d:Nat} {x y:Operand}
theorem Al{a:Int}(I:Nat→Prop)(H:Nat→Value)(Z:Nat→Nat)(w:World)(M:Nat→Prop)(v:Value)(h:cF I H Z w M v (.one (.c (.int .i64 a)))):v=KO a:=a7.cH h
theorem y8{a:ByteArray}(I:Nat→Prop)(H:Nat→Value)(Z:Nat→Nat)(w:World)(M:Nat→Prop)(v:Value)(h:cF I H Z w M v (.one (.c (.str a)))):v=JM a:=a7.fo h
theorem zL{Θ:dD}(bI:bz C.P Θ){t k e:TypeId}{z dG zk bk:Nat}{ag Ji:Bool}{zt F6:Option (List CT)}{ei:gD}{zc:CT}{i:Nat}{m:List (Int×CT)}{a0:Int}
 (ho:o.op=.lookup t x y false)(ht:aZ Θ t=some ⟨z,dG,ag,zt,.map k e⟩)(hk:aZ Θ k=some ⟨zk,bk,Ji,F6,.int .i64⟩)(fm:aZ Θ e=some ei)(hz:ei.zero=some [zc])(KX:ei.agg=false)
 (hx:aW tm x=some (.mp i))(hi:getM mm i=some (.lo (gI ux m)))(hy:dM tm y=some (.one (.c (.int .i64 a0))))(hd:o.dst=some d)(hn:Nat.blt d n=true):eO C n o tm mm d (.v (.one (.c (iU m a0 zc)))):=
 wM bI ho ht fm hz KX (Df bI hk) (fun w M v a h=>(An w M v a).1 h) hx hi hy Al hd hn
end
section
variable {C:Ctx} {n:Nat} {tm:TM} {mm:MM} {L l:List Oper} {T:TM→MM→Prop} {o:Oper} {d:Nat} {x y vx:Operand}
theorem BE{Θ:dD}(bI:bz C.P Θ){t k e:TypeId}{z dG zk bk:Nat}{ag Ji:Bool}{zt F6:Option (List CT)}{c:CT}{i:Nat}{m:List (Int×CT)}{a0:Int}
 (ho:o.op=.mapUpdate t x y vx∨o.op=.insert t x y vx)(ht:aZ Θ t=some ⟨z,dG,ag,zt,.map k e⟩)(hk:aZ Θ k=some ⟨zk,bk,Ji,F6,.int .i64⟩)
 (hx:aW tm x=some (.mp i))(hi:getM mm i=some (.lo (gI ux m)))(hy:dM tm y=some (.one (.c (.int .i64 a0))))(Qa:o6 tm vx=some (.one (.c c)))(hd:o.dst=none)(hg:bp L tm o=some true)
 (g:SOps C n L.toArray l tm (cK mm i (.lo (gI ux (mx m a0 c)))) T):SOps C n L.toArray (o::l) tm mm T:=
 dO (qi (n:=n) bI ho ht (Df bI hk) An hx hi hy Al Qa hd).wp hg g
theorem Gx{Θ:dD}(bI:bz C.P Θ){t k e:TypeId}{z dG zk bk:Nat}{ag Ji:Bool}{zt F6:Option (List CT)}{c:CT}{i:Nat}{m:List (ByteArray×CT)}{a0:ByteArray}
 (ho:o.op=.mapUpdate t x y vx∨o.op=.insert t x y vx)(ht:aZ Θ t=some ⟨z,dG,ag,zt,.map k e⟩)(hk:aZ Θ k=some ⟨zk,bk,Ji,F6,.string⟩)
 (hx:aW tm x=some (.mp i))(hi:getM mm i=some (.lo (gI Ep m)))(hy:dM tm y=some (.one (.c (.str a0))))(Qa:o6 tm vx=some (.one (.c c)))(hd:o.dst=none)(hg:bp L tm o=some true)
 (g:SOps C n L.toArray l tm (cK mm i (.lo (gI Ep (mx m a0 c)))) T):SOps C n L.toArray (o::l) tm mm T:=
 dO (qi (n:=n) bI ho ht (De bI hk) y9 hx hi hy y8 Qa hd).wp hg g
end
section
variable {C:Ctx} {n:Nat} {tm:TM} {mm:MM} {o:Oper} {d:Nat} {x:Operand}
end
section
variable {C:Ctx} {n:Nat} {tm:TM} {mm:MM} {o:Oper} {x y:Operand}
end
section
variable {C:Ctx} {n:Nat} {tm:TM} {mm:MM} {L l:List Oper} {T:TM→MM→Prop} {o:Oper} {d:Nat} {x y:Operand} {ty sI:TypeId}
theorem PK{a b:ByteArray}(ho:o.op=.binOp .add ty x y sI)(hx:aW tm x=some (.c (.str a)))(hy:aW tm y=some (.c (.str b)))(hd:o.dst=some d)(hn:Nat.blt d n=true)(hg:bp L tm o=some true)
 (hr:a.size+b.size≤9223372036854775807)(k:SOps C n L.toArray l ((d,.v (.one (.c (.str (a++b)))))::bw tm d) mm T):SOps C n L.toArray (o::l) tm mm T:=
 dO (Kk ho hx hy hr hd hn).wp hg k
end
section
variable {C:Ctx} {n:Nat} {tm cp:TM} {mm:MM} {L l:List Oper} {T:TM→Prop} {o:Oper} {d:Nat} {x y:Operand} {ty sI:TypeId}
end
section
variable {α:Type} [DecidableEq α]
def vD:Nat→List α→List (α×CT)
 |_,[]=>[]
 |k,a::l=>(a,.int .i64 (k:Int))::vD (k+1) l
def px(l:List α):List (α×CT):=vD 0 l
theorem Hs(l:List α)(a:α):∀k,vD k (l++[a])=vD k l++[(a,.int .i64 ((k+l.length:Nat):Int))]:=by
 induction l with
 |nil=>intro k;simp[vD]
 |cons b l ih=>
  intro k
  simp only[cX,vD,ih,dT]
  rw[show k+1+l.length=k+(l.length+1) by omega]
theorem wO(a:α)(l:List α):∀k,(vD k l).find? (fun q=>decide (a=q.1))=if a∈l then some (a,.int .i64 ((k+l.idxOf a:Nat):Int))else none:=by
 induction l with
 |nil=>intro k;simp[vD]
 |cons b l ih=>
  intro k
  by_cases h:a=b
  ·subst h;simp[vD]
  ·have hb:(b==a)=false:=by simpa using fun e:b=a=>h e.symm
   rw[vD,List.find?_cons]
   simp only[h,decide_false,ih,ae,false_or,List.idxOf_cons,hb,cond_false]
   split
   ·rw[show k+1+l.idxOf a=k+(l.idxOf a+1) by omega]
   ·rfl
def Nk(l:List α)(a:α):Nat:=if a∈l then l.idxOf a else 0
theorem Hr(l:List α)(a:α):iU (px l) a (.int .i64 0)=.int .i64 ((Nk l a:Nat):Int):=by
 unfold iU px
 rw[wO,Nk]
 by_cases h:a∈l<;>simp[h]
theorem Ko{l:List α}{a:α}(h:a∉l):mx (px l) a (.int .i64 (l.length:Int))=px (l++[a]):=by
 have hn:(px l).findIdx? (fun q=>decide (a=q.1))=none:=by
  have:=wO a l 0
  rw[if_neg h]at this
  rw[bL]
  intro q hq
  have:=iD.1 this q hq
  simpa using this
 unfold mx
 rw[hn]
 simp only
 rw[px,px,Hs,fA]
end
section
variable {C:Ctx} {n:Nat} {tm:TM} {mm:MM} {L l:List Oper} {T:TM→MM→Prop} {o:Oper} {d:Nat} {x y:Operand}
theorem JV{Θ:dD}(bI:bz C.P Θ){t k e:TypeId}{z dG zk bk:Nat}{ag Ji:Bool}{zt F6:Option (List CT)}{ei:gD}{zc:CT}{i:Nat}{m:List (Int×CT)}{a0:Int}
 (ho:o.op=.lookup t x y false)(ht:aZ Θ t=some ⟨z,dG,ag,zt,.map k e⟩)(hk:aZ Θ k=some ⟨zk,bk,Ji,F6,.int .i64⟩)(fm:aZ Θ e=some ei)(hz:ei.zero=some [zc])(KX:ei.agg=false)
 (hx:aW tm x=some (.mp i))(hi:getM mm i=some (.lo (gI ux m)))(hy:dM tm y=some (.one (.c (.int .i64 a0))))(hd:o.dst=some d)(hn:Nat.blt d n=true)(hg:bp L tm o=some true)
 (g:SOps C n L.toArray l ((d,.v (.one (.c (iU m a0 zc))))::bw tm d) mm T):SOps C n L.toArray (o::l) tm mm T:=
 dO (zL bI ho ht hk fm hz KX hx hi hy hd hn).wp hg g
theorem xJ{Θ:dD}(bI:bz C.P Θ){t k e:TypeId}{z dG zk bk:Nat}{ag Ji:Bool}{zt F6:Option (List CT)}{ei:gD}{zc:CT}{i:Nat}{m:List (ByteArray×CT)}{a0:ByteArray}
 (ho:o.op=.lookup t x y false)(ht:aZ Θ t=some ⟨z,dG,ag,zt,.map k e⟩)(hk:aZ Θ k=some ⟨zk,bk,Ji,F6,.string⟩)(fm:aZ Θ e=some ei)(hz:ei.zero=some [zc])(KX:ei.agg=false)
 (hx:aW tm x=some (.mp i))(hi:getM mm i=some (.lo (gI Ep m)))(hy:dM tm y=some (.one (.c (.str a0))))(hd:o.dst=some d)(hn:Nat.blt d n=true)(hg:bp L tm o=some true)
 (g:SOps C n L.toArray l ((d,.v (.one (.c (iU m a0 zc))))::bw tm d) mm T):SOps C n L.toArray (o::l) tm mm T:=
 dO (wM bI ho ht fm hz KX (De bI hk) (fun w M v a h=>(y9 w M v a).1 h) hx hi hy y8 hd hn).wp hg g
end
section
variable {α:Type} [DecidableEq α]
abbrev ph(l:List α):List (α×CT):=l.map fun a=>(a,CT.bool true)
theorem Eu{l:List α}{a:α}:(ph l).find? (fun q=>decide (a=q.1))=if a∈l then some (a,.bool true)else none:=by
 induction l with
 |nil=>simp
 |cons b l ih=>
  simp only[ph,bF,List.find?_cons]
  by_cases h:a=b
  ·subst h;simp
  ·simp only[h,decide_false,ae,false_or];exact ih
theorem wk(l:List α)(a:α):iU (ph l) a (.bool false)=.bool (decide (a∈l)):=by
 unfold iU
 rw[Eu]
 by_cases h:a∈l<;>simp[h]
theorem zf{l:List α}{a:α}(h:a∉l):mx (ph l) a (.bool true)=ph (l++[a]):=by
 have hn:(ph l).findIdx? (fun q=>decide (a=q.1))=none:=by
  rw[bL]
  intro q hq
  obtain⟨b,hb,rfl⟩:=aE.1 hq
  simp only[decide_eq_false_iff_not]
  rintro rfl;exact h hb
 unfold mx
 rw[hn]
 simp
end
end Go.Sy
namespace Go.Sy
open Go.RowKit
set_option maxRecDepth 100000
attribute [local irreducible] SOps Goes DOps EOps
def oR{α:Type}[DecidableEq α](l:List α)(a:α):Bool:=decide (a∈l)
section
variable {C:Ctx} {n:Nat} {tm:TM} {mm:MM} {L l:List Oper} {T:TM→MM→Prop} {o:Oper} {d:Nat} {x y vx:Operand}
end
end Go.Sy
namespace Go.Sy
open Go.RowKit
def KA(es:List (FV×FV))(ct:CT):MM:=[(given,.box [.mp (given+2)]),(given+1,.box [.c ct]),(given+2,.lo es)]
structure ConS(P:Program)(f:FuncId)(es:List (FV×FV))(ct:CT)(args:List SV)(res:ST):Prop where
 ok:kQ P f
 calls:∀(w:World) (M0:Nat→Prop) (H:Nat→Value) (Z:Nat→Nat) (vs:List Value),te w M0 H Z (KA es ct)→
  Pw (fun v s=>cF (cD (KA es ct)) H Z w (fun b=>M0 b∨bP H (KA es ct) b) v s) vs args→
  Calls P f vs.toArray w fun e w'=>∃v,e=.returned v∧Ext (bP H (KA es ct)) w w'∧
   (∃H' Z',H' given=H given∧H' (given+1)=H (given+1)∧H' (given+2)=H (given+2)∧∀p∈KA es ct,eb (cD (KA es ct)) H' Z' w' (fun b=>M0 b∨bP H (KA es ct) b) p.1 p.2)∧
   fy (cD (KA es ct)) H Z w' (fun b=>M0 b∨bP H (KA es ct) b) v res
section
variable {C:Ctx} {n:Nat} {tm:TM} {mm:MM} {o:Oper} {d:Nat}
end
end Go.Sy
namespace Go.Sy
open Go.RowKit
def re:List Oper→Option (List Oper×Oper)
 |[]=>none
 |[z]=>some ([],z)
 |o::r=>match re r with
  |some (l,z)=>some (o::l,z)
  |none=>none
theorem wh:∀{L L':List Oper} {z:Oper},re L=some (L',z)→L=L'++[z]
 |[],_,_,h=>by simp[re]at h
 |[o],_,_,h=>by simp[re]at h;obtain⟨rfl,rfl⟩:=h;rfl
 |o::p::r,L',z,h=>by
  simp only[re]at h
  split at h
  ·rename_i l z' hs
   simp only[ej,Prod.mk.injEq]at h
   obtain⟨rfl,rfl⟩:=h
   rw[wh hs];rfl
  ·cases h
def oC(n:Nat):List Oper→Bool
 |[]=>true
 |o::r=>match o.guard with
  |none=>oC n r
  |some (j,_)=>match Nat.blt j n with
   |true=>oC n r
   |false=>false
theorem km{n:Nat}:∀{l:List Oper},oC n l=true→∀o∈l,∀j b,o.guard=some (j,b)→j < n
 |[],_,_,ho,_,_,_=>by cases ho
 |o::r,h,o',ho,j,b,hg=>by
  unfold oC at h
  rcases ae.1 ho with rfl|ho
  ·rw[hg]at h
   simp only at h
   split at h
   ·rename_i hb;exact aY.mp hb
   ·cases h
  ·split at h
   ·exact km h o' ho j b hg
   ·split at h
    ·exact km h o' ho j b hg
    ·cases h
theorem oi{e:Go.Edge}:∀{l:List Go.Edge},e∈l→Region.binds .any e=true→e.on∈fz l
 |x::l,h,hb=>by
  unfold fz
  rcases ae.1 h with rfl|h
  ·rw[hb];exact ah
  ·split
   ·exact ab _ (oi h hb)
   ·exact oi h hb
theorem pw{j:Nat}:∀{l:List Go.Edge},j∈fz l→∃e∈l,Region.binds .any e=true∧e.on=j
 |[],h=>by simp[fz]at h
 |x::l,h=>by
  unfold fz at h
  split at h
  ·rename_i hb
   rcases ae.1 h with rfl|h
   ·exact⟨x,ah,hb,rfl⟩
   ·obtain⟨e,h1,h2⟩:=pw h
    exact⟨e,ab _ h1,h2⟩
  ·obtain⟨e,h1,h2⟩:=pw h
   exact⟨e,ab _ h1,h2⟩
def LP(k:Nat):List Oper→Bool
 |[]=>false
 |o::r=>match fw (fz o.after.toList) k with
  |true=>true
  |false=>LP k r
def uT(L:List Oper)(af:List Nat):Nat→Bool
 |0=>true
 |k+1=>match fw af k with
  |true=>uT L af k
  |false=>match LP k L with
   |true=>uT L af k
   |false=>false
theorem xw{k:Nat}:∀{L:List Oper},LP k L=true→∃o∈L,k∈fz o.after.toList
 |[],h=>by cases h
 |o::r,h=>by
  unfold LP at h
  split at h
  ·rename_i hm;exact⟨o,ah,cz.1 hm⟩
  ·obtain⟨o',ho,hk⟩:=xw h
   exact⟨o',ab _ ho,hk⟩
theorem pG{L:List Oper}{af:List Nat}:∀{n:Nat},uT L af n=true→∀k,k < n→k∈af∨∃o∈L,k∈fz o.after.toList
 |n+1,h,k,hk=>by
  unfold uT at h
  have H4:∀m,uT L af n=true→m < n→m∈af∨∃o∈L,m∈fz o.after.toList:=fun m hh hm=>pG hh m hm
  split at h
  ·rename_i hm
   rcases cn k n with h1|h1
   ·exact H4 k h h1
   ·have:k=n:=by omega
    subst this;exact .inl (cz.1 hm)
  ·split at h
   ·rename_i hm
    rcases cn k n with h1|h1
    ·exact H4 k h h1
    ·have:k=n:=by omega
     subst this;exact .inr (xw hm)
   ·cases h
section
variable {C:Ctx} {n:Nat} {mm:MM} {L:List Oper} {z:Oper}
theorem Bv{o:Oper}{a:Act}(h:∀j b,o.guard=some (j,b)→j < L.length):Region.wanted o (yielded (L++[z]).toArray a.tmps)=Region.wanted o (yielded L.toArray a.tmps):=by
 unfold Region.wanted
 split
 ·rfl
 ·rename_i j want hg
  have hj:=h j want hg
  have:yielded (L++[z]).toArray a.tmps j=yielded L.toArray a.tmps j:=by
   unfold yielded
   simp[aG hj]
  rw[this]
theorem Jh{dc:TM}(b7:Hn L [] L 0=true)(hF:∀o∈L,FL C n mm L dc o)(Cl:∀p∈dc,∀q∈dc,p.1=q.1→p=q)
 (CB:∀k,k < L.length→k∈fz z.after.toList∨∃o∈L,k∈fz o.after.toList)(bo:mj (fz z.after.toList) L.length=true)(JD:∀o∈L,∀j b,o.guard=some (j,b)→j < L.length)
 {P:TM→MM→Prop}(hP:SOps C n (L++[z]).toArray [z] dc mm P):
 ∀(fuel:Nat) (listed:Array Bool) (a:Act) (w:World) (tm:TM),listed.size=L.length+1→listed.getD L.length true=false→(listed.toList.filter (!·)).length≤fuel→(∀p,nD L listed dc p→p∈tm)→(∀j o,L[j]? =some o→listed.getD j false=true→∀i∈fz o.after.toList,listed.getD i false=true)→Has C n tm mm a w→
  wpAny C.P .any (L++[z]).toArray (QT C n P) fuel listed a w:=by
 have T2:(L++[z])[L.length]? =some z:=by simp
 have K8:∀k,k < L.length→(L++[z])[k]? =L[k]? :=fun k hk=>aG hk
 have fP:∀(listed:Array Bool),listed.size=L.length+1→(∀j,j∈Region.ready .any (L++[z]).toArray listed→j=L.length)→∀k,k < L.length→listed.getD k false=true:=by
  intro listed c8 hr k
  induction k using Nat.strongRecOn with
  |_ k ih=>
   intro hk
   cases hl:listed.getD k false with
   |true=>rfl
   |false=>
    have dL:k∈Region.ready .any (L++[z]).toArray listed:=by
     rw[mem_ready]
     refine⟨?_,L[k],by rw[cB,K8 k hk,aa hk],fun e he hb=>?_⟩
     ·have K3:k < listed.size:=by omega
      simp[Array.getD,K3]at hl⊢;exact hl
     ·obtain⟨_,_,h3⟩:=oo b7 k L[k] (aa hk)
      have:=oi (l:=L[k].after.toList) (by simpa using he) hb
      have bo:=dR h3 _ this
      exact ih e.on (by omega) (by omega)
    have:=hr k dL
    omega
 have Ij:∀(listed:Array Bool),listed.size=L.length+1→listed.getD L.length true=false→(∀k,k < L.length→listed.getD k false=true)→L.length∈Region.ready .any (L++[z]).toArray listed:=by
  intro listed c8 hz ha
  rw[mem_ready]
  refine⟨hz,z,by simp,fun e he hb=>?_⟩
  exact ha _ (dR bo _ (oi (by simpa using he) hb))
 have TE:∀(fuel:Nat) (listed:Array Bool) (a:Act) (w:World) (tm:TM),listed.size=L.length+1→(∀k,k < L.length→listed.getD k false=true)→(∀p,nD L listed dc p→p∈tm)→Has C n tm mm a w→
  wpOp C.P (L++[z]).toArray (QT C n P) L.length (wpAny C.P .any (L++[z]).toArray (QT C n P) fuel (listed.setIfInBounds L.length true)) a w:=by
  intro fuel listed a w tm c8 ha hk hh
  have T9:Has C n dc mm a w:=hh.lA fun p hp=>hk p ⟨hp,by
   by_cases hd:p.1∈bV L
   ·obtain⟨k,o,h1,h2⟩:=eY hd
    exact .inr ⟨k,o,h1,h2,ha k (ai.1 h1).1⟩
   ·exact .inl hd⟩
  have lZ:Region.ready .any (L++[z]).toArray (listed.setIfInBounds L.length true)=[]:=by
   rw[cW]
   intro j hj
   obtain⟨h1,o,h2,_⟩:=mem_ready.1 hj
   have eC:j < (L++[z]).length:=by simpa using(bu.1 h2).1
   simp only[aL,mK]at eC
   by_cases UP:j=L.length
   ·subst UP
    have:L.length < listed.size:=by omega
    simp[Array.getD,this]at h1
   ·have h3:=ha j (by omega)
    have Od:j < listed.size:=by omega
    have cj:L.length≠j:=fun e=>UP e.symm
    rw[getD_set_ne true cj]at h1
    simp[Array.getD,Od]at h1 h3
    rw[h3]at h1;cases h1
  have hw:=hP a w T9
  have o4:∀a' w',QT C n P .normal a' w'→wpAny C.P .any (L++[z]).toArray (QT C n P) fuel (listed.setIfInBounds L.length true) a' w':=by
   intro a' w' hq
   cases fuel with
   |zero=>exact⟨lZ,hq⟩
   |succ fuel=>exact⟨fun _=>hq,fun i hi=>by rw[lZ]at hi;cases hi⟩
  unfold wpOp
  simp only[cB,T2]
  unfold wpList at hw
  split at hw
  ·rename_i Cr
   rw[if_pos Cr]
   rcases hw with hw|hw
   ·exact .inl (Oper.wp_mono (fun a' w' h'=>o4 a' w' h') hw)
   ·exact .inr hw
  ·rename_i Cr
   rw[if_neg Cr]
   exact o4 _ _ hw
 intro fuel
 induction fuel with
 |zero=>
  intro listed a w tm c8 hz hc hk AJ hh
  exfalso
  have hm:false∈listed.toList.filter (!·):=by
   rw[cI]
   have hs:L.length < listed.size:=by omega
   have:listed[L.length]=false:=by simpa[Array.getD,hs]using hz
   exact⟨by rw[←this];simp,rfl⟩
  have:=fB hm
  omega
 |succ fuel ih=>
  intro listed a w tm c8 hz hc hk AJ hh
  refine⟨fun hr=>?_,fun i hi=>?_⟩
  ·exfalso
   have:=Ij listed c8 hz (fP listed c8 fun j hj=>by rw[hr]at hj;cases hj)
   rw[hr]at this;cases this
  obtain⟨h1,o,h2,h3⟩:=mem_ready.1 hi
  have vK:i < (L++[z]).length:=by simpa using(bu.1 h2).1
  simp only[aL,mK]at vK
  by_cases UQ:i=L.length
  ·subst UQ
   have S8:o=z:=by simpa using h2.symm
   subst S8
   refine TE fuel listed a w tm c8 (fun k kl=>?_) hk hh
   have key:∀m,∀k,k+m=L.length→0 < m→listed.getD k false=true:=by
    intro m
    induction m using Nat.strongRecOn with
    |_ m SJ=>
     intro k RY N8
     rcases CB k (by omega)with Tk|⟨o',dX,QN⟩
     ·obtain⟨e,he,hb,K5⟩:=pw Tk
      have:=h3 e (by simpa using he) hb
      rwa [K5]at this
     ·obtain⟨j,hj,QS⟩:=aB.1 dX
      have MA:L[j]? =some o':=by rw[aa hj,QS]
      obtain⟨_,_,g3⟩:=oo b7 j o' MA
      have Ie:=dR g3 _ QN
      exact AJ j o' MA (SJ (L.length - j) (by omega) j (by omega) (by omega)) k QN
   exact key (L.length - k) k (by omega) (by omega)
  have Tv:i < L.length:=by omega
  have hL:L[i]? =some o:=by
   have:(L++[z])[i]? =some o:=by simpa using h2
   rwa [K8 i Tv]at this
  have ng:i < listed.size:=by omega
  have j2:listed[i]=false:=by simpa[Array.getD,ng]using h1
  obtain⟨_,hw,_⟩:=oo b7 i o hL
  obtain⟨d,s,e1,e2,e3⟩:=hF o (an hL)
  have sQ:∀j,j∈fz o.after.toList→listed.getD j false=true:=by
   intro j hj
   obtain⟨e,he,hb,K5⟩:=pw hj
   have:=h3 e (by simpa using he) hb
   rwa [K5]at this
  have dp:∀p∈dc,p.1∈aK L o→p∈tm:=by
   intro p hp hl
   refine hk p ⟨hp,?_⟩
   by_cases hd:p.1∈bV L
   ·obtain⟨k,o',k1,k2⟩:=eY hd
    have:=jq hw k o' p.1 k1 k2 hl
    exact .inr ⟨k,o',k1,k2,sQ k (by simpa using this)⟩
   ·exact .inl hd
  have iq:((listed.setIfInBounds i true).toList.filter (!·)).length≤fuel:=by
   have h5:((listed.setIfInBounds i true).toList.filter (!·)).length+1=(listed.toList.filter (!·)).length:=by
    rw[show(listed.setIfInBounds i true).toList=listed.toList.set i true by simp]
    exact count_set (by simp[ng,j2])
   omega
  have H9:∀a' w',Has C n ((d,s)::bw tm d) mm a' w'→wpAny C.P .any (L++[z]).toArray (QT C n P) fuel (listed.setIfInBounds i true) a' w':=by
   intro a' w' h'
   refine ih (listed.setIfInBounds i true) a' w' _ (by simpa using c8) (by rw[getD_set_ne true UQ];exact hz) iq (fun p hp=>?_) (fun j oj hj eC q hq=>?_) h'
   rotate_left
   ·by_cases lC:q=i
    ·subst lC;simp[Array.getD,ng]
    ·rw[getD_set_ne false (fun e=>lC e.symm)]
     by_cases jc:j=i
     ·subst jc
      rw[hL]at hj;injection hj with hj;subst hj
      exact sQ q hq
     ·rw[getD_set_ne false (fun e=>jc e.symm)]at eC
      exact AJ j oj hj eC q hq
   obtain⟨g1,g2⟩:=hp
   by_cases uA:p.1=d
   ·have:p=(d,s):=Cl p g1 (d,s) e2 uA
    rw[this];exact ah
   ·refine ab _ (cd (hk p ⟨g1,?_⟩) uA)
    rcases g2 with g2|⟨k,o',k1,k2,k3⟩
    ·exact .inl g2
    ·refine .inr ⟨k,o',k1,k2,?_⟩
     have kS:i≠k:=by
      intro e;subst e
      rw[hL]at k1;injection k1 with k1;subst k1
      rw[e1]at k2;injection k2 with k2;exact uA k2.symm
     rwa [getD_set_ne false kS]at k3
  unfold wpOp
  have qv:(L++[z])[i]? =some o:=by simpa using h2
  simp only[cB,qv]
  have h6:=e3 tm dp a w (wpAny C.P .any (L++[z]).toArray (QT C n P) fuel (listed.setIfInBounds i true)) (QT C n P) hh H9
  rw[←Bv (z:=z) (a:=a) (JD o (an hL))]at h6
  split
  ·rename_i Cr;rw[if_pos Cr]at h6;exact .inl h6
  ·rename_i Cr;rw[if_neg Cr]at h6;exact h6
theorem Lk{Lf:List Oper}{f:FuncId}{R:Ending→World→Prop}{k:List Item}{id:Nat}{tm:TM}(mE:C.P.follows .mixedOrders=true)(Fe:re Lf=some (L,z))(b7:Hn L [] L 0=true)(hu:q5 (bV L) (gJ (bV L) tm)=true)
 (CB:uT L (fz z.after.toList) L.length=true)(bo:mj (fz z.after.toList) L.length=true)(JD:oC L.length L=true)
 (h:DOps C n mm L (gJ (bV L) tm) L (gJ (bV L) tm) (fun tm'=>SOps C n Lf.toArray [z] tm' mm (fun BA Ns=>Goes C f n R k BA Ns))):Goes C f n R (.code (.region id Lf.toArray true)::k) tm mm:=by
 have T4:=wh Fe
 subst T4
 obtain⟨u1,u2⟩:=kp hu
 obtain⟨dc,hg,hF,AL,uF⟩:=h [] 0 ⟨fun o ho=>(by cases ho),u2,fun p hp _=>hp,b7,rfl⟩
 intro a w TA b cs hb hk
 have hh:Has C n (gJ (bV L) tm) mm a w:=TA.lA fun _ hp=>jR hp
 have oU:=Jh (z:=z) (P:=fun tm' mm'=>Goes C f n R k tm' mm') b7 hF uF (pG CB) bo (km JD) hg (L.length+1) (Array.replicate (L.length+1) false) a {w with drawn:=w.drawn+1} (gJ (bV L) tm) (by simp) (by simp[Array.getD])
  (by rw[show(Array.replicate (L.length+1) false).toList=List.replicate (L.length+1) false by simp];exact dN (eG _ _) (by simp))
  (fun p hp=>by
    obtain⟨g1,g2|⟨k,o,k1,k2,k3⟩⟩:=hp
    ·exact AL p g1 g2
    ·have kl:=(ai.1 k1).1
     simp[Array.getD,show k < L.length+1 by omega]at k3) (fun j o _ eC=>by
    exfalso
    by_cases hj:j < L.length+1
    ·simp[Array.getD,hj]at eC
    ·simp[Array.getD,hj]at eC) hh.drawn
 have KR:=wp_region_any (id:=id) (Q:=QT C n (fun tm' mm'=>Goes C f n R k tm' mm')) (ops:=(L++[z]).toArray) (a:=a) (w:=w) mE (by simpa using oU)
 obtain⟨e,a',w',hq,uK⟩:=KR b k cs
 cases e with
 |normal=>
  obtain⟨tm',mm',hg,Io⟩:=hq
  obtain⟨e,xC,fr,g1,g2,g3⟩:=hg a' w' Io b cs hb hk
  exact⟨e,xC,fr,g1,Comes.of_steps uK g2,g3⟩
 |_=>exact hq.elim
end
end Go.Sy
namespace Go.Sy
open Go.RowKit
section
variable {C:Ctx} {n:Nat} {tm:TM} {mm:MM} {o:Oper} {d:Nat} {x y:Operand}
theorem EG{Θ:dD}(bI:bz C.P Θ){t:TypeId}{ti:gD}{i j off e sz:Nat}{nn:Bool}{xs:List (List CT)}{s:SV}{cs x0 x1:List CT}
 (ho:o.op=.store t x y)(ht:aZ Θ t=some ti)(hx:aW tm x=some (.iu i j off))(hi:getM mm i=some (.arr nn e sz xs))(hj:xs[j]? =some x0)
 (hy:dM tm y=some s)(hc:hJ s.cells=some cs)(c8:Nat.beq cs.length ti.size=true)(Fe:gq x0 off cs=some x1)(FY:s.cells.all SC.known=true)(hd:o.dst=none):
 yW C n o tm mm tm (cK mm i (.arr nn e sz (xs.set j x1))):=by
 intro a w ⟨H,Z,hm⟩
 obtain⟨inf,de,hf⟩:=jH bI ht
 obtain⟨hz,us,dF,sv,hlen,cL⟩:=hm.mem _ (aN hi)
 obtain⟨_,bb,Ot,HU⟩:=aX hm hx
 simp only at hz dF sv cL
 obtain⟨SO,hoff⟩:=kg Fe
 have eC:j < xs.length:=(ai.1 hj).1
 have P9:x0.length=sz:=hlen x0 (an hj)
 have vi:cs.length=ti.size:=aR c8
 obtain⟨c1,c2⟩:=(ee hm hy).cells hm FY
 have yQ:Pw (fun u c=>a7 w (cU C H mm) u c) (a.eval y).cells.toList cs:=
  iZ hc ⟨by simpa using c1,fun j c hc=>let⟨u,hu,_,hr⟩:=c2 j c hc;⟨u,by simpa using hu,hr⟩⟩
 have vI:∀v∈(a.eval y).cells.toList,v.oneCell'=true:=by
  intro v hv
  obtain⟨j,hj,QR⟩:=aB.1 hv
  have eC:j < cs.length:=by rw[←yQ.1];exact hj
  obtain⟨u,hu,hr⟩:=yQ.2 j cs[j] (aa eC)
  rw[aa hj,QR]at hu
  injection hu with hu
  rw[hu];exact hr.one
 have mG:(a.eval y).cells.toList.length=cs.length:=yQ.1
 rcases dF.2 with⟨_,h0⟩|⟨g,cap,cur,hv,TB,uG,j3,kY,CA,uy⟩
 ·omega
 have hb:bb=g:=by rw[hv]at Ot;simp[hblk]at Ot;exact Ot.symm
 subst hb
 rw[hz]at HU
 have Od:j * sz+sz≤xs.length * sz:=by
  have:=bq sz (show j+1≤xs.length from eC)
  rw[dt]at this;omega
 have Q5:xs.length * sz≤cap * sz:=bq _ j3
 obtain⟨p,hp⟩:∃p,p=j * sz+off:=⟨_,rfl⟩
 have rL:p+cs.length≤j * sz+sz:=by omega
 rw[←hp]at HU
 have dQ:=run_storeCells_at (P:=C.P) bb p e (a.eval y).cells.toList 0 cur w uG (by rw[mG,CA];omega) vI
 have nF:(a.eval y).cells.size=ti.size:=by rw[←vi,←mG];simp
 have lB:=setRow_heap w bb cur (cur.toList.take (p+0)++(a.eval y).cells.toList++cur.toList.drop (p+0+(a.eval y).cells.toList.length)).toArray e (0,0) uG
 have ec:=mq w bb (cur.toList.take (p+0)++(a.eval y).cells.toList++cur.toList.drop (p+0+(a.eval y).cells.toList.length)).toArray
 generalize Jv:w.setRow bb (cur.toList.take (p+0)++(a.eval y).cells.toList++cur.toList.drop (p+0+(a.eval y).cells.toList.length)).toArray=w' at lB ec dQ
 have Jw:us=cur.toList.take (xs.length * sz):=uy.symm
 have It:cur.toList.length=cap * sz:=by simpa using CA
 refine .inr ⟨w',?_,H,Z,?_⟩
 ·simp only[execOp,ho,HU,Instr.storeAt,Instr.sureAddr,storeVar,Sem.run_bind,Sem.run_pure,Result.andThen_ok,hf.sizeOf,nF,ne_eq,not_true,if_false,dQ]
 ·rw[hd]
  refine hm.jf (b0:=bb) ⟨_,aN hi,rfl⟩ (by rw[hv];rfl) ec hm.defers hm.size ?_ (fun p hp=>⟨hp,rfl⟩)
  intro iH iA
  have DO:x1.length=sz:=by rw[SO,aL,aL,bf,eP,P9];omega
  refine⟨hz,us.take p++(a.eval y).cells.toList++us.drop (p+cs.length),⟨?_,.inr ⟨bb,cap,_,by rw[hv];simp,TB,lB,by simpa using j3,kY,?_,?_⟩⟩,sv,fun q hq=>?_,fun l q hq m ct vh=>?_⟩
  ·have rK:=dF.1
   rw[aL,aL,bf,eP,mG,rK,oN];omega
  ·rw[List.size_toArray,aL,aL,bf,eP,mG,It];omega
  ·simp only[oN,lI]
   rw[sb (by rw[mG];omega) (by omega),uy,mG]
  ·rcases eF hq with hq|rfl
   ·exact hlen q hq
   ·exact DO
  ·have rK:us.length=xs.length * sz:=dF.1
   rw[cY]at hq
   have Ig:∀{q:List CT},q.length=sz→q[m]? =some ct→m < sz:=fun h1 h2=>by rw[←h1];exact(ai.1 h2).1
   have jN:∀{r u},us[r]? =some u→(r < p∨p+cs.length≤r)→(us.take p++(a.eval y).cells.toList++us.drop (p+cs.length))[r]? =some u:=by
    intro r u hu hr
    have Jx:=(ai.1 hu).1
    rcases hr with hr|hr
    ·rw[br,aG (by rw[bf];omega),b9,if_pos hr]
     exact hu
    ·rw[aO (by rw[aL,bf,mG];omega),ca]
     rw[←hu];congr 1;rw[aL,bf,mG];omega
   split at hq
   ·rename_i QU;subst QU
    injection hq with hq;subst hq
    have Ic:=Ig DO vh
    by_cases Ml:m < off∨off+cs.length≤m
    ·have TL:x0[m]? =some ct:=by
      rw[SO]at vh
      rcases Ml with Ml|Ml
      ·rw[br,aG (by rw[bf];omega),b9,if_pos Ml]at vh
       exact vh
      ·rw[aO (by rw[aL,bf];omega),ca]at vh
       rw[←vh];congr 1;rw[aL,bf];omega
     obtain⟨u,hu,hr⟩:=cL j x0 hj m ct TL
     exact⟨u,jN hu (by omega),a7.mono hr ec.size iA iH⟩
    ·have TK:cs[m - off]? =some ct:=by
      rw[SO,aG (by rw[aL,bf];omega),aO (by rw[bf];omega)]at vh
      rw[←vh];congr 1;rw[bf];omega
     obtain⟨u,hu,hr⟩:=yQ.2 (m - off) ct TK
     refine⟨u,?_,a7.mono hr ec.size iA iH⟩
     rw[aG (by rw[aL,bf,mG,rK];omega),aO (by rw[bf,rK];omega)]
     rw[←hu];congr 1;rw[bf,rK];omega
   ·rename_i QU
    have hl:l < xs.length:=(ai.1 hq).1
    have Ic:=Ig (hlen q (an hq)) vh
    obtain⟨u,hu,hr⟩:=cL l q hq m ct vh
    refine⟨u,jN hu ?_,a7.mono hr ec.size iA iH⟩
    rcases cn l j with bo|R3
    ·have hle:l * sz+sz≤j * sz:=by
      have:=bq sz (show l+1≤j from bo)
      rw[dt]at this;omega
     omega
    ·have hle:j * sz+sz≤l * sz:=by
      have:=bq sz (show j+1≤l by omega)
      rw[dt]at this;omega
     omega
end
section
variable {C:Ctx} {n:Nat} {tm:TM} {mm:MM} {L l:List Oper} {T:TM→MM→Prop} {o:Oper} {d:Nat} {x y:Operand}
theorem zg{Θ:dD}(bI:bz C.P Θ){t:TypeId}{ti:gD}{i j off e sz:Nat}{nn:Bool}{xs:List (List CT)}{s:SV}{cs x1:List CT}(x0:List CT)
 (ho:o.op=.store t x y)(ht:aZ Θ t=some ti)(hx:aW tm x=some (.iu i j off))(hi:getM mm i=some (.arr nn e sz xs))(hj:xs[j]? =some x0)
 (hy:dM tm y=some s)(hc:hJ s.cells=some cs)(c8:Nat.beq cs.length ti.size=true)(Fe:gq x0 off cs=some x1)(FY:s.cells.all SC.known=true)(hd:o.dst=none)(hg:bp L tm o=some true)
 (k:SOps C n L.toArray l tm (cK mm i (.arr nn e sz (xs.set j x1))) T):SOps C n L.toArray (o::l) tm mm T:=
 dO (EG bI ho ht hx hi hj hy hc c8 Fe FY hd).wp hg k
theorem Gz(i j t:Nat){e sz:Nat}{v:Value}{xs:List (List CT)}(hi:getM mm i=some (.bG e sz [(v,xs)]))(iF:Nat.blt i given=true)(ht:iX tm t=some (.v (.one (.c (.val v)))))
 (rM:Nat.blt j given=true)(Cy:iW mm j=false)(fO:ed i mm=true)(oT:eU i tm=true)
 (g:SOps C n L.toArray l ((t,.v (.one (.own j)))::bw tm t) ((j,.arr false e sz xs)::eT [i] mm) T):SOps C n L.toArray l tm mm T:=
 fun a w hh=>g a w (Has.Sv i j t hi iF ht rM Cy fO oT hh)
end
section
variable {C:Ctx} {n:Nat} {tm cp:TM} {mm:MM} {L l:List Oper} {T:TM→Prop} {o:Oper} {d:Nat} {x y:Operand}
theorem Lv{Θ:dD}(bI:bz C.P Θ){t k e:TypeId}{z dG zk bk:Nat}{ag Ji:Bool}{zt F6:Option (List CT)}{ei:gD}{zc:CT}{i:Nat}{m:List (Int×CT)}{a0:Int}
 (ho:o.op=.lookup t x y false)(ht:aZ Θ t=some ⟨z,dG,ag,zt,.map k e⟩)(hk:aZ Θ k=some ⟨zk,bk,Ji,F6,.int .i64⟩)(fm:aZ Θ e=some ei)(hz:ei.zero=some [zc])(KX:ei.agg=false)
 (hx:aW (bg (aK L o) tm) x=some (.mp i))(hi:getM mm i=some (.lo (gI ux m)))(hy:dM (bg (aK L o) tm) y=some (.one (.c (.int .i64 a0))))(hd:o.dst=some d)(hn:Nat.blt d n=true)(hg:bp L (bg (aK L o) tm) o=some true)
 (g:DOps C n mm L cp l ((d,.v (.one (.c (iU m a0 zc))))::bw tm d) T):DOps C n mm L cp (o::l) tm T:=
 mH (zL bI ho ht hk fm hz KX hx hi hy hd hn) hg g
end
end Go.Sy
