/- Contracts: slices.BinarySearch of texts, book.Root, book.Sort. -/
import Derived.Test.YtdjocfajcbhmgaaGreatDoorBi
set_option linter.unusedSimpArgs false
set_option linter.unusedVariables false
set_option linter.unusedSectionVars false
namespace Go.Sy
open Go.Proofs
set_option maxRecDepth 100000
attribute [local irreducible] SOps Goes DOps EOps FOps GOps
section
variable {C:Ctx} {n:Nat} {tm:TM} {mm:MM} {L l:List Oper} {T:TM→MM→Prop} {o:Oper} {d:Nat} {x y:Operand} {ty sI:TypeId}
theorem MX{a:Int}{yk:IntKind}(ho:o.op=.binOp .shr ty x y sI)(hx:aW tm x=some (.c (.int .u64 a)))(hy:aW tm y=some (.c (.int yk 1)))(hd:o.dst=some d)(hn:Nat.blt d n=true)(hg:bp L tm o=some true)
 (g:SOps C n L.toArray l ((d,.v (.one (.c (.int .u64 (a.fdiv 2)))))::bw tm d) mm T):SOps C n L.toArray (o::l) tm mm T:=
 dO (eO.val hd hn _ fun H Z A w hm=>by
  have h1:A.eval x=.int .u64 a:=a7.cH (aX hm hx)
  have h2:A.eval y=.int yk 1:=a7.cH (aX hm hy)
  refine⟨.int .u64 (a.fdiv 2),?_,.int _ _⟩
  simp[execOp,ho,h1,h2,binOp,Op.shift,eqGuard,IntKind.bits,Sem.run_bind,Sem.run_pure]:eO C n o tm mm d _).wp hg g
end
theorem Fl{i j:Nat}(h:i+j≤9223372036854775807):(IntKind.u64.wrap ((i:Int)+(j:Int))).fdiv 2=(((i+j) / 2:Nat):Int)∧IntKind.i64.wrap (((i+j) / 2:Nat):Int)=(((i+j) / 2:Nat):Int):=by
 have h1:IntKind.u64.wrap ((i:Int)+(j:Int))=(i:Int)+(j:Int):=IntWalk.u64_in _ (by omega)
 refine⟨?_,IntWalk.i64_in _ (by omega)⟩
 rw[h1,Int.fdiv_eq_ediv_of_nonneg _ (by omega)]
 omega
theorem I7(s:ByteArray):dy Tryz.prog 134 [] [C1 (.str s)] (Rv (.bool false)) []:=by
 refine bd (c:=_) Tryz.func134 rfl rfl rfl (by decide) fun w M0 H Z=>?_
 repeat'(first|refine bH J ?_|(refine al ?_;refine aj th J ?_)|(refine au mix J J ?_;refine ak th J ?_)|(refine ao mix J J ?_;refine ay th J ?_)|refine SOps.nil ?_|refine DOps.nil ?_|refine EOps.nil ?_ rfl rfl|((first|refine aq J J ?_ ?_|refine av J J J ?_ ?_|refine aU J ?_ ?_)<;>intro hb<;>(try simp only[aF]at hb)<;>first|(exfalso;omega)|refine aj th J ?_|refine ak th J ?_|skip)|refine aT th Tryz.func134 (.inr ⟨_,rfl⟩) J J J ?_ rfl)
 all_goals first|exact .refl _|exact fi (by simp)
theorem GC(s:ByteArray):dy Tryz.prog 96 [] [C1 (.str s)] (Rv (.bool false)) []:=by
 refine bd (c:=_) Tryz.func96 rfl rfl rfl (by decide) fun w M0 H Z=>?_
 repeat'(first|refine bH J ?_|(refine al ?_;refine aj th J ?_)|(refine au mix J J ?_;refine ak th J ?_)|(refine ao mix J J ?_;refine ay th J ?_)|refine SOps.nil ?_|refine DOps.nil ?_|refine EOps.nil ?_ rfl rfl|((first|refine aq J J ?_ ?_|refine av J J J ?_ ?_|refine aU J ?_ ?_)<;>intro hb<;>(try simp only[aF]at hb)<;>first|(exfalso;omega)|refine aj th J ?_|refine ak th J ?_|skip)|refine aT th Tryz.func96 (.inr ⟨_,rfl⟩) J J J ?_ rfl)
 all_goals first|exact .refl _|exact fi (by simp)
theorem NB(s t:ByteArray):dy Tryz.prog 95 [] [C1 (.str s),C1 (.str t)] (Rv (.bool (gL s t))) []:=by
 refine bd (c:=_) Tryz.func95 rfl rfl rfl (by decide) fun w M0 H Z=>?_
 repeat'(first|refine bH J ?_|(refine al ?_;refine aj th J ?_)|(refine au mix J J ?_;refine ak th J ?_)|(refine ao mix J J ?_;refine ay th J ?_)|refine SOps.nil ?_|refine DOps.nil ?_|refine EOps.nil ?_ rfl rfl|((first|refine aq J J ?_ ?_|refine av J J J ?_ ?_|refine aU J ?_ ?_)<;>intro hb<;>(try simp only[aF]at hb)<;>first|(exfalso;omega)|refine aj th J ?_|refine ak th J ?_|skip)|refine aT th Tryz.func95 (.inr ⟨_,rfl⟩) J J J ?_ rfl|((first|refine aS (I7 s) [] J J J J J J J J J J ?_|refine aS (I7 t) [] J J J J J J J J J J ?_);refine aj th J ?_))
 all_goals exact .refl _
def ya(l:List ByteArray)(s:ByteArray):Nat:=(l.takeWhile fun x=>gL x s).length
theorem x9{s:ByteArray}:∀{l:List ByteArray} {i:Nat},i≤l.length→(∀k (h:k < i) (h':k < l.length),gL l[k] s=true)→(∀h:i < l.length,gL l[i] s=false)→ya l s=i
 |[],i,hi,_,_=>by simp at hi;subst hi;rfl
 |x::l,0,_,_,h2=>by
  have:=h2 (by simp)
  simp only[List.getElem_cons_zero]at this
  unfold ya;rw[List.takeWhile_cons,this];rfl
 |x::l,i+1,hi,h1,h2=>by
  have h0:=h1 0 (by omega) (by simp)
  simp only[List.getElem_cons_zero]at h0
  have ih:=x9 (l:=l) (i:=i) (s:=s) (by simpa using hi) (fun k h h'=>by have:=h1 (k+1) (by omega) (by simpa using h');simpa using this) fun h=>by have:=h2 (by simpa using h);simpa using this
  unfold ya at ih⊢
  rw[List.takeWhile_cons,h0]
  simp[ih]
theorem O2{l:List ByteArray}(ha:o9 l){s:ByteArray}{i:Nat}(h1:∀k (h:k < i) (h':k < l.length),gL l[k] s=true)(h2:∀k (h:i≤k) (h':k < l.length),gL l[k] s=false):s∈l↔∃h:i < l.length,l[i]=s:=by
 constructor
 ·intro hm
  obtain⟨q,hq,rfl⟩:=aB.1 hm
  rcases cv q i with h|h|h
  ·have:=h1 q h hq;rw[lf]at this;cases this
  ·subst h;exact⟨hq,rfl⟩
  ·have h3:=bm.1 ha i q (by omega) hq h
   have h4:=h2 i (aA _) (by omega)
   rw[h3]at h4;cases h4
 ·rintro⟨h,rfl⟩;exact az h
theorem CE{l:List ByteArray}{s:ByteArray}(h:¬s∈l):hasB l s=false:=by
 cases hb:hasB l s with
 |false=>rfl
 |true=>exact absurd (gY.1 hb) h
set_option maxHeartbeats 8000000 in
theorem FE(l:List ByteArray)(s:ByteArray)(ha:o9 l)(hl:l.length≤4000000000000000000):dy Tryz.prog 52 [] [C1 (bh l),C1 (.str s)] (.gE [C1 (.int .i64 (ya l s:Int)),C1 (.bool (hasB l s))]) []:=by
 refine bd (c:=_) Tryz.func52 rfl rfl rfl (by decide) fun w M0 H Z=>?_
 repeat'(first|refine bH J ?_|(refine al ?_;refine aj th J ?_)|(refine au mix J J ?_;refine ak th J ?_)|(refine ao mix J J ?_;refine ay th J ?_)|refine SOps.nil ?_|refine DOps.nil ?_|refine EOps.nil ?_ rfl rfl|((first|refine aq J J ?_ ?_|refine av J J J ?_ ?_|refine aU J ?_ ?_)<;>intro hb<;>(try simp only[aF]at hb)<;>first|(exfalso;omega)|refine aj th J ?_|refine ak th J ?_|skip))
 refine qx (fun(i j:Nat)=>i≤j∧j≤l.length∧(∀k (h:k < i) (h':k < l.length),gL l[k] s=true)∧∀k (h:j≤k) (h':k < l.length),gL l[k] s=false)
  (fun i j=>[(0,.v (C1 (bh l))),(1,.v (C1 (.str s))),(6,.v (C1 (.int .i64 (l.length:Int)))),(7,.v (C1 (.int .i64 (i:Int)))),(8,.v (C1 (.int .i64 (j:Int))))])
  (fun _ _=>[]) (fun i j=>j - i) 0 l.length ⟨aM _,aA _,fun k h=>by omega,fun k h h'=>by omega⟩
  (fun a w h=>h.sub (by exact⟨⟨_,rfl,.refl _⟩,⟨_,rfl,.refl _⟩,⟨_,rfl,aC (by simp)⟩,⟨_,rfl,aC J⟩,⟨_,rfl,aC (by simp)⟩,trivial⟩) (by exact trivial) J J J) (fun i j j1 ih=>?_)
 obtain⟨j1,eC,QL,QY⟩:=j1
 by_cases bo:i < j
 ·obtain⟨Vx,Vw⟩:=Fl (i:=i) (j:=j) (by omega)
  have UN:(i+j) / 2 < j:=by omega
  have Ib:i≤(i+j) / 2:=by omega
  generalize (i+j) / 2=m at *
  have vJ:m < l.length:=by omega
  have hx:(l.map fun s=>[CT.str s])[m]? =some [.str l[m]]:=by simp[vJ]
  have dB:=NB l[m] s
  have Tx:=fun(hb:gL l[m] s=true)=>ih (m+1) j ⟨by omega,eC,fun k h h'=>by
   rcases cn k m with h3|h3
   ·have h4:=bm.1 ha k m h' vJ h3
    exact gu h4 hb
   ·have:k=m:=by omega
    subst this;exact hb,QY⟩ (by omega)
  have l3:=fun(hb:gL l[m] s=false)=>ih i m ⟨Ib,by omega,QL,fun k h h'=>by
   rcases cn m k with h3|h3
   ·have h4:=bm.1 ha m k vJ h' h3
    cases h5:gL l[k] s with
    |false=>rfl
    |true=>rw[gu h4 h5]at hb;cases hb
   ·have:k=m:=by omega
    subst this;exact hb⟩ (by omega)
  clear ih QL QY
  cases qU:gL l[m] s
  all_goals
   rw[qU]at dB
   repeat'(first|(exfalso;revert hb;simp;done)|refine bH J ?_|(refine al ?_;refine aj th J ?_)|(refine au mix J J ?_;refine ak th J ?_)|(refine ao mix J J ?_;refine ay th J ?_)|refine SOps.nil ?_|refine DOps.nil ?_|refine EOps.nil ?_ rfl rfl|((first|refine aq J J ?_ ?_|refine av J J J ?_ ?_|refine aU J ?_ ?_)<;>intro hb<;>(try simp only[aF]at hb)<;>first|(exfalso;omega)|refine aj th J ?_|refine ak th J ?_|skip)|(refine bO J J J J J J (by omega) ?_;refine aj th J ?_)|(refine MX J J J J J J ?_;rw[Vx];refine aj th J ?_;rw[Vw])|((first|refine ch th J J J J J J J J J m _ J hx ?_|refine aS dB [] J J J J J J J J J J ?_);refine aj th J ?_))
   first|exact bJ (by exact⟨⟨_,rfl,.refl _⟩,⟨_,rfl,.refl _⟩,⟨_,rfl,.refl _⟩,⟨_,rfl,aC (by omega)⟩,⟨_,rfl,.refl _⟩,trivial⟩) (by exact trivial) J J J (Tx qU)|exact bJ (by(repeat refine⟨⟨_,rfl,.refl _⟩,?_⟩);trivial) (by exact trivial) J J J (l3 qU)
 ·clear ih
  have AH:j=i:=by omega
  subst AH
  have dL:=O2 ha QL QY
  rw[x9 eC QL fun h=>QY j (aA _) h]
  clear QL QY
  by_cases vK:j < l.length
  ·have hx:(l.map fun s=>[CT.str s])[j]? =some [.str l[j]]:=by simp[vK]
   by_cases he:l[j]=s
   ·rw[gY.2 (dL.2 ⟨vK,he⟩)]
    repeat'(first|(exfalso;exact hb he)|refine bH J ?_|(refine al ?_;refine aj th J ?_)|(refine au mix J J ?_;refine ak th J ?_)|(refine ao mix J J ?_;refine ay th J ?_)|refine SOps.nil ?_|refine DOps.nil ?_|refine EOps.nil ?_ rfl rfl|((first|refine aq J J ?_ ?_|refine av J J J ?_ ?_|refine aU J ?_ ?_)<;>intro hb<;>(try simp only[aF]at hb)<;>first|(exfalso;omega)|refine aj th J ?_|refine ak th J ?_|skip)|(refine ch th J J J J J J J J J j _ J hx ?_;refine aj th J ?_)|(refine fT th J J J J J J J J J j _ J hx ?_;refine ak th J ?_)|(refine aS (GC _) [] J J J J J J J J J J ?_;refine aj th J ?_))
    all_goals
     refine aT th Tryz.func52 (.inr ⟨_,rfl⟩) J J J ?_ rfl
     first|exact .refl _|exact .gE (.cons (.refl _) (.cons (.one (NC (by simp[he]))) .nil))
   ·rw[CE fun h=>he (dL.1 h).2]
    repeat'(first|(exfalso;exact he hb)|refine bH J ?_|(refine al ?_;refine aj th J ?_)|(refine au mix J J ?_;refine ak th J ?_)|(refine ao mix J J ?_;refine ay th J ?_)|refine SOps.nil ?_|refine DOps.nil ?_|refine EOps.nil ?_ rfl rfl|((first|refine aq J J ?_ ?_|refine av J J J ?_ ?_|refine aU J ?_ ?_)<;>intro hb<;>(try simp only[aF]at hb)<;>first|(exfalso;omega)|refine aj th J ?_|refine ak th J ?_|skip)|((first|refine ch th J J J J J J J J J j _ J hx ?_|refine aS (GC _) [] J J J J J J J J J J ?_);refine aj th J ?_))
    all_goals
     refine aT th Tryz.func52 (.inr ⟨_,rfl⟩) J J J ?_ rfl
     first|exact .refl _|exact .gE (.cons (.refl _) (.cons (.one (NC (by simp[he]))) .nil))
  ·rw[CE fun h=>vK (dL.1 h).1]
   repeat'(first|refine bH J ?_|(refine al ?_;refine aj th J ?_)|(refine au mix J J ?_;refine ak th J ?_)|(refine ao mix J J ?_;refine ay th J ?_)|refine SOps.nil ?_|refine DOps.nil ?_|refine EOps.nil ?_ rfl rfl|((first|refine aq J J ?_ ?_|refine av J J J ?_ ?_|refine aU J ?_ ?_)<;>intro hb<;>(try simp only[aF]at hb)<;>first|(exfalso;omega)|refine aj th J ?_|refine ak th J ?_|skip))
   all_goals
    refine aT th Tryz.func52 (.inr ⟨_,rfl⟩) J J J ?_ rfl
    exact .refl _
def zm(b:Bk)(s:ByteArray):Int×Bool:=if(fH b&&hasB b.names s)=true then(b.roots.getD (ya b.names s) 0,true)else(0,false)
theorem FJ{b:Bk}(h:fH b=true):o9 b.names:=by
 unfold fH at h
 simp only[ax,decide_eq_true_eq]at h
 obtain⟨_,hn,hr,_⟩:=h
 have AA:∀j (h:j+1 < b.names.length),gL b.names[j] b.names[j+1]=true:=fun j hj=>by
  have:=aV.1 hr (j+1) (cc.2 (by omega))
  rw[lg (by omega) hj]at this
  simp only[ax]at this
  exact this.2.2
 unfold o9
 rw[bm]
 intro i j hi hj j1
 induction j with
 |zero=>omega
 |succ j ih=>
  by_cases he:i=j
  ·subst he;exact AA i hj
  ·exact gu (ih (by omega) (by omega)) (AA j hj)
theorem HE{l:List ByteArray}(ha:o9 l){s:ByteArray}(h:s∈l):∃hl:ya l s < l.length,l[ya l s]=s:=by
 obtain⟨q,hq,rfl⟩:=aB.1 h
 have:ya l l[q]=q:=x9 (by omega) (fun k hk RZ=>bm.1 ha k q RZ hq hk) fun _=>lf _
 exact⟨by omega,by simp only[this]⟩
set_option maxHeartbeats 8000000 in
theorem GF(b:Bk)(s:ByteArray)(hl:b.names.length≤1000000):dy Tryz.prog 16 [] [Ag b.cs,C1 (.str s)] (.gE [C1 (.int .i64 (zm b s).1),C1 (.bool (zm b s).2)]) []:=by
 have hm:=xt b
 unfold zm
 cases Fj:fH b with
 |false=>
  rw[Fj]at hm
  rw[if_neg (by simp)]
  refine bd (c:=_) Tryz.func16 rfl rfl rfl (by decide) fun w M0 H Z=>?_
  repeat'(first|(exfalso;revert hb;simp;done)|refine bH J ?_|(refine al ?_;refine aj th J ?_)|(refine au mix J J ?_;refine ak th J ?_)|(refine ao mix J J ?_;refine ay th J ?_)|refine SOps.nil ?_|refine DOps.nil ?_|refine EOps.nil ?_ rfl rfl|((first|refine aq J J ?_ ?_|refine av J J J ?_ ?_|refine aU J ?_ ?_)<;>intro hb<;>(try simp only[aF]at hb)<;>first|(exfalso;omega)|refine aj th J ?_|refine ak th J ?_|skip)|(refine aS hm [] J J J J J J J J J J ?_;refine aj th J ?_))
  refine aT th Tryz.func16 (.inr ⟨_,rfl⟩) J J J ?_ rfl
  exact .refl _
 |true=>
  rw[Fj]at hm
  have ha:=FJ Fj
  have Jx:b.names.length=b.roots.length:=by
   unfold fH at Fj
   simp only[ax,decide_eq_true_eq]at Fj
   exact Fj.2.1
  have R4:=FE b.names s ha (by omega)
  cases hh:hasB b.names s with
  |false=>
   rw[hh]at R4
   rw[if_neg (by simp)]
   refine bd (c:=_) Tryz.func16 rfl rfl rfl (by decide) fun w M0 H Z=>?_
   repeat'(first|(exfalso;revert hb;simp;done)|refine bH J ?_|(refine al ?_;refine aj th J ?_)|(refine au mix J J ?_;refine ak th J ?_)|(refine ao mix J J ?_;refine ay th J ?_)|refine SOps.nil ?_|refine DOps.nil ?_|refine EOps.nil ?_ rfl rfl|((first|refine aq J J ?_ ?_|refine av J J J ?_ ?_|refine aU J ?_ ?_)<;>intro hb<;>(try simp only[aF]at hb)<;>first|(exfalso;omega)|refine aj th J ?_|refine ak th J ?_|skip)|((first|refine aS hm [] J J J J J J J J J J ?_|refine aS R4 [] J J J J J J J J J J ?_);refine aj th J ?_))
   refine aT th Tryz.func16 (.inr ⟨_,rfl⟩) J J J ?_ rfl
   exact .refl _
  |true=>
   obtain⟨bo,_⟩:=HE ha (gY.1 hh)
   rw[hh]at R4
   rw[if_pos (show(true&&true)=true from rfl)]
   generalize ya b.names s=q at *
   have hx:(b.roots.map fun r=>[CT.int .i64 r])[q]? =some [.int .i64 (b.roots.getD q 0)]:=by
    rw[aI,aa (by omega),aJ,aa (by omega)];rfl
   refine bd (c:=_) Tryz.func16 rfl rfl rfl (by decide) fun w M0 H Z=>?_
   repeat'(first|(exfalso;revert hb;simp;done)|refine bH J ?_|(refine al ?_;refine aj th J ?_)|(refine au mix J J ?_;refine ak th J ?_)|(refine ao mix J J ?_;refine ay th J ?_)|refine SOps.nil ?_|refine DOps.nil ?_|refine EOps.nil ?_ rfl rfl|((first|refine aq J J ?_ ?_|refine av J J J ?_ ?_|refine aU J ?_ ?_)<;>intro hb<;>(try simp only[aF]at hb)<;>first|(exfalso;omega)|refine aj th J ?_|refine ak th J ?_|skip)|((first|refine aS hm [] J J J J J J J J J J ?_|refine aS R4 [] J J J J J J J J J J ?_|refine ch th J J J J J J J J J q _ J hx ?_);refine aj th J ?_))
   refine aT th Tryz.func16 (.inr ⟨_,rfl⟩) J J J ?_ rfl
   exact .refl _
theorem BF{L:List Loc}(hP:mI L)(s:ByteArray):zm (cM L) s=if hasB (L.map Loc.name) s then(eV L s,true)else(0,false):=by
 have hm:=xr hP
 have dL:=ud L s
 unfold zm
 rw[hm,bT,show(cM L).names=ew L from rfl]
 cases hh:hasB (L.map Loc.name) s with
 |false=>
  rw[CE fun h=>by rw[gY.2 (dL.1 h)]at hh;cases hh]
  rfl
 |true=>
  have h1:=dL.2 (gY.1 hh)
  obtain⟨bo,he⟩:=HE (ue L) h1
  rw[gY.2 h1,if_pos J,if_pos J]
  show(((ew L).map (eV L)).getD _ 0,true)=_
  rw[aJ,aI,aa bo,he];rfl
end Go.Sy
