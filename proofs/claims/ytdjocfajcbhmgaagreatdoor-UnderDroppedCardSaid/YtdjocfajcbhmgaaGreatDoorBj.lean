/- Contracts: slices.BinarySearch of texts, book.Root, book.Sort. -/
import Derived.Test.YtdjocfajcbhmgaaGreatDoorAu
import Derived.Test.YtdjocfajcbhmgaaGreatDoorBi
set_option maxHeartbeats 64000000
set_option linter.unusedSimpArgs false
set_option linter.unusedVariables false
set_option linter.unusedSectionVars false
namespace Go.Sy
open Go.Proofs
set_option maxRecDepth 100000
attribute [local irreducible] SOps Goes DOps EOps FOps GOps
section
variable {C:Ctx} {n:Nat} {tm:TM} {mm:MM} {L l:List Oper} {T:TM→MM→Prop} {o:Oper} {d:Nat} {x y:Operand} {ty rk:TypeId}
theorem QU{a:Int}{yk:IntKind}(ho:o.op=.binOp .shr ty x y rk)(hx:aQ tm x=some (.c (.int .u64 a)))(hy:aQ tm y=some (.c (.int yk 1)))(hd:o.dst=some d)(hn:Nat.blt d n=true)(hg:aY L tm o=some true)
 (g:SOps C n L.toArray l ((d,.v (.one (.c (.int .u64 (a.fdiv 2)))))::bo tm d) mm T):SOps C n L.toArray (o::l) tm mm T:=
 cB (ea.val hd hn _ fun H Z A w hm=>by
  have h1:A.eval x=.int .u64 a:=aV.cA (aU hm hx)
  have h2:A.eval y=.int yk 1:=aV.cA (aU hm hy)
  refine⟨.int .u64 (a.fdiv 2),?_,.int _ _⟩
  simp[execOp,ho,h1,h2,binOp,Op.shift,eqGuard,IntKind.bits,Sem.run_bind,Sem.run_pure]:ea C n o tm mm d _).wp hg g
end
theorem ID{i j:Nat}(h:i+j≤9223372036854775807):(IntKind.u64.wrap ((i:Int)+(j:Int))).fdiv 2=(((i+j) / 2:Nat):Int)∧IntKind.i64.wrap (((i+j) / 2:Nat):Int)=(((i+j) / 2:Nat):Int):=by
 have h1:IntKind.u64.wrap ((i:Int)+(j:Int))=(i:Int)+(j:Int):=IntWalk.u64_in _ (by omega)
 refine⟨?_,IntWalk.i64_in _ (by omega)⟩
 rw[h1,Int.fdiv_eq_ediv_of_nonneg _ (by omega)]
 omega
theorem Mq(s:ByteArray):er Tryz.prog 134 [] [C1 (.str s)] (Rv (.bool false)) []:=by
 refine bn (c:=_) Tryz.func134 rfl rfl rfl (by decide) fun w M0 H Z=>?_
 repeat'(first|refine aA ?_|(refine aB ?_ ?_<;>first|exact aD|(refine aE ?_;intro hb))|refine aZ th Tryz.func134 (.inr ⟨_,rfl⟩) J J J ?_ rfl)
 all_goals first|exact .refl _|exact fx (by simp)
theorem JS(s:ByteArray):er Tryz.prog 96 [] [C1 (.str s)] (Rv (.bool false)) []:=by
 refine bn (c:=_) Tryz.func96 rfl rfl rfl (by decide) fun w M0 H Z=>?_
 repeat'(first|refine aA ?_|(refine aB ?_ ?_<;>first|exact aD|(refine aE ?_;intro hb))|refine aZ th Tryz.func96 (.inr ⟨_,rfl⟩) J J J ?_ rfl)
 all_goals first|exact .refl _|exact fx (by simp)
theorem Rw(s t:ByteArray):er Tryz.prog 95 [] [C1 (.str s),C1 (.str t)] (Rv (.bool (gQ s t))) []:=by
 refine bn (c:=_) Tryz.func95 rfl rfl rfl (by decide) fun w M0 H Z=>?_
 repeat'(first|refine aA ?_|(refine aB ?_ ?_<;>first|exact aD|(refine aE ?_;intro hb))|refine aZ th Tryz.func95 (.inr ⟨_,rfl⟩) J J J ?_ rfl|((first|refine aR (Mq s) [] J J J J J J J J J J ?_|refine aR (Mq t) [] J J J J J J J J J J ?_);refine ao th J ?_))
 all_goals exact .refl _
def AS(l:List ByteArray)(s:ByteArray):Nat:=(l.takeWhile fun x=>gQ x s).length
theorem AR{s:ByteArray}:∀{l:List ByteArray} {i:Nat},i≤l.length→(∀k (h:k < i) (h':k < l.length),gQ l[k] s=true)→(∀h:i < l.length,gQ l[i] s=false)→AS l s=i
 |[],i,hi,_,_=>by simp at hi;subst hi;rfl
 |x::l,0,_,_,h2=>by
  have:=h2 (by simp)
  simp only[List.getElem_cons_zero]at this
  unfold AS;rw[List.takeWhile_cons,this];rfl
 |x::l,i+1,hi,h1,h2=>by
  have h0:=h1 0 (by omega) (by simp)
  simp only[List.getElem_cons_zero]at h0
  have ih:=AR (l:=l) (i:=i) (s:=s) (by simpa using hi) (fun k h h'=>by have:=h1 (k+1) (by omega) (by simpa using h');simpa using this) fun h=>by have:=h2 (by simpa using h);simpa using this
  unfold AS at ih⊢
  rw[List.takeWhile_cons,h0]
  simp[ih]
theorem S3{l:List ByteArray}(ha:uH l){s:ByteArray}{i:Nat}(h1:∀k (h:k < i) (h':k < l.length),gQ l[k] s=true)(h2:∀k (h:i≤k) (h':k < l.length),gQ l[k] s=false):s∈l↔∃h:i < l.length,l[i]=s:=by
 constructor
 ·intro hm
  obtain⟨q,hq,rfl⟩:=aC.1 hm
  rcases bI q i with h|h|h
  ·have:=h1 q h hq;rw[lV]at this;cases this
  ·subst h;exact⟨hq,rfl⟩
  ·have h3:=bB.1 ha i q (by omega) hq h
   have h4:=h2 i (ay _) (by omega)
   rw[h3]at h4;cases h4
 ·rintro⟨h,rfl⟩;exact an h
theorem FA{l:List ByteArray}{s:ByteArray}(h:¬s∈l):hasB l s=false:=by
 cases hb:hasB l s with
 |false=>rfl
 |true=>exact absurd (fh.1 hb) h
theorem IX(l:List ByteArray)(s:ByteArray)(ha:uH l)(hl:l.length≤4000000000000000000):er Tryz.prog 52 [] [C1 (bL l),C1 (.str s)] (.fo [C1 (.int .i64 (AS l s:Int)),C1 (.bool (hasB l s))]) []:=by
 refine bn (c:=_) Tryz.func52 rfl rfl rfl (by decide) fun w M0 H Z=>?_
 repeat'(first|refine aA ?_|(refine aB ?_ ?_<;>first|exact aD|(refine aE ?_;intro hb))|fail)
 refine fz (fun(i j:Nat)=>i≤j∧j≤l.length∧(∀k (h:k < i) (h':k < l.length),gQ l[k] s=true)∧∀k (h:j≤k) (h':k < l.length),gQ l[k] s=false)
  (fun i j=>[(0,.v (C1 (bL l))),(1,.v (C1 (.str s))),(6,.v (C1 (.int .i64 (l.length:Int)))),(7,.v (C1 (.int .i64 (i:Int)))),(8,.v (C1 (.int .i64 (j:Int))))])
  (fun _ _=>[]) (fun i j=>j - i) 0 l.length ⟨aF _,ay _,fun k h=>by omega,fun k h h'=>by omega⟩
  aH (fun i j km ih=>?_)
 obtain⟨km,fg,Qn,UL⟩:=km
 by_cases bj:i < j
 ·obtain⟨Y5,Y4⟩:=ID (i:=i) (j:=j) (by omega)
  have Yb:(i+j) / 2 < j:=by omega
  have WX:i≤(i+j) / 2:=by omega
  generalize (i+j) / 2=m at *
  have Ft:m < l.length:=by omega
  have hx:(l.map fun s=>[CT.str s])[m]? =some [.str l[m]]:=by simp[Ft]
  have cY:=Rw l[m] s
  have W8:=fun(hb:gQ l[m] s=true)=>ih (m+1) j ⟨by omega,fg,fun k h h'=>by
   rcases bJ k m with h3|h3
   ·have h4:=bB.1 ha k m h' Ft h3
    exact iT h4 hb
   ·have:k=m:=by omega
    subst this;exact hb,UL⟩ (by omega)
  have ji:=fun(hb:gQ l[m] s=false)=>ih i m ⟨WX,by omega,Qn,fun k h h'=>by
   rcases bJ m k with h3|h3
   ·have h4:=bB.1 ha m k Ft h' h3
    cases h5:gQ l[k] s with
    |false=>rfl
    |true=>rw[iT h4 h5]at hb;cases hb
   ·have:k=m:=by omega
    subst this;exact hb⟩ (by omega)
  clear ih Qn UL
  cases sD:gQ l[m] s
  all_goals
   rw[sD]at cY
   repeat'(first|(exfalso;revert hb;simp;done)|refine aA ?_|(refine aB ?_ ?_<;>first|exact aD|(refine aE ?_;intro hb))|(refine bH J J J J J J (by omega) ?_;refine ao th J ?_)|(refine QU J J J J J J ?_;rw[Y5];refine ao th J ?_;rw[Y4])|((first|refine bO th J J J J J J J J J m _ J hx ?_|refine aR cY [] J J J J J J J J J J ?_);refine ao th J ?_))
   first|exact aS (W8 sD)|exact aS (ji sD)
 ·clear ih
  have Lz:j=i:=by omega
  subst Lz
  have dX:=S3 ha Qn UL
  rw[AR fg Qn fun h=>UL j (ay _) h]
  clear Qn UL
  by_cases sb:j < l.length
  ·have hx:(l.map fun s=>[CT.str s])[j]? =some [.str l[j]]:=by simp[sb]
   by_cases he:l[j]=s
   ·rw[fh.2 (dX.2 ⟨sb,he⟩)]
    repeat'(first|(exfalso;exact hb he)|refine aA ?_|(refine aB ?_ ?_<;>first|exact aD|(refine aE ?_;intro hb))|(refine bO th J J J J J J J J J j _ J hx ?_;refine ao th J ?_)|(refine qx th J J J J J J J J J j _ J hx ?_;refine dP th J ?_)|(refine aR (JS _) [] J J J J J J J J J J ?_;refine ao th J ?_))
    all_goals
     refine aZ th Tryz.func52 (.inr ⟨_,rfl⟩) J J J ?_ rfl
     first|exact .refl _|exact .fo (.cons (.refl _) (.cons (.one (Rx (by simp[he]))) .nil))
   ·rw[FA fun h=>he (dX.1 h).2]
    repeat'(first|(exfalso;exact he hb)|refine aA ?_|(refine aB ?_ ?_<;>first|exact aD|(refine aE ?_;intro hb))|((first|refine bO th J J J J J J J J J j _ J hx ?_|refine aR (JS _) [] J J J J J J J J J J ?_);refine ao th J ?_))
    all_goals
     refine aZ th Tryz.func52 (.inr ⟨_,rfl⟩) J J J ?_ rfl
     first|exact .refl _|exact .fo (.cons (.refl _) (.cons (.one (Rx (by simp[he]))) .nil))
  ·rw[FA fun h=>sb (dX.1 h).1]
   repeat'(first|refine aA ?_|(refine aB ?_ ?_<;>first|exact aD|(refine aE ?_;intro hb))|fail)
   all_goals
    refine aZ th Tryz.func52 (.inr ⟨_,rfl⟩) J J J ?_ rfl
    exact .refl _
def yY(b:Bk)(s:ByteArray):Int×Bool:=if(eJ b&&hasB b.names s)=true then(b.roots.getD (AS b.names s) 0,true)else(0,false)
theorem I1{b:Bk}(h:eJ b=true):uH b.names:=by
 unfold eJ at h
 simp only[av,decide_eq_true_eq]at h
 obtain⟨_,hn,hr,_⟩:=h
 have zE:∀j (h:j+1 < b.names.length),gQ b.names[j] b.names[j+1]=true:=fun j hj=>by
  have:=a7.1 hr (j+1) (ek.2 (by omega))
  rw[lW (by omega) hj]at this
  simp only[av]at this
  exact this.2.2
 unfold uH
 rw[bB]
 intro i j hi hj km
 induction j with
 |zero=>omega
 |succ j ih=>
  by_cases he:i=j
  ·subst he;exact zE i hj
  ·exact iT (ih (by omega) (by omega)) (zE j hj)
theorem KP{l:List ByteArray}(ha:uH l){s:ByteArray}(h:s∈l):∃hl:AS l s < l.length,l[AS l s]=s:=by
 obtain⟨q,hq,rfl⟩:=aC.1 h
 have:AS l l[q]=q:=AR (by omega) (fun k hk VU=>bB.1 ha k q VU hq hk) fun _=>lV _
 exact⟨by omega,by simp only[this]⟩
theorem As(b:Bk)(s:ByteArray)(hl:b.names.length≤1000000):er Tryz.prog 16 [] [Ag b.cs,C1 (.str s)] (.fo [C1 (.int .i64 (yY b s).1),C1 (.bool (yY b s).2)]) []:=by
 have hm:=tI b
 unfold yY
 cases Dl:eJ b with
 |false=>
  rw[Dl]at hm
  rw[if_neg (by simp)]
  refine bn (c:=_) Tryz.func16 rfl rfl rfl (by decide) fun w M0 H Z=>?_
  repeat'(first|(exfalso;revert hb;simp;done)|refine aA ?_|(refine aB ?_ ?_<;>first|exact aD|(refine aE ?_;intro hb))|(refine aR hm [] J J J J J J J J J J ?_;refine ao th J ?_))
  refine aZ th Tryz.func16 (.inr ⟨_,rfl⟩) J J J ?_ rfl
  exact .refl _
 |true=>
  rw[Dl]at hm
  have ha:=I1 Dl
  have BF:b.names.length=b.roots.length:=by
   unfold eJ at Dl
   simp only[av,decide_eq_true_eq]at Dl
   exact Dl.2.1
  have VW:=IX b.names s ha (by omega)
  cases hh:hasB b.names s with
  |false=>
   rw[hh]at VW
   rw[if_neg (by simp)]
   refine bn (c:=_) Tryz.func16 rfl rfl rfl (by decide) fun w M0 H Z=>?_
   repeat'(first|(exfalso;revert hb;simp;done)|refine aA ?_|(refine aB ?_ ?_<;>first|exact aD|(refine aE ?_;intro hb))|((first|refine aR hm [] J J J J J J J J J J ?_|refine aR VW [] J J J J J J J J J J ?_);refine ao th J ?_))
   refine aZ th Tryz.func16 (.inr ⟨_,rfl⟩) J J J ?_ rfl
   exact .refl _
  |true=>
   obtain⟨bj,_⟩:=KP ha (fh.1 hh)
   rw[hh]at VW
   rw[if_pos (show(true&&true)=true from rfl)]
   generalize AS b.names s=q at *
   have hx:(b.roots.map fun r=>[CT.int .i64 r])[q]? =some [.int .i64 (b.roots.getD q 0)]:=by
    rw[az,aa (by omega),aG,aa (by omega)];rfl
   refine bn (c:=_) Tryz.func16 rfl rfl rfl (by decide) fun w M0 H Z=>?_
   repeat'(first|(exfalso;revert hb;simp;done)|refine aA ?_|(refine aB ?_ ?_<;>first|exact aD|(refine aE ?_;intro hb))|((first|refine aR hm [] J J J J J J J J J J ?_|refine aR VW [] J J J J J J J J J J ?_|refine bO th J J J J J J J J J q _ J hx ?_);refine ao th J ?_))
   refine aZ th Tryz.func16 (.inr ⟨_,rfl⟩) J J J ?_ rfl
   exact .refl _
theorem Eu{L:List Loc}(hP:nU L)(s:ByteArray):yY (dJ L) s=if hasB (L.map Loc.name) s then(eX L s,true)else(0,false):=by
 have hm:=zZ hP
 have dX:=wE L s
 unfold yY
 rw[hm,bZ,show(dJ L).names=eU L from rfl]
 cases hh:hasB (L.map Loc.name) s with
 |false=>
  rw[FA fun h=>by rw[fh.2 (dX.1 h)]at hh;cases hh]
  rfl
 |true=>
  have h1:=dX.2 (fh.1 hh)
  obtain⟨bj,he⟩:=KP (wF L) h1
  rw[fh.2 h1,if_pos J,if_pos J]
  show(((eU L).map (eX L)).getD _ 0,true)=_
  rw[aG,az,aa bj,he];rfl
end Go.Sy
