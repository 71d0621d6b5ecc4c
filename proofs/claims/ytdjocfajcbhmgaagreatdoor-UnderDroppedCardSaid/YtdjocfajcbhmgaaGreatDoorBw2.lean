/- Contracts of the reference, bundle Bw2. -/
import Derived.Test.YtdjocfajcbhmgaaGreatDoorAu
import Derived.Test.YtdjocfajcbhmgaaGreatDoorZ13
import Derived.Test.YtdjocfajcbhmgaaGreatDoorZ12
import Derived.Test.YtdjocfajcbhmgaaGreatDoorBl2
import Derived.Test.YtdjocfajcbhmgaaGreatDoorZ1
set_option maxHeartbeats 64000000
set_option linter.unusedSimpArgs false
set_option linter.unusedVariables false
set_option linter.unusedSectionVars false
namespace Go.Sy
open Go.Proofs Go.Shelf Go.RowKit Go.Sort
set_option maxRecDepth 100000
attribute [local irreducible] SOps Goes DOps EOps FOps
def BV(l:List Int):List Int:=l.mergeSort fun x y=>decide (x≤y)
theorem HD(l:List Int):(BV l).length=l.length:=by unfold BV;exact nY l
theorem HH{l:List Int}{us:List Value}{w:World}{M:Nat→Prop}(hl:us.length=l.length * 1)
 (h:∀(i:Nat) (x:List CT),(gS l)[i]? =some x→∀(j:Nat) (c:CT),x[j]? =some c→∃u:Value,us[i * 1+j]? =some u∧aV w M u c):us=l.map (Value.int .i64):=by
 apply eh
 intro t
 by_cases ht:t < l.length
 ·obtain⟨u,hu,hr⟩:=h t [.int .i64 l[t]] (by simp[ht]) 0 _ J
  have:=aV.cA hr
  rw[show t * 1+0=t by omega]at hu
  rw[hu,this]
  simp[ht]
 ·rw[bR (by omega),bR (by simpa using(by omega:l.length≤t))]
theorem JT{l:List Int}{i:Nat}{x:List CT}(hx:(gS l)[i]? =some x){j:Nat}{c:CT}(hc:x[j]? =some c):
 ∃u:Value,((l.toArray).map (Value.int .i64))[i * 1+j]? =some u∧∀w M,aV w M u c:=by
 rw[az]at hx
 cases hq:l[i]? with
 |none=>rw[hq]at hx;cases hx
 |some s=>
  rw[hq]at hx;injection hx with hx;subst hx
  match j,hc with
  |0,hc=>
   simp at hc;subst hc
   refine⟨.int .i64 s,?_,fun _ _=>aV.int _ _⟩
   rw[show i * 1+0=i by omega,Array.getElem?_map,b8,hq]
   rfl
  |j+1,hc=>simp at hc
theorem Nl(v:Value)(l:List Int)(hl:l.length < 4611686018427387904):
 nV Tryz.prog 139 [(1,.bF 3 1 [(v,gS l)])] [.one (.c (.val v))]
  (fun _:Unit=>True) (fun _=>.fo []) (fun _=>[(1,.bF 3 1 [(v,gS (BV l))])]):=by
 refine xz (more:=[]) (ev:=[]) (my (c:=_) Tryz.func139 rfl rfl)
  (fun x hx=>by obtain⟨a,_,rfl⟩:=aL.1 hx;rfl) (by rw[ak,ak,HD]) (fun I H Z w M vs hp=>?_) (fun hv w=>?_) (fun w g cap us hv dH cC=>?_)
 ·have:=hp.1
  exact bK (by simpa using this)
 ·subst hv
  exact Any.slices_Sort_int_none Tryz.laysSortI none 0 w
 ·obtain⟨M,cC⟩:=cC
  have GJ:us=l.map (Value.int .i64):=HH (by have:=dH.1;simpa using this) cC
  subst hv
  obtain⟨hblk,hH⟩:=nF dH
  have UX:Holds (Value.int .i64) w g 0 l.toArray:=tl (by rw[GJ]at hH;simpa using hH)
  have cY:=Any.slices_Sort_int Tryz.laysSortI g 0 cap l w UX hblk hl
  simp only[ak]at cY⊢
  refine cY.mono ?_
  rintro e' w' ⟨rfl,n,os,rfl⟩
  refine⟨rfl,_,n,os,?_,by rw[qP],fun i x hx j c hc=>?_⟩
  ·rw[GJ];simp[nY]
  ·exact JT hx hc
theorem Wk(x:kP)(role:ByteArray):er Tryz.prog 138 [] [Ag x.cs,C1 (.str role)] (Rv (.bool (n5 x role))) []:=by
 refine bn (c:=_) Tryz.func138 rfl rfl rfl (by decide) fun w M0 H Z=>?_
 repeat'(first|refine aA ?_|(refine aB ?_ ?_<;>first|exact aD|(refine aE ?_;intro hb))|refine aZ th Tryz.func138 (.inr ⟨_,rfl⟩) J J J ?_ rfl)
 all_goals exact fx (by unfold n5;simp[*])
section
variable {C:Ctx} {n:Nat} {tm:TM} {mm:MM} {L l:List Oper} {T:TM→MM→Prop} {o:Oper} {d:Nat} {x y p q:Operand} {ty:TypeId}
theorem rM{Θ:da}(bt:a8 C.P Θ){ti:fN}{r j e sz:Nat}{qs:PQ}{v:Value}{xs:List (List CT)}{cs:List CT}{s:SV}
 (ho:o.op=.load ty p)(ht:aP Θ ty=some ti)(hx:aQ tm p=some (.c (.val (lL v (j * sz)))))(hi:getM mm r=some (.bF e sz qs))(hs:Nat.beq ti.size sz=true)(hd:o.dst=some d)(hn:Nat.blt d n=true)(hg:aY L tm o=some true)
 (c:Nat)(hk:qs[c]? =some (v,xs))(hj:xs[j]? =some cs)(hv:qd SC.c ti.agg cs=some s)
 (k:SOps C n L.toArray l ((d,.v s)::bo tm d) mm T):SOps C n L.toArray (o::l) tm mm T:=
 cB (wh bt ho ht hx hi hk hj hs hv hd hn).wp hg k
end
section
variable {C:Ctx} {n:Nat} {tm cq:TM} {eS:MM} {L l:List Oper} {R:TM→Prop} {T:TM→MM→Prop} {o:Oper} {d i:Nat} {p q:Operand} {ty:TypeId}
theorem SH{Θ:da}(bt:a8 C.P Θ){r:Nat}{qs:PQ}{v:Value}{sz:Nat}{xs:List (List CT)}{kd:IntKind}{m:Int}{e e':Nat}{z cz:Nat}{ag:Bool}{zr:Option (List CT)}{ei:fN}{Rr Tt}
 (ho:o.op=.indexAddr ty p q)(ht:aP Θ ty=some ⟨z,cz,ag,zr,.slice e⟩)(dO:aP Θ e=some ei)(cM:Nat.beq ei.size sz=true)(hx:aQ (aX (aI L o) tm) p=some (.c (.val v)))(hi:getM eS r=some (.bF e' sz qs))
 (hy:aQ (aX (aI L o) tm) q=some (.c (.int kd m)))(hd:o.dst=some d)(hn:Nat.blt d n=true)(hg:aY L (aX (aI L o) tm) o=some true)
 (c:Nat)(hk:qs[c]? =some (v,xs))(j:Nat)(hm:m=(j:Int))(hj:j < xs.length)(k:EOps C n eS L cq (i+1) l ((d,.v (.one (.c (.val (lL v (j * sz))))))::bo tm d) Rr Tt):EOps C n eS L cq i (o::l) tm Rr Tt:=
 EOps.step hg (fun mm' hb hu=>(vi bt ho ht dO cM hx (kr hb hu _ _ hi) hk hy hm hj hd hn).Em) hd k
theorem Pf{Θ:da}(bt:a8 C.P Θ){ti:fN}{r j e sz:Nat}{qs:PQ}{v:Value}{xs:List (List CT)}{cs:List CT}{s:SV}{Rr Tt}
 (ho:o.op=.load ty p)(ht:aP Θ ty=some ti)(hx:aQ (aX (aI L o) tm) p=some (.c (.val (lL v (j * sz)))))(hi:getM eS r=some (.bF e sz qs))(hs:Nat.beq ti.size sz=true)(hd:o.dst=some d)(hn:Nat.blt d n=true)(hg:aY L (aX (aI L o) tm) o=some true)
 (c:Nat)(hk:qs[c]? =some (v,xs))(hj:xs[j]? =some cs)(hv:qd SC.c ti.agg cs=some s)
 (k:EOps C n eS L cq (i+1) l ((d,.v s)::bo tm d) Rr Tt):EOps C n eS L cq i (o::l) tm Rr Tt:=
 EOps.step hg (fun mm' hb hu=>(wh bt ho ht hx (kr hb hu _ _ hi) hk hj hs hv hd hn).Em) hd k
end
end Go.Sy
namespace Go.Sy
open Go.Proofs
set_option maxRecDepth 100000
attribute [local irreducible] SOps Goes DOps EOps FOps
def CC(p:b7)(role:ByteArray)(l:List Int):List Int:=if dj p&&hasB p.aW role then bV p role l else[]
def KH(p:b7)(l:List Int)(v:Value)(nr:List Int):MM:=
 [(3,.box (p.cs.map SC.c)),(7,.box [.mp 27]),(27,.fw (dI tf (wJ l))),(8,.box [.c (.val v)]),(150,.bF 3 1 [(v,gS l)]),(210,.arr false 3 1 (gS nr))]
theorem KF(p:b7)(hB:ix p)(role:ByteArray)(from_:List Int):er Tryz.prog 99 [] [Ag p.cs,C1 (.str role),C1 (ch from_)] (Rv (ch (CC p role from_))) []:=by
 have iN:=xf p hB
 have qZ:=Dn p.aW role
 unfold CC
 cases hv:dj p with
 |false=>
  rw[hv]at iN
  refine bn (c:=_) Tryz.func99 rfl rfl rfl (by decide) fun w M0 H Z=>?_
  repeat'(first|refine aA ?_|(refine aB ?_ ?_<;>first|exact aD|(refine aE ?_;intro hb))|refine aZ th Tryz.func99 (.inr ⟨_,rfl⟩) J J J ?_ rfl|(refine aR iN [] J J J J J J J J J J ?_;refine ao th J ?_))
  all_goals first|exact .v (.one (.c (.nil 1)))|(exfalso;revert hb;simp;done)
 |true=>
  rw[hv]at iN
  cases hh:hasB p.aW role with
  |false=>
   rw[hh]at qZ
   refine bn (c:=_) Tryz.func99 rfl rfl rfl (by decide) fun w M0 H Z=>?_
   repeat'(first|refine aA ?_|(refine aB ?_ ?_<;>first|exact aD|(refine aE ?_;intro hb))|refine aZ th Tryz.func99 (.inr ⟨_,rfl⟩) J J J ?_ rfl|((first|refine aR iN [] J J J J J J J J J J ?_|refine aR qZ [] J J J J J J J J J J ?_);refine ao th J ?_))
   all_goals first|exact .v (.one (.c (.nil 1)))|(exfalso;revert hb;simp;done)
  |true=>
   rw[hh]at qZ
   have It:=ju hv
   obtain⟨hg,h0,_⟩:=T2 hv
   have mA:=hJ hv
   have Dh:p.g.length=p.points.length:=by simp[b7.g]
   refine bn (c:=_) Tryz.func99 rfl rfl rfl (by decide) fun w M0 H Z=>?_
   refine il 2 J fun nw=>?_
   simp only[ak]at nw
   repeat'(first|refine aA ?_|(refine aB ?_ ?_<;>first|exact aD|(refine aE ?_;intro hb))|((first|refine aR iN [] J J J J J J J J J J ?_|refine aR qZ [] J J J J J J J J J J ?_|refine JQ Tryz.zeroValue196 rfl rfl rfl rfl rfl rfl rfl ?_);refine ao th J ?_))
   refine lh 150 3 1 J J ?_
   refine j8 150 J J J J ?_
   refine xg 8 0 J J ?_
   refine pX 9 210 3 1 J J J ?_
   refine fz (fun(k:Nat) (s:List Int×Value)=>k≤from_.length∧e9 p.points.length s.1 (from_.drop k)=e9 p.points.length [] from_∧Reached p.g s.1)
    (fun k _=>[(3,.v (.one (.ptr 3 0))),(0+1,.v (C1 (.str role))),(8,.v (.one (.ptr 8 0))),(10,.v (.one (.kD 137 [3,7,8]))),(9,.v (.one (.own 210))),(29,.v (C1 (ch from_))),(30,.v (C1 (.int .i64 (from_.length:Int)))),(31,.v (C1 (.int .i64 (k:Int))))])
    (fun _ s=>KH p s.1 s.2 [])
    (fun k _=>from_.length - k) 0 ([],.slice none 0 0) ⟨aF _,rfl,⟨mC,fun x h=>by cases h⟩⟩
    aH (fun k s hk ih=>?_)
   obtain⟨wait,v⟩:=s
   obtain⟨hk,cZ,pR⟩:=hk
   simp only at cZ pR⊢
   have Jb:=pR.len
   by_cases bj:k < from_.length
   ·have hx:(from_.map fun r=>[CT.int .i64 r])[k]? =some [.int .i64 from_[k]]:=by simp[bj]
    have w6:=KN p wait v from_[k] (by omega)
    repeat'(first|refine aA ?_|(refine aB ?_ ?_<;>first|exact aD|(refine aE ?_;intro hb))|((first|refine bO th J J J J J J J J J k _ J hx ?_|refine Ar w6 [(given,3),(given+1,7),(given+2,27),(given+3,8),(1,150)] J J J J J J J ⟨rfl,rfl,rfl,rfl,rfl,trivial⟩ ⟨rfl,rfl,rfl,rfl,rfl⟩ (fun _=>⟨rfl,rfl,rfl,rfl,rfl,rfl,rfl⟩) (fun _=>rfl) (fun _=>rfl) J J J (fun v' _=>?_)|refine bH J J J J J J (by omega) ?_);refine ao th J ?_))
    have cT:=ih (k+1) (n3 p.points.length wait from_[k],v') ⟨bj,by rw[←cZ,cX bj];rfl,by have:=k7 [from_[k]] pR;rw[Dh]at this;exact this⟩ (by omega)
    exact aS cT
   have gv:k=from_.length:=by omega
   rw[gv,List.drop_length]at cZ
   have Ug:fu p role from_=lP (eY p role) (p.points.length+1 - 0) 0 wait:=by unfold fu;rw[←cZ];rfl
   repeat'(first|refine aA ?_|(refine aB ?_ ?_<;>first|exact aD|(refine aE ?_;intro hb))|fail)
   clear cZ ih hk
   refine fz (fun(k:Nat) (s:List Int×Value)=>k≤s.1.length∧fu p role from_=lP (eY p role) (p.points.length+1 - k) k s.1∧Reached p.g s.1)
    (fun k _=>[(3,.v (.one (.ptr 3 0))),(0+1,.v (C1 (.str role))),(8,.v (.one (.ptr 8 0))),(10,.v (.one (.kD 137 [3,7,8]))),(9,.v (.one (.own 210))),(13,.v (C1 (.int .i64 (k:Int))))])
    (fun k s=>KH p s.1 s.2 (qp p role s.1 k))
    (fun k _=>p.points.length - k) 0 (wait,v) ⟨aF _,Ug,pR⟩
    aH (fun k s hk ih=>?_)
   clear Ug pR Jb wait v
   obtain⟨wait,v⟩:=s
   obtain⟨hk,cZ,pR⟩:=hk
   simp only at hk cZ pR⊢
   have Jb:=pR.len
   by_cases bj:k < wait.length
   ·have yo:=pR.range _ (an bj)
    rw[Dh]at yo
    have X1:wait[k].toNat < p.points.length:=by omega
    have Ue:(gS wait)[k]? =some [.int .i64 wait[k]]:=by simp[bj]
    obtain⟨x,Ip⟩:∃x,x=p.points[wait[k].toNat]:=⟨_,rfl⟩
    have wX:(p.points.map kP.cs)[wait[k].toNat]? =some x.cs:=by simp[X1,Ip]
    have Fm:aM p wait[k]=x:=by unfold aM;rw[aG,aa X1,Ip];rfl
    have eA:=Wk x role
    have RJ:x.ax.length≤6:=by
     rcases fB hv wait[k]with h1|h1
     ·rw[Fm]at h1;rw[h1];simp
     ·rw[Fm]at h1;exact(dx h1).1.2
    have BG:=pC It role wait[k]
    rw[show p.points.length+1 - k=(p.points.length - k)+1 by omega,z8 bj]at cZ
    have BE:=fun r=>EY (p:=p) (role:=role) bj r
    rw[Fm]at BE
    have yr:(qp p role wait k).length≤24:=by
     have:=cR (fun x=>n5 (aM p x) role) (wait.take k)
     rw[aO]at this
     show(List.filter _ _).length≤24
     omega
    repeat'(first|refine aA ?_|(refine aB ?_ ?_<;>first|exact aD|(refine aE ?_;intro hb))|(refine oD th 150 0 J J J J J J J J (wait.length:Int) (by simp) ?_;refine ao th J ?_)|((first|refine SH th (r:=150) J J J J J J J J J J 0 J k J (by simpa using bj) ?_|refine Pf th (r:=150) J J J J J J J J 0 J Ue J ?_|refine Md th J J J J J J J J J wait[k].toNat _ (by omega) wX ?_);refine o8 th J ?_)|((first|refine aR eA [] J J J J J J J J J J ?_|refine vK th (r:=150) J J J J J J J J J J 0 J k J (by simpa using bj) ?_|refine rM th (r:=150) J J J J J J J J 0 J Ue J ?_);refine ao th J ?_)|(refine eo th J J J J J J J J J J J J J J J (by constructor<;>simp<;>omega) ?_;refine ao th J ?_)|(refine bH J J J J J J (by omega) ?_;refine ao th J ?_))
    ·have cT:=ih (k+1) (wait,v) ⟨bj,by
      rw[cZ,eY,Fm,if_pos (by assumption),show p.points.length+1 - (k+1)=p.points.length - k by omega];rfl,pR⟩ (by omega)
     have lx:=BE []
     rw[et,if_pos (by assumption)]at lx
     simp only at cT
     rw[lx]at cT
     exact aS (h2:=by exact⟨⟨_,rfl,.refl _⟩,⟨_,rfl,.refl _⟩,⟨_,rfl,.refl _⟩,⟨_,rfl,.refl _⟩,⟨_,rfl,.refl _⟩,⟨_,rfl,fE (by simp)⟩,trivial⟩) cT
    have ON:¬n5 x role=true:=by rw[hb];simp
    rw[eY,Fm,if_neg ON]at cZ BG
    obtain⟨nr,od⟩:∃nr,nr=qp p role wait k:=⟨_,rfl⟩
    rw[←od]at BE yr⊢
    refine fz (fun(m:Nat) (s:List Int×Value)=>m≤x.ax.length∧s.1=bW wait (x.ax.take m)∧Reached p.g s.1)
     (fun m _=>[(3,.v (.one (.ptr 3 0))),(0+1,.v (C1 (.str role))),(8,.v (.one (.ptr 8 0))),(10,.v (.one (.kD 137 [3,7,8]))),(9,.v (.one (.own 210))),(13,.v (C1 (.int .i64 (k:Int)))),(64,.v (C1 (fM x.ax))),(65,.v (C1 (.int .i64 (x.ax.length:Int)))),(66,.v (C1 (.int .i64 (m:Int))))])
     (fun _ s=>KH p s.1 s.2 nr)
     (fun m _=>x.ax.length - m) 0 (wait,v) ⟨aF _,rfl,pR⟩
     aH (fun m s hm n9=>?_)
    obtain⟨w',v1⟩:=s
    obtain⟨hm,Jc,uT⟩:=hm
    simp only at Jc uT⊢
    have Wq:=uT.len
    by_cases Fs:m < x.ax.length
    ·have RI:(x.ax.map bD.cs)[m]? =some (x.ax[m]).cs:=by simp[Fs]
     have w6:=KN p w' v1 (x.ax[m]).next (by omega)
     have OC:=BG _ (an Fs)
     rw[Dh]at OC
     have zE:n3 p.points.length w' (x.ax[m]).next=bW wait (x.ax.take (m+1)):=by
      rw[al Fs,nQ,←Jc,z6 OC];rfl
     repeat'(first|refine aA ?_|(refine aB ?_ ?_<;>first|exact aD|(refine aE ?_;intro hb))|((first|refine bO th J J J J J J J J J m _ J RI ?_|refine Ar w6 [(given,3),(given+1,7),(given+2,27),(given+3,8),(1,150)] J J J J J J J ⟨rfl,rfl,rfl,rfl,rfl,trivial⟩ ⟨rfl,rfl,rfl,rfl,rfl⟩ (fun _=>⟨rfl,rfl,rfl,rfl,rfl,rfl,rfl⟩) (fun _=>rfl) (fun _=>rfl) J J J (fun v' _=>?_)|refine bH J J J J J J (by omega) ?_);refine ao th J ?_))
     have ji:=n9 (m+1) (n3 p.points.length w' (x.ax[m]).next,v') ⟨Fs,zE,by have:=k7 [(x.ax[m]).next] uT;rw[Dh]at this;exact this⟩ (by omega)
     exact aS ji
    ·have OG:x.ax.take m=x.ax:=bC (by omega)
     rw[OG]at Jc
     obtain⟨r,hr⟩:=jb x.ax wait
     rw[←Jc]at cZ hr
     have lx:=BE r
     rw[←hr,if_neg ON,et]at lx
     have cT:=ih (k+1) (w',v1) ⟨by show k+1≤w'.length;rw[hr,au];omega,by rw[cZ,show p.points.length+1 - (k+1)=p.points.length - k by omega],uT⟩ (by omega)
     simp only at cT
     rw[lx]at cT
     repeat'(first|refine aA ?_|(refine aB ?_ ?_<;>first|exact aD|(refine aE ?_;intro hb))|(refine bH J J J J J J (by omega) ?_;refine ao th J ?_))
     exact aS cT
   ·have OI:k=wait.length:=by omega
    rw[show p.points.length+1 - k=(p.points.length - k)+1 by omega,OI,DJ]at cZ
    have nM:BV (qp p role wait k)=bV p role from_:=by
     rw[←HC It,cZ]
     unfold BV qp
     rw[OI,bq]
    have yr:(qp p role wait k).length≤24:=by
     have:=cR (fun x=>n5 (aM p x) role) (wait.take k)
     rw[aO]at this
     show(List.filter _ _).length≤24
     omega
    repeat'(first|(refine o6 22 J ?_;refine mX 210 J J fun v9=>?_)|refine aA ?_|(refine aB ?_ ?_<;>first|exact aD|(refine aE ?_;intro hb))|((first|refine oD th 150 0 J J J J J J J J (wait.length:Int) (by simp) ?_|refine iI (Nl v9 (qp p role wait k) (by omega)) [(1,210)] J J J J ⟨rfl,trivial⟩ ⟨rfl,rfl,rfl,rfl,rfl⟩ (fun _=>⟨rfl,rfl,rfl,rfl,rfl,rfl,rfl⟩) (fun _=>rfl) (fun _=>rfl) J J J (fun _ _=>?_));refine ao th J ?_))
    rw[nM]
    refine pW 210 6 J J J J J ?_
    refine aZ th Tryz.func99 (.inr ⟨_,rfl⟩) J J J ?_ rfl
    exact .refl _
end Go.Sy
namespace Go.Sy
open Go.Proofs
set_option maxRecDepth 100000
attribute [local irreducible] SOps Goes DOps EOps FOps
def Gz(p:b7)(role:ByteArray)(k:Int):Bool:=dj p&&(hasB p.aW role&&(decide (0≤k∧k < (p.points.length:Int))&&decide ((bV p role [k]).length=0)))
theorem Rt(p:b7)(hB:ix p)(role:ByteArray)(k:Int):er Tryz.prog 98 [] [Ag p.cs,C1 (.str role),C1 (.int .i64 k)] (Rv (.bool (Gz p role k))) []:=by
 have iN:=xf p hB
 have qZ:=Dn p.aW role
 have od:=KF p hB role [k]
 unfold CC at od
 unfold Gz
 cases hv:dj p with
 |false=>
  rw[hv]at iN
  refine bn (c:=_) Tryz.func98 rfl rfl rfl (by decide) fun w M0 H Z=>?_
  repeat'(first|refine aA ?_|(refine aB ?_ ?_<;>first|exact aD|(refine aE ?_;intro hb))|refine aZ th Tryz.func98 (.inr ⟨_,rfl⟩) J J J ?_ rfl|(refine aR iN [] J J J J J J J J J J ?_;refine ao th J ?_))
  all_goals first|exact .refl _|(exfalso;revert hb;simp;done)
 |true=>
  rw[hv]at iN od
  cases hh:hasB p.aW role with
  |false=>
   rw[hh]at qZ
   refine bn (c:=_) Tryz.func98 rfl rfl rfl (by decide) fun w M0 H Z=>?_
   repeat'(first|refine aA ?_|(refine aB ?_ ?_<;>first|exact aD|(refine aE ?_;intro hb))|refine aZ th Tryz.func98 (.inr ⟨_,rfl⟩) J J J ?_ rfl|((first|refine aR iN [] J J J J J J J J J J ?_|refine aR qZ [] J J J J J J J J J J ?_);refine ao th J ?_))
   all_goals first|exact .refl _|(exfalso;revert hb;simp;done)
  |true=>
   rw[hh]at qZ od
   by_cases hk:0≤k∧k < (p.points.length:Int)
   ·rw[decide_eq_true hk]
    refine bn (c:=_) Tryz.func98 rfl rfl rfl (by decide) fun w M0 H Z=>?_
    repeat'(first|refine aA ?_|(refine aB ?_ ?_<;>first|exact aD|(refine aE ?_;intro hb))|refine aZ th Tryz.func98 (.inr ⟨_,rfl⟩) J J J ?_ rfl|((first|refine aR iN [] J J J J J J J J J J ?_|refine aR qZ [] J J J J J J J J J J ?_|refine aR od [] J J J J J J J J J J ?_|(refine fa 31 J J ?_;refine B1 31 (.v (C1 (ch [k]))) J (.v (.one (.c (.nn true 1 _)))) ?_));refine ao th J ?_))
    all_goals first|(exfalso;revert hb;simp;done)|(exfalso;omega)|exact fx (by simp)
   ·rw[decide_eq_false hk]
    refine bn (c:=_) Tryz.func98 rfl rfl rfl (by decide) fun w M0 H Z=>?_
    repeat'(first|refine aA ?_|(refine aB ?_ ?_<;>first|exact aD|(refine aE ?_;intro hb))|refine aZ th Tryz.func98 (.inr ⟨_,rfl⟩) J J J ?_ rfl|((first|refine aR iN [] J J J J J J J J J J ?_|refine aR qZ [] J J J J J J J J J J ?_|(refine fa 31 J J ?_;refine B1 31 (.v (C1 (ch [k]))) J (.v (.one (.c (.nn true 1 _)))) ?_));refine ao th J ?_))
    all_goals first|(exfalso;revert hb;simp;done)|(exfalso;omega)|exact .refl _
end Go.Sy
namespace Go.Sy
open Go.Proofs
set_option maxRecDepth 100000
attribute [local irreducible] SOps Goes DOps EOps FOps
end Go.Sy
