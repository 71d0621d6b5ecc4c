/- Contracts: project's in, side, labels. -/
import Derived.Test.YtdjocfajcbhmgaaGreatDoorAu
import Derived.Test.YtdjocfajcbhmgaaGreatDoorZ7
import Derived.Test.YtdjocfajcbhmgaaGreatDoorBw2
import Derived.Test.YtdjocfajcbhmgaaGreatDoorSymZt
import Derived.Test.YtdjocfajcbhmgaaGreatDoorSymZp
set_option maxHeartbeats 64000000
set_option linter.unusedSimpArgs false
set_option linter.unusedVariables false
set_option linter.unusedSectionVars false
namespace Go.Sy
open Go.Proofs
set_option maxRecDepth 100000
attribute [local irreducible] SOps Goes DOps EOps FOps GOps
abbrev mj(p:b7)(role:ByteArray)(v:Value):List SC:=[.c (.str p.name),.c (bL p.aW),.c (lZ p.points),.c (.str role),.c (.val v),.mp (given+1)]
abbrev jO(S:List (List Int)):List (List CT):=S.map fun l=>[ch l]
abbrev oQ(S:List (List Int)):MO:=.fw (dI iC (lM (S.map lv)))
def kN(p:b7)(role:ByteArray)(v:Value)(S:List (List Int)):MM:=[(given,.box (mj p role v)),(given+1,oQ S),(1,.bF 22 1 [(v,jO S)])]
theorem lf{p:b7}{x:Int}(h:0≤x∧x < (p.points.length:Int)):(p.points.map kP.cs)[x.toNat]? =some (aM p x).cs:=by
 have hx:x.toNat < p.points.length:=by omega
 rw[az,aa hx]
 simp[aM,hx]
theorem TT(p:b7)(role:ByteArray)(v:Value)(S:List (List Int))(x:Int)(hx:0≤x∧x < (p.points.length:Int)):
 nV Tryz.prog 136 (kN p role v S) [.one (.ptr given 0),C1 (.int .i64 x)] (fun _:Unit=>True) (fun _=>Rv (.bool (n5 (aM p x) role))) (fun _=>kN p role v S):=by
 have wX:=lf hx
 obtain⟨q,hq⟩:∃q,q=aM p x:=⟨_,rfl⟩
 rw[←hq]at wX⊢
 refine jH (c:=_) Tryz.func136 rfl rfl rfl (by decide) J fun w M0 H Z hd=>?_
 repeat'(first|refine aA ?_|(refine aB ?_ ?_<;>first|exact aD|(refine aE ?_;intro hb))|(refine bO th J J J J J J J J J x.toNat _ (by omega) wX ?_;refine ao th J ?_))
 all_goals exact gq (hd:=hd) th Tryz.func136 () (.inr ⟨_,rfl⟩) J (by first|(rw[n5,decide_eq_true (show q.from_=role from hb)];rfl)|(rw[n5,decide_eq_false (show ¬q.from_=role from hb)];rfl)) J J ⟨rfl,rfl,rfl,trivial⟩ rfl rfl rfl trivial
theorem JC(p:b7)(role:ByteArray)(v:Value)(S:List (List Int))(x:Int)(hx:0≤x∧x < (p.points.length:Int)):
 nV Tryz.prog 101 (kN p role v S) [.one (.ptr given 0),C1 (.int .i64 x)] (fun _:Unit=>True)
  (fun _=>.fo [C1 (.bool (bc p role x).1),C1 (.str (bc p role x).2)]) (fun _=>kN p role v S):=by
 have wX:=lf hx
 unfold bc
 obtain⟨q,hq⟩:∃q,q=aM p x:=⟨_,rfl⟩
 rw[←hq]at wX⊢
 by_cases gb:q.from_=role
 ·rw[show oA role q=(true,q.to) by unfold oA;rw[if_pos gb]]
  refine jH (c:=_) Tryz.func101 rfl rfl rfl (by decide) J fun w M0 H Z hd=>?_
  repeat'(first|refine aA ?_|(refine aB ?_ ?_<;>first|exact aD|(refine aE ?_;intro hb))|(refine bO th J J J J J J J J J x.toNat _ (by omega) wX ?_;refine ao th J ?_))
  all_goals first|(exfalso;contradiction)|exact gq (hd:=hd) th Tryz.func101 () (.inr ⟨_,rfl⟩) J J J J ⟨rfl,rfl,rfl,trivial⟩ rfl rfl rfl trivial
 ·rw[show oA role q=(false,q.from_) by unfold oA;rw[if_neg gb]]
  refine jH (c:=_) Tryz.func101 rfl rfl rfl (by decide) J fun w M0 H Z hd=>?_
  repeat'(first|refine aA ?_|(refine aB ?_ ?_<;>first|exact aD|(refine aE ?_;intro hb))|(refine bO th J J J J J J J J J x.toNat _ (by omega) wX ?_;refine ao th J ?_))
  all_goals first|(exfalso;contradiction)|exact gq (hd:=hd) th Tryz.func101 () (.inr ⟨_,rfl⟩) J J J J ⟨rfl,rfl,rfl,trivial⟩ rfl rfl rfl trivial
def uj(l:List bD):List ByteArray:=l.foldl (fun out a=>j2 out a.label) []
theorem E5{l:List bD}{i:Nat}(h:i < l.length):uj (l.take (i+1))=j2 (uj (l.take i)) l[i].label:=by
 unfold uj
 rw[al h,ee];rfl
theorem zA(l:List bD):(uj l).length≤l.length:=by
 have h:∀(l:List bD) (out:List ByteArray),(l.foldl (fun out a=>j2 out a.label) out).length≤out.length+l.length:=by
  intro l
  induction l with
  |nil=>intro out;simp
  |cons a l ih=>intro out;have h1:=ih (j2 out a.label);have h2:=vS out a.label;simp only[cJ,cd];omega
 have:=h l []
 unfold uj
 simpa using this
theorem zB(x:kP)(hl:x.ax.length≤6):er Tryz.prog 102 [] [Ag x.cs] (Rv (bL (dF x))) []:=by
 refine bn (c:=_) Tryz.func102 rfl rfl rfl (by decide) fun w M0 H Z=>?_
 repeat'(first|refine aA ?_|(refine aB ?_ ?_<;>first|exact aD|(refine aE ?_;intro hb))|fail)
 refine bE (fun k:Nat=>k≤x.ax.length)
  (fun k=>[(1,.v (.one (.ptr 1 0))),(3,.v (C1 (bL (uj (x.ax.take k))))),(7,.v (C1 (fM x.ax))),(8,.v (C1 (.int .i64 (x.ax.length:Int)))),(9,.v (C1 (.int .i64 (k:Int))))])
  (fun _=>[(1,.box (x.cs.map SC.c))])
  (fun k=>x.ax.length - k) 0 (aF _)
  (aH (h1:=by exact⟨⟨_,rfl,.refl _⟩,⟨_,rfl,.v (.one (.c (.nil 1)))⟩,⟨_,rfl,.refl _⟩,⟨_,rfl,eM (by simp)⟩,⟨_,rfl,eM J⟩,trivial⟩)) (fun k hk ih=>?_)
 by_cases bj:k < x.ax.length
 ·have hx:(x.ax.map bD.cs)[k]? =some (x.ax[k]).cs:=by simp[bj]
  have mA:=zA (x.ax.take k)
  rw[aO]at mA
  have kK:=Ka (uj (x.ax.take k)) x.ax[k].label (by omega)
  have cT:=ih (k+1) bj (by omega)
  rw[E5 bj]at cT
  repeat'(first|refine aA ?_|(refine aB ?_ ?_<;>first|exact aD|(refine aE ?_;intro hb))|((first|refine bO th J J J J J J J J J k _ J hx ?_|refine aR kK [] J J J J J J J J J J ?_|refine bH J J J J J J (by omega) ?_);refine ao th J ?_))
  exact aS cT
 ·rw[show dF x=uj (x.ax.take k) by rw[show x.ax.take k=x.ax from bC (by omega)];rfl]
  repeat'(first|refine aA ?_|(refine aB ?_ ?_<;>first|exact aD|(refine aE ?_;intro hb))|refine aZ th Tryz.func102 (.inr ⟨_,rfl⟩) J J J ?_ rfl)
  exact .refl _
section
variable {C:Ctx} {n:Nat} {tm cq:TM} {mm:MM} {L l:List Oper} {T:TM→Prop} {o:Oper} {d:Nat} {p q:Operand} {ty:TypeId}
theorem SK{Θ:da}(bt:a8 C.P Θ){r:Nat}{qs:PQ}{v:Value}{sz:Nat}{xs:List (List CT)}{kd:IntKind}{m:Int}{e e':Nat}{z cz:Nat}{ag:Bool}{zr:Option (List CT)}{ei:fN}
 (ho:o.op=.indexAddr ty p q)(ht:aP Θ ty=some ⟨z,cz,ag,zr,.slice e⟩)(dO:aP Θ e=some ei)(hx:aQ (aX (aI L o) tm) p=some (.c (.val v)))(hi:getM mm r=some (.bF e' sz qs))(cM:Nat.beq ei.size sz=true)
 (hy:aQ (aX (aI L o) tm) q=some (.c (.int kd m)))(hd:o.dst=some d)(hn:Nat.blt d n=true)(hg:aY L (aX (aI L o) tm) o=some true)
 (c:Nat)(hk:qs[c]? =some (v,xs))(j:Nat)(hm:m=(j:Int))(hj:j < xs.length)(g:DOps C n mm L cq l ((d,.v (.one (.c (.val (lL v (j * sz))))))::bo tm d) T):DOps C n mm L cq (o::l) tm T:=
 mv (vi bt ho ht dO cM hx hi hk hy hm hj hd hn) hg g
theorem Pq{Θ:da}(bt:a8 C.P Θ){ti:fN}{r j e sz:Nat}{qs:PQ}{v:Value}{xs:List (List CT)}{cs:List CT}{s:SV}
 (ho:o.op=.load ty p)(ht:aP Θ ty=some ti)(hx:aQ (aX (aI L o) tm) p=some (.c (.val (lL v (j * sz)))))(hi:getM mm r=some (.bF e sz qs))(hs:Nat.beq ti.size sz=true)(hd:o.dst=some d)(hn:Nat.blt d n=true)(hg:aY L (aX (aI L o) tm) o=some true)
 (c:Nat)(hk:qs[c]? =some (v,xs))(hj:xs[j]? =some cs)(hv:qd SC.c ti.agg cs=some s)
 (g:DOps C n mm L cq l ((d,.v s)::bo tm d) T):DOps C n mm L cq (o::l) tm T:=
 mv (wh bt ho ht hx hi hk hj hs hv hd hn) hg g
end
def uQ(n:Nat)(l:List Int):List (List CT):=(List.range n).map fun i:Nat=>[CT.bool (decide ((i:Int)∈l))]
theorem CE(n:Nat)(l:List Int):(uQ n l).length=n:=by simp[uQ]
theorem CF{n:Nat}{l:List Int}{a:Int}(h:0≤a∧a < (n:Int)):(uQ n l)[a.toNat]? =some [.bool (ks l a)]:=by
 unfold uQ
 rw[az,List.getElem?_range (by omega)]
 simp only[dQ,ks]
 rw[show((a.toNat:Nat):Int)=a by omega]
theorem KK{n:Nat}{l:List Int}{a:Int}(h:0≤a∧a < (n:Int)):(uQ n l).set a.toNat [.bool true]=uQ n (l++[a]):=by
 apply eh
 intro i
 rw[cv,CE]
 by_cases hi:a.toNat=i
 ·subst hi
  rw[if_pos J,if_pos (by omega),CF h]
  simp[ks]
 ·rw[if_neg hi]
  unfold uQ
  rw[az,az]
  cases hr:(List.range n)[i]? with
  |none=>rfl
  |some j=>
   have hj:=ai.1 hr
   obtain⟨h1,h2⟩:=hj
   rw[rq]at h2
   subst h2
   have:((i:Nat):Int)≠a:=by omega
   simp[this]
def TR(n:Nat)(l:List Int)(vm vo:Value):MM:=
 [(given,.box [.c (.val vm)]),(given+1,.box [.c (.val vo)]),(1,.bF 4 1 [(vm,uQ n l)]),(2,.bF 3 1 [(vo,gS l)])]
theorem P3(n:Nat)(l:List Int)(vm vo:Value)(a:Int)(hl:l.length≤24)(ha:0≤a∧a < (n:Int)):
 nV Tryz.prog 135 (TR n l vm vo) [C1 (.int .i64 a),.one (.ptr given 0),.one (.ptr (given+1) 0)]
  (fun _:Value=>True) (fun _=>.fo []) (fun v'=>TR n (n3 n l a) vm v'):=by
 have fy:=CF (l:=l) ha
 have Fi:=KK (l:=l) ha
 have BI:a.toNat < (uQ n l).length:=by rw[CE];omega
 cases hm:ks l a with
 |false=>
  have Eb:a∉l:=mK hm
  rw[hm]at fy
  rw[show n3 n l a=l++[a]from if_pos ⟨ha.1,ha.2,Eb⟩]
  have jh:gS l++[[CT.int .i64 a]]=gS (l++[a]):=by simp
  refine jH (c:=_) Tryz.func135 rfl rfl rfl (by decide) J fun w M0 H Z hd=>?_
  repeat'(first|refine aA ?_|(refine aB ?_ ?_<;>first|exact aD|(refine aE ?_;intro hb))|((first|refine vK th (r:=1) J J J J J J J J J J 0 J a.toNat (by omega) BI ?_|refine rM th (r:=1) J J J J J J J J 0 J fy J ?_|refine JM th (r:=1) J J J J J J J J J J J J J 0 J BI ?_);refine ao th J ?_)|(refine fa 14 J J ?_;refine sR th (i:=2) J J J J J J J J J J J J J J 0 J (by constructor<;>simp<;>omega) (fun v'=>?_);refine ao th J ?_))
  simp only[List.set_cons_zero]
  rw[jh,Fi]
  exact gq (hd:=hd) th Tryz.func135 v' (.inl rfl) J J J J ⟨rfl,rfl,rfl,rfl,trivial⟩ rfl rfl rfl trivial
 |true=>
  rw[hm]at fy
  have eA:a∈l:=by simpa[ks]using hm
  rw[show n3 n l a=l from if_neg fun h=>h.2.2 eA]
  refine jH (c:=_) Tryz.func135 rfl rfl rfl (by decide) J fun w M0 H Z hd=>?_
  repeat'(first|refine aA ?_|(refine aB ?_ ?_<;>first|exact aD|(refine aE ?_;intro hb))|((first|refine vK th (r:=1) J J J J J J J J J J 0 J a.toNat (by omega) BI ?_|refine rM th (r:=1) J J J J J J J J 0 J fy J ?_);refine ao th J ?_))
  all_goals exact gq (hd:=hd) th Tryz.func135 vo (.inl rfl) J J J J ⟨rfl,rfl,rfl,rfl,trivial⟩ rfl rfl rfl trivial
theorem KL(n:Nat):List.replicate n [CT.bool false]=uQ n []:=by
 apply eh
 intro i
 unfold uQ
 rw[iy,az]
 by_cases hi:i < n
 ·rw[if_pos hi,List.getElem?_range hi];simp
 ·rw[if_neg hi,bR (by simpa using hi)];rfl
def V9(p:b7)(role:ByteArray)(v:Value)(S:List (List Int))(l:List Int)(vm vo:Value):MM:=
 [(5,.box [.c (.val vo)]),(6,.box [.c (.val vm)]),(19,.bF 4 1 [(vm,uQ p.points.length l)]),(150,.bF 3 1 [(vo,gS l)]),
  (given,.box (mj p role v)),(given+1,oQ S),(1,.bF 22 1 [(v,jO S)])]
theorem QR(p:b7)(hv:dj p=true)(role:ByteArray)(v:Value)(S:List (List Int))(set:List Int)(Fi:∀x∈set,0≤x∧x < (p.points.length:Int))(X8:set.length≤1000):
 nV Tryz.prog 97 (kN p role v S) [.one (.ptr given 0),C1 (ch set)] (fun _:Unit=>True) (fun _=>Rv (ch (fu p role set))) (fun _=>kN p role v S):=by
 have It:=ju hv
 have mA:=hJ hv
 have Dh:p.g.length=p.points.length:=by simp[b7.g]
 refine jH (c:=_) Tryz.func97 rfl rfl rfl (by decide) J fun w M0 H Z hd=>?_
 repeat'(first|refine aA ?_|(refine aB ?_ ?_<;>first|exact aD|(refine aE ?_;intro hb))|(refine Nu th J J J J J J J J J J J p.points.length (by simp) (by simp) (by constructor<;>(try simp)<;>omega) ?_;refine ao th J ?_))
 refine mX 19 J J fun vm=>?_
 rw[KL]
 refine lh 150 3 1 J J ?_
 refine j8 150 J J J J ?_
 refine xg 5 0 J J ?_
 refine fz (fun(k:Nat) (s:List Int×Value)=>k≤set.length∧e9 p.points.length s.1 (set.drop k)=e9 p.points.length [] set∧Reached p.g s.1)
  (fun k _=>[(0,.v (.one (.ptr given 0))),(5,.v (.one (.ptr 5 0))),(7,.v (.one (.kD 135 [6,5]))),(21,.v (C1 (ch set))),(22,.v (C1 (.int .i64 (set.length:Int)))),(23,.v (C1 (.int .i64 (k:Int))))])
  (fun _ s=>V9 p role v S s.1 vm s.2)
  (fun k _=>set.length - k) 0 ([],.slice none 0 0) ⟨aF _,rfl,⟨mC,fun x h=>by cases h⟩⟩
  aH (fun k s hk ih=>?_)
 obtain⟨wait,vo⟩:=s
 obtain⟨hk,cZ,pR⟩:=hk
 simp only at cZ pR⊢
 have Jb:=pR.len
 by_cases bj:k < set.length
 ·have hx:(set.map fun r=>[CT.int .i64 r])[k]? =some [.int .i64 set[k]]:=by simp[bj]
  have w6:=P3 p.points.length wait vm vo set[k] (by omega) (Fi _ (an bj))
  repeat'(first|refine aA ?_|(refine aB ?_ ?_<;>first|exact aD|(refine aE ?_;intro hb))|((first|refine bO th J J J J J J J J J k _ J hx ?_|refine Ar w6 [(given,6),(given+1,5),(1,19),(2,150)] J J J J J J J ⟨rfl,rfl,rfl,rfl,trivial⟩ ⟨rfl,rfl,rfl,rfl,rfl⟩ (fun _=>⟨rfl,rfl,rfl,rfl,rfl,rfl,rfl⟩) (fun _=>rfl) (fun _=>rfl) J J J (fun v' _=>?_)|refine bH J J J J J J (by omega) ?_);refine ao th J ?_))
  have cT:=ih (k+1) (n3 p.points.length wait set[k],v') ⟨bj,by rw[←cZ,cX bj];rfl,by have:=k7 [set[k]] pR;rw[Dh]at this;exact this⟩ (by omega)
  exact aS cT
 have gv:k=set.length:=by omega
 rw[gv,List.drop_length]at cZ
 have Ug:fu p role set=lP (eY p role) (p.points.length+1 - 0) 0 wait:=by unfold fu;rw[←cZ];rfl
 repeat'(first|refine aA ?_|(refine aB ?_ ?_<;>first|exact aD|(refine aE ?_;intro hb))|fail)
 clear cZ ih hk
 refine fz (fun(k:Nat) (s:List Int×Value)=>k≤s.1.length∧fu p role set=lP (eY p role) (p.points.length+1 - k) k s.1∧Reached p.g s.1)
  (fun k _=>[(0,.v (.one (.ptr given 0))),(5,.v (.one (.ptr 5 0))),(7,.v (.one (.kD 135 [6,5]))),(10,.v (C1 (.int .i64 (k:Int))))])
  (fun k s=>V9 p role v S s.1 vm s.2)
  (fun k _=>p.points.length - k) 0 (wait,vo) ⟨aF _,Ug,pR⟩
  aH (fun k s hk ih=>?_)
 clear Ug pR Jb wait vo
 obtain⟨wait,vo⟩:=s
 obtain⟨hk,cZ,pR⟩:=hk
 simp only at hk cZ pR⊢
 have Jb:=pR.len
 by_cases bj:k < wait.length
 ·have yo:=pR.range _ (an bj)
  rw[Dh]at yo
  have Ue:(gS wait)[k]? =some [.int .i64 wait[k]]:=by simp[bj]
  have wX:=lf yo
  have eA:=TT p role v S wait[k] yo
  obtain⟨x,Ip⟩:∃x,x=aM p wait[k]:=⟨_,rfl⟩
  have RJ:x.ax.length≤6:=by
   rcases fB hv wait[k]with h1|h1
   ·rw[←Ip]at h1;rw[h1];simp
   ·rw[←Ip]at h1;exact(dx h1).1.2
  have BG:=pC It role wait[k]
  rw[show p.points.length+1 - k=(p.points.length - k)+1 by omega,z8 bj]at cZ
  rw[←Ip]at wX eA
  repeat'(first|refine aA ?_|(refine aB ?_ ?_<;>first|exact aD|(refine aE ?_;intro hb))|(refine oD th 150 0 J J J J J J J J (wait.length:Int) (by simp) ?_;refine ao th J ?_)|((first|refine SK th (r:=150) J J J J J J J J J J 0 J k J (by simpa using bj) ?_|refine Pq th (r:=150) J J J J J J J J 0 J Ue J ?_|refine qx th J J J J J J J J J wait[k].toNat _ (by omega) wX ?_);refine dP th J ?_)|((first|refine vK th (r:=150) J J J J J J J J J J 0 J k J (by simpa using bj) ?_|refine rM th (r:=150) J J J J J J J J 0 J Ue J ?_|refine iI eA [] J J J J ⟨rfl,rfl,rfl,trivial⟩ ⟨rfl,rfl,rfl,rfl,rfl⟩ (fun _=>⟨rfl,rfl,rfl,rfl,rfl,rfl,rfl⟩) (fun _=>rfl) (fun _=>rfl) J J J (fun _ _=>?_)|refine bH J J J J J J (by omega) ?_);refine ao th J ?_))
  ·have cT:=ih (k+1) (wait,vo) ⟨bj,by
    rw[cZ,eY,←Ip,if_pos (by assumption),show p.points.length+1 - (k+1)=p.points.length - k by omega];rfl,pR⟩ (by omega)
   exact aS cT
  have ON:¬n5 x role=true:=by rw[hb];simp
  rw[eY,←Ip,if_neg ON]at cZ BG
  refine fz (fun(m:Nat) (s:List Int×Value)=>m≤x.ax.length∧s.1=bW wait (x.ax.take m)∧Reached p.g s.1)
   (fun m _=>[(0,.v (.one (.ptr given 0))),(5,.v (.one (.ptr 5 0))),(7,.v (.one (.kD 135 [6,5]))),(10,.v (C1 (.int .i64 (k:Int)))),(54,.v (C1 (fM x.ax))),(55,.v (C1 (.int .i64 (x.ax.length:Int)))),(56,.v (C1 (.int .i64 (m:Int))))])
   (fun _ s=>V9 p role v S s.1 vm s.2)
   (fun m _=>x.ax.length - m) 0 (wait,vo) ⟨aF _,rfl,pR⟩
   aH (fun m s hm n9=>?_)
  obtain⟨w',v1⟩:=s
  obtain⟨hm,Jc,uT⟩:=hm
  simp only at Jc uT⊢
  have Wq:=uT.len
  by_cases Fs:m < x.ax.length
  ·have RI:(x.ax.map bD.cs)[m]? =some (x.ax[m]).cs:=by simp[Fs]
   have OC:=BG _ (an Fs)
   rw[Dh]at OC
   have w6:=P3 p.points.length w' vm v1 (x.ax[m]).next (by omega) OC
   have zE:n3 p.points.length w' (x.ax[m]).next=bW wait (x.ax.take (m+1)):=by
    rw[al Fs,nQ,←Jc,z6 OC];rfl
   repeat'(first|refine aA ?_|(refine aB ?_ ?_<;>first|exact aD|(refine aE ?_;intro hb))|((first|refine bO th J J J J J J J J J m _ J RI ?_|refine Ar w6 [(given,6),(given+1,5),(1,19),(2,150)] J J J J J J J ⟨rfl,rfl,rfl,rfl,trivial⟩ ⟨rfl,rfl,rfl,rfl,rfl⟩ (fun _=>⟨rfl,rfl,rfl,rfl,rfl,rfl,rfl⟩) (fun _=>rfl) (fun _=>rfl) J J J (fun v' _=>?_)|refine bH J J J J J J (by omega) ?_);refine ao th J ?_))
   have ji:=n9 (m+1) (n3 p.points.length w' (x.ax[m]).next,v') ⟨Fs,zE,by have:=k7 [(x.ax[m]).next] uT;rw[Dh]at this;exact this⟩ (by omega)
   exact aS ji
  ·have OG:x.ax.take m=x.ax:=bC (by omega)
   rw[OG]at Jc
   obtain⟨r,hr⟩:=jb x.ax wait
   rw[←Jc]at cZ hr
   have cT:=ih (k+1) (w',v1) ⟨by show k+1≤w'.length;rw[hr,au];omega,by rw[cZ,show p.points.length+1 - (k+1)=p.points.length - k by omega],uT⟩ (by omega)
   repeat'(first|refine aA ?_|(refine aB ?_ ?_<;>first|exact aD|(refine aE ?_;intro hb))|(refine bH J J J J J J (by omega) ?_;refine ao th J ?_))
   exact aS cT
 ·have OI:k=wait.length:=by omega
  rw[show p.points.length+1 - k=(p.points.length - k)+1 by omega,OI,DJ]at cZ
  repeat'(first|refine aA ?_|(refine aB ?_ ?_<;>first|exact aD|(refine aE ?_;intro hb))|(refine oD th 150 0 J J J J J J J J (wait.length:Int) (by simp) ?_;refine ao th J ?_))
  refine pW 150 4 J J J J J ?_
  rw[cZ]
  exact gq (hd:=hd) th Tryz.func97 () (.inr ⟨_,rfl⟩) J J J J ⟨rfl,rfl,rfl,trivial⟩ rfl rfl rfl trivial
end Go.Sy
