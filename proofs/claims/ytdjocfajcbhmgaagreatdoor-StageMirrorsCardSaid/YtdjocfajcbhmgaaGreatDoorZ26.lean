/- The plain law of books: a turn's node, arms that carry no ends. -/
import Derived.Test.YtdjocfajcbhmgaaGreatDoorBc
import Derived.Test.YtdjocfajcbhmgaaGreatDoorBd1
import Derived.Test.YtdjocfajcbhmgaaGreatDoorZ2
import Derived.Test.YtdjocfajcbhmgaaGreatDoorSy3
import Derived.Test.YtdjocfajcbhmgaaGreatDoorBn1
import Derived.Test.YtdjocfajcbhmgaaGreatDoorSy6
set_option linter.unusedSimpArgs false
set_option linter.unusedVariables false
set_option linter.unusedSectionVars false
namespace Go.Sy
theorem I8{L:List Loc}(hP:mI L){l:Loc}(hl:l∈L){t:Int}(h0:0≤t)(h1:t < (l.turns.length:Int)):
 (cM L).nodes[(eV L l.name+t).toNat]? =some (mO (eV L) (eV L l.name) (bn l t)):=by
 obtain⟨i,hi,rfl⟩:=aB.1 hl
 have ht:t.toNat < L[i].turns.length:=by omega
 rw[yB hP.nodup hi,show((fI (L.take i):Int)+t).toNat=fI (L.take i)+t.toNat by omega]
 show(gG (eV L) L)[_]? =_
 rw[EP hi ht]
 unfold bn
 rw[aJ,aa ht];rfl
theorem I1(l:List Int)(k:Nat):(k7 [] l k).1.1 < 5:=by
 unfold k7
 rw[if_neg (by simp)]
 exact(uS l k).2
theorem Be{l:List Int}{f p:Int}{k:Nat}:∀i,∀a∈(k8 [] l f p k i).1,a.kind < 5
 |0,a,h=>by cases h
 |i+1,a,h=>by
  rw[k8]at h
  rcases aQ.1 h with h|h
  ·exact Be i a h
  ·rw[aH]at h
   subst h;exact I1 _ _
end Go.Sy
set_option linter.unusedSimpArgs false
set_option linter.unusedVariables false
set_option linter.unusedSectionVars false
namespace Go.Sy
open Go.Proofs
set_option maxRecDepth 100000
attribute [local irreducible] SOps Goes DOps EOps
def vG(p:Edge→Bool)(l:List Edge):Int:=
 match l.findIdx? p with
 |some i=>(i:Int)
 |none=>-1
theorem HR{p:Edge→Bool}{l:List Edge}{k:Nat}(hk:k < l.length)(ha:∀i (h:i < k),p (l[i]'(by omega))=false)(hp:p l[k]=true):vG p l=(k:Int):=by
 have:l.findIdx? p=some k:=by
  rw[bB]
  exact⟨hk,hp,fun j hj=>by simp[ha j hj]⟩
 simp[vG,this]
theorem Fc{p:Edge→Bool}{l:List Edge}(ha:∀i (h:i < l.length),p l[i]=false):vG p l=-1:=by
 have:l.findIdx? p=none:=by
  rw[bL]
  intro x hx
  obtain⟨i,hi,rfl⟩:=aB.1 hx
  simp[ha i hi]
 simp[vG,this]
set_option maxHeartbeats 4000000 in
theorem Ar(p:Edge→Bool)(l:List Edge)(g:Nat)(c0:CT)
 (hc:∀e:Edge,dy Tryz.prog g [[c0]] [Ag e.cs,.one (.ptr given 0)] (Rv (.bool (p e))) [[c0]]):
 dy Tryz.prog 119 [[c0]] [C1 (qK l),.one (.ku g [given])] (Rv (.int .i64 (vG p l))) [[c0]]:=by
 refine bd (c:=_) Tryz.func119 rfl rfl rfl (by decide) fun w M0 H Z=>?_
 repeat'(first|refine bH J ?_|(refine al ?_;refine aj th J ?_)|(refine au mix J J ?_;refine ak th J ?_)|(refine ao mix J J ?_;refine ay th J ?_)|refine SOps.nil ?_|refine DOps.nil ?_|refine EOps.nil ?_ rfl rfl|((first|refine aq J J ?_ ?_|refine av J J J ?_ ?_|refine aU J ?_ ?_)<;>intro hb<;>(try simp only[aF]at hb)<;>first|(exfalso;omega)|refine aj th J ?_|refine ak th J ?_|skip)|refine fk th Tryz.func119 (.inr ⟨_,rfl⟩) J J J ⟨?_,rfl⟩)
 all_goals try simp only[aw]at *
 refine gl 6 J fun mT=>?_
 simp only[aw]at mT
 refine bE (fun k:Nat=>k≤l.length∧∀i (h:i < k) (h':i < l.length),p l[i]=false)
  (fun k=>[(0,.v (C1 (qK l))),(1,.v (.one (.ku g [given]))),(7,.v (C1 (.int .i64 (l.length:Int)))),(8,.v (C1 (.int .i64 (k:Int))))])
  (fun _=>[(given,.box [.c c0])]) (fun k=>l.length - k) 0 ⟨aM _,fun i h=>by omega⟩
  (fun a w h=>h.sub (by exact⟨⟨_,rfl,.refl _⟩,⟨_,rfl,.refl _⟩,⟨_,rfl,aC (by simp)⟩,⟨_,rfl,aC J⟩,trivial⟩) (by exact⟨⟨_,rfl,.refl _⟩,trivial⟩) J J J) (fun k hk ih=>?_)
 obtain⟨hk,ha⟩:=hk
 by_cases bo:k < l.length
 ·have hx:(l.map Edge.cs)[k]? =some (l[k]).cs:=by simp[bo]
  repeat'(first|refine bH J ?_|(refine al ?_;refine aj th J ?_)|(refine au mix J J ?_;refine ak th J ?_)|(refine ao mix J J ?_;refine ay th J ?_)|refine SOps.nil ?_|refine DOps.nil ?_|refine EOps.nil ?_ rfl rfl|((first|refine aq J J ?_ ?_|refine av J J J ?_ ?_|refine aU J ?_ ?_)<;>intro hb<;>(try simp only[aF]at hb)<;>first|(exfalso;omega)|refine aj th J ?_|refine ak th J ?_|skip)|refine fk th Tryz.func119 (.inr ⟨_,rfl⟩) J J J ⟨?_,rfl⟩|((first|refine ch th J J J J J J J J J k _ J hx ?_|refine oW (hc l[k]) [given] J J J J J J J J J J J J ?_|refine bO J J J J J J (by omega) ?_);refine aj th J ?_))
  ·simp[dI,HR bo (fun i h=>ha i h (by omega)) hb]
  ·refine bJ (by exact⟨⟨_,rfl,.refl _⟩,⟨_,rfl,.refl _⟩,⟨_,rfl,.refl _⟩,⟨_,rfl,aC (by omega)⟩,trivial⟩) (by exact⟨⟨_,rfl,.refl _⟩,trivial⟩) J J J (ih (k+1) ⟨bo,fun i h h'=>?_⟩ (by omega))
   by_cases kJ:i=k
   ·subst kJ;exact hb
   ·exact ha i (by omega) h'
 ·have gn:k=l.length:=by omega
  subst gn
  repeat'(first|refine bH J ?_|(refine al ?_;refine aj th J ?_)|(refine au mix J J ?_;refine ak th J ?_)|(refine ao mix J J ?_;refine ay th J ?_)|refine SOps.nil ?_|refine DOps.nil ?_|refine EOps.nil ?_ rfl rfl|((first|refine aq J J ?_ ?_|refine av J J J ?_ ?_|refine aU J ?_ ?_)<;>intro hb<;>(try simp only[aF]at hb)<;>first|(exfalso;omega)|refine aj th J ?_|refine ak th J ?_|skip)|refine fk th Tryz.func119 (.inr ⟨_,rfl⟩) J J J ⟨?_,rfl⟩)
  all_goals simp[dI,Fc (fun i h=>ha i h h)]
def nh:List ByteArray:=[⟨#[97]⟩,⟨#[98]⟩]
theorem C2:dy Tryz.prog 34 [] [] (Rv (bh nh)) []:=by
 refine bd (c:=_) Tryz.func34 rfl rfl rfl (by decide) fun w M0 H Z=>?_
 repeat'(first|refine bH J ?_|(refine al ?_;refine aj th J ?_)|(refine au mix J J ?_;refine ak th J ?_)|(refine ao mix J J ?_;refine ay th J ?_)|refine SOps.nil ?_|refine DOps.nil ?_|refine EOps.nil ?_ rfl rfl|((first|refine aq J J ?_ ?_|refine av J J J ?_ ?_|refine aU J ?_ ?_)<;>intro hb<;>(try simp only[aF]at hb)<;>first|(exfalso;omega)|refine aj th J ?_|refine ak th J ?_|skip)|refine aT th Tryz.func34 (.inr ⟨_,rfl⟩) J J J ?_ rfl|(refine dV J J J J ?_;refine aj th J ?_)|(refine dZ 1 J J ?_))
 all_goals exact .v (.one (.c (.nn true 1 _)))
theorem A7(l:List Int)(gx:l.length * 8≤140737488355328):dy Tryz.prog 83 [] [C1 (cA l)] (Rv (cA l)) []:=by
 refine bd (c:=_) Tryz.func83 rfl rfl rfl (by decide) fun w M0 H Z=>?_
 repeat'(first|refine bH J ?_|(refine al ?_;refine aj th J ?_)|(refine au mix J J ?_;refine ak th J ?_)|(refine ao mix J J ?_;refine ay th J ?_)|refine SOps.nil ?_|refine DOps.nil ?_|refine EOps.nil ?_ rfl rfl|((first|refine aq J J ?_ ?_|refine av J J J ?_ ?_|refine aU J ?_ ?_)<;>intro hb<;>(try simp only[aF]at hb)<;>first|(exfalso;omega)|refine aj th J ?_|refine ak th J ?_|skip)|refine aT th Tryz.func83 (.inr ⟨_,rfl⟩) J J J ?_ rfl|((first|refine dV J J J J ?_|refine p9 th J J J J J J J (fun b nI=>?_));refine aj th J ?_)|(refine jv th J J J J J J J J J J J J J J (by constructor<;>simp<;>omega) ?_;refine nq 5 J J ?_;refine aj th J ?_))
 all_goals first
  |exact .refl _
  |(have hl:l=[]:=by simpa using nI hb
    subst hl
    exact .v (.one (.c (.nil 1))))
structure jd where
 at_:List Int
 bY:List (List ByteArray)
abbrev jL(l:List (List ByteArray)):CT:=.slice false 1 (l.map fun m=>[bh m])
abbrev jd.cs(s:jd):List CT:=[cA s.at_,jL s.bY]
theorem Ny(m:List ByteArray):dy Tryz.prog 75 [] [C1 (bh m)] (Rv (.bool (decide (64 < m.length)))) []:=by
 refine bd (c:=_) Tryz.func75 rfl rfl rfl (by decide) fun w M0 H Z=>?_
 repeat'(first|refine bH J ?_|(refine al ?_;refine aj th J ?_)|(refine au mix J J ?_;refine ak th J ?_)|(refine ao mix J J ?_;refine ay th J ?_)|refine SOps.nil ?_|refine DOps.nil ?_|refine EOps.nil ?_ rfl rfl|((first|refine aq J J ?_ ?_|refine av J J J ?_ ?_|refine aU J ?_ ?_)<;>intro hb<;>(try simp only[aF]at hb)<;>first|(exfalso;omega)|refine aj th J ?_|refine ak th J ?_|skip)|refine aT th Tryz.func75 (.inr ⟨_,rfl⟩) J J J ?_ rfl)
 rw[show decide (64 < m.length)=decide ((64:Int) < ((m.map fun s=>[CT.str s]).length:Int)) by rw[decide_eq_decide];simp;omega]
 exact .refl _
set_option maxHeartbeats 4000000 in
theorem Aq(p:List ByteArray→Bool)(l:List (List ByteArray))(g:Nat)(hc:∀m,dy Tryz.prog g [] [C1 (bh m)] (Rv (.bool (p m))) []):
 dy Tryz.prog 113 [] [C1 (jL l),.one (.ku g [])] (Rv (.int .i64 (fb p l))) []:=by
 refine bd (c:=_) Tryz.func113 rfl rfl rfl (by decide) fun w M0 H Z=>?_
 refine gl 0 J fun mT=>?_
 simp only[aw]at mT
 repeat'(first|refine bH J ?_|(refine al ?_;refine aj th J ?_)|(refine au mix J J ?_;refine ak th J ?_)|(refine ao mix J J ?_;refine ay th J ?_)|refine SOps.nil ?_|refine DOps.nil ?_|refine EOps.nil ?_ rfl rfl|((first|refine aq J J ?_ ?_|refine av J J J ?_ ?_|refine aU J ?_ ?_)<;>intro hb<;>(try simp only[aF]at hb)<;>first|(exfalso;omega)|refine aj th J ?_|refine ak th J ?_|skip))
 refine bE (fun k:Nat=>k≤l.length∧∀i (h:i < k) (h':i < l.length),p l[i]=false)
  (fun k=>[(0,.v (C1 (jL l))),(0+1,.v (.one (.ku g []))),(7,.v (C1 (.int .i64 (l.length:Int)))),(8,.v (C1 (.int .i64 (k:Int))))])
  (fun _=>[]) (fun k=>l.length - k) 0 ⟨aM _,fun i h=>by omega⟩
  (fun a w h=>h.sub (by exact⟨⟨_,rfl,.refl _⟩,⟨_,rfl,.refl _⟩,⟨_,rfl,aC (by simp)⟩,⟨_,rfl,aC J⟩,trivial⟩) (by exact trivial) J J J) (fun k hk ih=>?_)
 obtain⟨hk,ha⟩:=hk
 by_cases bo:k < l.length
 ·have hx:(l.map fun m=>[bh m])[k]? =some [bh l[k]]:=by simp[bo]
  repeat'(first|refine bH J ?_|(refine al ?_;refine aj th J ?_)|(refine au mix J J ?_;refine ak th J ?_)|(refine ao mix J J ?_;refine ay th J ?_)|refine SOps.nil ?_|refine DOps.nil ?_|refine EOps.nil ?_ rfl rfl|((first|refine aq J J ?_ ?_|refine av J J J ?_ ?_|refine aU J ?_ ?_)<;>intro hb<;>(try simp only[aF]at hb)<;>first|(exfalso;omega)|refine aj th J ?_|refine ak th J ?_|skip)|refine aT th Tryz.func113 (.inr ⟨_,rfl⟩) J J J ?_ rfl|((first|refine ch th J J J J J J J J J k _ J hx ?_|refine oW (hc l[k]) [] J J J J J J J J J J J J ?_|refine bO J J J J J J (by omega) ?_);refine aj th J ?_))
  ·rw[gX bo (fun i h=>ha i h (by omega)) hb]
   exact .refl _
  ·exact bJ (by exact⟨⟨_,rfl,.refl _⟩,⟨_,rfl,.refl _⟩,⟨_,rfl,.refl _⟩,⟨_,rfl,aC (by omega)⟩,trivial⟩) (by exact trivial) J J J (ih (k+1) ⟨bo,fun i h h'=>by
    by_cases kJ:i=k
    ·subst kJ;exact hb
    ·exact ha i (by omega) h'⟩ (by omega))
 ·have gn:k=l.length:=by omega
  subst gn
  repeat'(first|refine bH J ?_|(refine al ?_;refine aj th J ?_)|(refine au mix J J ?_;refine ak th J ?_)|(refine ao mix J J ?_;refine ay th J ?_)|refine SOps.nil ?_|refine DOps.nil ?_|refine EOps.nil ?_ rfl rfl|((first|refine aq J J ?_ ?_|refine av J J J ?_ ?_|refine aU J ?_ ?_)<;>intro hb<;>(try simp only[aF]at hb)<;>first|(exfalso;omega)|refine aj th J ?_|refine ak th J ?_|skip)|refine aT th Tryz.func113 (.inr ⟨_,rfl⟩) J J J ?_ rfl)
  rw[dv (fun i h=>ha i h h)]
  exact .refl _
theorem nO(p:List ByteArray→Bool)(l:List (List ByteArray))(g:Nat)(hc:∀m,dy Tryz.prog g [] [C1 (bh m)] (Rv (.bool (p m))) []):
 dy Tryz.prog 68 [] [C1 (jL l),.one (.ku g [])] (Rv (.bool (l.any p))) []:=by
 have Il:decide (fb p l≥0)=l.any p:=by
  cases hi:l.findIdx? p with
  |none=>
   rw[show fb p l=-1 by simp[fb,hi]]
   rw[bL]at hi
   symm;simp;exact hi
  |some i=>
   rw[show fb p l=(i:Int) by simp[fb,hi]]
   rw[bB]at hi
   obtain⟨h1,h2,_⟩:=hi
   symm;simp;exact⟨l[i],az h1,h2⟩
 rw[←Il]
 refine bd (c:=_) Tryz.func68 rfl rfl rfl (by decide) fun w M0 H Z=>?_
 repeat'(first|refine bH J ?_|(refine al ?_;refine aj th J ?_)|(refine au mix J J ?_;refine ak th J ?_)|(refine ao mix J J ?_;refine ay th J ?_)|refine SOps.nil ?_|refine DOps.nil ?_|refine EOps.nil ?_ rfl rfl|((first|refine aq J J ?_ ?_|refine av J J J ?_ ?_|refine aU J ?_ ?_)<;>intro hb<;>(try simp only[aF]at hb)<;>first|(exfalso;omega)|refine aj th J ?_|refine ak th J ?_|skip)|refine aT th Tryz.func68 (.inr ⟨_,rfl⟩) J J J ?_ rfl|(refine aS (Aq p l g hc) [] J J J J J J J J J J ?_;refine aj th J ?_))
 all_goals exact .refl _
set_option maxHeartbeats 4000000 in
theorem IK(l m:List Int):dy Tryz.prog 110 [] [C1 (cA l),C1 (cA m)] (Rv (.bool (decide (l=m)))) []:=by
 refine bd (c:=_) Tryz.func110 rfl rfl rfl (by decide) fun w M0 H Z=>?_
 refine gl 0 J fun mT=>?_
 simp only[aw]at mT
 by_cases hlen:l.length=m.length
 ·have Ih:((l.map fun r=>[CT.int .i64 r]).length:Int)=((m.map fun r=>[CT.int .i64 r]).length:Int):=by simp[hlen]
  repeat'(first|refine bH J ?_|(refine al ?_;refine aj th J ?_)|(refine au mix J J ?_;refine ak th J ?_)|(refine ao mix J J ?_;refine ay th J ?_)|refine SOps.nil ?_|refine DOps.nil ?_|refine EOps.nil ?_ rfl rfl|((first|refine aq J J ?_ ?_|refine av J J J ?_ ?_|refine aU J ?_ ?_)<;>intro hb<;>(try simp only[aF]at hb)<;>first|(exfalso;omega)|refine aj th J ?_|refine ak th J ?_|skip))
  refine bE (fun k:Nat=>k≤l.length∧∀i (h:i < k) (h1:i < l.length) (h2:i < m.length),l[i]=m[i])
   (fun k=>[(0,.v (C1 (cA l))),(0+1,.v (C1 (cA m))),(12,.v (C1 (.int .i64 (l.length:Int)))),(13,.v (C1 (.int .i64 (k:Int))))])
   (fun _=>[]) (fun k=>l.length - k) 0 ⟨aM _,fun i h=>by omega⟩
   (fun a w h=>h.sub (by exact⟨⟨_,rfl,.refl _⟩,⟨_,rfl,.refl _⟩,⟨_,rfl,aC (by simp)⟩,⟨_,rfl,aC J⟩,trivial⟩) (by exact trivial) J J J) (fun k hk ih=>?_)
  obtain⟨hk,ha⟩:=hk
  by_cases bo:k < l.length
  ·have mF:k < m.length:=by omega
   have hx:(l.map fun r=>[CT.int .i64 r])[k]? =some [.int .i64 l[k]]:=by simp[bo]
   have hy:(m.map fun r=>[CT.int .i64 r])[k]? =some [.int .i64 m[k]]:=by simp[mF]
   repeat'(first|refine bH J ?_|(refine al ?_;refine aj th J ?_)|(refine au mix J J ?_;refine ak th J ?_)|(refine ao mix J J ?_;refine ay th J ?_)|refine SOps.nil ?_|refine DOps.nil ?_|refine EOps.nil ?_ rfl rfl|((first|refine aq J J ?_ ?_|refine av J J J ?_ ?_|refine aU J ?_ ?_)<;>intro hb<;>(try simp only[aF]at hb)<;>first|(exfalso;omega)|refine aj th J ?_|refine ak th J ?_|skip)|refine aT th Tryz.func110 (.inr ⟨_,rfl⟩) J J J ?_ rfl|((first|refine fT th J J J J J J J J J k _ J hx ?_|refine fT th J J J J J J J J J k _ J hy ?_);refine ak th J ?_)|(refine bO J J J J J J (by omega) ?_;refine aj th J ?_))
   all_goals first
    |(have cj:l≠m:=CK bo mF (by simpa using hb)
      rw[show decide (l=m)=false by simpa using cj];exact .refl _)
    |exact bJ (by exact⟨⟨_,rfl,.refl _⟩,⟨_,rfl,.refl _⟩,⟨_,rfl,.refl _⟩,⟨_,rfl,aC (by omega)⟩,trivial⟩) (by exact trivial) J J J (ih (k+1) ⟨bo,fun i h h1 h2=>by
      by_cases kJ:i=k
      ·subst kJ;simpa using hb
      ·exact ha i (by omega) h1 h2⟩ (by omega))
  ·have he:l=m:=yt hlen fun i h1 h2=>ha i (by omega) h1 h2
   repeat'(first|refine bH J ?_|(refine al ?_;refine aj th J ?_)|(refine au mix J J ?_;refine ak th J ?_)|(refine ao mix J J ?_;refine ay th J ?_)|refine SOps.nil ?_|refine DOps.nil ?_|refine EOps.nil ?_ rfl rfl|((first|refine aq J J ?_ ?_|refine av J J J ?_ ?_|refine aU J ?_ ?_)<;>intro hb<;>(try simp only[aF]at hb)<;>first|(exfalso;omega)|refine aj th J ?_|refine ak th J ?_|skip)|refine aT th Tryz.func110 (.inr ⟨_,rfl⟩) J J J ?_ rfl)
   rw[show decide (l=m)=true by simpa using he];exact .refl _
 ·have cj:l≠m:=fun e=>hlen (by rw[e])
  rw[show decide (l=m)=false by simpa using cj]
  repeat'(first|refine bH J ?_|(refine al ?_;refine aj th J ?_)|(refine au mix J J ?_;refine ak th J ?_)|(refine ao mix J J ?_;refine ay th J ?_)|refine SOps.nil ?_|refine DOps.nil ?_|refine EOps.nil ?_ rfl rfl|((first|refine aq J J ?_ ?_|refine av J J J ?_ ?_|refine aU J ?_ ?_)<;>intro hb<;>(try simp only[aF]at hb)<;>first|(exfalso;omega)|refine aj th J ?_|refine ak th J ?_|skip)|refine aT th Tryz.func110 (.inr ⟨_,rfl⟩) J J J ?_ rfl)
  all_goals exact .refl _
theorem Gr(l m:List ByteArray):dy Tryz.prog 112 [] [C1 (bh l),C1 (bh m)] (Rv (.bool (decide (l=m)))) []:=by
 refine bd (c:=_) Tryz.func112 rfl rfl rfl (by decide) fun w M0 H Z=>?_
 repeat'(first|refine bH J ?_|(refine al ?_;refine aj th J ?_)|(refine au mix J J ?_;refine ak th J ?_)|(refine ao mix J J ?_;refine ay th J ?_)|refine SOps.nil ?_|refine DOps.nil ?_|refine EOps.nil ?_ rfl rfl|((first|refine aq J J ?_ ?_|refine av J J J ?_ ?_|refine aU J ?_ ?_)<;>intro hb<;>(try simp only[aF]at hb)<;>first|(exfalso;omega)|refine aj th J ?_|refine ak th J ?_|skip)|refine aT th Tryz.func112 (.inr ⟨_,rfl⟩) J J J ?_ rfl|(refine aS (IJ l m) [] J J J J J J J J J J ?_;refine aj th J ?_))
 all_goals exact .refl _
end Go.Sy
