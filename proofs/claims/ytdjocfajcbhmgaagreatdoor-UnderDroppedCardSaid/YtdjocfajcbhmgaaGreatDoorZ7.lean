/- The plain law of equality: keys as rows of bytes, the numbering of keys. -/
import Derived.Lib.ItoaNum
import Derived.Test.YtdjocfajcbhmgaaGreatDoorAu
import Derived.Test.YtdjocfajcbhmgaaGreatDoorBu1
import Derived.Test.YtdjocfajcbhmgaaGreatDoorLayp
import Derived.Test.YtdjocfajcbhmgaaGreatDoorZ4
set_option maxHeartbeats 64000000
set_option linter.unusedSimpArgs false
set_option linter.unusedVariables false
set_option linter.unusedSectionVars false
namespace Go.Sy
def Q9(l:List UInt8):Prop:=∀c∈l,c≠32∧c≠44∧c≠58
def JG:List UInt8→Prop
 |[]=>True
 |c::_=>c=32∨c=44∨c=58
theorem Cj{c:UInt8}{u r:List UInt8}(h:Q9 (c::u))(hs:JG (c::r)):False:=by
 obtain⟨h1,h2,h3⟩:=h c ah
 rcases hs with h|h|h
 ·exact h1 h
 ·exact h2 h
 ·exact h3 h
theorem Q9.tail{c:UInt8}{u:List UInt8}(h:Q9 (c::u)):Q9 u:=fun x hx=>h x (ab _ hx)
theorem zf:∀{u v r s:List UInt8},Q9 u→Q9 v→JG r→JG s→u++r=v++s→u=v∧r=s
 |[],[],_,_,_,_,_,_,h=>⟨rfl,h⟩
 |[],c::v,r,s,_,hv,hr,_,h=>by
  simp only[gN,cH]at h
  subst h
  exact(Cj hv hr).elim
 |c::u,[],r,s,hu,_,_,hs,h=>by
  simp only[gN,cH]at h
  subst h
  exact(Cj hu hs).elim
 |c::u,d::v,r,s,hu,hv,hr,hs,h=>by
  simp only[cH,List.cons.injEq]at h
  obtain⟨rfl,h⟩:=h
  obtain⟨h1,h2⟩:=zf hu.tail hv.tail hr hs h
  exact⟨by rw[h1],h2⟩
def uZ(k:Nat):List UInt8:=if k < 10 then[UInt8.ofNat (48+k)]else[UInt8.ofNat (48+k / 10),UInt8.ofNat (48+k % 10)]
theorem Pl{k:Nat}(h:k < 100):Lib.decDigits k=uZ k:=by
 unfold uZ
 rw[Lib.decDigits]
 split
 ·simp_all
 ·rename_i hk
  rw[Lib.decDigits,dif_pos (by omega)];rfl
def TP:List UInt8→Nat
 |[a]=>a.toNat - 48
 |[a,b]=>(a.toNat - 48) * 10+(b.toNat - 48)
 |_=>0
theorem xv:∀k:Fin 100,TP (uZ k.val)=k.val∧(uZ k.val).all (fun c=>decide (c≠32∧c≠44∧c≠58))=true:=by decide+kernel
theorem Dz{k:Nat}(h:k < 100):Q9 (uZ k):=by
 have:=(xv ⟨k,h⟩).2
 rw[a7]at this
 exact fun c hc=>by simpa using this c hc
theorem Mf{k m:Nat}(hk:k < 100)(hm:m < 100)(h:uZ k=uZ m):k=m:=by
 have h1:=(xv ⟨k,hk⟩).1
 have h2:=(xv ⟨m,hm⟩).1
 simp only at h1 h2
 rw[←h1,←h2,h]
section
variable {α β:Type} [DecidableEq α] [DecidableEq β]
end
end Go.Sy
set_option linter.unusedSimpArgs false
set_option linter.unusedVariables false
set_option linter.unusedSectionVars false
namespace Go.Sy
open Go.Proofs
set_option maxRecDepth 100000
attribute [local irreducible] SOps Goes DOps EOps
theorem Ow(k:Nat)(hk:k < 100):er Tryz.prog 140 [] [C1 (.int .i64 (k:Int))] (Rv (.str ⟨(uZ k).toArray⟩)) []:=by
 refine⟨my (c:=_) Tryz.func140 rfl rfl,fun w M0 H Z vs dn cE=>?_⟩
 obtain⟨v,rfl⟩:∃v,vs=[v]:=by
  match vs,cE.1 with
  |[v],_=>exact⟨v,rfl⟩
 obtain⟨u,hu,hr⟩:=cE.2 0 _ J
 simp only[dM,cI]at hu
 subst hu
 have hv:v=.int .i64 (k:Int):=aV.cA hr
 subst hv
 refine Calls.mono (Any.strconv_Itoa_small {Tryz.laysItoa with} k hk w) ?_
 rintro e w' ⟨rfl,rfl⟩
 refine⟨_,rfl,Ext.refl _ _,fun p hp=>by simp[bY]at hp,?_⟩
 rw[Pl hk]
 exact aV.str _
abbrev Ub(m:Int):ByteArray:=⟨(uZ m.toNat).toArray⟩
theorem Ov(m:Int)(h0:0≤m)(h1:m < 100):er Tryz.prog 140 [] [C1 (.int .i64 m)] (Rv (.str (Ub m))) []:=by
 have:=Ow m.toNat (by omega)
 rw[show((m.toNat:Nat):Int)=m by omega]at this
 exact this
theorem zR(k:Nat):(uZ k).length≤2:=by unfold uZ;split<;>simp
theorem K2(m:Int):(Ub m).size≤2:=by
 have:=zR m.toNat
 simpa[Ub,ByteArray.size]using this
def yn(l:List Int):List UInt8:=l.flatMap fun m=>uZ m.toNat++[32]
def lv(l:List Int):ByteArray:=⟨(yn l).toArray⟩
theorem PD{a b:ByteArray}(h:a.data.toList=b.data.toList):a=b:=by
 obtain⟨⟨a⟩⟩:=a
 obtain⟨⟨b⟩⟩:=b
 simp at h;rw[h]
theorem Ij(l:List Int)(m:Int):lv l++Ub m++⟨#[32]⟩=lv (l++[m]):=by
 apply PD
 simp[lv,yn,Ub]
theorem CP:∀l:List Int,(yn l).length≤3 * l.length
 |[]=>by simp[yn]
 |m::l=>by
  have h1:=zR m.toNat
  have h2:=CP l
  simp only[yn,ef,au,cd,lH]at h2⊢
  omega
theorem Ik(l:List Int):(lv l).size≤3 * l.length:=by
 have:=CP l
 simpa[lv,ByteArray.size]using this
def lD(l:List Int):Prop:=∀a∈l,0≤a∧a < 100
theorem CQ:∀{l m:List Int},lD l→lD m→yn l=yn m→l=m
 |[],[],_,_,_=>rfl
 |[],y::m,_,_,h=>by
  have:=congrArg List.length h
  simp[yn]at this
 |x::l,[],_,_,h=>by
  have:=congrArg List.length h
  simp[yn]at this
 |x::l,y::m,h1,h2,h=>by
  obtain⟨a0,a1⟩:=h1 x ah
  obtain⟨b0,b1⟩:=h2 y ah
  simp only[yn,ef,bf,List.singleton_append]at h
  obtain⟨e1,e2⟩:=zf (Dz (show x.toNat < 100 by omega)) (Dz (show y.toNat < 100 by omega)) (show JG (32::_)from Or.inl rfl) (show JG (32::_)from Or.inl rfl) h
  injection e2 with _ e2
  have e3:=Mf (show x.toNat < 100 by omega) (show y.toNat < 100 by omega) e1
  rw[CQ (fun z hz=>h1 z (ab _ hz)) (fun z hz=>h2 z (ab _ hz)) e2,show x=y by omega]
theorem CS{l m:List Int}(h1:lD l)(h2:lD m)(h:lv l=lv m):l=m:=by
 apply CQ h1 h2
 have:=congrArg (fun b:ByteArray=>b.data.toList) h
 simpa[lv]using this
theorem KZ{S:List (List Int)}(hS:∀m∈S,lD m){l:List Int}(hl:lD l):lv l∈S.map lv↔l∈S:=by
 constructor
 ·intro h
  obtain⟨m,hm,e⟩:=aL.1 h
  rw[←CS (hS m hm) hl e];exact hm
 ·exact fun h=>bp h
theorem GI{α β:Type}[BEq α][LawfulBEq α][DecidableEq β](f:α→β):∀{S:List α} {l:α},l∈S→(∀m∈S,f m=f l→m=l)→(S.map f).idxOf (f l)=S.idxOf l
 |[],_,h,_=>by cases h
 |m::S,l,h,hi=>by
  rw[bN,qb,qb]
  by_cases e:m=l
  ·subst e;simp
  ·have e2:f m≠f l:=fun q=>e (hi m ah q)
   have e3:(f m==f l)=false:=by simpa using e2
   have e4:(m==l)=false:=by simpa using e
   rw[e3,e4,cond_false,cond_false,GI f ((ae.1 h).resolve_left (fun q=>e q.symm)) fun x hx=>hi x (ab _ hx)]
theorem K0{S:List (List Int)}(hS:∀m∈S,lD m){l:List Int}(hl:lD l)(h:l∈S):EV (S.map lv) (lv l)=S.idxOf l:=by
 unfold EV
 rw[if_pos (bp h)]
 exact GI lv h fun m hm e=>CS (hS m hm) hl e
theorem Ol{a b:ByteArray}(h:a=b):BL (.v (.one (.c (.str a)))) (.v (.one (.c (.str b)))):=by subst h;exact .refl _
theorem T9(l:List Int)(hl:l.length≤1000)(hs:lD l):er Tryz.prog 100 [] [C1 (ch l)] (Rv (.str (lv l))) []:=by
 refine bn (c:=_) Tryz.func100 rfl rfl rfl (by decide) fun w M0 H Z=>?_
 repeat'(first|refine aA ?_|(refine aB ?_ ?_<;>first|exact aD|(refine aE ?_;intro hb))|fail)
 refine bE (fun k:Nat=>k≤l.length)
  (fun k=>[(3,.v (C1 (.str (lv (l.take k))))),(6,.v (C1 (ch l))),(7,.v (C1 (.int .i64 (l.length:Int)))),(8,.v (C1 (.int .i64 (k:Int))))])
  (fun _=>[]) (fun k=>l.length - k) 0 (aF _)
  (aH (h1:=by exact⟨⟨_,rfl,Ol J⟩,⟨_,rfl,.refl _⟩,⟨_,rfl,eM (by simp)⟩,⟨_,rfl,eM J⟩,trivial⟩)) (fun k hk ih=>?_)
 by_cases bj:k < l.length
 ·have hx:(l.map fun r=>[CT.int .i64 r])[k]? =some [.int .i64 l[k]]:=by simp[bj]
  obtain⟨h0,h1⟩:=hs _ (an bj)
  have h2:=Ik (l.take k)
  have h3:=K2 l[k]
  rw[aO]at h2
  have cT:=ih (k+1) bj (by omega)
  rw[al bj,←Ij]at cT
  repeat'(first|refine aA ?_|(refine aB ?_ ?_<;>first|exact aD|(refine aE ?_;intro hb))|((first|refine bO th J J J J J J J J J k _ J hx ?_|refine aR (Ov l[k] h0 h1) [] J J J J J J J J J J ?_);refine ao th J ?_)|(refine Gh J J J J J J (by first|omega|(simp only[ByteArray.size_append,show(ByteArray.mk #[32]).size=1 from rfl];omega)) ?_;refine ao th J ?_)|(refine bH J J J J J J (by omega) ?_;refine ao th J ?_))
  exact aS cT
 ·have gv:k=l.length:=by omega
  subst gv
  rw[bq]
  repeat'(first|refine aA ?_|(refine aB ?_ ?_<;>first|exact aD|(refine aE ?_;intro hb))|refine aZ th Tryz.func100 (.inr ⟨_,rfl⟩) J J J ?_ rfl)
  all_goals exact .refl _
end Go.Sy
