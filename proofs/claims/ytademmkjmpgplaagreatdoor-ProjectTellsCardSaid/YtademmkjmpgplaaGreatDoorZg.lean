/- Contracts of the reference: head, find, labels, carried. -/
import Derived.Test.YtademmkjmpgplaaGreatDoorZf
import Derived.Test.YtademmkjmpgplaaGreatDoorZd
import Derived.Test.YtademmkjmpgplaaGreatDoorMj3
set_option linter.unusedSimpArgs false
set_option linter.unusedVariables false
set_option linter.unusedSectionVars false
namespace Go.Sy
open Go.Proofs
set_option maxRecDepth 100000
attribute [local irreducible] SOps Goes DOps EOps FOps GOps
section
variable {C:Ctx} {n:Nat} {tm tm0:TM} {mm:MM} {L l:List Oper} {T:TM→Prop} {o:Oper} {d:Nat}
theorem d_neCarR{t':Nat}{x y:Operand}{a a':Int}{b b':ByteArray}(hP:C.P=Tryz.prog)(ho:o.op=.binOp .neq 56 x y t')
 (hx:evalV (Q9 (GZ L o) tm) x=some (.agg [.c (.int .i64 a),.c (.str b)]))(hy:evalV (Q9 (GZ L o) tm) y=some (.agg [.c (.int .i64 a'),.c (.str b')]))(hd:o.dst=some d)(hn:Nat.blt d n=true)(hg:QG L (Q9 (GZ L o) tm) o=some true)
 (k:DOps C n mm L tm0 l ((d,.v (.one (.c (.bool (!decide ((a,b)=(a',b')))))))::QY tm d) T):DOps C n mm L tm0 (o::l) tm T:=
 d_step (op_neCar hP ho hx hy hd hn) hg k
end
def hdAt(p:Prt)(role:ByteArray)(set:List Int)(k:Nat):Int×ByteArray:=if k=0 then(0,⟨#[]⟩)else headX role (Q5 p (set.getD (k - 1) 0))
def headE(p:Prt)(role:ByteArray)(set:List Int):(Int×ByteArray)×Int:=
 if set.any (fun x=>decide (headX role (Q5 p x)≠headX role (Q5 p (set.getD 0 0))))then((0,⟨#[]⟩),802)else(headX role (Q5 p (set.getD 0 0)),0)
abbrev headT(r:(Int×ByteArray)×Int):ST:=.tup [C1 (.int .i64 r.1.1),C1 (.str r.1.2),C1 (.int .i64 r.2)]
theorem getD_at{l:List Int}{k:Nat}(h:k < l.length):l.getD k 0=l[k]:=by rw[List.getD_eq_getElem?_getD,List.getElem?_eq_getElem h];rfl
set_option maxHeartbeats 16000000 in
theorem headR_c(p:Prt)(role:ByteArray)(v:Value)(S:List (List Int))(set:List Int)(hr:∀x∈set,0≤x∧x < (p.points.length:Int))(hne:0 < set.length)(hsl:set.length≤1000):
 ConM Tryz.prog 90 (workM p role v S) [.one (.ptr G7 0),C1 (intsT set)] (fun _:Unit=>True) (fun _=>headT (headE p role set)) (fun _=>workM p role v S):=by
 refine conM_of (c:=_) Tryz.func90 rfl rfl rfl (by decide) rfl fun w M0 H Z hd=>?_
 repeat'(first|refine gc_ rfl ?_|(refine G1 ?_;refine G0 th rfl ?_)|(refine G9 mix rfl rfl ?_;refine G3 th rfl ?_)|(refine G5 mix rfl rfl ?_;refine GJ th rfl ?_)|refine G2 ?_|refine G4 ?_|refine G6 ?_ rfl rfl|((first|refine G8 rfl rfl ?_ ?_|refine GG rfl rfl rfl ?_ ?_|refine Q1 rfl ?_ ?_)<;>intro hb<;>(try simp only[hbL]at hb)<;>first|(exfalso;omega)|refine G0 th rfl ?_|refine G3 th rfl ?_|skip))
 refine J8 (fun k:Nat=>k≤set.length∧∀j (h:j < set.length),j < k→headX role (Q5 p set[j])=headX role (Q5 p (set.getD 0 0)))
  (fun k=>[(0,.v (.one (.ptr G7 0))),(1,.v (C1 (intsT set))),(7,.v (C1 (.int .i64 (hdAt p role set k).1))),(8,.v (C1 (.str (hdAt p role set k).2))),(9,.v (C1 (.int .i64 (k:Int))))])
  (fun _=>workM p role v S)
  (fun k=>set.length - k) 0 ⟨Nat.zero_le _,fun j _ h=>by omega⟩
  (fun a w h=>h.sub (by exact⟨⟨_,rfl,.refl _⟩,⟨_,rfl,.refl _⟩,⟨_,rfl,.refl _⟩,⟨_,rfl,.refl _⟩,⟨_,rfl,GY rfl⟩,trivial⟩) (by exact⟨⟨_,rfl,.refl _⟩,⟨_,rfl,.refl _⟩,trivial⟩) rfl rfl rfl) (fun k hk ih=>?_)
 obtain⟨hk,ha⟩:=hk
 by_cases hlt:k < set.length
 ·have hx:(set.map fun r=>[CT.int .i64 r])[k]? =some [.int .i64 set[k]]:=by simp[hlt]
  have hxr:=hr _ (List.getElem_mem hlt)
  have hxp:=pntAt_get hxr
  have hsuc:hdAt p role set (k+1)=headX role (Q5 p set[k]):=by unfold hdAt;rw[if_neg (by omega),Nat.add_sub_cancel,getD_at hlt]
  have hprev:0 < k→hdAt p role set k=headX role (Q5 p (set.getD 0 0)):=fun h0=>by
   unfold hdAt
   rw[if_neg (by omega),getD_at (by omega)]
   exact ha (k - 1) (by omega) (by omega)
  by_cases hgo:0 < k→headX role (Q5 p set[k])=hdAt p role set k
  ·have hih:=ih (k+1) ⟨hlt,fun j h hj=>by
    by_cases hjk:j=k
    ·subst hjk
     by_cases h0:0 < j
     ·rw[hgo h0,hprev h0]
     ·have:j=0:=by omega
      subst this
      rw[getD_at hne]
    ·exact ha j h (by omega)⟩ (by omega)
   rw[hsuc]at hih
   have hgo1:0 < (k:Int)→(headX role (Q5 p set[k])).1=(hdAt p role set k).1∧(headX role (Q5 p set[k])).2=(hdAt p role set k).2:=fun h0=>by rw[hgo (by omega)];exact⟨rfl,rfl⟩
   clear ih ha hsuc hprev hgo
   generalize hdAt p role set k=c at *
   obtain⟨ck,cp⟩:=c
   generalize Q5 p set[k]=y at hxp hih hgo1
   generalize set[k]=z at hx hxr hxp
   by_cases hto:y.to=role
   ·rw[show headX role y=(2,y.from_)from if_pos hto]at hih hgo1
    simp only at hgo1
    repeat'(first|refine gc_ rfl ?_|(refine G1 ?_;refine G0 th rfl ?_)|(refine G9 mix rfl rfl ?_;refine G3 th rfl ?_)|(refine G5 mix rfl rfl ?_;refine GJ th rfl ?_)|refine G2 ?_|refine G4 ?_|refine G6 ?_ rfl rfl|((first|refine G8 rfl rfl ?_ ?_|refine GG rfl rfl rfl ?_ ?_|refine Q1 rfl ?_ ?_)<;>intro hb<;>(try simp only[hbL]at hb)<;>first|(exfalso;omega)|refine G0 th rfl ?_|refine G3 th rfl ?_|skip)|((first|refine e_idx th rfl rfl rfl rfl rfl rfl rfl rfl rfl k _ rfl hx ?_|refine e_idx th rfl rfl rfl rfl rfl rfl rfl rfl rfl z.toNat _ (by omega) hxp ?_);refine GJ th rfl ?_)|(refine QW rfl rfl rfl rfl rfl rfl (by omega) ?_;refine G0 th rfl ?_))
    all_goals first|(exfalso;simp only[List.length_map]at hb;omega)|(exfalso;contradiction)|(exfalso;exact(by assumption:¬_=_) (hgo1 (by assumption)).1)|(exfalso;exact(by assumption:¬_=_) (hgo1 (by assumption)).2)|exact QK (by exact⟨⟨_,rfl,.refl _⟩,⟨_,rfl,.refl _⟩,⟨_,rfl,.refl _⟩,⟨_,rfl,.refl _⟩,⟨_,rfl,GY (by omega)⟩,trivial⟩) (by exact⟨⟨_,rfl,.refl _⟩,⟨_,rfl,.refl _⟩,trivial⟩) rfl rfl rfl hih
   ·rw[show headX role y=(1,y.to)from if_neg hto]at hih hgo1
    simp only at hgo1
    repeat'(first|refine gc_ rfl ?_|(refine G1 ?_;refine G0 th rfl ?_)|(refine G9 mix rfl rfl ?_;refine G3 th rfl ?_)|(refine G5 mix rfl rfl ?_;refine GJ th rfl ?_)|refine G2 ?_|refine G4 ?_|refine G6 ?_ rfl rfl|((first|refine G8 rfl rfl ?_ ?_|refine GG rfl rfl rfl ?_ ?_|refine Q1 rfl ?_ ?_)<;>intro hb<;>(try simp only[hbL]at hb)<;>first|(exfalso;omega)|refine G0 th rfl ?_|refine G3 th rfl ?_|skip)|((first|refine e_idx th rfl rfl rfl rfl rfl rfl rfl rfl rfl k _ rfl hx ?_|refine e_idx th rfl rfl rfl rfl rfl rfl rfl rfl rfl z.toNat _ (by omega) hxp ?_);refine GJ th rfl ?_)|(refine QW rfl rfl rfl rfl rfl rfl (by omega) ?_;refine G0 th rfl ?_))
    all_goals first|(exfalso;simp only[List.length_map]at hb;omega)|(exfalso;contradiction)|(exfalso;exact(by assumption:¬_=_) (hgo1 (by assumption)).1)|(exfalso;exact(by assumption:¬_=_) (hgo1 (by assumption)).2)|exact QK (by exact⟨⟨_,rfl,.refl _⟩,⟨_,rfl,.refl _⟩,⟨_,rfl,.refl _⟩,⟨_,rfl,.refl _⟩,⟨_,rfl,GY (by omega)⟩,trivial⟩) (by exact⟨⟨_,rfl,.refl _⟩,⟨_,rfl,.refl _⟩,trivial⟩) rfl rfl rfl hih
  ·have h0:0 < k:=by
    rcases Nat.eq_zero_or_pos k with h|h
    ·exact absurd (fun h1=>by omega) hgo
    ·exact h
   have hne2:headX role (Q5 p set[k])≠hdAt p role set k:=fun e=>hgo fun _=>e
   have he:headE p role set=((0,⟨#[]⟩),802):=by
    unfold headE
    rw[if_pos (List.any_eq_true.2 ⟨set[k],List.getElem_mem hlt,decide_eq_true (by rw[←hprev h0];exact hne2)⟩)]
   rw[he]
   have hgo1:(headX role (Q5 p set[k])).1=(hdAt p role set k).1→¬(headX role (Q5 p set[k])).2=(hdAt p role set k).2:=fun h1 h2=>hne2 (Prod.ext h1 h2)
   clear ih ha hsuc hprev hgo he hne2
   generalize hdAt p role set k=c at *
   obtain⟨ck,cp⟩:=c
   generalize Q5 p set[k]=y at hxp hgo1
   generalize set[k]=z at hx hxr hxp
   by_cases hto:y.to=role
   ·rw[show headX role y=(2,y.from_)from if_pos hto]at hgo1
    simp only at hgo1
    repeat'(first|refine gc_ rfl ?_|(refine G1 ?_;refine G0 th rfl ?_)|(refine G9 mix rfl rfl ?_;refine G3 th rfl ?_)|(refine G5 mix rfl rfl ?_;refine GJ th rfl ?_)|refine G2 ?_|refine G4 ?_|refine G6 ?_ rfl rfl|((first|refine G8 rfl rfl ?_ ?_|refine GG rfl rfl rfl ?_ ?_|refine Q1 rfl ?_ ?_)<;>intro hb<;>(try simp only[hbL]at hb)<;>first|(exfalso;omega)|refine G0 th rfl ?_|refine G3 th rfl ?_|skip)|((first|refine e_idx th rfl rfl rfl rfl rfl rfl rfl rfl rfl k _ rfl hx ?_|refine e_idx th rfl rfl rfl rfl rfl rfl rfl rfl rfl z.toNat _ (by omega) hxp ?_);refine GJ th rfl ?_)|(refine QW rfl rfl rfl rfl rfl rfl (by omega) ?_;refine G0 th rfl ?_))
    all_goals first|(exfalso;simp only[List.length_map]at hb;omega)|(exfalso;contradiction)|(exfalso;exact hgo1 (by assumption) (by assumption))|exact JW (hd:=hd) th Tryz.func90 () (.inr ⟨_,rfl⟩) rfl rfl rfl rfl ⟨rfl,rfl,trivial⟩ rfl rfl rfl trivial
   ·rw[show headX role y=(1,y.to)from if_neg hto]at hgo1
    simp only at hgo1
    repeat'(first|refine gc_ rfl ?_|(refine G1 ?_;refine G0 th rfl ?_)|(refine G9 mix rfl rfl ?_;refine G3 th rfl ?_)|(refine G5 mix rfl rfl ?_;refine GJ th rfl ?_)|refine G2 ?_|refine G4 ?_|refine G6 ?_ rfl rfl|((first|refine G8 rfl rfl ?_ ?_|refine GG rfl rfl rfl ?_ ?_|refine Q1 rfl ?_ ?_)<;>intro hb<;>(try simp only[hbL]at hb)<;>first|(exfalso;omega)|refine G0 th rfl ?_|refine G3 th rfl ?_|skip)|((first|refine e_idx th rfl rfl rfl rfl rfl rfl rfl rfl rfl k _ rfl hx ?_|refine e_idx th rfl rfl rfl rfl rfl rfl rfl rfl rfl z.toNat _ (by omega) hxp ?_);refine GJ th rfl ?_)|(refine QW rfl rfl rfl rfl rfl rfl (by omega) ?_;refine G0 th rfl ?_))
    all_goals first|(exfalso;simp only[List.length_map]at hb;omega)|(exfalso;contradiction)|(exfalso;exact hgo1 (by assumption) (by assumption))|exact JW (hd:=hd) th Tryz.func90 () (.inr ⟨_,rfl⟩) rfl rfl rfl rfl ⟨rfl,rfl,trivial⟩ rfl rfl rfl trivial
 ·have hke:k=set.length:=by omega
  have he:headE p role set=(hdAt p role set k,0):=by
   unfold headE
   rw[if_neg (by
    rw[List.any_eq_true]
    rintro⟨x,hx,h⟩
    obtain⟨j,hj,rfl⟩:=List.mem_iff_getElem.1 hx
    exact of_decide_eq_true h (ha j hj (by omega)))]
   congr 1
   unfold hdAt
   rw[if_neg (by omega),getD_at (l:=set) (k:=k - 1) (by omega)]
   exact(ha (k - 1) (by omega) (by omega)).symm
  rw[he]
  clear ih ha he
  repeat'(first|refine gc_ rfl ?_|(refine G1 ?_;refine G0 th rfl ?_)|(refine G9 mix rfl rfl ?_;refine G3 th rfl ?_)|(refine G5 mix rfl rfl ?_;refine GJ th rfl ?_)|refine G2 ?_|refine G4 ?_|refine G6 ?_ rfl rfl|((first|refine G8 rfl rfl ?_ ?_|refine GG rfl rfl rfl ?_ ?_|refine Q1 rfl ?_ ?_)<;>intro hb<;>(try simp only[hbL]at hb)<;>first|(exfalso;omega)|refine G0 th rfl ?_|refine G3 th rfl ?_|skip))
  all_goals first|(exfalso;simp only[List.length_map]at hb;omega)|exact JW (hd:=hd) th Tryz.func90 () (.inr ⟨_,rfl⟩) rfl rfl rfl rfl ⟨rfl,rfl,trivial⟩ rfl rfl rfl trivial
def findI(l:List Arm)(s:ByteArray):Int:=idxG (fun a=>decide (a.label=s)) l
set_option maxHeartbeats 4000000 in
theorem findR_c(l:List Arm)(s:ByteArray):Con Tryz.prog 121 [] [C1 (armsC l),C1 (.str s)] (Rv (.int .i64 (findI l s))) []:=by
 refine J2 (c:=_) Tryz.func121 rfl rfl rfl (by decide) fun w M0 H Z=>?_
 refine g_len 0 rfl fun hll=>?_
 simp only[List.length_map]at hll
 repeat'(first|refine gc_ rfl ?_|(refine G1 ?_;refine G0 th rfl ?_)|(refine G9 mix rfl rfl ?_;refine G3 th rfl ?_)|(refine G5 mix rfl rfl ?_;refine GJ th rfl ?_)|refine G2 ?_|refine G4 ?_|refine G6 ?_ rfl rfl|((first|refine G8 rfl rfl ?_ ?_|refine GG rfl rfl rfl ?_ ?_|refine Q1 rfl ?_ ?_)<;>intro hb<;>(try simp only[hbL]at hb)<;>first|(exfalso;omega)|refine G0 th rfl ?_|refine G3 th rfl ?_|skip))
 refine J8 (fun k:Nat=>k≤l.length∧∀i (h:i < k) (h':i < l.length),decide (l[i].label=s)=false)
  (fun k=>[(0,.v (C1 (armsC l))),(0+1,.v (C1 (.str s))),(5,.v (C1 (.int .i64 (k:Int))))])
  (fun _=>[]) (fun k=>l.length - k) 0 ⟨Nat.zero_le _,fun i h=>by omega⟩
  (fun a w h=>h.sub (by exact⟨⟨_,rfl,.refl _⟩,⟨_,rfl,.refl _⟩,⟨_,rfl,GY rfl⟩,trivial⟩) (by exact trivial) rfl rfl rfl) (fun k hk ih=>?_)
 obtain⟨hk,ha⟩:=hk
 by_cases hlt:k < l.length
 ·have hx:(l.map Arm.cs)[k]? =some (l[k]).cs:=by simp[hlt]
  repeat'(first|refine gc_ rfl ?_|(refine G1 ?_;refine G0 th rfl ?_)|(refine G9 mix rfl rfl ?_;refine G3 th rfl ?_)|(refine G5 mix rfl rfl ?_;refine GJ th rfl ?_)|refine G2 ?_|refine G4 ?_|refine G6 ?_ rfl rfl|((first|refine G8 rfl rfl ?_ ?_|refine GG rfl rfl rfl ?_ ?_|refine Q1 rfl ?_ ?_)<;>intro hb<;>(try simp only[hbL]at hb)<;>first|(exfalso;omega)|refine G0 th rfl ?_|refine G3 th rfl ?_|skip)|refine QQ th Tryz.func121 (.inr ⟨_,rfl⟩) rfl rfl rfl ?_ rfl|((first|refine K2 th rfl rfl rfl rfl rfl rfl rfl rfl rfl k _ rfl hx ?_|refine QW rfl rfl rfl rfl rfl rfl (by omega) ?_);refine G0 th rfl ?_))
  ·rw[show findI l s=(k:Int)from idxG_hit hlt (fun i h=>ha i h (by omega)) (by simpa using hb)]
   exact .refl _
  ·exact QK (by exact⟨⟨_,rfl,.refl _⟩,⟨_,rfl,.refl _⟩,⟨_,rfl,GY (by omega)⟩,trivial⟩) (by exact trivial) rfl rfl rfl (ih (k+1) ⟨hlt,fun i h h'=>by
    by_cases hik:i=k
    ·subst hik;simpa using hb
    ·exact ha i (by omega) h'⟩ (by omega))
 ·have hke:k=l.length:=by omega
  subst hke
  repeat'(first|refine gc_ rfl ?_|(refine G1 ?_;refine G0 th rfl ?_)|(refine G9 mix rfl rfl ?_;refine G3 th rfl ?_)|(refine G5 mix rfl rfl ?_;refine GJ th rfl ?_)|refine G2 ?_|refine G4 ?_|refine G6 ?_ rfl rfl|((first|refine G8 rfl rfl ?_ ?_|refine GG rfl rfl rfl ?_ ?_|refine Q1 rfl ?_ ?_)<;>intro hb<;>(try simp only[hbL]at hb)<;>first|(exfalso;omega)|refine G0 th rfl ?_|refine G3 th rfl ?_|skip)|refine QQ th Tryz.func121 (.inr ⟨_,rfl⟩) rfl rfl rfl ?_ rfl)
  rw[show findI l s=-1 from idxG_none (fun i h=>ha i h h)]
  exact .refl _
theorem findI_cases(l:List Arm)(s:ByteArray):(findI l s=-1∧findA l s=none)∨∃k:Nat,∃h:k < l.length,findI l s=(k:Int)∧findA l s=some l[k]:=by
 unfold findI idxG findA
 cases hf:l.findIdx? (fun a=>decide (a.label=s))with
 |none=>
  refine .inl ⟨rfl,?_⟩
  rw[List.findIdx?_eq_none_iff]at hf
  rw[List.find?_eq_none]
  exact fun a ha=>by rw[hf a ha];simp
 |some k=>
  rw[List.findIdx?_eq_some_iff_getElem]at hf
  obtain⟨h1,h2,h3⟩:=hf
  refine .inr ⟨k,h1,rfl,?_⟩
  rw[List.find?_eq_some_iff_getElem]
  exact⟨h2,k,h1,rfl,fun j hj=>by have:=h3 j hj;simpa using this⟩
end Go.Sy
